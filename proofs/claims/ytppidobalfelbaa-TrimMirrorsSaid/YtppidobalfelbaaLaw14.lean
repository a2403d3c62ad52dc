/-
  The walks of the statements of layer 14. Conditions: none.
-/
import Derived.Test.YtppidobalfelbaaRef14
import Derived.Test.YtppidobalfelbaaTrim3
namespace Go.Proofs.Ytppidobalfelbaa
open Go Go.RowKit Go.Proofs.YtppidobalfelbaaSym

def shipS : Ship := ⟨⟨#[115]⟩, 2, 1, 1, 99, 1, 1, 1, 99⟩
def loadsS : List Load := [⟨⟨0, 0, 0⟩, ⟨#[]⟩, 6, 0, 0⟩, ⟨⟨1, 0, 0⟩, ⟨#[]⟩, 4, 0, 0⟩]
theorem fitsS : fits shipS loadsS = true := by decide

theorem awake_calls (w : World) : Does Try.prog 7 [] w (Ret w (.bool true)) := by
  refine calls_J (ys := []) Try.func7 rfl Try.ntmps7 rfl ?_
  refine J.at_ (S := St w [] []) ?_ (St.start w)
  repeat' (first
    | refine JE.pure rfl rfl (by conv => lhs; whnf) rfl ?_
    | refine JE.skip rfl rfl ?_
    | (refine JE.kBin ?_; first | (refine JE.int rfl rfl rfl rfl rfl rfl ?_; with_reducible refine JE.waysD (fun _ => ?_) (fun _ => ?_)) | refine JE.int rfl rfl rfl rfl (by rw [i64_id (by omega)]) rfl ?_ | refine JE.int rfl rfl rfl rfl rfl rfl ?_ | refine JE.eqBool rfl rfl rfl (by conv => lhs; whnf) rfl ?_ | refine JE.neBool rfl rfl rfl (by conv => lhs; whnf) rfl ?_ | (refine JE.eqStr rfl rfl rfl rfl ?_; with_reducible refine JE.waysD (fun _ => ?_) (fun _ => ?_)) | (refine JE.neStr rfl rfl rfl rfl ?_; with_reducible refine JE.waysD (fun _ => ?_) (fun _ => ?_)))
    | (refine JE.kField ?_; refine JE.fieldAddr rfl rfl rfl ?_)
    | (refine JE.kLoad ?_; first | refine JE.load1 rfl rfl (by repeat (first | exact In.head | refine In.tail ?_)) rfl (by conv => lhs; whnf) (fun _ => by first | trivial | exact ⟨.inr ‹_›, trivial⟩ | exact ⟨.inl (by kernel_rfl), trivial⟩ | exact ⟨.inr ‹_›, .inr ‹_›, trivial⟩ | exact ⟨.inl (by kernel_rfl), .inl (by kernel_rfl), trivial⟩) rfl ?_ | refine JE.loadAll rfl rfl (by repeat (first | exact In.head | refine In.tail ?_)) (by rfl) (fun _ => by first | trivial | exact ⟨.inr ‹_›, trivial⟩ | exact ⟨.inl (by kernel_rfl), trivial⟩ | exact ⟨.inr ‹_›, .inr ‹_›, trivial⟩ | exact ⟨.inl (by kernel_rfl), .inl (by kernel_rfl), trivial⟩) rfl ?_ | refine JE.loadN rfl rfl (by repeat (first | exact In.head | refine In.tail ?_)) (by conv => lhs; whnf) (by rfl) (fun _ => by first | trivial | exact ⟨.inr ‹_›, trivial⟩ | exact ⟨.inl (by kernel_rfl), trivial⟩ | exact ⟨.inr ‹_›, .inr ‹_›, trivial⟩ | exact ⟨.inl (by kernel_rfl), .inl (by kernel_rfl), trivial⟩) rfl ?_)
    | (refine JE.kBox ?_; refine JE.box rfl (by conv => lhs; whnf) rfl (fun _ _ => ?_))
    | (refine JE.kAlloc ?_; refine JE.alloc rfl (by conv => lhs; whnf) rfl (fun _ _ => ?_))
    | (refine JE.kStore ?_; refine JE.store rfl rfl (by repeat (first | exact Turn.head | apply Turn.tail)) SizeT.size (by repeat (first | exact NfL.nil rfl | apply NfL.cons (by exact rfl) (by conv => lhs; whnf))) (by rfl) (by rfl) (by rfl) (by repeat (first | exact NfL.nil rfl | apply NfL.cons (by exact rfl) (by conv => lhs; whnf))) (by first | trivial | exact List.mem_cons_self | exact List.mem_cons_of_mem _ List.mem_cons_self) rfl ?_)
    | (refine JE.kBuiltin ?_; first | refine JE.lenSl rfl rfl rfl ?_ | refine JE.lenStr rfl rfl rfl ?_ | refine JE.max2 rfl rfl rfl rfl rfl ?_ | refine JE.min2 rfl rfl rfl rfl rfl ?_)
    | (refine JE.kBuild ?_; refine JE.build rfl rfl (by repeat (first | exact NfL.nil rfl | apply NfL.cons (by exact rfl) (by conv => lhs; whnf))) rfl ?_)
    | (refine JE.kBuildSlice ?_; refine JE.buildSlice rfl rfl rfl (by conv => lhs; whnf) (by rfl) (by rfl) (by repeat (first | exact NfL.nil rfl | apply NfL.cons (by exact rfl) (by conv => lhs; whnf))) rfl (fun _ _ => ?_))
    | (refine JE.kRange ?_; refine JE.rangeStr rfl rfl rfl (fun _ _ => ?_))
    | with_reducible refine JE.sN ?_
    | with_reducible refine JE.sX ?_
    | with_reducible refine JE.dN ?_
    | with_reducible refine JE.dX ?_
    | with_reducible refine J.seq ?_
    | with_reducible refine J.region ?_
    | refine J.condT rfl ?_
    | refine J.condF rfl ?_
    | with_reducible refine J.skip ?_
    | with_reducible refine J.exit ?_
    | with_reducible refine J.block ?_
    | with_reducible refine J.ret ?_
    | with_reducible refine JX.thenN ?_
    | with_reducible refine JX.thenR ?_
    | with_reducible refine JX.thenE ?_
    | with_reducible refine JX.blkS ?_
    | (with_reducible refine JX.blkE ?_ ?_; exact rfl)
    | with_reducible refine JX.blkN ?_
    | with_reducible refine JX.blkR ?_
    | (refine JE.isF 9 ?_; refine JE.call rfl rfl (by repeat (first | exact NfL.nil rfl | apply NfL.cons (by exact rfl) (by conv => lhs; whnf))) rfl ?_; refine CallG.ret (fun w hS => Moments_calls shipS _ loadsS w (Sl.flat (k := 7) (enc := encLoad) (fun _ => rfl) loadsS w _ _ 2 _ (hS.own _ (.head _)) ⟨[], rfl⟩) (by decide) fitsS) ?_))
  · refine fnQ_tmp (.inl rfl) rfl (by conv => lhs; whnf) fun w' hS => ⟨?_, hS.below⟩
    rfl
  all_goals exfalso
  all_goals simp_all [show moms shipS loadsS = ⟨-2, 0, 0, 10⟩ from rfl]

/-! ### Moments of parts -/
def Mom.add (a b : Mom) : Mom := ⟨a.long + b.long, a.cross + b.cross, a.up + b.up, a.weight + b.weight⟩
theorem foldl_add (s : Ship) : ∀ (xs : List Load) (m : Mom), xs.foldl (mstep s) m = m.add (moms s xs)
  | [], m => by simp [Mom.add, moms]
  | x :: r, m => by
    have e1 := foldl_add s r (mstep s m x)
    have e2 := foldl_add s r (mstep s ⟨0, 0, 0, 0⟩ x)
    simp only [moms, List.foldl_cons] at *
    rw [e1, e2]
    simp only [Mom.add, mstep, Mom.mk.injEq]
    omega
theorem moms_append (s : Ship) (xs ys : List Load) : moms s (xs ++ ys) = (moms s xs).add (moms s ys) := by
  rw [moms, List.foldl_append, foldl_add]; rfl
theorem fits_perm {s : Ship} {xs ys : List Load} (h : fits s xs = true) (hp : ys.Perm xs) : fits s ys = true := by
  simp only [fits, fitsL, Bool.and_eq_true, decide_eq_true_eq, List.all_eq_true] at h ⊢
  exact ⟨h.1, by rw [hp.length_eq]; exact h.2.1, fun x hx => h.2.2.1 x (hp.subset hx), (hp.map _).nodup_iff.2 h.2.2.2⟩
theorem fits_sub {s : Ship} {xs ys : List Load} (h : fits s xs = true) (hp : List.Sublist ys xs) : fits s ys = true := by
  simp only [fits, fitsL, Bool.and_eq_true, decide_eq_true_eq, List.all_eq_true] at h ⊢
  exact ⟨h.1, Nat.le_trans hp.length_le h.2.1, fun x hx => h.2.2.1 x (hp.subset hx), h.2.2.2.sublist (hp.map _)⟩
set_option maxHeartbeats 2000000 in
theorem Parts_calls (s : Ship) (hz : s.name.size ≤ 9223372036854775807) (a : Option Addr) (c : Nat) (xs : List Load) (at' : Int) (w : World) (hs : Sl 7 encLoad w (.slice a xs.length c) xs) (hx : xs.length ≤ 9223372036854775807) (hc : xs.length ≤ c) :
    Does Try.prog 3 [.agg (encShip s).toArray, .slice a xs.length c, .int .i64 at'] w (Ret w (.bool true)) := by
  refine calls_J (ys := [.agg (encShip s).toArray, .slice a xs.length c, .int .i64 at']) Try.func3 rfl Try.ntmps3 rfl ?_
  refine J.at_ (S := St w [] []) ?_ (St.start w)
  by_cases h0 : at' < 0
  · skip
    repeat' (first
      | refine JE.pure rfl rfl (by conv => lhs; whnf) rfl ?_
      | refine JE.skip rfl rfl ?_
      | (refine JE.kBin ?_; first | (refine JE.int rfl rfl rfl rfl rfl rfl ?_; with_reducible refine JE.waysD (fun _ => ?_) (fun _ => ?_)) | refine JE.int rfl rfl rfl rfl (by rw [i64_id (by omega)]) rfl ?_ | refine JE.int rfl rfl rfl rfl rfl rfl ?_ | refine JE.eqBool rfl rfl rfl (by conv => lhs; whnf) rfl ?_ | refine JE.neBool rfl rfl rfl (by conv => lhs; whnf) rfl ?_ | (refine JE.eqStr rfl rfl rfl rfl ?_; with_reducible refine JE.waysD (fun _ => ?_) (fun _ => ?_)) | (refine JE.neStr rfl rfl rfl rfl ?_; with_reducible refine JE.waysD (fun _ => ?_) (fun _ => ?_)))
      | (refine JE.kField ?_; refine JE.fieldAddr rfl rfl rfl ?_)
      | (refine JE.kLoad ?_; first | refine JE.load1 rfl rfl (by repeat (first | exact In.head | refine In.tail ?_)) rfl (by conv => lhs; whnf) (fun _ => by first | trivial | exact ⟨.inr ‹_›, trivial⟩ | exact ⟨.inl (by kernel_rfl), trivial⟩ | exact ⟨.inr ‹_›, .inr ‹_›, trivial⟩ | exact ⟨.inl (by kernel_rfl), .inl (by kernel_rfl), trivial⟩) rfl ?_ | refine JE.loadAll rfl rfl (by repeat (first | exact In.head | refine In.tail ?_)) (by rfl) (fun _ => by first | trivial | exact ⟨.inr ‹_›, trivial⟩ | exact ⟨.inl (by kernel_rfl), trivial⟩ | exact ⟨.inr ‹_›, .inr ‹_›, trivial⟩ | exact ⟨.inl (by kernel_rfl), .inl (by kernel_rfl), trivial⟩) rfl ?_ | refine JE.loadN rfl rfl (by repeat (first | exact In.head | refine In.tail ?_)) (by conv => lhs; whnf) (by rfl) (fun _ => by first | trivial | exact ⟨.inr ‹_›, trivial⟩ | exact ⟨.inl (by kernel_rfl), trivial⟩ | exact ⟨.inr ‹_›, .inr ‹_›, trivial⟩ | exact ⟨.inl (by kernel_rfl), .inl (by kernel_rfl), trivial⟩) rfl ?_)
      | (refine JE.kBox ?_; refine JE.box rfl (by conv => lhs; whnf) rfl (fun _ _ => ?_))
      | (refine JE.kAlloc ?_; refine JE.alloc rfl (by conv => lhs; whnf) rfl (fun _ _ => ?_))
      | (refine JE.kStore ?_; refine JE.store rfl rfl (by repeat (first | exact Turn.head | apply Turn.tail)) SizeT.size (by repeat (first | exact NfL.nil rfl | apply NfL.cons (by exact rfl) (by conv => lhs; whnf))) (by rfl) (by rfl) (by rfl) (by repeat (first | exact NfL.nil rfl | apply NfL.cons (by exact rfl) (by conv => lhs; whnf))) (by first | trivial | exact List.mem_cons_self | exact List.mem_cons_of_mem _ List.mem_cons_self) rfl ?_)
      | (refine JE.kBuiltin ?_; first | refine JE.lenSl rfl rfl rfl ?_ | refine JE.lenStr rfl rfl rfl ?_ | refine JE.max2 rfl rfl rfl rfl rfl ?_ | refine JE.min2 rfl rfl rfl rfl rfl ?_)
      | (refine JE.kBuild ?_; refine JE.build rfl rfl (by repeat (first | exact NfL.nil rfl | apply NfL.cons (by exact rfl) (by conv => lhs; whnf))) rfl ?_)
      | (refine JE.kBuildSlice ?_; refine JE.buildSlice rfl rfl rfl (by conv => lhs; whnf) (by rfl) (by rfl) (by repeat (first | exact NfL.nil rfl | apply NfL.cons (by exact rfl) (by conv => lhs; whnf))) rfl (fun _ _ => ?_))
      | (refine JE.kRange ?_; refine JE.rangeStr rfl rfl rfl (fun _ _ => ?_))
      | with_reducible refine JE.sN ?_
      | with_reducible refine JE.sX ?_
      | with_reducible refine JE.dN ?_
      | with_reducible refine JE.dX ?_
      | with_reducible refine J.seq ?_
      | with_reducible refine J.region ?_
      | refine J.condT rfl ?_
      | refine J.condF rfl ?_
      | with_reducible refine J.skip ?_
      | with_reducible refine J.exit ?_
      | with_reducible refine J.block ?_
      | with_reducible refine J.ret ?_
      | with_reducible refine JX.thenN ?_
      | with_reducible refine JX.thenR ?_
      | with_reducible refine JX.thenE ?_
      | with_reducible refine JX.blkS ?_
      | (with_reducible refine JX.blkE ?_ ?_; exact rfl)
      | with_reducible refine JX.blkN ?_
      | with_reducible refine JX.blkR ?_
      | (refine JE.isF 7 ?_; refine JE.call rfl rfl (by repeat (first | exact NfL.nil rfl | apply NfL.cons (by exact rfl) (by conv => lhs; whnf))) rfl ?_; refine CallG.ret (fun w hS => awake_calls w) ?_))
    all_goals first | (exfalso; omega) | skip
    all_goals refine fnQ_tmp (.inl rfl) rfl (by conv => lhs; whnf) fun w' hS => ⟨?_, hS.below⟩
    all_goals rfl
  obtain ⟨n, rfl⟩ := Int.eq_ofNat_of_zero_le (Int.not_lt.1 h0)
  by_cases hn : xs.length < n
  · skip
    repeat' (first
      | refine JE.pure rfl rfl (by conv => lhs; whnf) rfl ?_
      | refine JE.skip rfl rfl ?_
      | (refine JE.kBin ?_; first | (refine JE.int rfl rfl rfl rfl rfl rfl ?_; with_reducible refine JE.waysD (fun _ => ?_) (fun _ => ?_)) | refine JE.int rfl rfl rfl rfl (by rw [i64_id (by omega)]) rfl ?_ | refine JE.int rfl rfl rfl rfl rfl rfl ?_ | refine JE.eqBool rfl rfl rfl (by conv => lhs; whnf) rfl ?_ | refine JE.neBool rfl rfl rfl (by conv => lhs; whnf) rfl ?_ | (refine JE.eqStr rfl rfl rfl rfl ?_; with_reducible refine JE.waysD (fun _ => ?_) (fun _ => ?_)) | (refine JE.neStr rfl rfl rfl rfl ?_; with_reducible refine JE.waysD (fun _ => ?_) (fun _ => ?_)))
      | (refine JE.kField ?_; refine JE.fieldAddr rfl rfl rfl ?_)
      | (refine JE.kLoad ?_; first | refine JE.load1 rfl rfl (by repeat (first | exact In.head | refine In.tail ?_)) rfl (by conv => lhs; whnf) (fun _ => by first | trivial | exact ⟨.inr ‹_›, trivial⟩ | exact ⟨.inl (by kernel_rfl), trivial⟩ | exact ⟨.inr ‹_›, .inr ‹_›, trivial⟩ | exact ⟨.inl (by kernel_rfl), .inl (by kernel_rfl), trivial⟩) rfl ?_ | refine JE.loadAll rfl rfl (by repeat (first | exact In.head | refine In.tail ?_)) (by rfl) (fun _ => by first | trivial | exact ⟨.inr ‹_›, trivial⟩ | exact ⟨.inl (by kernel_rfl), trivial⟩ | exact ⟨.inr ‹_›, .inr ‹_›, trivial⟩ | exact ⟨.inl (by kernel_rfl), .inl (by kernel_rfl), trivial⟩) rfl ?_ | refine JE.loadN rfl rfl (by repeat (first | exact In.head | refine In.tail ?_)) (by conv => lhs; whnf) (by rfl) (fun _ => by first | trivial | exact ⟨.inr ‹_›, trivial⟩ | exact ⟨.inl (by kernel_rfl), trivial⟩ | exact ⟨.inr ‹_›, .inr ‹_›, trivial⟩ | exact ⟨.inl (by kernel_rfl), .inl (by kernel_rfl), trivial⟩) rfl ?_)
      | (refine JE.kBox ?_; refine JE.box rfl (by conv => lhs; whnf) rfl (fun _ _ => ?_))
      | (refine JE.kAlloc ?_; refine JE.alloc rfl (by conv => lhs; whnf) rfl (fun _ _ => ?_))
      | (refine JE.kStore ?_; refine JE.store rfl rfl (by repeat (first | exact Turn.head | apply Turn.tail)) SizeT.size (by repeat (first | exact NfL.nil rfl | apply NfL.cons (by exact rfl) (by conv => lhs; whnf))) (by rfl) (by rfl) (by rfl) (by repeat (first | exact NfL.nil rfl | apply NfL.cons (by exact rfl) (by conv => lhs; whnf))) (by first | trivial | exact List.mem_cons_self | exact List.mem_cons_of_mem _ List.mem_cons_self) rfl ?_)
      | (refine JE.kBuiltin ?_; first | refine JE.lenSl rfl rfl rfl ?_ | refine JE.lenStr rfl rfl rfl ?_ | refine JE.max2 rfl rfl rfl rfl rfl ?_ | refine JE.min2 rfl rfl rfl rfl rfl ?_)
      | (refine JE.kBuild ?_; refine JE.build rfl rfl (by repeat (first | exact NfL.nil rfl | apply NfL.cons (by exact rfl) (by conv => lhs; whnf))) rfl ?_)
      | (refine JE.kBuildSlice ?_; refine JE.buildSlice rfl rfl rfl (by conv => lhs; whnf) (by rfl) (by rfl) (by repeat (first | exact NfL.nil rfl | apply NfL.cons (by exact rfl) (by conv => lhs; whnf))) rfl (fun _ _ => ?_))
      | (refine JE.kRange ?_; refine JE.rangeStr rfl rfl rfl (fun _ _ => ?_))
      | with_reducible refine JE.sN ?_
      | with_reducible refine JE.sX ?_
      | with_reducible refine JE.dN ?_
      | with_reducible refine JE.dX ?_
      | with_reducible refine J.seq ?_
      | with_reducible refine J.region ?_
      | refine J.condT rfl ?_
      | refine J.condF rfl ?_
      | with_reducible refine J.skip ?_
      | with_reducible refine J.exit ?_
      | with_reducible refine J.block ?_
      | with_reducible refine J.ret ?_
      | with_reducible refine JX.thenN ?_
      | with_reducible refine JX.thenR ?_
      | with_reducible refine JX.thenE ?_
      | with_reducible refine JX.blkS ?_
      | (with_reducible refine JX.blkE ?_ ?_; exact rfl)
      | with_reducible refine JX.blkN ?_
      | with_reducible refine JX.blkR ?_
      | (refine JE.isF 7 ?_; refine JE.call rfl rfl (by repeat (first | exact NfL.nil rfl | apply NfL.cons (by exact rfl) (by conv => lhs; whnf))) rfl ?_; refine CallG.ret (fun w hS => awake_calls w) ?_))
    all_goals first | (exfalso; omega) | skip
    all_goals refine fnQ_tmp (.inl rfl) rfl (by conv => lhs; whnf) fun w' hS => ⟨?_, hS.below⟩
    all_goals rfl
  cases hfit : fits s xs with
  | false =>
    repeat' (first
      | refine JE.pure rfl rfl (by conv => lhs; whnf) rfl ?_
      | refine JE.skip rfl rfl ?_
      | (refine JE.kBin ?_; first | (refine JE.int rfl rfl rfl rfl rfl rfl ?_; with_reducible refine JE.waysD (fun _ => ?_) (fun _ => ?_)) | refine JE.int rfl rfl rfl rfl (by rw [i64_id (by omega)]) rfl ?_ | refine JE.int rfl rfl rfl rfl rfl rfl ?_ | refine JE.eqBool rfl rfl rfl (by conv => lhs; whnf) rfl ?_ | refine JE.neBool rfl rfl rfl (by conv => lhs; whnf) rfl ?_ | (refine JE.eqStr rfl rfl rfl rfl ?_; with_reducible refine JE.waysD (fun _ => ?_) (fun _ => ?_)) | (refine JE.neStr rfl rfl rfl rfl ?_; with_reducible refine JE.waysD (fun _ => ?_) (fun _ => ?_)))
      | (refine JE.kField ?_; refine JE.fieldAddr rfl rfl rfl ?_)
      | (refine JE.kLoad ?_; first | refine JE.load1 rfl rfl (by repeat (first | exact In.head | refine In.tail ?_)) rfl (by conv => lhs; whnf) (fun _ => by first | trivial | exact ⟨.inr ‹_›, trivial⟩ | exact ⟨.inl (by kernel_rfl), trivial⟩ | exact ⟨.inr ‹_›, .inr ‹_›, trivial⟩ | exact ⟨.inl (by kernel_rfl), .inl (by kernel_rfl), trivial⟩) rfl ?_ | refine JE.loadAll rfl rfl (by repeat (first | exact In.head | refine In.tail ?_)) (by rfl) (fun _ => by first | trivial | exact ⟨.inr ‹_›, trivial⟩ | exact ⟨.inl (by kernel_rfl), trivial⟩ | exact ⟨.inr ‹_›, .inr ‹_›, trivial⟩ | exact ⟨.inl (by kernel_rfl), .inl (by kernel_rfl), trivial⟩) rfl ?_ | refine JE.loadN rfl rfl (by repeat (first | exact In.head | refine In.tail ?_)) (by conv => lhs; whnf) (by rfl) (fun _ => by first | trivial | exact ⟨.inr ‹_›, trivial⟩ | exact ⟨.inl (by kernel_rfl), trivial⟩ | exact ⟨.inr ‹_›, .inr ‹_›, trivial⟩ | exact ⟨.inl (by kernel_rfl), .inl (by kernel_rfl), trivial⟩) rfl ?_)
      | (refine JE.kBox ?_; refine JE.box rfl (by conv => lhs; whnf) rfl (fun _ _ => ?_))
      | (refine JE.kAlloc ?_; refine JE.alloc rfl (by conv => lhs; whnf) rfl (fun _ _ => ?_))
      | (refine JE.kStore ?_; refine JE.store rfl rfl (by repeat (first | exact Turn.head | apply Turn.tail)) SizeT.size (by repeat (first | exact NfL.nil rfl | apply NfL.cons (by exact rfl) (by conv => lhs; whnf))) (by rfl) (by rfl) (by rfl) (by repeat (first | exact NfL.nil rfl | apply NfL.cons (by exact rfl) (by conv => lhs; whnf))) (by first | trivial | exact List.mem_cons_self | exact List.mem_cons_of_mem _ List.mem_cons_self) rfl ?_)
      | (refine JE.kBuiltin ?_; first | refine JE.lenSl rfl rfl rfl ?_ | refine JE.lenStr rfl rfl rfl ?_ | refine JE.max2 rfl rfl rfl rfl rfl ?_ | refine JE.min2 rfl rfl rfl rfl rfl ?_)
      | (refine JE.kBuild ?_; refine JE.build rfl rfl (by repeat (first | exact NfL.nil rfl | apply NfL.cons (by exact rfl) (by conv => lhs; whnf))) rfl ?_)
      | (refine JE.kBuildSlice ?_; refine JE.buildSlice rfl rfl rfl (by conv => lhs; whnf) (by rfl) (by rfl) (by repeat (first | exact NfL.nil rfl | apply NfL.cons (by exact rfl) (by conv => lhs; whnf))) rfl (fun _ _ => ?_))
      | (refine JE.kRange ?_; refine JE.rangeStr rfl rfl rfl (fun _ _ => ?_))
      | with_reducible refine JE.sN ?_
      | with_reducible refine JE.sX ?_
      | with_reducible refine JE.dN ?_
      | with_reducible refine JE.dX ?_
      | with_reducible refine J.seq ?_
      | with_reducible refine J.region ?_
      | refine J.condT rfl ?_
      | refine J.condF rfl ?_
      | with_reducible refine J.skip ?_
      | with_reducible refine J.exit ?_
      | with_reducible refine J.block ?_
      | with_reducible refine J.ret ?_
      | with_reducible refine JX.thenN ?_
      | with_reducible refine JX.thenR ?_
      | with_reducible refine JX.thenE ?_
      | with_reducible refine JX.blkS ?_
      | (with_reducible refine JX.blkE ?_ ?_; exact rfl)
      | with_reducible refine JX.blkN ?_
      | with_reducible refine JX.blkR ?_
      | (refine JE.isF 7 ?_; refine JE.call rfl rfl (by repeat (first | exact NfL.nil rfl | apply NfL.cons (by exact rfl) (by conv => lhs; whnf))) rfl ?_; refine CallG.ret (fun w hS => awake_calls w) ?_)
      | (refine JE.isF 8 ?_; refine JE.call rfl rfl (by repeat (first | exact NfL.nil rfl | apply NfL.cons (by exact rfl) (by conv => lhs; whnf))) rfl ?_; refine CallG.ret (fun w hS => hfit ▸ Fit_calls s hz _ xs w (hs.below hS.below) hx) ?_))
    all_goals first | (exfalso; omega) | skip
    all_goals refine fnQ_tmp (.inl rfl) rfl (by conv => lhs; whnf) fun w' hS => ⟨?_, hS.below⟩
    all_goals rfl
  | true =>
    have hD : ((xs.take xs.length).drop n).length = xs.length - n := by simp
    have hT : ((xs.take n).drop 0).length = n := by simp; omega
    have eD : (xs.take xs.length).drop n = xs.drop n := by simp
    have eT : (xs.take n).drop 0 = xs.take n := by simp
    have e1 : moms s xs = (moms s ((xs.take n).drop 0)).add (moms s ((xs.take xs.length).drop n)) := by rw [eD, eT, ← moms_append, List.take_append_drop]
    have e2 : moms s ((xs.take xs.length).drop n ++ (xs.take n).drop 0) = (moms s ((xs.take n).drop 0)).add (moms s ((xs.take xs.length).drop n)) := by rw [moms_append]; simp only [Mom.add, Mom.mk.injEq]; omega
    have f1 : fits s ((xs.take n).drop 0) = true := by rw [eT]; exact fits_sub hfit (List.take_sublist n xs)
    have f2 : fits s ((xs.take xs.length).drop n) = true := by rw [eD]; exact fits_sub hfit (List.drop_sublist n xs)
    have f3 : fits s ((xs.take xs.length).drop n ++ (xs.take n).drop 0) = true := by rw [eD, eT]; exact fits_perm hfit (by have := List.perm_append_comm (l₁ := xs.drop n) (l₂ := xs.take n); rwa [List.take_append_drop] at this)
    obtain ⟨a1, a2, a3, a4⟩ := moms_mb f1
    obtain ⟨b1, b2, b3, b4⟩ := moms_mb f2
    have M1 := fun w v hs hx => Moments_calls s v xs w hs hx hfit
    rw [e1] at M1
    have M2 := fun w v hs hx => Moments_calls s v _ w hs hx f1
    have M3 := fun w v hs hx => Moments_calls s v _ w hs hx f2
    have M4 := fun w v hs hx => Moments_calls s v _ w hs hx f3
    rw [e2] at M4
    generalize moms s ((xs.take n).drop 0) = m1 at *
    generalize moms s ((xs.take xs.length).drop n) = m2 at *
    clear e1 e2 eD eT f1 f2 f3
    generalize hTe : (xs.take n).drop 0 = T at *
    generalize hDe : (xs.take xs.length).drop n = D at *
    repeat' (first
      | refine JE.pure rfl rfl (by conv => lhs; whnf) rfl ?_
      | refine JE.skip rfl rfl ?_
      | (refine JE.kBin ?_; first | (refine JE.int rfl rfl rfl rfl rfl rfl ?_; with_reducible refine JE.waysD (fun _ => ?_) (fun _ => ?_)) | refine JE.int rfl rfl rfl rfl (by rw [i64_id (by omega)]) rfl ?_ | refine JE.int rfl rfl rfl rfl rfl rfl ?_ | refine JE.eqBool rfl rfl rfl (by conv => lhs; whnf) rfl ?_ | refine JE.neBool rfl rfl rfl (by conv => lhs; whnf) rfl ?_ | (refine JE.eqStr rfl rfl rfl rfl ?_; with_reducible refine JE.waysD (fun _ => ?_) (fun _ => ?_)) | (refine JE.neStr rfl rfl rfl rfl ?_; with_reducible refine JE.waysD (fun _ => ?_) (fun _ => ?_)))
      | (refine JE.kField ?_; refine JE.fieldAddr rfl rfl rfl ?_)
      | (refine JE.kLoad ?_; first | refine JE.load1 rfl rfl (by repeat (first | exact In.head | refine In.tail ?_)) rfl (by conv => lhs; whnf) (fun _ => by first | trivial | exact ⟨.inr ‹_›, trivial⟩ | exact ⟨.inl (by kernel_rfl), trivial⟩ | exact ⟨.inr ‹_›, .inr ‹_›, trivial⟩ | exact ⟨.inl (by kernel_rfl), .inl (by kernel_rfl), trivial⟩) rfl ?_ | refine JE.loadAll rfl rfl (by repeat (first | exact In.head | refine In.tail ?_)) (by rfl) (fun _ => by first | trivial | exact ⟨.inr ‹_›, trivial⟩ | exact ⟨.inl (by kernel_rfl), trivial⟩ | exact ⟨.inr ‹_›, .inr ‹_›, trivial⟩ | exact ⟨.inl (by kernel_rfl), .inl (by kernel_rfl), trivial⟩) rfl ?_ | refine JE.loadN rfl rfl (by repeat (first | exact In.head | refine In.tail ?_)) (by conv => lhs; whnf) (by rfl) (fun _ => by first | trivial | exact ⟨.inr ‹_›, trivial⟩ | exact ⟨.inl (by kernel_rfl), trivial⟩ | exact ⟨.inr ‹_›, .inr ‹_›, trivial⟩ | exact ⟨.inl (by kernel_rfl), .inl (by kernel_rfl), trivial⟩) rfl ?_)
      | (refine JE.kBox ?_; refine JE.box rfl (by conv => lhs; whnf) rfl (fun _ _ => ?_))
      | (refine JE.kAlloc ?_; refine JE.alloc rfl (by conv => lhs; whnf) rfl (fun _ _ => ?_))
      | (refine JE.kStore ?_; refine JE.store rfl rfl (by repeat (first | exact Turn.head | apply Turn.tail)) SizeT.size (by repeat (first | exact NfL.nil rfl | apply NfL.cons (by exact rfl) (by conv => lhs; whnf))) (by rfl) (by rfl) (by rfl) (by repeat (first | exact NfL.nil rfl | apply NfL.cons (by exact rfl) (by conv => lhs; whnf))) (by first | trivial | exact List.mem_cons_self | exact List.mem_cons_of_mem _ List.mem_cons_self) rfl ?_)
      | (refine JE.kBuiltin ?_; first | refine JE.lenSl rfl rfl rfl ?_ | refine JE.lenStr rfl rfl rfl ?_ | refine JE.max2 rfl rfl rfl rfl rfl ?_ | refine JE.min2 rfl rfl rfl rfl rfl ?_)
      | (refine JE.kBuild ?_; refine JE.build rfl rfl (by repeat (first | exact NfL.nil rfl | apply NfL.cons (by exact rfl) (by conv => lhs; whnf))) rfl ?_)
      | (refine JE.kBuildSlice ?_; refine JE.buildSlice rfl rfl rfl (by conv => lhs; whnf) (by rfl) (by rfl) (by repeat (first | exact NfL.nil rfl | apply NfL.cons (by exact rfl) (by conv => lhs; whnf))) rfl (fun _ _ => ?_))
      | (refine JE.kRange ?_; refine JE.rangeStr rfl rfl rfl (fun _ _ => ?_))
      | with_reducible refine JE.sN ?_
      | with_reducible refine JE.sX ?_
      | with_reducible refine JE.dN ?_
      | with_reducible refine JE.dX ?_
      | with_reducible refine J.seq ?_
      | with_reducible refine J.region ?_
      | refine J.condT rfl ?_
      | refine J.condF rfl ?_
      | with_reducible refine J.skip ?_
      | with_reducible refine J.exit ?_
      | with_reducible refine J.block ?_
      | with_reducible refine J.ret ?_
      | with_reducible refine JX.thenN ?_
      | with_reducible refine JX.thenR ?_
      | with_reducible refine JX.thenE ?_
      | with_reducible refine JX.blkS ?_
      | (with_reducible refine JX.blkE ?_ ?_; exact rfl)
      | with_reducible refine JX.blkN ?_
      | with_reducible refine JX.blkR ?_
      | (refine JE.isF 7 ?_; refine JE.call rfl rfl (by repeat (first | exact NfL.nil rfl | apply NfL.cons (by exact rfl) (by conv => lhs; whnf))) rfl ?_; refine CallG.ret (fun w hS => awake_calls w) ?_)
      | (refine JE.isF 8 ?_; refine JE.call rfl rfl (by repeat (first | exact NfL.nil rfl | apply NfL.cons (by exact rfl) (by conv => lhs; whnf))) rfl ?_; refine CallG.ret (fun w hS => hfit ▸ Fit_calls s hz _ xs w (hs.below hS.below) hx) ?_))
    all_goals first | (exfalso; omega) | skip
    all_goals try (first | (refine fnQ_tmp (.inl rfl) rfl (by conv => lhs; whnf) fun w' hS => ⟨?_, hS.below⟩; rfl))
    repeat' (first
      | refine JE.pure rfl rfl (by conv => lhs; whnf) rfl ?_
      | refine JE.skip rfl rfl ?_
      | (refine JE.kBin ?_; first | (refine JE.int rfl rfl rfl rfl rfl rfl ?_; with_reducible refine JE.waysD (fun _ => ?_) (fun _ => ?_)) | refine JE.int rfl rfl rfl rfl (by rw [i64_id (by omega)]) rfl ?_ | refine JE.int rfl rfl rfl rfl rfl rfl ?_ | refine JE.eqBool rfl rfl rfl (by conv => lhs; whnf) rfl ?_ | refine JE.neBool rfl rfl rfl (by conv => lhs; whnf) rfl ?_ | (refine JE.eqStr rfl rfl rfl rfl ?_; with_reducible refine JE.waysD (fun _ => ?_) (fun _ => ?_)) | (refine JE.neStr rfl rfl rfl rfl ?_; with_reducible refine JE.waysD (fun _ => ?_) (fun _ => ?_)))
      | (refine JE.kField ?_; refine JE.fieldAddr rfl rfl rfl ?_)
      | (refine JE.kLoad ?_; first | refine JE.load1 rfl rfl (by repeat (first | exact In.head | refine In.tail ?_)) rfl (by conv => lhs; whnf) (fun _ => by first | trivial | exact ⟨.inr ‹_›, trivial⟩ | exact ⟨.inl (by kernel_rfl), trivial⟩ | exact ⟨.inr ‹_›, .inr ‹_›, trivial⟩ | exact ⟨.inl (by kernel_rfl), .inl (by kernel_rfl), trivial⟩) rfl ?_ | refine JE.loadAll rfl rfl (by repeat (first | exact In.head | refine In.tail ?_)) (by rfl) (fun _ => by first | trivial | exact ⟨.inr ‹_›, trivial⟩ | exact ⟨.inl (by kernel_rfl), trivial⟩ | exact ⟨.inr ‹_›, .inr ‹_›, trivial⟩ | exact ⟨.inl (by kernel_rfl), .inl (by kernel_rfl), trivial⟩) rfl ?_ | refine JE.loadN rfl rfl (by repeat (first | exact In.head | refine In.tail ?_)) (by conv => lhs; whnf) (by rfl) (fun _ => by first | trivial | exact ⟨.inr ‹_›, trivial⟩ | exact ⟨.inl (by kernel_rfl), trivial⟩ | exact ⟨.inr ‹_›, .inr ‹_›, trivial⟩ | exact ⟨.inl (by kernel_rfl), .inl (by kernel_rfl), trivial⟩) rfl ?_)
      | (refine JE.kBox ?_; refine JE.box rfl (by conv => lhs; whnf) rfl (fun _ _ => ?_))
      | (refine JE.kAlloc ?_; refine JE.alloc rfl (by conv => lhs; whnf) rfl (fun _ _ => ?_))
      | (refine JE.kStore ?_; refine JE.store rfl rfl (by repeat (first | exact Turn.head | apply Turn.tail)) SizeT.size (by repeat (first | exact NfL.nil rfl | apply NfL.cons (by exact rfl) (by conv => lhs; whnf))) (by rfl) (by rfl) (by rfl) (by repeat (first | exact NfL.nil rfl | apply NfL.cons (by exact rfl) (by conv => lhs; whnf))) (by first | trivial | exact List.mem_cons_self | exact List.mem_cons_of_mem _ List.mem_cons_self) rfl ?_)
      | (refine JE.kBuiltin ?_; first | refine JE.lenSl rfl rfl rfl ?_ | refine JE.lenStr rfl rfl rfl ?_ | refine JE.max2 rfl rfl rfl rfl rfl ?_ | refine JE.min2 rfl rfl rfl rfl rfl ?_)
      | (refine JE.kBuild ?_; refine JE.build rfl rfl (by repeat (first | exact NfL.nil rfl | apply NfL.cons (by exact rfl) (by conv => lhs; whnf))) rfl ?_)
      | (refine JE.kBuildSlice ?_; refine JE.buildSlice rfl rfl rfl (by conv => lhs; whnf) (by rfl) (by rfl) (by repeat (first | exact NfL.nil rfl | apply NfL.cons (by exact rfl) (by conv => lhs; whnf))) rfl (fun _ _ => ?_))
      | (refine JE.kRange ?_; refine JE.rangeStr rfl rfl rfl (fun _ _ => ?_))
      | with_reducible refine JE.sN ?_
      | with_reducible refine JE.sX ?_
      | with_reducible refine JE.dN ?_
      | with_reducible refine JE.dX ?_
      | with_reducible refine J.seq ?_
      | with_reducible refine J.region ?_
      | refine J.condT rfl ?_
      | refine J.condF rfl ?_
      | with_reducible refine J.skip ?_
      | with_reducible refine J.exit ?_
      | with_reducible refine J.block ?_
      | with_reducible refine J.ret ?_
      | with_reducible refine JX.thenN ?_
      | with_reducible refine JX.thenR ?_
      | with_reducible refine JX.thenE ?_
      | with_reducible refine JX.blkS ?_
      | (with_reducible refine JX.blkE ?_ ?_; exact rfl)
      | with_reducible refine JX.blkN ?_
      | with_reducible refine JX.blkR ?_
      | (refine JE.isF 9 ?_; refine JE.call rfl rfl (by repeat (first | exact NfL.nil rfl | apply NfL.cons (by exact rfl) (by conv => lhs; whnf))) rfl ?_; refine CallG.ret (fun w hS => M1 w _ (hs.below hS.below) hx) ?_)
      | (refine JE.isF 9 ?_; refine JE.call rfl rfl (by repeat (first | exact NfL.nil rfl | apply NfL.cons (by exact rfl) (by conv => lhs; whnf))) rfl ?_; refine CallG.ret (fun w hS => M2 w _ (h1.below hS.below) (by omega)) ?_)
      | (refine JE.isF 9 ?_; refine JE.call rfl rfl (by repeat (first | exact NfL.nil rfl | apply NfL.cons (by exact rfl) (by conv => lhs; whnf))) rfl ?_; refine CallG.ret (fun w hS => M3 w _ (h2.below hS.below) (by omega)) ?_)
      | (refine JE.isF 9 ?_; refine JE.call rfl rfl (by repeat (first | exact NfL.nil rfl | apply NfL.cons (by exact rfl) (by conv => lhs; whnf))) rfl ?_; refine CallG.ret (fun w hS => M4 w _ (OwnC.sl2 (k := 7) (enc := encLoad) (fun _ => rfl) ho2 (hS.own _ (.head _))) (by simp; omega)) ?_)
      | (refine J.isR 6 ?_; refine J.draw [(0,true),(1,true),(2,true),(3,true),(4,false),(5,true),(6,true),(7,true),(8,true),(9,true),(10,true),(11,true),(12,true),(13,true)] [] mixed (by kernel_rfl) (fun _ h => h.drew) ?_)
      | (refine J.isR 7 ?_; refine J.draw [(0,true),(1,true),(2,true),(3,true),(4,false),(5,true),(6,true),(7,true),(8,true),(9,true),(10,true),(11,true),(12,true),(13,true)] [] mixed (by kernel_rfl) (fun _ h => h.drew) ?_)
      | (refine J.isR 8 ?_; refine J.drawL [(1,true),(2,true),(3,true),(5,true),(6,true),(7,true),(0,false),(4,false),(8,false),(9,true)] mixed (by kernel_rfl) (fun _ h => h.drew) ?_)
      | (refine JE.kSlice ?_; refine JE.slice (W := w) (xs := xs) (p := 0) (q := n) rfl rfl rfl ⟨_, rfl⟩ (by omega) (by omega) hc hs rfl (fun a1 h1 => ?_); rw [hTe] at h1)
      | (refine JE.kSlice ?_; refine JE.slice (W := w) (xs := xs) (p := n) (q := xs.length) rfl rfl ⟨_, rfl⟩ rfl (by omega) (by omega) hc hs rfl (fun a2 h2 => ?_); rw [hDe] at h2)
      | (refine JE.kBuildSlice ?_; refine JE.buildSlice0 rfl rfl (fun B0 hB0 => ?_))
      | (refine JE.kBuiltin ?_; refine JE.append (enc := encLoad) (ys := D) rfl rfl (by repeat (first | exact Drop.head | apply Drop.tail)) rfl hB0 (OwnC.nil 7) (fun _ => rfl) (fun _ => rfl) (fun w hS => h2.below hS.below) (by omega) (by simp only [maxLen]; omega) (fun _ _ _ => trivial) rfl (fun B1 c1 cur1 hB1 ho1 => ?_))
      | (refine JE.kBuiltin ?_; refine JE.append (enc := encLoad) (ys := T) rfl rfl (by repeat (first | exact Drop.head | apply Drop.tail)) rfl hB1 ho1 (fun _ => rfl) (fun _ => rfl) (fun w hS => h1.below hS.below) (by omega) (by simp only [maxLen]; omega) (fun _ _ _ => trivial) rfl (fun B2 c2 cur2 hB2 ho2 => ?_)))
    all_goals first
      | (refine fnQ_tmp (.inl rfl) rfl (by conv => lhs; whnf) fun w' hS => ⟨?_, hS.below⟩; rfl)
      | (exfalso; simp only [Mom.add, not_true_eq_false] at *)

end Go.Proofs.Ytppidobalfelbaa
