/-
  The walks of layer 14: what fits a ship, and moments. Conditions: none.
-/
import Derived.Test.YtppidobalfelbaaSlotKey
namespace Go.Proofs.Ytppidobalfelbaa
open Go Go.RowKit Go.Proofs.YtppidobalfelbaaSym

def inside (n most : Int) : Bool := decide (0 ≤ n ∧ n < most)
theorem onF_calls (n most : Int) (w : World) : Does Try.prog 24 [.int .i64 n, .int .i64 most] w (Ret w (.bool (inside n most))) := by
  refine calls_J (ys := [.int .i64 n, .int .i64 most]) Try.func24 rfl Try.ntmps24 rfl ?_
  refine J.at_ (S := St w [] []) ?_ (St.start w)
  repeat' (first
    | refine JE.pure rfl rfl (by conv => lhs; whnf) rfl ?_
    | refine JE.skip rfl rfl ?_
    | (refine JE.kBin ?_; first | (refine JE.int rfl rfl rfl rfl rfl rfl ?_; with_reducible refine JE.waysD (fun _ => ?_) (fun _ => ?_)) | refine JE.int rfl rfl rfl rfl (by rw [i64_id (by omega)]) rfl ?_ | refine JE.int rfl rfl rfl rfl rfl rfl ?_ | refine JE.eqBool rfl rfl rfl (by conv => lhs; whnf) rfl ?_ | refine JE.neBool rfl rfl rfl (by conv => lhs; whnf) rfl ?_ | (refine JE.eqStr rfl rfl rfl rfl ?_; with_reducible refine JE.waysD (fun _ => ?_) (fun _ => ?_)) | (refine JE.neStr rfl rfl rfl rfl ?_; with_reducible refine JE.waysD (fun _ => ?_) (fun _ => ?_)))
    | (refine JE.kField ?_; refine JE.fieldAddr rfl rfl rfl ?_)
    | (refine JE.kLoad ?_; first | refine JE.load1 rfl rfl (by repeat (first | exact In.head | refine In.tail ?_)) rfl (by conv => lhs; whnf) (fun _ => by first | trivial | exact ⟨.inr ‹_›, trivial⟩ | exact ⟨.inl (by kernel_rfl), trivial⟩ | exact ⟨.inr ‹_›, .inr ‹_›, trivial⟩ | exact ⟨.inl (by kernel_rfl), .inl (by kernel_rfl), trivial⟩) rfl ?_ | refine JE.loadAll rfl rfl (by repeat (first | exact In.head | refine In.tail ?_)) (by rfl) (fun _ => by first | trivial | exact ⟨.inr ‹_›, trivial⟩ | exact ⟨.inl (by kernel_rfl), trivial⟩ | exact ⟨.inr ‹_›, .inr ‹_›, trivial⟩ | exact ⟨.inl (by kernel_rfl), .inl (by kernel_rfl), trivial⟩) rfl ?_ | refine JE.loadN rfl rfl (by repeat (first | exact In.head | refine In.tail ?_)) (by conv => lhs; whnf) (by rfl) (fun _ => by first | trivial | exact ⟨.inr ‹_›, trivial⟩ | exact ⟨.inl (by kernel_rfl), trivial⟩ | exact ⟨.inr ‹_›, .inr ‹_›, trivial⟩ | exact ⟨.inl (by kernel_rfl), .inl (by kernel_rfl), trivial⟩) rfl ?_)
    | (refine JE.kBox ?_; refine JE.box rfl (by conv => lhs; whnf) rfl (fun _ _ => ?_))
    | (refine JE.kAlloc ?_; refine JE.alloc rfl (by conv => lhs; whnf) rfl (fun _ _ => ?_))
    | (refine JE.kStore ?_; refine JE.store rfl rfl (by repeat (first | exact Turn.head | apply Turn.tail)) SizeT.size (by repeat (first | exact NfL.nil rfl | apply NfL.cons (by exact rfl) (by conv => lhs; whnf))) (by rfl) (by rfl) (by rfl) (by repeat (first | exact NfL.nil rfl | apply NfL.cons (by exact rfl) (by conv => lhs; whnf))) (by first | trivial | exact List.mem_cons_self | exact List.mem_cons_of_mem _ List.mem_cons_self) rfl ?_)
    | (refine JE.kBuiltin ?_; first | refine JE.lenSl rfl rfl rfl ?_ | refine JE.lenStr rfl rfl rfl ?_ | refine JE.max2 rfl rfl rfl rfl rfl ?_ | refine JE.min2 rfl rfl rfl rfl rfl ?_)
    | (refine JE.kBuild ?_; refine JE.build rfl rfl (by repeat (first | exact NfL.nil rfl | apply NfL.cons (by exact rfl) (by conv => lhs; whnf))) rfl ?_)
    | (refine JE.kBuildSlice ?_; refine JE.buildSlice rfl rfl rfl (by conv => lhs; whnf) (by rfl) (by rfl) (by repeat (first | exact NfL.nil rfl | apply NfL.cons (by exact rfl) (by conv => lhs; whnf))) rfl (fun _ _ => ?_))
    | (refine JE.kRange ?_; refine JE.rangeStr rfl rfl rfl (fun _ _ => ?_))
    | with_reducible refine JE.sN ?_
    | with_reducible refine JE.sX ?_
    | with_reducible refine JE.dN ?_
    | with_reducible refine JE.dX ?_
    | with_reducible refine J.seq ?_
    | with_reducible refine J.region ?_
    | refine J.condT rfl ?_
    | refine J.condF rfl ?_
    | with_reducible refine J.skip ?_
    | with_reducible refine J.exit ?_
    | with_reducible refine J.block ?_
    | with_reducible refine J.ret ?_
    | with_reducible refine JX.thenN ?_
    | with_reducible refine JX.thenR ?_
    | with_reducible refine JX.thenE ?_
    | with_reducible refine JX.blkS ?_
    | (with_reducible refine JX.blkE ?_ ?_; exact rfl)
    | with_reducible refine JX.blkN ?_
    | with_reducible refine JX.blkR ?_)
  all_goals refine fnQ_tmp (.inl rfl) rfl (by conv => lhs; whnf) fun w' hS => ⟨?_, hS.below⟩
  all_goals (first | (simp_all [inside]; done) | (simp_all [inside] <;> (intros; omega)))

def onShip (s : Ship) (x : Slot) : Bool := inside x.bay s.bays && (inside x.row s.rows && inside x.tier s.tiers)
theorem on_calls (s : Ship) (x : Slot) (w : World) : Does Try.prog 19 [.agg (encShip s).toArray, .agg (encSlot x).toArray] w (Ret w (.bool (onShip s x))) := by
  refine calls_J (ys := [.agg (encShip s).toArray, .agg (encSlot x).toArray]) Try.func19 rfl Try.ntmps19 rfl ?_
  refine J.at_ (S := St w [] []) ?_ (St.start w)
  repeat' (first
    | refine JE.pure rfl rfl (by conv => lhs; whnf) rfl ?_
    | refine JE.skip rfl rfl ?_
    | (refine JE.kBin ?_; first | (refine JE.int rfl rfl rfl rfl rfl rfl ?_; with_reducible refine JE.waysD (fun _ => ?_) (fun _ => ?_)) | refine JE.int rfl rfl rfl rfl (by rw [i64_id (by omega)]) rfl ?_ | refine JE.int rfl rfl rfl rfl rfl rfl ?_ | refine JE.eqBool rfl rfl rfl (by conv => lhs; whnf) rfl ?_ | refine JE.neBool rfl rfl rfl (by conv => lhs; whnf) rfl ?_ | (refine JE.eqStr rfl rfl rfl rfl ?_; with_reducible refine JE.waysD (fun _ => ?_) (fun _ => ?_)) | (refine JE.neStr rfl rfl rfl rfl ?_; with_reducible refine JE.waysD (fun _ => ?_) (fun _ => ?_)))
    | (refine JE.kField ?_; refine JE.fieldAddr rfl rfl rfl ?_)
    | (refine JE.kLoad ?_; first | refine JE.load1 rfl rfl (by repeat (first | exact In.head | refine In.tail ?_)) rfl (by conv => lhs; whnf) (fun _ => by first | trivial | exact ⟨.inr ‹_›, trivial⟩ | exact ⟨.inl (by kernel_rfl), trivial⟩ | exact ⟨.inr ‹_›, .inr ‹_›, trivial⟩ | exact ⟨.inl (by kernel_rfl), .inl (by kernel_rfl), trivial⟩) rfl ?_ | refine JE.loadAll rfl rfl (by repeat (first | exact In.head | refine In.tail ?_)) (by rfl) (fun _ => by first | trivial | exact ⟨.inr ‹_›, trivial⟩ | exact ⟨.inl (by kernel_rfl), trivial⟩ | exact ⟨.inr ‹_›, .inr ‹_›, trivial⟩ | exact ⟨.inl (by kernel_rfl), .inl (by kernel_rfl), trivial⟩) rfl ?_ | refine JE.loadN rfl rfl (by repeat (first | exact In.head | refine In.tail ?_)) (by conv => lhs; whnf) (by rfl) (fun _ => by first | trivial | exact ⟨.inr ‹_›, trivial⟩ | exact ⟨.inl (by kernel_rfl), trivial⟩ | exact ⟨.inr ‹_›, .inr ‹_›, trivial⟩ | exact ⟨.inl (by kernel_rfl), .inl (by kernel_rfl), trivial⟩) rfl ?_)
    | (refine JE.kBox ?_; refine JE.box rfl (by conv => lhs; whnf) rfl (fun _ _ => ?_))
    | (refine JE.kAlloc ?_; refine JE.alloc rfl (by conv => lhs; whnf) rfl (fun _ _ => ?_))
    | (refine JE.kStore ?_; refine JE.store rfl rfl (by repeat (first | exact Turn.head | apply Turn.tail)) SizeT.size (by repeat (first | exact NfL.nil rfl | apply NfL.cons (by exact rfl) (by conv => lhs; whnf))) (by rfl) (by rfl) (by rfl) (by repeat (first | exact NfL.nil rfl | apply NfL.cons (by exact rfl) (by conv => lhs; whnf))) (by first | trivial | exact List.mem_cons_self | exact List.mem_cons_of_mem _ List.mem_cons_self) rfl ?_)
    | (refine JE.kBuiltin ?_; first | refine JE.lenSl rfl rfl rfl ?_ | refine JE.lenStr rfl rfl rfl ?_ | refine JE.max2 rfl rfl rfl rfl rfl ?_ | refine JE.min2 rfl rfl rfl rfl rfl ?_)
    | (refine JE.kBuild ?_; refine JE.build rfl rfl (by repeat (first | exact NfL.nil rfl | apply NfL.cons (by exact rfl) (by conv => lhs; whnf))) rfl ?_)
    | (refine JE.kBuildSlice ?_; refine JE.buildSlice rfl rfl rfl (by conv => lhs; whnf) (by rfl) (by rfl) (by repeat (first | exact NfL.nil rfl | apply NfL.cons (by exact rfl) (by conv => lhs; whnf))) rfl (fun _ _ => ?_))
    | (refine JE.kRange ?_; refine JE.rangeStr rfl rfl rfl (fun _ _ => ?_))
    | with_reducible refine JE.sN ?_
    | with_reducible refine JE.sX ?_
    | with_reducible refine JE.dN ?_
    | with_reducible refine JE.dX ?_
    | with_reducible refine J.seq ?_
    | with_reducible refine J.region ?_
    | refine J.condT rfl ?_
    | refine J.condF rfl ?_
    | with_reducible refine J.skip ?_
    | with_reducible refine J.exit ?_
    | with_reducible refine J.block ?_
    | with_reducible refine J.ret ?_
    | with_reducible refine JX.thenN ?_
    | with_reducible refine JX.thenR ?_
    | with_reducible refine JX.thenE ?_
    | with_reducible refine JX.blkS ?_
    | (with_reducible refine JX.blkE ?_ ?_; exact rfl)
    | with_reducible refine JX.blkN ?_
    | with_reducible refine JX.blkR ?_
    | (refine JE.isV ?_; refine JE.call rfl rfl (by repeat (first | exact NfL.nil rfl | apply NfL.cons (by exact rfl) (by conv => lhs; whnf))) rfl ?_; refine CallG.ret (fun w hS => onF_calls _ _ w) ?_; with_reducible refine JE.ways (fun _ => ?_) (fun _ => ?_)))
  all_goals refine fnQ_tmp (.inl rfl) rfl (by conv => lhs; whnf) fun w' hS => ⟨?_, hS.below⟩
  all_goals simp_all [onShip]

theorem arm_calls (n many : Int) (w : World) (hn : -1048576 ≤ n ∧ n ≤ 1048576) (hm : -1048576 ≤ many ∧ many ≤ 1048576) : Does Try.prog 20 [.int .i64 n, .int .i64 many] w (Ret w (.int .i64 (2 * n - many + 1))) := by
  refine calls_J (ys := [.int .i64 n, .int .i64 many]) Try.func20 rfl Try.ntmps20 rfl ?_
  refine J.at_ (S := St w [] []) ?_ (St.start w)
  repeat' (first
    | refine JE.pure rfl rfl (by conv => lhs; whnf) rfl ?_
    | refine JE.skip rfl rfl ?_
    | (refine JE.kBin ?_; first | (refine JE.int rfl rfl rfl rfl rfl rfl ?_; with_reducible refine JE.waysD (fun _ => ?_) (fun _ => ?_)) | refine JE.int rfl rfl rfl rfl (by rw [i64_id (by omega)]) rfl ?_ | refine JE.int rfl rfl rfl rfl rfl rfl ?_ | refine JE.eqBool rfl rfl rfl (by conv => lhs; whnf) rfl ?_ | refine JE.neBool rfl rfl rfl (by conv => lhs; whnf) rfl ?_ | (refine JE.eqStr rfl rfl rfl rfl ?_; with_reducible refine JE.waysD (fun _ => ?_) (fun _ => ?_)) | (refine JE.neStr rfl rfl rfl rfl ?_; with_reducible refine JE.waysD (fun _ => ?_) (fun _ => ?_)))
    | (refine JE.kField ?_; refine JE.fieldAddr rfl rfl rfl ?_)
    | (refine JE.kLoad ?_; first | refine JE.load1 rfl rfl (by repeat (first | exact In.head | refine In.tail ?_)) rfl (by conv => lhs; whnf) (fun _ => by first | trivial | exact ⟨.inr ‹_›, trivial⟩ | exact ⟨.inl (by kernel_rfl), trivial⟩ | exact ⟨.inr ‹_›, .inr ‹_›, trivial⟩ | exact ⟨.inl (by kernel_rfl), .inl (by kernel_rfl), trivial⟩) rfl ?_ | refine JE.loadAll rfl rfl (by repeat (first | exact In.head | refine In.tail ?_)) (by rfl) (fun _ => by first | trivial | exact ⟨.inr ‹_›, trivial⟩ | exact ⟨.inl (by kernel_rfl), trivial⟩ | exact ⟨.inr ‹_›, .inr ‹_›, trivial⟩ | exact ⟨.inl (by kernel_rfl), .inl (by kernel_rfl), trivial⟩) rfl ?_ | refine JE.loadN rfl rfl (by repeat (first | exact In.head | refine In.tail ?_)) (by conv => lhs; whnf) (by rfl) (fun _ => by first | trivial | exact ⟨.inr ‹_›, trivial⟩ | exact ⟨.inl (by kernel_rfl), trivial⟩ | exact ⟨.inr ‹_›, .inr ‹_›, trivial⟩ | exact ⟨.inl (by kernel_rfl), .inl (by kernel_rfl), trivial⟩) rfl ?_)
    | (refine JE.kBox ?_; refine JE.box rfl (by conv => lhs; whnf) rfl (fun _ _ => ?_))
    | (refine JE.kAlloc ?_; refine JE.alloc rfl (by conv => lhs; whnf) rfl (fun _ _ => ?_))
    | (refine JE.kStore ?_; refine JE.store rfl rfl (by repeat (first | exact Turn.head | apply Turn.tail)) SizeT.size (by repeat (first | exact NfL.nil rfl | apply NfL.cons (by exact rfl) (by conv => lhs; whnf))) (by rfl) (by rfl) (by rfl) (by repeat (first | exact NfL.nil rfl | apply NfL.cons (by exact rfl) (by conv => lhs; whnf))) (by first | trivial | exact List.mem_cons_self | exact List.mem_cons_of_mem _ List.mem_cons_self) rfl ?_)
    | (refine JE.kBuiltin ?_; first | refine JE.lenSl rfl rfl rfl ?_ | refine JE.lenStr rfl rfl rfl ?_ | refine JE.max2 rfl rfl rfl rfl rfl ?_ | refine JE.min2 rfl rfl rfl rfl rfl ?_)
    | (refine JE.kBuild ?_; refine JE.build rfl rfl (by repeat (first | exact NfL.nil rfl | apply NfL.cons (by exact rfl) (by conv => lhs; whnf))) rfl ?_)
    | (refine JE.kBuildSlice ?_; refine JE.buildSlice rfl rfl rfl (by conv => lhs; whnf) (by rfl) (by rfl) (by repeat (first | exact NfL.nil rfl | apply NfL.cons (by exact rfl) (by conv => lhs; whnf))) rfl (fun _ _ => ?_))
    | (refine JE.kRange ?_; refine JE.rangeStr rfl rfl rfl (fun _ _ => ?_))
    | with_reducible refine JE.sN ?_
    | with_reducible refine JE.sX ?_
    | with_reducible refine JE.dN ?_
    | with_reducible refine JE.dX ?_
    | with_reducible refine J.seq ?_
    | with_reducible refine J.region ?_
    | refine J.condT rfl ?_
    | refine J.condF rfl ?_
    | with_reducible refine J.skip ?_
    | with_reducible refine J.exit ?_
    | with_reducible refine J.block ?_
    | with_reducible refine J.ret ?_
    | with_reducible refine JX.thenN ?_
    | with_reducible refine JX.thenR ?_
    | with_reducible refine JX.thenE ?_
    | with_reducible refine JX.blkS ?_
    | (with_reducible refine JX.blkE ?_ ?_; exact rfl)
    | with_reducible refine JX.blkN ?_
    | with_reducible refine JX.blkR ?_)
  all_goals refine fnQ_tmp (.inl rfl) rfl (by conv => lhs; whnf) fun w' hS => ⟨?_, hS.below⟩
  all_goals rfl

def absI (n : Int) : Int := if n < 0 then 0 - n else n
theorem size_calls (n : Int) (w : World) (hn : -9223372036854775807 ≤ n ∧ n ≤ 9223372036854775807) : Does Try.prog 21 [.int .i64 n] w (Ret w (.int .i64 (absI n))) := by
  refine calls_J (ys := [.int .i64 n]) Try.func21 rfl Try.ntmps21 rfl ?_
  refine J.at_ (S := St w [] []) ?_ (St.start w)
  repeat' (first
    | refine JE.pure rfl rfl (by conv => lhs; whnf) rfl ?_
    | refine JE.skip rfl rfl ?_
    | (refine JE.kBin ?_; first | (refine JE.int rfl rfl rfl rfl rfl rfl ?_; with_reducible refine JE.waysD (fun _ => ?_) (fun _ => ?_)) | refine JE.int rfl rfl rfl rfl (by rw [i64_id (by omega)]) rfl ?_ | refine JE.int rfl rfl rfl rfl rfl rfl ?_ | refine JE.eqBool rfl rfl rfl (by conv => lhs; whnf) rfl ?_ | refine JE.neBool rfl rfl rfl (by conv => lhs; whnf) rfl ?_ | (refine JE.eqStr rfl rfl rfl rfl ?_; with_reducible refine JE.waysD (fun _ => ?_) (fun _ => ?_)) | (refine JE.neStr rfl rfl rfl rfl ?_; with_reducible refine JE.waysD (fun _ => ?_) (fun _ => ?_)))
    | (refine JE.kField ?_; refine JE.fieldAddr rfl rfl rfl ?_)
    | (refine JE.kLoad ?_; first | refine JE.load1 rfl rfl (by repeat (first | exact In.head | refine In.tail ?_)) rfl (by conv => lhs; whnf) (fun _ => by first | trivial | exact ⟨.inr ‹_›, trivial⟩ | exact ⟨.inl (by kernel_rfl), trivial⟩ | exact ⟨.inr ‹_›, .inr ‹_›, trivial⟩ | exact ⟨.inl (by kernel_rfl), .inl (by kernel_rfl), trivial⟩) rfl ?_ | refine JE.loadAll rfl rfl (by repeat (first | exact In.head | refine In.tail ?_)) (by rfl) (fun _ => by first | trivial | exact ⟨.inr ‹_›, trivial⟩ | exact ⟨.inl (by kernel_rfl), trivial⟩ | exact ⟨.inr ‹_›, .inr ‹_›, trivial⟩ | exact ⟨.inl (by kernel_rfl), .inl (by kernel_rfl), trivial⟩) rfl ?_ | refine JE.loadN rfl rfl (by repeat (first | exact In.head | refine In.tail ?_)) (by conv => lhs; whnf) (by rfl) (fun _ => by first | trivial | exact ⟨.inr ‹_›, trivial⟩ | exact ⟨.inl (by kernel_rfl), trivial⟩ | exact ⟨.inr ‹_›, .inr ‹_›, trivial⟩ | exact ⟨.inl (by kernel_rfl), .inl (by kernel_rfl), trivial⟩) rfl ?_)
    | (refine JE.kBox ?_; refine JE.box rfl (by conv => lhs; whnf) rfl (fun _ _ => ?_))
    | (refine JE.kAlloc ?_; refine JE.alloc rfl (by conv => lhs; whnf) rfl (fun _ _ => ?_))
    | (refine JE.kStore ?_; refine JE.store rfl rfl (by repeat (first | exact Turn.head | apply Turn.tail)) SizeT.size (by repeat (first | exact NfL.nil rfl | apply NfL.cons (by exact rfl) (by conv => lhs; whnf))) (by rfl) (by rfl) (by rfl) (by repeat (first | exact NfL.nil rfl | apply NfL.cons (by exact rfl) (by conv => lhs; whnf))) (by first | trivial | exact List.mem_cons_self | exact List.mem_cons_of_mem _ List.mem_cons_self) rfl ?_)
    | (refine JE.kBuiltin ?_; first | refine JE.lenSl rfl rfl rfl ?_ | refine JE.lenStr rfl rfl rfl ?_ | refine JE.max2 rfl rfl rfl rfl rfl ?_ | refine JE.min2 rfl rfl rfl rfl rfl ?_)
    | (refine JE.kBuild ?_; refine JE.build rfl rfl (by repeat (first | exact NfL.nil rfl | apply NfL.cons (by exact rfl) (by conv => lhs; whnf))) rfl ?_)
    | (refine JE.kBuildSlice ?_; refine JE.buildSlice rfl rfl rfl (by conv => lhs; whnf) (by rfl) (by rfl) (by repeat (first | exact NfL.nil rfl | apply NfL.cons (by exact rfl) (by conv => lhs; whnf))) rfl (fun _ _ => ?_))
    | (refine JE.kRange ?_; refine JE.rangeStr rfl rfl rfl (fun _ _ => ?_))
    | with_reducible refine JE.sN ?_
    | with_reducible refine JE.sX ?_
    | with_reducible refine JE.dN ?_
    | with_reducible refine JE.dX ?_
    | with_reducible refine J.seq ?_
    | with_reducible refine J.region ?_
    | refine J.condT rfl ?_
    | refine J.condF rfl ?_
    | with_reducible refine J.skip ?_
    | with_reducible refine J.exit ?_
    | with_reducible refine J.block ?_
    | with_reducible refine J.ret ?_
    | with_reducible refine JX.thenN ?_
    | with_reducible refine JX.thenR ?_
    | with_reducible refine JX.thenE ?_
    | with_reducible refine JX.blkS ?_
    | (with_reducible refine JX.blkE ?_ ?_; exact rfl)
    | with_reducible refine JX.blkN ?_
    | with_reducible refine JX.blkR ?_)
  all_goals refine fnQ_tmp (.inl rfl) rfl (by conv => lhs; whnf) fun w' hS => ⟨?_, hS.below⟩
  · have : IntKind.i64.wrap (0 - n) = 0 - n := i64_id (by omega)
    simp only [this, absI]
    split <;> split <;> first | rfl | (congr 2; omega)

/-! ### What fits -/
def okLoad (s : Ship) (x : Load) : Bool := onShip s x.slot && decide (1 ≤ x.weight ∧ x.weight ≤ 1048576)
def fitsL (s : Ship) (xs : List Load) : Bool := xs.all (okLoad s) && decide ((xs.map (·.slot)).Nodup)
def fits (s : Ship) (xs : List Load) : Bool := mayShip s && (decide (xs.length ≤ 4096) && fitsL s xs)

def slotsOf (xs : List Load) : List (Slot × Bool) := xs.map fun x => (x.slot, true)
theorem klook_slots (k : Slot) : ∀ xs : List Load, klook k (slotsOf xs) = if k ∈ xs.map (·.slot) then some true else none
  | [] => rfl
  | x :: r => by
    have ih := klook_slots k r
    simp only [slotsOf, List.map_cons, klook] at *
    rw [ih]
    by_cases h : k = x.slot <;> simp [h]
theorem kput_new {K V : Type} [DecidableEq K] (k : K) (v : V) : ∀ kvs : List (K × V), klook k kvs = none → kput k v kvs = kvs ++ [(k, v)]
  | [], _ => rfl
  | (k', v') :: r, h => by
    simp only [klook] at h
    split at h
    · cases h
    · rename_i hk
      simp only [kput, if_neg hk, kput_new k v r h, List.cons_append]

theorem fitsL_bad {s : Ship} {xs : List Load} {k : Nat} {x : Load} (hx : xs[k]? = some x) (h : okLoad s x = false ∨ x.slot ∈ (xs.take k).map (·.slot)) : fitsL s xs = false := by
  rw [Bool.eq_false_iff]
  intro hf
  simp only [fitsL, Bool.and_eq_true, decide_eq_true_eq, List.all_eq_true] at hf
  obtain ⟨h1, h2⟩ := hf
  have hm := List.mem_of_getElem? hx
  rcases h with h | h
  · rw [h1 x hm] at h; cases h
  · obtain ⟨hk, rfl⟩ := List.getElem?_eq_some_iff.1 hx
    obtain ⟨y, hy, hyx⟩ := List.mem_map.1 h
    obtain ⟨j, hj, rfl⟩ := List.mem_iff_getElem.1 hy
    simp only [List.length_take] at hj
    rw [List.getElem_take] at hyx
    have hjk : j < k := by omega
    exact (List.pairwise_iff_getElem.1 h2) j k (by simp; omega) (by simpa using hk) hjk (by simpa using hyx)

theorem take_map_snoc {α β : Type} (g : α → β) {xs : List α} {k : Nat} {x : α} (hx : xs[k]? = some x) : (xs.take (k + 1)).map g = (xs.take k).map g ++ [g x] := by
  rw [List.take_add_one, hx]
  simp

set_option maxHeartbeats 1000000 in
theorem fit_calls (s : Ship) (v : Value) (xs : List Load) (w : World) (hs : Sl 7 encLoad w v xs) (hx : xs.length ≤ 9223372036854775807) :
    Does Try.prog 14 [.agg (encShip s).toArray, v] w (Ret w (.bool (fits s xs))) := by
  obtain ⟨a, c, rfl, hs⟩ := hs
  refine calls_J (ys := [.agg (encShip s).toArray, .slice a xs.length c]) Try.func14 rfl Try.ntmps14 rfl ?_
  refine J.at_ (S := St w [] []) ?_ (St.start w)
  repeat' (first
    | refine JE.pure rfl rfl (by conv => lhs; whnf) rfl ?_
    | refine JE.skip rfl rfl ?_
    | (refine JE.kBin ?_; first | (refine JE.int rfl rfl rfl rfl rfl rfl ?_; with_reducible refine JE.waysD (fun _ => ?_) (fun _ => ?_)) | refine JE.int rfl rfl rfl rfl (by rw [i64_id (by omega)]) rfl ?_ | refine JE.int rfl rfl rfl rfl rfl rfl ?_ | refine JE.eqBool rfl rfl rfl (by conv => lhs; whnf) rfl ?_ | refine JE.neBool rfl rfl rfl (by conv => lhs; whnf) rfl ?_ | (refine JE.eqStr rfl rfl rfl rfl ?_; with_reducible refine JE.waysD (fun _ => ?_) (fun _ => ?_)) | (refine JE.neStr rfl rfl rfl rfl ?_; with_reducible refine JE.waysD (fun _ => ?_) (fun _ => ?_)))
    | (refine JE.kField ?_; refine JE.fieldAddr rfl rfl rfl ?_)
    | (refine JE.kLoad ?_; first | refine JE.load1 rfl rfl (by repeat (first | exact In.head | refine In.tail ?_)) rfl (by conv => lhs; whnf) (fun _ => by first | trivial | exact ⟨.inr ‹_›, trivial⟩ | exact ⟨.inl (by kernel_rfl), trivial⟩ | exact ⟨.inr ‹_›, .inr ‹_›, trivial⟩ | exact ⟨.inl (by kernel_rfl), .inl (by kernel_rfl), trivial⟩) rfl ?_ | refine JE.loadAll rfl rfl (by repeat (first | exact In.head | refine In.tail ?_)) (by rfl) (fun _ => by first | trivial | exact ⟨.inr ‹_›, trivial⟩ | exact ⟨.inl (by kernel_rfl), trivial⟩ | exact ⟨.inr ‹_›, .inr ‹_›, trivial⟩ | exact ⟨.inl (by kernel_rfl), .inl (by kernel_rfl), trivial⟩) rfl ?_ | refine JE.loadN rfl rfl (by repeat (first | exact In.head | refine In.tail ?_)) (by conv => lhs; whnf) (by rfl) (fun _ => by first | trivial | exact ⟨.inr ‹_›, trivial⟩ | exact ⟨.inl (by kernel_rfl), trivial⟩ | exact ⟨.inr ‹_›, .inr ‹_›, trivial⟩ | exact ⟨.inl (by kernel_rfl), .inl (by kernel_rfl), trivial⟩) rfl ?_)
    | (refine JE.kBox ?_; refine JE.box rfl (by conv => lhs; whnf) rfl (fun _ _ => ?_))
    | (refine JE.kAlloc ?_; refine JE.alloc rfl (by conv => lhs; whnf) rfl (fun _ _ => ?_))
    | (refine JE.kStore ?_; refine JE.store rfl rfl (by repeat (first | exact Turn.head | apply Turn.tail)) SizeT.size (by repeat (first | exact NfL.nil rfl | apply NfL.cons (by exact rfl) (by conv => lhs; whnf))) (by rfl) (by rfl) (by rfl) (by repeat (first | exact NfL.nil rfl | apply NfL.cons (by exact rfl) (by conv => lhs; whnf))) (by first | trivial | exact List.mem_cons_self | exact List.mem_cons_of_mem _ List.mem_cons_self) rfl ?_)
    | (refine JE.kBuiltin ?_; first | refine JE.lenSl rfl rfl rfl ?_ | refine JE.lenStr rfl rfl rfl ?_ | refine JE.max2 rfl rfl rfl rfl rfl ?_ | refine JE.min2 rfl rfl rfl rfl rfl ?_)
    | (refine JE.kBuild ?_; refine JE.build rfl rfl (by repeat (first | exact NfL.nil rfl | apply NfL.cons (by exact rfl) (by conv => lhs; whnf))) rfl ?_)
    | (refine JE.kBuildSlice ?_; refine JE.buildSlice rfl rfl rfl (by conv => lhs; whnf) (by rfl) (by rfl) (by repeat (first | exact NfL.nil rfl | apply NfL.cons (by exact rfl) (by conv => lhs; whnf))) rfl (fun _ _ => ?_))
    | (refine JE.kRange ?_; refine JE.rangeStr rfl rfl rfl (fun _ _ => ?_))
    | with_reducible refine JE.sN ?_
    | with_reducible refine JE.sX ?_
    | with_reducible refine JE.dN ?_
    | with_reducible refine JE.dX ?_
    | with_reducible refine J.seq ?_
    | with_reducible refine J.region ?_
    | refine J.condT rfl ?_
    | refine J.condF rfl ?_
    | with_reducible refine J.skip ?_
    | with_reducible refine J.exit ?_
    | with_reducible refine J.block ?_
    | with_reducible refine J.ret ?_
    | with_reducible refine JX.thenN ?_
    | with_reducible refine JX.thenR ?_
    | with_reducible refine JX.thenE ?_
    | with_reducible refine JX.blkS ?_
    | (with_reducible refine JX.blkE ?_ ?_; exact rfl)
    | with_reducible refine JX.blkN ?_
    | with_reducible refine JX.blkR ?_
    | (refine JE.isF 18 ?_; refine JE.call rfl rfl (by repeat (first | exact NfL.nil rfl | apply NfL.cons (by exact rfl) (by conv => lhs; whnf))) rfl ?_; refine CallG.ret (fun w hS => May_calls s w) ?_; with_reducible refine JE.ways (fun _ => ?_) (fun _ => ?_))
    | (refine JE.kMakeMap ?_; refine JE.makeMap rfl rfl (fun _ _ => ?_)))
  · refine fnQ_tmp (.inl rfl) rfl (by conv => lhs; whnf) fun w' hS => ⟨?_, hS.below⟩
    simp_all [fits]
    intros; omega
  · rename_i b2 hb2 hmay hlen bm hbm
    refine J.loop (fun f w' => ∃ k : Nat, ∃ o, k ≤ xs.length ∧ fitsL s (xs.take k) = true ∧ MapO vSlot Value.bool o (slotsOf (xs.take k)) ∧ Has f [(1, .slice a xs.length c), (2, .pointer (some ⟨b2, 0, none⟩)), (4, .bool false), (5, .map (some bm)), (17, .slice a xs.length c), (18, .int .i64 xs.length), (19, .int .i64 k)] ∧ St w [] [(bm, o), (b2, cel (encShip s) 23)] w')
      (fun f _ => xs.length - (intOf (f 19)).toNat) (fun w' hS => ⟨0, _, Nat.zero_le _, rfl, MapO.empty _ _, (by repeat' (first | exact trivial | refine And.intro (by rfl) ?_)), hS⟩) ?_
    rintro f w' ⟨k, o, hk, hfit, ho, hf, hS⟩
    obtain ⟨g, rfl⟩ := hf.eq
    clear hf
    by_cases hlt : k < xs.length
    · obtain ⟨B, off, rfl, hr⟩ := hs (by intro e; rw [e] at hlt; simp at hlt)
      have hxk : xs[k]? = some xs[k] := List.getElem?_eq_getElem hlt
      generalize xs[k] = x at hxk
      refine J.at_ ?_ hS
      by_cases hm : x.slot ∈ (xs.take k).map (·.slot)
      · have hbad := fitsL_bad (s := s) hxk (.inr hm)
        have hk' : klook x.slot (slotsOf (xs.take k)) = some true := by rw [klook_slots, if_pos hm]
        repeat' (first
          | refine JE.pure rfl rfl (by conv => lhs; whnf) rfl ?_
          | refine JE.skip rfl rfl ?_
          | (refine JE.kBin ?_; first | (refine JE.int rfl rfl rfl rfl rfl rfl ?_; with_reducible refine JE.waysD (fun _ => ?_) (fun _ => ?_)) | refine JE.int rfl rfl rfl rfl (by rw [i64_id (by omega)]) rfl ?_ | refine JE.int rfl rfl rfl rfl rfl rfl ?_ | refine JE.eqBool rfl rfl rfl (by conv => lhs; whnf) rfl ?_ | refine JE.neBool rfl rfl rfl (by conv => lhs; whnf) rfl ?_ | (refine JE.eqStr rfl rfl rfl rfl ?_; with_reducible refine JE.waysD (fun _ => ?_) (fun _ => ?_)) | (refine JE.neStr rfl rfl rfl rfl ?_; with_reducible refine JE.waysD (fun _ => ?_) (fun _ => ?_)))
          | (refine JE.kField ?_; refine JE.fieldAddr rfl rfl rfl ?_)
          | (refine JE.kLoad ?_; first | refine JE.load1 rfl rfl (by repeat (first | exact In.head | refine In.tail ?_)) rfl (by conv => lhs; whnf) (fun _ => by first | trivial | exact ⟨.inr ‹_›, trivial⟩ | exact ⟨.inl (by kernel_rfl), trivial⟩ | exact ⟨.inr ‹_›, .inr ‹_›, trivial⟩ | exact ⟨.inl (by kernel_rfl), .inl (by kernel_rfl), trivial⟩) rfl ?_ | refine JE.loadAll rfl rfl (by repeat (first | exact In.head | refine In.tail ?_)) (by rfl) (fun _ => by first | trivial | exact ⟨.inr ‹_›, trivial⟩ | exact ⟨.inl (by kernel_rfl), trivial⟩ | exact ⟨.inr ‹_›, .inr ‹_›, trivial⟩ | exact ⟨.inl (by kernel_rfl), .inl (by kernel_rfl), trivial⟩) rfl ?_ | refine JE.loadN rfl rfl (by repeat (first | exact In.head | refine In.tail ?_)) (by conv => lhs; whnf) (by rfl) (fun _ => by first | trivial | exact ⟨.inr ‹_›, trivial⟩ | exact ⟨.inl (by kernel_rfl), trivial⟩ | exact ⟨.inr ‹_›, .inr ‹_›, trivial⟩ | exact ⟨.inl (by kernel_rfl), .inl (by kernel_rfl), trivial⟩) rfl ?_)
          | (refine JE.kBox ?_; refine JE.box rfl (by conv => lhs; whnf) rfl (fun _ _ => ?_))
          | (refine JE.kAlloc ?_; refine JE.alloc rfl (by conv => lhs; whnf) rfl (fun _ _ => ?_))
          | (refine JE.kStore ?_; refine JE.store rfl rfl (by repeat (first | exact Turn.head | apply Turn.tail)) SizeT.size (by repeat (first | exact NfL.nil rfl | apply NfL.cons (by exact rfl) (by conv => lhs; whnf))) (by rfl) (by rfl) (by rfl) (by repeat (first | exact NfL.nil rfl | apply NfL.cons (by exact rfl) (by conv => lhs; whnf))) (by first | trivial | exact List.mem_cons_self | exact List.mem_cons_of_mem _ List.mem_cons_self) rfl ?_)
          | (refine JE.kBuiltin ?_; first | refine JE.lenSl rfl rfl rfl ?_ | refine JE.lenStr rfl rfl rfl ?_ | refine JE.max2 rfl rfl rfl rfl rfl ?_ | refine JE.min2 rfl rfl rfl rfl rfl ?_)
          | (refine JE.kBuild ?_; refine JE.build rfl rfl (by repeat (first | exact NfL.nil rfl | apply NfL.cons (by exact rfl) (by conv => lhs; whnf))) rfl ?_)
          | (refine JE.kBuildSlice ?_; refine JE.buildSlice rfl rfl rfl (by conv => lhs; whnf) (by rfl) (by rfl) (by repeat (first | exact NfL.nil rfl | apply NfL.cons (by exact rfl) (by conv => lhs; whnf))) rfl (fun _ _ => ?_))
          | (refine JE.kRange ?_; refine JE.rangeStr rfl rfl rfl (fun _ _ => ?_))
          | with_reducible refine JE.sN ?_
          | with_reducible refine JE.sX ?_
          | with_reducible refine JE.dN ?_
          | with_reducible refine JE.dX ?_
          | with_reducible refine J.seq ?_
          | with_reducible refine J.region ?_
          | refine J.condT rfl ?_
          | refine J.condF rfl ?_
          | with_reducible refine J.skip ?_
          | with_reducible refine J.exit ?_
          | with_reducible refine J.block ?_
          | with_reducible refine J.ret ?_
          | with_reducible refine JX.thenN ?_
          | with_reducible refine JX.thenR ?_
          | with_reducible refine JX.thenE ?_
          | with_reducible refine JX.blkS ?_
          | (with_reducible refine JX.blkE ?_ ?_; exact rfl)
          | with_reducible refine JX.blkN ?_
          | with_reducible refine JX.blkR ?_
          | (refine JE.kIndexAddr ?_; refine JE.indexAddr rfl rfl rfl (Int.natCast_nonneg _) (by omega) rfl ?_)
          | (refine JE.kLoad ?_; refine JE.loadRow rfl rfl hr (by simp) hxk rfl rfl (fun _ => trivial) rfl ?_)
          | (refine JE.isF 19 ?_; refine JE.call rfl rfl (by repeat (first | exact NfL.nil rfl | apply NfL.cons (by exact rfl) (by conv => lhs; whnf))) rfl ?_; refine CallG.ret (fun w hS => on_calls s x.slot w) ?_; with_reducible refine JE.ways (fun _ => ?_) (fun _ => ?_))
          | (refine JE.kLookup ?_; refine JE.lookup (k := x.slot) (encK := vSlot) (encV := Value.bool) rfl rfl rfl (by repeat (first | exact In.head | refine In.tail ?_)) ho (by first | (rw [hk']; done) | (rw [hk']; rfl)) rfl (fun _ => by first | trivial | exact ⟨.inr ‹_›, trivial⟩ | exact ⟨.inl (by kernel_rfl), trivial⟩ | exact ⟨.inr ‹_›, .inr ‹_›, trivial⟩ | exact ⟨.inl (by kernel_rfl), .inl (by kernel_rfl), trivial⟩) rfl ?_))
        all_goals first | (exfalso; omega) | (refine fnQ_tmp (.inl rfl) rfl (by conv => lhs; whnf) fun w'' hS' => ⟨?_, hS'.below⟩; simp [fits, hbad])
      · have hk' : klook x.slot (slotsOf (xs.take k)) = none := by rw [klook_slots, if_neg hm]
        repeat' (first
          | refine JE.pure rfl rfl (by conv => lhs; whnf) rfl ?_
          | refine JE.skip rfl rfl ?_
          | (refine JE.kBin ?_; first | (refine JE.int rfl rfl rfl rfl rfl rfl ?_; with_reducible refine JE.waysD (fun _ => ?_) (fun _ => ?_)) | refine JE.int rfl rfl rfl rfl (by rw [i64_id (by omega)]) rfl ?_ | refine JE.int rfl rfl rfl rfl rfl rfl ?_ | refine JE.eqBool rfl rfl rfl (by conv => lhs; whnf) rfl ?_ | refine JE.neBool rfl rfl rfl (by conv => lhs; whnf) rfl ?_ | (refine JE.eqStr rfl rfl rfl rfl ?_; with_reducible refine JE.waysD (fun _ => ?_) (fun _ => ?_)) | (refine JE.neStr rfl rfl rfl rfl ?_; with_reducible refine JE.waysD (fun _ => ?_) (fun _ => ?_)))
          | (refine JE.kField ?_; refine JE.fieldAddr rfl rfl rfl ?_)
          | (refine JE.kLoad ?_; first | refine JE.load1 rfl rfl (by repeat (first | exact In.head | refine In.tail ?_)) rfl (by conv => lhs; whnf) (fun _ => by first | trivial | exact ⟨.inr ‹_›, trivial⟩ | exact ⟨.inl (by kernel_rfl), trivial⟩ | exact ⟨.inr ‹_›, .inr ‹_›, trivial⟩ | exact ⟨.inl (by kernel_rfl), .inl (by kernel_rfl), trivial⟩) rfl ?_ | refine JE.loadAll rfl rfl (by repeat (first | exact In.head | refine In.tail ?_)) (by rfl) (fun _ => by first | trivial | exact ⟨.inr ‹_›, trivial⟩ | exact ⟨.inl (by kernel_rfl), trivial⟩ | exact ⟨.inr ‹_›, .inr ‹_›, trivial⟩ | exact ⟨.inl (by kernel_rfl), .inl (by kernel_rfl), trivial⟩) rfl ?_ | refine JE.loadN rfl rfl (by repeat (first | exact In.head | refine In.tail ?_)) (by conv => lhs; whnf) (by rfl) (fun _ => by first | trivial | exact ⟨.inr ‹_›, trivial⟩ | exact ⟨.inl (by kernel_rfl), trivial⟩ | exact ⟨.inr ‹_›, .inr ‹_›, trivial⟩ | exact ⟨.inl (by kernel_rfl), .inl (by kernel_rfl), trivial⟩) rfl ?_)
          | (refine JE.kBox ?_; refine JE.box rfl (by conv => lhs; whnf) rfl (fun _ _ => ?_))
          | (refine JE.kAlloc ?_; refine JE.alloc rfl (by conv => lhs; whnf) rfl (fun _ _ => ?_))
          | (refine JE.kStore ?_; refine JE.store rfl rfl (by repeat (first | exact Turn.head | apply Turn.tail)) SizeT.size (by repeat (first | exact NfL.nil rfl | apply NfL.cons (by exact rfl) (by conv => lhs; whnf))) (by rfl) (by rfl) (by rfl) (by repeat (first | exact NfL.nil rfl | apply NfL.cons (by exact rfl) (by conv => lhs; whnf))) (by first | trivial | exact List.mem_cons_self | exact List.mem_cons_of_mem _ List.mem_cons_self) rfl ?_)
          | (refine JE.kBuiltin ?_; first | refine JE.lenSl rfl rfl rfl ?_ | refine JE.lenStr rfl rfl rfl ?_ | refine JE.max2 rfl rfl rfl rfl rfl ?_ | refine JE.min2 rfl rfl rfl rfl rfl ?_)
          | (refine JE.kBuild ?_; refine JE.build rfl rfl (by repeat (first | exact NfL.nil rfl | apply NfL.cons (by exact rfl) (by conv => lhs; whnf))) rfl ?_)
          | (refine JE.kBuildSlice ?_; refine JE.buildSlice rfl rfl rfl (by conv => lhs; whnf) (by rfl) (by rfl) (by repeat (first | exact NfL.nil rfl | apply NfL.cons (by exact rfl) (by conv => lhs; whnf))) rfl (fun _ _ => ?_))
          | (refine JE.kRange ?_; refine JE.rangeStr rfl rfl rfl (fun _ _ => ?_))
          | with_reducible refine JE.sN ?_
          | with_reducible refine JE.sX ?_
          | with_reducible refine JE.dN ?_
          | with_reducible refine JE.dX ?_
          | with_reducible refine J.seq ?_
          | with_reducible refine J.region ?_
          | refine J.condT rfl ?_
          | refine J.condF rfl ?_
          | with_reducible refine J.skip ?_
          | with_reducible refine J.exit ?_
          | with_reducible refine J.block ?_
          | with_reducible refine J.ret ?_
          | with_reducible refine JX.thenN ?_
          | with_reducible refine JX.thenR ?_
          | with_reducible refine JX.thenE ?_
          | with_reducible refine JX.blkS ?_
          | (with_reducible refine JX.blkE ?_ ?_; exact rfl)
          | with_reducible refine JX.blkN ?_
          | with_reducible refine JX.blkR ?_
          | (refine JE.kIndexAddr ?_; refine JE.indexAddr rfl rfl rfl (Int.natCast_nonneg _) (by omega) rfl ?_)
          | (refine JE.kLoad ?_; refine JE.loadRow rfl rfl hr (by simp) hxk rfl rfl (fun _ => trivial) rfl ?_)
          | (refine JE.isF 19 ?_; refine JE.call rfl rfl (by repeat (first | exact NfL.nil rfl | apply NfL.cons (by exact rfl) (by conv => lhs; whnf))) rfl ?_; refine CallG.ret (fun w hS => on_calls s x.slot w) ?_; with_reducible refine JE.ways (fun _ => ?_) (fun _ => ?_))
          | (refine JE.kLookup ?_; refine JE.lookup (k := x.slot) (encK := vSlot) (encV := Value.bool) rfl rfl rfl (by repeat (first | exact In.head | refine In.tail ?_)) ho (by first | (rw [hk']; done) | (rw [hk']; rfl)) rfl (fun _ => by first | trivial | exact ⟨.inr ‹_›, trivial⟩ | exact ⟨.inl (by kernel_rfl), trivial⟩ | exact ⟨.inr ‹_›, .inr ‹_›, trivial⟩ | exact ⟨.inl (by kernel_rfl), .inl (by kernel_rfl), trivial⟩) rfl ?_)
          | (refine JE.kUpdate ?_; refine JE.mapUpdate (k := x.slot) (v := true) (encK := vSlot) (encV := Value.bool) rfl rfl rfl rfl (by repeat (first | exact In.head | refine In.tail ?_)) ho trivial rfl (fun o' ho' => ⟨_, (by repeat (first | exact Turn.head | apply Turn.tail)), ?_⟩)))
        all_goals first
          | (exfalso; omega)
          | (refine fnQ_tmp (.inl rfl) rfl (by conv => lhs; whnf) fun w'' hS' => ⟨?_, hS'.below⟩; have hbad := fitsL_bad (s := s) hxk (.inl (by simp_all [okLoad] <;> (intros; omega))); simp [fits, hbad])
          | skip
        rename_i b3 hb3 hon hw1 hw2
        refine JX.round fun w'' hS' => ⟨⟨k + 1, _, hlt, ?_, ?_, (by repeat' (first | exact trivial | refine And.intro (by rfl) ?_)), hS'.tl⟩, ?_⟩
        · have e1 : xs.take (k + 1) = xs.take k ++ [x] := by rw [List.take_add_one, hxk]; rfl
          simp only [fitsL, Bool.and_eq_true, decide_eq_true_eq] at hfit ⊢
          rw [e1]
          simp only [List.all_append, List.map_append, List.map_cons, List.map_nil, hfit.1, Bool.true_and, List.all_cons, List.all_nil, Bool.and_true]
          refine ⟨by simp [okLoad, hon]; omega, List.nodup_append.2 ⟨hfit.2, by simp, ?_⟩⟩
          intro a ha c hc hac
          simp at hc
          subst hc hac
          exact hm ha
        · have e1 : slotsOf (xs.take (k + 1)) = kput x.slot true (slotsOf (xs.take k)) := by
            rw [kput_new _ _ _ hk', slotsOf, take_map_snoc _ hxk]; rfl
          rw [e1]
          assumption
        · show xs.length - ((k : Int) + 1).toNat < xs.length - ((k : Int)).toNat
          omega
    · refine J.at_ ?_ hS
      repeat' (first
        | refine JE.pure rfl rfl (by conv => lhs; whnf) rfl ?_
        | refine JE.skip rfl rfl ?_
        | (refine JE.kBin ?_; first | (refine JE.int rfl rfl rfl rfl rfl rfl ?_; with_reducible refine JE.waysD (fun _ => ?_) (fun _ => ?_)) | refine JE.int rfl rfl rfl rfl (by rw [i64_id (by omega)]) rfl ?_ | refine JE.int rfl rfl rfl rfl rfl rfl ?_ | refine JE.eqBool rfl rfl rfl (by conv => lhs; whnf) rfl ?_ | refine JE.neBool rfl rfl rfl (by conv => lhs; whnf) rfl ?_ | (refine JE.eqStr rfl rfl rfl rfl ?_; with_reducible refine JE.waysD (fun _ => ?_) (fun _ => ?_)) | (refine JE.neStr rfl rfl rfl rfl ?_; with_reducible refine JE.waysD (fun _ => ?_) (fun _ => ?_)))
        | (refine JE.kField ?_; refine JE.fieldAddr rfl rfl rfl ?_)
        | (refine JE.kLoad ?_; first | refine JE.load1 rfl rfl (by repeat (first | exact In.head | refine In.tail ?_)) rfl (by conv => lhs; whnf) (fun _ => by first | trivial | exact ⟨.inr ‹_›, trivial⟩ | exact ⟨.inl (by kernel_rfl), trivial⟩ | exact ⟨.inr ‹_›, .inr ‹_›, trivial⟩ | exact ⟨.inl (by kernel_rfl), .inl (by kernel_rfl), trivial⟩) rfl ?_ | refine JE.loadAll rfl rfl (by repeat (first | exact In.head | refine In.tail ?_)) (by rfl) (fun _ => by first | trivial | exact ⟨.inr ‹_›, trivial⟩ | exact ⟨.inl (by kernel_rfl), trivial⟩ | exact ⟨.inr ‹_›, .inr ‹_›, trivial⟩ | exact ⟨.inl (by kernel_rfl), .inl (by kernel_rfl), trivial⟩) rfl ?_ | refine JE.loadN rfl rfl (by repeat (first | exact In.head | refine In.tail ?_)) (by conv => lhs; whnf) (by rfl) (fun _ => by first | trivial | exact ⟨.inr ‹_›, trivial⟩ | exact ⟨.inl (by kernel_rfl), trivial⟩ | exact ⟨.inr ‹_›, .inr ‹_›, trivial⟩ | exact ⟨.inl (by kernel_rfl), .inl (by kernel_rfl), trivial⟩) rfl ?_)
        | (refine JE.kBox ?_; refine JE.box rfl (by conv => lhs; whnf) rfl (fun _ _ => ?_))
        | (refine JE.kAlloc ?_; refine JE.alloc rfl (by conv => lhs; whnf) rfl (fun _ _ => ?_))
        | (refine JE.kStore ?_; refine JE.store rfl rfl (by repeat (first | exact Turn.head | apply Turn.tail)) SizeT.size (by repeat (first | exact NfL.nil rfl | apply NfL.cons (by exact rfl) (by conv => lhs; whnf))) (by rfl) (by rfl) (by rfl) (by repeat (first | exact NfL.nil rfl | apply NfL.cons (by exact rfl) (by conv => lhs; whnf))) (by first | trivial | exact List.mem_cons_self | exact List.mem_cons_of_mem _ List.mem_cons_self) rfl ?_)
        | (refine JE.kBuiltin ?_; first | refine JE.lenSl rfl rfl rfl ?_ | refine JE.lenStr rfl rfl rfl ?_ | refine JE.max2 rfl rfl rfl rfl rfl ?_ | refine JE.min2 rfl rfl rfl rfl rfl ?_)
        | (refine JE.kBuild ?_; refine JE.build rfl rfl (by repeat (first | exact NfL.nil rfl | apply NfL.cons (by exact rfl) (by conv => lhs; whnf))) rfl ?_)
        | (refine JE.kBuildSlice ?_; refine JE.buildSlice rfl rfl rfl (by conv => lhs; whnf) (by rfl) (by rfl) (by repeat (first | exact NfL.nil rfl | apply NfL.cons (by exact rfl) (by conv => lhs; whnf))) rfl (fun _ _ => ?_))
        | (refine JE.kRange ?_; refine JE.rangeStr rfl rfl rfl (fun _ _ => ?_))
        | with_reducible refine JE.sN ?_
        | with_reducible refine JE.sX ?_
        | with_reducible refine JE.dN ?_
        | with_reducible refine JE.dX ?_
        | with_reducible refine J.seq ?_
        | with_reducible refine J.region ?_
        | refine J.condT rfl ?_
        | refine J.condF rfl ?_
        | with_reducible refine J.skip ?_
        | with_reducible refine J.exit ?_
        | with_reducible refine J.block ?_
        | with_reducible refine J.ret ?_
        | with_reducible refine JX.thenN ?_
        | with_reducible refine JX.thenR ?_
        | with_reducible refine JX.thenE ?_
        | with_reducible refine JX.blkS ?_
        | (with_reducible refine JX.blkE ?_ ?_; exact rfl)
        | with_reducible refine JX.blkN ?_
        | with_reducible refine JX.blkR ?_)
      · exfalso; omega
      · refine fnQ_tmp (.inl rfl) rfl (by conv => lhs; whnf) fun w'' hS' => ⟨?_, hS'.below⟩
        have : k = xs.length := by omega
        subst this
        rw [List.take_length] at hfit
        simp_all [fits]
        omega
  · refine fnQ_tmp (.inl rfl) rfl (by conv => lhs; whnf) fun w' hS => ⟨?_, hS.below⟩
    simp_all [fits]

end Go.Proofs.Ytppidobalfelbaa
