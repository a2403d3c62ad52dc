/-
  The walk of the statement TrimUp. Conditions: none.
-/
import Derived.Test.YtppidobalfelbaaLaw14
namespace Go.Proofs.Ytppidobalfelbaa
open Go Go.RowKit Go.Proofs.YtppidobalfelbaaSym

/-- A load set a tier higher. -/
def Load.up (x : Load) : Load := { x with slot := { x.slot with tier := x.slot.tier + 1 } }

theorem moms_up (s : Ship) {xs : List Load} {n : Nat} {x : Load} (hx : xs[n]? = some x) :
    moms s (xs.set n x.up) = ⟨(moms s xs).long, (moms s xs).cross, (moms s xs).up + x.weight, (moms s xs).weight⟩ := by
  obtain ⟨hl, rfl⟩ := List.getElem?_eq_some_iff.1 hx
  have e1 : xs = xs.take n ++ ([xs[n]] ++ xs.drop (n + 1)) := by simp
  have e2 : xs.set n (xs[n]).up = xs.take n ++ ([(xs[n]).up] ++ xs.drop (n + 1)) := by rw [List.set_eq_take_append_cons_drop, if_pos hl]; rfl
  have m1 : moms s xs = (moms s (xs.take n)).add ((moms s [xs[n]]).add (moms s (xs.drop (n + 1)))) := by rw [← moms_append, ← moms_append, ← e1]
  rw [e2, moms_append, moms_append, m1]
  simp only [Mom.add, moms, List.foldl_cons, List.foldl_nil, mstep, Load.up, Mom.mk.injEq, true_and, and_true]
  rw [Int.mul_add]
  omega

set_option maxHeartbeats 2000000 in
theorem Up_calls (s : Ship) (hz : s.name.size ≤ 9223372036854775807) (a : Option Addr) (c : Nat) (xs : List Load) (at' : Int) (w : World) (hs : Sl 7 encLoad w (.slice a xs.length c) xs) (hx : xs.length ≤ 9223372036854775807) (hc : xs.length ≤ c) :
    Does Try.prog 4 [.agg (encShip s).toArray, .slice a xs.length c, .int .i64 at'] w (Ret w (.bool true)) := by
  refine calls_J (ys := [.agg (encShip s).toArray, .slice a xs.length c, .int .i64 at']) Try.func4 rfl Try.ntmps4 rfl ?_
  refine J.at_ (S := St w [] []) ?_ (St.start w)
  by_cases h0 : at' < 0
  · skip
    repeat' (first
      | refine JE.pure rfl rfl (by conv => lhs; whnf) rfl ?_
      | refine JE.skip rfl rfl ?_
      | (refine JE.kBin ?_; first | (refine JE.int rfl rfl rfl rfl rfl rfl ?_; with_reducible refine JE.waysD (fun _ => ?_) (fun _ => ?_)) | refine JE.int rfl rfl rfl rfl (by rw [i64_id (by omega)]) rfl ?_ | refine JE.int rfl rfl rfl rfl rfl rfl ?_ | refine JE.eqBool rfl rfl rfl (by conv => lhs; whnf) rfl ?_ | refine JE.neBool rfl rfl rfl (by conv => lhs; whnf) rfl ?_ | (refine JE.eqStr rfl rfl rfl rfl ?_; with_reducible refine JE.waysD (fun _ => ?_) (fun _ => ?_)) | (refine JE.neStr rfl rfl rfl rfl ?_; with_reducible refine JE.waysD (fun _ => ?_) (fun _ => ?_)))
      | (refine JE.kField ?_; refine JE.fieldAddr rfl rfl rfl ?_)
      | (refine JE.kLoad ?_; first | refine JE.load1 rfl rfl (by repeat (first | exact In.head | refine In.tail ?_)) rfl (by conv => lhs; whnf) (fun _ => by first | trivial | exact ⟨.inl (by kernel_rfl), trivial⟩) rfl ?_ | refine JE.loadAll rfl rfl (by repeat (first | exact In.head | refine In.tail ?_)) (by rfl) (fun _ => by first | trivial | exact ⟨.inl (by kernel_rfl), trivial⟩) rfl ?_ | refine JE.loadN rfl rfl (by repeat (first | exact In.head | refine In.tail ?_)) (by conv => lhs; whnf) (by rfl) (fun _ => by first | trivial | exact ⟨.inl (by kernel_rfl), trivial⟩) rfl ?_)
      | (refine JE.kBox ?_; refine JE.box rfl (by conv => lhs; whnf) rfl (fun _ _ => ?_))
      | (refine JE.kAlloc ?_; refine JE.alloc rfl (by conv => lhs; whnf) rfl (fun _ _ => ?_))
      | (refine JE.kStore ?_; refine JE.store rfl rfl (by repeat (first | exact Turn.head | apply Turn.tail)) SizeT.size (by repeat (first | exact NfL.nil rfl | apply NfL.cons (by exact rfl) (by conv => lhs; whnf))) (by rfl) (by rfl) (by rfl) (by repeat (first | exact NfL.nil rfl | apply NfL.cons (by exact rfl) (by conv => lhs; whnf))) (by first | trivial | exact List.mem_cons_self) rfl ?_)
      | (refine JE.kBuiltin ?_; first | refine JE.lenSl rfl rfl rfl ?_ | refine JE.lenStr rfl rfl rfl ?_ | refine JE.max2 rfl rfl rfl rfl rfl ?_ | refine JE.min2 rfl rfl rfl rfl rfl ?_)
      | (refine JE.kBuild ?_; refine JE.build rfl rfl (by repeat (first | exact NfL.nil rfl | apply NfL.cons (by exact rfl) (by conv => lhs; whnf))) rfl ?_)
      | (refine JE.kBuildSlice ?_; refine JE.buildSlice rfl rfl rfl (by conv => lhs; whnf) (by rfl) (by rfl) (by repeat (first | exact NfL.nil rfl | apply NfL.cons (by exact rfl) (by conv => lhs; whnf))) rfl (fun _ _ => ?_))
      | (refine JE.kRange ?_; refine JE.rangeStr rfl rfl rfl (fun _ _ => ?_))
      | with_reducible refine JE.sN ?_
      | with_reducible refine JE.sX ?_
      | with_reducible refine JE.dN ?_
      | with_reducible refine JE.dX ?_
      | with_reducible refine J.seq ?_
      | with_reducible refine J.region ?_
      | refine J.condT rfl ?_
      | refine J.condF rfl ?_
      | with_reducible refine J.skip ?_
      | with_reducible refine J.exit ?_
      | with_reducible refine J.block ?_
      | with_reducible refine J.ret ?_
      | with_reducible refine JX.thenN ?_
      | with_reducible refine JX.thenR ?_
      | with_reducible refine JX.thenE ?_
      | with_reducible refine JX.blkS ?_
      | (with_reducible refine JX.blkE ?_ ?_; exact rfl)
      | with_reducible refine JX.blkN ?_
      | with_reducible refine JX.blkR ?_
      | (refine JE.isF 7 ?_; refine JE.call rfl rfl (by repeat (first | exact NfL.nil rfl | apply NfL.cons (by exact rfl) (by conv => lhs; whnf))) rfl ?_; refine CallG.ret (fun w hS => awake_calls w) ?_))
    all_goals first | (exfalso; omega) | skip
    all_goals refine fnQ_tmp (.inl rfl) rfl (by conv => lhs; whnf) fun w' hS => ⟨?_, hS.below⟩
    all_goals rfl
  obtain ⟨n, rfl⟩ := Int.eq_ofNat_of_zero_le (Int.not_lt.1 h0)
  by_cases hn : xs.length ≤ n
  · skip
    repeat' (first
      | refine JE.pure rfl rfl (by conv => lhs; whnf) rfl ?_
      | refine JE.skip rfl rfl ?_
      | (refine JE.kBin ?_; first | (refine JE.int rfl rfl rfl rfl rfl rfl ?_; with_reducible refine JE.waysD (fun _ => ?_) (fun _ => ?_)) | refine JE.int rfl rfl rfl rfl (by rw [i64_id (by omega)]) rfl ?_ | refine JE.int rfl rfl rfl rfl rfl rfl ?_ | refine JE.eqBool rfl rfl rfl (by conv => lhs; whnf) rfl ?_ | refine JE.neBool rfl rfl rfl (by conv => lhs; whnf) rfl ?_ | (refine JE.eqStr rfl rfl rfl rfl ?_; with_reducible refine JE.waysD (fun _ => ?_) (fun _ => ?_)) | (refine JE.neStr rfl rfl rfl rfl ?_; with_reducible refine JE.waysD (fun _ => ?_) (fun _ => ?_)))
      | (refine JE.kField ?_; refine JE.fieldAddr rfl rfl rfl ?_)
      | (refine JE.kLoad ?_; first | refine JE.load1 rfl rfl (by repeat (first | exact In.head | refine In.tail ?_)) rfl (by conv => lhs; whnf) (fun _ => by first | trivial | exact ⟨.inl (by kernel_rfl), trivial⟩) rfl ?_ | refine JE.loadAll rfl rfl (by repeat (first | exact In.head | refine In.tail ?_)) (by rfl) (fun _ => by first | trivial | exact ⟨.inl (by kernel_rfl), trivial⟩) rfl ?_ | refine JE.loadN rfl rfl (by repeat (first | exact In.head | refine In.tail ?_)) (by conv => lhs; whnf) (by rfl) (fun _ => by first | trivial | exact ⟨.inl (by kernel_rfl), trivial⟩) rfl ?_)
      | (refine JE.kBox ?_; refine JE.box rfl (by conv => lhs; whnf) rfl (fun _ _ => ?_))
      | (refine JE.kAlloc ?_; refine JE.alloc rfl (by conv => lhs; whnf) rfl (fun _ _ => ?_))
      | (refine JE.kStore ?_; refine JE.store rfl rfl (by repeat (first | exact Turn.head | apply Turn.tail)) SizeT.size (by repeat (first | exact NfL.nil rfl | apply NfL.cons (by exact rfl) (by conv => lhs; whnf))) (by rfl) (by rfl) (by rfl) (by repeat (first | exact NfL.nil rfl | apply NfL.cons (by exact rfl) (by conv => lhs; whnf))) (by first | trivial | exact List.mem_cons_self) rfl ?_)
      | (refine JE.kBuiltin ?_; first | refine JE.lenSl rfl rfl rfl ?_ | refine JE.lenStr rfl rfl rfl ?_ | refine JE.max2 rfl rfl rfl rfl rfl ?_ | refine JE.min2 rfl rfl rfl rfl rfl ?_)
      | (refine JE.kBuild ?_; refine JE.build rfl rfl (by repeat (first | exact NfL.nil rfl | apply NfL.cons (by exact rfl) (by conv => lhs; whnf))) rfl ?_)
      | (refine JE.kBuildSlice ?_; refine JE.buildSlice rfl rfl rfl (by conv => lhs; whnf) (by rfl) (by rfl) (by repeat (first | exact NfL.nil rfl | apply NfL.cons (by exact rfl) (by conv => lhs; whnf))) rfl (fun _ _ => ?_))
      | (refine JE.kRange ?_; refine JE.rangeStr rfl rfl rfl (fun _ _ => ?_))
      | with_reducible refine JE.sN ?_
      | with_reducible refine JE.sX ?_
      | with_reducible refine JE.dN ?_
      | with_reducible refine JE.dX ?_
      | with_reducible refine J.seq ?_
      | with_reducible refine J.region ?_
      | refine J.condT rfl ?_
      | refine J.condF rfl ?_
      | with_reducible refine J.skip ?_
      | with_reducible refine J.exit ?_
      | with_reducible refine J.block ?_
      | with_reducible refine J.ret ?_
      | with_reducible refine JX.thenN ?_
      | with_reducible refine JX.thenR ?_
      | with_reducible refine JX.thenE ?_
      | with_reducible refine JX.blkS ?_
      | (with_reducible refine JX.blkE ?_ ?_; exact rfl)
      | with_reducible refine JX.blkN ?_
      | with_reducible refine JX.blkR ?_
      | (refine JE.isF 7 ?_; refine JE.call rfl rfl (by repeat (first | exact NfL.nil rfl | apply NfL.cons (by exact rfl) (by conv => lhs; whnf))) rfl ?_; refine CallG.ret (fun w hS => awake_calls w) ?_))
    all_goals first | (exfalso; omega) | skip
    all_goals refine fnQ_tmp (.inl rfl) rfl (by conv => lhs; whnf) fun w' hS => ⟨?_, hS.below⟩
    all_goals rfl
  cases hfit : fits s xs with
  | false =>
    repeat' (first
      | refine JE.pure rfl rfl (by conv => lhs; whnf) rfl ?_
      | refine JE.skip rfl rfl ?_
      | (refine JE.kBin ?_; first | (refine JE.int rfl rfl rfl rfl rfl rfl ?_; with_reducible refine JE.waysD (fun _ => ?_) (fun _ => ?_)) | refine JE.int rfl rfl rfl rfl (by rw [i64_id (by omega)]) rfl ?_ | refine JE.int rfl rfl rfl rfl rfl rfl ?_ | refine JE.eqBool rfl rfl rfl (by conv => lhs; whnf) rfl ?_ | refine JE.neBool rfl rfl rfl (by conv => lhs; whnf) rfl ?_ | (refine JE.eqStr rfl rfl rfl rfl ?_; with_reducible refine JE.waysD (fun _ => ?_) (fun _ => ?_)) | (refine JE.neStr rfl rfl rfl rfl ?_; with_reducible refine JE.waysD (fun _ => ?_) (fun _ => ?_)))
      | (refine JE.kField ?_; refine JE.fieldAddr rfl rfl rfl ?_)
      | (refine JE.kLoad ?_; first | refine JE.load1 rfl rfl (by repeat (first | exact In.head | refine In.tail ?_)) rfl (by conv => lhs; whnf) (fun _ => by first | trivial | exact ⟨.inl (by kernel_rfl), trivial⟩) rfl ?_ | refine JE.loadAll rfl rfl (by repeat (first | exact In.head | refine In.tail ?_)) (by rfl) (fun _ => by first | trivial | exact ⟨.inl (by kernel_rfl), trivial⟩) rfl ?_ | refine JE.loadN rfl rfl (by repeat (first | exact In.head | refine In.tail ?_)) (by conv => lhs; whnf) (by rfl) (fun _ => by first | trivial | exact ⟨.inl (by kernel_rfl), trivial⟩) rfl ?_)
      | (refine JE.kBox ?_; refine JE.box rfl (by conv => lhs; whnf) rfl (fun _ _ => ?_))
      | (refine JE.kAlloc ?_; refine JE.alloc rfl (by conv => lhs; whnf) rfl (fun _ _ => ?_))
      | (refine JE.kStore ?_; refine JE.store rfl rfl (by repeat (first | exact Turn.head | apply Turn.tail)) SizeT.size (by repeat (first | exact NfL.nil rfl | apply NfL.cons (by exact rfl) (by conv => lhs; whnf))) (by rfl) (by rfl) (by rfl) (by repeat (first | exact NfL.nil rfl | apply NfL.cons (by exact rfl) (by conv => lhs; whnf))) (by first | trivial | exact List.mem_cons_self) rfl ?_)
      | (refine JE.kBuiltin ?_; first | refine JE.lenSl rfl rfl rfl ?_ | refine JE.lenStr rfl rfl rfl ?_ | refine JE.max2 rfl rfl rfl rfl rfl ?_ | refine JE.min2 rfl rfl rfl rfl rfl ?_)
      | (refine JE.kBuild ?_; refine JE.build rfl rfl (by repeat (first | exact NfL.nil rfl | apply NfL.cons (by exact rfl) (by conv => lhs; whnf))) rfl ?_)
      | (refine JE.kBuildSlice ?_; refine JE.buildSlice rfl rfl rfl (by conv => lhs; whnf) (by rfl) (by rfl) (by repeat (first | exact NfL.nil rfl | apply NfL.cons (by exact rfl) (by conv => lhs; whnf))) rfl (fun _ _ => ?_))
      | (refine JE.kRange ?_; refine JE.rangeStr rfl rfl rfl (fun _ _ => ?_))
      | with_reducible refine JE.sN ?_
      | with_reducible refine JE.sX ?_
      | with_reducible refine JE.dN ?_
      | with_reducible refine JE.dX ?_
      | with_reducible refine J.seq ?_
      | with_reducible refine J.region ?_
      | refine J.condT rfl ?_
      | refine J.condF rfl ?_
      | with_reducible refine J.skip ?_
      | with_reducible refine J.exit ?_
      | with_reducible refine J.block ?_
      | with_reducible refine J.ret ?_
      | with_reducible refine JX.thenN ?_
      | with_reducible refine JX.thenR ?_
      | with_reducible refine JX.thenE ?_
      | with_reducible refine JX.blkS ?_
      | (with_reducible refine JX.blkE ?_ ?_; exact rfl)
      | with_reducible refine JX.blkN ?_
      | with_reducible refine JX.blkR ?_
      | (refine JE.isF 7 ?_; refine JE.call rfl rfl (by repeat (first | exact NfL.nil rfl | apply NfL.cons (by exact rfl) (by conv => lhs; whnf))) rfl ?_; refine CallG.ret (fun w hS => awake_calls w) ?_)
      | (refine JE.isF 8 ?_; refine JE.call rfl rfl (by repeat (first | exact NfL.nil rfl | apply NfL.cons (by exact rfl) (by conv => lhs; whnf))) rfl ?_; refine CallG.ret (fun w hS => hfit ▸ Fit_calls s hz _ xs w (hs.below hS.below) hx) ?_))
    all_goals first | (exfalso; omega) | skip
    all_goals refine fnQ_tmp (.inl rfl) rfl (by conv => lhs; whnf) fun w' hS => ⟨?_, hS.below⟩
    all_goals rfl
  | true =>
    have hlt : n < xs.length := by omega
    have hxn : xs[n]? = some xs[n] := List.getElem?_eq_getElem hlt
    generalize xs[n] = x at hxn
    obtain ⟨B, off, rfl, hr⟩ : ∃ B off, a = some ⟨B, off, none⟩ ∧ RowsAt 7 encLoad w B off xs := by
      obtain ⟨a1, c1, e1, h1⟩ := hs
      cases e1
      exact h1 (by rintro rfl; simp at hlt)
    obtain ⟨hmay, hlen, hfine⟩ := fits_fine hfit
    have hd := mayShip_dims hmay
    have hF := hfine x (List.mem_of_getElem? hxn)
    have ht := hF.tier
    have hwt := hF.weight
    obtain ⟨a1, a2, a3, a4⟩ := moms_mb hfit
    have hup := moms_up s hxn
    have hol : (xs.set n x.up).length = xs.length := List.length_set
    cases hfo : fits s (xs.set n x.up) with
    | true =>
      have M1 := fun w v hs hx => Moments_calls s v xs w hs hx hfit
      have M2 := fun w v hs hx => Moments_calls s v _ w hs hx hfo
      rw [hup] at M2
      repeat' (first
        | refine JE.pure rfl rfl (by conv => lhs; whnf) rfl ?_
        | refine JE.skip rfl rfl ?_
        | (refine JE.kBin ?_; first | (refine JE.int rfl rfl rfl rfl rfl rfl ?_; with_reducible refine JE.waysD (fun _ => ?_) (fun _ => ?_)) | refine JE.int rfl rfl rfl rfl (by rw [i64_id (by omega)]) rfl ?_ | refine JE.int rfl rfl rfl rfl rfl rfl ?_ | refine JE.eqBool rfl rfl rfl (by conv => lhs; whnf) rfl ?_ | refine JE.neBool rfl rfl rfl (by conv => lhs; whnf) rfl ?_ | (refine JE.eqStr rfl rfl rfl rfl ?_; with_reducible refine JE.waysD (fun _ => ?_) (fun _ => ?_)) | (refine JE.neStr rfl rfl rfl rfl ?_; with_reducible refine JE.waysD (fun _ => ?_) (fun _ => ?_)))
        | (refine JE.kField ?_; refine JE.fieldAddr rfl rfl rfl ?_)
        | (refine JE.kLoad ?_; first | refine JE.load1 rfl rfl (by repeat (first | exact In.head | refine In.tail ?_)) rfl (by conv => lhs; whnf) (fun _ => by first | trivial | exact ⟨.inl (by kernel_rfl), trivial⟩) rfl ?_ | refine JE.loadAll rfl rfl (by repeat (first | exact In.head | refine In.tail ?_)) (by rfl) (fun _ => by first | trivial | exact ⟨.inl (by kernel_rfl), trivial⟩) rfl ?_ | refine JE.loadN rfl rfl (by repeat (first | exact In.head | refine In.tail ?_)) (by conv => lhs; whnf) (by rfl) (fun _ => by first | trivial | exact ⟨.inl (by kernel_rfl), trivial⟩) rfl ?_)
        | (refine JE.kBox ?_; refine JE.box rfl (by conv => lhs; whnf) rfl (fun _ _ => ?_))
        | (refine JE.kAlloc ?_; refine JE.alloc rfl (by conv => lhs; whnf) rfl (fun _ _ => ?_))
        | (refine JE.kStore ?_; refine JE.store rfl rfl (by repeat (first | exact Turn.head | apply Turn.tail)) SizeT.size (by repeat (first | exact NfL.nil rfl | apply NfL.cons (by exact rfl) (by conv => lhs; whnf))) (by rfl) (by rfl) (by rfl) (by repeat (first | exact NfL.nil rfl | apply NfL.cons (by exact rfl) (by conv => lhs; whnf))) (by first | trivial | exact List.mem_cons_self) rfl ?_)
        | (refine JE.kBuiltin ?_; first | refine JE.lenSl rfl rfl rfl ?_ | refine JE.lenStr rfl rfl rfl ?_ | refine JE.max2 rfl rfl rfl rfl rfl ?_ | refine JE.min2 rfl rfl rfl rfl rfl ?_)
        | (refine JE.kBuild ?_; refine JE.build rfl rfl (by repeat (first | exact NfL.nil rfl | apply NfL.cons (by exact rfl) (by conv => lhs; whnf))) rfl ?_)
        | (refine JE.kBuildSlice ?_; refine JE.buildSlice rfl rfl rfl (by conv => lhs; whnf) (by rfl) (by rfl) (by repeat (first | exact NfL.nil rfl | apply NfL.cons (by exact rfl) (by conv => lhs; whnf))) rfl (fun _ _ => ?_))
        | (refine JE.kRange ?_; refine JE.rangeStr rfl rfl rfl (fun _ _ => ?_))
        | with_reducible refine JE.sN ?_
        | with_reducible refine JE.sX ?_
        | with_reducible refine JE.dN ?_
        | with_reducible refine JE.dX ?_
        | with_reducible refine J.seq ?_
        | with_reducible refine J.region ?_
        | refine J.condT rfl ?_
        | refine J.condF rfl ?_
        | with_reducible refine J.skip ?_
        | with_reducible refine J.exit ?_
        | with_reducible refine J.block ?_
        | with_reducible refine J.ret ?_
        | with_reducible refine JX.thenN ?_
        | with_reducible refine JX.thenR ?_
        | with_reducible refine JX.thenE ?_
        | with_reducible refine JX.blkS ?_
        | (with_reducible refine JX.blkE ?_ ?_; exact rfl)
        | with_reducible refine JX.blkN ?_
        | with_reducible refine JX.blkR ?_
        | (refine JE.isF 7 ?_; refine JE.call rfl rfl (by repeat (first | exact NfL.nil rfl | apply NfL.cons (by exact rfl) (by conv => lhs; whnf))) rfl ?_; refine CallG.ret (fun w hS => awake_calls w) ?_)
        | (refine JE.isF 8 ?_; refine JE.call rfl rfl (by repeat (first | exact NfL.nil rfl | apply NfL.cons (by exact rfl) (by conv => lhs; whnf))) rfl ?_; refine CallG.ret (fun w hS => hfit ▸ Fit_calls s hz _ xs w (hs.below hS.below) hx) ?_)
        | (refine JE.kBuildSlice ?_; refine JE.buildSlice0 rfl rfl (fun B0 hB0 => ?_))
        | (refine JE.kBuiltin ?_; refine JE.append (enc := encLoad) (ys := xs) rfl rfl (by repeat (first | exact Drop.head | apply Drop.tail)) rfl hB0 (OwnC.nil 7) (fun _ => rfl) (fun _ => rfl) (fun w hS => hs.below hS.below) (by omega) (by simp only [maxLen]; omega) (fun _ _ _ => trivial) rfl (fun B1 c1 cur1 hB1 ho1 => ?_); rw [List.nil_append, Nat.zero_add] at ho1))
      all_goals first | (exfalso; omega) | skip
      all_goals try (first | (refine fnQ_tmp (.inl rfl) rfl (by conv => lhs; whnf) fun w' hS => ⟨?_, hS.below⟩; rfl))
      repeat' (first
        | refine JE.pure rfl rfl (by conv => lhs; whnf) rfl ?_
        | refine JE.skip rfl rfl ?_
        | (refine JE.kBin ?_; first | (refine JE.int rfl rfl rfl rfl rfl rfl ?_; with_reducible refine JE.waysD (fun _ => ?_) (fun _ => ?_)) | refine JE.int rfl rfl rfl rfl (by rw [i64_id (by omega)]) rfl ?_ | refine JE.int rfl rfl rfl rfl rfl rfl ?_ | refine JE.eqBool rfl rfl rfl (by conv => lhs; whnf) rfl ?_ | refine JE.neBool rfl rfl rfl (by conv => lhs; whnf) rfl ?_ | (refine JE.eqStr rfl rfl rfl rfl ?_; with_reducible refine JE.waysD (fun _ => ?_) (fun _ => ?_)) | (refine JE.neStr rfl rfl rfl rfl ?_; with_reducible refine JE.waysD (fun _ => ?_) (fun _ => ?_)))
        | (refine JE.kField ?_; refine JE.fieldAddr rfl rfl rfl ?_)
        | (refine JE.kLoad ?_; first | refine JE.load1 rfl rfl (by repeat (first | exact In.head | refine In.tail ?_)) rfl (by conv => lhs; whnf) (fun _ => by first | trivial | exact ⟨.inl (by kernel_rfl), trivial⟩) rfl ?_ | refine JE.loadAll rfl rfl (by repeat (first | exact In.head | refine In.tail ?_)) (by rfl) (fun _ => by first | trivial | exact ⟨.inl (by kernel_rfl), trivial⟩) rfl ?_ | refine JE.loadN rfl rfl (by repeat (first | exact In.head | refine In.tail ?_)) (by conv => lhs; whnf) (by rfl) (fun _ => by first | trivial | exact ⟨.inl (by kernel_rfl), trivial⟩) rfl ?_)
        | (refine JE.kBox ?_; refine JE.box rfl (by conv => lhs; whnf) rfl (fun _ _ => ?_))
        | (refine JE.kAlloc ?_; refine JE.alloc rfl (by conv => lhs; whnf) rfl (fun _ _ => ?_))
        | (refine JE.kStore ?_; refine JE.store rfl rfl (by repeat (first | exact Turn.head | apply Turn.tail)) SizeT.size (by repeat (first | exact NfL.nil rfl | apply NfL.cons (by exact rfl) (by conv => lhs; whnf))) (by rfl) (by rfl) (by rfl) (by repeat (first | exact NfL.nil rfl | apply NfL.cons (by exact rfl) (by conv => lhs; whnf))) (by first | trivial | exact List.mem_cons_self) rfl ?_)
        | (refine JE.kBuiltin ?_; first | refine JE.lenSl rfl rfl rfl ?_ | refine JE.lenStr rfl rfl rfl ?_ | refine JE.max2 rfl rfl rfl rfl rfl ?_ | refine JE.min2 rfl rfl rfl rfl rfl ?_)
        | (refine JE.kBuild ?_; refine JE.build rfl rfl (by repeat (first | exact NfL.nil rfl | apply NfL.cons (by exact rfl) (by conv => lhs; whnf))) rfl ?_)
        | (refine JE.kBuildSlice ?_; refine JE.buildSlice rfl rfl rfl (by conv => lhs; whnf) (by rfl) (by rfl) (by repeat (first | exact NfL.nil rfl | apply NfL.cons (by exact rfl) (by conv => lhs; whnf))) rfl (fun _ _ => ?_))
        | (refine JE.kRange ?_; refine JE.rangeStr rfl rfl rfl (fun _ _ => ?_))
        | with_reducible refine JE.sN ?_
        | with_reducible refine JE.sX ?_
        | with_reducible refine JE.dN ?_
        | with_reducible refine JE.dX ?_
        | with_reducible refine J.seq ?_
        | with_reducible refine J.region ?_
        | refine J.condT rfl ?_
        | refine J.condF rfl ?_
        | with_reducible refine J.skip ?_
        | with_reducible refine J.exit ?_
        | with_reducible refine J.block ?_
        | with_reducible refine J.ret ?_
        | with_reducible refine JX.thenN ?_
        | with_reducible refine JX.thenR ?_
        | with_reducible refine JX.thenE ?_
        | with_reducible refine JX.blkS ?_
        | (with_reducible refine JX.blkE ?_ ?_; exact rfl)
        | with_reducible refine JX.blkN ?_
        | with_reducible refine JX.blkR ?_
        | (refine JE.kIndexAddr ?_; refine JE.indexAddr rfl rfl rfl (Int.natCast_nonneg _) (by omega) rfl ?_)
        | (refine JE.kLoad ?_; refine JE.loadOwn1 (v := .int .i64 x.slot.tier) rfl rfl (by repeat (first | exact In.head | refine In.tail ?_)) (by have := OwnC.get (k := 7) (enc := encLoad) (fun _ => rfl) ho1 hxn (j := 2) rfl; simpa using this) (fun _ => by first | trivial | exact ⟨.inl (by kernel_rfl), trivial⟩) rfl ?_)
        | (refine JE.kStore ?_; refine JE.storeOwn1 rfl rfl (by repeat (first | exact Turn.head | apply Turn.tail)) rfl SizeT.size rfl rfl (by have e1 := ho1.all; have e2 := ho1.room; omega) trivial rfl ?_))
      have ho2 := OwnC.set (k := 7) (enc := encLoad) (fun _ => rfl) ho1 (j := 2) (by omega) hxn (x' := x.up) (u := .int .i64 (x.slot.tier + 1)) rfl
      have e0 : 0 + (n : Int).toNat * 7 + 0 + 2 = n * 7 + 2 := by omega
      have el : 0 + xs.length = (xs.set n x.up).length := by omega
      have hsl : ∀ w : World, w.heap[B1]? = some (.cells (cur1.setIfInBounds (0 + (n : Int).toNat * 7 + 0 + 2) (.int .i64 (x.slot.tier + 1))) 33 (0, 0)) → Sl 7 encLoad w (.slice (some ⟨B1, 0, none⟩) (0 + xs.length) c1) (xs.set n x.up) := fun w hb => by
        rw [el]
        rw [e0] at hb
        exact OwnC.sl (k := 7) (enc := encLoad) (fun _ => rfl) ho2 hb
      repeat' (first
        | refine JE.pure rfl rfl (by conv => lhs; whnf) rfl ?_
        | refine JE.skip rfl rfl ?_
        | (refine JE.kBin ?_; first | (refine JE.int rfl rfl rfl rfl rfl rfl ?_; with_reducible refine JE.waysD (fun _ => ?_) (fun _ => ?_)) | refine JE.int rfl rfl rfl rfl (by rw [i64_id (by omega)]) rfl ?_ | refine JE.int rfl rfl rfl rfl rfl rfl ?_ | refine JE.eqBool rfl rfl rfl (by conv => lhs; whnf) rfl ?_ | refine JE.neBool rfl rfl rfl (by conv => lhs; whnf) rfl ?_ | (refine JE.eqStr rfl rfl rfl rfl ?_; with_reducible refine JE.waysD (fun _ => ?_) (fun _ => ?_)) | (refine JE.neStr rfl rfl rfl rfl ?_; with_reducible refine JE.waysD (fun _ => ?_) (fun _ => ?_)))
        | (refine JE.kField ?_; refine JE.fieldAddr rfl rfl rfl ?_)
        | (refine JE.kLoad ?_; first | refine JE.load1 rfl rfl (by repeat (first | exact In.head | refine In.tail ?_)) rfl (by conv => lhs; whnf) (fun _ => by first | trivial | exact ⟨.inl (by kernel_rfl), trivial⟩) rfl ?_ | refine JE.loadAll rfl rfl (by repeat (first | exact In.head | refine In.tail ?_)) (by rfl) (fun _ => by first | trivial | exact ⟨.inl (by kernel_rfl), trivial⟩) rfl ?_ | refine JE.loadN rfl rfl (by repeat (first | exact In.head | refine In.tail ?_)) (by conv => lhs; whnf) (by rfl) (fun _ => by first | trivial | exact ⟨.inl (by kernel_rfl), trivial⟩) rfl ?_)
        | (refine JE.kBox ?_; refine JE.box rfl (by conv => lhs; whnf) rfl (fun _ _ => ?_))
        | (refine JE.kAlloc ?_; refine JE.alloc rfl (by conv => lhs; whnf) rfl (fun _ _ => ?_))
        | (refine JE.kStore ?_; refine JE.store rfl rfl (by repeat (first | exact Turn.head | apply Turn.tail)) SizeT.size (by repeat (first | exact NfL.nil rfl | apply NfL.cons (by exact rfl) (by conv => lhs; whnf))) (by rfl) (by rfl) (by rfl) (by repeat (first | exact NfL.nil rfl | apply NfL.cons (by exact rfl) (by conv => lhs; whnf))) (by first | trivial | exact List.mem_cons_self) rfl ?_)
        | (refine JE.kBuiltin ?_; first | refine JE.lenSl rfl rfl rfl ?_ | refine JE.lenStr rfl rfl rfl ?_ | refine JE.max2 rfl rfl rfl rfl rfl ?_ | refine JE.min2 rfl rfl rfl rfl rfl ?_)
        | (refine JE.kBuild ?_; refine JE.build rfl rfl (by repeat (first | exact NfL.nil rfl | apply NfL.cons (by exact rfl) (by conv => lhs; whnf))) rfl ?_)
        | (refine JE.kBuildSlice ?_; refine JE.buildSlice rfl rfl rfl (by conv => lhs; whnf) (by rfl) (by rfl) (by repeat (first | exact NfL.nil rfl | apply NfL.cons (by exact rfl) (by conv => lhs; whnf))) rfl (fun _ _ => ?_))
        | (refine JE.kRange ?_; refine JE.rangeStr rfl rfl rfl (fun _ _ => ?_))
        | with_reducible refine JE.sN ?_
        | with_reducible refine JE.sX ?_
        | with_reducible refine JE.dN ?_
        | with_reducible refine JE.dX ?_
        | with_reducible refine J.seq ?_
        | with_reducible refine J.region ?_
        | refine J.condT rfl ?_
        | refine J.condF rfl ?_
        | with_reducible refine J.skip ?_
        | with_reducible refine J.exit ?_
        | with_reducible refine J.block ?_
        | with_reducible refine J.ret ?_
        | with_reducible refine JX.thenN ?_
        | with_reducible refine JX.thenR ?_
        | with_reducible refine JX.thenE ?_
        | with_reducible refine JX.blkS ?_
        | (with_reducible refine JX.blkE ?_ ?_; exact rfl)
        | with_reducible refine JX.blkN ?_
        | with_reducible refine JX.blkR ?_
        | (refine JE.isF 8 ?_; refine JE.call rfl rfl (by repeat (first | exact NfL.nil rfl | apply NfL.cons (by exact rfl) (by conv => lhs; whnf))) rfl ?_; refine CallG.ret (fun w hS => hfo ▸ Fit_calls s hz _ (xs.set n x.up) w (hsl w (hS.own _ (.head _))) (by omega)) ?_)
        | (refine JE.isF 9 ?_; refine JE.call rfl rfl (by repeat (first | exact NfL.nil rfl | apply NfL.cons (by exact rfl) (by conv => lhs; whnf))) rfl ?_; refine CallG.ret (fun w hS => M1 w _ (hs.below hS.below) hx) ?_)
        | (refine JE.isF 9 ?_; refine JE.call rfl rfl (by repeat (first | exact NfL.nil rfl | apply NfL.cons (by exact rfl) (by conv => lhs; whnf))) rfl ?_; refine CallG.ret (fun w hS => M2 w _ (hsl w (hS.own _ (.head _))) (by omega)) ?_)
        | (refine JE.kIndexAddr ?_; refine JE.indexAddr rfl rfl rfl (Int.natCast_nonneg _) (by omega) rfl ?_)
        | (refine JE.kLoad ?_; refine JE.loadRowC (o := 4) rfl rfl hr (by simp) hxn rfl rfl (fun _ => trivial) rfl ?_))
      all_goals first
        | (refine fnQ_tmp (.inl rfl) rfl (by conv => lhs; whnf) fun w' hS => ⟨?_, hS.below⟩; rfl)
        | (exfalso; simp only [not_true_eq_false] at *)
    | false =>
      repeat' (first
        | refine JE.pure rfl rfl (by conv => lhs; whnf) rfl ?_
        | refine JE.skip rfl rfl ?_
        | (refine JE.kBin ?_; first | (refine JE.int rfl rfl rfl rfl rfl rfl ?_; with_reducible refine JE.waysD (fun _ => ?_) (fun _ => ?_)) | refine JE.int rfl rfl rfl rfl (by rw [i64_id (by omega)]) rfl ?_ | refine JE.int rfl rfl rfl rfl rfl rfl ?_ | refine JE.eqBool rfl rfl rfl (by conv => lhs; whnf) rfl ?_ | refine JE.neBool rfl rfl rfl (by conv => lhs; whnf) rfl ?_ | (refine JE.eqStr rfl rfl rfl rfl ?_; with_reducible refine JE.waysD (fun _ => ?_) (fun _ => ?_)) | (refine JE.neStr rfl rfl rfl rfl ?_; with_reducible refine JE.waysD (fun _ => ?_) (fun _ => ?_)))
        | (refine JE.kField ?_; refine JE.fieldAddr rfl rfl rfl ?_)
        | (refine JE.kLoad ?_; first | refine JE.load1 rfl rfl (by repeat (first | exact In.head | refine In.tail ?_)) rfl (by conv => lhs; whnf) (fun _ => by first | trivial | exact ⟨.inl (by kernel_rfl), trivial⟩) rfl ?_ | refine JE.loadAll rfl rfl (by repeat (first | exact In.head | refine In.tail ?_)) (by rfl) (fun _ => by first | trivial | exact ⟨.inl (by kernel_rfl), trivial⟩) rfl ?_ | refine JE.loadN rfl rfl (by repeat (first | exact In.head | refine In.tail ?_)) (by conv => lhs; whnf) (by rfl) (fun _ => by first | trivial | exact ⟨.inl (by kernel_rfl), trivial⟩) rfl ?_)
        | (refine JE.kBox ?_; refine JE.box rfl (by conv => lhs; whnf) rfl (fun _ _ => ?_))
        | (refine JE.kAlloc ?_; refine JE.alloc rfl (by conv => lhs; whnf) rfl (fun _ _ => ?_))
        | (refine JE.kStore ?_; refine JE.store rfl rfl (by repeat (first | exact Turn.head | apply Turn.tail)) SizeT.size (by repeat (first | exact NfL.nil rfl | apply NfL.cons (by exact rfl) (by conv => lhs; whnf))) (by rfl) (by rfl) (by rfl) (by repeat (first | exact NfL.nil rfl | apply NfL.cons (by exact rfl) (by conv => lhs; whnf))) (by first | trivial | exact List.mem_cons_self) rfl ?_)
        | (refine JE.kBuiltin ?_; first | refine JE.lenSl rfl rfl rfl ?_ | refine JE.lenStr rfl rfl rfl ?_ | refine JE.max2 rfl rfl rfl rfl rfl ?_ | refine JE.min2 rfl rfl rfl rfl rfl ?_)
        | (refine JE.kBuild ?_; refine JE.build rfl rfl (by repeat (first | exact NfL.nil rfl | apply NfL.cons (by exact rfl) (by conv => lhs; whnf))) rfl ?_)
        | (refine JE.kBuildSlice ?_; refine JE.buildSlice rfl rfl rfl (by conv => lhs; whnf) (by rfl) (by rfl) (by repeat (first | exact NfL.nil rfl | apply NfL.cons (by exact rfl) (by conv => lhs; whnf))) rfl (fun _ _ => ?_))
        | (refine JE.kRange ?_; refine JE.rangeStr rfl rfl rfl (fun _ _ => ?_))
        | with_reducible refine JE.sN ?_
        | with_reducible refine JE.sX ?_
        | with_reducible refine JE.dN ?_
        | with_reducible refine JE.dX ?_
        | with_reducible refine J.seq ?_
        | with_reducible refine J.region ?_
        | refine J.condT rfl ?_
        | refine J.condF rfl ?_
        | with_reducible refine J.skip ?_
        | with_reducible refine J.exit ?_
        | with_reducible refine J.block ?_
        | with_reducible refine J.ret ?_
        | with_reducible refine JX.thenN ?_
        | with_reducible refine JX.thenR ?_
        | with_reducible refine JX.thenE ?_
        | with_reducible refine JX.blkS ?_
        | (with_reducible refine JX.blkE ?_ ?_; exact rfl)
        | with_reducible refine JX.blkN ?_
        | with_reducible refine JX.blkR ?_
        | (refine JE.isF 7 ?_; refine JE.call rfl rfl (by repeat (first | exact NfL.nil rfl | apply NfL.cons (by exact rfl) (by conv => lhs; whnf))) rfl ?_; refine CallG.ret (fun w hS => awake_calls w) ?_)
        | (refine JE.isF 8 ?_; refine JE.call rfl rfl (by repeat (first | exact NfL.nil rfl | apply NfL.cons (by exact rfl) (by conv => lhs; whnf))) rfl ?_; refine CallG.ret (fun w hS => hfit ▸ Fit_calls s hz _ xs w (hs.below hS.below) hx) ?_)
        | (refine JE.kBuildSlice ?_; refine JE.buildSlice0 rfl rfl (fun B0 hB0 => ?_))
        | (refine JE.kBuiltin ?_; refine JE.append (enc := encLoad) (ys := xs) rfl rfl (by repeat (first | exact Drop.head | apply Drop.tail)) rfl hB0 (OwnC.nil 7) (fun _ => rfl) (fun _ => rfl) (fun w hS => hs.below hS.below) (by omega) (by simp only [maxLen]; omega) (fun _ _ _ => trivial) rfl (fun B1 c1 cur1 hB1 ho1 => ?_); rw [List.nil_append, Nat.zero_add] at ho1))
      all_goals first | (exfalso; omega) | skip
      all_goals try (first | (refine fnQ_tmp (.inl rfl) rfl (by conv => lhs; whnf) fun w' hS => ⟨?_, hS.below⟩; rfl))
      repeat' (first
        | refine JE.pure rfl rfl (by conv => lhs; whnf) rfl ?_
        | refine JE.skip rfl rfl ?_
        | (refine JE.kBin ?_; first | (refine JE.int rfl rfl rfl rfl rfl rfl ?_; with_reducible refine JE.waysD (fun _ => ?_) (fun _ => ?_)) | refine JE.int rfl rfl rfl rfl (by rw [i64_id (by omega)]) rfl ?_ | refine JE.int rfl rfl rfl rfl rfl rfl ?_ | refine JE.eqBool rfl rfl rfl (by conv => lhs; whnf) rfl ?_ | refine JE.neBool rfl rfl rfl (by conv => lhs; whnf) rfl ?_ | (refine JE.eqStr rfl rfl rfl rfl ?_; with_reducible refine JE.waysD (fun _ => ?_) (fun _ => ?_)) | (refine JE.neStr rfl rfl rfl rfl ?_; with_reducible refine JE.waysD (fun _ => ?_) (fun _ => ?_)))
        | (refine JE.kField ?_; refine JE.fieldAddr rfl rfl rfl ?_)
        | (refine JE.kLoad ?_; first | refine JE.load1 rfl rfl (by repeat (first | exact In.head | refine In.tail ?_)) rfl (by conv => lhs; whnf) (fun _ => by first | trivial | exact ⟨.inl (by kernel_rfl), trivial⟩) rfl ?_ | refine JE.loadAll rfl rfl (by repeat (first | exact In.head | refine In.tail ?_)) (by rfl) (fun _ => by first | trivial | exact ⟨.inl (by kernel_rfl), trivial⟩) rfl ?_ | refine JE.loadN rfl rfl (by repeat (first | exact In.head | refine In.tail ?_)) (by conv => lhs; whnf) (by rfl) (fun _ => by first | trivial | exact ⟨.inl (by kernel_rfl), trivial⟩) rfl ?_)
        | (refine JE.kBox ?_; refine JE.box rfl (by conv => lhs; whnf) rfl (fun _ _ => ?_))
        | (refine JE.kAlloc ?_; refine JE.alloc rfl (by conv => lhs; whnf) rfl (fun _ _ => ?_))
        | (refine JE.kStore ?_; refine JE.store rfl rfl (by repeat (first | exact Turn.head | apply Turn.tail)) SizeT.size (by repeat (first | exact NfL.nil rfl | apply NfL.cons (by exact rfl) (by conv => lhs; whnf))) (by rfl) (by rfl) (by rfl) (by repeat (first | exact NfL.nil rfl | apply NfL.cons (by exact rfl) (by conv => lhs; whnf))) (by first | trivial | exact List.mem_cons_self) rfl ?_)
        | (refine JE.kBuiltin ?_; first | refine JE.lenSl rfl rfl rfl ?_ | refine JE.lenStr rfl rfl rfl ?_ | refine JE.max2 rfl rfl rfl rfl rfl ?_ | refine JE.min2 rfl rfl rfl rfl rfl ?_)
        | (refine JE.kBuild ?_; refine JE.build rfl rfl (by repeat (first | exact NfL.nil rfl | apply NfL.cons (by exact rfl) (by conv => lhs; whnf))) rfl ?_)
        | (refine JE.kBuildSlice ?_; refine JE.buildSlice rfl rfl rfl (by conv => lhs; whnf) (by rfl) (by rfl) (by repeat (first | exact NfL.nil rfl | apply NfL.cons (by exact rfl) (by conv => lhs; whnf))) rfl (fun _ _ => ?_))
        | (refine JE.kRange ?_; refine JE.rangeStr rfl rfl rfl (fun _ _ => ?_))
        | with_reducible refine JE.sN ?_
        | with_reducible refine JE.sX ?_
        | with_reducible refine JE.dN ?_
        | with_reducible refine JE.dX ?_
        | with_reducible refine J.seq ?_
        | with_reducible refine J.region ?_
        | refine J.condT rfl ?_
        | refine J.condF rfl ?_
        | with_reducible refine J.skip ?_
        | with_reducible refine J.exit ?_
        | with_reducible refine J.block ?_
        | with_reducible refine J.ret ?_
        | with_reducible refine JX.thenN ?_
        | with_reducible refine JX.thenR ?_
        | with_reducible refine JX.thenE ?_
        | with_reducible refine JX.blkS ?_
        | (with_reducible refine JX.blkE ?_ ?_; exact rfl)
        | with_reducible refine JX.blkN ?_
        | with_reducible refine JX.blkR ?_
        | (refine JE.kIndexAddr ?_; refine JE.indexAddr rfl rfl rfl (Int.natCast_nonneg _) (by omega) rfl ?_)
        | (refine JE.kLoad ?_; refine JE.loadOwn1 (v := .int .i64 x.slot.tier) rfl rfl (by repeat (first | exact In.head | refine In.tail ?_)) (by have := OwnC.get (k := 7) (enc := encLoad) (fun _ => rfl) ho1 hxn (j := 2) rfl; simpa using this) (fun _ => by first | trivial | exact ⟨.inl (by kernel_rfl), trivial⟩) rfl ?_)
        | (refine JE.kStore ?_; refine JE.storeOwn1 rfl rfl (by repeat (first | exact Turn.head | apply Turn.tail)) rfl SizeT.size rfl rfl (by have e1 := ho1.all; have e2 := ho1.room; omega) trivial rfl ?_))
      have ho2 := OwnC.set (k := 7) (enc := encLoad) (fun _ => rfl) ho1 (j := 2) (by omega) hxn (x' := x.up) (u := .int .i64 (x.slot.tier + 1)) rfl
      have e0 : 0 + (n : Int).toNat * 7 + 0 + 2 = n * 7 + 2 := by omega
      have el : 0 + xs.length = (xs.set n x.up).length := by omega
      have hsl : ∀ w : World, w.heap[B1]? = some (.cells (cur1.setIfInBounds (0 + (n : Int).toNat * 7 + 0 + 2) (.int .i64 (x.slot.tier + 1))) 33 (0, 0)) → Sl 7 encLoad w (.slice (some ⟨B1, 0, none⟩) (0 + xs.length) c1) (xs.set n x.up) := fun w hb => by
        rw [el]
        rw [e0] at hb
        exact OwnC.sl (k := 7) (enc := encLoad) (fun _ => rfl) ho2 hb
      repeat' (first
        | refine JE.pure rfl rfl (by conv => lhs; whnf) rfl ?_
        | refine JE.skip rfl rfl ?_
        | (refine JE.kBin ?_; first | (refine JE.int rfl rfl rfl rfl rfl rfl ?_; with_reducible refine JE.waysD (fun _ => ?_) (fun _ => ?_)) | refine JE.int rfl rfl rfl rfl (by rw [i64_id (by omega)]) rfl ?_ | refine JE.int rfl rfl rfl rfl rfl rfl ?_ | refine JE.eqBool rfl rfl rfl (by conv => lhs; whnf) rfl ?_ | refine JE.neBool rfl rfl rfl (by conv => lhs; whnf) rfl ?_ | (refine JE.eqStr rfl rfl rfl rfl ?_; with_reducible refine JE.waysD (fun _ => ?_) (fun _ => ?_)) | (refine JE.neStr rfl rfl rfl rfl ?_; with_reducible refine JE.waysD (fun _ => ?_) (fun _ => ?_)))
        | (refine JE.kField ?_; refine JE.fieldAddr rfl rfl rfl ?_)
        | (refine JE.kLoad ?_; first | refine JE.load1 rfl rfl (by repeat (first | exact In.head | refine In.tail ?_)) rfl (by conv => lhs; whnf) (fun _ => by first | trivial | exact ⟨.inl (by kernel_rfl), trivial⟩) rfl ?_ | refine JE.loadAll rfl rfl (by repeat (first | exact In.head | refine In.tail ?_)) (by rfl) (fun _ => by first | trivial | exact ⟨.inl (by kernel_rfl), trivial⟩) rfl ?_ | refine JE.loadN rfl rfl (by repeat (first | exact In.head | refine In.tail ?_)) (by conv => lhs; whnf) (by rfl) (fun _ => by first | trivial | exact ⟨.inl (by kernel_rfl), trivial⟩) rfl ?_)
        | (refine JE.kBox ?_; refine JE.box rfl (by conv => lhs; whnf) rfl (fun _ _ => ?_))
        | (refine JE.kAlloc ?_; refine JE.alloc rfl (by conv => lhs; whnf) rfl (fun _ _ => ?_))
        | (refine JE.kStore ?_; refine JE.store rfl rfl (by repeat (first | exact Turn.head | apply Turn.tail)) SizeT.size (by repeat (first | exact NfL.nil rfl | apply NfL.cons (by exact rfl) (by conv => lhs; whnf))) (by rfl) (by rfl) (by rfl) (by repeat (first | exact NfL.nil rfl | apply NfL.cons (by exact rfl) (by conv => lhs; whnf))) (by first | trivial | exact List.mem_cons_self) rfl ?_)
        | (refine JE.kBuiltin ?_; first | refine JE.lenSl rfl rfl rfl ?_ | refine JE.lenStr rfl rfl rfl ?_ | refine JE.max2 rfl rfl rfl rfl rfl ?_ | refine JE.min2 rfl rfl rfl rfl rfl ?_)
        | (refine JE.kBuild ?_; refine JE.build rfl rfl (by repeat (first | exact NfL.nil rfl | apply NfL.cons (by exact rfl) (by conv => lhs; whnf))) rfl ?_)
        | (refine JE.kBuildSlice ?_; refine JE.buildSlice rfl rfl rfl (by conv => lhs; whnf) (by rfl) (by rfl) (by repeat (first | exact NfL.nil rfl | apply NfL.cons (by exact rfl) (by conv => lhs; whnf))) rfl (fun _ _ => ?_))
        | (refine JE.kRange ?_; refine JE.rangeStr rfl rfl rfl (fun _ _ => ?_))
        | with_reducible refine JE.sN ?_
        | with_reducible refine JE.sX ?_
        | with_reducible refine JE.dN ?_
        | with_reducible refine JE.dX ?_
        | with_reducible refine J.seq ?_
        | with_reducible refine J.region ?_
        | refine J.condT rfl ?_
        | refine J.condF rfl ?_
        | with_reducible refine J.skip ?_
        | with_reducible refine J.exit ?_
        | with_reducible refine J.block ?_
        | with_reducible refine J.ret ?_
        | with_reducible refine JX.thenN ?_
        | with_reducible refine JX.thenR ?_
        | with_reducible refine JX.thenE ?_
        | with_reducible refine JX.blkS ?_
        | (with_reducible refine JX.blkE ?_ ?_; exact rfl)
        | with_reducible refine JX.blkN ?_
        | with_reducible refine JX.blkR ?_
        | (refine JE.isF 8 ?_; refine JE.call rfl rfl (by repeat (first | exact NfL.nil rfl | apply NfL.cons (by exact rfl) (by conv => lhs; whnf))) rfl ?_; refine CallG.ret (fun w hS => hfo ▸ Fit_calls s hz _ (xs.set n x.up) w (hsl w (hS.own _ (.head _))) (by omega)) ?_)
        | (refine JE.isF 10 ?_; refine JE.call rfl rfl (by repeat (first | exact NfL.nil rfl | apply NfL.cons (by exact rfl) (by conv => lhs; whnf))) rfl ?_; refine CallG.ret (fun w hS => Safe_unfit s _ (xs.set n x.up) w (hsl w (hS.own _ (.head _))) (by omega) hfo) ?_))
      all_goals first
        | (refine fnQ_tmp (.inl rfl) rfl (by conv => lhs; whnf) fun w' hS => ⟨?_, hS.below⟩; rfl)
        | (exfalso; simp only [not_true_eq_false] at *)

end Go.Proofs.Ytppidobalfelbaa
