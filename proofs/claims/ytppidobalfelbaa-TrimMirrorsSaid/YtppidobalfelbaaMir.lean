/-
  The walk of the statement TrimMirrors. Conditions: none.
-/
import Derived.Test.YtppidobalfelbaaBal
namespace Go.Proofs.Ytppidobalfelbaa
open Go Go.RowKit Go.Proofs.YtppidobalfelbaaSym

/-- A load at the other end, or on the other side. -/
def mir1 (s : Ship) (across : Bool) (x : Load) : Load :=
  match across with
  | true => { x with slot := { x.slot with row := s.rows - 1 - x.slot.row } }
  | false => { x with slot := { x.slot with bay := s.bays - 1 - x.slot.bay } }

theorem mir1_step (s : Ship) (across : Bool) (x : Load) (m : Mom) :
    mstep s m (mir1 s across x) = (match across with
      | true => ⟨m.long + x.weight * (2 * x.slot.bay - s.bays + 1), m.cross - x.weight * (2 * x.slot.row - s.rows + 1), m.up + x.weight * x.slot.tier, m.weight + x.weight⟩
      | false => ⟨m.long - x.weight * (2 * x.slot.bay - s.bays + 1), m.cross + x.weight * (2 * x.slot.row - s.rows + 1), m.up + x.weight * x.slot.tier, m.weight + x.weight⟩) := by
  cases across
  · simp only [mstep, mir1, Mom.mk.injEq, and_true]
    have e1 : 2 * (s.bays - 1 - x.slot.bay) - s.bays + 1 = -(2 * x.slot.bay - s.bays + 1) := by omega
    rw [e1, Int.mul_neg]; rfl
  · simp only [mstep, mir1, Mom.mk.injEq, and_true, true_and]
    have e2 : 2 * (s.rows - 1 - x.slot.row) - s.rows + 1 = -(2 * x.slot.row - s.rows + 1) := by omega
    rw [e2, Int.mul_neg]; rfl

def momMir (across : Bool) (m : Mom) : Mom :=
  match across with
  | true => ⟨m.long, -m.cross, m.up, m.weight⟩
  | false => ⟨-m.long, m.cross, m.up, m.weight⟩
theorem moms_mir1 (s : Ship) (across : Bool) : ∀ xs : List Load, moms s (xs.map (mir1 s across)) = momMir across (moms s xs)
  | [] => by cases across <;> rfl
  | x :: r => by
    have ih := moms_mir1 s across r
    have f1 : moms s (x :: r) = (moms s [x]).add (moms s r) := moms_append s [x] r
    have f2 : moms s ((x :: r).map (mir1 s across)) = (moms s [mir1 s across x]).add (moms s (r.map (mir1 s across))) := moms_append s [mir1 s across x] _
    have g2 : moms s [mir1 s across x] = mstep s ⟨0, 0, 0, 0⟩ (mir1 s across x) := rfl
    have g1 : moms s [x] = mstep s ⟨0, 0, 0, 0⟩ x := rfl
    rw [f1, f2, g1, g2, mir1_step, ih]
    cases across <;> (simp only [Mom.add, mstep, momMir]; congr 1 <;> omega)

theorem fine_mir {s : Ship} (across : Bool) {x : Load} (h : okLoad s x = true) : okLoad s (mir1 s across x) = true := by
  obtain ⟨⟨h1, h2⟩, ⟨h3, h4⟩, ⟨h5, h6⟩, ⟨h7, h8⟩⟩ := fine_of h
  cases across
  · show ((decide (0 ≤ s.bays - 1 - x.slot.bay ∧ s.bays - 1 - x.slot.bay < s.bays) && (decide (0 ≤ x.slot.row ∧ x.slot.row < s.rows) && decide (0 ≤ x.slot.tier ∧ x.slot.tier < s.tiers))) && decide (1 ≤ x.weight ∧ x.weight ≤ 1048576)) = true
    rw [decide_eq_true (p := 0 ≤ s.bays - 1 - x.slot.bay ∧ s.bays - 1 - x.slot.bay < s.bays) (by omega), decide_eq_true (p := 0 ≤ x.slot.row ∧ x.slot.row < s.rows) ⟨h3, h4⟩, decide_eq_true (p := 0 ≤ x.slot.tier ∧ x.slot.tier < s.tiers) ⟨h5, h6⟩, decide_eq_true (p := 1 ≤ x.weight ∧ x.weight ≤ 1048576) ⟨h7, h8⟩]
    rfl
  · show ((decide (0 ≤ x.slot.bay ∧ x.slot.bay < s.bays) && (decide (0 ≤ s.rows - 1 - x.slot.row ∧ s.rows - 1 - x.slot.row < s.rows) && decide (0 ≤ x.slot.tier ∧ x.slot.tier < s.tiers))) && decide (1 ≤ x.weight ∧ x.weight ≤ 1048576)) = true
    rw [decide_eq_true (p := 0 ≤ x.slot.bay ∧ x.slot.bay < s.bays) ⟨h1, h2⟩, decide_eq_true (p := 0 ≤ s.rows - 1 - x.slot.row ∧ s.rows - 1 - x.slot.row < s.rows) (by omega), decide_eq_true (p := 0 ≤ x.slot.tier ∧ x.slot.tier < s.tiers) ⟨h5, h6⟩, decide_eq_true (p := 1 ≤ x.weight ∧ x.weight ≤ 1048576) ⟨h7, h8⟩]
    rfl
theorem slot_inj {s : Ship} (across : Bool) {x y : Load} (h : (mir1 s across x).slot = (mir1 s across y).slot) : x.slot = y.slot := by
  obtain ⟨⟨a, b, c⟩, _, _, _, _⟩ := x
  obtain ⟨⟨a', b', c'⟩, _, _, _, _⟩ := y
  cases across <;> simp [mir1] at h ⊢ <;> omega
theorem nodup_mir {s : Ship} (across : Bool) : ∀ xs : List Load, (xs.map (·.slot)).Nodup → ((xs.map (mir1 s across)).map (·.slot)).Nodup
  | [], _ => by simp
  | x :: r, h => by
    simp only [List.map_cons, List.nodup_cons] at h ⊢
    refine ⟨fun hm => ?_, nodup_mir across r h.2⟩
    obtain ⟨z, hz, e⟩ := List.mem_map.1 hm
    obtain ⟨y, hy, rfl⟩ := List.mem_map.1 hz
    exact h.1 (List.mem_map.2 ⟨y, hy, slot_inj across e⟩)
theorem fits_mir {s : Ship} (across : Bool) {xs : List Load} (h : fits s xs = true) : fits s (xs.map (mir1 s across)) = true := by
  simp only [fits, fitsL, Bool.and_eq_true, decide_eq_true_eq, List.all_eq_true, List.length_map] at h ⊢
  refine ⟨h.1, h.2.1, fun z hz => ?_, nodup_mir across xs h.2.2.2⟩
  obtain ⟨y, hy, rfl⟩ := List.mem_map.1 hz
  exact fine_mir across (h.2.2.1 y hy)
theorem safe_mir (s : Ship) (across : Bool) (m : Mom) : safeC s (momMir across m) = safeC s m ∧ worst s (momMir across m) = worst s m := by
  have e (n : Int) : absI (-n) = absI n := by unfold absI; split <;> split <;> omega
  have hT : mTrim s (momMir across m) = mTrim s m := by cases across <;> simp only [mTrim, momMir, e]
  have hL : mList s (momMir across m) = mList s m := by cases across <;> simp only [mList, momMir, e]
  have hU : mUp s (momMir across m) = mUp s m := by cases across <;> rfl
  have hM : mMost s (momMir across m) = mMost s m := by cases across <;> rfl
  exact ⟨by rw [safeC, safeC, hT, hL, hU, hM], by rw [worst, worst, hT, hL, hU, hM]⟩

set_option maxRecDepth 100000 in
set_option maxHeartbeats 4000000 in
theorem Mir_calls (s : Ship) (hz : s.name.size ≤ 9223372036854775807) (a : Option Addr) (c : Nat) (xs : List Load) (across : Bool) (w : World) (hs : Sl 7 encLoad w (.slice a xs.length c) xs) (hx : xs.length ≤ 9223372036854775807) (hc : xs.length ≤ c) :
    Does Try.prog 6 [.agg (encShip s).toArray, .slice a xs.length c, .bool across] w (Ret w (.bool true)) := by
  refine calls_J (ys := [.agg (encShip s).toArray, .slice a xs.length c, .bool across]) Try.func6 rfl Try.ntmps6 rfl ?_
  refine J.at_ (S := St w [] []) ?_ (St.start w)
  cases hfit : fits s xs with
  | false =>
    repeat' (first
      | refine JE.pure rfl rfl (by conv => lhs; whnf) rfl ?_
      | refine JE.skip rfl rfl ?_
      | (refine JE.kBin ?_; first | (refine JE.int rfl rfl rfl rfl rfl rfl ?_; with_reducible refine JE.waysD (fun _ => ?_) (fun _ => ?_)) | refine JE.int rfl rfl rfl rfl (by rw [i64_id (by omega)]) rfl ?_ | refine JE.int rfl rfl rfl rfl rfl rfl ?_ | refine JE.eqBool rfl rfl rfl (by conv => lhs; whnf) rfl ?_ | refine JE.neBool rfl rfl rfl (by conv => lhs; whnf) rfl ?_ | (refine JE.eqStr rfl rfl rfl rfl ?_; with_reducible refine JE.waysD (fun _ => ?_) (fun _ => ?_)) | (refine JE.neStr rfl rfl rfl rfl ?_; with_reducible refine JE.waysD (fun _ => ?_) (fun _ => ?_)))
      | (refine JE.kField ?_; refine JE.fieldAddr rfl rfl rfl ?_)
      | (refine JE.kLoad ?_; first | refine JE.load1 rfl rfl (by repeat (first | exact In.head | refine In.tail ?_)) rfl (by conv => lhs; whnf) (fun _ => by first | trivial | exact ⟨.inr ‹_›, trivial⟩ | exact ⟨.inl (by kernel_rfl), trivial⟩ | exact ⟨.inr ‹_›, .inr ‹_›, trivial⟩ | exact ⟨.inl (by kernel_rfl), .inl (by kernel_rfl), trivial⟩) rfl ?_ | refine JE.loadAll rfl rfl (by repeat (first | exact In.head | refine In.tail ?_)) (by rfl) (fun _ => by first | trivial | exact ⟨.inr ‹_›, trivial⟩ | exact ⟨.inl (by kernel_rfl), trivial⟩ | exact ⟨.inr ‹_›, .inr ‹_›, trivial⟩ | exact ⟨.inl (by kernel_rfl), .inl (by kernel_rfl), trivial⟩) rfl ?_ | refine JE.loadN rfl rfl (by repeat (first | exact In.head | refine In.tail ?_)) (by conv => lhs; whnf) (by rfl) (fun _ => by first | trivial | exact ⟨.inr ‹_›, trivial⟩ | exact ⟨.inl (by kernel_rfl), trivial⟩ | exact ⟨.inr ‹_›, .inr ‹_›, trivial⟩ | exact ⟨.inl (by kernel_rfl), .inl (by kernel_rfl), trivial⟩) rfl ?_)
      | (refine JE.kBox ?_; refine JE.box rfl (by conv => lhs; whnf) rfl (fun _ _ => ?_))
      | (refine JE.kAlloc ?_; refine JE.alloc rfl (by conv => lhs; whnf) rfl (fun _ _ => ?_))
      | (refine JE.kStore ?_; refine JE.store rfl rfl (by repeat (first | exact Turn.head | apply Turn.tail)) SizeT.size (by repeat (first | exact NfL.nil rfl | apply NfL.cons (by exact rfl) (by conv => lhs; whnf))) (by rfl) (by rfl) (by rfl) (by repeat (first | exact NfL.nil rfl | apply NfL.cons (by exact rfl) (by conv => lhs; whnf))) (by first | trivial | exact List.mem_cons_self | exact List.mem_cons_of_mem _ List.mem_cons_self) rfl ?_)
      | (refine JE.kBuiltin ?_; first | refine JE.lenSl rfl rfl rfl ?_ | refine JE.lenStr rfl rfl rfl ?_ | refine JE.max2 rfl rfl rfl rfl rfl ?_ | refine JE.min2 rfl rfl rfl rfl rfl ?_)
      | (refine JE.kBuild ?_; refine JE.build rfl rfl (by repeat (first | exact NfL.nil rfl | apply NfL.cons (by exact rfl) (by conv => lhs; whnf))) rfl ?_)
      | (refine JE.kBuildSlice ?_; refine JE.buildSlice rfl rfl rfl (by conv => lhs; whnf) (by rfl) (by rfl) (by repeat (first | exact NfL.nil rfl | apply NfL.cons (by exact rfl) (by conv => lhs; whnf))) rfl (fun _ _ => ?_))
      | (refine JE.kRange ?_; refine JE.rangeStr rfl rfl rfl (fun _ _ => ?_))
      | with_reducible refine JE.sN ?_
      | with_reducible refine JE.sX ?_
      | with_reducible refine JE.dN ?_
      | with_reducible refine JE.dX ?_
      | with_reducible refine J.seq ?_
      | with_reducible refine J.region ?_
      | refine J.condT rfl ?_
      | refine J.condF rfl ?_
      | with_reducible refine J.skip ?_
      | with_reducible refine J.exit ?_
      | with_reducible refine J.block ?_
      | with_reducible refine J.ret ?_
      | with_reducible refine JX.thenN ?_
      | with_reducible refine JX.thenR ?_
      | with_reducible refine JX.thenE ?_
      | with_reducible refine JX.blkS ?_
      | (with_reducible refine JX.blkE ?_ ?_; exact rfl)
      | with_reducible refine JX.blkN ?_
      | with_reducible refine JX.blkR ?_
      | (refine JE.isF 7 ?_; refine JE.call rfl rfl (by repeat (first | exact NfL.nil rfl | apply NfL.cons (by exact rfl) (by conv => lhs; whnf))) rfl ?_; refine CallG.ret (fun w hS => awake_calls w) ?_)
      | (refine JE.isF 8 ?_; refine JE.call rfl rfl (by repeat (first | exact NfL.nil rfl | apply NfL.cons (by exact rfl) (by conv => lhs; whnf))) rfl ?_; refine CallG.ret (fun w hS => hfit ▸ Fit_calls s hz _ xs w (hs.below hS.below) hx) ?_))
    all_goals first | (exfalso; omega) | skip
    all_goals refine fnQ_tmp (.inl rfl) rfl (by conv => lhs; whnf) fun w' hS => ⟨?_, hS.below⟩
    all_goals rfl
  | true =>
    have hfo := fits_mir across hfit
    obtain ⟨hmay, hlen, hfine⟩ := fits_fine hfit
    have hd := mayShip_dims hmay
    obtain ⟨a1, a2, a3, a4⟩ := moms_mb hfit
    have M1 := fun w v hs hx => Moments_calls s v xs w hs hx hfit
    have M2 := fun w v hs hx => Moments_calls s v _ w hs hx hfo
    have S1 := fun w v hs hx => Safe_calls s v xs w hs hx hfit
    have S2 := fun w v hs hx => Safe_calls s v _ w hs hx hfo
    have W1 := fun w v hs hx => Worst_calls s v xs w hs hx hfit
    have W2 := fun w v hs hx => Worst_calls s v _ w hs hx hfo
    rw [moms_mir1] at M2 S2 W2
    rw [(safe_mir s across _).1] at S2
    rw [(safe_mir s across _).2] at W2
    generalize moms s xs = m at *
    repeat' (first
      | refine JE.pure rfl rfl (by conv => lhs; whnf) rfl ?_
      | refine JE.skip rfl rfl ?_
      | (refine JE.kBin ?_; first | (refine JE.int rfl rfl rfl rfl rfl rfl ?_; with_reducible refine JE.waysD (fun _ => ?_) (fun _ => ?_)) | refine JE.int rfl rfl rfl rfl (by rw [i64_id (by omega)]) rfl ?_ | refine JE.int rfl rfl rfl rfl rfl rfl ?_ | refine JE.eqBool rfl rfl rfl (by conv => lhs; whnf) rfl ?_ | refine JE.neBool rfl rfl rfl (by conv => lhs; whnf) rfl ?_ | (refine JE.eqStr rfl rfl rfl rfl ?_; with_reducible refine JE.waysD (fun _ => ?_) (fun _ => ?_)) | (refine JE.neStr rfl rfl rfl rfl ?_; with_reducible refine JE.waysD (fun _ => ?_) (fun _ => ?_)))
      | (refine JE.kField ?_; refine JE.fieldAddr rfl rfl rfl ?_)
      | (refine JE.kLoad ?_; first | refine JE.load1 rfl rfl (by repeat (first | exact In.head | refine In.tail ?_)) rfl (by conv => lhs; whnf) (fun _ => by first | trivial | exact ⟨.inr ‹_›, trivial⟩ | exact ⟨.inl (by kernel_rfl), trivial⟩ | exact ⟨.inr ‹_›, .inr ‹_›, trivial⟩ | exact ⟨.inl (by kernel_rfl), .inl (by kernel_rfl), trivial⟩) rfl ?_ | refine JE.loadAll rfl rfl (by repeat (first | exact In.head | refine In.tail ?_)) (by rfl) (fun _ => by first | trivial | exact ⟨.inr ‹_›, trivial⟩ | exact ⟨.inl (by kernel_rfl), trivial⟩ | exact ⟨.inr ‹_›, .inr ‹_›, trivial⟩ | exact ⟨.inl (by kernel_rfl), .inl (by kernel_rfl), trivial⟩) rfl ?_ | refine JE.loadN rfl rfl (by repeat (first | exact In.head | refine In.tail ?_)) (by conv => lhs; whnf) (by rfl) (fun _ => by first | trivial | exact ⟨.inr ‹_›, trivial⟩ | exact ⟨.inl (by kernel_rfl), trivial⟩ | exact ⟨.inr ‹_›, .inr ‹_›, trivial⟩ | exact ⟨.inl (by kernel_rfl), .inl (by kernel_rfl), trivial⟩) rfl ?_)
      | (refine JE.kBox ?_; refine JE.box rfl (by conv => lhs; whnf) rfl (fun _ _ => ?_))
      | (refine JE.kAlloc ?_; refine JE.alloc rfl (by conv => lhs; whnf) rfl (fun _ _ => ?_))
      | (refine JE.kStore ?_; refine JE.store rfl rfl (by repeat (first | exact Turn.head | apply Turn.tail)) SizeT.size (by repeat (first | exact NfL.nil rfl | apply NfL.cons (by exact rfl) (by conv => lhs; whnf))) (by rfl) (by rfl) (by rfl) (by repeat (first | exact NfL.nil rfl | apply NfL.cons (by exact rfl) (by conv => lhs; whnf))) (by first | trivial | exact List.mem_cons_self | exact List.mem_cons_of_mem _ List.mem_cons_self) rfl ?_)
      | (refine JE.kBuiltin ?_; first | refine JE.lenSl rfl rfl rfl ?_ | refine JE.lenStr rfl rfl rfl ?_ | refine JE.max2 rfl rfl rfl rfl rfl ?_ | refine JE.min2 rfl rfl rfl rfl rfl ?_)
      | (refine JE.kBuild ?_; refine JE.build rfl rfl (by repeat (first | exact NfL.nil rfl | apply NfL.cons (by exact rfl) (by conv => lhs; whnf))) rfl ?_)
      | (refine JE.kBuildSlice ?_; refine JE.buildSlice rfl rfl rfl (by conv => lhs; whnf) (by rfl) (by rfl) (by repeat (first | exact NfL.nil rfl | apply NfL.cons (by exact rfl) (by conv => lhs; whnf))) rfl (fun _ _ => ?_))
      | (refine JE.kRange ?_; refine JE.rangeStr rfl rfl rfl (fun _ _ => ?_))
      | with_reducible refine JE.sN ?_
      | with_reducible refine JE.sX ?_
      | with_reducible refine JE.dN ?_
      | with_reducible refine JE.dX ?_
      | with_reducible refine J.seq ?_
      | with_reducible refine J.region ?_
      | refine J.condT rfl ?_
      | refine J.condF rfl ?_
      | with_reducible refine J.skip ?_
      | with_reducible refine J.exit ?_
      | with_reducible refine J.block ?_
      | with_reducible refine J.ret ?_
      | with_reducible refine JX.thenN ?_
      | with_reducible refine JX.thenR ?_
      | with_reducible refine JX.thenE ?_
      | with_reducible refine JX.blkS ?_
      | (with_reducible refine JX.blkE ?_ ?_; exact rfl)
      | with_reducible refine JX.blkN ?_
      | with_reducible refine JX.blkR ?_
      | (refine JE.isF 7 ?_; refine JE.call rfl rfl (by repeat (first | exact NfL.nil rfl | apply NfL.cons (by exact rfl) (by conv => lhs; whnf))) rfl ?_; refine CallG.ret (fun w hS => awake_calls w) ?_)
      | (refine JE.isF 8 ?_; refine JE.call rfl rfl (by repeat (first | exact NfL.nil rfl | apply NfL.cons (by exact rfl) (by conv => lhs; whnf))) rfl ?_; refine CallG.ret (fun w hS => hfit ▸ Fit_calls s hz _ xs w (hs.below hS.below) hx) ?_)
      | (refine JE.kBuildSlice ?_; refine JE.buildSlice0 rfl rfl (fun B0 hB0 => ?_)))
    all_goals first | (exfalso; omega) | skip
    all_goals try (first | (refine fnQ_tmp (.inl rfl) rfl (by conv => lhs; whnf) fun w' hS => ⟨?_, hS.below⟩; rfl))
    rename_i b2 hb2 hlen2 hname
    refine J.loop (fun f w' => ∃ k B cap, ∃ cur : Array Value, k ≤ xs.length ∧ w.heap.size ≤ B ∧ OwnC 7 k cap cur (((xs.take k).map (mir1 s across)).flatMap encLoad) ∧ Has f [(1, .slice a xs.length c), (2, .bool across), (3, .pointer (some ⟨b2, 0, none⟩)), (7, .slice (some ⟨B, 0, none⟩) k cap), (8, .int .i64 k)] ∧ St w [] [(B, .cells cur 33 (0, 0)), (b2, cel (encShip s) 23)] w')
      (fun f _ => xs.length - (intOf (f 8)).toNat) (fun w' hS => ⟨0, B0, 0, #[], Nat.zero_le _, hB0, OwnC.nil 7, (by repeat' (first | exact trivial | refine And.intro (by rfl) ?_)), hS⟩) ?_
    rintro f w' ⟨k, B, cap, cur, hk, hB, ho, hf, hS⟩
    obtain ⟨g, rfl⟩ := hf.eq
    clear hf
    refine J.at_ ?_ hS
    by_cases hlt : k < xs.length
    · obtain ⟨BB, off, rfl, hr⟩ : ∃ B off, a = some ⟨B, off, none⟩ ∧ RowsAt 7 encLoad w B off xs := by
        obtain ⟨a1, c1, e1, h1⟩ := hs
        cases e1
        exact h1 (by rintro rfl; simp at hlt)
      have hxk : xs[k]? = some xs[k] := List.getElem?_eq_getElem hlt
      generalize xs[k] = x at hxk
      have hF := hfine x (List.mem_of_getElem? hxk)
      have h1 := hF.bay
      have h2 := hF.row
      have hsn := take_map_snoc (mir1 s across) hxk
      cases across with
      | true =>
        repeat' (first
          | refine JE.pure rfl rfl (by conv => lhs; whnf) rfl ?_
          | refine JE.skip rfl rfl ?_
          | (refine JE.kBin ?_; first | (refine JE.int rfl rfl rfl rfl rfl rfl ?_; with_reducible refine JE.waysD (fun _ => ?_) (fun _ => ?_)) | refine JE.int rfl rfl rfl rfl (by rw [i64_id (by omega)]) rfl ?_ | refine JE.int rfl rfl rfl rfl rfl rfl ?_ | refine JE.eqBool rfl rfl rfl (by conv => lhs; whnf) rfl ?_ | refine JE.neBool rfl rfl rfl (by conv => lhs; whnf) rfl ?_ | (refine JE.eqStr rfl rfl rfl rfl ?_; with_reducible refine JE.waysD (fun _ => ?_) (fun _ => ?_)) | (refine JE.neStr rfl rfl rfl rfl ?_; with_reducible refine JE.waysD (fun _ => ?_) (fun _ => ?_)))
          | (refine JE.kField ?_; refine JE.fieldAddr rfl rfl rfl ?_)
          | (refine JE.kLoad ?_; first | refine JE.load1 rfl rfl (by repeat (first | exact In.head | refine In.tail ?_)) rfl (by conv => lhs; whnf) (fun _ => by first | trivial | exact ⟨.inr ‹_›, trivial⟩ | exact ⟨.inl (by kernel_rfl), trivial⟩ | exact ⟨.inr ‹_›, .inr ‹_›, trivial⟩ | exact ⟨.inl (by kernel_rfl), .inl (by kernel_rfl), trivial⟩) rfl ?_ | refine JE.loadAll rfl rfl (by repeat (first | exact In.head | refine In.tail ?_)) (by rfl) (fun _ => by first | trivial | exact ⟨.inr ‹_›, trivial⟩ | exact ⟨.inl (by kernel_rfl), trivial⟩ | exact ⟨.inr ‹_›, .inr ‹_›, trivial⟩ | exact ⟨.inl (by kernel_rfl), .inl (by kernel_rfl), trivial⟩) rfl ?_ | refine JE.loadN rfl rfl (by repeat (first | exact In.head | refine In.tail ?_)) (by conv => lhs; whnf) (by rfl) (fun _ => by first | trivial | exact ⟨.inr ‹_›, trivial⟩ | exact ⟨.inl (by kernel_rfl), trivial⟩ | exact ⟨.inr ‹_›, .inr ‹_›, trivial⟩ | exact ⟨.inl (by kernel_rfl), .inl (by kernel_rfl), trivial⟩) rfl ?_)
          | (refine JE.kBox ?_; refine JE.box rfl (by conv => lhs; whnf) rfl (fun _ _ => ?_))
          | (refine JE.kAlloc ?_; refine JE.alloc rfl (by conv => lhs; whnf) rfl (fun _ _ => ?_))
          | (refine JE.kStore ?_; refine JE.store rfl rfl (by repeat (first | exact Turn.head | apply Turn.tail)) SizeT.size (by repeat (first | exact NfL.nil rfl | apply NfL.cons (by exact rfl) (by conv => lhs; whnf))) (by rfl) (by rfl) (by rfl) (by repeat (first | exact NfL.nil rfl | apply NfL.cons (by exact rfl) (by conv => lhs; whnf))) (by first | trivial | exact List.mem_cons_self | exact List.mem_cons_of_mem _ List.mem_cons_self) rfl ?_)
          | (refine JE.kBuiltin ?_; first | refine JE.lenSl rfl rfl rfl ?_ | refine JE.lenStr rfl rfl rfl ?_ | refine JE.max2 rfl rfl rfl rfl rfl ?_ | refine JE.min2 rfl rfl rfl rfl rfl ?_)
          | (refine JE.kBuild ?_; refine JE.build rfl rfl (by repeat (first | exact NfL.nil rfl | apply NfL.cons (by exact rfl) (by conv => lhs; whnf))) rfl ?_)
          | (refine JE.kBuildSlice ?_; refine JE.buildSlice rfl rfl rfl (by conv => lhs; whnf) (by rfl) (by rfl) (by repeat (first | exact NfL.nil rfl | apply NfL.cons (by exact rfl) (by conv => lhs; whnf))) rfl (fun _ _ => ?_))
          | (refine JE.kRange ?_; refine JE.rangeStr rfl rfl rfl (fun _ _ => ?_))
          | with_reducible refine JE.sN ?_
          | with_reducible refine JE.sX ?_
          | with_reducible refine JE.dN ?_
          | with_reducible refine JE.dX ?_
          | with_reducible refine J.seq ?_
          | with_reducible refine J.region ?_
          | refine J.condT rfl ?_
          | refine J.condF rfl ?_
          | with_reducible refine J.skip ?_
          | with_reducible refine J.exit ?_
          | with_reducible refine J.block ?_
          | with_reducible refine J.ret ?_
          | with_reducible refine JX.thenN ?_
          | with_reducible refine JX.thenR ?_
          | with_reducible refine JX.thenE ?_
          | with_reducible refine JX.blkS ?_
          | (with_reducible refine JX.blkE ?_ ?_; exact rfl)
          | with_reducible refine JX.blkN ?_
          | with_reducible refine JX.blkR ?_
          | (refine JE.kIndexAddr ?_; refine JE.indexAddr rfl rfl rfl (Int.natCast_nonneg _) (by omega) rfl ?_)
          | (refine JE.kLoad ?_; refine JE.loadRow rfl rfl hr (by simp) hxk rfl rfl (fun _ => trivial) rfl ?_)
          | (refine JE.kBuiltin ?_; refine JE.append (enc := encLoad) (ys := [mir1 s true x]) rfl rfl (by repeat (first | exact Drop.head | apply Drop.tail)) rfl hB ho (fun _ => rfl) (fun _ => rfl) (fun w hS => Sl.flat (k := 7) (enc := encLoad) (fun _ => rfl) [mir1 s true x] w _ _ 1 _ (hS.own _ (.head _)) ⟨[], rfl⟩) (by simp only [List.length_cons, List.length_nil]; omega) (by simp only [maxLen, List.length_cons, List.length_nil]; omega) (fun _ _ _ => trivial) rfl (fun B2 c2 cur2 hB2 ho2 => ?_)))
        all_goals first | (exfalso; omega) | skip
        refine JX.round fun w'' hS' => ⟨⟨k + 1, B2, c2, cur2, hlt, hB2, by rw [hsn, List.flatMap_append]; exact ho2, (by repeat' (first | exact trivial | refine And.intro (by rfl) ?_)), hS'.sub (.cons_cons _ (.cons _ (.cons _ (.refl _))))⟩, ?_⟩
        show xs.length - ((k : Int) + 1).toNat < xs.length - ((k : Int)).toNat
        omega
      | false =>
        repeat' (first
          | refine JE.pure rfl rfl (by conv => lhs; whnf) rfl ?_
          | refine JE.skip rfl rfl ?_
          | (refine JE.kBin ?_; first | (refine JE.int rfl rfl rfl rfl rfl rfl ?_; with_reducible refine JE.waysD (fun _ => ?_) (fun _ => ?_)) | refine JE.int rfl rfl rfl rfl (by rw [i64_id (by omega)]) rfl ?_ | refine JE.int rfl rfl rfl rfl rfl rfl ?_ | refine JE.eqBool rfl rfl rfl (by conv => lhs; whnf) rfl ?_ | refine JE.neBool rfl rfl rfl (by conv => lhs; whnf) rfl ?_ | (refine JE.eqStr rfl rfl rfl rfl ?_; with_reducible refine JE.waysD (fun _ => ?_) (fun _ => ?_)) | (refine JE.neStr rfl rfl rfl rfl ?_; with_reducible refine JE.waysD (fun _ => ?_) (fun _ => ?_)))
          | (refine JE.kField ?_; refine JE.fieldAddr rfl rfl rfl ?_)
          | (refine JE.kLoad ?_; first | refine JE.load1 rfl rfl (by repeat (first | exact In.head | refine In.tail ?_)) rfl (by conv => lhs; whnf) (fun _ => by first | trivial | exact ⟨.inr ‹_›, trivial⟩ | exact ⟨.inl (by kernel_rfl), trivial⟩ | exact ⟨.inr ‹_›, .inr ‹_›, trivial⟩ | exact ⟨.inl (by kernel_rfl), .inl (by kernel_rfl), trivial⟩) rfl ?_ | refine JE.loadAll rfl rfl (by repeat (first | exact In.head | refine In.tail ?_)) (by rfl) (fun _ => by first | trivial | exact ⟨.inr ‹_›, trivial⟩ | exact ⟨.inl (by kernel_rfl), trivial⟩ | exact ⟨.inr ‹_›, .inr ‹_›, trivial⟩ | exact ⟨.inl (by kernel_rfl), .inl (by kernel_rfl), trivial⟩) rfl ?_ | refine JE.loadN rfl rfl (by repeat (first | exact In.head | refine In.tail ?_)) (by conv => lhs; whnf) (by rfl) (fun _ => by first | trivial | exact ⟨.inr ‹_›, trivial⟩ | exact ⟨.inl (by kernel_rfl), trivial⟩ | exact ⟨.inr ‹_›, .inr ‹_›, trivial⟩ | exact ⟨.inl (by kernel_rfl), .inl (by kernel_rfl), trivial⟩) rfl ?_)
          | (refine JE.kBox ?_; refine JE.box rfl (by conv => lhs; whnf) rfl (fun _ _ => ?_))
          | (refine JE.kAlloc ?_; refine JE.alloc rfl (by conv => lhs; whnf) rfl (fun _ _ => ?_))
          | (refine JE.kStore ?_; refine JE.store rfl rfl (by repeat (first | exact Turn.head | apply Turn.tail)) SizeT.size (by repeat (first | exact NfL.nil rfl | apply NfL.cons (by exact rfl) (by conv => lhs; whnf))) (by rfl) (by rfl) (by rfl) (by repeat (first | exact NfL.nil rfl | apply NfL.cons (by exact rfl) (by conv => lhs; whnf))) (by first | trivial | exact List.mem_cons_self | exact List.mem_cons_of_mem _ List.mem_cons_self) rfl ?_)
          | (refine JE.kBuiltin ?_; first | refine JE.lenSl rfl rfl rfl ?_ | refine JE.lenStr rfl rfl rfl ?_ | refine JE.max2 rfl rfl rfl rfl rfl ?_ | refine JE.min2 rfl rfl rfl rfl rfl ?_)
          | (refine JE.kBuild ?_; refine JE.build rfl rfl (by repeat (first | exact NfL.nil rfl | apply NfL.cons (by exact rfl) (by conv => lhs; whnf))) rfl ?_)
          | (refine JE.kBuildSlice ?_; refine JE.buildSlice rfl rfl rfl (by conv => lhs; whnf) (by rfl) (by rfl) (by repeat (first | exact NfL.nil rfl | apply NfL.cons (by exact rfl) (by conv => lhs; whnf))) rfl (fun _ _ => ?_))
          | (refine JE.kRange ?_; refine JE.rangeStr rfl rfl rfl (fun _ _ => ?_))
          | with_reducible refine JE.sN ?_
          | with_reducible refine JE.sX ?_
          | with_reducible refine JE.dN ?_
          | with_reducible refine JE.dX ?_
          | with_reducible refine J.seq ?_
          | with_reducible refine J.region ?_
          | refine J.condT rfl ?_
          | refine J.condF rfl ?_
          | with_reducible refine J.skip ?_
          | with_reducible refine J.exit ?_
          | with_reducible refine J.block ?_
          | with_reducible refine J.ret ?_
          | with_reducible refine JX.thenN ?_
          | with_reducible refine JX.thenR ?_
          | with_reducible refine JX.thenE ?_
          | with_reducible refine JX.blkS ?_
          | (with_reducible refine JX.blkE ?_ ?_; exact rfl)
          | with_reducible refine JX.blkN ?_
          | with_reducible refine JX.blkR ?_
          | (refine JE.kIndexAddr ?_; refine JE.indexAddr rfl rfl rfl (Int.natCast_nonneg _) (by omega) rfl ?_)
          | (refine JE.kLoad ?_; refine JE.loadRow rfl rfl hr (by simp) hxk rfl rfl (fun _ => trivial) rfl ?_)
          | (refine JE.kBuiltin ?_; refine JE.append (enc := encLoad) (ys := [mir1 s false x]) rfl rfl (by repeat (first | exact Drop.head | apply Drop.tail)) rfl hB ho (fun _ => rfl) (fun _ => rfl) (fun w hS => Sl.flat (k := 7) (enc := encLoad) (fun _ => rfl) [mir1 s false x] w _ _ 1 _ (hS.own _ (.head _)) ⟨[], rfl⟩) (by simp only [List.length_cons, List.length_nil]; omega) (by simp only [maxLen, List.length_cons, List.length_nil]; omega) (fun _ _ _ => trivial) rfl (fun B2 c2 cur2 hB2 ho2 => ?_)))
        all_goals first | (exfalso; omega) | skip
        refine JX.round fun w'' hS' => ⟨⟨k + 1, B2, c2, cur2, hlt, hB2, by rw [hsn, List.flatMap_append]; exact ho2, (by repeat' (first | exact trivial | refine And.intro (by rfl) ?_)), hS'.sub (.cons_cons _ (.cons _ (.cons _ (.refl _))))⟩, ?_⟩
        show xs.length - ((k : Int) + 1).toNat < xs.length - ((k : Int)).toNat
        omega
    · have hk' : k = xs.length := by omega
      subst hk'
      rw [List.take_length] at ho
      have hyl : (xs.map (mir1 s across)).length ≤ 9223372036854775807 := by rw [List.length_map]; exact hx
      have hsl : ∀ w : World, w.heap[B]? = some (.cells cur 33 (0, 0)) → Sl 7 encLoad w (.slice (some ⟨B, 0, none⟩) xs.length cap) (xs.map (mir1 s across)) := fun w hb => by
        rw [← List.length_map (mir1 s across)] at ho ⊢
        exact OwnC.sl (k := 7) (enc := encLoad) (fun _ => rfl) ho hb
      cases across with
      | true =>
        simp only [momMir, encMom] at M1 M2
        have hneg : IntKind.i64.wrap (0 - m.cross) = -m.cross := by rw [i64_id (by omega)]; omega
        repeat' (first
          | refine JE.pure rfl rfl (by conv => lhs; whnf) rfl ?_
          | refine JE.skip rfl rfl ?_
          | (refine JE.kBin ?_; first | (refine JE.int rfl rfl rfl rfl rfl rfl ?_; with_reducible refine JE.waysD (fun _ => ?_) (fun _ => ?_)) | refine JE.int rfl rfl rfl rfl (by rw [i64_id (by omega)]) rfl ?_ | refine JE.int rfl rfl rfl rfl rfl rfl ?_ | refine JE.eqBool rfl rfl rfl (by conv => lhs; whnf) rfl ?_ | refine JE.neBool rfl rfl rfl (by conv => lhs; whnf) rfl ?_ | (refine JE.eqStr rfl rfl rfl rfl ?_; with_reducible refine JE.waysD (fun _ => ?_) (fun _ => ?_)) | (refine JE.neStr rfl rfl rfl rfl ?_; with_reducible refine JE.waysD (fun _ => ?_) (fun _ => ?_)))
          | (refine JE.kField ?_; refine JE.fieldAddr rfl rfl rfl ?_)
          | (refine JE.kLoad ?_; first | refine JE.load1 rfl rfl (by repeat (first | exact In.head | refine In.tail ?_)) rfl (by conv => lhs; whnf) (fun _ => by first | trivial | exact ⟨.inr ‹_›, trivial⟩ | exact ⟨.inl (by kernel_rfl), trivial⟩ | exact ⟨.inr ‹_›, .inr ‹_›, trivial⟩ | exact ⟨.inl (by kernel_rfl), .inl (by kernel_rfl), trivial⟩) rfl ?_ | refine JE.loadAll rfl rfl (by repeat (first | exact In.head | refine In.tail ?_)) (by rfl) (fun _ => by first | trivial | exact ⟨.inr ‹_›, trivial⟩ | exact ⟨.inl (by kernel_rfl), trivial⟩ | exact ⟨.inr ‹_›, .inr ‹_›, trivial⟩ | exact ⟨.inl (by kernel_rfl), .inl (by kernel_rfl), trivial⟩) rfl ?_ | refine JE.loadN rfl rfl (by repeat (first | exact In.head | refine In.tail ?_)) (by conv => lhs; whnf) (by rfl) (fun _ => by first | trivial | exact ⟨.inr ‹_›, trivial⟩ | exact ⟨.inl (by kernel_rfl), trivial⟩ | exact ⟨.inr ‹_›, .inr ‹_›, trivial⟩ | exact ⟨.inl (by kernel_rfl), .inl (by kernel_rfl), trivial⟩) rfl ?_)
          | (refine JE.kBox ?_; refine JE.box rfl (by conv => lhs; whnf) rfl (fun _ _ => ?_))
          | (refine JE.kAlloc ?_; refine JE.alloc rfl (by conv => lhs; whnf) rfl (fun _ _ => ?_))
          | (refine JE.kStore ?_; refine JE.store rfl rfl (by repeat (first | exact Turn.head | apply Turn.tail)) SizeT.size (by repeat (first | exact NfL.nil rfl | apply NfL.cons (by exact rfl) (by conv => lhs; whnf))) (by rfl) (by rfl) (by rfl) (by repeat (first | exact NfL.nil rfl | apply NfL.cons (by exact rfl) (by conv => lhs; whnf))) (by first | trivial | exact List.mem_cons_self | exact List.mem_cons_of_mem _ List.mem_cons_self) rfl ?_)
          | (refine JE.kBuiltin ?_; first | refine JE.lenSl rfl rfl rfl ?_ | refine JE.lenStr rfl rfl rfl ?_ | refine JE.max2 rfl rfl rfl rfl rfl ?_ | refine JE.min2 rfl rfl rfl rfl rfl ?_)
          | (refine JE.kBuild ?_; refine JE.build rfl rfl (by repeat (first | exact NfL.nil rfl | apply NfL.cons (by exact rfl) (by conv => lhs; whnf))) rfl ?_)
          | (refine JE.kBuildSlice ?_; refine JE.buildSlice rfl rfl rfl (by conv => lhs; whnf) (by rfl) (by rfl) (by repeat (first | exact NfL.nil rfl | apply NfL.cons (by exact rfl) (by conv => lhs; whnf))) rfl (fun _ _ => ?_))
          | (refine JE.kRange ?_; refine JE.rangeStr rfl rfl rfl (fun _ _ => ?_))
          | with_reducible refine JE.sN ?_
          | with_reducible refine JE.sX ?_
          | with_reducible refine JE.dN ?_
          | with_reducible refine JE.dX ?_
          | with_reducible refine J.seq ?_
          | with_reducible refine J.region ?_
          | refine J.condT rfl ?_
          | refine J.condF rfl ?_
          | with_reducible refine J.skip ?_
          | with_reducible refine J.exit ?_
          | with_reducible refine J.block ?_
          | with_reducible refine J.ret ?_
          | with_reducible refine JX.thenN ?_
          | with_reducible refine JX.thenR ?_
          | with_reducible refine JX.thenE ?_
          | with_reducible refine JX.blkS ?_
          | (with_reducible refine JX.blkE ?_ ?_; exact rfl)
          | with_reducible refine JX.blkN ?_
          | with_reducible refine JX.blkR ?_
          | (refine JE.isF 9 ?_; refine JE.call rfl rfl (by repeat (first | exact NfL.nil rfl | apply NfL.cons (by exact rfl) (by conv => lhs; whnf))) rfl ?_; refine CallG.ret (fun w hS => M1 w _ (hs.below hS.below) hx) ?_)
          | (refine JE.isF 9 ?_; refine JE.call rfl rfl (by repeat (first | exact NfL.nil rfl | apply NfL.cons (by exact rfl) (by conv => lhs; whnf))) rfl ?_; refine CallG.ret (fun w hS => M2 w _ (hsl w (hS.own _ (.head _))) hyl) ?_)
          | (refine JE.isF 11 ?_; refine JE.call rfl rfl (by repeat (first | exact NfL.nil rfl | apply NfL.cons (by exact rfl) (by conv => lhs; whnf))) rfl ?_; refine CallG.ret (fun w hS => W1 w _ (hs.below hS.below) hx) ?_)
          | (refine JE.isF 11 ?_; refine JE.call rfl rfl (by repeat (first | exact NfL.nil rfl | apply NfL.cons (by exact rfl) (by conv => lhs; whnf))) rfl ?_; refine CallG.ret (fun w hS => W2 w _ (hsl w (hS.own _ (.head _))) hyl) ?_)
          | (refine JE.isF 10 ?_; refine JE.call rfl rfl (by repeat (first | exact NfL.nil rfl | apply NfL.cons (by exact rfl) (by conv => lhs; whnf))) rfl ?_; refine CallG.ret (fun w hS => S1 w _ (hs.below hS.below) hx) ?_)
          | (refine JE.isF 10 ?_; refine JE.call rfl rfl (by repeat (first | exact NfL.nil rfl | apply NfL.cons (by exact rfl) (by conv => lhs; whnf))) rfl ?_; refine CallG.ret (fun w hS => S2 w _ (hsl w (hS.own _ (.head _))) hyl) ?_)
          | (refine J.isR 20 ?_; refine J.draw [(0,true),(1,true),(2,true),(3,true),(4,true),(5,true),(6,true),(7,true),(8,true),(9,true),(10,true),(11,true),(12,true),(13,true),(14,true),(15,true),(16,true),(17,true),(18,true),(19,true),(20,true),(22,true),(23,true),(21,false),(24,false),(25,true),(26,true),(27,true)] [] mixed (by kernel_rfl) (fun _ h => h.drew) ?_))
        all_goals first | (exfalso; omega) | skip
        all_goals first
          | (exfalso; exact absurd hneg.symm ‹_›)
          | (exfalso; exact absurd rfl ‹¬ (worst s m).fst = (worst s m).fst›)
          | (refine fnQ_tmp (.inl rfl) rfl (by conv => lhs; whnf) fun w'' hS' => ⟨?_, hS'.below⟩; rfl)
      | false =>
        simp only [momMir, encMom] at M1 M2
        have hneg : IntKind.i64.wrap (0 - m.long) = -m.long := by rw [i64_id (by omega)]; omega
        repeat' (first
          | refine JE.pure rfl rfl (by conv => lhs; whnf) rfl ?_
          | refine JE.skip rfl rfl ?_
          | (refine JE.kBin ?_; first | (refine JE.int rfl rfl rfl rfl rfl rfl ?_; with_reducible refine JE.waysD (fun _ => ?_) (fun _ => ?_)) | refine JE.int rfl rfl rfl rfl (by rw [i64_id (by omega)]) rfl ?_ | refine JE.int rfl rfl rfl rfl rfl rfl ?_ | refine JE.eqBool rfl rfl rfl (by conv => lhs; whnf) rfl ?_ | refine JE.neBool rfl rfl rfl (by conv => lhs; whnf) rfl ?_ | (refine JE.eqStr rfl rfl rfl rfl ?_; with_reducible refine JE.waysD (fun _ => ?_) (fun _ => ?_)) | (refine JE.neStr rfl rfl rfl rfl ?_; with_reducible refine JE.waysD (fun _ => ?_) (fun _ => ?_)))
          | (refine JE.kField ?_; refine JE.fieldAddr rfl rfl rfl ?_)
          | (refine JE.kLoad ?_; first | refine JE.load1 rfl rfl (by repeat (first | exact In.head | refine In.tail ?_)) rfl (by conv => lhs; whnf) (fun _ => by first | trivial | exact ⟨.inr ‹_›, trivial⟩ | exact ⟨.inl (by kernel_rfl), trivial⟩ | exact ⟨.inr ‹_›, .inr ‹_›, trivial⟩ | exact ⟨.inl (by kernel_rfl), .inl (by kernel_rfl), trivial⟩) rfl ?_ | refine JE.loadAll rfl rfl (by repeat (first | exact In.head | refine In.tail ?_)) (by rfl) (fun _ => by first | trivial | exact ⟨.inr ‹_›, trivial⟩ | exact ⟨.inl (by kernel_rfl), trivial⟩ | exact ⟨.inr ‹_›, .inr ‹_›, trivial⟩ | exact ⟨.inl (by kernel_rfl), .inl (by kernel_rfl), trivial⟩) rfl ?_ | refine JE.loadN rfl rfl (by repeat (first | exact In.head | refine In.tail ?_)) (by conv => lhs; whnf) (by rfl) (fun _ => by first | trivial | exact ⟨.inr ‹_›, trivial⟩ | exact ⟨.inl (by kernel_rfl), trivial⟩ | exact ⟨.inr ‹_›, .inr ‹_›, trivial⟩ | exact ⟨.inl (by kernel_rfl), .inl (by kernel_rfl), trivial⟩) rfl ?_)
          | (refine JE.kBox ?_; refine JE.box rfl (by conv => lhs; whnf) rfl (fun _ _ => ?_))
          | (refine JE.kAlloc ?_; refine JE.alloc rfl (by conv => lhs; whnf) rfl (fun _ _ => ?_))
          | (refine JE.kStore ?_; refine JE.store rfl rfl (by repeat (first | exact Turn.head | apply Turn.tail)) SizeT.size (by repeat (first | exact NfL.nil rfl | apply NfL.cons (by exact rfl) (by conv => lhs; whnf))) (by rfl) (by rfl) (by rfl) (by repeat (first | exact NfL.nil rfl | apply NfL.cons (by exact rfl) (by conv => lhs; whnf))) (by first | trivial | exact List.mem_cons_self | exact List.mem_cons_of_mem _ List.mem_cons_self) rfl ?_)
          | (refine JE.kBuiltin ?_; first | refine JE.lenSl rfl rfl rfl ?_ | refine JE.lenStr rfl rfl rfl ?_ | refine JE.max2 rfl rfl rfl rfl rfl ?_ | refine JE.min2 rfl rfl rfl rfl rfl ?_)
          | (refine JE.kBuild ?_; refine JE.build rfl rfl (by repeat (first | exact NfL.nil rfl | apply NfL.cons (by exact rfl) (by conv => lhs; whnf))) rfl ?_)
          | (refine JE.kBuildSlice ?_; refine JE.buildSlice rfl rfl rfl (by conv => lhs; whnf) (by rfl) (by rfl) (by repeat (first | exact NfL.nil rfl | apply NfL.cons (by exact rfl) (by conv => lhs; whnf))) rfl (fun _ _ => ?_))
          | (refine JE.kRange ?_; refine JE.rangeStr rfl rfl rfl (fun _ _ => ?_))
          | with_reducible refine JE.sN ?_
          | with_reducible refine JE.sX ?_
          | with_reducible refine JE.dN ?_
          | with_reducible refine JE.dX ?_
          | with_reducible refine J.seq ?_
          | with_reducible refine J.region ?_
          | refine J.condT rfl ?_
          | refine J.condF rfl ?_
          | with_reducible refine J.skip ?_
          | with_reducible refine J.exit ?_
          | with_reducible refine J.block ?_
          | with_reducible refine J.ret ?_
          | with_reducible refine JX.thenN ?_
          | with_reducible refine JX.thenR ?_
          | with_reducible refine JX.thenE ?_
          | with_reducible refine JX.blkS ?_
          | (with_reducible refine JX.blkE ?_ ?_; exact rfl)
          | with_reducible refine JX.blkN ?_
          | with_reducible refine JX.blkR ?_
          | (refine JE.isF 9 ?_; refine JE.call rfl rfl (by repeat (first | exact NfL.nil rfl | apply NfL.cons (by exact rfl) (by conv => lhs; whnf))) rfl ?_; refine CallG.ret (fun w hS => M1 w _ (hs.below hS.below) hx) ?_)
          | (refine JE.isF 9 ?_; refine JE.call rfl rfl (by repeat (first | exact NfL.nil rfl | apply NfL.cons (by exact rfl) (by conv => lhs; whnf))) rfl ?_; refine CallG.ret (fun w hS => M2 w _ (hsl w (hS.own _ (.head _))) hyl) ?_)
          | (refine JE.isF 11 ?_; refine JE.call rfl rfl (by repeat (first | exact NfL.nil rfl | apply NfL.cons (by exact rfl) (by conv => lhs; whnf))) rfl ?_; refine CallG.ret (fun w hS => W1 w _ (hs.below hS.below) hx) ?_)
          | (refine JE.isF 11 ?_; refine JE.call rfl rfl (by repeat (first | exact NfL.nil rfl | apply NfL.cons (by exact rfl) (by conv => lhs; whnf))) rfl ?_; refine CallG.ret (fun w hS => W2 w _ (hsl w (hS.own _ (.head _))) hyl) ?_)
          | (refine JE.isF 10 ?_; refine JE.call rfl rfl (by repeat (first | exact NfL.nil rfl | apply NfL.cons (by exact rfl) (by conv => lhs; whnf))) rfl ?_; refine CallG.ret (fun w hS => S1 w _ (hs.below hS.below) hx) ?_)
          | (refine JE.isF 10 ?_; refine JE.call rfl rfl (by repeat (first | exact NfL.nil rfl | apply NfL.cons (by exact rfl) (by conv => lhs; whnf))) rfl ?_; refine CallG.ret (fun w hS => S2 w _ (hsl w (hS.own _ (.head _))) hyl) ?_)
          | (refine J.isR 20 ?_; refine J.draw [(0,true),(1,true),(2,true),(3,true),(4,true),(5,true),(6,true),(7,true),(8,true),(9,true),(10,true),(11,true),(12,true),(13,true),(14,true),(15,true),(16,true),(17,true),(18,true),(19,true),(20,true),(22,true),(23,true),(21,false),(24,false),(25,true),(26,true),(27,true)] [] mixed (by kernel_rfl) (fun _ h => h.drew) ?_))
        all_goals first | (exfalso; omega) | skip
        all_goals first
          | (exfalso; exact absurd hneg.symm ‹_›)
          | (exfalso; exact absurd rfl ‹¬ (worst s m).fst = (worst s m).fst›)
          | (refine fnQ_tmp (.inl rfl) rfl (by conv => lhs; whnf) fun w'' hS' => ⟨?_, hS'.below⟩; rfl)

end Go.Proofs.Ytppidobalfelbaa
