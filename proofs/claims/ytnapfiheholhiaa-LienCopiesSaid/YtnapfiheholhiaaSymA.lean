/-
  Merging one pledge into a sorted row in place. Conditions: none.
-/
import Derived.Test.YtnapfiheholhiaaRot2
import Derived.Test.YtnapfiheholhiaaMid
set_option linter.unusedVariables false
set_option linter.unusedSimpArgs false
namespace Go.Proofs.Ytnapfiheholhiaa
open Go Go.RowKit Go.Proofs.YtnapfiheholhiaaSym

theorem rankI_neg (x y : Pledge) : rankI x y < 0 ↔ firstP x < firstP y ∨ (firstP x = firstP y ∧ x.day < y.day) := by
  unfold rankI
  generalize firstP x = a
  generalize firstP y = b
  generalize x.day = c
  generalize y.day = d
  have h1 : cmpI a b = -1 ∧ a < b ∨ cmpI a b = 1 ∧ b < a ∨ cmpI a b = 0 ∧ a = b := by
    unfold cmpI
    repeat' split
    all_goals omega
  have h2 : cmpI c d = -1 ∧ c < d ∨ cmpI c d = 1 ∧ d < c ∨ cmpI c d = 0 ∧ c = d := by
    unfold cmpI
    repeat' split
    all_goals omega
  unfold orI
  split <;> omega
theorem passes_weak : Weak passes := by
  constructor
  · intro x y z h1 h2
    simp only [passes, decide_eq_false_iff_not, rankI_neg] at *
    omega
  · intro x y h
    simp only [passes, decide_eq_false_iff_not, decide_eq_true_eq, rankI_neg] at *
    omega

theorem merge_one {α : Type} {lt : α → α → Bool} {x : α} {R1 R2 : List α} (h1 : ∀ y ∈ R1, lt y x = true) (h2 : ∀ y ∈ R2, lt y x = false) : mergeB lt [x] (R1 ++ R2) = R1 ++ x :: R2 := by
  have e1 := merge_cut (lt := lt) _ [] R1 [x] R2 rfl (fun r hr l hl => by rw [List.mem_singleton.1 hl]; exact h1 r hr) (by simp)
  have e2 := merge_cut (lt := lt) _ [x] [] [] R2 rfl (by simp) (fun l hl r hr => by rw [List.mem_singleton.1 hl]; exact h2 r hr)
  rw [List.nil_append, mergeB_nil'] at e1
  rw [List.append_nil, List.nil_append, mergeB_nil, mergeB_nil'] at e2
  rw [e1, e2]; rfl

theorem sorted_get {α : Type} {lt : α → α → Bool} {R : List α} (hs : SortedB lt R) {p q : Nat} {y z : α} (hpq : p < q) (hy : R[p]? = some y) (hz : R[q]? = some z) : lt z y = false := by
  obtain ⟨h1, rfl⟩ := List.getElem?_eq_some_iff.1 hy
  obtain ⟨h2, rfl⟩ := List.getElem?_eq_some_iff.1 hz
  exact List.pairwise_iff_getElem.1 hs p q h1 h2 hpq

theorem swap2 {α : Type} {A Z : List α} {x y : α} {k : Nat} (hk : k = A.length) : ((A ++ x :: y :: Z).set k y).set (k + 1) x = A ++ y :: x :: Z := by
  subst hk
  rw [List.set_append_right _ _ (Nat.le_refl _), Nat.sub_self, List.set_cons_zero, List.set_append_right _ _ (Nat.le_add_right _ _), Nat.add_sub_cancel_left, List.set_cons_succ, List.set_cons_zero]

set_option maxRecDepth 100000 in
set_option maxHeartbeats 4000000 in
theorem sym1_calls {B cap n : Nat} (c : Nat) {P R S : List Pledge} {x : Pledge} {ln : List (Nat × Obj)} {a m b : Nat} (w : World) (hr : RowO B cap n (P ++ (x :: (R ++ S))) ln) (hown : ∀ x ∈ ln, w.heap[x.1]? = some x.2)
    (ha : a = P.length) (hm : m = a + 1) (hb : b = m + R.length) (hs : SortedB passes R) (hmax : n ≤ 4096) :
    Does Try.prog 59 [.slice (some ⟨B, 0, none⟩) n c, .int .i64 a, .int .i64 m, .int .i64 b, .func (.func 27) #[] #[]] w (RetO w ln fun v ln' => v = .tuple #[] ∧ RowO B cap n (P ++ (mergeB passes [x] R ++ S)) ln') := by
  have hn := hr.1
  simp only [List.length_append, List.length_cons] at hn
  refine calls_J (ys := [.slice (some ⟨B, 0, none⟩) n c, .int .i64 a, .int .i64 m, .int .i64 b, .func (.func 27) #[] #[]]) Try.func59 rfl Try.ntmps59 rfl ?_
  refine J.at_ ?_ (St.startO hown hr.nodup)
  obtain ⟨_, cur, rfl, ho⟩ := hr
  have hma : Value.int .i64 (IntKind.i64.wrap ((m : Int) - (a : Int))) = .int .i64 1 := by rw [i64_id (by omega)]; congr 1; omega
  have h11 : Value.bool (decide ((1 : Int) = 1)) = .bool true := rfl
  repeat' (first
    | (refine JE.kBin ?_; refine JE.int rfl rfl rfl rfl hma rfl ?_)
    | (refine JE.kBin ?_; refine JE.int rfl rfl rfl rfl h11 rfl ?_)
    | refine JE.pure rfl rfl (by conv => lhs; whnf) rfl ?_
    | with_reducible refine JE.sN ?_
    | with_reducible refine J.seq ?_
    | with_reducible refine J.region ?_
    | refine J.condT rfl ?_
    | with_reducible refine J.block ?_)
  clear hma h11
  obtain ⟨xs, hxs⟩ : ∃ xs, xs = P ++ (x :: (R ++ S)) := ⟨_, rfl⟩
  have hxl : xs.length = n := by rw [hxs]; simp only [List.length_append, List.length_cons]; omega
  have hxa : xs[a]? = some x := by rw [hxs, ha, List.getElem?_append_right (Nat.le_refl _), Nat.sub_self]; rfl
  have hxh : ∀ q, q < R.length → xs[m + q]? = R[q]? := fun q hq => by
    rw [hxs, List.getElem?_append_right (by omega), show m + q - P.length = q + 1 by omega, List.getElem?_cons_succ, List.getElem?_append_left hq]
  refine J.loop (fun f w' => ∃ (i j : Nat), m ≤ i ∧ i ≤ j ∧ j ≤ b ∧ (∀ q y, m + q < i → R[q]? = some y → passes y x = true) ∧ (∀ q y, j ≤ m + q → R[q]? = some y → passes y x = false) ∧ Has f [(0, .slice (some ⟨B, 0, none⟩) n c), (1, .int .i64 a), (2, .int .i64 m), (3, .int .i64 b), (4, .func (.func 27) #[] #[]), (10, .int .i64 i), (11, .int .i64 j)] ∧ St w [B] [(B, .cells cur 37 (0, 0))] w')
    (fun f _ => (intOf (f 11)).toNat - (intOf (f 10)).toNat) (fun w' hS => ⟨m, b, Nat.le_refl _, by omega, Nat.le_refl _, fun q y hq => by omega, fun q y hq hy => by
      have := (List.getElem?_eq_some_iff.1 hy).1; omega, (by repeat' (first | exact trivial | refine And.intro (by rfl) ?_)), hS⟩) ?_
  rintro f w' ⟨i, j, hi, hij, hj, hlo, hhi, hf, hS⟩
  obtain ⟨g, rfl⟩ := hf.eq
  clear hf
  refine J.at_ ?_ hS
  rw [← hxs] at ho
  by_cases hlt : i < j
  · have hadd : Value.int .i64 (IntKind.i64.wrap ((i : Int) + (j : Int))) = .int .i64 ((i + j : Nat) : Int) := by rw [i64_id (by omega)]; congr 1
    obtain ⟨h, hh⟩ : ∃ h, h = (i + j) / 2 := ⟨_, rfl⟩
    have hfit1 : IntKind.u64.wrap ((i + j : Nat) : Int) = ((i + j : Nat) : Int) := u64_id (by omega)
    have hfit2 : IntKind.i64.wrap (((i + j) / 2 : Nat) : Int) = (((i + j) / 2 : Nat) : Int) := i64_id (by omega)
    rw [← hh] at hfit2
    obtain ⟨q, hq⟩ : ∃ q, h = m + q := ⟨h - m, by omega⟩
    have hRq : R[q]? = some R[q] := List.getElem?_eq_getElem (by omega)
    have hxq : xs[h]? = some R[q] := by
      have := hxh q (by omega)
      rw [← hq] at this; exact this.trans hRq
    generalize R[q] = y at hRq hxq
    have hcy : passes y x = decide (rankI y x < 0) := rfl
    have hro : ∀ w', St w [B] [(B, .cells cur 37 (0, 0))] w' → RowsAt 6 encPledge w' B 0 xs := fun w' hS => by
      rw [← hxl] at ho; exact ho.rows encP_len (hS.own _ (.head _))
    repeat' (first
      | (refine JE.kBin ?_; refine JE.int rfl rfl rfl rfl hadd rfl ?_)
      | (refine JE.kBin ?_; (refine JE.shr1 rfl rfl rfl rfl ?_; rw [← hh]))
      | refine JE.pure rfl rfl (by conv => lhs; whnf) rfl ?_
      | (refine JE.kBin ?_; (refine JE.int rfl rfl rfl rfl rfl rfl ?_; with_reducible refine JE.waysD (fun _ => ?_) (fun _ => ?_)))
      | (refine JE.kBin ?_; refine JE.int rfl rfl rfl rfl (by rw [i64_id (by omega)]) rfl ?_)
      | with_reducible refine JE.sN ?_
      | with_reducible refine JE.sX ?_
      | with_reducible refine JE.dN ?_
      | with_reducible refine J.seq ?_
      | with_reducible refine J.region ?_
      | refine J.condT rfl ?_
      | refine J.condF rfl ?_
      | with_reducible refine J.skip ?_
      | with_reducible refine J.exit ?_
      | with_reducible refine J.block ?_
      | with_reducible refine JX.thenN ?_
      | with_reducible refine JX.thenE ?_
      | with_reducible refine JX.blkS ?_
      | with_reducible refine JX.blkN ?_
      | (refine J.isR 5 ?_; refine J.draw [(0, true), (1, true), (2, true), (3, true), (4, true), (5, true), (6, true), (7, true), (8, true), (9, false), (10, true)] [] mixed (by kernel_rfl) (fun _ h => h.drew) ?_)
      | (refine JE.kConvert ?_; refine JE.convI rfl Try.underlying3 Try.underlying97 rfl hfit1 rfl ?_)
      | (refine JE.kConvert ?_; refine JE.convI rfl Try.underlying97 Try.underlying3 rfl hfit2 rfl ?_)
      | (refine JE.kIndexAddr ?_; refine JE.indexAddr rfl rfl rfl (Int.natCast_nonneg _) (by omega) rfl ?_)
      | (refine JE.kLoad ?_; refine JE.loadRowS rfl rfl hro hxq rfl rfl (fun _ => by first | trivial | exact ⟨by kernel_rfl, by kernel_rfl, trivial⟩) rfl ?_)
      | (refine JE.kLoad ?_; refine JE.loadRowS rfl rfl hro hxa rfl rfl (fun _ => by first | trivial | exact ⟨by kernel_rfl, by kernel_rfl, trivial⟩) rfl ?_)
      | (refine JE.isV ?_; refine JE.call rfl rfl (by repeat (first | exact NfL.nil rfl | apply NfL.cons (by exact rfl) (by conv => lhs; whnf))) rfl ?_; refine CallG.ret (fun w hS => rankF_calls y x w) ?_))
    all_goals first
      | (exfalso; omega)
      | (rename_i hrk
         refine JX.round fun w'' hS' => ⟨⟨h + 1, j, by omega, by omega, hj, fun p z hp hz => ?_, hhi, (by repeat' (first | exact trivial | refine And.intro (by rfl) ?_)), hS'⟩, ?_⟩
         · rcases Nat.lt_or_ge p q with hpq | hpq
           · have h1 := sorted_get hs hpq hz hRq
             cases hpz : passes z x with
             | true => rfl
             | false => have := passes_weak.neg y z x h1 hpz; rw [hcy, decide_eq_true hrk] at this; cases this
           · have e : p = q := by omega
             subst e
             rw [hRq] at hz; cases hz
             rw [hcy, decide_eq_true hrk]
         · show (j : Int).toNat - ((h : Int) + 1).toNat < (j : Int).toNat - (i : Int).toNat
           omega)
      | (rename_i hrk
         refine JX.round fun w'' hS' => ⟨⟨i, h, hi, by omega, by omega, hlo, fun p z hp hz => ?_, (by repeat' (first | exact trivial | refine And.intro (by rfl) ?_)), hS'⟩, ?_⟩
         · have h0 : passes y x = false := by rw [hcy, decide_eq_false hrk]
           rcases Nat.lt_or_ge q p with hpq | hpq
           · exact passes_weak.neg z y x (sorted_get hs hpq hRq hz) h0
           · have e : p = q := by omega
             subst e
             rw [hRq] at hz; cases hz
             exact h0
         · show (h : Int).toNat - (i : Int).toNat < (j : Int).toNat - (i : Int).toNat
           omega)
  · obtain rfl : i = j := by omega
    obtain ⟨r, hrr⟩ : ∃ r, i = m + r := ⟨i - m, by omega⟩
    have hmo : mergeB passes [x] R = R.take r ++ x :: R.drop r := by
      have := merge_one (lt := passes) (x := x) (R1 := R.take r) (R2 := R.drop r) (fun y hy => by
        obtain ⟨q, hq, rfl⟩ := List.mem_iff_getElem.1 hy
        rw [List.length_take] at hq
        rw [List.getElem_take]
        exact hlo q _ (by omega) (List.getElem?_eq_getElem (by omega))) (fun y hy => by
        obtain ⟨q, hq, rfl⟩ := List.mem_iff_getElem.1 hy
        rw [List.getElem_drop]
        exact hhi (r + q) _ (by omega) (List.getElem?_eq_getElem _))
      rw [List.take_append_drop] at this
      exact this
    rw [hmo]
    have hrl : r ≤ R.length := by omega
    rw [hxs] at ho
    clear hmo hlo hhi hxh hxa
    repeat' (first
      | refine JE.pure rfl rfl (by conv => lhs; whnf) rfl ?_
      | (refine JE.kBin ?_; (refine JE.int rfl rfl rfl rfl rfl rfl ?_; with_reducible refine JE.waysD (fun _ => ?_) (fun _ => ?_)))
      | (refine JE.kBin ?_; refine JE.int rfl rfl rfl rfl (by rw [i64_id (by omega)]) rfl ?_)
      | with_reducible refine JE.sN ?_
      | with_reducible refine J.seq ?_
      | with_reducible refine J.region ?_
      | refine J.condT rfl ?_
      | refine J.condF rfl ?_
      | with_reducible refine J.skip ?_
      | with_reducible refine J.exit ?_
      | with_reducible refine J.block ?_
      | with_reducible refine JX.thenN ?_
      | with_reducible refine JX.thenE ?_
      | with_reducible refine JX.blkS ?_)
    all_goals first
      | (exfalso; omega)
      | skip
    refine J.loop (fun f w' => ∃ (t : Nat) (cur' : Array Value), t ≤ r ∧ OwnC 6 n cap cur' ((P ++ (R.take t ++ x :: (R.drop t ++ S))).flatMap encPledge) ∧ Has f [(0, .slice (some ⟨B, 0, none⟩) n c), (10, .int .i64 i), (13, .int .i64 ((a + t : Nat) : Int))] ∧ St w [B] [(B, .cells cur' 37 (0, 0))] w')
      (fun f _ => i - (intOf (f 13)).toNat) (fun w' hS => ⟨0, cur, Nat.zero_le _, ho, (by repeat' (first | exact trivial | refine And.intro (by rfl) ?_)), hS⟩) ?_
    rintro f w' ⟨t, cur', ht, ho', hf, hS⟩
    obtain ⟨g, rfl⟩ := hf.eq
    clear hf
    refine J.at_ ?_ hS
    have hsub : Value.int .i64 (IntKind.i64.wrap ((i : Int) - 1)) = .int .i64 ((a + r : Nat) : Int) := by rw [i64_id (by omega)]; congr 1; omega
    by_cases htr : t < r
    · have hRt : R[t]? = some R[t] := List.getElem?_eq_getElem (by omega)
      have hdr : R.drop t = R[t] :: R.drop (t + 1) := List.drop_eq_getElem_cons (by omega)
      have htk : R.take (t + 1) = R.take t ++ [R[t]] := (List.take_append_getElem (by omega)).symm
      generalize R[t] = y at hRt hdr htk
      obtain ⟨ys, hys⟩ : ∃ ys, ys = (P ++ R.take t) ++ x :: y :: (R.drop (t + 1) ++ S) := ⟨_, rfl⟩
      have hAl : a + t = (P ++ R.take t).length := by rw [List.length_append, List.length_take]; omega
      rw [hdr, List.cons_append, ← List.append_assoc, ← hys] at ho'
      have hyl : ys.length = n := by
        have := congrArg List.length hdr
        simp only [List.length_drop, List.length_cons] at this
        rw [hys, List.length_append, ← hAl]; simp only [List.length_cons, List.length_append, List.length_drop]; omega
      have ex : ys[a + t]? = some x := by rw [hys, List.getElem?_append_right (by omega), ← hAl, Nat.sub_self]; rfl
      have ey : ys[a + t + 1]? = some y := by rw [hys, List.getElem?_append_right (by omega), ← hAl, Nat.add_sub_cancel_left]; rfl
      have hsw : (ys.set (a + t) y).set (a + t + 1) x = P ++ (R.take (t + 1) ++ x :: (R.drop (t + 1) ++ S)) := by
        rw [hys, swap2 hAl, htk]; simp
      have hadd : Value.int .i64 (IntKind.i64.wrap (((a + t : Nat) : Int) + 1)) = .int .i64 ((a + t + 1 : Nat) : Int) := by rw [i64_id (by omega)]; congr 1
      have hro : ∀ w', St w [B] [(B, .cells cur' 37 (0, 0))] w' → RowsAt 6 encPledge w' B 0 ys := fun w' hS => by
        rw [← hyl] at ho'; exact ho'.rows encP_len (hS.own _ (.head _))
      rw [← hyl] at ho'
      repeat' (first
        | (refine JE.kBin ?_; refine JE.int rfl rfl rfl rfl hsub rfl ?_)
        | (refine JE.kBin ?_; refine JE.int rfl rfl rfl rfl hadd rfl ?_)
        | refine JE.pure rfl rfl (by conv => lhs; whnf) rfl ?_
        | (refine JE.kBin ?_; (refine JE.int rfl rfl rfl rfl rfl rfl ?_; with_reducible refine JE.waysD (fun _ => ?_) (fun _ => ?_)))
        | with_reducible refine JE.sN ?_
        | with_reducible refine JE.sX ?_
        | with_reducible refine JE.dX ?_
        | with_reducible refine J.seq ?_
        | with_reducible refine J.region ?_
        | refine J.condT rfl ?_
        | refine J.condF rfl ?_
        | with_reducible refine J.skip ?_
        | with_reducible refine J.exit ?_
        | with_reducible refine J.block ?_
        | with_reducible refine J.ret ?_
        | with_reducible refine JX.thenN ?_
        | with_reducible refine JX.thenR ?_
        | with_reducible refine JX.thenE ?_
        | with_reducible refine JX.blkS ?_
        | with_reducible refine JX.blkN ?_
        | (refine J.isR 11 ?_; refine J.draw [(0, true), (1, true), (2, true), (3, true), (4, true), (5, true), (6, true), (7, true), (8, true), (9, true), (10, true), (11, true), (12, true), (13, true), (14, true), (15, false), (16, true), (17, false)] [(15, B), (17, B)] mixed (by kernel_rfl) (fun _ h => h.drew) ?_)
        | (refine JE.kIndexAddr ?_; refine JE.indexAddr rfl rfl rfl (Int.natCast_nonneg _) (by omega) rfl ?_)
        | (refine JE.kLoad ?_; refine JE.loadRowS rfl rfl hro ex rfl rfl (fun _ => by first | trivial | exact ⟨by kernel_rfl, by kernel_rfl, trivial⟩) rfl ?_)
        | (refine JE.kLoad ?_; refine JE.loadRowS rfl rfl hro ey rfl rfl (fun _ => by first | trivial | exact ⟨by kernel_rfl, by kernel_rfl, trivial⟩) rfl ?_)
        | (refine JE.kStore ?_; refine JE.storeRow y rfl rfl (.head) ho' encP_len (by omega) rfl rfl (by simp [drawn]) rfl (fun cur3 ho3 => ⟨_, .head, ?_⟩))
        | (refine JE.kStore ?_; refine JE.storeRow x rfl rfl (.head) ho3 encP_len (by rw [List.length_set]; omega) rfl rfl (by simp [drawn]) rfl (fun cur4 ho4 => ⟨_, .head, ?_⟩)))
      all_goals first
        | (exfalso; omega)
        | (refine JX.round fun w'' hS' => ⟨⟨t + 1, cur4, by omega, ?_, (by repeat' (first | exact trivial | refine And.intro (by rfl) ?_)), hS'⟩, ?_⟩
           · rw [← hsw]
             rw [List.length_set, List.length_set, hyl] at ho4; exact ho4
           · show i - ((a + t + 1 : Nat) : Int).toNat < i - ((a + t : Nat) : Int).toNat
             omega)
    · obtain rfl : t = r := by omega
      repeat' (first
        | (refine JE.kBin ?_; refine JE.int rfl rfl rfl rfl hsub rfl ?_)
        | refine JE.pure rfl rfl (by conv => lhs; whnf) rfl ?_
        | (refine JE.kBin ?_; (refine JE.int rfl rfl rfl rfl rfl rfl ?_; with_reducible refine JE.waysD (fun _ => ?_) (fun _ => ?_)))
        | with_reducible refine JE.sN ?_
        | with_reducible refine J.seq ?_
        | with_reducible refine J.region ?_
        | refine J.condT rfl ?_
        | refine J.condF rfl ?_
        | with_reducible refine J.skip ?_
        | with_reducible refine J.exit ?_
        | with_reducible refine J.block ?_
        | with_reducible refine J.ret ?_
        | with_reducible refine JX.thenN ?_
        | with_reducible refine JX.thenR ?_
        | with_reducible refine JX.thenE ?_
        | with_reducible refine JX.blkS ?_)
      all_goals first
        | (exfalso; omega)
        | exact fnQ_none (.inl rfl) rfl fun w'' hS' => ⟨_, _, rfl, ⟨rfl, by simp only [List.length_append, List.length_cons, List.length_take, List.length_drop]; omega, cur', rfl, by simpa using ho'⟩, hS'⟩

end Go.Proofs.Ytnapfiheholhiaa
