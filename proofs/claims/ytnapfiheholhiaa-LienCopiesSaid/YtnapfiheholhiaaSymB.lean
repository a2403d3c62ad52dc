/-
  Merging one pledge that stands behind a sorted row into it, in place. Conditions: none.
-/
import Derived.Test.YtnapfiheholhiaaSymA
set_option linter.unusedVariables false
set_option linter.unusedSimpArgs false
namespace Go.Proofs.Ytnapfiheholhiaa
open Go Go.RowKit Go.Proofs.YtnapfiheholhiaaSym

theorem merge_last {α : Type} {lt : α → α → Bool} {x : α} {L1 L2 : List α} (h1 : ∀ y ∈ L1, lt x y = false) (h2 : ∀ y ∈ L2, lt x y = true) : mergeB lt (L1 ++ L2) [x] = L1 ++ x :: L2 := by
  have e1 := merge_cut (lt := lt) _ L1 [] L2 [x] rfl (by simp) (fun l hl r hr => by rw [List.mem_singleton.1 hr]; exact h1 l hl)
  have e2 := merge_cut (lt := lt) _ [] [x] L2 [] rfl (fun r hr l hl => by rw [List.mem_singleton.1 hr]; exact h2 l hl) (by simp)
  rw [List.nil_append, mergeB_nil] at e1
  rw [List.append_nil, List.nil_append, mergeB_nil, mergeB_nil'] at e2
  rw [e1, e2]; rfl
theorem swap2b {α : Type} {A Z : List α} {x y : α} {k : Nat} (hk : k = A.length) : ((A ++ y :: x :: Z).set (k + 1) y).set k x = A ++ x :: y :: Z := by
  subst hk
  rw [List.set_append_right _ _ (Nat.le_add_right _ _), Nat.add_sub_cancel_left, List.set_cons_succ, List.set_cons_zero, List.set_append_right _ _ (Nat.le_refl _), Nat.sub_self, List.set_cons_zero]

set_option maxRecDepth 100000 in
set_option maxHeartbeats 4000000 in
theorem sym2_calls {B cap n : Nat} (c : Nat) {P L S : List Pledge} {x : Pledge} {ln : List (Nat × Obj)} {a m b : Nat} (w : World) (hr : RowO B cap n (P ++ (L ++ x :: S)) ln) (hown : ∀ x ∈ ln, w.heap[x.1]? = some x.2)
    (ha : a = P.length) (hm : m = a + L.length) (hb : b = m + 1) (hL : L.length ≠ 1) (hs : SortedB passes L) (hmax : n ≤ 4096) :
    Does Try.prog 59 [.slice (some ⟨B, 0, none⟩) n c, .int .i64 a, .int .i64 m, .int .i64 b, .func (.func 27) #[] #[]] w (RetO w ln fun v ln' => v = .tuple #[] ∧ RowO B cap n (P ++ (mergeB passes L [x] ++ S)) ln') := by
  have hn := hr.1
  simp only [List.length_append, List.length_cons] at hn
  refine calls_J (ys := [.slice (some ⟨B, 0, none⟩) n c, .int .i64 a, .int .i64 m, .int .i64 b, .func (.func 27) #[] #[]]) Try.func59 rfl Try.ntmps59 rfl ?_
  refine J.at_ ?_ (St.startO hown hr.nodup)
  obtain ⟨_, cur, rfl, ho⟩ := hr
  have hma : Value.int .i64 (IntKind.i64.wrap ((m : Int) - (a : Int))) = .int .i64 (L.length : Nat) := by rw [i64_id (by omega)]; congr 1; omega
  have hbm : Value.int .i64 (IntKind.i64.wrap ((b : Int) - (m : Int))) = .int .i64 1 := by rw [i64_id (by omega)]; congr 1; omega
  have h10 : Value.bool (decide (((L.length : Nat) : Int) = 1)) = .bool false := by rw [decide_eq_false (by omega)]
  have h11 : Value.bool (decide ((1 : Int) = 1)) = .bool true := rfl
  repeat' (first
    | (refine JE.kBin ?_; refine JE.int rfl rfl rfl rfl hma rfl ?_)
    | (refine JE.kBin ?_; refine JE.int rfl rfl rfl rfl hbm rfl ?_)
    | (refine JE.kBin ?_; refine JE.int rfl rfl rfl rfl h10 rfl ?_)
    | (refine JE.kBin ?_; refine JE.int rfl rfl rfl rfl h11 rfl ?_)
    | refine JE.pure rfl rfl (by conv => lhs; whnf) rfl ?_
    | with_reducible refine JE.sN ?_
    | with_reducible refine J.seq ?_
    | with_reducible refine J.region ?_
    | refine J.condT rfl ?_
    | refine J.condF rfl ?_
    | with_reducible refine J.skip ?_
    | with_reducible refine J.block ?_
    | with_reducible refine JX.thenN ?_)
  clear hma hbm h10 h11
  obtain ⟨xs, hxs⟩ : ∃ xs, xs = P ++ (L ++ x :: S) := ⟨_, rfl⟩
  have hxl : xs.length = n := by rw [hxs]; simp only [List.length_append, List.length_cons]; omega
  have hxm : xs[m]? = some x := by rw [hxs, List.getElem?_append_right (by omega), List.getElem?_append_right (by omega), show m - P.length - L.length = 0 by omega]; rfl
  have hxh : ∀ q, q < L.length → xs[a + q]? = L[q]? := fun q hq => by
    rw [hxs, List.getElem?_append_right (by omega), show a + q - P.length = q by omega, List.getElem?_append_left hq]
  refine J.loop (fun f w' => ∃ (i j : Nat), a ≤ i ∧ i ≤ j ∧ j ≤ m ∧ (∀ q y, a + q < i → L[q]? = some y → passes x y = false) ∧ (∀ q y, j ≤ a + q → L[q]? = some y → passes x y = true) ∧ Has f [(0, .slice (some ⟨B, 0, none⟩) n c), (1, .int .i64 a), (2, .int .i64 m), (3, .int .i64 b), (4, .func (.func 27) #[] #[]), (14, .int .i64 i), (15, .int .i64 j)] ∧ St w [B] [(B, .cells cur 37 (0, 0))] w')
    (fun f _ => (intOf (f 15)).toNat - (intOf (f 14)).toNat) (fun w' hS => ⟨a, m, Nat.le_refl _, by omega, Nat.le_refl _, fun q y hq => by omega, fun q y hq hy => by
      have := (List.getElem?_eq_some_iff.1 hy).1; omega, (by repeat' (first | exact trivial | refine And.intro (by rfl) ?_)), hS⟩) ?_
  rintro f w' ⟨i, j, hi, hij, hj, hlo, hhi, hf, hS⟩
  obtain ⟨g, rfl⟩ := hf.eq
  clear hf
  refine J.at_ ?_ hS
  rw [← hxs] at ho
  by_cases hlt : i < j
  · have hadd : Value.int .i64 (IntKind.i64.wrap ((i : Int) + (j : Int))) = .int .i64 ((i + j : Nat) : Int) := by rw [i64_id (by omega)]; congr 1
    obtain ⟨h, hh⟩ : ∃ h, h = (i + j) / 2 := ⟨_, rfl⟩
    have hfit1 : IntKind.u64.wrap ((i + j : Nat) : Int) = ((i + j : Nat) : Int) := u64_id (by omega)
    have hfit2 : IntKind.i64.wrap (((i + j) / 2 : Nat) : Int) = (((i + j) / 2 : Nat) : Int) := i64_id (by omega)
    rw [← hh] at hfit2
    obtain ⟨q, hq⟩ : ∃ q, h = a + q := ⟨h - a, by omega⟩
    have hLq : L[q]? = some L[q] := List.getElem?_eq_getElem (by omega)
    have hxq : xs[h]? = some L[q] := by
      have := hxh q (by omega)
      rw [← hq] at this; exact this.trans hLq
    generalize L[q] = y at hLq hxq
    have hcy : passes x y = decide (rankI x y < 0) := rfl
    have hro : ∀ w', St w [B] [(B, .cells cur 37 (0, 0))] w' → RowsAt 6 encPledge w' B 0 xs := fun w' hS => by
      rw [← hxl] at ho; exact ho.rows encP_len (hS.own _ (.head _))
    repeat' (first
      | (refine JE.kBin ?_; refine JE.int rfl rfl rfl rfl hadd rfl ?_)
      | (refine JE.kBin ?_; (refine JE.shr1 rfl rfl rfl rfl ?_; rw [← hh]))
      | refine JE.pure rfl rfl (by conv => lhs; whnf) rfl ?_
      | (refine JE.kBin ?_; (refine JE.int rfl rfl rfl rfl rfl rfl ?_; with_reducible refine JE.waysD (fun _ => ?_) (fun _ => ?_)))
      | (refine JE.kBin ?_; refine JE.int rfl rfl rfl rfl (by rw [i64_id (by omega)]) rfl ?_)
      | with_reducible refine JE.sN ?_
      | with_reducible refine JE.sX ?_
      | with_reducible refine JE.dN ?_
      | with_reducible refine J.seq ?_
      | with_reducible refine J.region ?_
      | refine J.condT rfl ?_
      | refine J.condF rfl ?_
      | with_reducible refine J.skip ?_
      | with_reducible refine J.exit ?_
      | with_reducible refine J.block ?_
      | with_reducible refine JX.thenN ?_
      | with_reducible refine JX.thenE ?_
      | with_reducible refine JX.blkS ?_
      | with_reducible refine JX.blkN ?_
      | (refine J.isR 17 ?_; refine J.draw [(0, true), (1, true), (2, true), (3, true), (4, true), (5, true), (6, true), (7, true), (8, true), (9, false), (10, true), (11, true)] [] mixed (by kernel_rfl) (fun _ h => h.drew) ?_)
      | (refine JE.kConvert ?_; refine JE.convI rfl Try.underlying3 Try.underlying97 rfl hfit1 rfl ?_)
      | (refine JE.kConvert ?_; refine JE.convI rfl Try.underlying97 Try.underlying3 rfl hfit2 rfl ?_)
      | (refine JE.kIndexAddr ?_; refine JE.indexAddr rfl rfl rfl (Int.natCast_nonneg _) (by omega) rfl ?_)
      | (refine JE.kLoad ?_; refine JE.loadRowS rfl rfl hro hxq rfl rfl (fun _ => by first | trivial | exact ⟨by kernel_rfl, by kernel_rfl, trivial⟩) rfl ?_)
      | (refine JE.kLoad ?_; refine JE.loadRowS rfl rfl hro hxm rfl rfl (fun _ => by first | trivial | exact ⟨by kernel_rfl, by kernel_rfl, trivial⟩) rfl ?_)
      | (refine JE.isV ?_; refine JE.call rfl rfl (by repeat (first | exact NfL.nil rfl | apply NfL.cons (by exact rfl) (by conv => lhs; whnf))) rfl ?_; refine CallG.ret (fun w hS => rankF_calls x y w) ?_))
    all_goals first
      | (exfalso; omega)
      | (rename_i hrk
         refine JX.round fun w'' hS' => ⟨⟨h + 1, j, by omega, by omega, hj, fun p z hp hz => ?_, hhi, (by repeat' (first | exact trivial | refine And.intro (by rfl) ?_)), hS'⟩, ?_⟩
         · have h0 : passes x y = false := by rw [hcy, decide_eq_false hrk]
           rcases Nat.lt_or_ge p q with hpq | hpq
           · exact passes_weak.neg x y z h0 (sorted_get hs hpq hz hLq)
           · have e : p = q := by omega
             subst e
             rw [hLq] at hz; cases hz
             exact h0
         · show (j : Int).toNat - ((h : Int) + 1).toNat < (j : Int).toNat - (i : Int).toNat
           omega)
      | (rename_i hrk
         refine JX.round fun w'' hS' => ⟨⟨i, h, hi, by omega, by omega, hlo, fun p z hp hz => ?_, (by repeat' (first | exact trivial | refine And.intro (by rfl) ?_)), hS'⟩, ?_⟩
         · have h0 : passes x y = true := by rw [hcy, decide_eq_true hrk]
           rcases Nat.lt_or_ge q p with hpq | hpq
           · have h1 := sorted_get hs hpq hLq hz
             cases hpz : passes x z with
             | true => rfl
             | false => have := passes_weak.neg x z y hpz h1; rw [h0] at this; cases this
           · have e : p = q := by omega
             subst e
             rw [hLq] at hz; cases hz
             exact h0
         · show (h : Int).toNat - (i : Int).toNat < (j : Int).toNat - (i : Int).toNat
           omega)
  · obtain rfl : i = j := by omega
    obtain ⟨r, hrr⟩ : ∃ r, i = a + r := ⟨i - a, by omega⟩
    have hmo : mergeB passes L [x] = L.take r ++ x :: L.drop r := by
      have := merge_last (lt := passes) (x := x) (L1 := L.take r) (L2 := L.drop r) (fun y hy => by
        obtain ⟨q, hq, rfl⟩ := List.mem_iff_getElem.1 hy
        rw [List.length_take] at hq
        rw [List.getElem_take]
        exact hlo q _ (by omega) (List.getElem?_eq_getElem (by omega))) (fun y hy => by
        obtain ⟨q, hq, rfl⟩ := List.mem_iff_getElem.1 hy
        rw [List.getElem_drop]
        exact hhi (r + q) _ (by omega) (List.getElem?_eq_getElem _))
      rw [List.take_append_drop] at this
      exact this
    rw [hmo]
    have hrl : r ≤ L.length := by omega
    rw [hxs] at ho
    clear hmo hlo hhi hxh hxm
    repeat' (first
      | refine JE.pure rfl rfl (by conv => lhs; whnf) rfl ?_
      | (refine JE.kBin ?_; (refine JE.int rfl rfl rfl rfl rfl rfl ?_; with_reducible refine JE.waysD (fun _ => ?_) (fun _ => ?_)))
      | (refine JE.kBin ?_; refine JE.int rfl rfl rfl rfl (by rw [i64_id (by omega)]) rfl ?_)
      | with_reducible refine JE.sN ?_
      | with_reducible refine J.seq ?_
      | with_reducible refine J.region ?_
      | refine J.condT rfl ?_
      | refine J.condF rfl ?_
      | with_reducible refine J.skip ?_
      | with_reducible refine J.exit ?_
      | with_reducible refine J.block ?_
      | with_reducible refine JX.thenN ?_
      | with_reducible refine JX.thenE ?_
      | with_reducible refine JX.blkS ?_)
    all_goals first
      | (exfalso; omega)
      | skip
    refine J.loop (fun f w' => ∃ (t : Nat) (cur' : Array Value), r ≤ t ∧ t ≤ L.length ∧ OwnC 6 n cap cur' ((P ++ (L.take t ++ x :: (L.drop t ++ S))).flatMap encPledge) ∧ Has f [(0, .slice (some ⟨B, 0, none⟩) n c), (14, .int .i64 i), (17, .int .i64 ((a + t : Nat) : Int))] ∧ St w [B] [(B, .cells cur' 37 (0, 0))] w')
      (fun f _ => (intOf (f 17)).toNat) (fun w' hS => ⟨L.length, cur, hrl, Nat.le_refl _, by simpa using ho, ⟨rfl, rfl, congrArg (Value.int .i64) (by rw [hm]), trivial⟩, hS⟩) ?_
    rintro f w' ⟨t, cur', ht, htl, ho', hf, hS⟩
    obtain ⟨g, rfl⟩ := hf.eq
    clear hf
    refine J.at_ ?_ hS
    by_cases htr : r < t
    · obtain ⟨s, rfl⟩ : ∃ s, t = s + 1 := ⟨t - 1, by omega⟩
      have hdr : L.drop s = L[s] :: L.drop (s + 1) := List.drop_eq_getElem_cons (by omega)
      have htk : L.take (s + 1) = L.take s ++ [L[s]] := (List.take_append_getElem (by omega)).symm
      generalize L[s] = y at hdr htk
      obtain ⟨ys, hys⟩ : ∃ ys, ys = (P ++ L.take s) ++ y :: x :: (L.drop (s + 1) ++ S) := ⟨_, rfl⟩
      have hAl : a + s = (P ++ L.take s).length := by rw [List.length_append, List.length_take]; omega
      rw [htk, show P ++ (L.take s ++ [y] ++ x :: (L.drop (s + 1) ++ S)) = (P ++ L.take s) ++ y :: x :: (L.drop (s + 1) ++ S) by simp, ← hys] at ho'
      have hyl : ys.length = n := by
        rw [hys, List.length_append, ← hAl]; simp only [List.length_cons, List.length_append, List.length_drop]; omega
      have ey : ys[a + s]? = some y := by rw [hys, List.getElem?_append_right (by omega), ← hAl, Nat.sub_self]; rfl
      have ex : ys[a + (s + 1)]? = some x := by rw [hys, List.getElem?_append_right (by omega), ← hAl, show a + (s + 1) - (a + s) = 1 by omega]; rfl
      have hsw : (ys.set (a + (s + 1)) y).set (a + s) x = P ++ (L.take s ++ x :: (L.drop s ++ S)) := by
        rw [hys, show a + (s + 1) = a + s + 1 by omega, swap2b hAl, hdr]; simp
      have hsub : Value.int .i64 (IntKind.i64.wrap (((a + (s + 1) : Nat) : Int) - 1)) = .int .i64 ((a + s : Nat) : Int) := by rw [i64_id (by omega)]; congr 1; omega
      have hro : ∀ w', St w [B] [(B, .cells cur' 37 (0, 0))] w' → RowsAt 6 encPledge w' B 0 ys := fun w' hS => by
        rw [← hyl] at ho'; exact ho'.rows encP_len (hS.own _ (.head _))
      rw [← hyl] at ho'
      repeat' (first
        | (refine JE.kBin ?_; refine JE.int rfl rfl rfl rfl hsub rfl ?_)
        | refine JE.pure rfl rfl (by conv => lhs; whnf) rfl ?_
        | (refine JE.kBin ?_; (refine JE.int rfl rfl rfl rfl rfl rfl ?_; with_reducible refine JE.waysD (fun _ => ?_) (fun _ => ?_)))
        | with_reducible refine JE.sN ?_
        | with_reducible refine JE.sX ?_
        | with_reducible refine JE.dX ?_
        | with_reducible refine J.seq ?_
        | with_reducible refine J.region ?_
        | refine J.condT rfl ?_
        | refine J.condF rfl ?_
        | with_reducible refine J.skip ?_
        | with_reducible refine J.exit ?_
        | with_reducible refine J.block ?_
        | with_reducible refine J.ret ?_
        | with_reducible refine JX.thenN ?_
        | with_reducible refine JX.thenR ?_
        | with_reducible refine JX.thenE ?_
        | with_reducible refine JX.blkS ?_
        | with_reducible refine JX.blkN ?_
        | (refine J.isR 23 ?_; refine J.draw [(0, true), (1, true), (2, true), (3, true), (4, true), (5, true), (6, true), (7, true), (8, true), (9, true), (10, true), (11, true), (12, true), (13, true), (14, true), (15, false), (16, true), (17, false)] [(15, B), (17, B)] mixed (by kernel_rfl) (fun _ h => h.drew) ?_)
        | (refine JE.kIndexAddr ?_; refine JE.indexAddr rfl rfl rfl (Int.natCast_nonneg _) (by omega) rfl ?_)
        | (refine JE.kLoad ?_; refine JE.loadRowS rfl rfl hro ex rfl rfl (fun _ => by first | trivial | exact ⟨by kernel_rfl, by kernel_rfl, trivial⟩) rfl ?_)
        | (refine JE.kLoad ?_; refine JE.loadRowS rfl rfl hro ey rfl rfl (fun _ => by first | trivial | exact ⟨by kernel_rfl, by kernel_rfl, trivial⟩) rfl ?_)
        | (refine JE.kStore ?_; refine JE.storeRow y rfl rfl (.head) ho' encP_len (by omega) rfl rfl (by simp [drawn]) rfl (fun cur3 ho3 => ⟨_, .head, ?_⟩))
        | (refine JE.kStore ?_; refine JE.storeRow x rfl rfl (.head) ho3 encP_len (by rw [List.length_set]; omega) rfl rfl (by simp [drawn]) rfl (fun cur4 ho4 => ⟨_, .head, ?_⟩)))
      all_goals first
        | (exfalso; omega)
        | (refine JX.round fun w'' hS' => ⟨⟨s, cur4, by omega, by omega, ?_, (by repeat' (first | exact trivial | refine And.intro (by rfl) ?_)), hS'⟩, ?_⟩
           · rw [← hsw]
             rw [List.length_set, List.length_set, hyl] at ho4; exact ho4
           · show ((a + s : Nat) : Int).toNat < ((a + (s + 1) : Nat) : Int).toNat
             omega)
    · obtain rfl : t = r := by omega
      repeat' (first
        | refine JE.pure rfl rfl (by conv => lhs; whnf) rfl ?_
        | (refine JE.kBin ?_; (refine JE.int rfl rfl rfl rfl rfl rfl ?_; with_reducible refine JE.waysD (fun _ => ?_) (fun _ => ?_)))
        | with_reducible refine JE.sN ?_
        | with_reducible refine J.seq ?_
        | with_reducible refine J.region ?_
        | refine J.condT rfl ?_
        | refine J.condF rfl ?_
        | with_reducible refine J.skip ?_
        | with_reducible refine J.exit ?_
        | with_reducible refine J.block ?_
        | with_reducible refine J.ret ?_
        | with_reducible refine JX.thenN ?_
        | with_reducible refine JX.thenR ?_
        | with_reducible refine JX.thenE ?_
        | with_reducible refine JX.blkS ?_)
      all_goals first
        | (exfalso; omega)
        | exact fnQ_none (.inl rfl) rfl fun w'' hS' => ⟨_, _, rfl, ⟨rfl, by simp only [List.length_append, List.length_cons, List.length_take, List.length_drop]; omega, cur', rfl, by simpa using ho'⟩, hS'⟩

end Go.Proofs.Ytnapfiheholhiaa
