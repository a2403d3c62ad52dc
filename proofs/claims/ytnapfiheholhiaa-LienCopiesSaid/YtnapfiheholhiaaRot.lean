/-
  Rotating a row of pledges in place. Conditions: none.
-/
import Derived.Test.YtnapfiheholhiaaSort
import Derived.Test.YtnapfiheholhiaaMergeB
set_option linter.unusedVariables false
set_option linter.unusedSimpArgs false
namespace Go.Proofs.Ytnapfiheholhiaa
open Go Go.RowKit Go.Proofs.YtnapfiheholhiaaSym

section
variable {α : Type}
/-- n elements from a on change places with those from b on. -/
def swapR (a b : Nat) : Nat → List α → List α
  | 0, xs => xs
  | n + 1, xs => match (swapR a b n xs)[a + n]?, (swapR a b n xs)[b + n]? with
    | some x, some y => ((swapR a b n xs).set (a + n) y).set (b + n) x
    | _, _ => swapR a b n xs
theorem swapR_length (a b : Nat) (xs : List α) : ∀ n, (swapR a b n xs).length = xs.length
  | 0 => rfl
  | n + 1 => by
    rw [swapR]
    split
    · rw [List.length_set, List.length_set, swapR_length a b xs n]
    · exact swapR_length a b xs n
theorem swapR_succ {a b n : Nat} {xs : List α} {x y : α} (hx : (swapR a b n xs)[a + n]? = some x) (hy : (swapR a b n xs)[b + n]? = some y) : swapR a b (n + 1) xs = ((swapR a b n xs).set (a + n) y).set (b + n) x := by
  rw [swapR, hx, hy]

theorem swapR_at (a b : Nat) (xs : List α) : ∀ n, a + n ≤ b → b + n ≤ xs.length → ∀ j, (swapR a b n xs)[j]? = if a ≤ j ∧ j < a + n then xs[b + (j - a)]? else if b ≤ j ∧ j < b + n then xs[a + (j - b)]? else xs[j]?
  | 0, _, _, j => by
    rw [swapR, if_neg (by omega), if_neg (by omega)]
  | n + 1, h1, h2, j => by
    have ih := swapR_at a b xs n (by omega) (by omega)
    have hx := ih (a + n)
    rw [if_neg (by omega), if_neg (by omega)] at hx
    replace hx := hx.trans (List.getElem?_eq_getElem (by omega))
    have hy := ih (b + n)
    rw [if_neg (by omega), if_neg (by omega)] at hy
    replace hy := hy.trans (List.getElem?_eq_getElem (by omega))
    rw [swapR_succ hx hy, List.getElem?_set, List.getElem?_set, List.length_set, swapR_length]
    by_cases e1 : b + n = j
    · subst e1
      rw [if_pos rfl, if_pos (by omega), if_neg (by omega), if_pos (by omega), ← List.getElem?_eq_getElem]
      congr 1; omega
    · rw [if_neg e1]
      by_cases e2 : a + n = j
      · subst e2
        rw [if_pos rfl, if_pos (by omega), if_pos (by omega), ← List.getElem?_eq_getElem]
        congr 1; omega
      · rw [if_neg e2, ih j]
        by_cases c1 : a ≤ j ∧ j < a + n
        · rw [if_pos c1, if_pos (by omega)]
        · rw [if_neg c1, if_neg (show ¬ (a ≤ j ∧ j < a + (n + 1)) by omega)]
          by_cases c2 : b ≤ j ∧ j < b + n
          · rw [if_pos c2, if_pos (by omega)]
          · rw [if_neg c2, if_neg (by omega)]

/-- Two parts of one length change places. -/
theorem swapR_parts {P A M C S : List α} (h : A.length = C.length) : swapR P.length (P.length + A.length + M.length) A.length (P ++ (A ++ (M ++ (C ++ S)))) = P ++ (C ++ (M ++ (A ++ S))) := by
  refine List.ext_getElem? fun j => ?_
  rw [swapR_at _ _ _ _ (by omega) (by simp; omega)]
  simp only [List.getElem?_append]
  repeat' split
  all_goals first
    | (exfalso; omega)
    | rfl
    | (congr 1; omega)
end

set_option maxRecDepth 100000 in
set_option maxHeartbeats 4000000 in
theorem swapRange_calls (B cap c : Nat) (cur : Array Value) (xs : List Pledge) (a b n : Nat) (w : World) (hb : w.heap[B]? = some (.cells cur 37 (0, 0))) (ho : OwnC 6 xs.length cap cur (xs.flatMap encPledge)) (hab : a + n ≤ b) (hbl : b + n ≤ xs.length) (hmax : xs.length ≤ 4096) :
    Does Try.prog 80 [.slice (some ⟨B, 0, none⟩) xs.length c, .int .i64 a, .int .i64 b, .int .i64 n, .func (.func 27) #[] #[]] w
      (RetO w [(B, .cells cur 37 (0, 0))] fun v ln => v = .tuple #[] ∧ ∃ cur', ln = [(B, .cells cur' 37 (0, 0))] ∧ OwnC 6 xs.length cap cur' ((swapR a b n xs).flatMap encPledge)) := by
  refine calls_J (ys := [.slice (some ⟨B, 0, none⟩) xs.length c, .int .i64 a, .int .i64 b, .int .i64 n, .func (.func 27) #[] #[]]) Try.func80 rfl Try.ntmps80 rfl ?_
  refine J.at_ ?_ (St.startO (l := [(B, .cells cur 37 (0, 0))]) (by simp [hb]) (by simp))
  simp only [List.map_cons, List.map_nil]
  repeat' (first
    | refine JE.pure rfl rfl (by conv => lhs; whnf) rfl ?_
    | with_reducible refine JE.sN ?_
    | with_reducible refine J.seq ?_
    | with_reducible refine J.region ?_
    | with_reducible refine J.block ?_)
  refine J.loop (fun f w' => ∃ (k : Nat) (cur' : Array Value), k ≤ n ∧ OwnC 6 xs.length cap cur' ((swapR a b k xs).flatMap encPledge) ∧ Has f [(0, .slice (some ⟨B, 0, none⟩) xs.length c), (1, .int .i64 a), (2, .int .i64 b), (3, .int .i64 n), (10, .int .i64 k)] ∧ St w [B] [(B, .cells cur' 37 (0, 0))] w')
    (fun f _ => n - (intOf (f 10)).toNat) (fun w' hS => ⟨0, cur, Nat.zero_le _, ho, (by repeat' (first | exact trivial | refine And.intro (by rfl) ?_)), hS⟩) ?_
  rintro f w' ⟨k, cur', hk, ho', hf, hS⟩
  obtain ⟨g, rfl⟩ := hf.eq
  clear hf
  refine J.at_ ?_ hS
  by_cases hlt : k < n
  · have hyl := swapR_length a b xs k
    have hsucc := fun x y => swapR_succ (a := a) (b := b) (n := k) (xs := xs) (x := x) (y := y)
    generalize swapR a b k xs = ys at ho' hyl hsucc
    rw [← hyl] at ho'
    have ex : ys[a + k]? = some ys[a + k] := List.getElem?_eq_getElem (by omega)
    have ey : ys[b + k]? = some ys[b + k] := List.getElem?_eq_getElem (by omega)
    generalize ys[a + k] = x at ex
    generalize ys[b + k] = y at ey
    have hsw := hsucc x y ex ey
    have hadd1 : Value.int .i64 (IntKind.i64.wrap ((a : Int) + (k : Int))) = .int .i64 ((a + k : Nat) : Int) := by rw [i64_id (by omega)]; congr 1
    have hadd2 : Value.int .i64 (IntKind.i64.wrap ((b : Int) + (k : Int))) = .int .i64 ((b + k : Nat) : Int) := by rw [i64_id (by omega)]; congr 1
    have hro : ∀ w', St w [B] [(B, .cells cur' 37 (0, 0))] w' → RowsAt 6 encPledge w' B 0 ys := fun w' hS => ho'.rows encP_len (hS.own _ (.head _))
    repeat' (first
      | (refine JE.kBin ?_; refine JE.int rfl rfl rfl rfl hadd1 rfl ?_)
      | (refine JE.kBin ?_; refine JE.int rfl rfl rfl rfl hadd2 rfl ?_)
      | refine JE.pure rfl rfl (by conv => lhs; whnf) rfl ?_
      | (refine JE.kBin ?_; (refine JE.int rfl rfl rfl rfl rfl rfl ?_; with_reducible refine JE.waysD (fun _ => ?_) (fun _ => ?_)))
      | (refine JE.kBin ?_; refine JE.int rfl rfl rfl rfl (by rw [i64_id (by omega)]) rfl ?_)
      | with_reducible refine JE.sN ?_
      | with_reducible refine JE.sX ?_
      | with_reducible refine JE.dX ?_
      | with_reducible refine J.seq ?_
      | with_reducible refine J.region ?_
      | refine J.condT rfl ?_
      | refine J.condF rfl ?_
      | with_reducible refine J.skip ?_
      | with_reducible refine J.exit ?_
      | with_reducible refine J.block ?_
      | with_reducible refine JX.thenN ?_
      | with_reducible refine JX.thenE ?_
      | with_reducible refine JX.blkS ?_
      | with_reducible refine JX.blkN ?_
      | (refine J.isR 3 ?_; refine J.draw [(0, true), (1, true), (2, true), (3, true), (4, true), (5, true), (6, true), (7, true), (8, true), (9, true), (10, true), (11, true), (12, true), (13, true), (14, true), (15, true), (16, true), (17, true), (18, true), (19, true), (20, true), (21, false), (22, true), (23, false)] [(21, B), (23, B)] mixed (by kernel_rfl) (fun _ h => h.drew) ?_)
      | (refine JE.kIndexAddr ?_; refine JE.indexAddr rfl rfl rfl (Int.natCast_nonneg _) (by omega) rfl ?_)
      | (refine JE.kLoad ?_; refine JE.loadRowS rfl rfl hro ex rfl rfl (fun _ => by first | trivial | exact ⟨by kernel_rfl, by kernel_rfl, trivial⟩) rfl ?_)
      | (refine JE.kLoad ?_; refine JE.loadRowS rfl rfl hro ey rfl rfl (fun _ => by first | trivial | exact ⟨by kernel_rfl, by kernel_rfl, trivial⟩) rfl ?_)
      | (refine JE.kStore ?_; refine JE.storeRow y rfl rfl (.head) ho' encP_len (by omega) rfl rfl (by simp [drawn]) rfl (fun cur3 ho3 => ⟨_, .head, ?_⟩))
      | (refine JE.kStore ?_; refine JE.storeRow x rfl rfl (.head) ho3 encP_len (by rw [List.length_set]; omega) rfl rfl (by simp [drawn]) rfl (fun cur4 ho4 => ⟨_, .head, ?_⟩)))
    all_goals first
      | (exfalso; omega)
      | (refine JX.round fun w'' hS' => ⟨⟨k + 1, cur4, by omega, ?_, (by repeat' (first | exact trivial | refine And.intro (by rfl) ?_)), hS'⟩, ?_⟩
         · rw [hsw]
           rw [List.length_set, List.length_set, hyl] at ho4; exact ho4
         · show n - ((k : Int) + 1).toNat < n - (k : Int).toNat
           omega)
  · have hk' : k = n := by omega
    rw [hk'] at ho'
    repeat' (first
      | refine JE.pure rfl rfl (by conv => lhs; whnf) rfl ?_
      | (refine JE.kBin ?_; (refine JE.int rfl rfl rfl rfl rfl rfl ?_; with_reducible refine JE.waysD (fun _ => ?_) (fun _ => ?_)))
      | with_reducible refine JE.sN ?_
      | with_reducible refine J.seq ?_
      | with_reducible refine J.region ?_
      | refine J.condT rfl ?_
      | refine J.condF rfl ?_
      | with_reducible refine J.skip ?_
      | with_reducible refine J.exit ?_
      | with_reducible refine J.block ?_
      | with_reducible refine JX.thenN ?_
      | with_reducible refine JX.thenE ?_
      | with_reducible refine JX.blkS ?_)
    all_goals first
      | (exfalso; omega)
      | exact fnQ_none (.inr rfl) rfl fun w'' hS' => ⟨_, _, rfl, ⟨rfl, cur', rfl, ho'⟩, hS'⟩

end Go.Proofs.Ytnapfiheholhiaa
