/-
  The walks of slices.SortStableFunc over pledges, by the order of lien.Rank: rows of at most 20. Conditions: none.
-/
import Derived.Test.YtnapfiheholhiaaDoc
import Derived.Test.YtnapfiheholhiaaTree
set_option linter.unusedVariables false
set_option linter.unusedSimpArgs false
namespace Go.Proofs.YtnapfiheholhiaaSym
open Go Go.RowKit

theorem fnQ_none {P : Program} {n : Nat} {f : Fr} {S : World → Prop} {fn : Func} {R : Ending → World → Prop} {e : Exit} (he : e = .ret ∨ e = .normal) (hr : fn.results = #[]) (h : ∀ w, S w → R (.returned (.tuple #[])) w) :
    JX S (fnQ P fn n R) e f := ⟨fun w hw => by
  have : ∃ v, (∀ a, Rep n a f → (results fn a.tmps).run P w = .ok v w) ∧ R (.returned v) w :=
    ⟨.tuple #[], fun a ha => by simp [results, hr], h w hw⟩
  rcases he with rfl | rfl <;> exact this⟩

theorem flat_setRow {α : Type} {k : Nat} {enc : α → List Value} (hk : ∀ x, (enc x).length = k) : ∀ (xs : List α) (i : Nat) (x : α), i < xs.length → (xs.set i x).flatMap enc = (xs.flatMap enc).take (i * k) ++ enc x ++ (xs.flatMap enc).drop (i * k + k)
  | [], _, _, h => by simp at h
  | y :: r, 0, x, _ => by
    rw [List.set_cons_zero, List.flatMap_cons, List.flatMap_cons, Nat.zero_mul, Nat.zero_add, List.take_zero, List.nil_append]
    rw [show k = (enc y).length from (hk y).symm, List.drop_left]
  | y :: r, i + 1, x, h => by
    have ih := flat_setRow hk r i x (by simpa using h)
    rw [List.set_cons_succ, List.flatMap_cons, ih, List.flatMap_cons]
    have e1 : (i + 1) * k = (enc y).length + i * k := by rw [hk, Nat.add_mul]; omega
    rw [e1, List.take_length_add_append, show (enc y).length + i * k + k = (enc y).length + (i * k + k) by omega, List.drop_length_add_append]
    simp only [List.append_assoc]
theorem OwnC.setRow {α : Type} {k cap : Nat} {enc : α → List Value} (hk : ∀ x, (enc x).length = k) {xs : List α} {cur : Array Value} (h : OwnC k xs.length cap cur (xs.flatMap enc)) {i : Nat} (hi : i < xs.length) (x : α) :
    OwnC k (xs.set i x).length cap (lay cur.toList (i * k) (enc x)).toArray ((xs.set i x).flatMap enc) := by
  have hl := flat_length hk xs
  have hik : i * k + k ≤ xs.length * k := by
    have := Nat.mul_le_mul_right k (show i + 1 ≤ xs.length from hi)
    rw [Nat.add_mul] at this; omega
  have hcap : xs.length * k ≤ cap * k := Nat.mul_le_mul_right _ h.room
  have hcl : cur.toList.length = cap * k := by rw [Array.length_toList, h.all]
  refine ⟨flat_length hk _, by rw [List.length_set]; exact h.room, h.most, by rw [List.size_toArray, lay_length, hcl], ?_⟩
  rw [lay_eq _ _ _ (by rw [hk, hcl]; omega), flat_setRow hk xs i x hi, List.length_set, ← h.take]
  simp only [hk]
  have e1 : (cur.toList.take (i * k) ++ enc x).length = i * k + k := by rw [List.length_append, List.length_take, hk, hcl]; omega
  rw [List.take_append, e1, List.take_of_length_le (l := cur.toList.take (i * k) ++ enc x) (by rw [e1]; exact hik), List.take_take, Nat.min_eq_left (by omega), List.drop_take]
theorem OwnC.rows {α : Type} {k cap : Nat} {enc : α → List Value} (hk : ∀ x, (enc x).length = k) {xs : List α} {cur : Array Value} (h : OwnC k xs.length cap cur (xs.flatMap enc)) {w : World} {B : Nat} {e : TypeId} (hb : w.heap[B]? = some (.cells cur e (0, 0))) : RowsAt k enc w B 0 xs :=
  ⟨_, _, _, hb, fun i x hx j u hu => by
    have := flat_get hk xs i j x u hx hu
    rw [← h.take, List.getElem?_take] at this
    split at this
    · rw [Nat.zero_add]; simpa using this
    · cases this⟩

section
variable {P : Program} {n : Nat} {ops : Array Oper} {pl : Plan} {E : List Entry} {Q : Post} {f : Fr} {i : Nat}
variable {dst : Option Tmp} {T : TypeId} {pos : String} {af : Array Edge} {g : Option (Nat × Bool)} {W0 : World} {olds : List Nat} {l l' : List (Nat × Obj)}
/-- A store of a whole element into an own row. -/
theorem JE.storeRow {α : Type} {k cap : Nat} {enc : α → List Value} {t e : TypeId} {y z : Operand} {B j : Nat} {xs : List α} {cur : Array Value} (x : α) [hm : SizeT P t k] (hw : wantF ops f ⟨dst, .store t y z, T, pos, af, g⟩ = true)
    (hx : ev f y = .pointer (some ⟨B, 0 + j * k, none⟩)) (hk : In l (B, .cells cur e (0, 0))) (ho : OwnC k xs.length cap cur (xs.flatMap enc)) (henc : ∀ x, (enc x).length = k) (hj : j < xs.length) (hv : cellsL (ev f z) = enc x) (hone : (enc x).all oneV = true)
    (hwr : pl.wr i B) (hd : dstOk n dst = true)
    (h : ∀ cur', OwnC k (xs.set j x).length cap cur' ((xs.set j x).flatMap enc) → ∃ l', Turn l B (.cells cur e (0, 0)) (.cells cur' e (0, 0)) l' ∧ JE P n ops pl (St W0 olds l') E Q (updO f dst undef)) :
    JE P n ops pl (St W0 olds l) ((i, ⟨dst, .store t y z, T, pos, af, g⟩, false) :: E) Q f := ⟨fun w hS => by
  have hb := hS.own _ hk.mem
  have hb' : w.heap[B]? = some (cel cur.toList e) := by rw [own_cel]; exact hb
  obtain ⟨l', ht, hj'⟩ := h _ (ho.setRow henc hj x)
  have hcl : cur.toList.length = cap * k := by rw [Array.length_toList, ho.all]
  have hik : j * k + k ≤ cap * k := by
    have := Nat.mul_le_mul_right k (show j + 1 ≤ cap from Nat.le_trans hj ho.room)
    rw [Nat.add_mul] at this; omega
  refine WE.act (R := fun v' w' => v' = undef ∧ w' = w.turned B (.cells (lay cur.toList (j * k) (enc x)).toArray e (0, 0))) hw ?_ hd ?_
  · have := run_storeVar (P := P) (T := t) (k := k) (off := 0 + j * k) (v := ev f z) hb' hm.size (by rw [hv, henc]) (by rw [hcl]; omega) (by rw [hv]; exact List.all_eq_true.1 hone)
    rw [hv, Nat.zero_add] at this
    have e1 : cel (lay cur.toList (j * k) (enc x)) e = .cells (lay cur.toList (j * k) (enc x)).toArray e (0, 0) := rfl
    rw [e1] at this
    rw [Nat.zero_add] at hx
    simp [Step, execOp, hx, Instr.storeAt, Instr.sureAddr, this]
  · rintro v' w' ⟨rfl, rfl⟩
    exact ⟨pl.put i B w _ hwr fun j hj _ => turned_other w _ hj, hj'.run _ (hS.turned ht)⟩⟩
end
end Go.Proofs.YtnapfiheholhiaaSym

namespace Go.Proofs.Ytnapfiheholhiaa
open Go Go.RowKit Go.Proofs.YtnapfiheholhiaaSym

theorem encP_len (p : Pledge) : (encPledge p).length = 6 := rfl
theorem encP_one (p : Pledge) : (encPledge p).all oneV = true := rfl

/-- The part from a to b sorted. -/
def isort (a b : Nat) (xs : List Pledge) : List Pledge := xs.take a ++ (sortB passes ((xs.take b).drop a) ++ xs.drop b)
theorem isort_length {a b : Nat} {xs : List Pledge} (hab : a ≤ b) (hb : b ≤ xs.length) : (isort a b xs).length = xs.length := by
  simp only [isort, List.length_append, sortB_length, List.length_take, List.length_drop]; omega
theorem isort_self (a : Nat) (xs : List Pledge) : isort a a xs = xs := by
  have : (xs.take a).drop a = [] := List.drop_eq_nil_of_le (by simp; omega)
  simp [isort, this, sortB]
theorem isort_one {a : Nat} {xs : List Pledge} (h : a < xs.length) : isort a (a + 1) xs = xs := by
  have : (xs.take (a + 1)).drop a = [xs[a]] := by
    rw [List.take_add_one, List.getElem?_eq_getElem h, List.drop_append_of_le_length (by simp; omega), List.drop_eq_nil_of_le (by simp; omega)]
    rfl
  rw [isort, this]
  have e : sortB passes [xs[a]] = [xs[a]] := by simp [sortB, insB]
  rw [e]
  conv => rhs; rw [← List.take_append_drop a xs]
  rw [List.singleton_append, ← List.drop_eq_getElem_cons h]
/-- What the row is while x goes down. -/
def mid (a q : Nat) (s : List Pledge) (x : Pledge) (P R : List Pledge) : List Pledge := P ++ (s.take q ++ x :: s.drop q) ++ R
theorem mid_length {a q : Nat} {s : List Pledge} {x : Pledge} {P R : List Pledge} : (mid a q s x P R).length = P.length + (s.length + 1) + R.length := by
  simp only [mid, List.length_append, List.length_cons, List.length_take, List.length_drop]; omega
theorem mid_at {a q : Nat} {s : List Pledge} {x : Pledge} {P R : List Pledge} (hP : P.length = a) (hq : q ≤ s.length) : (mid a q s x P R)[a + q]? = some x := by
  unfold mid
  rw [List.append_assoc, List.getElem?_append_right (by omega), List.append_assoc, List.getElem?_append_right (by simp; omega)]
  have : a + q - P.length - (s.take q).length = 0 := by simp; omega
  rw [this]; rfl
theorem mid_left {a q : Nat} {s : List Pledge} {x y : Pledge} {P R : List Pledge} (hP : P.length = a) (hy : s[q]? = some y) : (mid a (q + 1) s x P R)[a + q]? = some y := by
  have hq : q < s.length := (List.getElem?_eq_some_iff.1 hy).1
  unfold mid
  rw [List.append_assoc, List.getElem?_append_right (by omega), List.append_assoc, List.getElem?_append_left (by simp; omega), show a + q - P.length = q by omega, List.getElem?_take, if_pos (by omega)]
  exact hy
theorem mid_swap {a q : Nat} {s : List Pledge} {x y : Pledge} {P R : List Pledge} (hP : P.length = a) (hy : s[q]? = some y) : ((mid a (q + 1) s x P R).set (a + (q + 1)) y).set (a + q) x = mid a q s x P R := by
  obtain ⟨hq, rfl⟩ := List.getElem?_eq_some_iff.1 hy
  subst hP
  unfold mid
  have e1 : s.take (q + 1) = s.take q ++ [s[q]] := by rw [List.take_add_one, hy]; rfl
  have e2 : s.drop q = s[q] :: s.drop (q + 1) := List.drop_eq_getElem_cons hq
  have el : (s.take q).length = q := by simp; omega
  rw [e1, e2]
  have e3 : P ++ (s.take q ++ [s[q]] ++ x :: s.drop (q + 1)) ++ R = (P ++ s.take q) ++ (s[q] :: x :: (s.drop (q + 1) ++ R)) := by simp only [List.append_assoc, List.cons_append, List.nil_append]
  have e4 : P ++ (s.take q ++ x :: s[q] :: s.drop (q + 1)) ++ R = (P ++ s.take q) ++ (x :: s[q] :: (s.drop (q + 1) ++ R)) := by simp only [List.append_assoc, List.cons_append]
  have el2 : (P ++ s.take q).length = P.length + q := by simp; omega
  rw [e3, e4, ← el2, List.set_append_right _ _ (by omega)]
  rw [show P.length + (q + 1) - (P ++ s.take q).length = 1 by omega]
  rw [List.set_append_right _ _ (Nat.le_refl _), Nat.sub_self]
  rfl
theorem mid_done {a q i : Nat} {xs : List Pledge} {x : Pledge} (hx : xs[i]? = some x) (ha : a ≤ i) (hq : q ≤ i - a) (h1 : ∀ j y, q ≤ j → (sortB passes ((xs.take i).drop a))[j]? = some y → passes x y = true)
    (h2 : q = 0 ∨ ∃ y, (sortB passes ((xs.take i).drop a))[q - 1]? = some y ∧ passes x y = false) : mid a q (sortB passes ((xs.take i).drop a)) x (xs.take a) (xs.drop (i + 1)) = isort a (i + 1) xs := by
  have hi : i < xs.length := (List.getElem?_eq_some_iff.1 hx).1
  have hl : (sortB passes ((xs.take i).drop a)).length = i - a := by rw [sortB_length]; simp; omega
  have e1 : (xs.take (i + 1)).drop a = (xs.take i).drop a ++ [x] := by
    rw [List.take_add_one, hx, List.drop_append_of_le_length (by simp; omega)]; rfl
  unfold isort mid
  rw [e1, sortB_snoc, insB_at (by omega) h1 h2]
  simp only [List.append_assoc]
theorem mid_start {a i : Nat} {xs : List Pledge} {x : Pledge} (hx : xs[i]? = some x) (ha : a ≤ i) : mid a (i - a) (sortB passes ((xs.take i).drop a)) x (xs.take a) (xs.drop (i + 1)) = isort a i xs := by
  have hi : i < xs.length := (List.getElem?_eq_some_iff.1 hx).1
  have hl : (sortB passes ((xs.take i).drop a)).length = i - a := by rw [sortB_length]; simp; omega
  unfold mid isort
  have : xs.drop i = x :: xs.drop (i + 1) := by
    obtain ⟨_, rfl⟩ := List.getElem?_eq_some_iff.1 hx
    exact List.drop_eq_getElem_cons hi
  rw [this]
  generalize sortB passes ((xs.take i).drop a) = s at hl
  rw [List.take_of_length_le (l := s) (by omega), @List.drop_eq_nil_of_le _ s (i - a) (by omega)]
  simp only [List.append_assoc, List.cons_append, List.nil_append]

set_option maxHeartbeats 4000000 in
theorem insSort_calls (B cap c : Nat) (cur : Array Value) (xs : List Pledge) (a b : Nat) (w : World) (hb : w.heap[B]? = some (.cells cur 37 (0, 0))) (ho : OwnC 6 xs.length cap cur (xs.flatMap encPledge)) (hab : a ≤ b) (hbl : b ≤ xs.length) (hmax : xs.length ≤ 4096) :
    Does Try.prog 58 [.slice (some ⟨B, 0, none⟩) xs.length c, .int .i64 a, .int .i64 b, .func (.func 27) #[] #[]] w
      (RetO w [(B, .cells cur 37 (0, 0))] fun v ln => v = .tuple #[] ∧ ∃ cur', ln = [(B, .cells cur' 37 (0, 0))] ∧ OwnC 6 xs.length cap cur' ((isort a b xs).flatMap encPledge)) := by
  refine calls_J (ys := [.slice (some ⟨B, 0, none⟩) xs.length c, .int .i64 a, .int .i64 b, .func (.func 27) #[] #[]]) Try.func58 rfl Try.ntmps58 rfl ?_
  refine J.at_ ?_ (St.startO (l := [(B, .cells cur 37 (0, 0))]) (by simp [hb]) (by simp))
  simp only [List.map_cons, List.map_nil]
  repeat' (first
    | refine JE.pure rfl rfl (by conv => lhs; whnf) rfl ?_
    | (refine JE.kBin ?_; refine JE.int rfl rfl rfl rfl (by rw [i64_id (by omega)]) rfl ?_)
    | with_reducible refine JE.sN ?_
    | with_reducible refine J.seq ?_
    | with_reducible refine J.region ?_
    | with_reducible refine J.block ?_)
  refine J.loop (fun f w' => ∃ (p : Nat) (cur' : Array Value), 1 ≤ p ∧ (a + p ≤ b ∨ p = 1) ∧ OwnC 6 xs.length cap cur' ((isort a (min (a + p) b) xs).flatMap encPledge) ∧ Has f [(0, .slice (some ⟨B, 0, none⟩) xs.length c), (1, .int .i64 a), (2, .int .i64 b), (3, .func (.func 27) #[] #[]), (8, .int .i64 ((a + p : Nat) : Int))] ∧ St w [B] [(B, .cells cur' 37 (0, 0))] w')
    (fun f _ => xs.length + 1 - (intOf (f 8)).toNat) (fun w' hS => ⟨1, cur, Nat.le_refl _, .inr rfl, ?_, (by repeat' (first | exact trivial | refine And.intro (by rfl) ?_)), hS⟩) ?_
  · rcases Nat.lt_or_ge a b with h | h
    · rw [Nat.min_eq_left (by omega), isort_one (by omega)]; exact ho
    · rw [Nat.min_eq_right (by omega), show b = a by omega, isort_self]; exact ho
  rintro f w' ⟨p, cur', hi1, hi2, ho', hf, hS⟩
  obtain ⟨g, rfl⟩ := hf.eq
  clear hf
  refine J.at_ ?_ hS
  by_cases hlt : a + p < b
  · obtain ⟨x, hxi⟩ : ∃ x, xs[a + p]? = some x := ⟨_, List.getElem?_eq_getElem (by omega)⟩
    obtain ⟨s, hs⟩ : ∃ s, s = sortB passes ((xs.take (a + p)).drop a) := ⟨_, rfl⟩
    obtain ⟨R, hR⟩ : ∃ R, R = xs.drop (a + p + 1) := ⟨_, rfl⟩
    obtain ⟨Pr, hP⟩ : ∃ P, P = xs.take a := ⟨_, rfl⟩
    rw [Nat.min_eq_left (by omega), ← mid_start hxi (by omega), show a + p - a = p by omega, ← hs, ← hR, ← hP] at ho'
    have hsl : s.length = p := by rw [hs, sortB_length]; simp; omega
    have hPl : Pr.length = a := by rw [hP]; simp; omega
    have hRl : R.length = xs.length - (a + p + 1) := by rw [hR]; simp
    have hdone : ∀ q, q ≤ p → (∀ (j : Nat) y, q ≤ j → s[j]? = some y → passes x y = true) → (q = 0 ∨ ∃ y, s[q - 1]? = some y ∧ passes x y = false) → mid a q s x Pr R = isort a (a + p + 1) xs := fun q hq h1 h2 => by
      rw [hs, hR, hP]; rw [hs] at h1 h2
      exact mid_done hxi (Nat.le_add_right a p) (by omega) h1 h2
    clear hs hR hP
    have hml : ∀ q, (mid a q s x Pr R).length = xs.length := fun q => by
      rw [mid_length, hsl, hPl, hRl]; omega
    repeat' (first
      | refine JE.pure rfl rfl (by conv => lhs; whnf) rfl ?_
      | (refine JE.kBin ?_; (refine JE.int rfl rfl rfl rfl rfl rfl ?_; with_reducible refine JE.waysD (fun _ => ?_) (fun _ => ?_)))
      | with_reducible refine JE.sN ?_
      | with_reducible refine J.seq ?_
      | with_reducible refine J.region ?_
      | refine J.condT rfl ?_
      | refine J.condF rfl ?_
      | with_reducible refine J.skip ?_
      | with_reducible refine J.exit ?_
      | with_reducible refine J.block ?_
      | with_reducible refine JX.thenN ?_
      | with_reducible refine JX.thenE ?_
      | with_reducible refine JX.blkS ?_)
    · skip
      refine J.loop (fun f w' => ∃ (q : Nat) (cur' : Array Value), q ≤ p ∧ (∀ (j : Nat) y, q ≤ j → s[j]? = some y → passes x y = true) ∧ OwnC 6 (mid a q s x Pr R).length cap cur' ((mid a q s x Pr R).flatMap encPledge) ∧ Has f [(0, .slice (some ⟨B, 0, none⟩) xs.length c), (1, .int .i64 a), (2, .int .i64 b), (3, .func (.func 27) #[] #[]), (8, .int .i64 ((a + p : Nat) : Int)), (9, .int .i64 ((a + q : Nat) : Int))] ∧ St w [B] [(B, .cells cur' 37 (0, 0))] w')
        (fun f _ => (intOf (f 9)).toNat) (fun w' hS => ⟨p, cur', Nat.le_refl _, fun j y hj hy => ?_, by rw [hml]; exact ho', (by repeat' (first | exact trivial | refine And.intro (by rfl) ?_)), hS⟩) ?_
      · have := (List.getElem?_eq_some_iff.1 hy).1; omega
      rintro f w' ⟨q, cur2, hq, hpass, ho2, hf, hS⟩
      obtain ⟨g, rfl⟩ := hf.eq
      clear hf
      refine J.at_ ?_ hS
      have hro : ∀ w', St w [B] [(B, .cells cur2 37 (0, 0))] w' → RowsAt 6 encPledge w' B 0 (mid a q s x Pr R) := fun w' hS => ho2.rows encP_len (hS.own _ (.head _))
      rcases Nat.eq_zero_or_pos q with rfl | hq0
      · skip
        repeat' (first
          | refine JE.pure rfl rfl (by conv => lhs; whnf) rfl ?_
          | refine JE.skip rfl rfl ?_
          | (refine JE.kBin ?_; (refine JE.int rfl rfl rfl rfl rfl rfl ?_; with_reducible refine JE.waysD (fun _ => ?_) (fun _ => ?_)))
          | (refine JE.kBin ?_; refine JE.int rfl rfl rfl rfl (by rw [i64_id (by omega)]) rfl ?_)
          | with_reducible refine JE.sX ?_
          | with_reducible refine JE.dN ?_
          | with_reducible refine J.seq ?_
          | with_reducible refine J.region ?_
          | refine J.condF rfl ?_
          | with_reducible refine J.exit ?_
          | with_reducible refine JX.thenN ?_
          | with_reducible refine JX.thenE ?_
          | with_reducible refine JX.blkS ?_
          | with_reducible refine JX.blkN ?_
          | (refine J.isR 4 ?_; refine J.draw [(0, true), (1, true), (2, true), (3, true), (4, true), (5, true), (6, true), (7, true), (8, true), (9, true), (10, true), (11, true), (12, true), (13, true), (14, false), (15, true), (16, true)] [] mixed (by kernel_rfl) (fun _ h => h.drew) ?_))
        all_goals first
          | (exfalso; omega)
          | (refine JX.round fun w'' hS' => ⟨⟨p + 1, cur2, by omega, .inl (by omega), ?_, (by repeat' (first | exact trivial | refine And.intro (by rfl) ?_)), hS'⟩, ?_⟩
             · rw [Nat.min_eq_left (by omega), show a + (p + 1) = a + p + 1 by omega, ← hdone 0 (Nat.zero_le _) hpass (.inl rfl)]
               rw [hml] at ho2; exact ho2
             · show xs.length + 1 - ((a + p : Nat) + 1 : Int).toNat < xs.length + 1 - ((a + p : Nat) : Int).toNat
               omega)
      · obtain ⟨q, rfl⟩ : ∃ r, q = r + 1 := ⟨q - 1, by omega⟩
        have hy : s[q]? = some s[q] := List.getElem?_eq_getElem (by omega)
        have hsub : Value.int .i64 (IntKind.i64.wrap (((a + (q + 1) : Nat) : Int) - 1)) = .int .i64 ((a + q : Nat) : Int) := by rw [i64_id (by omega)]; congr 1; omega
        have ex : (mid a (q + 1) s x Pr R)[a + (q + 1)]? = some x := mid_at hPl (by omega)
        have ey : (mid a (q + 1) s x Pr R)[a + q]? = some s[q] := mid_left hPl hy
        have hcx : passes x s[q] = decide (rankI x s[q] < 0) := rfl
        have hsw := mid_swap (x := x) (R := R) hPl hy
        generalize s[q] = y at hy ey hcx hsw
        repeat' (first
          | (refine JE.kBin ?_; refine JE.int rfl rfl rfl rfl hsub rfl ?_)
          | refine JE.pure rfl rfl (by conv => lhs; whnf) rfl ?_
          | refine JE.skip rfl rfl ?_
          | (refine JE.kBin ?_; (refine JE.int rfl rfl rfl rfl rfl rfl ?_; with_reducible refine JE.waysD (fun _ => ?_) (fun _ => ?_)))
          | (refine JE.kBin ?_; refine JE.int rfl rfl rfl rfl (by rw [i64_id (by omega)]) rfl ?_)
          | with_reducible refine JE.sX ?_
          | with_reducible refine JE.dN ?_
          | with_reducible refine JE.dX ?_
          | with_reducible refine J.seq ?_
          | with_reducible refine J.region ?_
          | refine J.condT rfl ?_
          | refine J.condF rfl ?_
          | with_reducible refine J.skip ?_
          | with_reducible refine J.exit ?_
          | with_reducible refine J.block ?_
          | with_reducible refine JX.thenN ?_
          | with_reducible refine JX.thenE ?_
          | with_reducible refine JX.blkS ?_
          | with_reducible refine JX.blkN ?_
          | (refine J.isR 4 ?_; refine J.draw [(0, true), (1, true), (2, true), (3, true), (4, true), (5, true), (6, true), (7, true), (8, true), (9, true), (10, true), (11, true), (12, true), (13, true), (14, false), (15, true), (16, true)] [] mixed (by kernel_rfl) (fun _ h => h.drew) ?_)
          | (refine J.isR 6 ?_; refine J.draw [(0, true), (1, true), (2, true), (3, true), (4, true), (5, true), (6, true), (7, true), (8, true), (9, true), (10, true), (11, true), (12, true), (13, true), (14, true), (15, false), (16, true), (17, false)] [(15, B), (17, B)] mixed (by kernel_rfl) (fun _ h => h.drew) ?_)
          | (refine JE.kIndexAddr ?_; refine JE.indexAddr rfl rfl rfl (Int.natCast_nonneg _) (by omega) rfl ?_)
          | (refine JE.kLoad ?_; refine JE.loadRowS rfl rfl hro ex rfl rfl (fun _ => by first | trivial | exact ⟨by kernel_rfl, by kernel_rfl, trivial⟩) rfl ?_)
          | (refine JE.kLoad ?_; refine JE.loadRowS rfl rfl hro ey rfl rfl (fun _ => by first | trivial | exact ⟨by kernel_rfl, by kernel_rfl, trivial⟩) rfl ?_)
          | (refine JE.isV ?_; refine JE.call rfl rfl (by repeat (first | exact NfL.nil rfl | apply NfL.cons (by exact rfl) (by conv => lhs; whnf))) rfl ?_; refine CallG.ret (fun w hS => rankF_calls x y w) ?_)
          | (refine JE.kStore ?_; refine JE.storeRow y rfl rfl (.head) ho2 encP_len (by rw [hml]; omega) rfl rfl (by simp [drawn]) rfl (fun cur3 ho3 => ⟨_, .head, ?_⟩))
          | (refine JE.kStore ?_; refine JE.storeRow x rfl rfl (.head) ho3 encP_len (by rw [List.length_set, hml]; omega) rfl rfl (by simp [drawn]) rfl (fun cur4 ho4 => ⟨_, .head, ?_⟩)))
        all_goals first
          | (exfalso; omega)
          | (rename_i hr
             refine JX.round fun w'' hS' => ⟨⟨q, cur4, by omega, fun j z hj hz => ?_, by
               have h4 : OwnC 6 (((mid a (q + 1) s x Pr R).set (a + (q + 1)) y).set (a + q) x).length cap cur4 ((((mid a (q + 1) s x Pr R).set (a + (q + 1)) y).set (a + q) x).flatMap encPledge) := ho4
               rw [hsw] at h4; exact h4, (by repeat' (first | exact trivial | refine And.intro (by rfl) ?_)), hS'⟩, ?_⟩
             · rcases Nat.lt_or_ge q j with h | h
               · exact hpass j z h hz
               · have : j = q := by omega
                 subst this
                 rw [hy] at hz; cases hz
                 rw [hcx, decide_eq_true hr]
             · show ((a + q : Nat) : Int).toNat < ((a + (q + 1) : Nat) : Int).toNat
               omega)
          | (rename_i hr
             refine JX.round fun w'' hS' => ⟨⟨p + 1, cur2, by omega, .inl (by omega), ?_, (by repeat' (first | exact trivial | refine And.intro (by rfl) ?_)), hS'⟩, ?_⟩
             · rw [Nat.min_eq_left (by omega), show a + (p + 1) = a + p + 1 by omega, ← hdone (q + 1) hq hpass (.inr ⟨y, hy, by rw [hcx, decide_eq_false hr]⟩)]
               rw [hml] at ho2; exact ho2
             · show xs.length + 1 - ((a + p : Nat) + 1 : Int).toNat < xs.length + 1 - ((a + p : Nat) : Int).toNat
               omega)
    all_goals (exfalso; omega)
  · rw [show min (a + p) b = b by omega] at ho'
    repeat' (first
      | refine JE.pure rfl rfl (by conv => lhs; whnf) rfl ?_
      | (refine JE.kBin ?_; (refine JE.int rfl rfl rfl rfl rfl rfl ?_; with_reducible refine JE.waysD (fun _ => ?_) (fun _ => ?_)))
      | with_reducible refine JE.sN ?_
      | with_reducible refine J.seq ?_
      | with_reducible refine J.region ?_
      | refine J.condT rfl ?_
      | refine J.condF rfl ?_
      | with_reducible refine J.skip ?_
      | with_reducible refine J.exit ?_
      | with_reducible refine J.block ?_
      | with_reducible refine JX.thenN ?_
      | with_reducible refine JX.thenE ?_
      | with_reducible refine JX.blkS ?_)
    all_goals first
      | (exfalso; omega)
      | exact fnQ_none (.inr rfl) rfl fun w'' hS' => ⟨_, _, rfl, ⟨rfl, cur', rfl, ho'⟩, hS'⟩

theorem insSort0_calls (w : World) : Does Try.prog 58 [.slice none 0 0, .int .i64 0, .int .i64 0, .func (.func 27) #[] #[]] w (Ret w (.tuple #[])) := by
  refine calls_J (ys := [.slice none 0 0, .int .i64 0, .int .i64 0, .func (.func 27) #[] #[]]) Try.func58 rfl Try.ntmps58 rfl ?_
  refine J.at_ (S := St w [] []) ?_ (St.start w)
  repeat' (first
    | refine JE.pure rfl rfl (by conv => lhs; whnf) rfl ?_
    | (refine JE.kBin ?_; refine JE.int rfl rfl rfl rfl (by rw [i64_id (by omega)]) rfl ?_)
    | with_reducible refine JE.sN ?_
    | with_reducible refine J.seq ?_
    | with_reducible refine J.region ?_
    | with_reducible refine J.block ?_)
  refine J.loop (fun f w' => Has f [(2, .int .i64 0), (8, .int .i64 1)] ∧ St w [] [] w') (fun _ _ => 0) (fun w' hS => ⟨(by repeat' (first | exact trivial | refine And.intro (by rfl) ?_)), hS⟩) ?_
  rintro f w' ⟨hf, hS⟩
  obtain ⟨g, rfl⟩ := hf.eq
  clear hf
  refine J.at_ ?_ hS
  repeat' (first
    | refine JE.pure rfl rfl (by conv => lhs; whnf) rfl ?_
    | (refine JE.kBin ?_; (refine JE.int rfl rfl rfl rfl rfl rfl ?_; with_reducible refine JE.waysD (fun _ => ?_) (fun _ => ?_)))
    | with_reducible refine JE.sN ?_
    | with_reducible refine J.seq ?_
    | with_reducible refine J.region ?_
    | refine J.condT rfl ?_
    | refine J.condF rfl ?_
    | with_reducible refine J.skip ?_
    | with_reducible refine J.exit ?_
    | with_reducible refine J.block ?_
    | with_reducible refine JX.thenN ?_
    | with_reducible refine JX.thenE ?_
    | with_reducible refine JX.blkS ?_)
  all_goals first
    | (exfalso; omega)
    | exact fnQ_none (.inr rfl) rfl fun w'' hS' => ⟨rfl, hS'.below⟩

theorem Own.isort {v : Value} {xs : List Pledge} {ln : List (Nat × Obj)} (a b : Nat) (w : World) (ho : Own 6 encPledge 37 v xs ln) (hown : ∀ x ∈ ln, w.heap[x.1]? = some x.2) (hab : a ≤ b) (hbl : b ≤ xs.length) (hmax : xs.length ≤ 4096) :
    Does Try.prog 58 [v, .int .i64 a, .int .i64 b, .func (.func 27) #[] #[]] w (RetO w ln fun u ln' => u = .tuple #[] ∧ Own 6 encPledge 37 v (isort a b xs) ln') := by
  rcases ho with ⟨rfl, rfl, rfl⟩ | ⟨B, cap, cur, rfl, ho, rfl⟩
  · have ha : a = 0 := by simp at hbl; omega
    have hb : b = 0 := by simp at hbl; omega
    subst ha hb
    exact (insSort0_calls w).mono fun e w' ⟨he, hb⟩ => ⟨_, [], he, ⟨rfl, .inl ⟨rfl, rfl, rfl⟩⟩, St.of_below hb⟩
  · refine (insSort_calls B cap cap cur xs a b w (hown _ List.mem_cons_self) ho hab hbl hmax).mono ?_
    rintro e w' ⟨v, ln', he, ⟨rfl, cur', rfl, ho'⟩, hS⟩
    refine ⟨_, _, he, ⟨rfl, .inr ⟨B, cap, cur', by rw [isort_length hab hbl], by rw [isort_length hab hbl]; exact ho', rfl⟩⟩, hS⟩

end Go.Proofs.Ytnapfiheholhiaa
