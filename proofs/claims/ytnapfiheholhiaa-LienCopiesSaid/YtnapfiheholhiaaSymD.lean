/-
  Merging two sorted rows in place: the search for the cut, and the parts. Conditions: none.
-/
import Derived.Test.YtnapfiheholhiaaSymC
set_option linter.unusedVariables false
set_option linter.unusedSimpArgs false
namespace Go.Proofs.YtnapfiheholhiaaSym
open Go Go.RowKit

/-- M behind the ordinary end. -/
inductive ThenM (M : Fr → World → Prop) (Q : Post) : Post
  | norm {f : Fr} {w : World} : M f w → ThenM M Q .normal f w
  | rest {e : Exit} {f : Fr} {w : World} : e ≠ .normal → Q e f w → ThenM M Q e f w
theorem J.isSeqR {P : Program} {n : Nat} {S : World → Prop} {Q : Post} {f : Fr} (i : Nat) {l : Array Oper} {d : Bool} {K : Fr → World → Prop} {y : Code} (h : J P n S (.seq (.region i l d) y) (thenQ K Q) f) : J P n S (.seq (.region i l d) y) (thenQ K Q) f := h
/-- A state between x and what follows. -/
theorem J.cutS {P : Program} {n : Nat} {S : World → Prop} {Q : Post} {f : Fr} (M : Fr → World → Prop) {K : Fr → World → Prop} {x : Code} (h : J P n S x (ThenM M Q) f) (hy : ∀ g w, M g w → K g w) : J P n S x (thenQ K Q) f := ⟨fun w hw a ha =>
  wp_mono (h.run w hw a ha) fun e a' w' ⟨f', hf', hq⟩ => by
    cases hq with
    | norm hq => exact ⟨f', hf', hy f' w' hq⟩
    | rest hne hq => cases e <;> first | exact absurd rfl hne | exact ⟨f', hf', hq⟩⟩
theorem JX.roundM {S : World → Prop} {Q : Post} {f : Fr} {K : Fr → World → Prop} (h : ∀ w, S w → K f w) : JX S (ThenM K Q) .normal f := ⟨fun w hw => .norm (h w hw)⟩
end Go.Proofs.YtnapfiheholhiaaSym

namespace Go.Proofs.Ytnapfiheholhiaa
open Go Go.RowKit Go.Proofs.YtnapfiheholhiaaSym

/-- Merging shorter rows, in the part of a row. -/
def SymOk (B cap n c N : Nat) : Prop := ∀ (P L R S : List Pledge) (ln : List (Nat × Obj)) (a m b : Nat) (w : World), L.length + R.length < N → RowO B cap n (P ++ (L ++ (R ++ S))) ln → (∀ x ∈ ln, w.heap[x.1]? = some x.2) →
  a = P.length → m = a + L.length → b = m + R.length → 0 < L.length → 0 < R.length → SortedB passes L → SortedB passes R →
  Does Try.prog 59 [.slice (some ⟨B, 0, none⟩) n c, .int .i64 a, .int .i64 m, .int .i64 b, .func (.func 27) #[] #[]] w (RetO w ln fun v ln' => v = .tuple #[] ∧ RowO B cap n (P ++ (mergeB passes L R ++ S)) ln')

set_option maxRecDepth 100000 in
set_option maxHeartbeats 4000000 in
theorem sym3_calls {B cap n : Nat} (c : Nat) {P L R S : List Pledge} {ln : List (Nat × Obj)} {a m b : Nat} (w : World) (ih : SymOk B cap n c (L.length + R.length)) (hr : RowO B cap n (P ++ (L ++ (R ++ S))) ln) (hown : ∀ x ∈ ln, w.heap[x.1]? = some x.2)
    (ha : a = P.length) (hm : m = a + L.length) (hb : b = m + R.length) (hL : 1 < L.length) (hR : 1 < R.length) (hsL : SortedB passes L) (hsR : SortedB passes R) (hmax : n ≤ 4096) :
    Does Try.prog 59 [.slice (some ⟨B, 0, none⟩) n c, .int .i64 a, .int .i64 m, .int .i64 b, .func (.func 27) #[] #[]] w (RetO w ln fun v ln' => v = .tuple #[] ∧ RowO B cap n (P ++ (mergeB passes L R ++ S)) ln') := by
  have hn := hr.1
  simp only [List.length_append] at hn
  refine calls_J (ys := [.slice (some ⟨B, 0, none⟩) n c, .int .i64 a, .int .i64 m, .int .i64 b, .func (.func 27) #[] #[]]) Try.func59 rfl Try.ntmps59 rfl ?_
  refine J.at_ ?_ (St.startO hown hr.nodup)
  have hma : Value.int .i64 (IntKind.i64.wrap ((m : Int) - (a : Int))) = .int .i64 (L.length : Nat) := by rw [i64_id (by omega)]; congr 1; omega
  have hbm : Value.int .i64 (IntKind.i64.wrap ((b : Int) - (m : Int))) = .int .i64 (R.length : Nat) := by rw [i64_id (by omega)]; congr 1; omega
  have h10 : Value.bool (decide (((L.length : Nat) : Int) = 1)) = .bool false := by rw [decide_eq_false (by omega)]
  have h11 : Value.bool (decide (((R.length : Nat) : Int) = 1)) = .bool false := by rw [decide_eq_false (by omega)]
  obtain ⟨mid, hmid⟩ : ∃ mid, mid = (a + b) / 2 := ⟨_, rfl⟩
  have hab : Value.int .i64 (IntKind.i64.wrap ((a : Int) + (b : Int))) = .int .i64 ((a + b : Nat) : Int) := by rw [i64_id (by omega)]; congr 1
  have hf1 : IntKind.u64.wrap ((a + b : Nat) : Int) = ((a + b : Nat) : Int) := u64_id (by omega)
  have hf2 : IntKind.i64.wrap ((mid : Nat) : Int) = ((mid : Nat) : Int) := i64_id (by omega)
  obtain ⟨k, hk⟩ : ∃ k, k = mid + m := ⟨_, rfl⟩
  have hmm : Value.int .i64 (IntKind.i64.wrap ((mid : Int) + (m : Int))) = .int .i64 (k : Nat) := by rw [i64_id (by omega)]; congr 1; omega
  have hkp : Value.int .i64 (IntKind.i64.wrap ((k : Int) - 1)) = .int .i64 ((k - 1 : Nat) : Int) := by rw [i64_id (by omega)]; congr 1; omega
  obtain ⟨s0, r0, hcase⟩ : ∃ s0 r0, (mid < m ∧ s0 = k - b ∧ r0 = mid) ∨ (¬ mid < m ∧ s0 = a ∧ r0 = m) := by
    by_cases h : mid < m
    · exact ⟨_, _, .inl ⟨h, rfl, rfl⟩⟩
    · exact ⟨_, _, .inr ⟨h, rfl, rfl⟩⟩
  have hkb : mid < m → Value.int .i64 (IntKind.i64.wrap ((k : Int) - (b : Int))) = .int .i64 (s0 : Nat) := fun h => by rw [i64_id (by omega)]; congr 1; omega
  obtain ⟨xs, hxs⟩ : ∃ xs, xs = P ++ (L ++ (R ++ S)) := ⟨_, rfl⟩
  have hxl : xs.length = n := by rw [hxs]; simp only [List.length_append]; omega
  have hxL : ∀ q, q < L.length → xs[a + q]? = L[q]? := fun q hq => by
    rw [hxs, List.getElem?_append_right (by omega), show a + q - P.length = q by omega, List.getElem?_append_left hq]
  have hxR : ∀ q, q < R.length → xs[m + q]? = R[q]? := fun q hq => by
    rw [hxs, List.getElem?_append_right (by omega), List.getElem?_append_right (by omega), show m + q - P.length - L.length = q by omega, List.getElem?_append_left hq]
  have hb1 : a ≤ s0 ∧ s0 ≤ r0 ∧ r0 ≤ m ∧ r0 ≤ mid ∧ k ≤ s0 + b := by omega
  have hcs := hcase
  rcases hcs with hc | hc
  all_goals obtain ⟨hgt, hs0, hr0⟩ := hc
  repeat' (first
    | (refine JE.kBin ?_; refine JE.int rfl rfl rfl rfl hma rfl ?_)
    | (refine JE.kBin ?_; refine JE.int rfl rfl rfl rfl hbm rfl ?_)
    | (refine JE.kBin ?_; refine JE.int rfl rfl rfl rfl h10 rfl ?_)
    | (refine JE.kBin ?_; refine JE.int rfl rfl rfl rfl h11 rfl ?_)
    | (refine JE.kBin ?_; refine JE.int rfl rfl rfl rfl hab rfl ?_)
    | (refine JE.kBin ?_; refine JE.int rfl rfl rfl rfl hmm rfl ?_)
    | (refine JE.kBin ?_; refine JE.int rfl rfl rfl rfl hkp rfl ?_)
    | (refine JE.kBin ?_; refine JE.int rfl rfl rfl rfl (hkb hgt) rfl ?_)
    | (refine JE.kBin ?_; (refine JE.shr1 rfl rfl rfl rfl ?_; rw [← hmid]))
    | refine JE.pure rfl rfl (by conv => lhs; whnf) rfl ?_
    | (refine JE.kBin ?_; (refine JE.int rfl rfl rfl rfl rfl rfl ?_; with_reducible refine JE.waysD (fun _ => ?_) (fun _ => ?_)))
    | (refine JE.kBin ?_; refine JE.int rfl rfl rfl rfl (by rw [i64_id (by omega)]) rfl ?_)
    | with_reducible refine JE.sN ?_
    | with_reducible refine J.seq ?_
    | with_reducible refine J.region ?_
    | refine J.condT rfl ?_
    | refine J.condF rfl ?_
    | with_reducible refine J.skip ?_
    | with_reducible refine J.block ?_
    | with_reducible refine JX.thenN ?_
    | (refine JE.kConvert ?_; refine JE.convI rfl Try.underlying3 Try.underlying97 rfl hf1 rfl ?_)
    | (refine JE.kConvert ?_; refine JE.convI rfl Try.underlying97 Try.underlying3 rfl hf2 rfl ?_))
  all_goals first
    | (exfalso; omega)
    | skip
  all_goals
    (refine J.loop (fun f w' => ∃ (i j : Nat), s0 ≤ i ∧ i ≤ j ∧ j ≤ r0 ∧ (i = s0 ∨ ∃ l r, xs[i - 1]? = some l ∧ xs[k - i]? = some r ∧ passes r l = false) ∧ (j = r0 ∨ ∃ l r, xs[j]? = some l ∧ xs[k - 1 - j]? = some r ∧ passes r l = true) ∧ Has f [(0, .slice (some ⟨B, 0, none⟩) n c), (1, .int .i64 a), (2, .int .i64 m), (3, .int .i64 b), (4, .func (.func 27) #[] #[]), (18, .int .i64 mid), (19, .int .i64 k), (20, .int .i64 i), (21, .int .i64 j), (22, .int .i64 ((k - 1 : Nat) : Int))] ∧ St w (ln.map (·.1)) ln w')
       (fun f _ => (intOf (f 21)).toNat - (intOf (f 20)).toNat) (fun w' hS => ⟨s0, r0, Nat.le_refl _, hb1.2.1, Nat.le_refl _, .inl rfl, .inl rfl, ⟨rfl, rfl, rfl, rfl, rfl, rfl, rfl, by first | rfl | exact congrArg (fun z : Nat => Value.int .i64 z) hs0.symm, by first | rfl | exact congrArg (fun z : Nat => Value.int .i64 z) hr0.symm, rfl, trivial⟩, hS⟩) ?_
     rintro f w' ⟨i, j, hi, hij, hj, hA, hB, hf, hS⟩
     obtain ⟨g, rfl⟩ := hf.eq
     clear hf
     refine J.at_ ?_ hS
     by_cases hlt : i < j
     · have hadd : Value.int .i64 (IntKind.i64.wrap ((i : Int) + (j : Int))) = .int .i64 ((i + j : Nat) : Int) := by rw [i64_id (by omega)]; congr 1
       obtain ⟨h, hh⟩ : ∃ h, h = (i + j) / 2 := ⟨_, rfl⟩
       have hfit1 : IntKind.u64.wrap ((i + j : Nat) : Int) = ((i + j : Nat) : Int) := u64_id (by omega)
       have hfit2 : IntKind.i64.wrap (((i + j) / 2 : Nat) : Int) = (((i + j) / 2 : Nat) : Int) := i64_id (by omega)
       rw [← hh] at hfit2
       have hpc : Value.int .i64 (IntKind.i64.wrap (((k - 1 : Nat) : Int) - (h : Int))) = .int .i64 ((k - 1 - h : Nat) : Int) := by rw [i64_id (by omega)]; congr 1; omega
       obtain ⟨p, hp⟩ : ∃ p, p = k - 1 - h := ⟨_, rfl⟩
       rw [← hp] at hpc
       have hxh : xs[h]? = some (xs[h]'(by omega)) := List.getElem?_eq_getElem (by omega)
       have hxp : xs[p]? = some (xs[p]'(by omega)) := List.getElem?_eq_getElem (by omega)
       generalize xs[h]'(by omega) = x at hxh
       generalize xs[p]'(by omega) = y at hxp
       have hcy : passes y x = decide (rankI y x < 0) := rfl
       have hro : ∀ w', St w (ln.map (·.1)) ln w' → RowsAt 6 encPledge w' B 0 xs := fun w' hS => by
         obtain ⟨_, cur, rfl, ho⟩ := hr
         rw [← hxs, ← hxl] at ho; exact ho.rows encP_len (hS.own _ (.head _))
       repeat' (first
         | (refine JE.kBin ?_; refine JE.int rfl rfl rfl rfl hadd rfl ?_)
         | (refine JE.kBin ?_; refine JE.int rfl rfl rfl rfl hpc rfl ?_)
         | (refine JE.kBin ?_; (refine JE.shr1 rfl rfl rfl rfl ?_; rw [← hh]))
         | refine JE.pure rfl rfl (by conv => lhs; whnf) rfl ?_
         | refine JE.skip rfl rfl ?_
         | (refine JE.kBin ?_; (refine JE.int rfl rfl rfl rfl rfl rfl ?_; with_reducible refine JE.waysD (fun _ => ?_) (fun _ => ?_)))
         | (refine JE.kBin ?_; refine JE.int rfl rfl rfl rfl (by rw [i64_id (by omega)]) rfl ?_)
         | with_reducible refine JE.sN ?_
         | with_reducible refine JE.sX ?_
         | with_reducible refine JE.dN ?_
         | with_reducible refine J.seq ?_
         | with_reducible refine J.region ?_
         | refine J.condT rfl ?_
         | refine J.condF rfl ?_
         | with_reducible refine J.skip ?_
         | with_reducible refine J.exit ?_
         | with_reducible refine J.block ?_
         | with_reducible refine JX.thenN ?_
         | with_reducible refine JX.thenE ?_
         | with_reducible refine JX.blkS ?_
         | with_reducible refine JX.blkN ?_
         | (refine J.isR 35 ?_; refine J.draw [(0, true), (1, true), (2, true), (3, true), (4, true), (5, true), (6, true), (7, true), (8, true), (9, true), (10, true), (11, false), (12, true), (13, true)] [] mixed (by kernel_rfl) (fun _ h => h.drew) ?_)
         | (refine JE.kConvert ?_; refine JE.convI rfl Try.underlying3 Try.underlying97 rfl hfit1 rfl ?_)
         | (refine JE.kConvert ?_; refine JE.convI rfl Try.underlying97 Try.underlying3 rfl hfit2 rfl ?_)
         | (refine JE.kIndexAddr ?_; refine JE.indexAddr rfl rfl rfl (Int.natCast_nonneg _) (by omega) rfl ?_)
         | (refine JE.kLoad ?_; refine JE.loadRowS rfl rfl hro hxp rfl rfl (fun _ => by first | trivial | exact ⟨by kernel_rfl, by kernel_rfl, trivial⟩) rfl ?_)
         | (refine JE.kLoad ?_; refine JE.loadRowS rfl rfl hro hxh rfl rfl (fun _ => by first | trivial | exact ⟨by kernel_rfl, by kernel_rfl, trivial⟩) rfl ?_)
         | (refine JE.isV ?_; refine JE.call rfl rfl (by repeat (first | exact NfL.nil rfl | apply NfL.cons (by exact rfl) (by conv => lhs; whnf))) rfl ?_; refine CallG.ret (fun w hS => rankF_calls y x w) ?_))
       all_goals first
         | (exfalso; omega)
         | (rename_i hrk
            refine JX.round fun w'' hS' => ⟨⟨i, h, hi, by omega, by omega, hA, .inr ⟨x, y, hxh, hp ▸ hxp, by rw [hcy, decide_eq_true hrk]⟩, (by repeat' (first | exact trivial | refine And.intro (by rfl) ?_)), hS'⟩, ?_⟩
            show (h : Int).toNat - (i : Int).toNat < (j : Int).toNat - (i : Int).toNat
            omega)
         | (rename_i hrk
            refine JX.round fun w'' hS' => ⟨⟨h + 1, j, by omega, by omega, hj, .inr ⟨x, y, by rw [Nat.add_sub_cancel]; exact hxh, by rw [show k - (h + 1) = p by omega]; exact hxp, by rw [hcy, decide_eq_false hrk]⟩, hB, (by repeat' (first | exact trivial | refine And.intro (by rfl) ?_)), hS'⟩, ?_⟩
            show (j : Int).toNat - ((h : Int) + 1).toNat < (j : Int).toNat - (i : Int).toNat
            omega)
     · obtain rfl : i = j := by omega
       obtain ⟨u, hu⟩ : ∃ u, i = a + u := ⟨i - a, by omega⟩
       obtain ⟨v, hv⟩ : ∃ v, k = i + (m + v) := ⟨k - i - m, by omega⟩
       have hul : u ≤ L.length := by omega
       have hvl : v ≤ R.length := by omega
       have hmidu : mid = i + v := by omega
       have hcut : mergeB passes L R = mergeB passes (L.take u) (R.take v) ++ mergeB passes (L.drop u) (R.drop v) := by
         refine cut_at passes_weak hsL hsR ?_ ?_
         · by_cases c1 : u = 0
           · exact .inl c1
           by_cases c2 : R.length ≤ v
           · exact .inr (.inl c2)
           rcases hA with e | ⟨l, r, e1, e2, e3⟩
           · exfalso; omega
           · refine .inr (.inr ⟨l, r, ?_, ?_, e3⟩)
             · rw [← hxL (u - 1) (by omega), show a + (u - 1) = i - 1 by omega]; exact e1
             · rw [← hxR v (by omega), show m + v = k - i by omega]; exact e2
         · by_cases c1 : L.length ≤ u
           · exact .inl c1
           by_cases c2 : v = 0
           · exact .inr (.inl c2)
           rcases hB with e | ⟨l, r, e1, e2, e3⟩
           · exfalso; omega
           · refine .inr (.inr ⟨l, r, ?_, ?_, e3⟩)
             · rw [← hxL u (by omega), ← hu]; exact e1
             · rw [← hxR (v - 1) (by omega), show m + (v - 1) = k - 1 - i by omega]; exact e2
       have hend : Value.int .i64 (IntKind.i64.wrap ((k : Int) - (i : Int))) = .int .i64 ((m + v : Nat) : Int) := by rw [i64_id (by omega)]; congr 1; omega
       rw [hcut]
       have hx1 : P ++ (L ++ (R ++ S)) = (P ++ L.take u) ++ (L.drop u ++ (R.take v ++ (R.drop v ++ S))) := by
         conv => lhs; rw [← List.take_append_drop u L, ← List.take_append_drop v R]
         simp only [List.append_assoc]
       have hrx := hr
       rw [hx1] at hrx
       have l1 : (L.take u).length = u := by rw [List.length_take]; omega
       have l2 : (L.drop u).length = L.length - u := List.length_drop
       have l3 : (R.take v).length = v := by rw [List.length_take]; omega
       have l4 : (R.drop v).length = R.length - v := List.length_drop
       have t1 : SortedB passes (L.take u) := hsL.sublist (List.take_sublist _ _)
       have t2 : SortedB passes (L.drop u) := hsL.sublist (List.drop_sublist _ _)
       have t3 : SortedB passes (R.take v) := hsR.sublist (List.take_sublist _ _)
       have t4 : SortedB passes (R.drop v) := hsR.sublist (List.drop_sublist _ _)
       clear hcut hA hB hxL hxR hx1
       generalize L.take u = L1 at *
       generalize L.drop u = L2 at *
       generalize R.take v = R1 at *
       generalize R.drop v = R2 at *
       have hPL : (P ++ L1).length = i := by rw [List.length_append]; omega
       have hsame : (L2.length = 0 ∨ R1.length = 0) → RowO B cap n ((P ++ L1) ++ (R1 ++ (L2 ++ (R2 ++ S)))) ln := by
         rintro (h | h)
         · rw [List.eq_nil_of_length_eq_zero h] at hrx ⊢; simpa using hrx
         · rw [List.eq_nil_of_length_eq_zero h] at hrx ⊢; simpa using hrx
       repeat' (first
         | (refine JE.kBin ?_; refine JE.int rfl rfl rfl rfl hend rfl ?_)
         | (refine J.isSeqR 39 ?_; refine J.cutS (fun f w' => ∃ lnA, RowO B cap n ((P ++ L1) ++ (R1 ++ (L2 ++ (R2 ++ S)))) lnA ∧ Has f [(0, .slice (some ⟨B, 0, none⟩) n c), (1, .int .i64 a), (2, .int .i64 m), (3, .int .i64 b), (4, .func (.func 27) #[] #[]), (18, .int .i64 mid), (20, .int .i64 i), (24, .int .i64 ((m + v : Nat) : Int))] ∧ St w (ln.map (·.1)) lnA w') ?_ ?_)
         | refine JE.pure rfl rfl (by conv => lhs; whnf) rfl ?_
         | refine JE.skip rfl rfl ?_
         | (refine JE.kBin ?_; (refine JE.int rfl rfl rfl rfl rfl rfl ?_; with_reducible refine JE.waysD (fun _ => ?_) (fun _ => ?_)))
         | (refine JE.kBin ?_; refine JE.int rfl rfl rfl rfl (by rw [i64_id (by omega)]) rfl ?_)
         | with_reducible refine JE.sN ?_
         | with_reducible refine JE.sX ?_
         | with_reducible refine J.seq ?_
         | with_reducible refine J.region ?_
         | refine J.condT rfl ?_
         | refine J.condF rfl ?_
         | with_reducible refine J.skip ?_
         | with_reducible refine J.exit ?_
         | with_reducible refine J.block ?_
         | with_reducible refine JX.thenN ?_
         | with_reducible refine JX.thenE ?_
         | with_reducible refine JX.blkS ?_
         | (refine JE.isF 68 ?_; refine JE.call rfl rfl (by repeat (first | exact NfL.nil rfl | apply NfL.cons (by exact rfl) (by conv => lhs; whnf))) rfl ?_; refine CallG.obj (ln := ln) (G := _) (by repeat (first | exact Seg.head | exact Seg.all | exact Seg.one | apply Seg.tail | apply Seg.cons)) (fun w hS => rotate_calls c w hrx (hS.owns .all) hPL.symm (by omega) (by omega) (by omega) (by omega) hmax) (fun _ _ _ _ => trivial) ?_; rintro _ ln2 ⟨rfl, hr2⟩))
       all_goals try (exfalso; omega)
       rotate_right
       · clear hsame hrx hr hS hown
         rintro f2 w2 ⟨lnA, hrA, hf, hS⟩
         obtain ⟨g2, rfl⟩ := hf.eq
         clear hf
         refine J.at_ ?_ hS
         rw [List.append_assoc] at hrA
         have hsame : (L1.length = 0 ∨ R1.length = 0) → RowO B cap n (P ++ (mergeB passes L1 R1 ++ (L2 ++ (R2 ++ S)))) lnA := by
           rintro (h | h)
           · rw [List.eq_nil_of_length_eq_zero h, mergeB_nil']; rw [List.eq_nil_of_length_eq_zero h] at hrA; simpa using hrA
           · rw [List.eq_nil_of_length_eq_zero h, mergeB_nil]; rw [List.eq_nil_of_length_eq_zero h] at hrA; simpa using hrA
         repeat' (first
           | (refine J.isSeqR 41 ?_; refine J.cutS (fun f w' => ∃ lnB, RowO B cap n (P ++ (mergeB passes L1 R1 ++ (L2 ++ (R2 ++ S)))) lnB ∧ Has f [(0, .slice (some ⟨B, 0, none⟩) n c), (1, .int .i64 a), (2, .int .i64 m), (3, .int .i64 b), (4, .func (.func 27) #[] #[]), (18, .int .i64 mid), (20, .int .i64 i), (24, .int .i64 ((m + v : Nat) : Int))] ∧ St w (ln.map (·.1)) lnB w') ?_ ?_)
           | refine JE.pure rfl rfl (by conv => lhs; whnf) rfl ?_
           | refine JE.skip rfl rfl ?_
           | (refine JE.kBin ?_; (refine JE.int rfl rfl rfl rfl rfl rfl ?_; with_reducible refine JE.waysD (fun _ => ?_) (fun _ => ?_)))
           | with_reducible refine JE.sN ?_
           | with_reducible refine JE.sX ?_
           | with_reducible refine J.seq ?_
           | with_reducible refine J.region ?_
           | refine J.condT rfl ?_
           | refine J.condF rfl ?_
           | with_reducible refine J.skip ?_
           | (refine JE.isF 59 ?_; refine JE.call rfl rfl (by repeat (first | exact NfL.nil rfl | apply NfL.cons (by exact rfl) (by conv => lhs; whnf))) rfl ?_; refine CallG.obj (ln := lnA) (G := _) (by repeat (first | exact Seg.head | exact Seg.all | exact Seg.one | apply Seg.tail | apply Seg.cons)) (fun w hS => ih P L1 R1 (L2 ++ (R2 ++ S)) lnA a i mid w (by omega) hrA (hS.owns .all) ha (by omega) (by omega) (by omega) (by omega) t1 t3) (fun _ _ _ _ => trivial) ?_; rintro _ ln2 ⟨rfl, hr2⟩))
         all_goals try (exfalso; omega)
         rotate_right
         · clear hsame hrA hS
           rintro f3 w3 ⟨lnB, hrB, hf, hS⟩
           obtain ⟨g3, rfl⟩ := hf.eq
           clear hf
           refine J.at_ ?_ hS
           have hml : (P ++ mergeB passes L1 R1).length = mid := by rw [List.length_append, mergeB_length]; omega
           have hfin : ∀ X, (P ++ mergeB passes L1 R1) ++ (X ++ S) = P ++ (mergeB passes L1 R1 ++ X ++ S) := fun X => by simp only [List.append_assoc]
           have hsame : (L2.length = 0 ∨ R2.length = 0) → RowO B cap n (P ++ (mergeB passes L1 R1 ++ mergeB passes L2 R2 ++ S)) lnB := by
             rintro (h | h)
             · rw [List.eq_nil_of_length_eq_zero h, mergeB_nil']; rw [List.eq_nil_of_length_eq_zero h] at hrB; simpa using hrB
             · rw [List.eq_nil_of_length_eq_zero h, mergeB_nil]; rw [List.eq_nil_of_length_eq_zero h] at hrB; simpa using hrB
           rw [← List.append_assoc] at hrB
           rw [← hfin]
           rw [← hfin] at hsame
           repeat' (first
             | refine JE.pure rfl rfl (by conv => lhs; whnf) rfl ?_
             | refine JE.skip rfl rfl ?_
             | (refine JE.kBin ?_; (refine JE.int rfl rfl rfl rfl rfl rfl ?_; with_reducible refine JE.waysD (fun _ => ?_) (fun _ => ?_)))
             | with_reducible refine JE.sN ?_
             | with_reducible refine JE.sX ?_
             | with_reducible refine J.seq ?_
             | with_reducible refine J.region ?_
             | refine J.condT rfl ?_
             | refine J.condF rfl ?_
             | with_reducible refine J.skip ?_
             | (refine JE.isF 59 ?_; refine JE.call rfl rfl (by repeat (first | exact NfL.nil rfl | apply NfL.cons (by exact rfl) (by conv => lhs; whnf))) rfl ?_; refine CallG.obj (ln := lnB) (G := _) (by repeat (first | exact Seg.head | exact Seg.all | exact Seg.one | apply Seg.tail | apply Seg.cons)) (fun w hS => ih (P ++ mergeB passes L1 R1) L2 R2 S lnB mid (m + v) b w (by omega) hrB (hS.owns .all) hml.symm (by omega) (by omega) (by omega) (by omega) t2 t4) (fun _ _ _ _ => trivial) ?_; rintro _ ln2 ⟨rfl, hr2⟩))
           all_goals first
             | (exfalso; omega)
             | exact fnQ_none (.inr rfl) rfl fun w'' hS' => ⟨_, _, rfl, ⟨rfl, hr2⟩, by simpa using hS'⟩
             | exact fnQ_none (.inr rfl) rfl fun w'' hS' => ⟨_, lnB, rfl, ⟨rfl, hsame (by omega)⟩, hS'⟩
         all_goals first
           | (exfalso; omega)
           | exact JX.roundM fun w'' hS' => ⟨_, hr2, (by repeat' (first | exact trivial | refine And.intro (by rfl) ?_)), by simpa using hS'⟩
           | exact JX.roundM fun w'' hS' => ⟨lnA, hsame (by omega), (by repeat' (first | exact trivial | refine And.intro (by rfl) ?_)), hS'⟩
       all_goals first
         | (exfalso; omega)
         | exact JX.roundM fun w'' hS' => ⟨_, hr2, (by repeat' (first | exact trivial | refine And.intro (by rfl) ?_)), by simpa using hS'⟩
         | exact JX.roundM fun w'' hS' => ⟨ln, hsame (by omega), (by repeat' (first | exact trivial | refine And.intro (by rfl) ?_)), hS'⟩)

theorem sym_calls (B cap n c : Nat) (hmax : n ≤ 4096) : ∀ N, SymOk B cap n c N := by
  intro N
  induction N with
  | zero => intro P L R S ln a m b w h; omega
  | succ N ihN =>
    intro P L R S ln a m b w h hr hown ha hm hb hL hR hsL hsR
    rcases Nat.lt_or_ge (L.length + R.length) N with hlt | hge
    · exact ihN P L R S ln a m b w hlt hr hown ha hm hb hL hR hsL hsR
    have hN : N = L.length + R.length := by omega
    by_cases h1 : L.length = 1
    · obtain ⟨x, rfl⟩ := List.length_eq_one_iff.1 h1
      rw [List.singleton_append] at hr
      exact sym1_calls c w hr hown ha (by simpa using hm) hb hsR hmax
    · by_cases h2 : R.length = 1
      · obtain ⟨x, rfl⟩ := List.length_eq_one_iff.1 h2
        rw [List.singleton_append] at hr
        exact sym2_calls c w hr hown ha hm (by simpa using hb) h1 hsL hmax
      · exact sym3_calls c w (hN ▸ ihN) hr hown ha hm hb (by omega) (by omega) hsL hsR hmax

end Go.Proofs.Ytnapfiheholhiaa
