/-
  The walk of the statements' own 'even': liens tell what the document's list tells. Conditions: none.
-/
import Derived.Test.YtnapfiheholhiaaTexts
import Derived.Test.YtnapfiheholhiaaLThings
import Derived.Test.YtnapfiheholhiaaRel2
set_option linter.unusedVariables false
set_option linter.unusedSimpArgs false
namespace Go.Proofs.Ytnapfiheholhiaa
open Go Go.RowKit Go.Proofs.YtnapfiheholhiaaSym

/-- May somebody give on what has this rank? -/
def mayV (who : ByteArray) : List Pledge → Bool
  | [] => true
  | [x] => decide (x.creditor = who)
  | _ => false
theorem may_rank {m : List Pledge} (h : Doc m) (t who : ByteArray) : (!(rowOf m t).any fun x => decide (x.creditor ≠ who)) = mayV who (rank26 m t) := by
  have hp : (rank26 m t).Perm (rowOf m t) := sortB_perm _ _
  have hc := h.rankCreditor t
  have ha : ((rowOf m t).any fun x => decide (x.creditor ≠ who)) = ((rank26 m t).any fun x => decide (x.creditor ≠ who)) := by
    rw [Bool.eq_iff_iff, List.any_eq_true, List.any_eq_true]
    exact ⟨fun ⟨x, hx, e⟩ => ⟨x, hp.mem_iff.2 hx, e⟩, fun ⟨x, hx, e⟩ => ⟨x, hp.mem_iff.1 hx, e⟩⟩
  rw [ha]
  generalize rank26 m t = r at hc
  match r, hc with
  | [], _ => rfl
  | [x], _ => simp [mayV]
  | x :: y :: r, hc =>
    have hne : x.creditor ≠ y.creditor := (List.pairwise_cons.1 hc).1 y List.mem_cons_self
    by_cases hx : x.creditor = who
    · have hy : y.creditor ≠ who := fun e => hne (hx.trans e.symm)
      simp [mayV, hx, hy]
    · simp [mayV, hx]
theorem Own.rows1 {α : Type} {k : Nat} {enc : α → List Value} {e : TypeId} {v : Value} {xs : List α} {ln : List (Nat × Obj)} (hk : ∀ x, (enc x).length = k) (h : Own k enc e v xs ln) (hne : 0 < xs.length) :
    ∃ B c, v = .slice (some ⟨B, 0, none⟩) xs.length c ∧ ∀ w : World, (∀ x ∈ ln, w.heap[x.1]? = some x.2) → RowsAt k enc w B 0 xs := by
  rcases h with ⟨_, rfl, _⟩ | ⟨B, cap, cur, rfl, h, rfl⟩
  · simp at hne
  · exact ⟨B, cap, rfl, fun w hw => h.rows hk (hw _ List.mem_cons_self)⟩
theorem may_shape (who : ByteArray) (r : List Pledge) : (r.length = 0 ∧ mayV who r = true) ∨ (r.length = 1 ∧ ∃ y, r[0]? = some y ∧ y.creditor = who ∧ mayV who r = true) ∨ (r.length = 1 ∧ ∃ y, r[0]? = some y ∧ y.creditor ≠ who ∧ mayV who r = false) ∨ (2 ≤ r.length ∧ mayV who r = false) := by
  match r with
  | [] => exact .inl ⟨rfl, rfl⟩
  | [y] =>
    by_cases h : y.creditor = who
    · exact .inr (.inl ⟨rfl, y, rfl, h, by simp [mayV, h]⟩)
    · exact .inr (.inr (.inl ⟨rfl, y, rfl, h, by simp [mayV, h]⟩))
  | y :: z :: r => exact .inr (.inr (.inr ⟨by simp, rfl⟩))
theorem rank_nil {m : List Pledge} {t : ByteArray} : rowOf m t = [] ↔ rank26 m t = [] := by
  rw [← List.length_eq_zero_iff, ← List.length_eq_zero_iff, rank_length]

set_option maxRecDepth 100000 in
set_option maxHeartbeats 8000000 in
theorem even_calls {p : Nat} {m : List Pledge} {l : List (Nat × Obj)} (hL : Lien p m l) {vm : Value} {lm : List (Nat × Obj)} (hm : Own 6 encPledge 37 vm m lm) (t who : ByteArray) (hlen : m.length ≤ sortMost) (w : World)
    (hown : ∀ x ∈ l ++ lm, w.heap[x.1]? = some x.2) (hnd : ((l ++ lm).map (·.1)).Nodup) :
    Does Try.prog 21 [.pointer (some ⟨p, 0, none⟩), vm, .string t, .string who] w (Ret w (.bool true)) := by
  have hD : Doc m := by obtain ⟨_, _, _, _, _, _, h⟩ := hL; exact h
  have hms := hD.size
  have hsm : sortMost = 39 := rfl
  obtain ⟨olds, holds⟩ : ∃ o, o = (l ++ lm).map (·.1) := ⟨_, rfl⟩
  have hslm : ∀ w', St w olds lm w' → Sl 6 encPledge w' vm m := fun w' hS => hm.sl encP_len hS.own
  refine calls_J (ys := [.pointer (some ⟨p, 0, none⟩), vm, .string t, .string who]) Try.func21 rfl Try.ntmps21 rfl ?_
  refine J.at_ ?_ (St.startO hown hnd)
  rw [← holds]
  repeat' (first
    | refine JE.pure rfl rfl (by conv => lhs; whnf) rfl ?_
    | (refine JE.kBuildSlice ?_; refine JE.buildSlice rfl rfl rfl (by conv => lhs; whnf) (by rfl) (by rfl) (by repeat (first | exact NfL.nil rfl | apply NfL.cons (by exact rfl) (by conv => lhs; whnf))) rfl (fun _ _ => ?_))
    | with_reducible refine JE.sN ?_
    | with_reducible refine J.seq ?_
    | with_reducible refine J.region ?_
    | refine J.condF rfl ?_
    | with_reducible refine J.skip ?_
    | with_reducible refine J.block ?_
    | with_reducible refine JX.thenN ?_
    | (refine JE.isF 39 ?_; refine JE.call rfl rfl (by repeat (first | exact NfL.nil rfl | apply NfL.cons (by exact rfl) (by conv => lhs; whnf))) rfl ?_; refine CallG.news (G := _) (fun w hS => refThings_calls vm m w (hslm w (hS.sub (by repeat (first | exact List.Sublist.refl _ | exact List.nil_sublist _ | refine List.Sublist.append_left ?_ _ | exact List.sublist_append_left _ _ | apply List.Sublist.cons_cons | apply List.Sublist.cons | apply List.sublist_append_of_sublist_right)))) hms) ?_; rintro v9 l9 ⟨out, hol, ho9, hto⟩; obtain ⟨a9, c9, rfl, _⟩ := ho9.shape)
    | (refine JE.isF 20 ?_; refine JE.call rfl rfl (by repeat (first | exact NfL.nil rfl | apply NfL.cons (by exact rfl) (by conv => lhs; whnf))) rfl ?_; refine CallG.news (G := _) (fun w hS => things_calls hL w (hS.sub (l' := l) (by repeat (first | exact List.Sublist.refl _ | exact List.nil_sublist _ | refine List.Sublist.append_left ?_ _ | exact List.sublist_append_left _ _ | apply List.Sublist.cons_cons | apply List.Sublist.cons | apply List.sublist_append_of_sublist_right))).own (hS.sub (l' := l) (by repeat (first | exact List.Sublist.refl _ | exact List.nil_sublist _ | refine List.Sublist.append_left ?_ _ | exact List.sublist_append_left _ _ | apply List.Sublist.cons_cons | apply List.Sublist.cons | apply List.sublist_append_of_sublist_right))).nodup) ?_; rintro v17 l17 ⟨ts, ho17, hnd17, hri17, hts⟩; have hsame := things_same hnd17 hri17 hts hto; rw [hsame] at ho17)
    | (refine JE.isF 40 ?_; refine JE.call rfl rfl (by repeat (first | exact NfL.nil rfl | apply NfL.cons (by exact rfl) (by conv => lhs; whnf))) rfl ?_; refine CallG.ret (fun w hS => textsEq_calls _ _ out w (ho17.sl (fun _ => rfl) (hS.sub (l' := l17) (by repeat (first | exact List.Sublist.refl _ | exact List.nil_sublist _ | refine List.Sublist.append_left ?_ _ | exact List.sublist_append_left _ _ | apply List.Sublist.cons_cons | apply List.Sublist.cons | apply List.sublist_append_of_sublist_right))).own) (ho9.sl (fun _ => rfl) (hS.sub (l' := l9) (by repeat (first | exact List.Sublist.refl _ | exact List.nil_sublist _ | refine List.Sublist.append_left ?_ _ | exact List.sublist_append_left _ _ | apply List.Sublist.cons_cons | apply List.Sublist.cons | apply List.sublist_append_of_sublist_right))).own) (by omega)) ?_)
    | (refine JE.kBuildSlice ?_; refine JE.buildSlice0 rfl rfl (fun _ _ => ?_))
    | (refine JE.isAppT 21 ?_; (refine JE.kBuiltin ?_; refine JE.appendOwn rfl rfl rfl ((Own.empty (k := 1) (enc := encS))) (by repeat (first | exact Seg.head | exact Seg.all | exact Seg.one | apply Seg.tail | apply Seg.cons)) (fun _ => rfl) (fun _ => rfl) (fun w hS => ho9.sl (fun _ => rfl) (hS.sub (l' := l9) (by repeat (first | exact List.Sublist.refl _ | exact List.nil_sublist _ | refine List.Sublist.append_left ?_ _ | exact List.sublist_append_left _ _ | apply List.Sublist.cons_cons | apply List.Sublist.cons | apply List.sublist_append_of_sublist_right))).own) (by (try simp only [List.length_cons, List.length_nil, List.length_append, List.length_drop, List.length_take, maxLen] at *); omega) (by (try simp only [List.length_cons, List.length_nil, List.length_append, List.length_drop, List.length_take, maxLen] at *); omega) (fun _ _ _ _ => trivial) rfl (fun _ _ _ => ?_)))
    | (refine JE.isAppT 23 ?_; (refine JE.kBuiltin ?_; refine JE.appendOwn rfl rfl rfl ((show Own 1 encS 9 _ _ _ by assumption)) (by repeat (first | exact Seg.head | exact Seg.all | exact Seg.one | apply Seg.tail | apply Seg.cons)) (fun _ => rfl) (fun _ => rfl) (fun w hS => sl_one encS_len t (hS.get (by repeat (first | exact In.head | refine In.tail ?_ | refine In.app ?_)))) (by (try simp only [List.length_cons, List.length_nil, List.length_append, List.length_drop, List.length_take, maxLen] at *); omega) (by (try simp only [List.length_cons, List.length_nil, List.length_append, List.length_drop, List.length_take, maxLen] at *); omega) (fun _ _ _ _ => trivial) rfl (fun _ _ _ => ?_))))
  all_goals first
    | (exfalso; omega)
    | exact absurd rfl ‹_›
    | skip
  rename_i v10 l10 ho10
  obtain ⟨A, hA⟩ : ∃ A, A = [] ++ out ++ [t] := ⟨_, rfl⟩
  rw [← hA] at ho10
  have hAl : A.length ≤ 9223372036854775807 := ho10.short
  have hApos : 0 < A.length := by rw [hA]; simp
  obtain ⟨B10, c10, rfl, hr10⟩ := Own.rows1 encS_len ho10 hApos
  clear hA ho9 hto hsame
  refine J.loop (fun f w' => ∃ (k : Nat), k ≤ A.length ∧ Has f [(0, .pointer (some ⟨p, 0, none⟩)), (1, vm), (3, .string who), (10, .slice (some ⟨B10, 0, none⟩) A.length c10), (11, .int .i64 k)] ∧ St w olds (l10 ++ (l ++ lm)) w')
    (fun f _ => A.length - (intOf (f 11)).toNat) (fun w' hS => ⟨0, Nat.zero_le _, (by repeat' (first | exact trivial | refine And.intro (by rfl) ?_)), hS.sub (by repeat (first | exact List.Sublist.refl _ | exact List.nil_sublist _ | refine List.Sublist.append_left ?_ _ | exact List.sublist_append_left _ _ | apply List.Sublist.cons_cons | apply List.Sublist.cons | apply List.sublist_append_of_sublist_right))⟩) ?_
  rintro f w' ⟨k, hk, hf, hS⟩
  obtain ⟨g, rfl⟩ := hf.eq
  clear hf
  refine J.at_ ?_ hS
  by_cases hlt : k < A.length
  · have hxk : A[k]? = some A[k] := List.getElem?_eq_getElem hlt
    generalize A[k] = x at hxk
    have hrr := fun w hw => refRank_calls vm m x w hw hms
    have e1 : sortB refLt (rowOf m x) = rank26 m x := refRank_eq hD x
    rw [e1] at hrr
    have hrank := fun w hw hn => rank_calls hL x (Nat.le_trans (rowOf_length m x) (by omega)) w hw hn
    have hfree := fun w hw hn => free_calls hL x w hw hn
    have hmay := fun w hw hn => may_calls hL x who w hw hn
    rw [may_rank hD x who] at hmay
    have hfb : decide (rowOf m x = []) = decide ((rank26 m x).length = 0) := by
      rw [decide_eq_decide, rank_length, List.length_eq_zero_iff]
    rw [hfb] at hfree
    have hrl : (rank26 m x).length ≤ 39 := by rw [rank_length]; exact Nat.le_trans (rowOf_length m x) (by omega)
    have hsh := may_shape who (rank26 m x)
    generalize rank26 m x = r at hrr hrank hfree hmay hrl hsh
    have hrA : ∀ w', St w olds (l10 ++ (l ++ lm)) w' → RowsAt 1 encS w' B10 0 A := fun w' hS => hr10 w' (hS.sub (l' := l10) (by repeat (first | exact List.Sublist.refl _ | exact List.nil_sublist _ | refine List.Sublist.append_left ?_ _ | exact List.sublist_append_left _ _ | apply List.Sublist.cons_cons | apply List.Sublist.cons | apply List.sublist_append_of_sublist_right))).own
    rcases hsh with ⟨hl, hmv⟩ | ⟨hl, y, hy0, hyw, hmv⟩ | ⟨hl, y, hy0, hyw, hmv⟩ | ⟨hl, hmv⟩
    rotate_left
    all_goals try have hps : 0 < r.length := by omega
    all_goals rw [hmv] at hmay
    all_goals first
      | rw [decide_eq_true hl] at hfree
      | rw [decide_eq_false (by omega)] at hfree
    all_goals skip
    repeat' (first
      | refine JE.pure rfl rfl (by conv => lhs; whnf) rfl ?_
      | refine JE.skip rfl rfl ?_
      | (refine JE.kBin ?_; (refine JE.int rfl rfl rfl rfl rfl rfl ?_; with_reducible refine JE.waysD (fun _ => ?_) (fun _ => ?_)))
      | (refine JE.kBin ?_; refine JE.int rfl rfl rfl rfl (by rw [i64_id (by omega)]) rfl ?_)
      | (refine JE.kBin ?_; refine JE.neBool rfl rfl rfl (by conv => lhs; whnf) rfl ?_)
      | (refine JE.kBin ?_; (refine JE.eqStr rfl rfl rfl rfl ?_; with_reducible refine JE.waysD (fun _ => ?_) (fun _ => ?_)))
      | (refine JE.kField ?_; refine JE.fieldAddr rfl rfl rfl ?_)
      | (refine JE.kBuiltin ?_; refine JE.lenSl rfl rfl rfl ?_)
      | with_reducible refine JE.sN ?_
      | with_reducible refine JE.sX ?_
      | with_reducible refine J.seq ?_
      | with_reducible refine J.region ?_
      | refine J.condT rfl ?_
      | refine J.condF rfl ?_
      | with_reducible refine J.skip ?_
      | with_reducible refine J.exit ?_
      | with_reducible refine J.block ?_
      | with_reducible refine J.ret ?_
      | with_reducible refine JX.thenN ?_
      | with_reducible refine JX.thenR ?_
      | with_reducible refine JX.thenE ?_
      | with_reducible refine JX.blkS ?_
      | with_reducible refine JX.blkN ?_
      | with_reducible refine JX.blkR ?_
      | (refine JE.kIndexAddr ?_; refine JE.indexAddr rfl rfl rfl (Int.natCast_nonneg _) (by omega) rfl ?_)
      | (refine JE.isLoadT 36 ?_; refine JE.loadRow1S rfl rfl (fun w' hS' => hrA w' (hS'.sub (by repeat (first | exact List.Sublist.refl _ | exact List.nil_sublist _ | refine List.Sublist.append_left ?_ _ | exact List.sublist_append_left _ _ | apply List.Sublist.cons_cons | apply List.Sublist.cons | apply List.sublist_append_of_sublist_right)))) hxk rfl (fun h => by first | exact trivial | cases h) rfl ?_)
      | (refine JE.isLoadT 58 ?_; refine JE.loadRow1S rfl rfl (fun w' hS' => hrA w' (hS'.sub (by repeat (first | exact List.Sublist.refl _ | exact List.nil_sublist _ | refine List.Sublist.append_left ?_ _ | exact List.sublist_append_left _ _ | apply List.Sublist.cons_cons | apply List.Sublist.cons | apply List.sublist_append_of_sublist_right)))) hxk rfl (fun h => by first | exact trivial | cases h) rfl ?_)
      | (refine JE.isLoadT 68 ?_; refine JE.loadRow1S rfl rfl (fun w' hS' => hrA w' (hS'.sub (by repeat (first | exact List.Sublist.refl _ | exact List.nil_sublist _ | refine List.Sublist.append_left ?_ _ | exact List.sublist_append_left _ _ | apply List.Sublist.cons_cons | apply List.Sublist.cons | apply List.sublist_append_of_sublist_right)))) hxk rfl (fun h => by first | exact trivial | cases h) rfl ?_)
      | (refine JE.isLoadT 80 ?_; refine JE.loadRow1S rfl rfl (fun w' hS' => hrA w' (hS'.sub (by repeat (first | exact List.Sublist.refl _ | exact List.nil_sublist _ | refine List.Sublist.append_left ?_ _ | exact List.sublist_append_left _ _ | apply List.Sublist.cons_cons | apply List.Sublist.cons | apply List.sublist_append_of_sublist_right)))) hxk rfl (fun h => by first | exact trivial | cases h) rfl ?_)
      | (refine JE.isLoadT 49 ?_; refine JE.loadRowCS rfl rfl (fun w' hS' => hr12 w' (hS'.sub (l' := l12) (by repeat (first | exact List.Sublist.refl _ | exact List.nil_sublist _ | refine List.Sublist.append_left ?_ _ | exact List.sublist_append_left _ _ | apply List.Sublist.cons_cons | apply List.Sublist.cons | apply List.sublist_append_of_sublist_right))).own) hy0 rfl rfl (fun h => by first | exact trivial | cases h) rfl ?_)
      | (refine JE.isF 41 ?_; refine JE.call rfl rfl (by repeat (first | exact NfL.nil rfl | apply NfL.cons (by exact rfl) (by conv => lhs; whnf))) rfl ?_; refine CallG.news (G := _) (fun w hS => hrr w (hslm w (hS.sub (by repeat (first | exact List.Sublist.refl _ | exact List.nil_sublist _ | refine List.Sublist.append_left ?_ _ | exact List.sublist_append_left _ _ | apply List.Sublist.cons_cons | apply List.Sublist.cons | apply List.sublist_append_of_sublist_right))))) ?_; rintro v12 l12 ho12; first | (have h12 := Own.rows1 encP_len ho12 hps; obtain ⟨B12, c12, rfl, hr12⟩ := h12) | (obtain ⟨a12, c12, rfl, _⟩ := ho12.shape))
      | (refine JE.isF 13 ?_; refine JE.call rfl rfl (by repeat (first | exact NfL.nil rfl | apply NfL.cons (by exact rfl) (by conv => lhs; whnf))) rfl ?_; refine CallG.news (G := _) (fun w hS => hrank w (hS.sub (l' := l) (by repeat (first | exact List.Sublist.refl _ | exact List.nil_sublist _ | refine List.Sublist.append_left ?_ _ | exact List.sublist_append_left _ _ | apply List.Sublist.cons_cons | apply List.Sublist.cons | apply List.sublist_append_of_sublist_right))).own (hS.sub (l' := l) (by repeat (first | exact List.Sublist.refl _ | exact List.nil_sublist _ | refine List.Sublist.append_left ?_ _ | exact List.sublist_append_left _ _ | apply List.Sublist.cons_cons | apply List.Sublist.cons | apply List.sublist_append_of_sublist_right))).nodup) ?_; rintro v60 l60 ho60)
      | (refine JE.isF 15 ?_; refine JE.call rfl rfl (by repeat (first | exact NfL.nil rfl | apply NfL.cons (by exact rfl) (by conv => lhs; whnf))) rfl ?_; refine CallG.ret (fun w hS => sameEq_calls _ _ r w (ho60.sl encP_len (hS.sub (l' := l60) (by repeat (first | exact List.Sublist.refl _ | exact List.nil_sublist _ | refine List.Sublist.append_left ?_ _ | exact List.sublist_append_left _ _ | apply List.Sublist.cons_cons | apply List.Sublist.cons | apply List.sublist_append_of_sublist_right))).own) (ho12.sl encP_len (hS.sub (l' := l12) (by repeat (first | exact List.Sublist.refl _ | exact List.nil_sublist _ | refine List.Sublist.append_left ?_ _ | exact List.sublist_append_left _ _ | apply List.Sublist.cons_cons | apply List.Sublist.cons | apply List.sublist_append_of_sublist_right))).own) (by omega)) ?_)
      | (refine JE.isF 16 ?_; refine JE.call rfl rfl (by repeat (first | exact NfL.nil rfl | apply NfL.cons (by exact rfl) (by conv => lhs; whnf))) rfl ?_; refine CallG.ret (fun w hS => hfree w (hS.sub (l' := l) (by repeat (first | exact List.Sublist.refl _ | exact List.nil_sublist _ | refine List.Sublist.append_left ?_ _ | exact List.sublist_append_left _ _ | apply List.Sublist.cons_cons | apply List.Sublist.cons | apply List.sublist_append_of_sublist_right))).own (hS.sub (l' := l) (by repeat (first | exact List.Sublist.refl _ | exact List.nil_sublist _ | refine List.Sublist.append_left ?_ _ | exact List.sublist_append_left _ _ | apply List.Sublist.cons_cons | apply List.Sublist.cons | apply List.sublist_append_of_sublist_right))).nodup) ?_)
      | (refine JE.isF 18 ?_; refine JE.call rfl rfl (by repeat (first | exact NfL.nil rfl | apply NfL.cons (by exact rfl) (by conv => lhs; whnf))) rfl ?_; refine CallG.ret (fun w hS => hmay w (hS.sub (l' := l) (by repeat (first | exact List.Sublist.refl _ | exact List.nil_sublist _ | refine List.Sublist.append_left ?_ _ | exact List.sublist_append_left _ _ | apply List.Sublist.cons_cons | apply List.Sublist.cons | apply List.sublist_append_of_sublist_right))).own (hS.sub (l' := l) (by repeat (first | exact List.Sublist.refl _ | exact List.nil_sublist _ | refine List.Sublist.append_left ?_ _ | exact List.sublist_append_left _ _ | apply List.Sublist.cons_cons | apply List.Sublist.cons | apply List.sublist_append_of_sublist_right))).nodup) ?_))
    all_goals first
      | (exfalso; omega)
      | exact absurd ‹_› hyw
      | exact absurd hyw ‹_›
      | (refine JX.round fun w'' hS' => ⟨⟨k + 1, hlt, (by repeat' (first | exact trivial | refine And.intro (by rfl) ?_)), hS'.sub (by repeat (first | exact List.Sublist.refl _ | exact List.nil_sublist _ | refine List.Sublist.append_left ?_ _ | exact List.sublist_append_left _ _ | apply List.Sublist.cons_cons | apply List.Sublist.cons | apply List.sublist_append_of_sublist_right))⟩, ?_⟩
         show A.length - ((k : Int) + 1).toNat < A.length - (k : Int).toNat
         omega)
  · have hk' : k = A.length := by omega
    repeat' (first
      | refine JE.pure rfl rfl (by conv => lhs; whnf) rfl ?_
      | (refine JE.kBin ?_; (refine JE.int rfl rfl rfl rfl rfl rfl ?_; with_reducible refine JE.waysD (fun _ => ?_) (fun _ => ?_)))
      | (refine JE.kBuiltin ?_; refine JE.lenSl rfl rfl rfl ?_)
      | with_reducible refine JE.sN ?_
      | with_reducible refine J.seq ?_
      | with_reducible refine J.region ?_
      | refine J.condT rfl ?_
      | refine J.condF rfl ?_
      | with_reducible refine J.skip ?_
      | with_reducible refine J.exit ?_
      | with_reducible refine J.block ?_
      | with_reducible refine J.ret ?_
      | with_reducible refine JX.thenN ?_
      | with_reducible refine JX.thenE ?_
      | with_reducible refine JX.blkS ?_)
    all_goals first
      | (exfalso; omega)
      | exact fnQ_tmp (.inl rfl) rfl (by conv => lhs; whnf) fun w'' hS' => ⟨rfl, (hS'.sub (l' := l ++ lm) (by repeat (first | exact List.Sublist.refl _ | exact List.nil_sublist _ | refine List.Sublist.append_left ?_ _ | exact List.sublist_append_left _ _ | apply List.Sublist.cons_cons | apply List.Sublist.cons | apply List.sublist_append_of_sublist_right))).quietO hown fun k hk => holds ▸ hk⟩

end Go.Proofs.Ytnapfiheholhiaa
