/-
  What the program's calls do to liens: Pay. Conditions: none.
-/
import Derived.Test.YtnapfiheholhiaaLRel
set_option linter.unusedVariables false
set_option linter.unusedSimpArgs false
namespace Go.Proofs.Ytnapfiheholhiaa
open Go Go.RowKit Go.Proofs.YtnapfiheholhiaaSym

def encN (n : Int) : Value := .int .i64 n
/-- What is answered to a payment: entries, what is left, the code; the list behind it. -/
def payAns (m : List Pledge) (t : ByteArray) (s : Int) : List Entry × Int × Int × List Pledge :=
  if s < 0 ∨ 1099511627776 < s then ([], 0, 1, m) else if rowOf m t = [] then ([], 0, 4, m) else ((payE (rank26 m t) s).1, (payE (rank26 m t) s).2.2, 0, pay26 m t s)

theorem kput_new {K V : Type} [DecidableEq K] {k : K} {v : V} : ∀ {l : List (K × V)}, k ∉ l.map (·.1) → kput k v l = l ++ [(k, v)]
  | [], _ => rfl
  | (k', v') :: r, h => by
    simp only [List.map_cons, List.mem_cons, not_or] at h
    simp only [kput, if_neg h.1, kput_new h.2, List.cons_append]
theorem perm_set {α : Type} {X L : List α} (A B : List α) (b : α) (h : X.Perm L) : (A ++ (B ++ b :: X)).Perm ((L ++ A) ++ (B ++ [b])) := by
  have h1 : (B ++ b :: X).Perm (L ++ (B ++ [b])) := by
    refine ((h.cons b).append_left B).trans ?_
    rw [show B ++ b :: L = (B ++ [b]) ++ L by simp]
    exact List.perm_append_comm
  refine (h1.append_left A).trans ?_
  rw [List.append_assoc]
  exact List.perm_append_comm_assoc _ _ _
theorem look_N (c : ByteArray) (G : List (ByteArray × Int)) : lookVal encN (.int .i64 0) (klook c G) = .int .i64 ((klook c G).getD 0) := by cases klook c G <;> rfl

set_option maxHeartbeats 8000000 in
theorem pay_calls {p : Nat} {m : List Pledge} {l : List (Nat × Obj)} (hL : Lien p m l) (t : ByteArray) (s : Int) (hmost : (rowOf m t).length ≤ sortMost) (w : World) (hown : ∀ x ∈ l, w.heap[x.1]? = some x.2) (hnd : (l.map (·.1)).Nodup) :
    Does Try.prog 14 [.pointer (some ⟨p, 0, none⟩), .string t, .int .i64 s] w (RetO w l fun u l' => ∃ v1 l1 l2, u = .tuple #[v1, .int .i64 (payAns m t s).2.1, .int .i64 (payAns m t s).2.2.1] ∧ l' = l1 ++ l2 ∧ Own 3 encEntry 35 v1 (payAns m t s).1 l1 ∧ Lien p (payAns m t s).2.2.2 l2) := by
  have hL0 := hL
  have hfree := fun w => free_calls hL t w
  have hrank := fun w => rank_calls hL t hmost w
  obtain ⟨bm, mo, R, rfl, hM, hR, hD⟩ := hL
  obtain ⟨v, ln, hlk, ho, hperm, hnil⟩ := hR.look t
  obtain ⟨rest, hrest⟩ : ∃ rest, rest = (R.filter fun y => decide (y.thing ≠ t)).map rowBlk := ⟨_, rfl⟩
  rw [← hrest] at hperm
  have hrl : (rowOf m t).length ≤ 4096 := Nat.le_trans (rowOf_length m t) hD.size
  refine calls_J (ys := [.pointer (some ⟨p, 0, none⟩), .string t, .int .i64 s]) Try.func14 rfl Try.ntmps14 rfl ?_
  refine J.at_ ?_ (St.startO hown hnd)
  obtain ⟨olds, holds⟩ : ∃ o, o = (LienO p bm mo R).map (·.1) := ⟨_, rfl⟩
  rw [← holds]
  refine J.perm (l' := (p, cel [.map (some bm)] 60) :: (bm, mo) :: (ln ++ rest)) ((hperm.cons _).cons _) ?_
  obtain ⟨X, hX⟩ : ∃ X, X = (p, cel [.map (some bm)] 60) :: (bm, mo) :: (ln ++ rest) := ⟨_, rfl⟩
  have hXL : X.Perm (LienO p bm mo R) := by rw [hX]; exact (hperm.symm.cons _).cons _
  by_cases hs : s < 0 ∨ 1099511627776 < s
  · have hans : payAns m t s = ([], 0, 1, m) := if_pos hs
    rw [hans, ← hX]
    repeat' (first
      | refine JE.pure rfl rfl (by conv => lhs; whnf) rfl ?_
      | refine JE.skip rfl rfl ?_
      | (refine JE.kBin ?_; (refine JE.int rfl rfl rfl rfl rfl rfl ?_; with_reducible refine JE.waysD (fun _ => ?_) (fun _ => ?_)))
      | with_reducible refine JE.sN ?_
      | with_reducible refine J.seq ?_
      | with_reducible refine J.region ?_
      | refine J.condT rfl ?_
      | refine J.condF rfl ?_
      | with_reducible refine J.skip ?_
      | with_reducible refine J.ret ?_
      | with_reducible refine JX.thenN ?_
      | with_reducible refine JX.thenR ?_)
    all_goals first
      | (exfalso; omega)
      | exact fnQ_tmp3 (.inl rfl) rfl (by conv => lhs; whnf) (by conv => lhs; whnf) (by conv => lhs; whnf) fun w'' hS' => ⟨_, _, rfl, ⟨_, [], LienO p bm mo R, rfl, rfl, Own.nil, hL0⟩, holds ▸ hS'.perm hXL⟩
  by_cases hrow : rowOf m t = []
  · have hans : payAns m t s = ([], 0, 4, m) := by rw [payAns, if_neg hs, if_pos hrow]
    rw [decide_eq_true hrow] at hfree
    rw [hans, ← hX]
    repeat' (first
      | refine JE.pure rfl rfl (by conv => lhs; whnf) rfl ?_
      | refine JE.skip rfl rfl ?_
      | (refine JE.kBin ?_; (refine JE.int rfl rfl rfl rfl rfl rfl ?_; with_reducible refine JE.waysD (fun _ => ?_) (fun _ => ?_)))
      | with_reducible refine JE.sN ?_
      | with_reducible refine J.seq ?_
      | with_reducible refine J.region ?_
      | refine J.condT rfl ?_
      | refine J.condF rfl ?_
      | with_reducible refine J.skip ?_
      | with_reducible refine J.ret ?_
      | with_reducible refine JX.thenN ?_
      | with_reducible refine JX.thenR ?_
      | (refine JE.isF 16 ?_; refine JE.call rfl rfl (by repeat (first | exact NfL.nil rfl | apply NfL.cons (by exact rfl) (by conv => lhs; whnf))) rfl ?_; refine CallG.ret (fun w hS => hfree w (hS.perm hXL).own (hS.perm hXL).nodup) ?_))
    all_goals first
      | (exfalso; omega)
      | exact fnQ_tmp3 (.inl rfl) rfl (by conv => lhs; whnf) (by conv => lhs; whnf) (by conv => lhs; whnf) fun w'' hS' => ⟨_, _, rfl, ⟨_, [], LienO p bm mo R, rfl, rfl, Own.nil, hL0⟩, holds ▸ hS'.perm hXL⟩
  have hans : payAns m t s = ((payE (rank26 m t) s).1, (payE (rank26 m t) s).2.2, 0, pay26 m t s) := by rw [payAns, if_neg hs, if_neg hrow]
  rw [hans]
  rw [decide_eq_false hrow] at hfree
  have hset := fun (vr : Value) (lr : List (Nat × Obj)) ho w => set_calls (m' := pay26 m t s) (t := t) (vr := vr) (ps := (rowOf m t).filterMap (leftX (payE (rank26 m t) s).2.1)) (lr := lr) hL0 ho (fun u => rowOf_pay m t u s) (hD.pay t s) w
  have hrkl : (rank26 m t).length ≤ 4096 := by rw [rank_length]; exact hrl
  have hramt : ∀ p ∈ rank26 m t, 0 < p.amount ∧ p.amount ≤ 1099511627776 := fun p hp => by
    have := (may_of (hD.may p (Doc.rankMem hp).1)).2.2.2.2; omega
  have hrc := hD.rankCreditor t
  obtain ⟨r, hr⟩ : ∃ r, r = rank26 m t := ⟨_, rfl⟩
  rw [← hr] at hrank hrkl hramt hset hrc
  rw [← hr]
  have h0 : 0 ≤ s := by omega
  have h1 : s ≤ 1099511627776 := by omega
  rw [← hX]
  repeat' (first
    | refine JE.pure rfl rfl (by conv => lhs; whnf) rfl ?_
    | refine JE.skip rfl rfl ?_
    | (refine JE.kBin ?_; (refine JE.int rfl rfl rfl rfl rfl rfl ?_; with_reducible refine JE.waysD (fun _ => ?_) (fun _ => ?_)))
    | (refine JE.kBuiltin ?_; refine JE.lenSl rfl rfl rfl ?_)
    | with_reducible refine JE.sN ?_
    | with_reducible refine J.seq ?_
    | with_reducible refine J.region ?_
    | refine J.condT rfl ?_
    | refine J.condF rfl ?_
    | with_reducible refine J.skip ?_
    | with_reducible refine J.block ?_
    | with_reducible refine J.ret ?_
    | with_reducible refine JX.thenN ?_
    | with_reducible refine JX.thenR ?_
    | (refine JE.isF 16 ?_; refine JE.call rfl rfl (by repeat (first | exact NfL.nil rfl | apply NfL.cons (by exact rfl) (by conv => lhs; whnf))) rfl ?_; refine CallG.ret (fun w hS => hfree w (hS.perm hXL).own (hS.perm hXL).nodup) ?_)
    | (refine JE.kMakeMap ?_; refine JE.makeMap rfl rfl (fun bg hbg => ?_))
    | (refine JE.isF 13 ?_; refine JE.call rfl rfl (by repeat (first | exact NfL.nil rfl | apply NfL.cons (by exact rfl) (by conv => lhs; whnf))) rfl ?_; refine CallG.news (G := _) (fun w hS => hrank w (hS.tl.perm hXL).own (hS.tl.perm hXL).nodup) ?_; rintro v9 l9 ho9; obtain ⟨a9, c9, rfl, _⟩ := ho9.shape))
  all_goals first
    | (exfalso; omega)
    | skip
  refine J.loop (fun f w' => ∃ (k : Nat) (v10 : Value) (l10 : List (Nat × Obj)) (go : Obj), k ≤ r.length ∧ Own 3 encEntry 35 v10 (payE (r.take k) s).1 l10 ∧ MapO Value.string encN go (payE (r.take k) s).2.1 ∧
      Has f [(0, .pointer (some ⟨p, 0, none⟩)), (1, .string t), (2, .int .i64 (payE (r.take k) s).2.2), (9, .map (some bg)), (10, v10), (29, .slice a9 r.length c9), (30, .int .i64 r.length), (31, .int .i64 k)] ∧ St w olds (l10 ++ ((bg, go) :: (l9 ++ X))) w')
    (fun f _ => r.length - (intOf (f 31)).toNat) (fun w' hS => ⟨0, _, [], _, Nat.zero_le _, Own.nil, MapO.empty _ _, (by repeat' (first | exact trivial | refine And.intro (by rfl) ?_)), hS.perm List.perm_middle⟩) ?_
  rintro f w' ⟨k, v10, l10, go, hk, ho10, hgo, hf, hS⟩
  obtain ⟨g, rfl⟩ := hf.eq
  clear hf
  refine J.at_ ?_ hS
  by_cases hlt : k < r.length
  · have hxk : r[k]? = some r[k] := List.getElem?_eq_getElem hlt
    have htk : r.take (k + 1) = r.take k ++ [r[k]] := by rw [List.take_add_one, hxk]; rfl
    have hmem : r[k] ∈ r := List.getElem_mem hlt
    have hfresh : r[k].creditor ∉ ((payE (r.take k) s).2.1).map (·.1) := fun hm => by
      obtain ⟨q, hq, e⟩ := payE_keys _ _ _ hm
      have h2 := hrc
      rw [← List.take_append_drop k r, List.pairwise_append] at h2
      exact h2.2.2 q hq r[k] (by rw [List.drop_eq_getElem_cons hlt]; exact List.mem_cons_self) e
    generalize r[k] = q at hxk htk hmem hfresh
    have hsn := payE_snoc (r.take k) s q
    rw [← htk] at hsn
    have hrest' := payE_rest (r.take k) s h0 fun q hq => (hramt q (List.mem_of_mem_take hq)).1
    have hlen := payE_len (r.take k) s
    have hamt := hramt q hmem
    obtain ⟨E, hE⟩ : ∃ E, E = (payE (r.take k) s).1 := ⟨_, rfl⟩
    obtain ⟨G, hG⟩ : ∃ G, G = (payE (r.take k) s).2.1 := ⟨_, rfl⟩
    obtain ⟨s', hs'⟩ : ∃ s', s' = (payE (r.take k) s).2.2 := ⟨_, rfl⟩
    rw [← hE, ← hG, ← hs'] at hsn
    rw [← hs'] at hrest'
    rw [← hE] at hlen ho10
    rw [← hG] at hgo hfresh
    rw [← hs']
    obtain ⟨n, hn⟩ : ∃ n, n = min s' q.amount := ⟨_, rfl⟩
    have hmn : (if q.amount < s' then q.amount else s') = n := by rw [hn, Int.min_def]; split <;> split <;> omega
    have hnl : n ≤ s' ∧ n ≤ 1099511627776 := by rw [hn]; exact ⟨Int.min_le_left _ _, Int.le_trans (Int.min_le_right _ _) hamt.2⟩
    have hel : E.length + 1 ≤ 4096 := by rw [List.length_take] at hlen; omega
    rw [← hn] at hsn
    have hn0 : 0 ≤ n := by rw [hn]; exact Int.le_min.2 ⟨hrest'.1, by omega⟩
    obtain ⟨B9, off9, rfl⟩ : ∃ B off, a9 = some ⟨B, off, none⟩ := by
      obtain ⟨a', c', e1, h2⟩ := ho9.sl encP_len (hS.sub (l' := l9) (by repeat (first | exact List.Sublist.refl _ | exact List.nil_sublist _ | refine List.Sublist.append_left ?_ _ | exact List.sublist_append_left _ _ | apply List.Sublist.cons_cons | apply List.Sublist.cons | apply List.sublist_append_of_sublist_right))).own
      obtain ⟨B, off, e2, _⟩ := h2 (by rintro rfl; simp at hxk)
      simp only [Value.slice.injEq] at e1
      exact ⟨B, off, e1.1.trans e2⟩
    have hr9 := rows_of (fun w' (hS : St w olds l9 w') => ho9.sl encP_len hS.own) (by rintro rfl; simp at hxk)
    repeat' (first
      | (refine JE.kBuiltin ?_; refine JE.min2 rfl rfl rfl hmn rfl ?_)
      | refine JE.pure rfl rfl (by conv => lhs; whnf) rfl ?_
      | (refine JE.kBin ?_; (refine JE.int rfl rfl rfl rfl rfl rfl ?_; with_reducible refine JE.waysD (fun _ => ?_) (fun _ => ?_)))
      | (refine JE.kBin ?_; refine JE.int rfl rfl rfl rfl (by rw [i64_id (by omega)]) rfl ?_)
      | (refine JE.kField ?_; refine JE.fieldAddr rfl rfl rfl ?_)
      | (refine JE.kNil ?_; refine JE.nilCheck rfl rfl rfl ?_)
      | (refine JE.kLoad ?_; refine JE.load1 rfl rfl (by repeat (first | exact In.head | refine In.tail ?_ | refine In.app ?_)) rfl (by conv => lhs; whnf) (fun _ => by first | trivial | exact ⟨.inr ‹_›, trivial⟩ | exact ⟨.inl (by kernel_rfl), trivial⟩ | exact ⟨.inr ‹_›, .inr ‹_›, trivial⟩ | exact ⟨.inr ‹_›, .inl (by kernel_rfl), trivial⟩ | exact ⟨.inl (by kernel_rfl), .inr ‹_›, trivial⟩ | exact ⟨.inl (by kernel_rfl), .inl (by kernel_rfl), trivial⟩) rfl ?_)
      | (refine JE.kAlloc ?_; refine JE.alloc rfl (by conv => lhs; whnf) rfl (fun _ _ => ?_))
      | (refine JE.kStore ?_; refine JE.store rfl rfl (by repeat (first | exact Turn.head | apply Turn.tail | apply Turn.app)) SizeT.size (by repeat (first | exact NfL.nil rfl | apply NfL.cons (by exact rfl) (by conv => lhs; whnf))) (by rfl) (by rfl) (by rfl) (by repeat (first | exact NfL.nil rfl | apply NfL.cons (by exact rfl) (by conv => lhs; whnf))) (by first | trivial | exact List.mem_cons_self | exact List.mem_cons_of_mem _ List.mem_cons_self) rfl ?_)
      | (refine JE.kBuild ?_; refine JE.build rfl rfl (by repeat (first | exact NfL.nil rfl | apply NfL.cons (by exact rfl) (by conv => lhs; whnf))) rfl ?_)
      | (refine JE.kBuildSlice ?_; refine JE.buildSlice rfl rfl rfl (by conv => lhs; whnf) (by rfl) (by rfl) (by repeat (first | exact NfL.nil rfl | apply NfL.cons (by exact rfl) (by conv => lhs; whnf))) rfl (fun _ _ => ?_))
      | with_reducible refine JE.sN ?_
      | with_reducible refine JE.sX ?_
      | with_reducible refine J.seq ?_
      | with_reducible refine J.region ?_
      | refine J.condT rfl ?_
      | refine J.condF rfl ?_
      | with_reducible refine J.skip ?_
      | with_reducible refine J.exit ?_
      | with_reducible refine J.block ?_
      | with_reducible refine JX.thenN ?_
      | with_reducible refine JX.thenE ?_
      | with_reducible refine JX.blkS ?_
      | with_reducible refine JX.blkN ?_
      | (refine JE.kIndexAddr ?_; refine JE.indexAddr rfl rfl rfl (Int.natCast_nonneg _) (by omega) rfl ?_)
      | (refine JE.isLoadT 33 ?_; refine JE.loadRowS rfl rfl (fun w' hS' => hr9 w' (hS'.sub (by repeat (first | exact List.Sublist.refl _ | exact List.nil_sublist _ | refine List.Sublist.append_left ?_ _ | exact List.sublist_append_left _ _ | apply List.Sublist.cons_cons | apply List.Sublist.cons | apply List.sublist_append_of_sublist_right)))) hxk rfl rfl (fun h => by first | exact trivial | cases h) rfl ?_)
      | (refine JE.kBuiltin ?_; refine JE.appendOwn rfl rfl rfl ((show Own 3 encEntry 35 _ _ _ from ho10)) (by repeat (first | exact Seg.head | exact Seg.all | exact Seg.one | apply Seg.tail | apply Seg.cons)) (fun _ => rfl) (fun _ => rfl) (fun w hS => sl_one (enc := encEntry) (k := 3) (fun _ => rfl) (⟨q.creditor, ByteArray.empty, n⟩ : Entry) (hS.get (by repeat (first | exact In.head | refine In.tail ?_ | refine In.app ?_)))) (by (try simp only [List.length_cons, List.length_nil, List.length_append, List.length_drop, List.length_take, maxLen] at *); omega) (by (try simp only [List.length_cons, List.length_nil, List.length_append, List.length_drop, List.length_take, maxLen] at *); omega) (fun _ _ _ _ => trivial) rfl (fun _ _ _ => ?_))
      | (refine JE.kUpdate ?_; refine JE.mapUpdate (encK := Value.string) (encV := encN) (k := q.creditor) (v := n) rfl rfl rfl rfl (by repeat (first | exact In.head | refine In.tail ?_ | refine In.app ?_)) hgo trivial rfl (fun go2 hgo2 => ⟨_, (by repeat (first | exact Turn.head | apply Turn.tail | apply Turn.app)), ?_⟩)))
    all_goals first
      | (exfalso; omega)
      | (rw [if_neg ‹_›] at hsn
         refine JX.round fun w'' hS' => ⟨⟨k + 1, v10, l10, go, hlt, by rw [hsn, ← hE]; exact ho10, by rw [hsn, ← hG]; exact hgo, by rw [hsn, ← hs']; exact (by repeat' (first | exact trivial | refine And.intro (by rfl) ?_)), hS'.sub (by repeat (first | exact List.Sublist.refl _ | exact List.nil_sublist _ | refine List.Sublist.append_left ?_ _ | exact List.sublist_append_left _ _ | apply List.Sublist.cons_cons | apply List.Sublist.cons | apply List.sublist_append_of_sublist_right))⟩, ?_⟩
         show r.length - ((k : Int) + 1).toNat < r.length - ((k : Int)).toNat
         omega)
      | (rw [if_pos ‹_›] at hsn
         rw [kput_new hfresh] at hgo2
         refine JX.round fun w'' hS' => ⟨⟨k + 1, _, _, go2, hlt, by rw [hsn]; assumption, by rw [hsn]; exact hgo2, by rw [hsn]; exact (by repeat' (first | exact trivial | refine And.intro (by rfl) ?_)), hS'.sub (by repeat (first | exact List.Sublist.refl _ | exact List.nil_sublist _ | refine List.Sublist.append_left ?_ _ | exact List.sublist_append_left _ _ | apply List.Sublist.cons_cons | apply List.Sublist.cons | apply List.sublist_append_of_sublist_right))⟩, ?_⟩
         show r.length - ((k : Int) + 1).toNat < r.length - ((k : Int)).toNat
         omega)
  · have hk' : k = r.length := by omega
    rw [hk', List.take_length] at ho10 hgo
    rw [hk', List.take_length]
    obtain ⟨a5, c5, rfl, _⟩ := ho.shape
    have hpl : ∀ c, 0 ≤ (klook c (payE r s).2.1).getD 0 ∧ (klook c (payE r s).2.1).getD 0 ≤ 1099511627776 := fun c => by
      cases hc : klook c (payE r s).2.1 with
      | none => simp
      | some n =>
        obtain ⟨q, hq, _, h2, h3⟩ := payE_most _ _ _ (klook_mem hc)
        have := hramt q hq
        simp only [Option.getD_some] at *
        omega
    obtain ⟨G, hG⟩ : ∃ G, G = (payE r s).2.1 := ⟨_, rfl⟩
    rw [← hG] at hgo hpl hset
    subst hX
    repeat' (first
      | refine JE.pure rfl rfl (by conv => lhs; whnf) rfl ?_
      | (refine JE.kBin ?_; (refine JE.int rfl rfl rfl rfl rfl rfl ?_; with_reducible refine JE.waysD (fun _ => ?_) (fun _ => ?_)))
      | (refine JE.kField ?_; refine JE.fieldAddr rfl rfl rfl ?_)
      | (refine JE.kNil ?_; refine JE.nilCheck rfl rfl rfl ?_)
      | (refine JE.kLoad ?_; refine JE.load1 rfl rfl (by repeat (first | exact In.head | refine In.tail ?_ | refine In.app ?_)) rfl (by conv => lhs; whnf) (fun _ => by first | trivial | exact ⟨.inr ‹_›, trivial⟩ | exact ⟨.inl (by kernel_rfl), trivial⟩ | exact ⟨.inr ‹_›, .inr ‹_›, trivial⟩ | exact ⟨.inr ‹_›, .inl (by kernel_rfl), trivial⟩ | exact ⟨.inl (by kernel_rfl), .inr ‹_›, trivial⟩ | exact ⟨.inl (by kernel_rfl), .inl (by kernel_rfl), trivial⟩) rfl ?_)
      | (refine JE.kBuiltin ?_; refine JE.lenSl rfl rfl rfl ?_)
      | with_reducible refine JE.sN ?_
      | with_reducible refine J.seq ?_
      | with_reducible refine J.region ?_
      | refine J.condT rfl ?_
      | refine J.condF rfl ?_
      | with_reducible refine J.skip ?_
      | with_reducible refine J.exit ?_
      | with_reducible refine J.block ?_
      | with_reducible refine JX.thenN ?_
      | with_reducible refine JX.thenE ?_
      | with_reducible refine JX.blkS ?_
      | (refine JE.kLookup ?_; refine JE.lookupV (encK := Value.string) (encV := encSV) (k := t) rfl rfl rfl (by repeat (first | exact In.head | refine In.tail ?_ | refine In.app ?_)) hM hlk (fun _ => by first | trivial | exact ⟨.inr ‹_›, trivial⟩ | exact ⟨.inl (by kernel_rfl), trivial⟩ | exact ⟨.inr ‹_›, .inr ‹_›, trivial⟩ | exact ⟨.inr ‹_›, .inl (by kernel_rfl), trivial⟩ | exact ⟨.inl (by kernel_rfl), .inr ‹_›, trivial⟩ | exact ⟨.inl (by kernel_rfl), .inl (by kernel_rfl), trivial⟩) rfl ?_))
    all_goals first
      | (exfalso; omega)
      | skip
    refine J.loop (fun f w' => ∃ (j : Nat) (v14 : Value) (l14 : List (Nat × Obj)), j ≤ (rowOf m t).length ∧ Own 6 encPledge 37 v14 (((rowOf m t).take j).filterMap (leftX G)) l14 ∧
        Has f [(0, .pointer (some ⟨p, 0, none⟩)), (1, .string t), (2, .int .i64 (payE r s).2.2), (9, .map (some bg)), (10, v10), (14, v14), (61, .slice a5 (rowOf m t).length c5), (62, .int .i64 (rowOf m t).length), (63, .int .i64 j)] ∧ St w olds (l14 ++ (l10 ++ ((bg, go) :: ((p, cel [.map (some bm)] 60) :: (bm, mo) :: (ln ++ rest))))) w')
      (fun f _ => (rowOf m t).length - (intOf (f 63)).toNat) (fun w' hS => ⟨0, _, [], Nat.zero_le _, Own.nil, (by repeat' (first | exact trivial | refine And.intro (by rfl) ?_)), hS.sub (((List.sublist_append_right l9 _).cons_cons _).append_left _)⟩) ?_
    rintro f w' ⟨j, v14, l14, hj, ho14, hf, hS⟩
    obtain ⟨g, rfl⟩ := hf.eq
    clear hf
    refine J.at_ ?_ hS
    by_cases hjl : j < (rowOf m t).length
    · have hxj : (rowOf m t)[j]? = some (rowOf m t)[j] := List.getElem?_eq_getElem hjl
      have hxa := (may_of (hD.may _ (rowOf_mem.1 (List.getElem_mem hjl)).1)).2.2.2.2
      generalize (rowOf m t)[j] = x at hxj hxa
      have hnext := filterMap_take (p := leftX G) hxj
      have hgx := hpl x.creditor
      obtain ⟨gx, hgxe⟩ : ∃ gx, gx = (klook x.creditor G).getD 0 := ⟨_, rfl⟩
      have hlx := look_N x.creditor G
      rw [← hgxe] at hgx hlx
      have hleft : leftX G x = if 0 < x.amount - gx then some { x with amount := x.amount - gx } else none := by rw [hgxe]; rfl
      obtain ⟨B5, off5, rfl⟩ : ∃ B off, a5 = some ⟨B, off, none⟩ := by
        obtain ⟨a', c', e1, h2⟩ := ho.sl encP_len (hS.sub (l' := ln) (by repeat (first | exact List.Sublist.refl _ | exact List.nil_sublist _ | refine List.Sublist.append_left ?_ _ | exact List.sublist_append_left _ _ | apply List.Sublist.cons_cons | apply List.Sublist.cons | apply List.sublist_append_of_sublist_right))).own
        obtain ⟨B, off, e2, _⟩ := h2 (by intro e; rw [e] at hxj; simp at hxj)
        simp only [Value.slice.injEq] at e1
        exact ⟨B, off, e1.1.trans e2⟩
      have hr5 := rows_of (fun w' (hS : St w olds ln w') => ho.sl encP_len hS.own) (by intro e; rw [e] at hxj; simp at hxj)
      have hfl : (((rowOf m t).take j).filterMap (leftX G)).length ≤ j := Nat.le_trans (List.length_filterMap_le _ _) (by simp; omega)
      repeat' (first
        | refine JE.pure rfl rfl (by conv => lhs; whnf) rfl ?_
        | (refine JE.kBin ?_; (refine JE.int rfl rfl rfl rfl rfl rfl ?_; with_reducible refine JE.waysD (fun _ => ?_) (fun _ => ?_)))
        | (refine JE.kBin ?_; refine JE.int rfl rfl rfl rfl (by rw [i64_id (by omega)]) rfl ?_)
        | (refine JE.kField ?_; refine JE.fieldAddr rfl rfl rfl ?_)
        | (refine JE.kLoad ?_; refine JE.load1 rfl rfl (by repeat (first | exact In.head | refine In.tail ?_ | refine In.app ?_)) rfl (by conv => lhs; whnf) (fun _ => by first | trivial | exact ⟨.inr ‹_›, trivial⟩ | exact ⟨.inl (by kernel_rfl), trivial⟩ | exact ⟨.inr ‹_›, .inr ‹_›, trivial⟩ | exact ⟨.inr ‹_›, .inl (by kernel_rfl), trivial⟩ | exact ⟨.inl (by kernel_rfl), .inr ‹_›, trivial⟩ | exact ⟨.inl (by kernel_rfl), .inl (by kernel_rfl), trivial⟩) rfl ?_)
        | (refine JE.kLoad ?_; refine JE.loadAll rfl rfl (by repeat (first | exact In.head | refine In.tail ?_ | refine In.app ?_)) (by rfl) (fun _ => by first | trivial | exact ⟨.inr ‹_›, trivial⟩ | exact ⟨.inl (by kernel_rfl), trivial⟩ | exact ⟨.inr ‹_›, .inr ‹_›, trivial⟩ | exact ⟨.inr ‹_›, .inl (by kernel_rfl), trivial⟩ | exact ⟨.inl (by kernel_rfl), .inr ‹_›, trivial⟩ | exact ⟨.inl (by kernel_rfl), .inl (by kernel_rfl), trivial⟩) rfl ?_)
        | (refine JE.kAlloc ?_; refine JE.alloc rfl (by conv => lhs; whnf) rfl (fun _ _ => ?_))
        | (refine JE.kStore ?_; refine JE.store rfl rfl (by repeat (first | exact Turn.head | apply Turn.tail | apply Turn.app)) SizeT.size (by repeat (first | exact NfL.nil rfl | apply NfL.cons (by exact rfl) (by conv => lhs; whnf))) (by rfl) (by rfl) (by rfl) (by repeat (first | exact NfL.nil rfl | apply NfL.cons (by exact rfl) (by conv => lhs; whnf))) (by first | trivial | exact List.mem_cons_self | exact List.mem_cons_of_mem _ List.mem_cons_self) rfl ?_)
        | (refine JE.kBuildSlice ?_; refine JE.buildSlice rfl rfl rfl (by conv => lhs; whnf) (by rfl) (by rfl) (by repeat (first | exact NfL.nil rfl | apply NfL.cons (by exact rfl) (by conv => lhs; whnf))) rfl (fun _ _ => ?_))
        | with_reducible refine JE.sN ?_
        | with_reducible refine JE.sX ?_
        | with_reducible refine J.seq ?_
        | with_reducible refine J.region ?_
        | refine J.condT rfl ?_
        | refine J.condF rfl ?_
        | with_reducible refine J.skip ?_
        | with_reducible refine J.exit ?_
        | with_reducible refine J.block ?_
        | with_reducible refine JX.thenN ?_
        | with_reducible refine JX.thenE ?_
        | with_reducible refine JX.blkS ?_
        | with_reducible refine JX.blkN ?_
        | (refine JE.kIndexAddr ?_; refine JE.indexAddr rfl rfl rfl (Int.natCast_nonneg _) (by omega) rfl ?_)
        | (refine JE.isLoadT 65 ?_; refine JE.loadRowS rfl rfl (fun w' hS' => hr5 w' (hS'.sub (by repeat (first | exact List.Sublist.refl _ | exact List.nil_sublist _ | refine List.Sublist.append_left ?_ _ | exact List.sublist_append_left _ _ | apply List.Sublist.cons_cons | apply List.Sublist.cons | apply List.sublist_append_of_sublist_right)))) hxj rfl rfl (fun h => by first | exact trivial | cases h) rfl ?_)
        | (refine JE.kLookup ?_; refine JE.lookupV (encK := Value.string) (encV := encN) (k := x.creditor) rfl rfl rfl (by repeat (first | exact In.head | refine In.tail ?_ | refine In.app ?_)) hgo hlx (fun _ => by first | trivial | exact ⟨.inr ‹_›, trivial⟩ | exact ⟨.inl (by kernel_rfl), trivial⟩ | exact ⟨.inr ‹_›, .inr ‹_›, trivial⟩ | exact ⟨.inr ‹_›, .inl (by kernel_rfl), trivial⟩ | exact ⟨.inl (by kernel_rfl), .inr ‹_›, trivial⟩ | exact ⟨.inl (by kernel_rfl), .inl (by kernel_rfl), trivial⟩) rfl ?_)
        | (refine JE.kBuiltin ?_; refine JE.appendOwn rfl rfl rfl ((show Own 6 encPledge 37 _ _ _ from ho14)) (by repeat (first | exact Seg.head | exact Seg.all | exact Seg.one | apply Seg.tail | apply Seg.cons)) (fun _ => rfl) (fun _ => rfl) (fun w hS => sl_one encP_len { x with amount := x.amount - gx } (hS.get (by repeat (first | exact In.head | refine In.tail ?_ | refine In.app ?_)))) (by (try simp only [List.length_cons, List.length_nil, List.length_append, List.length_drop, List.length_take, maxLen] at *); omega) (by (try simp only [List.length_cons, List.length_nil, List.length_append, List.length_drop, List.length_take, maxLen] at *); omega) (fun _ _ _ _ => trivial) rfl (fun _ _ _ => ?_)))
      all_goals first
        | (exfalso; omega)
        | (rw [if_neg ‹_›] at hleft
           refine JX.round fun w'' hS' => ⟨⟨j + 1, v14, l14, hjl, by rw [hnext, hleft, List.append_nil]; exact ho14, (by repeat' (first | exact trivial | refine And.intro (by rfl) ?_)), hS'.sub (by repeat (first | exact List.Sublist.refl _ | exact List.nil_sublist _ | refine List.Sublist.append_left ?_ _ | exact List.sublist_append_left _ _ | apply List.Sublist.cons_cons | apply List.Sublist.cons | apply List.sublist_append_of_sublist_right))⟩, ?_⟩
           show (rowOf m t).length - ((j : Int) + 1).toNat < (rowOf m t).length - ((j : Int)).toNat
           omega)
        | (rw [if_pos ‹_›] at hleft
           rename_i hown14
           refine JX.round fun w'' hS' => ⟨⟨j + 1, _, _, hjl, by rw [hnext, hleft]; exact hown14, (by repeat' (first | exact trivial | refine And.intro (by rfl) ?_)), hS'.sub (by repeat (first | exact List.Sublist.refl _ | exact List.nil_sublist _ | refine List.Sublist.append_left ?_ _ | exact List.sublist_append_left _ _ | apply List.Sublist.cons_cons | apply List.Sublist.cons | apply List.sublist_append_of_sublist_right))⟩, ?_⟩
           show (rowOf m t).length - ((j : Int) + 1).toNat < (rowOf m t).length - ((j : Int)).toNat
           omega)
    · have hj' : j = (rowOf m t).length := by omega
      rw [hj', List.take_length] at ho14
      repeat' (first
        | refine JE.pure rfl rfl (by conv => lhs; whnf) rfl ?_
        | (refine JE.kBin ?_; (refine JE.int rfl rfl rfl rfl rfl rfl ?_; with_reducible refine JE.waysD (fun _ => ?_) (fun _ => ?_)))
        | with_reducible refine JE.sN ?_
        | with_reducible refine J.seq ?_
        | with_reducible refine J.region ?_
        | refine J.condT rfl ?_
        | refine J.condF rfl ?_
        | with_reducible refine J.skip ?_
        | with_reducible refine J.exit ?_
        | with_reducible refine J.block ?_
        | with_reducible refine J.ret ?_
        | with_reducible refine JX.thenN ?_
        | with_reducible refine JX.thenE ?_
        | with_reducible refine JX.blkS ?_
        | (refine JE.isF 31 ?_; refine JE.perm (l' := (LienO p bm mo R ++ l14) ++ (l10 ++ [(bg, go)])) ?_ ?_; rotate_left; refine JE.call rfl rfl (by repeat (first | exact NfL.nil rfl | apply NfL.cons (by exact rfl) (by conv => lhs; whnf))) rfl ?_; refine CallG.obj (ln := LienO p bm mo R ++ l14) (G := _) .head (fun w hS => hset v14 l14 ho14 w (hS.owns .head) (hS.dist .head)) (fun _ _ _ _ => trivial) ?_; rintro _ l4 ⟨rfl, hL4⟩))
      all_goals first
        | (exfalso; omega)
        | exact fnQ_tmp3 (.inl rfl) rfl (by conv => lhs; whnf) (by conv => lhs; whnf) (by conv => lhs; whnf) fun w'' hS' => ⟨_, _, rfl, ⟨_, l10, l4, rfl, rfl, ho10, hL4⟩, holds ▸ (hS'.sub (l' := l4 ++ l10) (by repeat (first | exact List.Sublist.refl _ | exact List.nil_sublist _ | refine List.Sublist.append_left ?_ _ | exact List.sublist_append_left _ _ | apply List.Sublist.cons_cons | apply List.Sublist.cons | apply List.sublist_append_of_sublist_right))).perm List.perm_append_comm⟩
        | exact perm_set _ _ _ hXL

end Go.Proofs.Ytnapfiheholhiaa
