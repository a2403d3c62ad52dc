/-
  What the program's calls do to liens: a pledge. Conditions: none.
-/
import Derived.Test.YtnapfiheholhiaaLObj
set_option linter.unusedVariables false
set_option linter.unusedSimpArgs false
namespace Go.Proofs.Ytnapfiheholhiaa
open Go Go.RowKit Go.Proofs.YtnapfiheholhiaaSym

def rput (x : LRow) : List LRow → List LRow
  | [] => [x]
  | y :: r => if x.thing = y.thing then x :: r else y :: rput x r
theorem rput_kv (x : LRow) : ∀ R : List LRow, (rput x R).map rowKV = kput x.thing (x.blk, x.ps.length, x.cap) (R.map rowKV)
  | [] => rfl
  | y :: r => by
    simp only [rput, List.map_cons, rowKV, kput]
    split
    · rfl
    · rw [List.map_cons]; congr 1; exact rput_kv x r
theorem rput_perm (x : LRow) : ∀ R : List LRow, (R.map (·.thing)).Nodup → (rput x R).Perm (x :: R.filter fun y => decide (y.thing ≠ x.thing))
  | [], _ => .refl _
  | y :: r, h => by
    simp only [List.map_cons, List.nodup_cons] at h
    simp only [rput]
    split
    · rename_i e
      have : r.filter (fun z => decide (z.thing ≠ x.thing)) = r := List.filter_eq_self.2 fun z hz => by
        simp only [decide_eq_true_eq]; exact fun e' => h.1 ((e'.trans e) ▸ List.mem_map_of_mem hz)
      rw [List.filter_cons_of_neg (by simp [e]), this]
    · rename_i e
      rw [List.filter_cons_of_pos (by simp; exact fun e' => e e'.symm)]
      exact ((rput_perm x r h.2).cons _).trans (.swap _ _ _)
theorem kdel_kv (t : ByteArray) : ∀ R : List LRow, (R.map (·.thing)).Nodup → kdel t (R.map rowKV) = (R.filter fun y => decide (y.thing ≠ t)).map rowKV
  | [], _ => rfl
  | y :: r, h => by
    simp only [List.map_cons, List.nodup_cons] at h
    simp only [List.map_cons, rowKV, kdel]
    by_cases e : t = y.thing
    · have : r.filter (fun z => decide (z.thing ≠ t)) = r := List.filter_eq_self.2 fun z hz => by
        simp only [decide_eq_true_eq]; exact fun e' => h.1 ((e'.trans e) ▸ List.mem_map_of_mem hz)
      rw [if_pos e, List.filter_cons_of_neg (by simp [e]), this]
    · rw [if_neg e, List.filter_cons_of_pos (by simp; exact fun e' => e e'.symm), List.map_cons]
      congr 1; exact kdel_kv t r h.2

theorem mem_rowOf {m : List Pledge} {p : Pledge} (h : p ∈ m) : p ∈ rowOf m p.thing := rowOf_mem.2 ⟨h, rfl⟩
theorem LRows.put {R : List LRow} {m m' : List Pledge} (h : LRows R m) {t : ByteArray} {ps : List Pledge} (hps : ps ≠ []) {B cap : Nat} {cur : Array Value} (ho : OwnC 6 ps.length cap cur (ps.flatMap encPledge)) (hm : ∀ u, rowOf m' u = if u = t then ps else rowOf m u) :
    ∃ R', LRows R' m' ∧ R'.map rowKV = kput t (B, ps.length, cap) (R.map rowKV) ∧ (R'.map rowBlk).Perm ((B, .cells cur 37 (0, 0)) :: (R.filter fun x => decide (x.thing ≠ t)).map rowBlk) := by
  have hp := rput_perm ⟨t, ps, B, cap, cur⟩ R h.keys
  refine ⟨rput ⟨t, ps, B, cap, cur⟩ R, ⟨fun r hr => ?_, ?_, fun r hr => ?_, fun p hp' => ?_⟩, rput_kv _ _, hp.map rowBlk⟩
  · rcases List.mem_cons.1 (hp.mem_iff.1 hr) with rfl | hr
    · exact ho
    · exact h.own r (List.mem_filter.1 hr).1
  · refine ((hp.map (·.thing)).nodup_iff).2 ?_
    simp only [List.map_cons, List.nodup_cons]
    refine ⟨fun hm => ?_, h.keys.sublist (List.filter_sublist.map _)⟩
    obtain ⟨y, hy, e⟩ := List.mem_map.1 hm
    have := (List.mem_filter.1 hy).2
    simp at this
    exact this e
  · rcases List.mem_cons.1 (hp.mem_iff.1 hr) with rfl | hr
    · refine ⟨?_, hps⟩
      rw [hm, if_pos rfl]
    · have h1 := List.mem_filter.1 hr
      have h2 := h.row r h1.1
      refine ⟨?_, h2.2⟩
      rw [hm, if_neg (by simpa using h1.2)]; exact h2.1
  · rw [(hp.map (·.thing)).mem_iff]
    simp only [List.map_cons, List.mem_cons]
    by_cases e : p.thing = t
    · exact .inl e
    · right
      have h1 := mem_rowOf hp'
      rw [hm, if_neg e] at h1
      obtain ⟨y, hy, ey⟩ := List.mem_map.1 (h.all p (rowOf_mem.1 h1).1)
      exact List.mem_map.2 ⟨y, List.mem_filter.2 ⟨hy, by simp [ey, e]⟩, ey⟩
theorem LRows.del {R : List LRow} {m m' : List Pledge} (h : LRows R m) {t : ByteArray} (hm : ∀ u, rowOf m' u = if u = t then [] else rowOf m u) :
    ∃ R', LRows R' m' ∧ R'.map rowKV = kdel t (R.map rowKV) ∧ R'.map rowBlk = (R.filter fun x => decide (x.thing ≠ t)).map rowBlk := by
  refine ⟨R.filter fun x => decide (x.thing ≠ t), ⟨fun r hr => h.own r (List.mem_filter.1 hr).1, h.keys.sublist (List.filter_sublist.map _), fun r hr => ?_, fun p hp => ?_⟩, (kdel_kv t R h.keys).symm, rfl⟩
  · have h1 := List.mem_filter.1 hr
    have h2 := h.row r h1.1
    refine ⟨?_, h2.2⟩
    rw [hm, if_neg (by simpa using h1.2)]; exact h2.1
  · have h1 := mem_rowOf hp
    rw [hm] at h1
    by_cases e : p.thing = t
    · rw [if_pos e] at h1; cases h1
    · rw [if_neg e] at h1
      obtain ⟨y, hy, ey⟩ := List.mem_map.1 (h.all p (rowOf_mem.1 h1).1)
      exact List.mem_map.2 ⟨y, List.mem_filter.2 ⟨hy, by simp [ey, e]⟩, ey⟩

theorem own_some {α : Type} {k : Nat} {enc : α → List Value} {e : TypeId} {v : Value} {xs : List α} {ln : List (Nat × Obj)} (h : Own k enc e v xs ln) (hne : xs ≠ []) :
    ∃ B cap cur, v = .slice (some ⟨B, 0, none⟩) xs.length cap ∧ OwnC k xs.length cap cur (xs.flatMap enc) ∧ ln = [(B, .cells cur e (0, 0))] := by
  rcases h with ⟨_, e, _⟩ | h
  · exact absurd e hne
  · exact h
theorem below_get {w w' : World} {b : Nat} {o : Obj} (hb : Below w.heap.size w w') (h : w.heap[b]? = some o) : w'.heap[b]? = some o := (hb.block b (Array.getElem?_eq_some_iff.1 h).1).trans h

def headOf (row : List Pledge) (p : Pledge) : Bool := match row with | [] => false | y :: _ => decide (y.debtor ≠ p.debtor)
theorem any_rowOf (m : List Pledge) (t : ByteArray) (q : Pledge → Bool) : (m.any fun x => decide (x.thing = t) && q x) = (rowOf m t).any q := by
  unfold rowOf
  rw [List.any_filter]
theorem code_row {m : List Pledge} (hd : Doc m) (p : Pledge) : code26 m p =
    if mayPledge p = false then 1 else if headOf (rowOf m p.thing) p = true then 8 else if ((rowOf m p.thing).any fun x => decide (x.creditor = p.creditor)) = true then 5 else
    if (p.held && (rowOf m p.thing).any fun x => x.held) = true then 9 else if 4096 ≤ m.length then 7 else 0 := by
  have e8 : (m.any fun x => decide (x.thing = p.thing) && decide (x.debtor ≠ p.debtor)) = headOf (rowOf m p.thing) p := by
    rw [any_rowOf]
    cases hr : rowOf m p.thing with
    | nil => rfl
    | cons y r =>
      have hy : y ∈ rowOf m p.thing := by rw [hr]; exact List.mem_cons_self
      have hall : ∀ x ∈ rowOf m p.thing, x.debtor = y.debtor := fun x hx => hd.debtor x (rowOf_mem.1 hx).1 y (rowOf_mem.1 hy).1 ((rowOf_mem.1 hx).2.trans (rowOf_mem.1 hy).2.symm)
      rw [hr] at hall
      simp only [headOf]
      by_cases e : y.debtor = p.debtor
      · simp only [e, ne_eq, not_true_eq_false, decide_false]
        rw [List.any_eq_false]
        intro x hx
        simp [hall x hx, e]
      · rw [decide_eq_true e]
        exact List.any_eq_true.2 ⟨y, List.mem_cons_self, by simp [e]⟩
  have e5 := any_rowOf m p.thing fun x => decide (x.creditor = p.creditor)
  have e9 : (m.any fun x => decide (x.thing = p.thing) && (x.held && p.held)) = (p.held && (rowOf m p.thing).any fun x => x.held) := by
    rw [any_rowOf]
    cases p.held <;> simp
  rw [code26, e8, e5, e9]

theorem of_calls (c : ByteArray) (w : World) : Does Try.prog 33 [.string c] w (RetNew w (fun B => .func (.func 51) #[] #[.pointer (some ⟨B, 0, none⟩)]) fun _ => cel [.string c] 9) := by
  refine calls_J (ys := [.string c]) Try.func33 rfl Try.ntmps33 rfl ?_
  refine J.at_ (S := St w [] []) ?_ (St.start w)
  repeat' (first
    | refine JE.pure rfl rfl (by conv => lhs; whnf) rfl ?_
    | (refine JE.kBox ?_; refine JE.box rfl (by conv => lhs; whnf) rfl (fun _ _ => ?_))
    | with_reducible refine JE.sN ?_
    | with_reducible refine J.seq ?_
    | with_reducible refine J.region ?_
    | with_reducible refine J.ret ?_)
  rename_i B hB
  exact fnQ_tmp (v := .func (.func 51) #[] #[.pointer (some ⟨B, 0, none⟩)]) (.inl rfl) rfl rfl fun w'' hS' => ⟨B, rfl, hB, hS'.get .head, hS'.below⟩

set_option maxHeartbeats 4000000 in
theorem pledge_calls {p : Nat} {m : List Pledge} {l : List (Nat × Obj)} (hL : Lien p m l) (x : Pledge) (hx : Fits x) (w : World) (hown : ∀ x ∈ l, w.heap[x.1]? = some x.2) (hnd : (l.map (·.1)).Nodup) :
    Does Try.prog 24 [.pointer (some ⟨p, 0, none⟩), .agg (encPledge x).toArray] w (RetO w l fun v l' => v = .int .i64 (code26 m x) ∧ Lien p (pledge26 m x) l') := by
  have hcount := fun w => count_calls hL w
  have hL0 := hL
  obtain ⟨bm, mo, R, rfl, hM, hR, hD⟩ := hL
  have hsize := hD.size
  have hcode := code_row hD x
  have hright := right_calls x hx
  obtain ⟨v, ln, hlk, ho, hperm, hnil⟩ := hR.look x.thing
  obtain ⟨rest, hrest⟩ : ∃ rest, rest = (R.filter fun y => decide (y.thing ≠ x.thing)).map rowBlk := ⟨_, rfl⟩
  have hput := fun (B cap : Nat) (cur : Array Value) => hR.put (m' := m ++ [x]) (t := x.thing) (ps := rowOf m x.thing ++ [x]) (B := B) (cap := cap) (cur := cur) (by simp)
  rw [← hrest] at hperm hput
  refine calls_J (ys := [.pointer (some ⟨p, 0, none⟩), .agg (encPledge x).toArray]) Try.func24 rfl Try.ntmps24 rfl ?_
  refine J.at_ ?_ (St.startO hown hnd)
  obtain ⟨olds, holds⟩ : ∃ o, o = (LienO p bm mo R).map (·.1) := ⟨_, rfl⟩
  rw [← holds]
  refine J.perm (l' := (p, cel [.map (some bm)] 60) :: (bm, mo) :: (ln ++ rest)) ((hperm.cons _).cons _) ?_
  have hback : ∀ w', St w olds ((p, cel [.map (some bm)] 60) :: (bm, mo) :: (ln ++ rest)) w' → St w olds (LienO p bm mo R) w' := fun w' hS => hS.perm ((hperm.symm.cons _).cons _)
  cases hmay : mayPledge x with
  | false =>
    rw [hmay] at hright
    rw [if_pos hmay] at hcode
    repeat' (first
      | refine JE.pure rfl rfl (by conv => lhs; whnf) rfl ?_
      | (refine JE.kField ?_; refine JE.fieldAddr rfl rfl rfl ?_)
      | (refine JE.kNil ?_; refine JE.nilCheck rfl rfl rfl ?_)
      | (refine JE.kLoad ?_; refine JE.load1 rfl rfl (by repeat (first | exact In.head | refine In.tail ?_ | refine In.app ?_)) rfl (by conv => lhs; whnf) (fun _ => by first | trivial | exact ⟨.inr ‹_›, trivial⟩ | exact ⟨.inl (by kernel_rfl), trivial⟩ | exact ⟨.inr ‹_›, .inr ‹_›, trivial⟩ | exact ⟨.inr ‹_›, .inl (by kernel_rfl), trivial⟩ | exact ⟨.inl (by kernel_rfl), .inr ‹_›, trivial⟩ | exact ⟨.inl (by kernel_rfl), .inl (by kernel_rfl), trivial⟩) rfl ?_)
      | (refine JE.kLoad ?_; refine JE.loadAll rfl rfl (by repeat (first | exact In.head | refine In.tail ?_ | refine In.app ?_)) (by rfl) (fun _ => by first | trivial | exact ⟨.inr ‹_›, trivial⟩ | exact ⟨.inl (by kernel_rfl), trivial⟩ | exact ⟨.inr ‹_›, .inr ‹_›, trivial⟩ | exact ⟨.inr ‹_›, .inl (by kernel_rfl), trivial⟩ | exact ⟨.inl (by kernel_rfl), .inr ‹_›, trivial⟩ | exact ⟨.inl (by kernel_rfl), .inl (by kernel_rfl), trivial⟩) rfl ?_)
      | (refine JE.kBox ?_; refine JE.box rfl (by conv => lhs; whnf) rfl (fun _ _ => ?_))
      | with_reducible refine JE.sN ?_
      | with_reducible refine JE.dN ?_
      | with_reducible refine J.seq ?_
      | with_reducible refine J.region ?_
      | refine J.condT rfl ?_
      | with_reducible refine J.block ?_
      | with_reducible refine J.ret ?_
      | with_reducible refine JX.thenR ?_
      | with_reducible refine JX.blkR ?_
      | (refine J.isR 1 ?_; refine J.draw [(0, true), (1, true), (2, true), (3, true), (4, true), (5, true), (6, true), (7, true)] [] mixed (by kernel_rfl) (fun _ h => h.drew) ?_)
      | (refine JE.kLookup ?_; refine JE.lookupV (encK := Value.string) (encV := encSV) (k := x.thing) rfl rfl rfl (.tail (.tail .head)) hM hlk (fun _ => by first | trivial | exact ⟨.inr ‹_›, trivial⟩ | exact ⟨.inl (by kernel_rfl), trivial⟩ | exact ⟨.inr ‹_›, .inr ‹_›, trivial⟩ | exact ⟨.inr ‹_›, .inl (by kernel_rfl), trivial⟩ | exact ⟨.inl (by kernel_rfl), .inr ‹_›, trivial⟩ | exact ⟨.inl (by kernel_rfl), .inl (by kernel_rfl), trivial⟩) rfl ?_)
      | (refine JE.isF 46 ?_; refine JE.call rfl rfl (by repeat (first | exact NfL.nil rfl | apply NfL.cons (by exact rfl) (by conv => lhs; whnf))) rfl ?_; refine CallG.ret (fun w hS => hright w) ?_))
    refine fnQ_tmp (.inl rfl) rfl (by conv => lhs; whnf) fun w'' hS' => ⟨_, _, rfl, ⟨by rw [hcode], ?_⟩, holds ▸ hback w'' hS'.tl⟩
    rw [pledge26, if_neg (by rw [hcode]; decide)]; exact hL0
  | true =>
    rw [hmay] at hright
    rw [if_neg (by simp [hmay])] at hcode
    obtain ⟨t, d, c, day, am, hh⟩ := x
    simp only at hlk ho hperm hrest hput hcode hnil
    have hrowl := rowOf_length m t
    have hrowp : ∀ u, rowOf (m ++ [⟨t, d, c, day, am, hh⟩]) u = if u = t then rowOf m t ++ [⟨t, d, c, day, am, hh⟩] else rowOf m u := fun u => by
      rw [rowOf_pledge]
      by_cases e : u = t
      · subst e; simp
      · rw [if_neg e, if_neg (fun e' => e e'.symm)]
    have h5c := fun bc w hb hl => ContainsFuncP_calls 51 [.pointer (some ⟨bc, 0, none⟩)] (fun y => decide (y.creditor = c)) v (rowOf m t) w (fun q w' hb' => ofF_calls q c bc w' (below_get hb' hb)) (ho.sl encP_len hl) (by omega)
    have h9c := fun w hl => ContainsFuncP_calls 47 [] (fun y => y.held) v (rowOf m t) w (fun q w' _ => held_calls q w') (ho.sl encP_len hl) (by omega)
    cases hrow : rowOf m t with
    | nil =>
      obtain ⟨rfl, rfl⟩ := hnil hrow
      have h9 : (rowOf m t).any (fun y => y.held) = false := by rw [hrow]; rfl
      have h5 : (rowOf m t).any (fun y => decide (y.creditor = c)) = false := by rw [hrow]; rfl
      rw [h5] at h5c
      rw [h9] at h9c
      rw [if_neg (by rw [hrow]; simp [headOf]), if_neg (by rw [h5]; decide)] at hcode
      cases hh with
      | false =>
        rw [if_neg (by simp)] at hcode
        by_cases hfull : 4096 ≤ m.length
        · rw [if_pos hfull] at hcode
          repeat' (first
            | (refine JE.kBox ?_; refine JE.box rfl (by conv => lhs; whnf) rfl (fun b3 hb3 => ?_))
            | refine JE.pure rfl rfl (by conv => lhs; whnf) rfl ?_
            | refine JE.skip rfl rfl ?_
            | (refine JE.kBin ?_; (refine JE.int rfl rfl rfl rfl rfl rfl ?_; with_reducible refine JE.waysD (fun _ => ?_) (fun _ => ?_)))
            | (refine JE.kField ?_; refine JE.fieldAddr rfl rfl rfl ?_)
            | (refine JE.kNil ?_; refine JE.nilCheck rfl rfl rfl ?_)
            | (refine JE.kLoad ?_; refine JE.load1 rfl rfl (by repeat (first | exact In.head | refine In.tail ?_ | refine In.app ?_)) rfl (by conv => lhs; whnf) (fun _ => by first | trivial | exact ⟨.inr ‹_›, trivial⟩ | exact ⟨.inl (by kernel_rfl), trivial⟩ | exact ⟨.inr ‹_›, .inr ‹_›, trivial⟩ | exact ⟨.inr ‹_›, .inl (by kernel_rfl), trivial⟩ | exact ⟨.inl (by kernel_rfl), .inr ‹_›, trivial⟩ | exact ⟨.inl (by kernel_rfl), .inl (by kernel_rfl), trivial⟩) rfl ?_)
            | (refine JE.kLoad ?_; refine JE.loadAll rfl rfl (by repeat (first | exact In.head | refine In.tail ?_ | refine In.app ?_)) (by rfl) (fun _ => by first | trivial | exact ⟨.inr ‹_›, trivial⟩ | exact ⟨.inl (by kernel_rfl), trivial⟩ | exact ⟨.inr ‹_›, .inr ‹_›, trivial⟩ | exact ⟨.inr ‹_›, .inl (by kernel_rfl), trivial⟩ | exact ⟨.inl (by kernel_rfl), .inr ‹_›, trivial⟩ | exact ⟨.inl (by kernel_rfl), .inl (by kernel_rfl), trivial⟩) rfl ?_)
            | (refine JE.kBuiltin ?_; refine JE.lenSl rfl rfl rfl ?_)
            | with_reducible refine JE.sN ?_
            | with_reducible refine JE.dN ?_
            | with_reducible refine J.seq ?_
            | with_reducible refine J.region ?_
            | refine J.condT rfl ?_
            | refine J.condF rfl ?_
            | with_reducible refine J.skip ?_
            | with_reducible refine J.block ?_
            | with_reducible refine J.ret ?_
            | with_reducible refine JX.thenN ?_
            | with_reducible refine JX.thenR ?_
            | with_reducible refine JX.blkN ?_
            | with_reducible refine JX.blkR ?_
            | (refine J.isR 1 ?_; refine J.draw [(0, true), (1, true), (2, true), (3, true), (4, true), (5, true), (6, true), (7, true)] [] mixed (by kernel_rfl) (fun _ h => h.drew) ?_)
            | (refine J.isR 4 ?_; refine J.draw [(0, true), (1, true), (2, true), (3, true), (4, true), (5, true), (6, true), (7, true), (8, true), (9, true), (10, true), (11, true), (12, true)] [] mixed (by kernel_rfl) (fun _ h => h.drew) ?_)
            | (refine JE.kLookup ?_; refine JE.lookupV (encK := Value.string) (encV := encSV) (k := t) rfl rfl rfl (.tail (.tail .head)) hM hlk (fun _ => by first | trivial | exact ⟨.inr ‹_›, trivial⟩ | exact ⟨.inl (by kernel_rfl), trivial⟩ | exact ⟨.inr ‹_›, .inr ‹_›, trivial⟩ | exact ⟨.inr ‹_›, .inl (by kernel_rfl), trivial⟩ | exact ⟨.inl (by kernel_rfl), .inr ‹_›, trivial⟩ | exact ⟨.inl (by kernel_rfl), .inl (by kernel_rfl), trivial⟩) rfl ?_)
            | (refine JE.isF 46 ?_; refine JE.call rfl rfl (by repeat (first | exact NfL.nil rfl | apply NfL.cons (by exact rfl) (by conv => lhs; whnf))) rfl ?_; refine CallG.ret (fun w hS => hright w) ?_)
            | (refine JE.isF 33 ?_; refine JE.call rfl rfl (by repeat (first | exact NfL.nil rfl | apply NfL.cons (by exact rfl) (by conv => lhs; whnf))) rfl ?_; refine CallG.retNew (v := fun B => .func (.func 51) #[] #[.pointer (some ⟨B, 0, none⟩)]) (o := fun _ => cel [.string c] 9) (fun w hS => of_calls _ w) (fun bc hbc => ?_))
            | (refine JE.isF 35 ?_; first | (refine JE.isArgT 34 ?_; refine JE.call rfl rfl (by repeat (first | exact NfL.nil rfl | apply NfL.cons (by exact rfl) (by conv => lhs; whnf))) rfl ?_; refine CallG.ret (fun w hS => h5c bc w (hS.get .head) (hS.owns (by repeat (first | exact Seg.head | exact Seg.all | exact Seg.one | apply Seg.tail | apply Seg.cons)))) ?_) | (refine JE.call rfl rfl (by repeat (first | exact NfL.nil rfl | apply NfL.cons (by exact rfl) (by conv => lhs; whnf))) rfl ?_; refine CallG.ret (fun w hS => h9c w (hS.owns (by repeat (first | exact Seg.head | exact Seg.all | exact Seg.one | apply Seg.tail | apply Seg.cons)))) ?_))
            | (refine JE.isF 48 ?_; refine JE.call rfl rfl (by repeat (first | exact NfL.nil rfl | apply NfL.cons (by exact rfl) (by conv => lhs; whnf))) rfl ?_; refine CallG.ret (fun w hS => hcount w (hback w (hS.sub (by repeat (first | exact List.Sublist.refl _ | exact List.nil_sublist _ | refine List.Sublist.append_left ?_ _ | exact List.sublist_append_left _ _ | apply List.Sublist.cons_cons | apply List.Sublist.cons | apply List.sublist_append_of_sublist_right)))).own (hback w (hS.sub (by repeat (first | exact List.Sublist.refl _ | exact List.nil_sublist _ | refine List.Sublist.append_left ?_ _ | exact List.sublist_append_left _ _ | apply List.Sublist.cons_cons | apply List.Sublist.cons | apply List.sublist_append_of_sublist_right)))).nodup) ?_))
          all_goals first
            | (exfalso; omega)
            | contradiction
            | (refine fnQ_tmp (.inl rfl) rfl (by conv => lhs; whnf) fun w'' hS' => ⟨_, _, rfl, ⟨by rw [hcode], ?_⟩, holds ▸ hback w'' (hS'.sub (by repeat (first | exact List.Sublist.refl _ | exact List.nil_sublist _ | refine List.Sublist.append_left ?_ _ | exact List.sublist_append_left _ _ | apply List.Sublist.cons_cons | apply List.Sublist.cons | apply List.sublist_append_of_sublist_right)))⟩
               rw [pledge26, if_neg (by rw [hcode]; decide)]; exact hL0)
        · rw [if_neg hfull] at hcode
          repeat' (first
            | (refine JE.kBox ?_; refine JE.box rfl (by conv => lhs; whnf) rfl (fun b3 hb3 => ?_))
            | refine JE.pure rfl rfl (by conv => lhs; whnf) rfl ?_
            | refine JE.skip rfl rfl ?_
            | (refine JE.kBin ?_; (refine JE.int rfl rfl rfl rfl rfl rfl ?_; with_reducible refine JE.waysD (fun _ => ?_) (fun _ => ?_)))
            | (refine JE.kField ?_; refine JE.fieldAddr rfl rfl rfl ?_)
            | (refine JE.kNil ?_; refine JE.nilCheck rfl rfl rfl ?_)
            | (refine JE.kLoad ?_; refine JE.load1 rfl rfl (by repeat (first | exact In.head | refine In.tail ?_ | refine In.app ?_)) rfl (by conv => lhs; whnf) (fun _ => by first | trivial | exact ⟨.inr ‹_›, trivial⟩ | exact ⟨.inl (by kernel_rfl), trivial⟩ | exact ⟨.inr ‹_›, .inr ‹_›, trivial⟩ | exact ⟨.inr ‹_›, .inl (by kernel_rfl), trivial⟩ | exact ⟨.inl (by kernel_rfl), .inr ‹_›, trivial⟩ | exact ⟨.inl (by kernel_rfl), .inl (by kernel_rfl), trivial⟩) rfl ?_)
            | (refine JE.kLoad ?_; refine JE.loadAll rfl rfl (by repeat (first | exact In.head | refine In.tail ?_ | refine In.app ?_)) (by rfl) (fun _ => by first | trivial | exact ⟨.inr ‹_›, trivial⟩ | exact ⟨.inl (by kernel_rfl), trivial⟩ | exact ⟨.inr ‹_›, .inr ‹_›, trivial⟩ | exact ⟨.inr ‹_›, .inl (by kernel_rfl), trivial⟩ | exact ⟨.inl (by kernel_rfl), .inr ‹_›, trivial⟩ | exact ⟨.inl (by kernel_rfl), .inl (by kernel_rfl), trivial⟩) rfl ?_)
            | (refine JE.kBuiltin ?_; refine JE.lenSl rfl rfl rfl ?_)
            | (refine JE.kBuildSlice ?_; refine JE.buildSlice rfl rfl rfl (by conv => lhs; whnf) (by rfl) (by rfl) (by repeat (first | exact NfL.nil rfl | apply NfL.cons (by exact rfl) (by conv => lhs; whnf))) rfl (fun _ _ => ?_))
            | with_reducible refine JE.sN ?_
            | with_reducible refine JE.dN ?_
            | with_reducible refine J.seq ?_
            | with_reducible refine J.region ?_
            | refine J.condT rfl ?_
            | refine J.condF rfl ?_
            | with_reducible refine J.skip ?_
            | with_reducible refine J.block ?_
            | with_reducible refine J.ret ?_
            | with_reducible refine JX.thenN ?_
            | with_reducible refine JX.thenR ?_
            | with_reducible refine JX.blkN ?_
            | with_reducible refine JX.blkR ?_
            | (refine J.isR 1 ?_; refine J.draw [(0, true), (1, true), (2, true), (3, true), (4, true), (5, true), (6, true), (7, true)] [] mixed (by kernel_rfl) (fun _ h => h.drew) ?_)
            | (refine J.isR 4 ?_; refine J.draw [(0, true), (1, true), (2, true), (3, true), (4, true), (5, true), (6, true), (7, true), (8, true), (9, true), (10, true), (11, true), (12, true)] [] mixed (by kernel_rfl) (fun _ h => h.drew) ?_)
            | (refine JE.kLookup ?_; refine JE.lookupV (encK := Value.string) (encV := encSV) (k := t) rfl rfl rfl (.tail (.tail .head)) hM hlk (fun _ => by first | trivial | exact ⟨.inr ‹_›, trivial⟩ | exact ⟨.inl (by kernel_rfl), trivial⟩ | exact ⟨.inr ‹_›, .inr ‹_›, trivial⟩ | exact ⟨.inr ‹_›, .inl (by kernel_rfl), trivial⟩ | exact ⟨.inl (by kernel_rfl), .inr ‹_›, trivial⟩ | exact ⟨.inl (by kernel_rfl), .inl (by kernel_rfl), trivial⟩) rfl ?_)
            | (refine JE.isF 46 ?_; refine JE.call rfl rfl (by repeat (first | exact NfL.nil rfl | apply NfL.cons (by exact rfl) (by conv => lhs; whnf))) rfl ?_; refine CallG.ret (fun w hS => hright w) ?_)
            | (refine JE.isF 33 ?_; refine JE.call rfl rfl (by repeat (first | exact NfL.nil rfl | apply NfL.cons (by exact rfl) (by conv => lhs; whnf))) rfl ?_; refine CallG.retNew (v := fun B => .func (.func 51) #[] #[.pointer (some ⟨B, 0, none⟩)]) (o := fun _ => cel [.string c] 9) (fun w hS => of_calls _ w) (fun bc hbc => ?_))
            | (refine JE.isF 35 ?_; first | (refine JE.isArgT 34 ?_; refine JE.call rfl rfl (by repeat (first | exact NfL.nil rfl | apply NfL.cons (by exact rfl) (by conv => lhs; whnf))) rfl ?_; refine CallG.ret (fun w hS => h5c bc w (hS.get .head) (hS.owns (by repeat (first | exact Seg.head | exact Seg.all | exact Seg.one | apply Seg.tail | apply Seg.cons)))) ?_) | (refine JE.call rfl rfl (by repeat (first | exact NfL.nil rfl | apply NfL.cons (by exact rfl) (by conv => lhs; whnf))) rfl ?_; refine CallG.ret (fun w hS => h9c w (hS.owns (by repeat (first | exact Seg.head | exact Seg.all | exact Seg.one | apply Seg.tail | apply Seg.cons)))) ?_))
            | (refine JE.isF 48 ?_; refine JE.call rfl rfl (by repeat (first | exact NfL.nil rfl | apply NfL.cons (by exact rfl) (by conv => lhs; whnf))) rfl ?_; refine CallG.ret (fun w hS => hcount w (hback w (hS.sub (by repeat (first | exact List.Sublist.refl _ | exact List.nil_sublist _ | refine List.Sublist.append_left ?_ _ | exact List.sublist_append_left _ _ | apply List.Sublist.cons_cons | apply List.Sublist.cons | apply List.sublist_append_of_sublist_right)))).own (hback w (hS.sub (by repeat (first | exact List.Sublist.refl _ | exact List.nil_sublist _ | refine List.Sublist.append_left ?_ _ | exact List.sublist_append_left _ _ | apply List.Sublist.cons_cons | apply List.Sublist.cons | apply List.sublist_append_of_sublist_right)))).nodup) ?_)
            | (refine J.isR 12 ?_; refine J.draw [(0, true), (1, true), (2, true), (3, true), (4, true), (5, true), (6, true), (7, true), (8, false), (9, false), (10, false)] [(10, bm)] mixed (by kernel_rfl) (fun _ h => h.drew) ?_)
            | (refine JE.isAppT 53 ?_; refine JE.appendOwn (ys := [(⟨t, d, c, day, am, false⟩ : Pledge)]) rfl rfl rfl (show Own 6 encPledge 37 _ _ _ from ho) (by repeat (first | exact Seg.head | exact Seg.all | exact Seg.one | apply Seg.tail | apply Seg.cons)) (fun _ => rfl) (fun _ => rfl) (fun w hS => sl_one encP_len (⟨t, d, c, day, am, false⟩ : Pledge) (hS.get (by repeat (first | exact In.head | refine In.tail ?_ | refine In.app ?_)))) (by (try simp only [List.length_cons, List.length_nil, List.length_append, List.length_drop, List.length_take, maxLen] at *); omega) (by (try simp only [List.length_cons, List.length_nil, List.length_append, List.length_drop, List.length_take, maxLen] at *); omega) (fun w1 w2 l2 hst k hk hlt => hst.block k hlt (by simp)) rfl (fun v2 l2 ho2 => ?_); obtain ⟨B2, cap2, cur2, rfl, ho3, rfl⟩ := own_some ho2 (by simp))
            | (refine JE.kUpdate ?_; refine JE.mapUpdate (encK := Value.string) (encV := encSV) (k := t) (v := (B2, (rowOf m t ++ [(⟨t, d, c, day, am, false⟩ : Pledge)]).length, cap2)) rfl rfl rfl rfl (by repeat (first | exact In.head | refine In.tail ?_ | refine In.app ?_)) hM (by simp [drawn]) rfl (fun mo' hM' => ⟨_, (by repeat (first | exact Turn.head | apply Turn.tail | apply Turn.app)), ?_⟩)))
          all_goals first
            | (exfalso; omega)
            | contradiction
            | (refine fnQ_tmp (.inl rfl) rfl (by conv => lhs; whnf) fun w'' hS' => ?_
               obtain ⟨R', hR', hkv, hpm⟩ := hput B2 cap2 cur2 ho3 hrowp
               refine ⟨_, LienO p bm mo' R', rfl, ⟨by rw [hcode], bm, mo', R', rfl, hkv ▸ hM', ?_, hD.pledge _⟩, holds ▸ St.perm (l := (B2, .cells cur2 37 (0, 0)) :: (p, cel [.map (some bm)] 60) :: (bm, mo') :: rest) (hS'.sub (by repeat (first | exact List.Sublist.refl _ | exact List.nil_sublist _ | refine List.Sublist.append_left ?_ _ | exact List.sublist_append_left _ _ | apply List.Sublist.cons_cons | apply List.Sublist.cons | apply List.sublist_append_of_sublist_right))) ?_⟩
               · rw [pledge26, if_pos hcode]; exact hR'
               · refine List.Perm.trans ?_ (((hpm.symm).cons _).cons _)
                 exact (List.Perm.swap _ _ _).trans ((List.Perm.swap _ _ _).cons _))
      | true =>
        rw [if_neg (by rw [h9]; decide)] at hcode
        by_cases hfull : 4096 ≤ m.length
        · rw [if_pos hfull] at hcode
          repeat' (first
            | (refine JE.kBox ?_; refine JE.box rfl (by conv => lhs; whnf) rfl (fun b3 hb3 => ?_))
            | refine JE.pure rfl rfl (by conv => lhs; whnf) rfl ?_
            | refine JE.skip rfl rfl ?_
            | (refine JE.kBin ?_; (refine JE.int rfl rfl rfl rfl rfl rfl ?_; with_reducible refine JE.waysD (fun _ => ?_) (fun _ => ?_)))
            | (refine JE.kField ?_; refine JE.fieldAddr rfl rfl rfl ?_)
            | (refine JE.kNil ?_; refine JE.nilCheck rfl rfl rfl ?_)
            | (refine JE.kLoad ?_; refine JE.load1 rfl rfl (by repeat (first | exact In.head | refine In.tail ?_ | refine In.app ?_)) rfl (by conv => lhs; whnf) (fun _ => by first | trivial | exact ⟨.inr ‹_›, trivial⟩ | exact ⟨.inl (by kernel_rfl), trivial⟩ | exact ⟨.inr ‹_›, .inr ‹_›, trivial⟩ | exact ⟨.inr ‹_›, .inl (by kernel_rfl), trivial⟩ | exact ⟨.inl (by kernel_rfl), .inr ‹_›, trivial⟩ | exact ⟨.inl (by kernel_rfl), .inl (by kernel_rfl), trivial⟩) rfl ?_)
            | (refine JE.kLoad ?_; refine JE.loadAll rfl rfl (by repeat (first | exact In.head | refine In.tail ?_ | refine In.app ?_)) (by rfl) (fun _ => by first | trivial | exact ⟨.inr ‹_›, trivial⟩ | exact ⟨.inl (by kernel_rfl), trivial⟩ | exact ⟨.inr ‹_›, .inr ‹_›, trivial⟩ | exact ⟨.inr ‹_›, .inl (by kernel_rfl), trivial⟩ | exact ⟨.inl (by kernel_rfl), .inr ‹_›, trivial⟩ | exact ⟨.inl (by kernel_rfl), .inl (by kernel_rfl), trivial⟩) rfl ?_)
            | (refine JE.kBuiltin ?_; refine JE.lenSl rfl rfl rfl ?_)
            | with_reducible refine JE.sN ?_
            | with_reducible refine JE.dN ?_
            | with_reducible refine J.seq ?_
            | with_reducible refine J.region ?_
            | refine J.condT rfl ?_
            | refine J.condF rfl ?_
            | with_reducible refine J.skip ?_
            | with_reducible refine J.block ?_
            | with_reducible refine J.ret ?_
            | with_reducible refine JX.thenN ?_
            | with_reducible refine JX.thenR ?_
            | with_reducible refine JX.blkN ?_
            | with_reducible refine JX.blkR ?_
            | (refine J.isR 1 ?_; refine J.draw [(0, true), (1, true), (2, true), (3, true), (4, true), (5, true), (6, true), (7, true)] [] mixed (by kernel_rfl) (fun _ h => h.drew) ?_)
            | (refine J.isR 4 ?_; refine J.draw [(0, true), (1, true), (2, true), (3, true), (4, true), (5, true), (6, true), (7, true), (8, true), (9, true), (10, true), (11, true), (12, true)] [] mixed (by kernel_rfl) (fun _ h => h.drew) ?_)
            | (refine JE.kLookup ?_; refine JE.lookupV (encK := Value.string) (encV := encSV) (k := t) rfl rfl rfl (.tail (.tail .head)) hM hlk (fun _ => by first | trivial | exact ⟨.inr ‹_›, trivial⟩ | exact ⟨.inl (by kernel_rfl), trivial⟩ | exact ⟨.inr ‹_›, .inr ‹_›, trivial⟩ | exact ⟨.inr ‹_›, .inl (by kernel_rfl), trivial⟩ | exact ⟨.inl (by kernel_rfl), .inr ‹_›, trivial⟩ | exact ⟨.inl (by kernel_rfl), .inl (by kernel_rfl), trivial⟩) rfl ?_)
            | (refine JE.isF 46 ?_; refine JE.call rfl rfl (by repeat (first | exact NfL.nil rfl | apply NfL.cons (by exact rfl) (by conv => lhs; whnf))) rfl ?_; refine CallG.ret (fun w hS => hright w) ?_)
            | (refine JE.isF 33 ?_; refine JE.call rfl rfl (by repeat (first | exact NfL.nil rfl | apply NfL.cons (by exact rfl) (by conv => lhs; whnf))) rfl ?_; refine CallG.retNew (v := fun B => .func (.func 51) #[] #[.pointer (some ⟨B, 0, none⟩)]) (o := fun _ => cel [.string c] 9) (fun w hS => of_calls _ w) (fun bc hbc => ?_))
            | (refine JE.isF 35 ?_; first | (refine JE.isArgT 34 ?_; refine JE.call rfl rfl (by repeat (first | exact NfL.nil rfl | apply NfL.cons (by exact rfl) (by conv => lhs; whnf))) rfl ?_; refine CallG.ret (fun w hS => h5c bc w (hS.get .head) (hS.owns (by repeat (first | exact Seg.head | exact Seg.all | exact Seg.one | apply Seg.tail | apply Seg.cons)))) ?_) | (refine JE.call rfl rfl (by repeat (first | exact NfL.nil rfl | apply NfL.cons (by exact rfl) (by conv => lhs; whnf))) rfl ?_; refine CallG.ret (fun w hS => h9c w (hS.owns (by repeat (first | exact Seg.head | exact Seg.all | exact Seg.one | apply Seg.tail | apply Seg.cons)))) ?_))
            | (refine JE.isF 48 ?_; refine JE.call rfl rfl (by repeat (first | exact NfL.nil rfl | apply NfL.cons (by exact rfl) (by conv => lhs; whnf))) rfl ?_; refine CallG.ret (fun w hS => hcount w (hback w (hS.sub (by repeat (first | exact List.Sublist.refl _ | exact List.nil_sublist _ | refine List.Sublist.append_left ?_ _ | exact List.sublist_append_left _ _ | apply List.Sublist.cons_cons | apply List.Sublist.cons | apply List.sublist_append_of_sublist_right)))).own (hback w (hS.sub (by repeat (first | exact List.Sublist.refl _ | exact List.nil_sublist _ | refine List.Sublist.append_left ?_ _ | exact List.sublist_append_left _ _ | apply List.Sublist.cons_cons | apply List.Sublist.cons | apply List.sublist_append_of_sublist_right)))).nodup) ?_))
          all_goals first
            | (exfalso; omega)
            | contradiction
            | (refine fnQ_tmp (.inl rfl) rfl (by conv => lhs; whnf) fun w'' hS' => ⟨_, _, rfl, ⟨by rw [hcode], ?_⟩, holds ▸ hback w'' (hS'.sub (by repeat (first | exact List.Sublist.refl _ | exact List.nil_sublist _ | refine List.Sublist.append_left ?_ _ | exact List.sublist_append_left _ _ | apply List.Sublist.cons_cons | apply List.Sublist.cons | apply List.sublist_append_of_sublist_right)))⟩
               rw [pledge26, if_neg (by rw [hcode]; decide)]; exact hL0)
        · rw [if_neg hfull] at hcode
          repeat' (first
            | (refine JE.kBox ?_; refine JE.box rfl (by conv => lhs; whnf) rfl (fun b3 hb3 => ?_))
            | refine JE.pure rfl rfl (by conv => lhs; whnf) rfl ?_
            | refine JE.skip rfl rfl ?_
            | (refine JE.kBin ?_; (refine JE.int rfl rfl rfl rfl rfl rfl ?_; with_reducible refine JE.waysD (fun _ => ?_) (fun _ => ?_)))
            | (refine JE.kField ?_; refine JE.fieldAddr rfl rfl rfl ?_)
            | (refine JE.kNil ?_; refine JE.nilCheck rfl rfl rfl ?_)
            | (refine JE.kLoad ?_; refine JE.load1 rfl rfl (by repeat (first | exact In.head | refine In.tail ?_ | refine In.app ?_)) rfl (by conv => lhs; whnf) (fun _ => by first | trivial | exact ⟨.inr ‹_›, trivial⟩ | exact ⟨.inl (by kernel_rfl), trivial⟩ | exact ⟨.inr ‹_›, .inr ‹_›, trivial⟩ | exact ⟨.inr ‹_›, .inl (by kernel_rfl), trivial⟩ | exact ⟨.inl (by kernel_rfl), .inr ‹_›, trivial⟩ | exact ⟨.inl (by kernel_rfl), .inl (by kernel_rfl), trivial⟩) rfl ?_)
            | (refine JE.kLoad ?_; refine JE.loadAll rfl rfl (by repeat (first | exact In.head | refine In.tail ?_ | refine In.app ?_)) (by rfl) (fun _ => by first | trivial | exact ⟨.inr ‹_›, trivial⟩ | exact ⟨.inl (by kernel_rfl), trivial⟩ | exact ⟨.inr ‹_›, .inr ‹_›, trivial⟩ | exact ⟨.inr ‹_›, .inl (by kernel_rfl), trivial⟩ | exact ⟨.inl (by kernel_rfl), .inr ‹_›, trivial⟩ | exact ⟨.inl (by kernel_rfl), .inl (by kernel_rfl), trivial⟩) rfl ?_)
            | (refine JE.kBuiltin ?_; refine JE.lenSl rfl rfl rfl ?_)
            | (refine JE.kBuildSlice ?_; refine JE.buildSlice rfl rfl rfl (by conv => lhs; whnf) (by rfl) (by rfl) (by repeat (first | exact NfL.nil rfl | apply NfL.cons (by exact rfl) (by conv => lhs; whnf))) rfl (fun _ _ => ?_))
            | with_reducible refine JE.sN ?_
            | with_reducible refine JE.dN ?_
            | with_reducible refine J.seq ?_
            | with_reducible refine J.region ?_
            | refine J.condT rfl ?_
            | refine J.condF rfl ?_
            | with_reducible refine J.skip ?_
            | with_reducible refine J.block ?_
            | with_reducible refine J.ret ?_
            | with_reducible refine JX.thenN ?_
            | with_reducible refine JX.thenR ?_
            | with_reducible refine JX.blkN ?_
            | with_reducible refine JX.blkR ?_
            | (refine J.isR 1 ?_; refine J.draw [(0, true), (1, true), (2, true), (3, true), (4, true), (5, true), (6, true), (7, true)] [] mixed (by kernel_rfl) (fun _ h => h.drew) ?_)
            | (refine J.isR 4 ?_; refine J.draw [(0, true), (1, true), (2, true), (3, true), (4, true), (5, true), (6, true), (7, true), (8, true), (9, true), (10, true), (11, true), (12, true)] [] mixed (by kernel_rfl) (fun _ h => h.drew) ?_)
            | (refine JE.kLookup ?_; refine JE.lookupV (encK := Value.string) (encV := encSV) (k := t) rfl rfl rfl (.tail (.tail .head)) hM hlk (fun _ => by first | trivial | exact ⟨.inr ‹_›, trivial⟩ | exact ⟨.inl (by kernel_rfl), trivial⟩ | exact ⟨.inr ‹_›, .inr ‹_›, trivial⟩ | exact ⟨.inr ‹_›, .inl (by kernel_rfl), trivial⟩ | exact ⟨.inl (by kernel_rfl), .inr ‹_›, trivial⟩ | exact ⟨.inl (by kernel_rfl), .inl (by kernel_rfl), trivial⟩) rfl ?_)
            | (refine JE.isF 46 ?_; refine JE.call rfl rfl (by repeat (first | exact NfL.nil rfl | apply NfL.cons (by exact rfl) (by conv => lhs; whnf))) rfl ?_; refine CallG.ret (fun w hS => hright w) ?_)
            | (refine JE.isF 33 ?_; refine JE.call rfl rfl (by repeat (first | exact NfL.nil rfl | apply NfL.cons (by exact rfl) (by conv => lhs; whnf))) rfl ?_; refine CallG.retNew (v := fun B => .func (.func 51) #[] #[.pointer (some ⟨B, 0, none⟩)]) (o := fun _ => cel [.string c] 9) (fun w hS => of_calls _ w) (fun bc hbc => ?_))
            | (refine JE.isF 35 ?_; first | (refine JE.isArgT 34 ?_; refine JE.call rfl rfl (by repeat (first | exact NfL.nil rfl | apply NfL.cons (by exact rfl) (by conv => lhs; whnf))) rfl ?_; refine CallG.ret (fun w hS => h5c bc w (hS.get .head) (hS.owns (by repeat (first | exact Seg.head | exact Seg.all | exact Seg.one | apply Seg.tail | apply Seg.cons)))) ?_) | (refine JE.call rfl rfl (by repeat (first | exact NfL.nil rfl | apply NfL.cons (by exact rfl) (by conv => lhs; whnf))) rfl ?_; refine CallG.ret (fun w hS => h9c w (hS.owns (by repeat (first | exact Seg.head | exact Seg.all | exact Seg.one | apply Seg.tail | apply Seg.cons)))) ?_))
            | (refine JE.isF 48 ?_; refine JE.call rfl rfl (by repeat (first | exact NfL.nil rfl | apply NfL.cons (by exact rfl) (by conv => lhs; whnf))) rfl ?_; refine CallG.ret (fun w hS => hcount w (hback w (hS.sub (by repeat (first | exact List.Sublist.refl _ | exact List.nil_sublist _ | refine List.Sublist.append_left ?_ _ | exact List.sublist_append_left _ _ | apply List.Sublist.cons_cons | apply List.Sublist.cons | apply List.sublist_append_of_sublist_right)))).own (hback w (hS.sub (by repeat (first | exact List.Sublist.refl _ | exact List.nil_sublist _ | refine List.Sublist.append_left ?_ _ | exact List.sublist_append_left _ _ | apply List.Sublist.cons_cons | apply List.Sublist.cons | apply List.sublist_append_of_sublist_right)))).nodup) ?_)
            | (refine J.isR 12 ?_; refine J.draw [(0, true), (1, true), (2, true), (3, true), (4, true), (5, true), (6, true), (7, true), (8, false), (9, false), (10, false)] [(10, bm)] mixed (by kernel_rfl) (fun _ h => h.drew) ?_)
            | (refine JE.isAppT 53 ?_; refine JE.appendOwn (ys := [(⟨t, d, c, day, am, true⟩ : Pledge)]) rfl rfl rfl (show Own 6 encPledge 37 _ _ _ from ho) (by repeat (first | exact Seg.head | exact Seg.all | exact Seg.one | apply Seg.tail | apply Seg.cons)) (fun _ => rfl) (fun _ => rfl) (fun w hS => sl_one encP_len (⟨t, d, c, day, am, true⟩ : Pledge) (hS.get (by repeat (first | exact In.head | refine In.tail ?_ | refine In.app ?_)))) (by (try simp only [List.length_cons, List.length_nil, List.length_append, List.length_drop, List.length_take, maxLen] at *); omega) (by (try simp only [List.length_cons, List.length_nil, List.length_append, List.length_drop, List.length_take, maxLen] at *); omega) (fun w1 w2 l2 hst k hk hlt => hst.block k hlt (by simp)) rfl (fun v2 l2 ho2 => ?_); obtain ⟨B2, cap2, cur2, rfl, ho3, rfl⟩ := own_some ho2 (by simp))
            | (refine JE.kUpdate ?_; refine JE.mapUpdate (encK := Value.string) (encV := encSV) (k := t) (v := (B2, (rowOf m t ++ [(⟨t, d, c, day, am, true⟩ : Pledge)]).length, cap2)) rfl rfl rfl rfl (by repeat (first | exact In.head | refine In.tail ?_ | refine In.app ?_)) hM (by simp [drawn]) rfl (fun mo' hM' => ⟨_, (by repeat (first | exact Turn.head | apply Turn.tail | apply Turn.app)), ?_⟩)))
          all_goals first
            | (exfalso; omega)
            | contradiction
            | (refine fnQ_tmp (.inl rfl) rfl (by conv => lhs; whnf) fun w'' hS' => ?_
               obtain ⟨R', hR', hkv, hpm⟩ := hput B2 cap2 cur2 ho3 hrowp
               refine ⟨_, LienO p bm mo' R', rfl, ⟨by rw [hcode], bm, mo', R', rfl, hkv ▸ hM', ?_, hD.pledge _⟩, holds ▸ St.perm (l := (B2, .cells cur2 37 (0, 0)) :: (p, cel [.map (some bm)] 60) :: (bm, mo') :: rest) (hS'.sub (by repeat (first | exact List.Sublist.refl _ | exact List.nil_sublist _ | refine List.Sublist.append_left ?_ _ | exact List.sublist_append_left _ _ | apply List.Sublist.cons_cons | apply List.Sublist.cons | apply List.sublist_append_of_sublist_right))) ?_⟩
               · rw [pledge26, if_pos hcode]; exact hR'
               · refine List.Perm.trans ?_ (((hpm.symm).cons _).cons _)
                 exact (List.Perm.swap _ _ _).trans ((List.Perm.swap _ _ _).cons _))
    | cons y0 row0 =>
      obtain ⟨B, cap, cur, rfl, hoc, rfl⟩ := own_some ho (by rw [hrow]; simp)
      have hrow0 : (rowOf m t)[0]? = some y0 := by rw [hrow]; rfl
      have hlen0 : 0 < (rowOf m t).length := by rw [hrow]; simp
      have hr0 := fun (w' : World) (hl : ∀ z ∈ [(B, Obj.cells cur 37 (0, 0))], w'.heap[z.1]? = some z.2) => hoc.rows encP_len (hl _ List.mem_cons_self)
      have hBlt : B < w.heap.size := (Array.getElem?_eq_some_iff.1 (hown (B, .cells cur 37 (0, 0)) ((hperm.cons _).cons _ |>.mem_iff.2 (by simp)))).1
      have hBp : B ≠ p := by
        have h1 := ((((hperm.cons (bm, mo)).cons (p, cel [.map (some bm)] 60)).map (·.1)).nodup_iff).1 hnd
        simp only [List.map_cons, List.cons_append, List.nodup_cons, List.mem_cons, not_or] at h1
        exact fun e => h1.1.2.1 e.symm
      by_cases hd8 : y0.debtor = d
      · rw [if_neg (by rw [hrow]; simp [headOf, hd8])] at hcode
        cases h5 : (rowOf m t).any (fun y => decide (y.creditor = c)) with
        | true =>
          rw [h5] at h5c
          rw [if_pos h5] at hcode
          repeat' (first
            | (refine JE.kBox ?_; refine JE.box rfl (by conv => lhs; whnf) rfl (fun b3 hb3 => have hBb : B ≠ b3 := (by omega); ?_))
            | refine JE.pure rfl rfl (by conv => lhs; whnf) rfl ?_
            | refine JE.skip rfl rfl ?_
            | (refine JE.kBin ?_; (refine JE.int rfl rfl rfl rfl rfl rfl ?_; with_reducible refine JE.waysD (fun _ => ?_) (fun _ => ?_)))
            | (refine JE.kBin ?_; (refine JE.neStr rfl rfl rfl rfl ?_; with_reducible refine JE.waysD (fun _ => ?_) (fun _ => ?_)))
            | (refine JE.kField ?_; refine JE.fieldAddr rfl rfl rfl ?_)
            | (refine JE.kNil ?_; refine JE.nilCheck rfl rfl rfl ?_)
            | (refine JE.kLoad ?_; refine JE.load1 rfl rfl (by repeat (first | exact In.head | refine In.tail ?_ | refine In.app ?_)) rfl (by conv => lhs; whnf) (fun _ => by first | trivial | exact ⟨.inr ‹_›, trivial⟩ | exact ⟨.inl (by kernel_rfl), trivial⟩ | exact ⟨.inr ‹_›, .inr ‹_›, trivial⟩ | exact ⟨.inr ‹_›, .inl (by kernel_rfl), trivial⟩ | exact ⟨.inl (by kernel_rfl), .inr ‹_›, trivial⟩ | exact ⟨.inl (by kernel_rfl), .inl (by kernel_rfl), trivial⟩) rfl ?_)
            | (refine JE.kLoad ?_; refine JE.loadAll rfl rfl (by repeat (first | exact In.head | refine In.tail ?_ | refine In.app ?_)) (by rfl) (fun _ => by first | trivial | exact ⟨.inr ‹_›, trivial⟩ | exact ⟨.inl (by kernel_rfl), trivial⟩ | exact ⟨.inr ‹_›, .inr ‹_›, trivial⟩ | exact ⟨.inr ‹_›, .inl (by kernel_rfl), trivial⟩ | exact ⟨.inl (by kernel_rfl), .inr ‹_›, trivial⟩ | exact ⟨.inl (by kernel_rfl), .inl (by kernel_rfl), trivial⟩) rfl ?_)
            | (refine JE.kBuiltin ?_; refine JE.lenSl rfl rfl rfl ?_)
            | with_reducible refine JE.sN ?_
            | with_reducible refine JE.dN ?_
            | with_reducible refine J.seq ?_
            | with_reducible refine J.region ?_
            | refine J.condT rfl ?_
            | refine J.condF rfl ?_
            | with_reducible refine J.block ?_
            | with_reducible refine J.ret ?_
            | with_reducible refine JX.thenR ?_
            | with_reducible refine JX.blkR ?_
            | (refine J.isR 1 ?_; refine J.draw [(0, true), (1, true), (2, true), (3, true), (4, true), (5, true), (6, true), (7, true)] [] mixed (by kernel_rfl) (fun _ h => h.drew) ?_)
            | (refine J.isR 4 ?_; refine J.draw [(0, true), (1, true), (2, true), (3, true), (4, true), (5, true), (6, true), (7, true), (8, true), (9, true), (10, true), (11, true), (12, true)] [] mixed (by kernel_rfl) (fun _ h => h.drew) ?_)
            | (refine JE.kLookup ?_; refine JE.lookupV (encK := Value.string) (encV := encSV) (k := t) rfl rfl rfl (.tail (.tail .head)) hM hlk (fun _ => by first | trivial | exact ⟨.inr ‹_›, trivial⟩ | exact ⟨.inl (by kernel_rfl), trivial⟩ | exact ⟨.inr ‹_›, .inr ‹_›, trivial⟩ | exact ⟨.inr ‹_›, .inl (by kernel_rfl), trivial⟩ | exact ⟨.inl (by kernel_rfl), .inr ‹_›, trivial⟩ | exact ⟨.inl (by kernel_rfl), .inl (by kernel_rfl), trivial⟩) rfl ?_)
            | (refine JE.isF 46 ?_; refine JE.call rfl rfl (by repeat (first | exact NfL.nil rfl | apply NfL.cons (by exact rfl) (by conv => lhs; whnf))) rfl ?_; refine CallG.ret (fun w hS => hright w) ?_)
            | (refine JE.isF 33 ?_; refine JE.call rfl rfl (by repeat (first | exact NfL.nil rfl | apply NfL.cons (by exact rfl) (by conv => lhs; whnf))) rfl ?_; refine CallG.retNew (v := fun B => .func (.func 51) #[] #[.pointer (some ⟨B, 0, none⟩)]) (o := fun _ => cel [.string c] 9) (fun w hS => of_calls _ w) (fun bc hbc => ?_))
            | (refine JE.isF 35 ?_; first | (refine JE.isArgT 34 ?_; refine JE.call rfl rfl (by repeat (first | exact NfL.nil rfl | apply NfL.cons (by exact rfl) (by conv => lhs; whnf))) rfl ?_; refine CallG.ret (fun w hS => h5c bc w (hS.get .head) (hS.owns (by repeat (first | exact Seg.head | exact Seg.all | exact Seg.one | apply Seg.tail | apply Seg.cons)))) ?_) | (refine JE.call rfl rfl (by repeat (first | exact NfL.nil rfl | apply NfL.cons (by exact rfl) (by conv => lhs; whnf))) rfl ?_; refine CallG.ret (fun w hS => h9c w (hS.owns (by repeat (first | exact Seg.head | exact Seg.all | exact Seg.one | apply Seg.tail | apply Seg.cons)))) ?_))
            | (refine JE.kIndexAddr ?_; refine JE.indexAddr (j := 0) rfl rfl rfl (Int.le_refl _) (by omega) rfl ?_)
            | (refine JE.kLoad ?_; refine JE.loadRowCS (j := 0) rfl rfl (fun w' hS => hr0 w' (hS.owns (by repeat (first | exact Seg.head | exact Seg.all | exact Seg.one | apply Seg.tail | apply Seg.cons)))) hrow0 rfl rfl (fun h => by first | exact trivial | cases h) rfl ?_))
          all_goals first
            | (exfalso; omega)
            | contradiction
            | (refine fnQ_tmp (.inl rfl) rfl (by conv => lhs; whnf) fun w'' hS' => ⟨_, _, rfl, ⟨by rw [hcode], ?_⟩, holds ▸ hback w'' (hS'.sub (by repeat (first | exact List.Sublist.refl _ | exact List.nil_sublist _ | refine List.Sublist.append_left ?_ _ | exact List.sublist_append_left _ _ | apply List.Sublist.cons_cons | apply List.Sublist.cons | apply List.sublist_append_of_sublist_right)))⟩
               rw [pledge26, if_neg (by rw [hcode]; decide)]; exact hL0)
        | false =>
          rw [h5] at h5c
          rw [if_neg (by rw [h5]; decide)] at hcode
          cases hh with
          | false =>
            rw [if_neg (by simp)] at hcode
            by_cases hfull : 4096 ≤ m.length
            · rw [if_pos hfull] at hcode
              repeat' (first
                | (refine JE.kBox ?_; refine JE.box rfl (by conv => lhs; whnf) rfl (fun b3 hb3 => have hBb : B ≠ b3 := (by omega); ?_))
                | refine JE.pure rfl rfl (by conv => lhs; whnf) rfl ?_
                | refine JE.skip rfl rfl ?_
                | (refine JE.kBin ?_; (refine JE.int rfl rfl rfl rfl rfl rfl ?_; with_reducible refine JE.waysD (fun _ => ?_) (fun _ => ?_)))
                | (refine JE.kBin ?_; (refine JE.neStr rfl rfl rfl rfl ?_; with_reducible refine JE.waysD (fun _ => ?_) (fun _ => ?_)))
                | (refine JE.kField ?_; refine JE.fieldAddr rfl rfl rfl ?_)
                | (refine JE.kNil ?_; refine JE.nilCheck rfl rfl rfl ?_)
                | (refine JE.kLoad ?_; refine JE.load1 rfl rfl (by repeat (first | exact In.head | refine In.tail ?_ | refine In.app ?_)) rfl (by conv => lhs; whnf) (fun _ => by first | trivial | exact ⟨.inr ‹_›, trivial⟩ | exact ⟨.inl (by kernel_rfl), trivial⟩ | exact ⟨.inr ‹_›, .inr ‹_›, trivial⟩ | exact ⟨.inr ‹_›, .inl (by kernel_rfl), trivial⟩ | exact ⟨.inl (by kernel_rfl), .inr ‹_›, trivial⟩ | exact ⟨.inl (by kernel_rfl), .inl (by kernel_rfl), trivial⟩) rfl ?_)
                | (refine JE.kLoad ?_; refine JE.loadAll rfl rfl (by repeat (first | exact In.head | refine In.tail ?_ | refine In.app ?_)) (by rfl) (fun _ => by first | trivial | exact ⟨.inr ‹_›, trivial⟩ | exact ⟨.inl (by kernel_rfl), trivial⟩ | exact ⟨.inr ‹_›, .inr ‹_›, trivial⟩ | exact ⟨.inr ‹_›, .inl (by kernel_rfl), trivial⟩ | exact ⟨.inl (by kernel_rfl), .inr ‹_›, trivial⟩ | exact ⟨.inl (by kernel_rfl), .inl (by kernel_rfl), trivial⟩) rfl ?_)
                | (refine JE.kBuiltin ?_; refine JE.lenSl rfl rfl rfl ?_)
                | with_reducible refine JE.sN ?_
                | with_reducible refine JE.dN ?_
                | with_reducible refine J.seq ?_
                | with_reducible refine J.region ?_
                | refine J.condT rfl ?_
                | refine J.condF rfl ?_
                | with_reducible refine J.skip ?_
                | with_reducible refine J.block ?_
                | with_reducible refine J.ret ?_
                | with_reducible refine JX.thenN ?_
                | with_reducible refine JX.thenR ?_
                | with_reducible refine JX.blkN ?_
                | with_reducible refine JX.blkR ?_
                | (refine J.isR 1 ?_; refine J.draw [(0, true), (1, true), (2, true), (3, true), (4, true), (5, true), (6, true), (7, true)] [] mixed (by kernel_rfl) (fun _ h => h.drew) ?_)
                | (refine J.isR 4 ?_; refine J.draw [(0, true), (1, true), (2, true), (3, true), (4, true), (5, true), (6, true), (7, true), (8, true), (9, true), (10, true), (11, true), (12, true)] [] mixed (by kernel_rfl) (fun _ h => h.drew) ?_)
                | (refine JE.kLookup ?_; refine JE.lookupV (encK := Value.string) (encV := encSV) (k := t) rfl rfl rfl (.tail (.tail .head)) hM hlk (fun _ => by first | trivial | exact ⟨.inr ‹_›, trivial⟩ | exact ⟨.inl (by kernel_rfl), trivial⟩ | exact ⟨.inr ‹_›, .inr ‹_›, trivial⟩ | exact ⟨.inr ‹_›, .inl (by kernel_rfl), trivial⟩ | exact ⟨.inl (by kernel_rfl), .inr ‹_›, trivial⟩ | exact ⟨.inl (by kernel_rfl), .inl (by kernel_rfl), trivial⟩) rfl ?_)
                | (refine JE.isF 46 ?_; refine JE.call rfl rfl (by repeat (first | exact NfL.nil rfl | apply NfL.cons (by exact rfl) (by conv => lhs; whnf))) rfl ?_; refine CallG.ret (fun w hS => hright w) ?_)
                | (refine JE.isF 33 ?_; refine JE.call rfl rfl (by repeat (first | exact NfL.nil rfl | apply NfL.cons (by exact rfl) (by conv => lhs; whnf))) rfl ?_; refine CallG.retNew (v := fun B => .func (.func 51) #[] #[.pointer (some ⟨B, 0, none⟩)]) (o := fun _ => cel [.string c] 9) (fun w hS => of_calls _ w) (fun bc hbc => ?_))
                | (refine JE.isF 35 ?_; first | (refine JE.isArgT 34 ?_; refine JE.call rfl rfl (by repeat (first | exact NfL.nil rfl | apply NfL.cons (by exact rfl) (by conv => lhs; whnf))) rfl ?_; refine CallG.ret (fun w hS => h5c bc w (hS.get .head) (hS.owns (by repeat (first | exact Seg.head | exact Seg.all | exact Seg.one | apply Seg.tail | apply Seg.cons)))) ?_) | (refine JE.call rfl rfl (by repeat (first | exact NfL.nil rfl | apply NfL.cons (by exact rfl) (by conv => lhs; whnf))) rfl ?_; refine CallG.ret (fun w hS => h9c w (hS.owns (by repeat (first | exact Seg.head | exact Seg.all | exact Seg.one | apply Seg.tail | apply Seg.cons)))) ?_))
                | (refine JE.isF 48 ?_; refine JE.call rfl rfl (by repeat (first | exact NfL.nil rfl | apply NfL.cons (by exact rfl) (by conv => lhs; whnf))) rfl ?_; refine CallG.ret (fun w hS => hcount w (hback w (hS.sub (by repeat (first | exact List.Sublist.refl _ | exact List.nil_sublist _ | refine List.Sublist.append_left ?_ _ | exact List.sublist_append_left _ _ | apply List.Sublist.cons_cons | apply List.Sublist.cons | apply List.sublist_append_of_sublist_right)))).own (hback w (hS.sub (by repeat (first | exact List.Sublist.refl _ | exact List.nil_sublist _ | refine List.Sublist.append_left ?_ _ | exact List.sublist_append_left _ _ | apply List.Sublist.cons_cons | apply List.Sublist.cons | apply List.sublist_append_of_sublist_right)))).nodup) ?_)
                | (refine JE.kIndexAddr ?_; refine JE.indexAddr (j := 0) rfl rfl rfl (Int.le_refl _) (by omega) rfl ?_)
                | (refine JE.kLoad ?_; refine JE.loadRowCS (j := 0) rfl rfl (fun w' hS => hr0 w' (hS.owns (by repeat (first | exact Seg.head | exact Seg.all | exact Seg.one | apply Seg.tail | apply Seg.cons)))) hrow0 rfl rfl (fun h => by first | exact trivial | cases h) rfl ?_))
              all_goals first
                | (exfalso; omega)
                | contradiction
                | (refine fnQ_tmp (.inl rfl) rfl (by conv => lhs; whnf) fun w'' hS' => ⟨_, _, rfl, ⟨by rw [hcode], ?_⟩, holds ▸ hback w'' (hS'.sub (by repeat (first | exact List.Sublist.refl _ | exact List.nil_sublist _ | refine List.Sublist.append_left ?_ _ | exact List.sublist_append_left _ _ | apply List.Sublist.cons_cons | apply List.Sublist.cons | apply List.sublist_append_of_sublist_right)))⟩
                   rw [pledge26, if_neg (by rw [hcode]; decide)]; exact hL0)
            · rw [if_neg hfull] at hcode
              repeat' (first
                | (refine JE.kBox ?_; refine JE.box rfl (by conv => lhs; whnf) rfl (fun b3 hb3 => have hBb : B ≠ b3 := (by omega); ?_))
                | refine JE.pure rfl rfl (by conv => lhs; whnf) rfl ?_
                | refine JE.skip rfl rfl ?_
                | (refine JE.kBin ?_; (refine JE.int rfl rfl rfl rfl rfl rfl ?_; with_reducible refine JE.waysD (fun _ => ?_) (fun _ => ?_)))
                | (refine JE.kBin ?_; (refine JE.neStr rfl rfl rfl rfl ?_; with_reducible refine JE.waysD (fun _ => ?_) (fun _ => ?_)))
                | (refine JE.kField ?_; refine JE.fieldAddr rfl rfl rfl ?_)
                | (refine JE.kNil ?_; refine JE.nilCheck rfl rfl rfl ?_)
                | (refine JE.kLoad ?_; refine JE.load1 rfl rfl (by repeat (first | exact In.head | refine In.tail ?_ | refine In.app ?_)) rfl (by conv => lhs; whnf) (fun _ => by first | trivial | exact ⟨.inr ‹_›, trivial⟩ | exact ⟨.inl (by kernel_rfl), trivial⟩ | exact ⟨.inr ‹_›, .inr ‹_›, trivial⟩ | exact ⟨.inr ‹_›, .inl (by kernel_rfl), trivial⟩ | exact ⟨.inl (by kernel_rfl), .inr ‹_›, trivial⟩ | exact ⟨.inl (by kernel_rfl), .inl (by kernel_rfl), trivial⟩) rfl ?_)
                | (refine JE.kLoad ?_; refine JE.loadAll rfl rfl (by repeat (first | exact In.head | refine In.tail ?_ | refine In.app ?_)) (by rfl) (fun _ => by first | trivial | exact ⟨.inr ‹_›, trivial⟩ | exact ⟨.inl (by kernel_rfl), trivial⟩ | exact ⟨.inr ‹_›, .inr ‹_›, trivial⟩ | exact ⟨.inr ‹_›, .inl (by kernel_rfl), trivial⟩ | exact ⟨.inl (by kernel_rfl), .inr ‹_›, trivial⟩ | exact ⟨.inl (by kernel_rfl), .inl (by kernel_rfl), trivial⟩) rfl ?_)
                | (refine JE.kBuiltin ?_; refine JE.lenSl rfl rfl rfl ?_)
                | (refine JE.kBuildSlice ?_; refine JE.buildSlice rfl rfl rfl (by conv => lhs; whnf) (by rfl) (by rfl) (by repeat (first | exact NfL.nil rfl | apply NfL.cons (by exact rfl) (by conv => lhs; whnf))) rfl (fun _ _ => ?_))
                | with_reducible refine JE.sN ?_
                | with_reducible refine JE.dN ?_
                | with_reducible refine J.seq ?_
                | with_reducible refine J.region ?_
                | refine J.condT rfl ?_
                | refine J.condF rfl ?_
                | with_reducible refine J.skip ?_
                | with_reducible refine J.block ?_
                | with_reducible refine J.ret ?_
                | with_reducible refine JX.thenN ?_
                | with_reducible refine JX.thenR ?_
                | with_reducible refine JX.blkN ?_
                | with_reducible refine JX.blkR ?_
                | (refine J.isR 1 ?_; refine J.draw [(0, true), (1, true), (2, true), (3, true), (4, true), (5, true), (6, true), (7, true)] [] mixed (by kernel_rfl) (fun _ h => h.drew) ?_)
                | (refine J.isR 4 ?_; refine J.draw [(0, true), (1, true), (2, true), (3, true), (4, true), (5, true), (6, true), (7, true), (8, true), (9, true), (10, true), (11, true), (12, true)] [] mixed (by kernel_rfl) (fun _ h => h.drew) ?_)
                | (refine JE.kLookup ?_; refine JE.lookupV (encK := Value.string) (encV := encSV) (k := t) rfl rfl rfl (.tail (.tail .head)) hM hlk (fun _ => by first | trivial | exact ⟨.inr ‹_›, trivial⟩ | exact ⟨.inl (by kernel_rfl), trivial⟩ | exact ⟨.inr ‹_›, .inr ‹_›, trivial⟩ | exact ⟨.inr ‹_›, .inl (by kernel_rfl), trivial⟩ | exact ⟨.inl (by kernel_rfl), .inr ‹_›, trivial⟩ | exact ⟨.inl (by kernel_rfl), .inl (by kernel_rfl), trivial⟩) rfl ?_)
                | (refine JE.isF 46 ?_; refine JE.call rfl rfl (by repeat (first | exact NfL.nil rfl | apply NfL.cons (by exact rfl) (by conv => lhs; whnf))) rfl ?_; refine CallG.ret (fun w hS => hright w) ?_)
                | (refine JE.isF 33 ?_; refine JE.call rfl rfl (by repeat (first | exact NfL.nil rfl | apply NfL.cons (by exact rfl) (by conv => lhs; whnf))) rfl ?_; refine CallG.retNew (v := fun B => .func (.func 51) #[] #[.pointer (some ⟨B, 0, none⟩)]) (o := fun _ => cel [.string c] 9) (fun w hS => of_calls _ w) (fun bc hbc => ?_))
                | (refine JE.isF 35 ?_; first | (refine JE.isArgT 34 ?_; refine JE.call rfl rfl (by repeat (first | exact NfL.nil rfl | apply NfL.cons (by exact rfl) (by conv => lhs; whnf))) rfl ?_; refine CallG.ret (fun w hS => h5c bc w (hS.get .head) (hS.owns (by repeat (first | exact Seg.head | exact Seg.all | exact Seg.one | apply Seg.tail | apply Seg.cons)))) ?_) | (refine JE.call rfl rfl (by repeat (first | exact NfL.nil rfl | apply NfL.cons (by exact rfl) (by conv => lhs; whnf))) rfl ?_; refine CallG.ret (fun w hS => h9c w (hS.owns (by repeat (first | exact Seg.head | exact Seg.all | exact Seg.one | apply Seg.tail | apply Seg.cons)))) ?_))
                | (refine JE.isF 48 ?_; refine JE.call rfl rfl (by repeat (first | exact NfL.nil rfl | apply NfL.cons (by exact rfl) (by conv => lhs; whnf))) rfl ?_; refine CallG.ret (fun w hS => hcount w (hback w (hS.sub (by repeat (first | exact List.Sublist.refl _ | exact List.nil_sublist _ | refine List.Sublist.append_left ?_ _ | exact List.sublist_append_left _ _ | apply List.Sublist.cons_cons | apply List.Sublist.cons | apply List.sublist_append_of_sublist_right)))).own (hback w (hS.sub (by repeat (first | exact List.Sublist.refl _ | exact List.nil_sublist _ | refine List.Sublist.append_left ?_ _ | exact List.sublist_append_left _ _ | apply List.Sublist.cons_cons | apply List.Sublist.cons | apply List.sublist_append_of_sublist_right)))).nodup) ?_)
                | (refine JE.kIndexAddr ?_; refine JE.indexAddr (j := 0) rfl rfl rfl (Int.le_refl _) (by omega) rfl ?_)
                | (refine JE.kLoad ?_; refine JE.loadRowCS (j := 0) rfl rfl (fun w' hS => hr0 w' (hS.owns (by repeat (first | exact Seg.head | exact Seg.all | exact Seg.one | apply Seg.tail | apply Seg.cons)))) hrow0 rfl rfl (fun h => by first | exact trivial | cases h) rfl ?_)
                | (refine J.isR 12 ?_; refine J.draw [(0, true), (1, true), (2, true), (3, true), (4, true), (5, true), (6, true), (7, true), (8, false), (9, false), (10, false)] [(9, B), (10, bm)] mixed (by kernel_rfl) (fun _ h => h.drew) ?_)
                | (refine JE.isAppT 53 ?_; refine JE.appendOwn (ys := [(⟨t, d, c, day, am, false⟩ : Pledge)]) rfl rfl rfl (show Own 6 encPledge 37 _ _ _ from ho) (by repeat (first | exact Seg.head | exact Seg.all | exact Seg.one | apply Seg.tail | apply Seg.cons)) (fun _ => rfl) (fun _ => rfl) (fun w hS => sl_one encP_len (⟨t, d, c, day, am, false⟩ : Pledge) (hS.get (by repeat (first | exact In.head | refine In.tail ?_ | refine In.app ?_)))) (by (try simp only [List.length_cons, List.length_nil, List.length_append, List.length_drop, List.length_take, maxLen] at *); omega) (by (try simp only [List.length_cons, List.length_nil, List.length_append, List.length_drop, List.length_take, maxLen] at *); omega) (fun w1 w2 l2 hst k hk hlt => hst.block k hlt (by simpa using hk)) rfl (fun v2 l2 ho2 => ?_); obtain ⟨B2, cap2, cur2, rfl, ho3, rfl⟩ := own_some ho2 (by simp))
                | (refine JE.kUpdate ?_; refine JE.mapUpdate (encK := Value.string) (encV := encSV) (k := t) (v := (B2, (rowOf m t ++ [(⟨t, d, c, day, am, false⟩ : Pledge)]).length, cap2)) rfl rfl rfl rfl (by repeat (first | exact In.head | refine In.tail ?_ | refine In.app ?_)) hM (by simp [drawn]) rfl (fun mo' hM' => ⟨_, (by repeat (first | exact Turn.head | apply Turn.tail | apply Turn.app)), ?_⟩)))
              all_goals first
                | (exfalso; omega)
                | contradiction
                | (refine fnQ_tmp (.inl rfl) rfl (by conv => lhs; whnf) fun w'' hS' => ?_
                   obtain ⟨R', hR', hkv, hpm⟩ := hput B2 cap2 cur2 ho3 hrowp
                   refine ⟨_, LienO p bm mo' R', rfl, ⟨by rw [hcode], bm, mo', R', rfl, hkv ▸ hM', ?_, hD.pledge _⟩, holds ▸ St.perm (l := (B2, .cells cur2 37 (0, 0)) :: (p, cel [.map (some bm)] 60) :: (bm, mo') :: rest) (hS'.sub (by repeat (first | exact List.Sublist.refl _ | exact List.nil_sublist _ | refine List.Sublist.append_left ?_ _ | exact List.sublist_append_left _ _ | apply List.Sublist.cons_cons | apply List.Sublist.cons | apply List.sublist_append_of_sublist_right))) ?_⟩
                   · rw [pledge26, if_pos hcode]; exact hR'
                   · refine List.Perm.trans ?_ (((hpm.symm).cons _).cons _)
                     exact (List.Perm.swap _ _ _).trans ((List.Perm.swap _ _ _).cons _))
          | true =>
            cases h9 : (rowOf m t).any (fun y => y.held) with
            | true =>
              rw [h9] at h9c
              rw [if_pos (by rw [h9]; rfl)] at hcode
              repeat' (first
                | (refine JE.kBox ?_; refine JE.box rfl (by conv => lhs; whnf) rfl (fun b3 hb3 => have hBb : B ≠ b3 := (by omega); ?_))
                | refine JE.pure rfl rfl (by conv => lhs; whnf) rfl ?_
                | refine JE.skip rfl rfl ?_
                | (refine JE.kBin ?_; (refine JE.int rfl rfl rfl rfl rfl rfl ?_; with_reducible refine JE.waysD (fun _ => ?_) (fun _ => ?_)))
                | (refine JE.kBin ?_; (refine JE.neStr rfl rfl rfl rfl ?_; with_reducible refine JE.waysD (fun _ => ?_) (fun _ => ?_)))
                | (refine JE.kField ?_; refine JE.fieldAddr rfl rfl rfl ?_)
                | (refine JE.kNil ?_; refine JE.nilCheck rfl rfl rfl ?_)
                | (refine JE.kLoad ?_; refine JE.load1 rfl rfl (by repeat (first | exact In.head | refine In.tail ?_ | refine In.app ?_)) rfl (by conv => lhs; whnf) (fun _ => by first | trivial | exact ⟨.inr ‹_›, trivial⟩ | exact ⟨.inl (by kernel_rfl), trivial⟩ | exact ⟨.inr ‹_›, .inr ‹_›, trivial⟩ | exact ⟨.inr ‹_›, .inl (by kernel_rfl), trivial⟩ | exact ⟨.inl (by kernel_rfl), .inr ‹_›, trivial⟩ | exact ⟨.inl (by kernel_rfl), .inl (by kernel_rfl), trivial⟩) rfl ?_)
                | (refine JE.kLoad ?_; refine JE.loadAll rfl rfl (by repeat (first | exact In.head | refine In.tail ?_ | refine In.app ?_)) (by rfl) (fun _ => by first | trivial | exact ⟨.inr ‹_›, trivial⟩ | exact ⟨.inl (by kernel_rfl), trivial⟩ | exact ⟨.inr ‹_›, .inr ‹_›, trivial⟩ | exact ⟨.inr ‹_›, .inl (by kernel_rfl), trivial⟩ | exact ⟨.inl (by kernel_rfl), .inr ‹_›, trivial⟩ | exact ⟨.inl (by kernel_rfl), .inl (by kernel_rfl), trivial⟩) rfl ?_)
                | (refine JE.kBuiltin ?_; refine JE.lenSl rfl rfl rfl ?_)
                | with_reducible refine JE.sN ?_
                | with_reducible refine JE.dN ?_
                | with_reducible refine J.seq ?_
                | with_reducible refine J.region ?_
                | refine J.condT rfl ?_
                | refine J.condF rfl ?_
                | with_reducible refine J.block ?_
                | with_reducible refine J.ret ?_
                | with_reducible refine JX.thenR ?_
                | with_reducible refine JX.blkR ?_
                | (refine J.isR 1 ?_; refine J.draw [(0, true), (1, true), (2, true), (3, true), (4, true), (5, true), (6, true), (7, true)] [] mixed (by kernel_rfl) (fun _ h => h.drew) ?_)
                | (refine J.isR 4 ?_; refine J.draw [(0, true), (1, true), (2, true), (3, true), (4, true), (5, true), (6, true), (7, true), (8, true), (9, true), (10, true), (11, true), (12, true)] [] mixed (by kernel_rfl) (fun _ h => h.drew) ?_)
                | (refine JE.kLookup ?_; refine JE.lookupV (encK := Value.string) (encV := encSV) (k := t) rfl rfl rfl (.tail (.tail .head)) hM hlk (fun _ => by first | trivial | exact ⟨.inr ‹_›, trivial⟩ | exact ⟨.inl (by kernel_rfl), trivial⟩ | exact ⟨.inr ‹_›, .inr ‹_›, trivial⟩ | exact ⟨.inr ‹_›, .inl (by kernel_rfl), trivial⟩ | exact ⟨.inl (by kernel_rfl), .inr ‹_›, trivial⟩ | exact ⟨.inl (by kernel_rfl), .inl (by kernel_rfl), trivial⟩) rfl ?_)
                | (refine JE.isF 46 ?_; refine JE.call rfl rfl (by repeat (first | exact NfL.nil rfl | apply NfL.cons (by exact rfl) (by conv => lhs; whnf))) rfl ?_; refine CallG.ret (fun w hS => hright w) ?_)
                | (refine JE.isF 33 ?_; refine JE.call rfl rfl (by repeat (first | exact NfL.nil rfl | apply NfL.cons (by exact rfl) (by conv => lhs; whnf))) rfl ?_; refine CallG.retNew (v := fun B => .func (.func 51) #[] #[.pointer (some ⟨B, 0, none⟩)]) (o := fun _ => cel [.string c] 9) (fun w hS => of_calls _ w) (fun bc hbc => ?_))
                | (refine JE.isF 35 ?_; first | (refine JE.isArgT 34 ?_; refine JE.call rfl rfl (by repeat (first | exact NfL.nil rfl | apply NfL.cons (by exact rfl) (by conv => lhs; whnf))) rfl ?_; refine CallG.ret (fun w hS => h5c bc w (hS.get .head) (hS.owns (by repeat (first | exact Seg.head | exact Seg.all | exact Seg.one | apply Seg.tail | apply Seg.cons)))) ?_) | (refine JE.call rfl rfl (by repeat (first | exact NfL.nil rfl | apply NfL.cons (by exact rfl) (by conv => lhs; whnf))) rfl ?_; refine CallG.ret (fun w hS => h9c w (hS.owns (by repeat (first | exact Seg.head | exact Seg.all | exact Seg.one | apply Seg.tail | apply Seg.cons)))) ?_))
                | (refine JE.kIndexAddr ?_; refine JE.indexAddr (j := 0) rfl rfl rfl (Int.le_refl _) (by omega) rfl ?_)
                | (refine JE.kLoad ?_; refine JE.loadRowCS (j := 0) rfl rfl (fun w' hS => hr0 w' (hS.owns (by repeat (first | exact Seg.head | exact Seg.all | exact Seg.one | apply Seg.tail | apply Seg.cons)))) hrow0 rfl rfl (fun h => by first | exact trivial | cases h) rfl ?_))
              all_goals first
                | (exfalso; omega)
                | contradiction
                | (refine fnQ_tmp (.inl rfl) rfl (by conv => lhs; whnf) fun w'' hS' => ⟨_, _, rfl, ⟨by rw [hcode], ?_⟩, holds ▸ hback w'' (hS'.sub (by repeat (first | exact List.Sublist.refl _ | exact List.nil_sublist _ | refine List.Sublist.append_left ?_ _ | exact List.sublist_append_left _ _ | apply List.Sublist.cons_cons | apply List.Sublist.cons | apply List.sublist_append_of_sublist_right)))⟩
                   rw [pledge26, if_neg (by rw [hcode]; decide)]; exact hL0)
            | false =>
              rw [h9] at h9c
              rw [if_neg (by rw [h9]; decide)] at hcode
              by_cases hfull : 4096 ≤ m.length
              · rw [if_pos hfull] at hcode
                repeat' (first
                  | (refine JE.kBox ?_; refine JE.box rfl (by conv => lhs; whnf) rfl (fun b3 hb3 => have hBb : B ≠ b3 := (by omega); ?_))
                  | refine JE.pure rfl rfl (by conv => lhs; whnf) rfl ?_
                  | refine JE.skip rfl rfl ?_
                  | (refine JE.kBin ?_; (refine JE.int rfl rfl rfl rfl rfl rfl ?_; with_reducible refine JE.waysD (fun _ => ?_) (fun _ => ?_)))
                  | (refine JE.kBin ?_; (refine JE.neStr rfl rfl rfl rfl ?_; with_reducible refine JE.waysD (fun _ => ?_) (fun _ => ?_)))
                  | (refine JE.kField ?_; refine JE.fieldAddr rfl rfl rfl ?_)
                  | (refine JE.kNil ?_; refine JE.nilCheck rfl rfl rfl ?_)
                  | (refine JE.kLoad ?_; refine JE.load1 rfl rfl (by repeat (first | exact In.head | refine In.tail ?_ | refine In.app ?_)) rfl (by conv => lhs; whnf) (fun _ => by first | trivial | exact ⟨.inr ‹_›, trivial⟩ | exact ⟨.inl (by kernel_rfl), trivial⟩ | exact ⟨.inr ‹_›, .inr ‹_›, trivial⟩ | exact ⟨.inr ‹_›, .inl (by kernel_rfl), trivial⟩ | exact ⟨.inl (by kernel_rfl), .inr ‹_›, trivial⟩ | exact ⟨.inl (by kernel_rfl), .inl (by kernel_rfl), trivial⟩) rfl ?_)
                  | (refine JE.kLoad ?_; refine JE.loadAll rfl rfl (by repeat (first | exact In.head | refine In.tail ?_ | refine In.app ?_)) (by rfl) (fun _ => by first | trivial | exact ⟨.inr ‹_›, trivial⟩ | exact ⟨.inl (by kernel_rfl), trivial⟩ | exact ⟨.inr ‹_›, .inr ‹_›, trivial⟩ | exact ⟨.inr ‹_›, .inl (by kernel_rfl), trivial⟩ | exact ⟨.inl (by kernel_rfl), .inr ‹_›, trivial⟩ | exact ⟨.inl (by kernel_rfl), .inl (by kernel_rfl), trivial⟩) rfl ?_)
                  | (refine JE.kBuiltin ?_; refine JE.lenSl rfl rfl rfl ?_)
                  | with_reducible refine JE.sN ?_
                  | with_reducible refine JE.dN ?_
                  | with_reducible refine J.seq ?_
                  | with_reducible refine J.region ?_
                  | refine J.condT rfl ?_
                  | refine J.condF rfl ?_
                  | with_reducible refine J.skip ?_
                  | with_reducible refine J.block ?_
                  | with_reducible refine J.ret ?_
                  | with_reducible refine JX.thenN ?_
                  | with_reducible refine JX.thenR ?_
                  | with_reducible refine JX.blkN ?_
                  | with_reducible refine JX.blkR ?_
                  | (refine J.isR 1 ?_; refine J.draw [(0, true), (1, true), (2, true), (3, true), (4, true), (5, true), (6, true), (7, true)] [] mixed (by kernel_rfl) (fun _ h => h.drew) ?_)
                  | (refine J.isR 4 ?_; refine J.draw [(0, true), (1, true), (2, true), (3, true), (4, true), (5, true), (6, true), (7, true), (8, true), (9, true), (10, true), (11, true), (12, true)] [] mixed (by kernel_rfl) (fun _ h => h.drew) ?_)
                  | (refine JE.kLookup ?_; refine JE.lookupV (encK := Value.string) (encV := encSV) (k := t) rfl rfl rfl (.tail (.tail .head)) hM hlk (fun _ => by first | trivial | exact ⟨.inr ‹_›, trivial⟩ | exact ⟨.inl (by kernel_rfl), trivial⟩ | exact ⟨.inr ‹_›, .inr ‹_›, trivial⟩ | exact ⟨.inr ‹_›, .inl (by kernel_rfl), trivial⟩ | exact ⟨.inl (by kernel_rfl), .inr ‹_›, trivial⟩ | exact ⟨.inl (by kernel_rfl), .inl (by kernel_rfl), trivial⟩) rfl ?_)
                  | (refine JE.isF 46 ?_; refine JE.call rfl rfl (by repeat (first | exact NfL.nil rfl | apply NfL.cons (by exact rfl) (by conv => lhs; whnf))) rfl ?_; refine CallG.ret (fun w hS => hright w) ?_)
                  | (refine JE.isF 33 ?_; refine JE.call rfl rfl (by repeat (first | exact NfL.nil rfl | apply NfL.cons (by exact rfl) (by conv => lhs; whnf))) rfl ?_; refine CallG.retNew (v := fun B => .func (.func 51) #[] #[.pointer (some ⟨B, 0, none⟩)]) (o := fun _ => cel [.string c] 9) (fun w hS => of_calls _ w) (fun bc hbc => ?_))
                  | (refine JE.isF 35 ?_; first | (refine JE.isArgT 34 ?_; refine JE.call rfl rfl (by repeat (first | exact NfL.nil rfl | apply NfL.cons (by exact rfl) (by conv => lhs; whnf))) rfl ?_; refine CallG.ret (fun w hS => h5c bc w (hS.get .head) (hS.owns (by repeat (first | exact Seg.head | exact Seg.all | exact Seg.one | apply Seg.tail | apply Seg.cons)))) ?_) | (refine JE.call rfl rfl (by repeat (first | exact NfL.nil rfl | apply NfL.cons (by exact rfl) (by conv => lhs; whnf))) rfl ?_; refine CallG.ret (fun w hS => h9c w (hS.owns (by repeat (first | exact Seg.head | exact Seg.all | exact Seg.one | apply Seg.tail | apply Seg.cons)))) ?_))
                  | (refine JE.isF 48 ?_; refine JE.call rfl rfl (by repeat (first | exact NfL.nil rfl | apply NfL.cons (by exact rfl) (by conv => lhs; whnf))) rfl ?_; refine CallG.ret (fun w hS => hcount w (hback w (hS.sub (by repeat (first | exact List.Sublist.refl _ | exact List.nil_sublist _ | refine List.Sublist.append_left ?_ _ | exact List.sublist_append_left _ _ | apply List.Sublist.cons_cons | apply List.Sublist.cons | apply List.sublist_append_of_sublist_right)))).own (hback w (hS.sub (by repeat (first | exact List.Sublist.refl _ | exact List.nil_sublist _ | refine List.Sublist.append_left ?_ _ | exact List.sublist_append_left _ _ | apply List.Sublist.cons_cons | apply List.Sublist.cons | apply List.sublist_append_of_sublist_right)))).nodup) ?_)
                  | (refine JE.kIndexAddr ?_; refine JE.indexAddr (j := 0) rfl rfl rfl (Int.le_refl _) (by omega) rfl ?_)
                  | (refine JE.kLoad ?_; refine JE.loadRowCS (j := 0) rfl rfl (fun w' hS => hr0 w' (hS.owns (by repeat (first | exact Seg.head | exact Seg.all | exact Seg.one | apply Seg.tail | apply Seg.cons)))) hrow0 rfl rfl (fun h => by first | exact trivial | cases h) rfl ?_))
                all_goals first
                  | (exfalso; omega)
                  | contradiction
                  | (refine fnQ_tmp (.inl rfl) rfl (by conv => lhs; whnf) fun w'' hS' => ⟨_, _, rfl, ⟨by rw [hcode], ?_⟩, holds ▸ hback w'' (hS'.sub (by repeat (first | exact List.Sublist.refl _ | exact List.nil_sublist _ | refine List.Sublist.append_left ?_ _ | exact List.sublist_append_left _ _ | apply List.Sublist.cons_cons | apply List.Sublist.cons | apply List.sublist_append_of_sublist_right)))⟩
                     rw [pledge26, if_neg (by rw [hcode]; decide)]; exact hL0)
              · rw [if_neg hfull] at hcode
                repeat' (first
                  | (refine JE.kBox ?_; refine JE.box rfl (by conv => lhs; whnf) rfl (fun b3 hb3 => have hBb : B ≠ b3 := (by omega); ?_))
                  | refine JE.pure rfl rfl (by conv => lhs; whnf) rfl ?_
                  | refine JE.skip rfl rfl ?_
                  | (refine JE.kBin ?_; (refine JE.int rfl rfl rfl rfl rfl rfl ?_; with_reducible refine JE.waysD (fun _ => ?_) (fun _ => ?_)))
                  | (refine JE.kBin ?_; (refine JE.neStr rfl rfl rfl rfl ?_; with_reducible refine JE.waysD (fun _ => ?_) (fun _ => ?_)))
                  | (refine JE.kField ?_; refine JE.fieldAddr rfl rfl rfl ?_)
                  | (refine JE.kNil ?_; refine JE.nilCheck rfl rfl rfl ?_)
                  | (refine JE.kLoad ?_; refine JE.load1 rfl rfl (by repeat (first | exact In.head | refine In.tail ?_ | refine In.app ?_)) rfl (by conv => lhs; whnf) (fun _ => by first | trivial | exact ⟨.inr ‹_›, trivial⟩ | exact ⟨.inl (by kernel_rfl), trivial⟩ | exact ⟨.inr ‹_›, .inr ‹_›, trivial⟩ | exact ⟨.inr ‹_›, .inl (by kernel_rfl), trivial⟩ | exact ⟨.inl (by kernel_rfl), .inr ‹_›, trivial⟩ | exact ⟨.inl (by kernel_rfl), .inl (by kernel_rfl), trivial⟩) rfl ?_)
                  | (refine JE.kLoad ?_; refine JE.loadAll rfl rfl (by repeat (first | exact In.head | refine In.tail ?_ | refine In.app ?_)) (by rfl) (fun _ => by first | trivial | exact ⟨.inr ‹_›, trivial⟩ | exact ⟨.inl (by kernel_rfl), trivial⟩ | exact ⟨.inr ‹_›, .inr ‹_›, trivial⟩ | exact ⟨.inr ‹_›, .inl (by kernel_rfl), trivial⟩ | exact ⟨.inl (by kernel_rfl), .inr ‹_›, trivial⟩ | exact ⟨.inl (by kernel_rfl), .inl (by kernel_rfl), trivial⟩) rfl ?_)
                  | (refine JE.kBuiltin ?_; refine JE.lenSl rfl rfl rfl ?_)
                  | (refine JE.kBuildSlice ?_; refine JE.buildSlice rfl rfl rfl (by conv => lhs; whnf) (by rfl) (by rfl) (by repeat (first | exact NfL.nil rfl | apply NfL.cons (by exact rfl) (by conv => lhs; whnf))) rfl (fun _ _ => ?_))
                  | with_reducible refine JE.sN ?_
                  | with_reducible refine JE.dN ?_
                  | with_reducible refine J.seq ?_
                  | with_reducible refine J.region ?_
                  | refine J.condT rfl ?_
                  | refine J.condF rfl ?_
                  | with_reducible refine J.skip ?_
                  | with_reducible refine J.block ?_
                  | with_reducible refine J.ret ?_
                  | with_reducible refine JX.thenN ?_
                  | with_reducible refine JX.thenR ?_
                  | with_reducible refine JX.blkN ?_
                  | with_reducible refine JX.blkR ?_
                  | (refine J.isR 1 ?_; refine J.draw [(0, true), (1, true), (2, true), (3, true), (4, true), (5, true), (6, true), (7, true)] [] mixed (by kernel_rfl) (fun _ h => h.drew) ?_)
                  | (refine J.isR 4 ?_; refine J.draw [(0, true), (1, true), (2, true), (3, true), (4, true), (5, true), (6, true), (7, true), (8, true), (9, true), (10, true), (11, true), (12, true)] [] mixed (by kernel_rfl) (fun _ h => h.drew) ?_)
                  | (refine JE.kLookup ?_; refine JE.lookupV (encK := Value.string) (encV := encSV) (k := t) rfl rfl rfl (.tail (.tail .head)) hM hlk (fun _ => by first | trivial | exact ⟨.inr ‹_›, trivial⟩ | exact ⟨.inl (by kernel_rfl), trivial⟩ | exact ⟨.inr ‹_›, .inr ‹_›, trivial⟩ | exact ⟨.inr ‹_›, .inl (by kernel_rfl), trivial⟩ | exact ⟨.inl (by kernel_rfl), .inr ‹_›, trivial⟩ | exact ⟨.inl (by kernel_rfl), .inl (by kernel_rfl), trivial⟩) rfl ?_)
                  | (refine JE.isF 46 ?_; refine JE.call rfl rfl (by repeat (first | exact NfL.nil rfl | apply NfL.cons (by exact rfl) (by conv => lhs; whnf))) rfl ?_; refine CallG.ret (fun w hS => hright w) ?_)
                  | (refine JE.isF 33 ?_; refine JE.call rfl rfl (by repeat (first | exact NfL.nil rfl | apply NfL.cons (by exact rfl) (by conv => lhs; whnf))) rfl ?_; refine CallG.retNew (v := fun B => .func (.func 51) #[] #[.pointer (some ⟨B, 0, none⟩)]) (o := fun _ => cel [.string c] 9) (fun w hS => of_calls _ w) (fun bc hbc => ?_))
                  | (refine JE.isF 35 ?_; first | (refine JE.isArgT 34 ?_; refine JE.call rfl rfl (by repeat (first | exact NfL.nil rfl | apply NfL.cons (by exact rfl) (by conv => lhs; whnf))) rfl ?_; refine CallG.ret (fun w hS => h5c bc w (hS.get .head) (hS.owns (by repeat (first | exact Seg.head | exact Seg.all | exact Seg.one | apply Seg.tail | apply Seg.cons)))) ?_) | (refine JE.call rfl rfl (by repeat (first | exact NfL.nil rfl | apply NfL.cons (by exact rfl) (by conv => lhs; whnf))) rfl ?_; refine CallG.ret (fun w hS => h9c w (hS.owns (by repeat (first | exact Seg.head | exact Seg.all | exact Seg.one | apply Seg.tail | apply Seg.cons)))) ?_))
                  | (refine JE.isF 48 ?_; refine JE.call rfl rfl (by repeat (first | exact NfL.nil rfl | apply NfL.cons (by exact rfl) (by conv => lhs; whnf))) rfl ?_; refine CallG.ret (fun w hS => hcount w (hback w (hS.sub (by repeat (first | exact List.Sublist.refl _ | exact List.nil_sublist _ | refine List.Sublist.append_left ?_ _ | exact List.sublist_append_left _ _ | apply List.Sublist.cons_cons | apply List.Sublist.cons | apply List.sublist_append_of_sublist_right)))).own (hback w (hS.sub (by repeat (first | exact List.Sublist.refl _ | exact List.nil_sublist _ | refine List.Sublist.append_left ?_ _ | exact List.sublist_append_left _ _ | apply List.Sublist.cons_cons | apply List.Sublist.cons | apply List.sublist_append_of_sublist_right)))).nodup) ?_)
                  | (refine JE.kIndexAddr ?_; refine JE.indexAddr (j := 0) rfl rfl rfl (Int.le_refl _) (by omega) rfl ?_)
                  | (refine JE.kLoad ?_; refine JE.loadRowCS (j := 0) rfl rfl (fun w' hS => hr0 w' (hS.owns (by repeat (first | exact Seg.head | exact Seg.all | exact Seg.one | apply Seg.tail | apply Seg.cons)))) hrow0 rfl rfl (fun h => by first | exact trivial | cases h) rfl ?_)
                  | (refine J.isR 12 ?_; refine J.draw [(0, true), (1, true), (2, true), (3, true), (4, true), (5, true), (6, true), (7, true), (8, false), (9, false), (10, false)] [(9, B), (10, bm)] mixed (by kernel_rfl) (fun _ h => h.drew) ?_)
                  | (refine JE.isAppT 53 ?_; refine JE.appendOwn (ys := [(⟨t, d, c, day, am, true⟩ : Pledge)]) rfl rfl rfl (show Own 6 encPledge 37 _ _ _ from ho) (by repeat (first | exact Seg.head | exact Seg.all | exact Seg.one | apply Seg.tail | apply Seg.cons)) (fun _ => rfl) (fun _ => rfl) (fun w hS => sl_one encP_len (⟨t, d, c, day, am, true⟩ : Pledge) (hS.get (by repeat (first | exact In.head | refine In.tail ?_ | refine In.app ?_)))) (by (try simp only [List.length_cons, List.length_nil, List.length_append, List.length_drop, List.length_take, maxLen] at *); omega) (by (try simp only [List.length_cons, List.length_nil, List.length_append, List.length_drop, List.length_take, maxLen] at *); omega) (fun w1 w2 l2 hst k hk hlt => hst.block k hlt (by simpa using hk)) rfl (fun v2 l2 ho2 => ?_); obtain ⟨B2, cap2, cur2, rfl, ho3, rfl⟩ := own_some ho2 (by simp))
                  | (refine JE.kUpdate ?_; refine JE.mapUpdate (encK := Value.string) (encV := encSV) (k := t) (v := (B2, (rowOf m t ++ [(⟨t, d, c, day, am, true⟩ : Pledge)]).length, cap2)) rfl rfl rfl rfl (by repeat (first | exact In.head | refine In.tail ?_ | refine In.app ?_)) hM (by simp [drawn]) rfl (fun mo' hM' => ⟨_, (by repeat (first | exact Turn.head | apply Turn.tail | apply Turn.app)), ?_⟩)))
                all_goals first
                  | (exfalso; omega)
                  | contradiction
                  | (refine fnQ_tmp (.inl rfl) rfl (by conv => lhs; whnf) fun w'' hS' => ?_
                     obtain ⟨R', hR', hkv, hpm⟩ := hput B2 cap2 cur2 ho3 hrowp
                     refine ⟨_, LienO p bm mo' R', rfl, ⟨by rw [hcode], bm, mo', R', rfl, hkv ▸ hM', ?_, hD.pledge _⟩, holds ▸ St.perm (l := (B2, .cells cur2 37 (0, 0)) :: (p, cel [.map (some bm)] 60) :: (bm, mo') :: rest) (hS'.sub (by repeat (first | exact List.Sublist.refl _ | exact List.nil_sublist _ | refine List.Sublist.append_left ?_ _ | exact List.sublist_append_left _ _ | apply List.Sublist.cons_cons | apply List.Sublist.cons | apply List.sublist_append_of_sublist_right))) ?_⟩
                     · rw [pledge26, if_pos hcode]; exact hR'
                     · refine List.Perm.trans ?_ (((hpm.symm).cons _).cons _)
                       exact (List.Perm.swap _ _ _).trans ((List.Perm.swap _ _ _).cons _))
      · rw [if_pos (by rw [hrow]; simp [headOf, hd8])] at hcode
        repeat' (first
          | (refine JE.kBox ?_; refine JE.box rfl (by conv => lhs; whnf) rfl (fun b3 hb3 => have hBb : B ≠ b3 := (by omega); ?_))
          | refine JE.pure rfl rfl (by conv => lhs; whnf) rfl ?_
          | refine JE.skip rfl rfl ?_
          | (refine JE.kBin ?_; (refine JE.int rfl rfl rfl rfl rfl rfl ?_; with_reducible refine JE.waysD (fun _ => ?_) (fun _ => ?_)))
          | (refine JE.kBin ?_; (refine JE.neStr rfl rfl rfl rfl ?_; with_reducible refine JE.waysD (fun _ => ?_) (fun _ => ?_)))
          | (refine JE.kField ?_; refine JE.fieldAddr rfl rfl rfl ?_)
          | (refine JE.kNil ?_; refine JE.nilCheck rfl rfl rfl ?_)
          | (refine JE.kLoad ?_; refine JE.load1 rfl rfl (by repeat (first | exact In.head | refine In.tail ?_ | refine In.app ?_)) rfl (by conv => lhs; whnf) (fun _ => by first | trivial | exact ⟨.inr ‹_›, trivial⟩ | exact ⟨.inl (by kernel_rfl), trivial⟩ | exact ⟨.inr ‹_›, .inr ‹_›, trivial⟩ | exact ⟨.inr ‹_›, .inl (by kernel_rfl), trivial⟩ | exact ⟨.inl (by kernel_rfl), .inr ‹_›, trivial⟩ | exact ⟨.inl (by kernel_rfl), .inl (by kernel_rfl), trivial⟩) rfl ?_)
          | (refine JE.kLoad ?_; refine JE.loadAll rfl rfl (by repeat (first | exact In.head | refine In.tail ?_ | refine In.app ?_)) (by rfl) (fun _ => by first | trivial | exact ⟨.inr ‹_›, trivial⟩ | exact ⟨.inl (by kernel_rfl), trivial⟩ | exact ⟨.inr ‹_›, .inr ‹_›, trivial⟩ | exact ⟨.inr ‹_›, .inl (by kernel_rfl), trivial⟩ | exact ⟨.inl (by kernel_rfl), .inr ‹_›, trivial⟩ | exact ⟨.inl (by kernel_rfl), .inl (by kernel_rfl), trivial⟩) rfl ?_)
          | (refine JE.kBuiltin ?_; refine JE.lenSl rfl rfl rfl ?_)
          | with_reducible refine JE.sN ?_
          | with_reducible refine JE.dN ?_
          | with_reducible refine J.seq ?_
          | with_reducible refine J.region ?_
          | refine J.condT rfl ?_
          | refine J.condF rfl ?_
          | with_reducible refine J.block ?_
          | with_reducible refine J.ret ?_
          | with_reducible refine JX.thenR ?_
          | with_reducible refine JX.blkR ?_
          | (refine J.isR 1 ?_; refine J.draw [(0, true), (1, true), (2, true), (3, true), (4, true), (5, true), (6, true), (7, true)] [] mixed (by kernel_rfl) (fun _ h => h.drew) ?_)
          | (refine J.isR 4 ?_; refine J.draw [(0, true), (1, true), (2, true), (3, true), (4, true), (5, true), (6, true), (7, true), (8, true), (9, true), (10, true), (11, true), (12, true)] [] mixed (by kernel_rfl) (fun _ h => h.drew) ?_)
          | (refine JE.kLookup ?_; refine JE.lookupV (encK := Value.string) (encV := encSV) (k := t) rfl rfl rfl (.tail (.tail .head)) hM hlk (fun _ => by first | trivial | exact ⟨.inr ‹_›, trivial⟩ | exact ⟨.inl (by kernel_rfl), trivial⟩ | exact ⟨.inr ‹_›, .inr ‹_›, trivial⟩ | exact ⟨.inr ‹_›, .inl (by kernel_rfl), trivial⟩ | exact ⟨.inl (by kernel_rfl), .inr ‹_›, trivial⟩ | exact ⟨.inl (by kernel_rfl), .inl (by kernel_rfl), trivial⟩) rfl ?_)
          | (refine JE.isF 46 ?_; refine JE.call rfl rfl (by repeat (first | exact NfL.nil rfl | apply NfL.cons (by exact rfl) (by conv => lhs; whnf))) rfl ?_; refine CallG.ret (fun w hS => hright w) ?_)
          | (refine JE.isF 33 ?_; refine JE.call rfl rfl (by repeat (first | exact NfL.nil rfl | apply NfL.cons (by exact rfl) (by conv => lhs; whnf))) rfl ?_; refine CallG.retNew (v := fun B => .func (.func 51) #[] #[.pointer (some ⟨B, 0, none⟩)]) (o := fun _ => cel [.string c] 9) (fun w hS => of_calls _ w) (fun bc hbc => ?_))
          | (refine JE.isF 35 ?_; first | (refine JE.isArgT 34 ?_; refine JE.call rfl rfl (by repeat (first | exact NfL.nil rfl | apply NfL.cons (by exact rfl) (by conv => lhs; whnf))) rfl ?_; refine CallG.ret (fun w hS => h5c bc w (hS.get .head) (hS.owns (by repeat (first | exact Seg.head | exact Seg.all | exact Seg.one | apply Seg.tail | apply Seg.cons)))) ?_) | (refine JE.call rfl rfl (by repeat (first | exact NfL.nil rfl | apply NfL.cons (by exact rfl) (by conv => lhs; whnf))) rfl ?_; refine CallG.ret (fun w hS => h9c w (hS.owns (by repeat (first | exact Seg.head | exact Seg.all | exact Seg.one | apply Seg.tail | apply Seg.cons)))) ?_))
          | (refine JE.kIndexAddr ?_; refine JE.indexAddr (j := 0) rfl rfl rfl (Int.le_refl _) (by omega) rfl ?_)
          | (refine JE.kLoad ?_; refine JE.loadRowCS (j := 0) rfl rfl (fun w' hS => hr0 w' (hS.owns (by repeat (first | exact Seg.head | exact Seg.all | exact Seg.one | apply Seg.tail | apply Seg.cons)))) hrow0 rfl rfl (fun h => by first | exact trivial | cases h) rfl ?_))
        all_goals first
          | (exfalso; omega)
          | contradiction
          | (refine fnQ_tmp (.inl rfl) rfl (by conv => lhs; whnf) fun w'' hS' => ⟨_, _, rfl, ⟨by rw [hcode], ?_⟩, holds ▸ hback w'' (hS'.sub (by repeat (first | exact List.Sublist.refl _ | exact List.nil_sublist _ | refine List.Sublist.append_left ?_ _ | exact List.sublist_append_left _ _ | apply List.Sublist.cons_cons | apply List.Sublist.cons | apply List.sublist_append_of_sublist_right)))⟩
             rw [pledge26, if_neg (by rw [hcode]; decide)]; exact hL0)

end Go.Proofs.Ytnapfiheholhiaa
