/-
  The walks of the document's Things and of the comparison of texts. Conditions: none.
-/
import Derived.Test.YtnapfiheholhiaaRef26d
set_option linter.unusedVariables false
set_option linter.unusedSimpArgs false
namespace Go.Proofs.YtnapfiheholhiaaSym
open Go Go.RowKit

theorem bytesLess_lt : ∀ (x y : List UInt8), Op.bytesLess x y = decide (x < y)
  | [], [] => by simp [Op.bytesLess]
  | _ :: _, [] => by simp [Op.bytesLess]
  | [], _ :: _ => by simp [Op.bytesLess]
  | a :: x, b :: y => by
    rw [Op.bytesLess, bytesLess_lt x y]
    simp only [List.cons_lt_cons_iff]
    by_cases h1 : a < b <;> by_cases h2 : a = b <;> by_cases h3 : x < y <;> simp [h1, h2, h3]
section
variable {P : Program} {n : Nat} {ops : Array Oper} {pl : Plan} {S : World → Prop} {E : List Entry} {Q : Post} {f : Fr} {i : Nat} {dst : Option Tmp} {T : TypeId} {pos : String} {af : Array Edge} {g : Option (Nat × Bool)} {b : Bool}
theorem JE.ltStr {t t' : TypeId} {a c : Operand} {x y : ByteArray} (hw : wantF ops f ⟨dst, .binOp .lss t a c t', T, pos, af, g⟩ = true) (ha : ev f a = .string x) (hc : ev f c = .string y)
    (hd : dstOk n dst = true) (h : JE P n ops pl S E Q (updO f dst (.bool (decide (x.data.toList < y.data.toList))))) : JE P n ops pl S ((i, ⟨dst, .binOp .lss t a c t', T, pos, af, g⟩, b) :: E) Q f :=
  .val hw (fun w => by simp [execOp, ha, hc, eqGuard, binOp, Op.stringOp, bytesLess_lt, ByteArray.toList_eq]) hd h
end
end Go.Proofs.YtnapfiheholhiaaSym

namespace Go.Proofs.Ytnapfiheholhiaa
open Go Go.RowKit Go.Proofs.YtnapfiheholhiaaSym

/-- Texts that rise. -/
def RiseS (l : List ByteArray) : Prop := l.Pairwise fun a c => a.data.toList < c.data.toList
abbrev encS : ByteArray → List Value := fun s => [Value.string s]
theorem encS_len (s : ByteArray) : (encS s).length = 1 := rfl
theorem text_ext {x y : ByteArray} (h : x.data.toList = y.data.toList) : x = y := ByteArray.ext (Array.ext' h)
theorem text_tri (x y : ByteArray) : x.data.toList < y.data.toList ∨ x = y ∨ y.data.toList < x.data.toList := by
  by_cases h1 : x.data.toList < y.data.toList
  · exact .inl h1
  by_cases h2 : y.data.toList < x.data.toList
  · exact .inr (.inr h2)
  · exact .inr (.inl (text_ext (List.le_antisymm (List.not_lt.1 h2) (List.not_lt.1 h1))))
theorem rise_get {l : List ByteArray} (h : RiseS l) {p q : Nat} {x y : ByteArray} (hpq : p < q) (hx : l[p]? = some x) (hy : l[q]? = some y) : x.data.toList < y.data.toList := by
  obtain ⟨h1, rfl⟩ := List.getElem?_eq_some_iff.1 hx
  obtain ⟨h2, rfl⟩ := List.getElem?_eq_some_iff.1 hy
  exact List.pairwise_iff_getElem.1 h p q h1 h2 hpq
theorem rise_insert {l : List ByteArray} (h : RiseS l) {q : Nat} {t : ByteArray} (h1 : ∀ (j : Nat) y, j < q → l[j]? = some y → y.data.toList < t.data.toList) (h2 : ∀ y, l[q]? = some y → t.data.toList < y.data.toList) : RiseS (l.take q ++ t :: l.drop q) := by
  have hlt : ∀ y ∈ l.take q, y.data.toList < t.data.toList := fun y hy => by
    obtain ⟨j, hj, rfl⟩ := List.mem_iff_getElem.1 hy
    rw [List.length_take] at hj
    rw [List.getElem_take]
    exact h1 j _ (by omega) (List.getElem?_eq_getElem (by omega))
  have hgt : ∀ y ∈ l.drop q, t.data.toList < y.data.toList := fun y hy => by
    obtain ⟨j, hj, rfl⟩ := List.mem_iff_getElem.1 hy
    rw [List.length_drop] at hj
    rw [List.getElem_drop]
    have e0 := h2 _ (List.getElem?_eq_getElem (show q < l.length by omega))
    rcases Nat.eq_zero_or_pos j with rfl | hj0
    · exact e0
    · exact List.lt_trans e0 (rise_get h (show q < q + j by omega) (List.getElem?_eq_getElem (by omega)) (List.getElem?_eq_getElem (by omega)))
  have hs := h
  unfold RiseS at hs
  rw [← List.take_append_drop q l, List.pairwise_append] at hs
  refine List.pairwise_append.2 ⟨hs.1, List.pairwise_cons.2 ⟨hgt, hs.2.1⟩, fun x hx y hy => ?_⟩
  rcases List.mem_cons.1 hy with rfl | hy
  · exact hlt x hx
  · exact hs.2.2 x hx y hy
theorem mem_insert {l : List ByteArray} {q : Nat} {t u : ByteArray} : u ∈ l.take q ++ t :: l.drop q ↔ u = t ∨ u ∈ l := by
  have : (l.take q ++ t :: l.drop q).Perm (t :: l) := List.perm_middle.trans (by rw [List.take_append_drop])
  rw [this.mem_iff, List.mem_cons]
theorem take_mem {m : List Pledge} {k : Nat} {x : Pledge} (hx : m[k]? = some x) (t : ByteArray) : (∃ q ∈ m.take (k + 1), q.thing = t) ↔ t = x.thing ∨ ∃ q ∈ m.take k, q.thing = t := by
  rw [List.take_add_one, hx]
  simp only [List.mem_append, Option.toList_some, List.mem_singleton]
  constructor
  · rintro ⟨q, hq | rfl, e⟩
    · exact .inr ⟨q, hq, e⟩
    · exact .inl e.symm
  · rintro (rfl | ⟨q, hq, e⟩)
    · exact ⟨x, .inr rfl, rfl⟩
    · exact ⟨q, .inl hq, e⟩
/-- What the document's Things holds behind some of the list. -/
def ThingsOf (m : List Pledge) (out : List ByteArray) : Prop := RiseS out ∧ ∀ t, t ∈ out ↔ ∃ q ∈ m, q.thing = t
theorem ThingsOf.skip {m : List Pledge} {k : Nat} {x : Pledge} {out : List ByteArray} (h : ThingsOf (m.take k) out) (hx : m[k]? = some x) (hin : x.thing ∈ out) : ThingsOf (m.take (k + 1)) out :=
  ⟨h.1, fun t => by
    rw [take_mem hx, ← h.2 t]
    exact ⟨.inr, fun e => e.elim (fun e => e ▸ hin) id⟩⟩
theorem ThingsOf.put {m : List Pledge} {k q : Nat} {x : Pledge} {out : List ByteArray} (h : ThingsOf (m.take k) out) (hx : m[k]? = some x) (h1 : ∀ (j : Nat) y, j < q → out[j]? = some y → y.data.toList < x.thing.data.toList)
    (h2 : ∀ y, out[q]? = some y → x.thing.data.toList < y.data.toList) : ThingsOf (m.take (k + 1)) (out.take q ++ x.thing :: out.drop q) :=
  ⟨rise_insert h.1 h1 h2, fun t => by rw [mem_insert, take_mem hx, ← h.2 t]⟩
theorem things_same {m : List Pledge} {ts out : List ByteArray} (hn : ts.Nodup) (hr : ts.Pairwise fun a c => a.data.toList ≤ c.data.toList) (hm : ∀ t, t ∈ ts ↔ ∃ q ∈ m, q.thing = t) (ho : ThingsOf m out) : ts = out := by
  have hon : out.Nodup := ho.1.imp fun {a c} h (e : a = c) => by subst e; exact List.lt_irrefl _ h
  have hp : ts.Perm out := (List.perm_ext_iff_of_nodup hn hon).2 fun t => (hm t).trans (ho.2 t).symm
  exact hp.eq_of_pairwise (le := fun a c => a.data.toList ≤ c.data.toList) (fun a c _ _ h1 h2 => text_ext (List.le_antisymm h1 h2)) hr (ho.1.imp fun h => List.le_of_lt h)

theorem ins_shapeS {s : List ByteArray} {x : ByteArray} {q : Nat} : [] ++ List.drop 0 (List.take q s) ++ [x] ++ List.drop q (List.take s.length s) = s.take q ++ x :: s.drop q := by simp

set_option maxHeartbeats 4000000 in
theorem refThings_calls (vm : Value) (m : List Pledge) (w : World) (hs : Sl 6 encPledge w vm m) (hl : m.length ≤ 4096) :
    Does Try.prog 39 [vm] w (RetN w fun u ln => ∃ out, out.length ≤ m.length ∧ Own 1 encS 9 u out ln ∧ ThingsOf m out) := by
  have hs0 := hs
  obtain ⟨a, cp, rfl, hs⟩ := hs
  refine calls_J (ys := [.slice a m.length cp]) Try.func39 rfl Try.ntmps39 rfl ?_
  refine J.at_ (S := St w [] []) ?_ (St.start w)
  repeat' (first
    | refine JE.pure rfl rfl (by conv => lhs; whnf) rfl ?_
    | with_reducible refine JE.sN ?_
    | with_reducible refine J.seq ?_
    | with_reducible refine J.region ?_
    | with_reducible refine J.block ?_
    | (refine JE.kBuildSlice ?_; refine JE.buildSlice0 rfl rfl (fun _ _ => ?_)))
  refine J.loop (fun f w' => ∃ (k : Nat) (v : Value) (out : List ByteArray) (ln : List (Nat × Obj)), k ≤ m.length ∧ out.length ≤ k ∧ Own 1 encS 9 v out ln ∧ ThingsOf (m.take k) out ∧ Has f [(0, .slice a m.length cp), (3, v), (4, .int .i64 k)] ∧ St w [] ln w')
    (fun f _ => m.length - (intOf (f 4)).toNat) (fun w' hS => ⟨0, _, [], _, Nat.zero_le _, Nat.le_refl _, Own.empty, ⟨.nil, by simp⟩, (by repeat' (first | exact trivial | refine And.intro (by rfl) ?_)), hS⟩) ?_
  rintro f w' ⟨k, v, out, ln, hk, hol, ho, hto, hf, hS⟩
  obtain ⟨g, rfl⟩ := hf.eq
  clear hf
  refine J.at_ ?_ hS
  by_cases hlt : k < m.length
  · obtain ⟨B, off, rfl, hr⟩ := hs (by intro e; rw [e] at hlt; simp at hlt)
    have hxk : m[k]? = some m[k] := List.getElem?_eq_getElem hlt
    have hskip := fun h => hto.skip hxk h
    have hput := fun q => hto.put (q := q) hxk
    generalize m[k] = x at hxk hskip hput
    have hsl0 : ∀ w', St w [] ln w' → Sl 1 encS w' v out := fun w' hS => ho.sl encS_len hS.own
    obtain ⟨a3, c3, rfl, hc3⟩ := ho.shape
    repeat' (first
      | refine JE.pure rfl rfl (by conv => lhs; whnf) rfl ?_
      | (refine JE.kBin ?_; (refine JE.int rfl rfl rfl rfl rfl rfl ?_; with_reducible refine JE.waysD (fun _ => ?_) (fun _ => ?_)))
      | (refine JE.kBuiltin ?_; refine JE.lenSl rfl rfl rfl ?_)
      | with_reducible refine JE.sN ?_
      | with_reducible refine J.seq ?_
      | with_reducible refine J.region ?_
      | refine J.condT rfl ?_
      | refine J.condF rfl ?_
      | with_reducible refine J.skip ?_
      | with_reducible refine J.exit ?_
      | with_reducible refine J.block ?_
      | with_reducible refine J.ret ?_
      | with_reducible refine JX.thenN ?_
      | with_reducible refine JX.thenE ?_
      | with_reducible refine JX.blkS ?_)
    all_goals first
      | (exfalso; omega)
      | skip
    refine J.loop (fun f w' => ∃ (q : Nat), q ≤ out.length ∧ (∀ (j : Nat) y, j < q → out[j]? = some y → y.data.toList < x.thing.data.toList) ∧ Has f [(0, .slice (some ⟨B, off, none⟩) m.length cp), (3, .slice a3 out.length c3), (4, .int .i64 k), (5, .int .i64 q)] ∧ St w [] ln w')
      (fun f _ => out.length - (intOf (f 5)).toNat) (fun w' hS => ⟨0, Nat.zero_le _, fun j y hj => absurd hj (Nat.not_lt_zero _), (by repeat' (first | exact trivial | refine And.intro (by rfl) ?_)), hS⟩) ?_
    rintro f w' ⟨q, hq, hbef, hf, hS⟩
    obtain ⟨g, rfl⟩ := hf.eq
    clear hf
    refine J.at_ ?_ hS
    by_cases hlt2 : q < out.length
    · have hyq : out[q]? = some out[q] := List.getElem?_eq_getElem hlt2
      generalize out[q] = y at hyq
      have hne : out ≠ [] := by rintro rfl; simp at hyq
      obtain ⟨B3, off3, rfl⟩ : ∃ B off, a3 = some ⟨B, off, none⟩ := by
        obtain ⟨a', c', e1, h2⟩ := hsl0 _ hS
        obtain ⟨B, off, e2, _⟩ := h2 hne
        simp only [Value.slice.injEq] at e1
        exact ⟨B, off, e1.1.trans e2⟩
      have hr3 := rows_of hsl0 hne
      repeat' (first
        | (refine JE.kBin ?_; refine JE.ltStr rfl rfl rfl rfl ?_; with_reducible refine JE.waysD (fun _ => ?_) (fun _ => ?_))
        | refine JE.pure rfl rfl (by conv => lhs; whnf) rfl ?_
        | refine JE.skip rfl rfl ?_
        | (refine JE.kBin ?_; (refine JE.int rfl rfl rfl rfl rfl rfl ?_; with_reducible refine JE.waysD (fun _ => ?_) (fun _ => ?_)))
        | (refine JE.kBin ?_; refine JE.int rfl rfl rfl rfl (by rw [i64_id (by omega)]) rfl ?_)
        | (refine JE.kBin ?_; (refine JE.eqStr rfl rfl rfl rfl ?_; with_reducible refine JE.waysD (fun _ => ?_) (fun _ => ?_)))
        | (refine JE.kField ?_; refine JE.fieldAddr rfl rfl rfl ?_)
        | (refine JE.kBuiltin ?_; refine JE.lenSl rfl rfl rfl ?_)
        | (refine JE.kBuildSlice ?_; refine JE.buildSlice rfl rfl rfl (by conv => lhs; whnf) (by rfl) (by rfl) (by repeat (first | exact NfL.nil rfl | apply NfL.cons (by exact rfl) (by conv => lhs; whnf))) rfl (fun _ _ => ?_))
        | (refine JE.isT ?_; first | refine JE.fork2 rfl ?_ ?_ | refine JE.fork3 rfl ?_ ?_ ?_ | refine JE.leaf1 rfl ?_ | refine JE.leaf0 rfl ?_ | refine JE.leafX1 rfl ?_ | refine JE.leafX0 rfl ?_)
        | with_reducible refine JE.sX ?_
        | with_reducible refine JE.dN ?_
        | with_reducible refine J.seq ?_
        | with_reducible refine J.region ?_
        | refine J.condT rfl ?_
        | refine J.condF rfl ?_
        | with_reducible refine J.skip ?_
        | with_reducible refine J.exit ?_
        | with_reducible refine J.block ?_
        | with_reducible refine JX.thenN ?_
        | with_reducible refine JX.thenE ?_
        | with_reducible refine JX.blkS ?_
        | with_reducible refine JX.blkN ?_
        | (refine J.isR 6 ?_; refine J.draw [(0, true), (1, true), (2, true), (3, true), (4, true), (5, true), (6, true), (7, true), (8, true), (9, true), (10, true), (11, true), (12, true), (13, true), (14, true), (15, true)] [] mixed (by kernel_rfl) (fun _ h => h.drew) ?_)
        | (refine J.isR 8 ?_; refine J.draw [(0, true), (1, true), (2, true), (3, true), (4, true), (5, true), (6, true), (7, true), (8, true), (9, true), (10, true), (11, true), (12, true), (13, true), (14, true), (15, true)] [] mixed (by kernel_rfl) (fun _ h => h.drew) ?_)
        | (refine J.isR 9 ?_; refine J.drawTL 3 ([(1, true), (2, true), (3, true), (5, true), (6, true), (7, true), (8, true)], [(0, ([], [(4, ([(9, false), (10, false), (11, false), (12, true)], [])), (9, ([], [(4, [(10, false), (11, false), (12, true)]), (10, [(4, false), (11, false), (12, true)])]))])), (9, ([], [(0, ([], [(4, [(10, false), (11, false), (12, true)]), (10, [(4, false), (11, false), (12, true)])])), (10, ([(0, false), (4, false), (11, false), (12, true)], []))]))]) mixed (by kernel_rfl) (fun _ h => h.drew) ?_)
        | (refine JE.kBuildSlice ?_; refine JE.buildSlice0 rfl rfl (fun _ _ => ?_))
        | (refine JE.kSlice ?_; refine JE.sliceP (p := 0) (q := q) rfl rfl rfl ⟨_, rfl⟩ (by omega) (by omega) hc3 hsl0 rfl (fun a9 hs9 => ?_))
        | (refine JE.kSlice ?_; refine JE.sliceP (p := q) (q := out.length) rfl rfl ⟨_, rfl⟩ rfl (by omega) (by omega) hc3 hsl0 rfl (fun a10 hs10 => ?_))
        | (refine JE.kIndexAddr ?_; refine JE.indexAddr rfl rfl rfl (Int.natCast_nonneg _) (by omega) rfl ?_)
        | (refine JE.isLoadT 21 ?_; refine JE.loadRow1S rfl rfl hr3 hyq rfl (fun h => by first | exact trivial | cases h) rfl ?_)
        | (refine JE.isLoadT 39 ?_; refine JE.loadRow1S rfl rfl hr3 hyq rfl (fun h => by first | exact trivial | cases h) rfl ?_)
        | (refine JE.kLoad ?_; refine JE.loadRowC rfl rfl hr (by simp) hxk rfl rfl (fun h => by first | exact trivial | cases h) rfl ?_)
        | (refine JE.isAppT 48 ?_; (refine JE.kBuiltin ?_; refine JE.appendOwn rfl rfl rfl ((Own.empty (k := 1) (enc := encS))) (by repeat (first | exact Seg.head | exact Seg.all | exact Seg.one | apply Seg.tail | apply Seg.cons)) (fun _ => rfl) (fun _ => rfl) (fun w hS => hs9 w (hS.sub (by repeat (first | exact List.Sublist.refl _ | exact List.nil_sublist _ | refine List.Sublist.append_left ?_ _ | exact List.sublist_append_left _ _ | apply List.Sublist.cons_cons | apply List.Sublist.cons | apply List.sublist_append_of_sublist_right)))) (by (try simp only [List.length_cons, List.length_nil, List.length_append, List.length_drop, List.length_take, maxLen] at *); omega) (by (try simp only [List.length_cons, List.length_nil, List.length_append, List.length_drop, List.length_take, maxLen] at *); omega) (fun _ _ _ _ => trivial) rfl (fun _ _ _ => ?_)))
        | (refine JE.isAppT 52 ?_; (refine JE.kBuiltin ?_; refine JE.appendOwn rfl rfl rfl ((show Own 1 encS 9 _ _ _ by assumption)) (by repeat (first | exact Seg.head | exact Seg.all | exact Seg.one | apply Seg.tail | apply Seg.cons)) (fun _ => rfl) (fun _ => rfl) (fun w hS => sl_one encS_len x.thing (hS.get (by repeat (first | exact In.head | refine In.tail ?_ | refine In.app ?_)))) (by (try simp only [List.length_cons, List.length_nil, List.length_append, List.length_drop, List.length_take, maxLen] at *); omega) (by (try simp only [List.length_cons, List.length_nil, List.length_append, List.length_drop, List.length_take, maxLen] at *); omega) (fun _ _ _ _ => trivial) rfl (fun _ _ _ => ?_)))
        | (refine JE.isAppT 60 ?_; (refine JE.kBuiltin ?_; refine JE.appendOwn rfl rfl rfl ((show Own 1 encS 9 _ _ _ by assumption)) (by repeat (first | exact Seg.head | exact Seg.all | exact Seg.one | apply Seg.tail | apply Seg.cons)) (fun _ => rfl) (fun _ => rfl) (fun w hS => hs10 w (hS.sub (by repeat (first | exact List.Sublist.refl _ | exact List.nil_sublist _ | refine List.Sublist.append_left ?_ _ | exact List.sublist_append_left _ _ | apply List.Sublist.cons_cons | apply List.Sublist.cons | apply List.sublist_append_of_sublist_right)))) (by (try simp only [List.length_cons, List.length_nil, List.length_append, List.length_drop, List.length_take, maxLen] at *); omega) (by (try simp only [List.length_cons, List.length_nil, List.length_append, List.length_drop, List.length_take, maxLen] at *); omega) (fun _ _ _ _ => trivial) rfl (fun _ _ _ => ?_))))
      all_goals first
        | (exfalso; omega)
        | (refine JX.round fun w'' hS' => ⟨⟨q + 1, hlt2, fun j z hj hz => ?_, (by repeat' (first | exact trivial | refine And.intro (by rfl) ?_)), hS'⟩, ?_⟩
           · rcases Nat.lt_or_ge j q with h | h
             · exact hbef j z h hz
             · have : j = q := by omega
               subst this
               rw [hyq] at hz; cases hz
               assumption
           · show out.length - ((q : Int) + 1).toNat < out.length - ((q : Int)).toNat
             omega)
        | (rename_i he
           refine JX.round fun w'' hS' => ⟨⟨k + 1, _, out, ln, hlt, by omega, ho, hskip (by rw [← he]; exact List.mem_of_getElem? hyq), (by repeat' (first | exact trivial | refine And.intro (by rfl) ?_)), hS'⟩, ?_⟩
           show m.length - ((k : Int) + 1).toNat < m.length - ((k : Int)).toNat
           omega)
        | (refine JX.round fun w'' hS' => ⟨⟨k + 1, _, out.take q ++ x.thing :: out.drop q, _, hlt, ?_, ?_, hput q hbef ?_, (by repeat' (first | exact trivial | refine And.intro (by rfl) ?_)), hS'.sub (List.sublist_append_left _ _)⟩, ?_⟩
           · simp only [List.length_append, List.length_cons, List.length_take, List.length_drop]; omega
           · rename_i h
             rw [← ins_shapeS]; exact h
           · intro z hz
             rw [hyq] at hz; cases hz
             rcases text_tri y x.thing with h | h | h
             · exact absurd h ‹¬ y.data.toList < x.thing.data.toList›
             · exact absurd h ‹_›
             · exact h
           · show m.length - ((k : Int) + 1).toNat < m.length - ((k : Int)).toNat
             omega)
    · have hql : q = out.length := by omega
      subst hql
      repeat' (first
        | refine JE.pure rfl rfl (by conv => lhs; whnf) rfl ?_
        | refine JE.skip rfl rfl ?_
        | (refine JE.kBin ?_; (refine JE.int rfl rfl rfl rfl rfl rfl ?_; with_reducible refine JE.waysD (fun _ => ?_) (fun _ => ?_)))
        | (refine JE.kBin ?_; refine JE.int rfl rfl rfl rfl (by rw [i64_id (by omega)]) rfl ?_)
        | (refine JE.kField ?_; refine JE.fieldAddr rfl rfl rfl ?_)
        | (refine JE.kBuiltin ?_; refine JE.lenSl rfl rfl rfl ?_)
        | (refine JE.kBuildSlice ?_; refine JE.buildSlice rfl rfl rfl (by conv => lhs; whnf) (by rfl) (by rfl) (by repeat (first | exact NfL.nil rfl | apply NfL.cons (by exact rfl) (by conv => lhs; whnf))) rfl (fun _ _ => ?_))
        | (refine JE.isT ?_; first | refine JE.fork2 rfl ?_ ?_ | refine JE.fork3 rfl ?_ ?_ ?_ | refine JE.leaf1 rfl ?_ | refine JE.leaf0 rfl ?_ | refine JE.leafX1 rfl ?_ | refine JE.leafX0 rfl ?_)
        | with_reducible refine JE.sX ?_
        | with_reducible refine JE.dN ?_
        | with_reducible refine J.seq ?_
        | with_reducible refine J.region ?_
        | refine J.condF rfl ?_
        | with_reducible refine J.skip ?_
        | with_reducible refine J.exit ?_
        | with_reducible refine JX.thenN ?_
        | with_reducible refine JX.thenE ?_
        | with_reducible refine JX.blkS ?_
        | with_reducible refine JX.blkN ?_
        | (refine J.isR 6 ?_; refine J.draw [(0, true), (1, true), (2, true), (3, true), (4, true), (5, true), (6, true), (7, true), (8, true), (9, true), (10, true), (11, true), (12, true), (13, true), (14, true), (15, true)] [] mixed (by kernel_rfl) (fun _ h => h.drew) ?_)
        | (refine J.isR 8 ?_; refine J.draw [(0, true), (1, true), (2, true), (3, true), (4, true), (5, true), (6, true), (7, true), (8, true), (9, true), (10, true), (11, true), (12, true), (13, true), (14, true), (15, true)] [] mixed (by kernel_rfl) (fun _ h => h.drew) ?_)
        | (refine J.isR 9 ?_; refine J.drawTL 3 ([(1, true), (2, true), (3, true), (5, true), (6, true), (7, true), (8, true)], [(0, ([], [(4, ([(9, false), (10, false), (11, false), (12, true)], [])), (9, ([], [(4, [(10, false), (11, false), (12, true)]), (10, [(4, false), (11, false), (12, true)])]))])), (9, ([], [(0, ([], [(4, [(10, false), (11, false), (12, true)]), (10, [(4, false), (11, false), (12, true)])])), (10, ([(0, false), (4, false), (11, false), (12, true)], []))]))]) mixed (by kernel_rfl) (fun _ h => h.drew) ?_)
        | (refine JE.kBuildSlice ?_; refine JE.buildSlice0 rfl rfl (fun _ _ => ?_))
        | (refine JE.kSlice ?_; refine JE.sliceP (p := 0) (q := out.length) rfl rfl rfl ⟨_, rfl⟩ (by omega) (by omega) hc3 hsl0 rfl (fun a9 hs9 => ?_))
        | (refine JE.kSlice ?_; refine JE.sliceP (p := out.length) (q := out.length) rfl rfl ⟨_, rfl⟩ rfl (by omega) (by omega) hc3 hsl0 rfl (fun a10 hs10 => ?_))
        | (refine JE.kIndexAddr ?_; refine JE.indexAddr rfl rfl rfl (Int.natCast_nonneg _) (by omega) rfl ?_)
        | (refine JE.kLoad ?_; refine JE.loadRowC rfl rfl hr (by simp) hxk rfl rfl (fun h => by first | exact trivial | cases h) rfl ?_)
        | (refine JE.isAppT 48 ?_; (refine JE.kBuiltin ?_; refine JE.appendOwn rfl rfl rfl ((Own.empty (k := 1) (enc := encS))) (by repeat (first | exact Seg.head | exact Seg.all | exact Seg.one | apply Seg.tail | apply Seg.cons)) (fun _ => rfl) (fun _ => rfl) (fun w hS => hs9 w (hS.sub (by repeat (first | exact List.Sublist.refl _ | exact List.nil_sublist _ | refine List.Sublist.append_left ?_ _ | exact List.sublist_append_left _ _ | apply List.Sublist.cons_cons | apply List.Sublist.cons | apply List.sublist_append_of_sublist_right)))) (by (try simp only [List.length_cons, List.length_nil, List.length_append, List.length_drop, List.length_take, maxLen] at *); omega) (by (try simp only [List.length_cons, List.length_nil, List.length_append, List.length_drop, List.length_take, maxLen] at *); omega) (fun _ _ _ _ => trivial) rfl (fun _ _ _ => ?_)))
        | (refine JE.isAppT 52 ?_; (refine JE.kBuiltin ?_; refine JE.appendOwn rfl rfl rfl ((show Own 1 encS 9 _ _ _ by assumption)) (by repeat (first | exact Seg.head | exact Seg.all | exact Seg.one | apply Seg.tail | apply Seg.cons)) (fun _ => rfl) (fun _ => rfl) (fun w hS => sl_one encS_len x.thing (hS.get (by repeat (first | exact In.head | refine In.tail ?_ | refine In.app ?_)))) (by (try simp only [List.length_cons, List.length_nil, List.length_append, List.length_drop, List.length_take, maxLen] at *); omega) (by (try simp only [List.length_cons, List.length_nil, List.length_append, List.length_drop, List.length_take, maxLen] at *); omega) (fun _ _ _ _ => trivial) rfl (fun _ _ _ => ?_)))
        | (refine JE.isAppT 60 ?_; (refine JE.kBuiltin ?_; refine JE.appendOwn rfl rfl rfl ((show Own 1 encS 9 _ _ _ by assumption)) (by repeat (first | exact Seg.head | exact Seg.all | exact Seg.one | apply Seg.tail | apply Seg.cons)) (fun _ => rfl) (fun _ => rfl) (fun w hS => hs10 w (hS.sub (by repeat (first | exact List.Sublist.refl _ | exact List.nil_sublist _ | refine List.Sublist.append_left ?_ _ | exact List.sublist_append_left _ _ | apply List.Sublist.cons_cons | apply List.Sublist.cons | apply List.sublist_append_of_sublist_right)))) (by (try simp only [List.length_cons, List.length_nil, List.length_append, List.length_drop, List.length_take, maxLen] at *); omega) (by (try simp only [List.length_cons, List.length_nil, List.length_append, List.length_drop, List.length_take, maxLen] at *); omega) (fun _ _ _ _ => trivial) rfl (fun _ _ _ => ?_))))
      all_goals first
        | (exfalso; omega)
        | (refine JX.round fun w'' hS' => ⟨⟨k + 1, _, out.take out.length ++ x.thing :: out.drop out.length, _, hlt, ?_, ?_, hput out.length hbef ?_, (by repeat' (first | exact trivial | refine And.intro (by rfl) ?_)), hS'.sub (List.sublist_append_left _ _)⟩, ?_⟩
           · simp only [List.length_append, List.length_cons, List.length_take, List.length_drop]; omega
           · rename_i h
             rw [← ins_shapeS]; exact h
           · intro z hz
             rw [List.getElem?_eq_none (Nat.le_refl _)] at hz; cases hz
           · show m.length - ((k : Int) + 1).toNat < m.length - ((k : Int)).toNat
             omega)
  · have hk' : k = m.length := by omega
    rw [hk', List.take_length] at hto
    repeat' (first
      | refine JE.pure rfl rfl (by conv => lhs; whnf) rfl ?_
      | (refine JE.kBin ?_; (refine JE.int rfl rfl rfl rfl rfl rfl ?_; with_reducible refine JE.waysD (fun _ => ?_) (fun _ => ?_)))
      | (refine JE.kBuiltin ?_; refine JE.lenSl rfl rfl rfl ?_)
      | with_reducible refine JE.sN ?_
      | with_reducible refine J.seq ?_
      | with_reducible refine J.region ?_
      | refine J.condT rfl ?_
      | refine J.condF rfl ?_
      | with_reducible refine J.skip ?_
      | with_reducible refine J.exit ?_
      | with_reducible refine J.block ?_
      | with_reducible refine J.ret ?_
      | with_reducible refine JX.thenN ?_
      | with_reducible refine JX.thenE ?_
      | with_reducible refine JX.blkS ?_)
    all_goals first
      | (exfalso; omega)
      | exact fnQ_tmp (.inl rfl) rfl (by conv => lhs; whnf) fun w'' hS' => ⟨_, _, rfl, ⟨_, by omega, ho, hto⟩, hS'⟩

set_option maxHeartbeats 1000000 in
theorem textsEq_calls (va vb : Value) (xs : List ByteArray) (w : World) (hsa : Sl 1 encS w va xs) (hsb : Sl 1 encS w vb xs) (hx : xs.length ≤ 9223372036854775807) :
    Does Try.prog 40 [va, vb] w (Ret w (.bool true)) := by
  obtain ⟨a, ca, rfl, hsa⟩ := hsa
  obtain ⟨b, cb, rfl, hsb⟩ := hsb
  refine calls_J (ys := [.slice a xs.length ca, .slice b xs.length cb]) Try.func40 rfl Try.ntmps40 rfl ?_
  refine J.at_ (S := St w [] []) ?_ (St.start w)
  repeat' (first
    | refine JE.pure rfl rfl (by conv => lhs; whnf) rfl ?_
    | (refine JE.kBin ?_; (refine JE.int rfl rfl rfl rfl rfl rfl ?_; with_reducible refine JE.waysD (fun _ => ?_) (fun _ => ?_)))
    | (refine JE.kBuiltin ?_; refine JE.lenSl rfl rfl rfl ?_)
    | with_reducible refine JE.sN ?_
    | with_reducible refine J.seq ?_
    | with_reducible refine J.region ?_
    | refine J.condT rfl ?_
    | refine J.condF rfl ?_
    | with_reducible refine J.skip ?_
    | with_reducible refine J.block ?_
    | with_reducible refine J.ret ?_
    | with_reducible refine JX.thenN ?_
    | with_reducible refine JX.thenR ?_)
  · exact absurd rfl ‹_›
  refine J.loop (fun f w' => ∃ k : Nat, k ≤ xs.length ∧ Has f [(0, .slice a xs.length ca), (1, .slice b xs.length cb), (5, .int .i64 k)] ∧ St w [] [] w')
    (fun f _ => xs.length - (intOf (f 5)).toNat) (fun w' hS => ⟨0, Nat.zero_le _, (by repeat' (first | exact trivial | refine And.intro (by rfl) ?_)), hS⟩) ?_
  rintro f w' ⟨k, hk, hf, hS⟩
  obtain ⟨g, rfl⟩ := hf.eq
  clear hf
  refine J.at_ ?_ hS
  by_cases hlt : k < xs.length
  · obtain ⟨B, off, rfl, hr⟩ := hsa (by rintro rfl; simp at hlt)
    obtain ⟨B', off', rfl, hr'⟩ := hsb (by rintro rfl; simp at hlt)
    have hxk : xs[k]? = some xs[k] := List.getElem?_eq_getElem hlt
    generalize xs[k] = x at hxk
    repeat' (first
      | refine JE.pure rfl rfl (by conv => lhs; whnf) rfl ?_
      | (refine JE.kBin ?_; (refine JE.int rfl rfl rfl rfl rfl rfl ?_; with_reducible refine JE.waysD (fun _ => ?_) (fun _ => ?_)))
      | (refine JE.kBin ?_; refine JE.int rfl rfl rfl rfl (by rw [i64_id (by omega)]) rfl ?_)
      | (refine JE.kBin ?_; (refine JE.neStr rfl rfl rfl rfl ?_; with_reducible refine JE.waysD (fun _ => ?_) (fun _ => ?_)))
      | (refine JE.kBuiltin ?_; refine JE.lenSl rfl rfl rfl ?_)
      | with_reducible refine JE.sN ?_
      | with_reducible refine JE.sX ?_
      | with_reducible refine JE.dN ?_
      | with_reducible refine J.seq ?_
      | with_reducible refine J.region ?_
      | refine J.condT rfl ?_
      | refine J.condF rfl ?_
      | with_reducible refine J.skip ?_
      | with_reducible refine J.exit ?_
      | with_reducible refine J.block ?_
      | with_reducible refine J.ret ?_
      | with_reducible refine JX.thenN ?_
      | with_reducible refine JX.thenR ?_
      | with_reducible refine JX.thenE ?_
      | with_reducible refine JX.blkS ?_
      | with_reducible refine JX.blkN ?_
      | with_reducible refine JX.blkR ?_
      | (refine J.isR 6 ?_; refine J.draw [(0, true), (1, true), (2, true), (3, true), (4, true), (5, true), (6, true), (7, true), (8, true)] [] mixed (by kernel_rfl) (fun _ h => h.drew) ?_)
      | (refine JE.kIndexAddr ?_; refine JE.indexAddr rfl rfl rfl (Int.natCast_nonneg _) (by omega) rfl ?_)
      | (refine JE.isLoadT 19 ?_; refine JE.loadRow1 rfl rfl hr (by simp) hxk rfl (fun h => by first | exact trivial | cases h) rfl ?_)
      | (refine JE.isLoadT 23 ?_; refine JE.loadRow1 rfl rfl hr' (by simp) hxk rfl (fun h => by first | exact trivial | cases h) rfl ?_))
    all_goals first
      | (exfalso; omega)
      | contradiction
      | (refine JX.round fun w'' hS' => ⟨⟨k + 1, hlt, (by repeat' (first | exact trivial | refine And.intro (by rfl) ?_)), hS'⟩, ?_⟩
         show xs.length - ((k : Int) + 1).toNat < xs.length - ((k : Int)).toNat
         omega)
  · skip
    repeat' (first
      | refine JE.pure rfl rfl (by conv => lhs; whnf) rfl ?_
      | (refine JE.kBin ?_; (refine JE.int rfl rfl rfl rfl rfl rfl ?_; with_reducible refine JE.waysD (fun _ => ?_) (fun _ => ?_)))
      | (refine JE.kBuiltin ?_; refine JE.lenSl rfl rfl rfl ?_)
      | with_reducible refine JE.sN ?_
      | with_reducible refine J.seq ?_
      | with_reducible refine J.region ?_
      | refine J.condT rfl ?_
      | refine J.condF rfl ?_
      | with_reducible refine J.skip ?_
      | with_reducible refine J.exit ?_
      | with_reducible refine J.block ?_
      | with_reducible refine J.ret ?_
      | with_reducible refine JX.thenN ?_
      | with_reducible refine JX.thenE ?_
      | with_reducible refine JX.blkS ?_)
    all_goals first
      | (exfalso; omega)
      | exact fnQ_tmp (.inl rfl) rfl (by conv => lhs; whnf) fun w'' hS' => ⟨rfl, hS'.below⟩

end Go.Proofs.Ytnapfiheholhiaa
