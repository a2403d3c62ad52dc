/-
  The calculus of this claim, sixth part: what a call changes in place, rows of the function's own, maps that are gone through. Conditions: none.
-/
import Derived.Test.YtnapfiheholhiaaRow
import Derived.Maps.RangeRun
set_option linter.unusedVariables false
set_option linter.unusedSimpArgs false
namespace Go.Proofs.YtnapfiheholhiaaSym
open Go Go.RowKit

/-! ### Segments of what is known -/
section
variable {W0 w w' : World} {olds : List Nat} {l l' ln ln' rest : List (Nat × Obj)}

theorem St.perm (h : St W0 olds l w) (hp : l.Perm l') : St W0 olds l' w :=
  ⟨h.os, h.tape, h.output, h.size, h.block, fun x hx => h.own x (hp.mem_iff.2 hx), fun x hx => h.new x (hp.mem_iff.2 hx), (hp.map _).nodup_iff.1 h.nodup⟩

/-- l is made up of ln and of rest. -/
inductive Seg : List (Nat × Obj) → List (Nat × Obj) → List (Nat × Obj) → Prop
  | head {ln r : List (Nat × Obj)} : Seg (ln ++ r) ln r
  | one {x : Nat × Obj} {r : List (Nat × Obj)} : Seg (x :: r) [x] r
  | all {ln : List (Nat × Obj)} : Seg ln ln []
  | tail {x l ln r : List (Nat × Obj)} : Seg l ln r → Seg (x ++ l) ln (x ++ r)
  | cons {x : Nat × Obj} {l ln r : List (Nat × Obj)} : Seg l ln r → Seg (x :: l) ln (x :: r)
theorem Seg.perm (h : Seg l ln rest) : l.Perm (ln ++ rest) := by
  induction h with
  | head => exact .refl _
  | one => exact .refl _
  | all => simp
  | tail _ ih => exact (ih.append_left _).trans (by rw [← List.append_assoc, ← List.append_assoc]; exact List.perm_append_comm.append_right _)
  | cons _ ih => exact (ih.cons _).trans List.perm_middle.symm

theorem In.app {α : Type} {a l : List α} {x : α} (h : In l x) : In (a ++ l) x := by
  induction a with
  | nil => exact h
  | cons y r ih => exact .tail ih
theorem In.of_mem {α : Type} : ∀ {l : List α} {x : α}, x ∈ l → In l x
  | y :: r, x, h => by
    rcases List.mem_cons.1 h with rfl | h
    · exact .head
    · exact .tail (In.of_mem h)
theorem In.seg {α : Type} {a l : List α} {x : α} (h : In a x) : In (a ++ l) x := .of_mem (List.mem_append_left _ h.mem)
theorem Turn.app {a : List (Nat × Obj)} {b : Nat} {o o' : Obj} (h : Turn l b o o' l') : Turn (a ++ l) b o o' (a ++ l') := by
  induction a with
  | nil => exact h
  | cons y r ih => exact .tail ih
theorem Drop.app {a : List (Nat × Obj)} {b : Nat} {o : Obj} (h : Drop l b o l') : Drop (a ++ l) b o (a ++ l') := by
  induction a with
  | nil => exact h
  | cons y r ih => exact .tail ih

theorem St.get (h : St W0 olds l w) {b : Nat} {o : Obj} (hi : In l (b, o)) : w.heap[b]? = some o := h.own _ hi.mem
theorem St.owns (h : St W0 olds l w) (hs : Seg l ln rest) : ∀ x ∈ ln, w.heap[x.1]? = some x.2 := fun x hx => h.own x (hs.perm.mem_iff.2 (List.mem_append_left _ hx))
theorem St.dist (h : St W0 olds l w) (hs : Seg l ln rest) : (ln.map (·.1)).Nodup := by
  have := (h.perm hs.perm).nodup
  rw [List.map_append, List.nodup_append] at this
  exact this.1
theorem St.news (h : St W0 [] l w) {x : Nat × Obj} (hx : x ∈ l) : W0.heap.size ≤ x.1 := by
  rcases Nat.lt_or_ge x.1 W0.heap.size with hlt | hge
  · exact absurd (h.new x hx hlt) (by simp)
  · exact hge
/-- A call has turned ln to ln'. -/
theorem St.turnO (h : St W0 olds l w) (hs : Seg l ln rest) (hc : St w (ln.map (·.1)) ln' w') : St W0 olds (ln' ++ rest) w' := (h.perm hs.perm).compose hc
theorem St.free (h : St W0 olds l w) (hs : Seg l ln rest) : St W0 olds rest w := (h.perm hs.perm).sub (List.sublist_append_right _ _)
/-- Nothing that stood has turned. -/
theorem St.quietO (h : St W0 olds l w) (hown : ∀ x ∈ l, W0.heap[x.1]? = some x.2) (hk : ∀ k ∈ olds, k ∈ l.map (·.1)) : Below W0.heap.size W0 w :=
  h.belowO fun k hm => by
    obtain ⟨x, hx, rfl⟩ := List.mem_map.1 (hk k hm)
    exact ⟨x.2, hx, hown x hx⟩
end

/-- A call hands back v and turns ln to ln'. -/
def RetO (w : World) (ln : List (Nat × Obj)) (G : Value → List (Nat × Obj) → Prop) (e : Ending) (w' : World) : Prop := ∃ v ln', e = .returned v ∧ G v ln' ∧ St w (ln.map (·.1)) ln' w'
/-- A call hands back v and lays ln'. -/
def RetN (w : World) (G : Value → List (Nat × Obj) → Prop) (e : Ending) (w' : World) : Prop := ∃ v ln', e = .returned v ∧ G v ln' ∧ St w [] ln' w'

/-! ### Rows of the function's own -/
/-- v is a slice of xs (of k cells each) whose row, where there is one, is the block in ln. -/
def Own {α : Type} (k : Nat) (enc : α → List Value) (e : TypeId) (v : Value) (xs : List α) (ln : List (Nat × Obj)) : Prop :=
  (v = .slice none 0 0 ∧ xs = [] ∧ ln = []) ∨ ∃ B cap cur, v = .slice (some ⟨B, 0, none⟩) xs.length cap ∧ OwnC k xs.length cap cur (xs.flatMap enc) ∧ ln = [(B, .cells cur e (0, 0))]

section
variable {α : Type} {k : Nat} {enc : α → List Value} {e : TypeId} {v : Value} {xs ys : List α} {ln : List (Nat × Obj)} {w w' : World}
theorem Own.nil : Own k enc e (.slice none 0 0) [] [] := .inl ⟨rfl, rfl, rfl⟩
theorem Own.empty {B : Nat} : Own k enc e (.slice (some ⟨B, 0, none⟩) 0 0) [] [(B, .cells #[] e (0, 0))] := .inr ⟨B, 0, #[], rfl, OwnC.nil k, rfl⟩
theorem Own.shape (h : Own k enc e v xs ln) : ∃ a c, v = .slice a xs.length c ∧ xs.length ≤ c := by
  rcases h with ⟨rfl, rfl, rfl⟩ | ⟨B, cap, cur, rfl, h, rfl⟩
  · exact ⟨_, _, rfl, Nat.le_refl _⟩
  · exact ⟨_, _, rfl, h.room⟩
theorem Own.short (h : Own k enc e v xs ln) : xs.length ≤ maxLen := by
  rcases h with ⟨rfl, rfl, rfl⟩ | ⟨B, cap, cur, rfl, h, rfl⟩
  · exact Nat.zero_le _
  · exact Nat.le_trans h.room h.most
theorem Own.sl (hk : ∀ x, (enc x).length = k) (h : Own k enc e v xs ln) (hw : ∀ x ∈ ln, w.heap[x.1]? = some x.2) : Sl k enc w v xs := by
  rcases h with ⟨rfl, rfl, rfl⟩ | ⟨B, cap, cur, rfl, h, rfl⟩
  · exact ⟨none, 0, rfl, fun hne => absurd rfl hne⟩
  · exact h.sl hk (hw _ (List.mem_singleton.2 rfl))
/-- A literal's row. -/
theorem Own.lit (hk : ∀ x, (enc x).length = k) {B m : Nat} {cs : List Value} (hm : xs.length = m) (hmost : m ≤ maxLen) (he : xs.flatMap enc = cs) : Own k enc e (.slice (some ⟨B, 0, none⟩) m m) xs [(B, cel cs e)] := by
  subst hm he
  exact .inr ⟨B, _, _, rfl, ⟨flat_length hk xs, Nat.le_refl _, hmost, List.size_toArray.trans (flat_length hk xs), List.take_of_length_le (Nat.le_of_eq (flat_length hk xs))⟩, rfl⟩
theorem Own.nodup (h : Own k enc e v xs ln) : (ln.map (·.1)).Nodup := by
  rcases h with ⟨rfl, rfl, rfl⟩ | ⟨B, cap, cur, rfl, h, rfl⟩ <;> simp
theorem Own.byLen (h : Own k enc e v xs ln) : (∃ a c, v = .slice a (xs.length) c) := by
  obtain ⟨a, c, h, _⟩ := h.shape; exact ⟨a, c, h⟩

theorem run_appendOwn {P : Program} {bytes : Nat} {t T : TypeId} {vs : Value} [hE : ElemT P t e k bytes]
    (ho : Own k enc e vs xs ln) (hown : ∀ x ∈ ln, w.heap[x.1]? = some x.2) (henc : ∀ y, (enc y).length = k) (hone : ∀ y, (enc y).all oneV = true) (hv : Sl k enc w v ys) (hbytes : (xs.length + ys.length) * bytes ≤ 140737488355328) (hmost : xs.length + ys.length ≤ maxLen) :
    ∃ v' w' ln', (Builtin.append_ #[t, t] T #[vs, v]).run P w = .ok v' w' ∧ Own k enc e v' (xs ++ ys) ln' ∧ St w (ln.map (·.1)) ln' w' := by
  obtain ⟨inf, z, i1, i2, i3, i4, i5, i6⟩ := hE.info
  obtain ⟨a, c, rfl, hsl⟩ := hv
  have hl0 := flat_length henc ys
  by_cases hm0 : ys = []
  · subst hm0
    obtain ⟨a', c', rfl, hroom⟩ := ho.shape
    refine ⟨.slice a' xs.length c', w, ln, ?_, by simpa using ho, St.startO hown ho.nodup⟩
    have hf : ∀ m, (Builtin.firstCells m 0 (.slice a 0 c)).run P w = .ok #[] w := fun m => by
      cases a <;> simp [Builtin.firstCells, loadCells, loadCellsFrom]
    cases a' <;> simp [Builtin.append_, run_underlying hE.und, sizeOf, typeInfo, i1, Builtin.lenOf, hroom, hf, storeCells]
  · obtain ⟨B2, off2, rfl, c2, T2, fr2, hb2, hc2⟩ := hsl hm0
    have hpos : 0 < ys.length := List.length_pos_iff.2 hm0
    have hnews : ∀ (w1 : World), w1.heap = w.heap → ∀ j u, (ys.flatMap enc)[j]? = some u → w1.cell? ((⟨B2, off2, none⟩ : Addr).add j) = some u := fun w1 hw1 j u hj => by
      obtain ⟨i', y, j', rfl, h1, h2⟩ := flat_inv henc ys j u hj
      rw [add_eq, cell?_block (hw1 ▸ hb2), ← Nat.add_assoc]
      exact hc2 i' y h1 j' u h2
    have h1 : ∀ u ∈ ys.flatMap enc, oneV u = true := fun u hu => by
      obtain ⟨y, _, hy⟩ := List.mem_flatMap.1 hu
      exact List.all_eq_true.1 (hone y) u hy
    have hnew : ∀ (w' : World) (g : Nat) (cap' : Nat) (cur' : Array Value), w.grownBy w' none → w.heap.size ≤ g → w'.heap[g]? = some (.cells cur' e (0, 0)) → (∀ x ∈ ln, x.1 < w.heap.size) → St w (ln.map (·.1)) [(g, .cells cur' e (0, 0))] w' := fun w' g cap' cur' r3 hg hc _ =>
      ⟨r3.os, r3.tape, r3.output, r3.size, fun q hq _ => r3.block q hq (by simp), fun x hx => by rw [List.mem_singleton.1 hx]; exact hc, fun x hx hlt => by rw [List.mem_singleton.1 hx] at hlt; simp only at hlt; omega, by simp⟩
    have hlns : ∀ x ∈ ln, x.1 < w.heap.size := fun x hx => (Array.getElem?_eq_some_iff.1 (hown x hx)).1
    rcases ho with ⟨rfl, rfl, rfl⟩ | ⟨B, cap, cur, rfl, ho, rfl⟩
    · simp only [List.length_nil, Nat.zero_add] at hbytes hmost
      have hr := run_append_nil (P := P) w t T e inf z hE.und i1 i2 ⟨B2, off2, none⟩ ys.length c (ys.flatMap enc) (by rw [hl0, i3]) (hnews w rfl) hpos (by simp only [maxLen] at hmost; omega) (by rw [i4]; omega)
      have hge := grownCap_ge w ys.length 0 e
      have hcm : grownCap w ys.length 0 e ≤ maxLen := grownCap_le_maxLen w ys.length 0 e hmost
      refine ⟨_, _, _, hr, .inr ⟨w.heap.size, grownCap w ys.length 0 e, _, rfl, ⟨hl0, hge, hcm, ?_, ?_⟩, rfl⟩, hnew _ w.heap.size (grownCap w ys.length 0 e) _ ⟨rfl, rfl, rfl, by simp, fun q hq _ => heap_alloc_old w.drew _ hq⟩ (Nat.le_refl _) (heap_alloc_new w.drew _) (by simp)⟩
      · simp only [Array.size_append, List.size_toArray, size_zeroCells, i5, hl0, ← Nat.add_mul]
        congr 1
        omega
      · simp only [Array.toList_append, List.nil_append]
        rw [← hl0]
        exact List.take_left
    · have hblk : w.heap[B]? = some (.cells cur e (0, 0)) := hown _ (List.mem_singleton.2 rfl)
      have hBl : B < w.heap.size := hlns _ (List.mem_singleton.2 rfl)
      by_cases hr : xs.length + ys.length ≤ cap
      · have hcc : cel cur.toList e = .cells cur e (0, 0) := by simp [cel]
        have hfc := run_firstCells_some (P := P) (w := w) k ys.length ⟨B2, off2, none⟩ ys.length c (ys.flatMap enc) hl0 (hnews w rfl)
        have hmul : (xs.length + ys.length) * k ≤ cap * k := Nat.mul_le_mul_right _ hr
        rw [Nat.add_mul] at hmul
        have hcl : cur.toList.length = cap * k := by rw [Array.length_toList, ho.all]
        have hle : xs.length * k + (ys.flatMap enc).length ≤ cur.toList.length := by rw [hl0, hcl]; exact hmul
        have hst := run_storeCells (P := P) (T' := e) (b := B) (ys.flatMap enc) w (xs.length * k) 0 cur.toList (by rw [hcc]; exact hblk) (by simpa using hle) h1
        rw [Nat.add_zero] at hst
        refine ⟨.slice (some ⟨B, 0, none⟩) (xs.length + ys.length) cap, w.turned B (cel (lay cur.toList (xs.length * k) (ys.flatMap enc)) e), [(B, cel (lay cur.toList (xs.length * k) (ys.flatMap enc)) e)], ?_, .inr ⟨B, cap, (lay cur.toList (xs.length * k) (ys.flatMap enc)).toArray, by rw [List.length_append], ⟨?_, by rw [List.length_append]; exact hr, ho.most, ?_, ?_⟩, rfl⟩, ?_⟩
        · simp [Builtin.append_, run_underlying hE.und, sizeOf, typeInfo, i1, i3, Builtin.lenOf, hr, hfc, add_eq, hst]
        · rw [flat_length henc]
        · rw [List.size_toArray, lay_length, hcl]
        · have hkt : (cur.toList.take (xs.length * k)).length = xs.length * k := by rw [List.length_take]; omega
          have hkl : (cur.toList.take (xs.length * k) ++ ys.flatMap enc).length = (xs ++ ys).length * k := by rw [List.length_append, hkt, hl0, List.length_append, Nat.add_mul]
          rw [lay_eq _ _ _ hle, ← hkl, List.take_left, ho.take, List.flatMap_append]
        · exact (St.startO (l := [(B, .cells cur e (0, 0))]) (fun x hx => by rw [List.mem_singleton.1 hx]; exact hblk) (by simp)).turned .head
      · have holds : ∀ j u, (xs.flatMap enc)[j]? = some u → w.cell? ((⟨B, 0, none⟩ : Addr).add j) = some u := fun j u hj => by
          rw [add_eq, cell?_block hblk, Nat.zero_add]
          rw [← ho.take, List.getElem?_take] at hj
          split at hj
          · simpa using hj
          · cases hj
        obtain ⟨v', w', r1, r2, r3⟩ := run_append_arg_grows (P := P) w t T e inf z k bytes hE.und i1 i2 i3 i4 i5 i6 ⟨B, 0, none⟩ xs.length cap (xs.flatMap enc) ho.len holds ⟨B2, off2, none⟩ ys.length c (ys.flatMap enc) hl0 (hnews w rfl) (by omega) hmost hbytes
        obtain ⟨q1, q2⟩ := r2
        rcases q2 with ⟨_, q3⟩ | ⟨g', cap', cur', rfl, q3, q4, q5, q6, q7, q8⟩
        · omega
        · exact ⟨_, w', _, r1, .inr ⟨g', cap', cur', by rw [List.length_append], ⟨by rw [flat_length henc], by rw [List.length_append]; exact q5, q6, q7, by rw [List.flatMap_append, List.length_append]; exact q8⟩, rfl⟩, hnew w' g' cap' cur' r3 q3 q4 hlns⟩
end

section
variable {P : Program} {n : Nat} {ops : Array Oper} {pl : Plan} {S : World → Prop} {E : List Entry} {Q : Post} {f : Fr} {i : Nat} {b : Bool}
variable {dst : Option Tmp} {T : TypeId} {pos : String} {af : Array Edge} {g : Option (Nat × Bool)} {W0 : World} {olds : List Nat} {l l' ln rest : List (Nat × Obj)}

theorem JE.perm (hp : l.Perm l') (h : JE P n ops pl (St W0 olds l') E Q f) : JE P n ops pl (St W0 olds l) E Q f := ⟨fun w hS => h.run w (hS.perm hp)⟩
theorem J.perm {c : Code} (hp : l.Perm l') (h : J P n (St W0 olds l') c Q f) : J P n (St W0 olds l) c Q f := ⟨fun w hS => h.run w (hS.perm hp)⟩
theorem JE.fact {p : Prop} (hp : ∀ w, S w → p) (h : p → JE P n ops pl S E Q f) : JE P n ops pl S E Q f := ⟨fun w hw => (h (hp w hw)).run w hw⟩

/-- Is it an 'append' onto what slot t holds? -/
theorem JE.isAppT (t : Tmp) {x : Operand} {ts : Array TypeId} (h : JE P n ops pl S ((i, ⟨dst, .call { callee := .builtin .append, args := #[.tmp t, x], argTypes := ts }, T, pos, af, g⟩, b) :: E) Q f) : JE P n ops pl S ((i, ⟨dst, .call { callee := .builtin .append, args := #[.tmp t, x], argTypes := ts }, T, pos, af, g⟩, b) :: E) Q f := h
/-- 'append' onto a row of the function's own. -/
theorem JE.appendOwn {α : Type} {k bytes : Nat} {enc : α → List Value} {s x : Operand} {t e : TypeId} {vs v : Value} {xs ys : List α} [hE : ElemT P t e k bytes]
    (hw : wantF ops f ⟨dst, .call { callee := .builtin .append, args := #[s, x], argTypes := #[t, t] }, T, pos, af, g⟩ = true) (hs : ev f s = vs) (hx : ev f x = v)
    (ho : Own k enc e vs xs ln) (hseg : Seg l ln rest) (henc : ∀ y, (enc y).length = k) (hone : ∀ y, (enc y).all oneV = true) (hv : ∀ w, St W0 olds l w → Sl k enc w v ys)
    (hbytes : (xs.length + ys.length) * bytes ≤ 140737488355328) (hmost : xs.length + ys.length ≤ maxLen) (hmod : ∀ w w' ln', St w (ln.map (·.1)) ln' w' → pl.Mod i w w') (hd : dstOk n dst = true)
    (h : ∀ v' ln', Own k enc e v' (xs ++ ys) ln' → JE P n ops pl (St W0 olds (ln' ++ rest)) E Q (updO f dst v')) :
    JE P n ops pl (St W0 olds l) ((i, ⟨dst, .call { callee := .builtin .append, args := #[s, x], argTypes := #[t, t] }, T, pos, af, g⟩, false) :: E) Q f := ⟨fun w hS => by
  obtain ⟨v', w', ln', hrun, ho', hst⟩ := run_appendOwn (P := P) (T := T) (t := t) ho (hS.owns hseg) henc hone (hv w hS) hbytes hmost
  refine WE.act (R := fun u w'' => u = v' ∧ w'' = w') hw ?_ hd ?_
  · simp only [Step, execOp, resolve, invoke, builtin]
    simp [hs, hx, hrun]
  · rintro u w'' ⟨rfl, rfl⟩
    exact ⟨hmod _ _ _ hst, (h _ _ ho').run _ (hS.turnO hseg hst)⟩⟩

/-- A call that turns what it is handed (ln). -/
theorem CallG.obj {h : FuncId} {ys : List Value} {G : Value → List (Nat × Obj) → Prop} (hseg : Seg l ln rest) (hc : ∀ w, St W0 olds l w → Does P h ys w fun e w' => ∃ v ln', e = .returned v ∧ G v ln' ∧ St w (ln.map (·.1)) ln' w')
    (hmod : ∀ w w' ln', St w (ln.map (·.1)) ln' w' → pl.Mod i w w') (hr : ∀ v ln', G v ln' → JE P n ops pl (St W0 olds (ln' ++ rest)) E Q (updO f dst v)) : CallG P n ops pl (St W0 olds l) E Q f i dst h ys := ⟨fun w hS =>
  ⟨fun u w' => ∃ ln', G u ln' ∧ St w (ln.map (·.1)) ln' w', (hc w hS).mono fun _ _ ⟨v, ln', he, hg, hb⟩ => ⟨v, he, ln', hg, hb⟩, fun _ w' ⟨ln', hg, hb⟩ => ⟨hmod _ _ _ hb, (hr _ _ hg).run _ (hS.turnO hseg hb)⟩⟩⟩

/-- A call that lays new blocks. -/
theorem CallG.news {h : FuncId} {ys : List Value} {G : Value → List (Nat × Obj) → Prop} (hc : ∀ w, St W0 olds l w → Does P h ys w fun e w' => ∃ v ln', e = .returned v ∧ G v ln' ∧ St w [] ln' w')
    (hr : ∀ v ln', G v ln' → JE P n ops pl (St W0 olds (ln' ++ l)) E Q (updO f dst v)) : CallG P n ops pl (St W0 olds l) E Q f i dst h ys := ⟨fun w hS =>
  ⟨fun u w' => ∃ ln', G u ln' ∧ St w [] ln' w', (hc w hS).mono fun _ _ ⟨v, ln', he, hg, hb⟩ => ⟨v, he, ln', hg, hb⟩, fun _ w' ⟨ln', hg, hb⟩ => ⟨pl.grow i w w' hb.below, (hr _ _ hg).run _ (St.compose (l := []) hS hb)⟩⟩⟩

/-- An element of a row that can be read now. -/
theorem JE.loadRowS {α : Type} {k : Nat} {enc : α → List Value} {t : TypeId} {y : Operand} {B off j : Nat} {xs : List α} {x : α} {vs : List Value} [hA : AggT P t k] (hw : wantF ops f ⟨dst, .load t y, T, pos, af, g⟩ = true)
    (hy : ev f y = .pointer (some ⟨B, off + j * k, none⟩)) (hr : ∀ w, S w → RowsAt k enc w B off xs) (hj : xs[j]? = some x) (he : enc x = vs) (hk : vs.length = k) (hc : b = true → pl.calm i) (hd : dstOk n dst = true)
    (h : JE P n ops pl S E Q (updO f dst (.agg vs.toArray))) : JE P n ops pl S ((i, ⟨dst, .load t y, T, pos, af, g⟩, b) :: E) Q f := ⟨fun w hS => by
  obtain ⟨c, T', fr, h1, h2⟩ := hr w hS
  refine .quiet (fun w => w.heap[B]? = some (.cells c T' fr)) (fun hb => pl.hush i _ (hc hb) fun w w' hww h => ?_) h1 hw (fun w hb => ?_) hd (h.run w hS)
  · exact (hww B (Array.getElem?_eq_some_iff.1 h).1).trans h
  · have hl : ∀ j' v, vs[j']? = some v → w.cell? ((⟨B, off + j * k, none⟩ : Addr).add j') = some v := fun j' v hv => by
      rw [add_eq, cell?_block hb]
      exact h2 j x hj j' v (by rw [he]; exact hv)
    have := run_loadCells_list (P := P) w ⟨B, off + j * k, none⟩ vs hl
    rw [hk] at this
    simp [execOp, hy, Instr.loadAt, Instr.sureAddr, loadVar, hA.isAgg, hA.size, this]⟩

/-- One cell of an element of a row that can be read now. -/
theorem JE.loadRowCS {α : Type} {k o : Nat} {enc : α → List Value} {t : TypeId} {y : Operand} {B off j : Nat} {xs : List α} {x : α} {u v : Value} [hA : Scal P t] (hw : wantF ops f ⟨dst, .load t y, T, pos, af, g⟩ = true)
    (hy : ev f y = .pointer (some ⟨B, off + j * k + o, none⟩)) (hr : ∀ w, S w → RowsAt k enc w B off xs) (hj : xs[j]? = some x) (he : nthV (enc x) o = some u) (hu : u = v) (hc : b = true → pl.calm i) (hd : dstOk n dst = true)
    (h : JE P n ops pl S E Q (updO f dst v)) : JE P n ops pl S ((i, ⟨dst, .load t y, T, pos, af, g⟩, b) :: E) Q f := ⟨fun w hS => by
  obtain ⟨c, T', fr, h1, h2⟩ := hr w hS
  subst hu
  refine .quiet (fun w => w.heap[B]? = some (.cells c T' fr)) (fun hb => pl.hush i _ (hc hb) fun w w' hww h => ?_) h1 hw (fun w hb => ?_) hd (h.run w hS)
  · exact (hww B (Array.getElem?_eq_some_iff.1 h).1).trans h
  · have hv : w.cell? ⟨B, off + j * k + o, none⟩ = some u := by
      rw [cell?_block hb]
      exact h2 j x hj o u (by rw [← he, nthV_eq])
    simp [execOp, hy, Instr.loadAt, Instr.sureAddr, loadVar, hA.isAgg, hv]⟩

theorem JE.loadRow1S {α : Type} {enc : α → List Value} {t : TypeId} {y : Operand} {B off j : Nat} {xs : List α} {x : α} {v : Value} [hA : Scal P t] (hw : wantF ops f ⟨dst, .load t y, T, pos, af, g⟩ = true)
    (hy : ev f y = .pointer (some ⟨B, off + j * 1, none⟩)) (hr : ∀ w, S w → RowsAt 1 enc w B off xs) (hj : xs[j]? = some x) (he : enc x = [v]) (hc : b = true → pl.calm i) (hd : dstOk n dst = true)
    (h : JE P n ops pl S E Q (updO f dst v)) : JE P n ops pl S ((i, ⟨dst, .load t y, T, pos, af, g⟩, b) :: E) Q f :=
  JE.loadRowCS (o := 0) hw (by rw [hy]; rfl) hr hj (by rw [he]; rfl) rfl hc hd h

/-- A slice of a slice, whatever world it is read in. -/
theorem JE.sliceP {α : Type} {k : Nat} {enc : α → List Value} {t e : TypeId} {x : Operand} {lo hi : Option Operand} {a : Option Addr} {m c p q : Nat} {xs : List α} {Pw : World → Prop} [ht : SliceT P t e] [hz : SizeT P e k]
    (hw : wantF ops f ⟨dst, .slice t x lo hi none, T, pos, af, g⟩ = true) (hx : ev f x = .slice a m c) (hlo : Bnd f 0 lo p) (hhi : Bnd f m hi q) (hpq : p ≤ q) (hqm : q ≤ m) (hmc : m ≤ c) (hs : ∀ W, Pw W → Sl k enc W (.slice a m c) xs) (hd : dstOk n dst = true)
    (h : ∀ a', (∀ W, Pw W → Sl k enc W (.slice a' (q - p) (c - p)) ((xs.take q).drop p)) → JE P n ops pl S E Q (updO f dst (.slice a' (q - p) (c - p)))) :
    JE P n ops pl S ((i, ⟨dst, .slice t x lo hi none, T, pos, af, g⟩, b) :: E) Q f := by
  have hsl : ∀ W, Pw W → Sl k enc W (.slice (if c = p then a else a.map (·.add (p * k))) (q - p) (c - p)) ((xs.take q).drop p) := fun W hW => by
    obtain ⟨a1, c1, e1, h1⟩ := hs W hW
    cases e1
    have hlen : ((xs.take q).drop p).length = q - p := by simp; omega
    refine ⟨_, _, by rw [hlen], fun hne => ?_⟩
    have hne' : xs ≠ [] := by rintro rfl; simp at hne
    obtain ⟨B, off, rfl, c0, T0, fr0, hb, hc⟩ := h1 hne'
    have hcp : ¬ c = p := fun e => hne (List.eq_nil_of_length_eq_zero (by omega))
    refine ⟨B, off + p * k, by rw [if_neg hcp]; simp [add_eq], c0, T0, fr0, hb, fun i' y hy j u hu => ?_⟩
    rw [List.getElem?_drop, List.getElem?_take] at hy
    split at hy
    · have := hc _ y hy j u hu
      rw [← this]
      congr 1
      rw [Nat.add_mul]; omega
    · cases hy
  refine JE.val hw (fun w => ?_) hd (h _ hsl)
  have e1 : (lo = none ∧ p = 0) ∨ ∃ o k', lo = some o ∧ ev f o = .int k' (p : Int) := by
    cases lo with
    | none => exact .inl ⟨rfl, hlo⟩
    | some o => obtain ⟨k', hk'⟩ := hlo; exact .inr ⟨o, k', rfl, hk'⟩
  have e2 : (hi = none ∧ q = m) ∨ ∃ o k', hi = some o ∧ ev f o = .int k' (q : Int) := by
    cases hi with
    | none => exact .inl ⟨rfl, hhi⟩
    | some o => obtain ⟨k', hk'⟩ := hhi; exact .inr ⟨o, k', rfl, hk'⟩
  have hqc : q ≤ c := Nat.le_trans hqm hmc
  rcases e1 with ⟨rfl, rfl⟩ | ⟨o, k1, rfl, h1⟩ <;> rcases e2 with ⟨rfl, rfl⟩ | ⟨o', k2, rfl, h2⟩ <;>
    simp_all [execOp, Instr.sliceAt, Instr.slice, Instr.sliceBounds, Instr.sliceBound, asIntOf, ht.under, hz.size]

/-- The rows of a slice that can be read now. -/
theorem rows_of {α : Type} {k : Nat} {enc : α → List Value} {S : World → Prop} {B off m c : Nat} {xs : List α} (h : ∀ w, S w → Sl k enc w (.slice (some ⟨B, off, none⟩) m c) xs) (hne : xs ≠ []) : ∀ w, S w → RowsAt k enc w B off xs := fun w hw => by
  obtain ⟨a, c', e1, h2⟩ := h w hw
  obtain ⟨B', off', e2, h3⟩ := h2 hne
  simp only [Value.slice.injEq] at e1
  rw [← e1.1] at e2
  simp only [Option.some.injEq, Addr.mk.injEq] at e2
  rw [e2.1, e2.2.1]; exact h3

/-! ### Maps that are gone through -/
section
variable {K V : Type} {encK : K → Value} {encV : V → Value} {kvs dn td : List (K × V)} {o io : Obj} {B : Nat}
/-- The iterator io over the map o in block B has handed out dn; td is left. -/
def IterO (o : Obj) (B : Nat) (io : Obj) (kvs dn td : List (K × V)) : Prop :=
  ∃ es clock seen, ∃ Z1 Z2 : List (MapEntry × (K × V)), o = .map es clock ∧ io = .mapIter (some B) clock seen clock ∧ (Z1 ++ Z2).Perm (es.toList.zip kvs) ∧ seen.toList = Z1.map (·.1.born) ∧ dn = Z1.map (·.2) ∧ td = Z2.map (·.2)

theorem IterO.perm (ho : MapO encK encV o kvs) (h : IterO o B io kvs dn td) : (dn ++ td).Perm kvs := by
  obtain ⟨es, clock, seen, Z1, Z2, rfl, rfl, hp, _, rfl, rfl⟩ := h
  obtain ⟨es', clock', e, he, _, _⟩ := ho
  cases e
  have hlen : es.toList.length = kvs.length := by simpa using congrArg List.length he
  rw [← List.map_append]
  refine (hp.map _).trans ?_
  rw [List.map_snd_zip (by omega)]

theorem run_next_mapO {P : Program} {w : World} {r : Nat} {ty : TypeId} (ho : MapO encK encV o kvs) (hi : IterO o B io kvs dn td) (hr : w.heap[r]? = some io) (hb : w.heap[B]? = some o) :
    (td = [] ∧ (Instr.next (.pointer (some ⟨r, 0, none⟩)) false ty).run P w = .ok (.tuple #[.bool false]) w) ∨
    ∃ a td1 td2 io', td = td1 ++ a :: td2 ∧ IterO o B io' kvs (dn ++ [a]) (td1 ++ td2) ∧ ∃ w1 : World, (w1 = w ∨ w1 = w.drew) ∧ (Instr.next (.pointer (some ⟨r, 0, none⟩)) false ty).run P w = .ok (.tuple #[.bool true, encK a.1, encV a.2]) (w1.turned r io') := by
  obtain ⟨es, clock, seen, Z1, Z2, rfl, rfl, hp, hseen, rfl, rfl⟩ := hi
  obtain ⟨es', clock', e, he, hborn, hnd⟩ := ho
  cases e
  have hlen : es.toList.length = kvs.length := by simpa using congrArg List.length he
  have hz1 : (es.toList.zip kvs).map (·.1) = es.toList := List.map_fst_zip (by omega)
  have hzrel : ∀ z ∈ es.toList.zip kvs, z.1.key = encK z.2.1 ∧ z.1.val = encV z.2.2 := fun z hz => by
    obtain ⟨j, hj, rfl⟩ := List.mem_iff_getElem.1 hz
    have hj' : j < es.toList.length := by simp at hj ⊢; omega
    have hk' : j < kvs.length := by omega
    have := congrArg (fun l => l[j]?) he
    simp only [List.getElem?_map, List.getElem?_eq_getElem hj', List.getElem?_eq_getElem hk', Option.map_some, Option.some.injEq, Prod.mk.injEq] at this
    simpa [List.getElem_zip] using this
  have hzn : ((Z1 ++ Z2).map (·.1.born)).Nodup := by
    have : ((es.toList.zip kvs).map (·.1.born)).Nodup := by
      have e1 : (es.toList.zip kvs).map (·.1.born) = es.toList.map (·.born) := by
        conv => rhs; rw [← hz1, List.map_map]
        rfl
      rw [e1]; exact hnd
    exact (hp.map _).nodup_iff.2 this
  rw [List.map_append, List.nodup_append] at hzn
  obtain ⟨_, _, hdis⟩ := hzn
  have hcont : ∀ x : Nat, seen.contains x = true ↔ x ∈ Z1.map (·.1.born) := fun x => by
    rw [← hseen]; simp
  have hmem : ∀ e ∈ (leftOf es seen).toList, ∃ z ∈ Z2, z.1 = e := fun e hm => by
    simp only [leftOf, Array.toList_filter, List.mem_filter, Bool.not_eq_true'] at hm
    obtain ⟨hm1, hm2⟩ := hm
    have : e ∈ (es.toList.zip kvs).map (·.1) := by rw [hz1]; exact hm1
    obtain ⟨z, hz, rfl⟩ := List.mem_map.1 this
    rcases List.mem_append.1 (hp.mem_iff.2 hz) with h1 | h2
    · exfalso
      have : seen.contains z.1.born = true := (hcont _).2 (List.mem_map.2 ⟨z, h1, rfl⟩)
      rw [this] at hm2; cases hm2
    · exact ⟨z, h2, rfl⟩
  rcases run_next_at (P := P) w ty r B clock clock seen es clock hr hb hborn (Nat.le_refl _) with ⟨h0, hrun⟩ | ⟨e, hme, w1, hw1, hrun⟩
  · left
    refine ⟨?_, hrun⟩
    rw [List.map_eq_nil_iff]
    apply List.eq_nil_iff_forall_not_mem.2
    intro z hz
    have hme : z.1 ∈ (leftOf es seen).toList := by
      simp only [leftOf, Array.toList_filter, List.mem_filter, Bool.not_eq_true']
      refine ⟨?_, ?_⟩
      · have : z ∈ es.toList.zip kvs := hp.mem_iff.1 (List.mem_append_right _ hz)
        rw [← hz1]; exact List.mem_map_of_mem this
      · cases hc : seen.contains z.1.born with
        | false => rfl
        | true => exact absurd rfl (hdis _ ((hcont _).1 hc) _ (List.mem_map.2 ⟨z, hz, rfl⟩))
    have : (leftOf es seen).toList = [] := by
      apply List.eq_nil_of_length_eq_zero; simpa using h0
    rw [this] at hme; cases hme
  · right
    obtain ⟨z, hz, rfl⟩ := hmem e hme
    obtain ⟨Za, Zb, rfl⟩ := List.append_of_mem hz
    have hrel := hzrel z (hp.mem_iff.1 (List.mem_append_right _ hz))
    refine ⟨z.2, Za.map (·.2), Zb.map (·.2), .mapIter (some B) clock (seen.push z.1.born) clock, by simp, ⟨es, clock, seen.push z.1.born, Z1 ++ [z], Za ++ Zb, rfl, rfl, ?_, by simp [hseen], by simp, by simp⟩, w1, hw1, ?_⟩
    · refine List.Perm.trans ?_ hp
      rw [List.append_assoc]
      exact List.Perm.append_left _ (show (z :: (Za ++ Zb)).Perm (Za ++ z :: Zb) from List.perm_middle.symm)
    · rw [hrun, hrel.1, hrel.2]; rfl

theorem JE.rangeMap {t kt et : TypeId} {x : Operand} [ht : MapT P t kt et] (hw : wantF ops f ⟨dst, .range t x, T, pos, af, g⟩ = true) (hx : ev f x = .map (some B)) (hk : In l (B, o)) (ho : MapO encK encV o kvs) (hd : dstOk n dst = true)
    (h : ∀ r io, W0.heap.size ≤ r → IterO o B io kvs [] kvs → JE P n ops pl (St W0 olds ((r, io) :: l)) E Q (updO f dst (.pointer (some ⟨r, 0, none⟩)))) :
    JE P n ops pl (St W0 olds l) ((i, ⟨dst, .range t x, T, pos, af, g⟩, false) :: E) Q f := ⟨fun w hS => by
  have hb := hS.own _ hk.mem
  obtain ⟨es, clock, rfl, he, h1, h2⟩ := ho
  have hlen : es.toList.length = kvs.length := by simpa using congrArg List.length he
  refine WE.act (R := fun v w' => v = .pointer (some ⟨w.heap.size, 0, none⟩) ∧ w' = w.alloc (.mapIter (some B) clock #[] clock)) hw ?_ hd ?_
  · simp [Step, execOp, Instr.range, hx, ht.under, run_getObj hb (by simp)]
  · rintro v w' ⟨rfl, rfl⟩
    refine ⟨pl.grow i w _ ((Below.refl _ _).alloc (Nat.le_refl _) _), (h _ _ hS.size ⟨es, clock, #[], [], es.toList.zip kvs, rfl, rfl, .refl _, rfl, rfl, ?_⟩).run _ (hS.alloc _)⟩
    rw [List.map_snd_zip (by omega)]⟩

theorem JE.nextMap {x : Operand} {r : Nat} (hw : wantF ops f ⟨dst, .next x false, T, pos, af, g⟩ = true) (hx : ev f x = .pointer (some ⟨r, 0, none⟩)) (ho : MapO encK encV o kvs) (hi : IterO o B io kvs dn td) (hr : In l (r, io)) (hb : In l (B, o))
    (ht : ∀ io', ∃ l', Turn l r io io' l') (hwr : pl.wr i r) (hd : dstOk n dst = true)
    (h0 : td = [] → JE P n ops pl (St W0 olds l) E Q (updO f dst (.tuple #[.bool false])))
    (h1 : ∀ a td1 td2 io' l', td = td1 ++ a :: td2 → IterO o B io' kvs (dn ++ [a]) (td1 ++ td2) → Turn l r io io' l' → JE P n ops pl (St W0 olds l') E Q (updO f dst (.tuple #[.bool true, encK a.1, encV a.2]))) :
    JE P n ops pl (St W0 olds l) ((i, ⟨dst, .next x false, T, pos, af, g⟩, false) :: E) Q f := ⟨fun w hS => by
  have hrb := hS.own _ hr.mem
  have hbb := hS.own _ hb.mem
  rcases run_next_mapO (P := P) (ty := T) ho hi hrb hbb with ⟨h, hrun⟩ | ⟨a, td1, td2, io', e, hi', w1, hw1, hrun⟩
  · refine WE.act (R := fun v w' => v = .tuple #[.bool false] ∧ w' = w) hw ?_ hd ?_
    · simp [Step, execOp, hx, hrun]
    · rintro v w' ⟨rfl, rfl⟩
      exact ⟨pl.refl i w', (h0 h).run _ hS⟩
  · obtain ⟨l', hl'⟩ := ht io'
    refine WE.act (R := fun v w' => v = .tuple #[.bool true, encK a.1, encV a.2] ∧ w' = w1.turned r io') hw ?_ hd ?_
    · simp [Step, execOp, hx, hrun]
    · rintro v w' ⟨rfl, rfl⟩
      have hS1 : St W0 olds l w1 := by
        rcases hw1 with rfl | rfl
        · exact hS
        · exact hS.drew
      have hheap : w1.heap = w.heap := by rcases hw1 with rfl | rfl <;> rfl
      refine ⟨pl.put i r w _ hwr fun j hj _ => ?_, (h1 a td1 td2 io' l' e hi' hl').run _ (hS1.turned hl')⟩
      rw [turned_other w1 _ hj, hheap]⟩

theorem run_entry_mapO {P : Program} {w : World} {r : Nat} {a : K × V} (ho : MapO encK encV o kvs) (hi : IterO o B io kvs (dn ++ [a]) td) (hr : w.heap[r]? = some io) (hb : w.heap[B]? = some o) :
    (Instr.entry (.pointer (some ⟨r, 0, none⟩))).run P w = .ok (.tuple #[encK a.1, encV a.2]) w := by
  obtain ⟨es, clock, seen, Z1, Z2, rfl, rfl, hp, hseen, hdn, rfl⟩ := hi
  obtain ⟨es', clock', e, he, hborn, hnd⟩ := ho
  cases e
  have hlen : es.toList.length = kvs.length := by simpa using congrArg List.length he
  have hne : Z1 ≠ [] := by rintro rfl; simp at hdn
  obtain ⟨Z, z, rfl⟩ : ∃ Z z, Z1 = Z ++ [z] := ⟨Z1.dropLast, Z1.getLast hne, (List.dropLast_concat_getLast hne).symm⟩
  simp only [List.map_append, List.map_cons, List.map_nil] at hdn hseen
  have ha : z.2 = a := by
    have := congrArg List.getLast? hdn
    simpa using this.symm
  have hs : seen = (Z.map (·.1.born)).toArray.push z.1.born := by
    apply Array.ext'; simp [hseen]
  have hz : z ∈ es.toList.zip kvs := hp.mem_iff.1 (by simp)
  obtain ⟨j, hj, ej⟩ := List.mem_iff_getElem.1 hz
  have hj' : j < es.toList.length := by simp at hj ⊢; omega
  have hk' : j < kvs.length := by omega
  have hrel := congrArg (fun l => l[j]?) he
  simp only [List.getElem?_map, List.getElem?_eq_getElem hj', List.getElem?_eq_getElem hk', Option.map_some, Option.some.injEq, Prod.mk.injEq] at hrel
  rw [List.getElem_zip] at ej
  subst ej ha
  rw [hs] at hr
  rw [run_entry_at (P := P) w r B clock _ es clock es.toList[j] hr hb (List.getElem_mem hj') hnd, hrel.1, hrel.2]

theorem JE.entryMap {x : Operand} {r : Nat} {a : K × V} (hw : wantF ops f ⟨dst, .entry x, T, pos, af, g⟩ = true) (hx : ev f x = .pointer (some ⟨r, 0, none⟩)) (ho : MapO encK encV o kvs) (hi : IterO o B io kvs (dn ++ [a]) td) (hr : In l (r, io)) (hb : In l (B, o)) (hd : dstOk n dst = true)
    (h : JE P n ops pl (St W0 olds l) E Q (updO f dst (.tuple #[encK a.1, encV a.2]))) :
    JE P n ops pl (St W0 olds l) ((i, ⟨dst, .entry x, T, pos, af, g⟩, false) :: E) Q f := ⟨fun w hS => by
  have hrb := hS.own _ hr.mem
  have hbb := hS.own _ hb.mem
  have hrun := run_entry_mapO (P := P) ho hi hrb hbb
  refine WE.act (R := fun v w' => v = .tuple #[encK a.1, encV a.2] ∧ w' = w) hw ?_ hd ?_
  · simp [Step, execOp, hx, hrun]
  · rintro v w' ⟨rfl, rfl⟩
    exact ⟨pl.refl i w', h.run _ hS⟩⟩
end
end

/-- 'delete' from a known map. -/
theorem run_deleteO {K V : Type} [DecidableEq K] {encK : K → Value} {encV : V → Value} {kvs : List (K × V)} {P : Program} {t t2 kt et T : TypeId} [ht : MapT P t kt et] [hK : KeyT P kt encK] {o : Obj} {w : World} {B : Nat} (hb : w.heap[B]? = some o) (ho : MapO encK encV o kvs) (k : K) :
    ∃ o', MapO encK encV o' (kdel k kvs) ∧ (Builtin.delete_ #[t, t2] T #[.map (some B), encK k]).run P w = .ok (.tuple #[]) (w.turned B o') := by
  obtain ⟨es, clock, rfl, he, hc, hn⟩ := ho
  have hf := hK.find k (kvs.map fun p => (p.1, encV p.2)) es.toList w (by rw [he]; simp)
  have hp := mfind_put encK encV k
  cases hm : mfind k (kvs.map fun p => (p.1, encV p.2)) 0 with
  | none =>
    rw [hm] at hf
    have hkd : kdel k kvs = kvs := by
      cases kvs with
      | nil => rfl
      | cons p r =>
        have := hp p.2 (p :: r) es.toList 0 he
        rw [hm] at this
        exact this.2
    refine ⟨.map es clock, ⟨es, clock, rfl, by rw [hkd]; exact he, hc, hn⟩, ?_⟩
    simp [Builtin.delete_, ht.under, run_getObj hb (by simp), hK.check, hf, run_setObj hb (by simp)]
  | some q =>
    obtain ⟨m, u⟩ := q
    rw [hm] at hf
    cases kvs with
    | nil => simp [mfind] at hm
    | cons p r =>
    have := hp p.2 (p :: r) es.toList 0 he
    rw [hm] at this
    simp only [Nat.sub_zero] at this
    obtain ⟨_, hl, _, _, hdel⟩ := this
    have hsub : List.Sublist (es.toList.eraseIdx m) es.toList := List.eraseIdx_sublist _ _
    have etl : (es.eraseIdxIfInBounds m).toList = es.toList.eraseIdx m := by
      rw [Array.eraseIdxIfInBounds]
      split
      · simp
      · rename_i hge
        rw [List.eraseIdx_of_length_le]
        simpa using hge
    refine ⟨.map (es.eraseIdxIfInBounds m) clock, ⟨_, _, rfl, by rw [etl]; exact hdel, fun e hm' => hc e (hsub.subset (by rw [etl] at hm'; exact hm')), by rw [etl]; exact hn.sublist (hsub.map _)⟩, ?_⟩
    simp [Builtin.delete_, ht.under, run_getObj hb (by simp), hK.check, hf, run_setObj hb (by simp)]

section
variable {P : Program} {n : Nat} {ops : Array Oper} {pl : Plan} {S : World → Prop} {E : List Entry} {Q : Post} {f : Fr} {i : Nat} {b : Bool}
variable {dst : Option Tmp} {T : TypeId} {pos : String} {af : Array Edge} {g : Option (Nat × Bool)} {W0 : World} {olds : List Nat} {l l' : List (Nat × Obj)}
theorem JE.deleteMap {K V : Type} [DecidableEq K] {encK : K → Value} {encV : V → Value} {kvs : List (K × V)} {t t2 kt et : TypeId} {x y : Operand} {B : Nat} {o : Obj} {k : K} [ht : MapT P t kt et] [hK : KeyT P kt encK]
    (hw : wantF ops f ⟨dst, .call { callee := .builtin .delete, args := #[x, y], argTypes := #[t, t2] }, T, pos, af, g⟩ = true)
    (hx : ev f x = .map (some B)) (hy : ev f y = encK k) (hk : In l (B, o)) (ho : MapO encK encV o kvs) (hwr : pl.wr i B) (hd : dstOk n dst = true)
    (h : ∀ o', MapO encK encV o' (kdel k kvs) → ∃ l', Turn l B o o' l' ∧ JE P n ops pl (St W0 olds l') E Q (updO f dst (.tuple #[]))) :
    JE P n ops pl (St W0 olds l) ((i, ⟨dst, .call { callee := .builtin .delete, args := #[x, y], argTypes := #[t, t2] }, T, pos, af, g⟩, false) :: E) Q f := ⟨fun w hS => by
  have hb := hS.own _ hk.mem
  obtain ⟨o', ho', hrun⟩ := run_deleteO (P := P) (t := t) (t2 := t2) (kt := kt) (et := et) (T := T) hb ho k
  obtain ⟨l', ht', hj⟩ := h o' ho'
  refine WE.act (R := fun u w' => u = .tuple #[] ∧ w' = w.turned B o') hw ?_ hd ?_
  · simp only [Step, execOp, resolve, invoke, builtin]
    simp [hx, hy, hrun]
  · rintro u w' ⟨rfl, rfl⟩
    exact ⟨pl.put i B w _ hwr fun j hj _ => turned_other w _ hj, hj.run _ (hS.turned ht')⟩⟩
end
end Go.Proofs.YtnapfiheholhiaaSym
