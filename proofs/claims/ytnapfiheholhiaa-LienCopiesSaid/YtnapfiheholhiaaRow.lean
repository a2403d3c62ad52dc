/-
  The calculus of this claim, fifth part: slices of slices, rows that grow. Conditions: none.
-/
import Derived.Test.YtnapfiheholhiaaMap
import Derived.ArgAppend
set_option linter.unusedVariables false
set_option linter.unusedSimpArgs false
namespace Go.Proofs.YtnapfiheholhiaaSym
open Go Go.RowKit

/-- A row of the call's own: n elements of so many cells each, of cells xs; more room behind. -/
structure OwnC (size n cap : Nat) (cur : Array Value) (xs : List Value) : Prop where
  len : xs.length = n * size
  room : n ≤ cap
  most : cap ≤ maxLen
  all : cur.size = cap * size
  take : cur.toList.take (n * size) = xs

/-- l' is l without block b's object o. -/
inductive Drop : List (Nat × Obj) → Nat → Obj → List (Nat × Obj) → Prop
  | head {b : Nat} {o : Obj} {l : List (Nat × Obj)} : Drop ((b, o) :: l) b o l
  | tail {x : Nat × Obj} {b : Nat} {o : Obj} {l l' : List (Nat × Obj)} : Drop l b o l' → Drop (x :: l) b o (x :: l')
theorem Drop.mem {l l' : List (Nat × Obj)} {b : Nat} {o : Obj} (h : Drop l b o l') : (b, o) ∈ l := by
  induction h with
  | head => exact List.mem_cons_self
  | tail _ ih => exact List.mem_cons_of_mem _ ih
theorem Drop.sub {l l' : List (Nat × Obj)} {b : Nat} {o : Obj} (h : Drop l b o l') : List.Sublist l' l := by
  induction h with
  | head => exact List.sublist_cons_self _ _
  | tail _ ih => exact ih.cons_cons _
theorem Drop.ne {l l' : List (Nat × Obj)} {b : Nat} {o : Obj} (h : Drop l b o l') (hn : (l.map (·.1)).Nodup) : ∀ x ∈ l', x.1 ≠ b := by
  induction h with
  | head =>
    intro x hx e
    simp only [List.map_cons, List.nodup_cons] at hn
    exact hn.1 (e ▸ List.mem_map_of_mem hx)
  | tail ht ih =>
    intro x hx
    simp only [List.map_cons, List.nodup_cons] at hn
    rcases List.mem_cons.1 hx with rfl | hx
    · exact fun e => hn.1 (e ▸ List.mem_map_of_mem (f := (·.1)) ht.mem)
    · exact ih hn.2 x hx

theorem St.rows {W0 w w' : World} {olds : List Nat} {l l' : List (Nat × Obj)} {b b' : Nat} {o o' : Obj} (h : St W0 olds l w) (hd : Drop l b o l') (hb : W0.heap.size ≤ b) (hg : w.grownBy w' (some b)) (hb' : b' = b ∨ w.heap.size ≤ b') (ho' : w'.heap[b']? = some o') :
    St W0 olds ((b', o') :: l') w' := by
  have hne := hd.ne h.nodup
  have hin : ∀ x ∈ l', x ∈ l := fun x hx => hd.sub.subset hx
  refine ⟨hg.os.trans h.os, hg.tape.trans h.tape, hg.output.trans h.output, Nat.le_trans h.size hg.size, fun k hk hn => ?_, fun x hx => ?_, fun x hx hlt => ?_, ?_⟩
  · exact (hg.block k (Nat.lt_of_lt_of_le hk h.size) (by simp; omega)).trans (h.block k hk hn)
  · rcases List.mem_cons.1 hx with rfl | hx
    · exact ho'
    · exact (hg.block x.1 (h.lt (b := x.1) (o := x.2) (hin x hx)) (by simpa using hne x hx)).trans (h.own x (hin x hx))
  · rcases List.mem_cons.1 hx with rfl | hx
    · have := h.size
      rcases hb' with rfl | hb' <;> simp only at hlt <;> omega
    · exact h.new x (hin x hx) hlt
  · simp only [List.map_cons, List.nodup_cons]
    refine ⟨fun hm => ?_, h.nodup.sublist (hd.sub.map _)⟩
    obtain ⟨x, hx, e⟩ := List.mem_map.1 hm
    rcases hb' with rfl | hb'
    · exact hne x hx e
    · have := h.lt (b := x.1) (o := x.2) (hin x hx)
      omega

/-- A call has changed the blocks l to l'; what stood beside stands. -/
theorem St.compose {W0 w w' : World} {olds : List Nat} {l l' rest : List (Nat × Obj)} (h : St W0 olds (l ++ rest) w) (hc : St w (l.map (·.1)) l' w') : St W0 olds (l' ++ rest) w' := by
  have hn := h.nodup
  rw [List.map_append, List.nodup_append] at hn
  obtain ⟨hn1, hn2, hn3⟩ := hn
  have hl' : ∀ x ∈ l', x.1 ∈ l.map (·.1) ∨ w.heap.size ≤ x.1 := fun x hx => by
    by_cases hlt : x.1 < w.heap.size
    · exact .inl (hc.new x hx hlt)
    · exact .inr (by omega)
  refine ⟨hc.os.trans h.os, hc.tape.trans h.tape, hc.output.trans h.output, Nat.le_trans h.size hc.size, fun k hk hno => ?_, fun x hx => ?_, fun x hx hlt => ?_, ?_⟩
  · have hkl : k ∉ l.map (·.1) := fun hm => by
      obtain ⟨x, hx, e⟩ := List.mem_map.1 hm
      have e' : x.1 = k := e
      exact hno (e' ▸ h.new x (List.mem_append_left _ hx) (by rw [e']; exact hk))
    exact (hc.block k (Nat.lt_of_lt_of_le hk h.size) hkl).trans (h.block k hk hno)
  · rcases List.mem_append.1 hx with hx | hx
    · exact hc.own x hx
    · have hlt := h.lt (b := x.1) (o := x.2) (List.mem_append_right _ hx)
      exact (hc.block x.1 hlt fun hm => hn3 _ hm _ (List.mem_map_of_mem hx) rfl).trans (h.own x (List.mem_append_right _ hx))
  · rcases List.mem_append.1 hx with hx | hx
    · rcases hl' x hx with hm | hge
      · obtain ⟨y, hy, e⟩ := List.mem_map.1 hm
        have e' : y.1 = x.1 := e
        exact e' ▸ h.new y (List.mem_append_left _ hy) (by rw [e']; exact hlt)
      · have := h.size; omega
    · exact h.new x (List.mem_append_right _ hx) hlt
  · rw [List.map_append, List.nodup_append]
    refine ⟨hc.nodup, hn2, fun a ha c hcc e => ?_⟩
    obtain ⟨x, hx, ex⟩ := List.mem_map.1 ha
    obtain ⟨y, hy, ey⟩ := List.mem_map.1 hcc
    have ex' : x.1 = a := ex
    have ey' : y.1 = c := ey
    rcases hl' x hx with hm | hge
    · exact hn3 _ hm _ hcc (ex'.trans e)
    · have := h.lt (b := y.1) (o := y.2) (List.mem_append_right _ hy)
      omega

theorem flat_inv {α : Type} {k : Nat} {enc : α → List Value} (hk : ∀ x, (enc x).length = k) : ∀ (xs : List α) (j : Nat) (u : Value), (xs.flatMap enc)[j]? = some u → ∃ i x j', j = i * k + j' ∧ xs[i]? = some x ∧ (enc x)[j']? = some u
  | [], _, _, h => by simp at h
  | y :: r, j, u, h => by
    rw [List.flatMap_cons, List.getElem?_append] at h
    split at h
    · exact ⟨0, y, j, by simp, by simp, h⟩
    · rename_i hj
      obtain ⟨i, x, j', e, h1, h2⟩ := flat_inv hk r _ u h
      rw [hk] at hj e
      exact ⟨i + 1, x, j', by rw [Nat.add_mul]; omega, by simpa using h1, h2⟩
theorem flat_length {α : Type} {k : Nat} {enc : α → List Value} (hk : ∀ x, (enc x).length = k) : ∀ xs : List α, (xs.flatMap enc).length = xs.length * k
  | [] => by simp
  | y :: r => by rw [List.flatMap_cons, List.length_append, hk, flat_length hk r, List.length_cons, Nat.add_mul]; omega

theorem OwnC.sl {α : Type} {k cap : Nat} {enc : α → List Value} (hk : ∀ x, (enc x).length = k) {xs : List α} {cur : Array Value} (h : OwnC k xs.length cap cur (xs.flatMap enc)) {w : World} {B : Nat} {e : TypeId} (hb : w.heap[B]? = some (.cells cur e (0, 0))) :
    Sl k enc w (.slice (some ⟨B, 0, none⟩) xs.length cap) xs :=
  ⟨_, _, rfl, fun _ => ⟨B, 0, rfl, _, _, _, hb, fun i x hx j u hu => by
    have := flat_get hk xs i j x u hx hu
    rw [← h.take, List.getElem?_take] at this
    split at this
    · rw [Nat.zero_add]; simpa using this
    · cases this⟩⟩

theorem OwnC.sl2 {α : Type} {k cap : Nat} {enc : α → List Value} (hk : ∀ x, (enc x).length = k) {xs ys : List α} {cur : Array Value} (h : OwnC k (0 + xs.length + ys.length) cap cur ([] ++ xs.flatMap enc ++ ys.flatMap enc)) {w : World} {B : Nat} {e : TypeId} (hb : w.heap[B]? = some (.cells cur e (0, 0))) :
    Sl k enc w (.slice (some ⟨B, 0, none⟩) (0 + xs.length + ys.length) cap) (xs ++ ys) := by
  have e1 : 0 + xs.length + ys.length = (xs ++ ys).length := by simp
  rw [List.nil_append, ← List.flatMap_append, e1] at h
  rw [e1]
  exact h.sl hk hb

theorem lay_eq : ∀ (vs cs : List Value) (k : Nat), k + vs.length ≤ cs.length → lay cs k vs = cs.take k ++ vs ++ cs.drop (k + vs.length)
  | [], cs, k, _ => by simp [lay]
  | v :: r, cs, k, h => by
    simp only [List.length_cons] at h
    have hk : k < cs.length := by omega
    have e : (cs.set k v).take (k + 1) = cs.take k ++ [v] := by rw [List.take_add_one]; simp [hk, List.take_set_of_le]
    rw [lay, lay_eq r (cs.set k v) (k + 1) (by simp; omega), e, List.drop_set_of_lt (by omega)]
    simp only [List.append_assoc, List.cons_append, List.nil_append, List.length_cons]
    rw [show k + 1 + r.length = k + (r.length + 1) by omega]

section
variable {P : Program} {n : Nat} {ops : Array Oper} {pl : Plan} {S : World → Prop} {E : List Entry} {Q : Post} {f : Fr} {i : Nat} {b : Bool}
variable {dst : Option Tmp} {T : TypeId} {pos : String} {af : Array Edge} {g : Option (Nat × Bool)} {W0 : World} {olds : List Nat} {l l' : List (Nat × Obj)}

/-- An empty literal. -/
theorem JE.buildSlice0 {t e : TypeId} {sz : Nat} [ht : SliceT P t e] [hs : SizeT P e sz] (hw : wantF ops f ⟨dst, .buildSlice t 0 #[], T, pos, af, g⟩ = true) (hd : dstOk n dst = true)
    (h : ∀ k, W0.heap.size ≤ k → JE P n ops pl (St W0 olds ((k, .cells #[] e (0, 0)) :: l)) E Q (updO f dst (.slice (some ⟨k, 0, none⟩) 0 0))) :
    JE P n ops pl (St W0 olds l) ((i, ⟨dst, .buildSlice t 0 #[], T, pos, af, g⟩, false) :: E) Q f := ⟨fun w hS => by
  refine WE.act (R := fun v w' => v = .slice (some ⟨w.heap.size, 0, none⟩) 0 0 ∧ w' = w.alloc (.cells #[] e (0, 0))) hw ?_ hd ?_
  · simp [Step, execOp, Instr.buildSlice, ht.under, hs.size, Instr.fill, newRow, show (Array.range 0) = (#[] : Array Nat) from Array.eq_empty_of_size_eq_zero (by simp)]
  · rintro v w' ⟨rfl, rfl⟩
    exact ⟨pl.grow i w _ ((Below.refl _ _).alloc (Nat.le_refl _) _), (h _ hS.size).run _ (hS.alloc _)⟩⟩
theorem OwnC.nil (size : Nat) : OwnC size 0 0 #[] [] := ⟨by simp, Nat.le_refl _, Nat.zero_le _, by simp, by simp⟩

/-- 'append' onto an own row. -/
theorem JE.append {α : Type} {enc : α → List Value} {s x : Operand} {t e : TypeId} {size bytes B k cap : Nat} {cur : Array Value} {xs : List Value} {v : Value} {ys : List α} [hE : ElemT P t e size bytes]
    (hw : wantF ops f ⟨dst, .call { callee := .builtin .append, args := #[s, x], argTypes := #[t, t] }, T, pos, af, g⟩ = true) (hs : ev f s = .slice (some ⟨B, 0, none⟩) k cap) (hk : Drop l B (.cells cur e (0, 0)) l') (hx : ev f x = v)
    (hB : W0.heap.size ≤ B) (ho : OwnC size k cap cur xs) (henc : ∀ y, (enc y).length = size) (hone : ∀ y, (enc y).all oneV = true) (hv : ∀ w, St W0 olds l w → Sl size enc w v ys) (hbytes : (k + ys.length) * bytes ≤ 140737488355328) (hmost : k + ys.length ≤ maxLen)
    (hmod : ∀ w w', w.grownBy w' (some B) → pl.Mod i w w') (hd : dstOk n dst = true)
    (h : ∀ B' cap' cur', W0.heap.size ≤ B' → OwnC size (k + ys.length) cap' cur' (xs ++ ys.flatMap enc) → JE P n ops pl (St W0 olds ((B', .cells cur' e (0, 0)) :: l')) E Q (updO f dst (.slice (some ⟨B', 0, none⟩) (k + ys.length) cap'))) :
    JE P n ops pl (St W0 olds l) ((i, ⟨dst, .call { callee := .builtin .append, args := #[s, x], argTypes := #[t, t] }, T, pos, af, g⟩, false) :: E) Q f := ⟨fun w hS => by
  obtain ⟨inf, z, i1, i2, i3, i4, i5, i6⟩ := hE.info
  have hblk := hS.own _ hk.mem
  have hbw : W0.heap.size ≤ w.heap.size := hS.size
  have hBl := hS.lt hk.mem
  obtain ⟨a, c, rfl, hsl⟩ := hv w hS
  have key : ∃ v' w', (Builtin.append_ #[t, t] T #[.slice (some ⟨B, 0, none⟩) k cap, .slice a ys.length c]).run P w = .ok v' w' ∧ (∃ B' cap' cur', v' = .slice (some ⟨B', 0, none⟩) (k + ys.length) cap' ∧ (B' = B ∨ w.heap.size ≤ B') ∧ W0.heap.size ≤ B' ∧ w'.heap[B']? = some (.cells cur' e (0, 0)) ∧ OwnC size (k + ys.length) cap' cur' (xs ++ ys.flatMap enc)) ∧ w.grownBy w' (some B) := by
    have hl0 := flat_length henc ys
    by_cases hm0 : ys = []
    · subst hm0
      refine ⟨_, w, ?_, ⟨B, cap, cur, rfl, .inl rfl, hB, hblk, by simpa using ho⟩, ⟨rfl, rfl, rfl, Nat.le_refl _, fun _ _ _ => rfl⟩⟩
      have hroom := ho.room
      have hf : ∀ m, (Builtin.firstCells m 0 (.slice a 0 c)).run P w = .ok #[] w := fun m => by
        cases a <;> simp [Builtin.firstCells, loadCells, loadCellsFrom]
      simp [Builtin.append_, run_underlying hE.und, sizeOf, typeInfo, i1, Builtin.lenOf, hroom, hf, storeCells]
    · obtain ⟨B2, off2, rfl, c2, T2, fr2, hb2, hc2⟩ := hsl hm0
      have hnews : ∀ j u, (ys.flatMap enc)[j]? = some u → w.cell? ((⟨B2, off2, none⟩ : Addr).add j) = some u := fun j u hj => by
        obtain ⟨i', y, j', rfl, h1, h2⟩ := flat_inv henc ys j u hj
        rw [add_eq, cell?_block hb2, ← Nat.add_assoc]
        exact hc2 i' y h1 j' u h2
      have h1 : ∀ u ∈ ys.flatMap enc, u.oneCell' = true := fun u hu => by
        obtain ⟨y, _, hy⟩ := List.mem_flatMap.1 hu
        have := List.all_eq_true.1 (hone y) u hy
        cases u <;> simp_all [oneV, Value.oneCell']
      by_cases hr : k + ys.length ≤ cap
      · have hcc : cel cur.toList e = .cells cur e (0, 0) := by simp [cel]
        have hfc := run_firstCells_some (P := P) (w := w) size ys.length ⟨B2, off2, none⟩ ys.length c (ys.flatMap enc) hl0 hnews
        have hmul : (k + ys.length) * size ≤ cap * size := Nat.mul_le_mul_right _ hr
        rw [Nat.add_mul] at hmul
        have hcl : cur.toList.length = cap * size := by rw [Array.length_toList, ho.all]
        have hle : k * size + (ys.flatMap enc).length ≤ cur.toList.length := by rw [hl0, hcl]; exact hmul
        have hst := run_storeCells (P := P) (T' := e) (b := B) (ys.flatMap enc) w (k * size) 0 cur.toList (by rw [hcc]; exact hblk) (by simpa using hle) (fun u hu => by
          obtain ⟨y, _, hy⟩ := List.mem_flatMap.1 hu
          exact List.all_eq_true.1 (hone y) u hy)
        rw [Nat.add_zero] at hst
        refine ⟨.slice (some ⟨B, 0, none⟩) (k + ys.length) cap, w.turned B (cel (lay cur.toList (k * size) (ys.flatMap enc)) e), ?_, ⟨B, cap, (lay cur.toList (k * size) (ys.flatMap enc)).toArray, rfl, .inl rfl, hB, turned_same w _ hBl, ?_, hr, ho.most, ?_, ?_⟩, ⟨rfl, rfl, rfl, by simp [World.turned], fun q _ hq => turned_other w _ (by simpa using hq)⟩⟩
        · simp [Builtin.append_, run_underlying hE.und, sizeOf, typeInfo, i1, i3, Builtin.lenOf, hr, hfc, add_eq, hst]
        · rw [List.length_append, ho.len, hl0, Nat.add_mul]
        · rw [List.size_toArray, lay_length, hcl]
        · have hkt : (cur.toList.take (k * size)).length = k * size := by rw [List.length_take]; omega
          have hkl : (cur.toList.take (k * size) ++ ys.flatMap enc).length = (k + ys.length) * size := by rw [List.length_append, hkt, hl0, Nat.add_mul]
          rw [lay_eq _ _ _ hle, ← hkl, List.take_left, ho.take]
      · have holds : ∀ j u, xs[j]? = some u → w.cell? ((⟨B, 0, none⟩ : Addr).add j) = some u := fun j u hj => by
          rw [add_eq, cell?_block hblk, Nat.zero_add]
          rw [← ho.take, List.getElem?_take] at hj
          split at hj
          · simpa using hj
          · cases hj
        obtain ⟨v', w', r1, r2, r3⟩ := run_append_arg_grows (P := P) w t T e inf z size bytes hE.und i1 i2 i3 i4 i5 i6 ⟨B, 0, none⟩ k cap xs ho.len holds ⟨B2, off2, none⟩ ys.length c (ys.flatMap enc) hl0 hnews (by omega) hmost hbytes
        refine ⟨v', w', r1, ?_, ⟨r3.os, r3.tape, r3.output, r3.size, fun q hq _ => r3.block q hq (by simp)⟩⟩
        obtain ⟨q1, q2⟩ := r2
        rcases q2 with ⟨_, q3⟩ | ⟨g', cap', cur', rfl, q3, q4, q5, q6, q7, q8⟩
        · have : ys.length = 0 := by omega
          exact absurd (List.eq_nil_of_length_eq_zero this) hm0
        · exact ⟨g', cap', cur', rfl, .inr q3, Nat.le_trans hbw q3, q4, q1, q5, q6, q7, q8⟩
  obtain ⟨v', w', hrun, ⟨B', cap', cur', rfl, hB', hB0, hb', hown'⟩, hg⟩ := key
  refine WE.act (R := fun u w'' => u = .slice (some ⟨B', 0, none⟩) (k + ys.length) cap' ∧ w'' = w') hw ?_ hd ?_
  · simp only [Step, execOp, resolve, invoke, builtin]
    simp [hs, hx, hrun]
  · rintro u w'' ⟨rfl, rfl⟩
    exact ⟨hmod _ _ hg, (h B' cap' cur' hB0 hown').run _ (hS.rows hk hB hg hB' hb')⟩⟩

/-- A bound of a slice expression. -/
def Bnd (f : Fr) (d : Nat) : Option Operand → Nat → Prop
  | none, l => l = d
  | some o, l => ∃ k, ev f o = .int k (l : Int)

theorem JE.slice {α : Type} {k : Nat} {enc : α → List Value} {t e : TypeId} {x : Operand} {lo hi : Option Operand} {a : Option Addr} {m c p q : Nat} {xs : List α} {W : World} [ht : SliceT P t e] [hz : SizeT P e k]
    (hw : wantF ops f ⟨dst, .slice t x lo hi none, T, pos, af, g⟩ = true) (hx : ev f x = .slice a m c) (hlo : Bnd f 0 lo p) (hhi : Bnd f m hi q) (hpq : p ≤ q) (hqm : q ≤ m) (hmc : m ≤ c) (hs : Sl k enc W (.slice a m c) xs) (hd : dstOk n dst = true)
    (h : ∀ a', Sl k enc W (.slice a' (q - p) (c - p)) ((xs.take q).drop p) → JE P n ops pl S E Q (updO f dst (.slice a' (q - p) (c - p)))) :
    JE P n ops pl S ((i, ⟨dst, .slice t x lo hi none, T, pos, af, g⟩, b) :: E) Q f := by
  have hsl : Sl k enc W (.slice (if c = p then a else a.map (·.add (p * k))) (q - p) (c - p)) ((xs.take q).drop p) := by
    obtain ⟨a1, c1, e1, h1⟩ := hs
    cases e1
    have hlen : ((xs.take q).drop p).length = q - p := by simp; omega
    refine ⟨_, _, by rw [hlen], fun hne => ?_⟩
    have hne' : xs ≠ [] := by rintro rfl; simp at hne
    obtain ⟨B, off, rfl, c0, T0, fr0, hb, hc⟩ := h1 hne'
    have hcp : ¬ c = p := fun e => hne (List.eq_nil_of_length_eq_zero (by omega))
    refine ⟨B, off + p * k, by rw [if_neg hcp]; simp [add_eq], c0, T0, fr0, hb, fun i' y hy j u hu => ?_⟩
    rw [List.getElem?_drop, List.getElem?_take] at hy
    split at hy
    · have := hc _ y hy j u hu
      rw [← this]
      congr 1
      rw [Nat.add_mul]; omega
    · cases hy
  refine JE.val hw (fun w => ?_) hd (h _ hsl)
  have e1 : (lo = none ∧ p = 0) ∨ ∃ o k', lo = some o ∧ ev f o = .int k' (p : Int) := by
    cases lo with
    | none => exact .inl ⟨rfl, hlo⟩
    | some o => obtain ⟨k', hk'⟩ := hlo; exact .inr ⟨o, k', rfl, hk'⟩
  have e2 : (hi = none ∧ q = m) ∨ ∃ o k', hi = some o ∧ ev f o = .int k' (q : Int) := by
    cases hi with
    | none => exact .inl ⟨rfl, hhi⟩
    | some o => obtain ⟨k', hk'⟩ := hhi; exact .inr ⟨o, k', rfl, hk'⟩
  have hqc : q ≤ c := Nat.le_trans hqm hmc
  rcases e1 with ⟨rfl, rfl⟩ | ⟨o, k1, rfl, h1⟩ <;> rcases e2 with ⟨rfl, rfl⟩ | ⟨o', k2, rfl, h2⟩ <;>
    simp_all [execOp, Instr.sliceAt, Instr.slice, Instr.sliceBounds, Instr.sliceBound, asIntOf, ht.under, hz.size]

theorem own_cel (cur : Array Value) (e : TypeId) : cel cur.toList e = .cells cur e (0, 0) := by simp [cel]

/-- A cell out of an own row. -/
theorem JE.loadOwn1 {t e : TypeId} {x : Operand} {B off : Nat} {cur : Array Value} {v : Value} [Scal P t] (hw : wantF ops f ⟨dst, .load t x, T, pos, af, g⟩ = true) (hx : ev f x = .pointer (some ⟨B, off, none⟩))
    (hk : In l (B, .cells cur e (0, 0))) (hv : cur[off]? = some v) (hfree : b = true → pl.free i B) (hd : dstOk n dst = true)
    (h : JE P n ops pl (St W0 olds l) E Q (updO f dst v)) : JE P n ops pl (St W0 olds l) ((i, ⟨dst, .load t x, T, pos, af, g⟩, b) :: E) Q f := ⟨fun w hS =>
  .quiet (fun w => w.heap[B]? = some (.cells cur e (0, 0))) (fun hb => pl.blk i B _ (hfree hb)) (hS.own _ hk.mem) hw
    (fun w hb => by
      rw [← own_cel] at hb
      simp [execOp, hx, Instr.loadAt, Instr.sureAddr, run_load1 (P := P) (T := t) hb (by rw [nthV_eq]; simpa using hv)]) hd (h.run w hS)⟩

/-- A store into an own row. -/
theorem JE.storeOwn1 {t e : TypeId} {x y : Operand} {B off : Nat} {cur : Array Value} {v : Value} (hw : wantF ops f ⟨dst, .store t x y, T, pos, af, g⟩ = true) (hx : ev f x = .pointer (some ⟨B, off, none⟩))
    (hk : Turn l B (.cells cur e (0, 0)) (.cells (cur.setIfInBounds off v) e (0, 0)) l') (hy : ev f y = v) (hm : ∀ w, (sizeOf t).run P w = .ok 1 w) (hc : cellsL v = [v]) (h1 : oneV v = true) (hl : off < cur.size) (hwr : pl.wr i B) (hd : dstOk n dst = true)
    (h : JE P n ops pl (St W0 olds l') E Q (updO f dst undef)) : JE P n ops pl (St W0 olds l) ((i, ⟨dst, .store t x y, T, pos, af, g⟩, false) :: E) Q f := ⟨fun w hS => by
  have hb := hS.own _ hk.mem
  have hb' : w.heap[B]? = some (cel cur.toList e) := by rw [own_cel]; exact hb
  refine WE.act (R := fun v' w' => v' = undef ∧ w' = w.turned B (.cells (cur.setIfInBounds off v) e (0, 0))) hw ?_ hd ?_
  · subst hy
    have := run_storeVar (P := P) (T := t) (k := 1) (off := off) hb' hm (by rw [hc]; rfl) (by rw [Array.length_toList]; omega) (by rw [hc]; simpa using h1)
    rw [hc] at this
    have e1 : cel (lay cur.toList off [ev f y]) e = .cells (cur.setIfInBounds off (ev f y)) e (0, 0) := by
      have : (cur.toList.set off (ev f y)).toArray = cur.setIfInBounds off (ev f y) := by apply Array.ext'; simp
      simp only [lay, cel, this]
    rw [e1] at this
    simp [Step, execOp, hx, Instr.storeAt, Instr.sureAddr, this]
  · rintro v' w' ⟨rfl, rfl⟩
    exact ⟨pl.put i B w _ hwr fun j hj _ => turned_other w _ hj, h.run _ (hS.turned hk)⟩⟩

theorem OwnC.get {α : Type} {k cap : Nat} {enc : α → List Value} (hk : ∀ x, (enc x).length = k) {xs : List α} {cur : Array Value} (h : OwnC k xs.length cap cur (xs.flatMap enc)) {i j : Nat} {x : α} {u : Value} (hx : xs[i]? = some x) (hu : (enc x)[j]? = some u) : cur[i * k + j]? = some u := by
  have := flat_get hk xs i j x u hx hu
  rw [← h.take, List.getElem?_take] at this
  split at this
  · simpa using this
  · cases this
theorem flat_set {α : Type} {k : Nat} {enc : α → List Value} (hk : ∀ x, (enc x).length = k) {j : Nat} (hj : j < k) {u : Value} : ∀ (xs : List α) (i : Nat) (x x' : α), xs[i]? = some x → enc x' = (enc x).set j u → (xs.set i x').flatMap enc = (xs.flatMap enc).set (i * k + j) u
  | [], _, _, _, h, _ => by simp at h
  | y :: r, 0, x, x', h, he => by
    simp only [List.getElem?_cons_zero, Option.some.injEq] at h
    subst h
    rw [List.set_cons_zero, List.flatMap_cons, List.flatMap_cons, he, Nat.zero_mul, Nat.zero_add, List.set_append_left _ _ (by rw [hk]; exact hj)]
  | y :: r, i + 1, x, x', h, he => by
    rw [List.set_cons_succ, List.flatMap_cons, List.flatMap_cons, flat_set hk hj r i x x' (by simpa using h) he, List.set_append_right _ _ (by rw [hk, Nat.add_mul]; omega), hk]
    congr 2
    rw [Nat.add_mul]; omega
theorem OwnC.set {α : Type} {k cap : Nat} {enc : α → List Value} (hk : ∀ x, (enc x).length = k) {xs : List α} {cur : Array Value} (h : OwnC k xs.length cap cur (xs.flatMap enc)) {i j : Nat} {x x' : α} {u : Value} (hj : j < k) (hx : xs[i]? = some x) (he : enc x' = (enc x).set j u) :
    OwnC k (xs.set i x').length cap (cur.setIfInBounds (i * k + j) u) ((xs.set i x').flatMap enc) := by
  rw [flat_set hk hj xs i x x' hx he, List.length_set]
  refine ⟨by rw [List.length_set]; exact h.len, h.room, h.most, by rw [Array.size_setIfInBounds]; exact h.all, ?_⟩
  rw [Array.toList_setIfInBounds, List.take_set, h.take]

/-- A slice of a slice whose address is known. -/
theorem JE.slice1 {t e : TypeId} {x : Operand} {lo hi : Option Operand} {k B off m c p q : Nat} [ht : SliceT P t e] [hz : SizeT P e k]
    (hw : wantF ops f ⟨dst, .slice t x lo hi none, T, pos, af, g⟩ = true) (hx : ev f x = .slice (some ⟨B, off, none⟩) m c) (hlo : Bnd f 0 lo p) (hhi : Bnd f m hi q) (hpq : p ≤ q) (hqm : q ≤ m) (hmc : m ≤ c) (hpc : p < c) (hd : dstOk n dst = true)
    (h : JE P n ops pl S E Q (updO f dst (.slice (some ⟨B, off + p * k, none⟩) (q - p) (c - p)))) :
    JE P n ops pl S ((i, ⟨dst, .slice t x lo hi none, T, pos, af, g⟩, b) :: E) Q f := by
  refine JE.val hw (fun w => ?_) hd h
  have e1 : (lo = none ∧ p = 0) ∨ ∃ o k', lo = some o ∧ ev f o = .int k' (p : Int) := by
    cases lo with
    | none => exact .inl ⟨rfl, hlo⟩
    | some o => obtain ⟨k', hk'⟩ := hlo; exact .inr ⟨o, k', rfl, hk'⟩
  have e2 : (hi = none ∧ q = m) ∨ ∃ o k', hi = some o ∧ ev f o = .int k' (q : Int) := by
    cases hi with
    | none => exact .inl ⟨rfl, hhi⟩
    | some o => obtain ⟨k', hk'⟩ := hhi; exact .inr ⟨o, k', rfl, hk'⟩
  have hqc : q ≤ c := Nat.le_trans hqm hmc
  have hcp : ¬ c = p := by omega
  rcases e1 with ⟨rfl, rfl⟩ | ⟨o, k1, rfl, h1⟩ <;> rcases e2 with ⟨rfl, rfl⟩ | ⟨o', k2, rfl, h2⟩ <;>
    simp_all [execOp, Instr.sliceAt, Instr.slice, Instr.sliceBounds, Instr.sliceBound, asIntOf, ht.under, hz.size, add_eq]
end
end Go.Proofs.YtnapfiheholhiaaSym
