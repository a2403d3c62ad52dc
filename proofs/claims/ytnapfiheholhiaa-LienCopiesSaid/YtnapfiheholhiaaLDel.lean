/-
  What the program's calls do to liens: slices.Delete, Release. Conditions: none.
-/
import Derived.Test.YtnapfiheholhiaaLOps
set_option linter.unusedVariables false
set_option linter.unusedSimpArgs false
namespace Go.Proofs.YtnapfiheholhiaaSym
open Go Go.RowKit

theorem flat_take {α : Type} {k : Nat} {enc : α → List Value} (hk : ∀ x, (enc x).length = k) : ∀ (xs : List α) (i : Nat), i ≤ xs.length → (xs.take i).flatMap enc = (xs.flatMap enc).take (i * k)
  | [], _, _ => by simp
  | y :: r, 0, _ => by simp
  | y :: r, i + 1, h => by
    have ih := flat_take hk r i (by simpa using h)
    rw [List.take_succ_cons, List.flatMap_cons, List.flatMap_cons, ih]
    have e : (i + 1) * k = (enc y).length + i * k := by rw [hk, Nat.add_mul]; omega
    rw [e, List.take_length_add_append]
theorem OwnC.take' {α : Type} {k cap : Nat} {enc : α → List Value} (hk : ∀ x, (enc x).length = k) {xs : List α} {cur : Array Value} (h : OwnC k xs.length cap cur (xs.flatMap enc)) {i : Nat} (hi : i ≤ xs.length) : OwnC k (xs.take i).length cap cur ((xs.take i).flatMap enc) := by
  have hl : (xs.take i).length = i := by simp; omega
  refine ⟨flat_length hk _, by rw [hl]; exact Nat.le_trans hi h.room, h.most, h.all, ?_⟩
  rw [hl, flat_take hk xs i hi, ← h.take, List.take_take, Nat.min_eq_left (Nat.mul_le_mul_right _ hi)]

section
variable {α : Type} {k cap : Nat} {enc : α → List Value} {e : TypeId} {xs ys : List α} {cur : Array Value} {B : Nat}
theorem run_appendRoom {P : Program} {w : World} {bytes : Nat} {t T : TypeId} {v : Value} [hE : ElemT P t e k bytes] (ho : OwnC k xs.length cap cur (xs.flatMap enc)) (hblk : w.heap[B]? = some (.cells cur e (0, 0))) (henc : ∀ y, (enc y).length = k) (hone : ∀ y, (enc y).all oneV = true)
    (hv : Sl k enc w v ys) (hr : xs.length + ys.length ≤ cap) :
    ∃ cur', (Builtin.append_ #[t, t] T #[.slice (some ⟨B, 0, none⟩) xs.length cap, v]).run P w = .ok (.slice (some ⟨B, 0, none⟩) (xs.length + ys.length) cap) (w.turned B (.cells cur' e (0, 0))) ∧ OwnC k (xs ++ ys).length cap cur' ((xs ++ ys).flatMap enc) := by
  obtain ⟨inf, z, i1, i2, i3, i4, i5, i6⟩ := hE.info
  obtain ⟨a, c, rfl, hsl⟩ := hv
  have hl0 := flat_length henc ys
  by_cases hm0 : ys = []
  · subst hm0
    refine ⟨cur, ?_, by simpa using ho⟩
    have hroom := ho.room
    have hf : ∀ m, (Builtin.firstCells m 0 (.slice a 0 c)).run P w = .ok #[] w := fun m => by
      cases a <;> simp [Builtin.firstCells, loadCells, loadCellsFrom]
    rw [turned_id w hblk]
    simp [Builtin.append_, run_underlying hE.und, sizeOf, typeInfo, i1, Builtin.lenOf, hroom, hf, storeCells]
  · obtain ⟨B2, off2, rfl, c2, T2, fr2, hb2, hc2⟩ := hsl hm0
    have hnews : ∀ j u, (ys.flatMap enc)[j]? = some u → w.cell? ((⟨B2, off2, none⟩ : Addr).add j) = some u := fun j u hj => by
      obtain ⟨i', y, j', rfl, h1, h2⟩ := flat_inv henc ys j u hj
      rw [add_eq, cell?_block hb2, ← Nat.add_assoc]
      exact hc2 i' y h1 j' u h2
    have h1 : ∀ u ∈ ys.flatMap enc, oneV u = true := fun u hu => by
      obtain ⟨y, _, hy⟩ := List.mem_flatMap.1 hu
      exact List.all_eq_true.1 (hone y) u hy
    have hcc : cel cur.toList e = .cells cur e (0, 0) := by simp [cel]
    have hfc := run_firstCells_some (P := P) (w := w) k ys.length ⟨B2, off2, none⟩ ys.length c (ys.flatMap enc) hl0 hnews
    have hmul : (xs.length + ys.length) * k ≤ cap * k := Nat.mul_le_mul_right _ hr
    rw [Nat.add_mul] at hmul
    have hcl : cur.toList.length = cap * k := by rw [Array.length_toList, ho.all]
    have hle : xs.length * k + (ys.flatMap enc).length ≤ cur.toList.length := by rw [hl0, hcl]; exact hmul
    have hst := run_storeCells (P := P) (T' := e) (b := B) (ys.flatMap enc) w (xs.length * k) 0 cur.toList (by rw [hcc]; exact hblk) (by simpa using hle) h1
    rw [Nat.add_zero] at hst
    refine ⟨(lay cur.toList (xs.length * k) (ys.flatMap enc)).toArray, ?_, ⟨flat_length henc _, by rw [List.length_append]; exact hr, ho.most, by rw [List.size_toArray, lay_length, hcl], ?_⟩⟩
    · have e1 : cel (lay cur.toList (xs.length * k) (ys.flatMap enc)) e = .cells (lay cur.toList (xs.length * k) (ys.flatMap enc)).toArray e (0, 0) := rfl
      rw [e1] at hst
      simp [Builtin.append_, run_underlying hE.und, sizeOf, typeInfo, i1, i3, Builtin.lenOf, hr, hfc, add_eq, hst]
    · have hkt : (cur.toList.take (xs.length * k)).length = xs.length * k := by rw [List.length_take]; omega
      have hkl : (cur.toList.take (xs.length * k) ++ ys.flatMap enc).length = (xs ++ ys).length * k := by rw [List.length_append, hkt, hl0, List.length_append, Nat.add_mul]
      rw [lay_eq _ _ _ hle, ← hkl, List.take_left, ho.take, List.flatMap_append]
end

section
variable {P : Program} {n : Nat} {ops : Array Oper} {pl : Plan} {S : World → Prop} {E : List Entry} {Q : Post} {f : Fr} {i : Nat} {b : Bool}
variable {dst : Option Tmp} {T : TypeId} {pos : String} {af : Array Edge} {g : Option (Nat × Bool)} {W0 : World} {olds : List Nat} {l l' : List (Nat × Obj)}
/-- 'append' where there is room. -/
theorem JE.appendRoom {α : Type} {k bytes m cap B : Nat} {enc : α → List Value} {s x : Operand} {t e : TypeId} {v : Value} {xs ys : List α} {cur : Array Value} [hE : ElemT P t e k bytes]
    (hw : wantF ops f ⟨dst, .call { callee := .builtin .append, args := #[s, x], argTypes := #[t, t] }, T, pos, af, g⟩ = true) (hs : ev f s = .slice (some ⟨B, 0, none⟩) m cap) (hx : ev f x = v) (hm : xs.length = m)
    (ho : OwnC k xs.length cap cur (xs.flatMap enc)) (hk : In l (B, .cells cur e (0, 0))) (henc : ∀ y, (enc y).length = k) (hone : ∀ y, (enc y).all oneV = true) (hv : ∀ w, St W0 olds l w → Sl k enc w v ys) (hr : xs.length + ys.length ≤ cap)
    (hwr : pl.wr i B) (hd : dstOk n dst = true)
    (h : ∀ cur', OwnC k (xs ++ ys).length cap cur' ((xs ++ ys).flatMap enc) → ∃ l', Turn l B (.cells cur e (0, 0)) (.cells cur' e (0, 0)) l' ∧ JE P n ops pl (St W0 olds l') E Q (updO f dst (.slice (some ⟨B, 0, none⟩) (m + ys.length) cap))) :
    JE P n ops pl (St W0 olds l) ((i, ⟨dst, .call { callee := .builtin .append, args := #[s, x], argTypes := #[t, t] }, T, pos, af, g⟩, false) :: E) Q f := ⟨fun w hS => by
  subst hm
  obtain ⟨cur', hrun, ho'⟩ := run_appendRoom (P := P) (T := T) (t := t) ho (hS.own _ hk.mem) henc hone (hv w hS) hr
  obtain ⟨l', ht, hj⟩ := h cur' ho'
  refine WE.act (R := fun u w'' => u = .slice (some ⟨B, 0, none⟩) (xs.length + ys.length) cap ∧ w'' = w.turned B (.cells cur' e (0, 0))) hw ?_ hd ?_
  · simp only [Step, execOp, resolve, invoke, builtin]
    simp [hs, hx, hrun]
  · rintro u w'' ⟨rfl, rfl⟩
    exact ⟨pl.put i B w _ hwr fun j hj _ => turned_other w _ hj, hj.run _ (hS.turned ht)⟩⟩

/-- A slice with all three bounds. -/
theorem JE.slice3 {t e : TypeId} {x lo hi mx : Operand} {k1 k2 k3 : IntKind} {a : Option Addr} {k m c p q r : Nat} [ht : SliceT P t e] [hz : SizeT P e k]
    (hw : wantF ops f ⟨dst, .slice t x (some lo) (some hi) (some mx), T, pos, af, g⟩ = true) (hx : ev f x = .slice a m c) (hlo : ev f lo = .int k1 (p : Int)) (hhi : ev f hi = .int k2 (q : Int)) (hmx : ev f mx = .int k3 (r : Int)) (hpq : p ≤ q) (hqr : q ≤ r) (hrc : r ≤ c) (hd : dstOk n dst = true)
    (h : ∀ v, JE P n ops pl S E Q (updO f dst v)) :
    JE P n ops pl S ((i, ⟨dst, .slice t x (some lo) (some hi) (some mx), T, pos, af, g⟩, b) :: E) Q f :=
  JE.val hw (v := .slice (if r = p then a else a.map (·.add (p * k))) (q - p) (r - p)) (fun w => by
    simp [execOp, Instr.sliceAt, Instr.slice, Instr.sliceBounds, Instr.sliceBound, asIntOf, ht.under, hz.size, hx, hlo, hhi, hmx, hpq, hqr, hrc]) hd (h _)

/-- A slice up to a bound beyond the length. -/
theorem JE.slice1c {t e : TypeId} {x lo hi : Operand} {k1 k2 : IntKind} {k B off m c p q r : Nat} [ht : SliceT P t e] [hz : SizeT P e k]
    (hw : wantF ops f ⟨dst, .slice t x (some lo) (some hi) none, T, pos, af, g⟩ = true) (hx : ev f x = .slice (some ⟨B, off, none⟩) m c) (hlo : ev f lo = .int k1 (p : Int)) (hhi : ev f hi = .int k2 (q : Int)) (hpq : p ≤ q) (hqc : q ≤ c) (hpc : p < c) (hr : q - p = r) (hd : dstOk n dst = true)
    (h : JE P n ops pl S E Q (updO f dst (.slice (some ⟨B, off + p * k, none⟩) r (c - p)))) :
    JE P n ops pl S ((i, ⟨dst, .slice t x (some lo) (some hi) none, T, pos, af, g⟩, b) :: E) Q f :=
  JE.val hw (fun w => by
    have hcp : ¬ c = p := by omega
    subst hr
    simp [execOp, Instr.sliceAt, Instr.slice, Instr.sliceBounds, Instr.sliceBound, asIntOf, ht.under, hz.size, hx, hlo, hhi, hpq, hqc, hcp, add_eq]) hd h

/-- 'clear' of one element of an own row that is read no more. -/
theorem JE.clear1 {t e : TypeId} {x : Operand} {B off c : Nat} {z : Value} {zs : List Value} {cur : Array Value} [ht : SliceT P t e] [hz : ZeroT P e z]
    (hw : wantF ops f ⟨dst, .call { callee := .builtin .clear, args := #[x], argTypes := #[t] }, T, pos, af, g⟩ = true) (hx : ev f x = .slice (some ⟨B, off, none⟩) 1 c) (hzs : (Builtin.zeroCells z.cells 1).toList = zs) (h1 : zs.all oneV = true) (hk : In l (B, .cells cur e (0, 0))) (hl : off + zs.length ≤ cur.size) (hwr : pl.wr i B) (hd : dstOk n dst = true)
    (h : ∃ l', Turn l B (.cells cur e (0, 0)) (.cells (lay cur.toList off zs).toArray e (0, 0)) l' ∧ JE P n ops pl (St W0 olds l') E Q (updO f dst (.tuple #[]))) :
    JE P n ops pl (St W0 olds l) ((i, ⟨dst, .call { callee := .builtin .clear, args := #[x], argTypes := #[t] }, T, pos, af, g⟩, false) :: E) Q f := ⟨fun w hS => by
  have hb : w.heap[B]? = some (cel cur.toList e) := by rw [own_cel]; exact hS.own _ hk.mem
  obtain ⟨l', ht', hj⟩ := h
  have hst := run_storeCells (P := P) (T' := e) (b := B) zs w off 0 cur.toList hb (by simpa using hl) (List.all_eq_true.1 h1)
  rw [Nat.add_zero] at hst
  refine WE.act (R := fun u w'' => u = .tuple #[] ∧ w'' = w.turned B (.cells (lay cur.toList off zs).toArray e (0, 0))) hw ?_ hd ?_
  · have e1 : cel (lay cur.toList off zs) e = .cells (lay cur.toList off zs).toArray e (0, 0) := rfl
    rw [e1] at hst
    simp only [Step, execOp, resolve, invoke, builtin]
    simp [hx, Builtin.clear_, ht.under, hz.zero, hzs, hst]
  · rintro u w'' ⟨rfl, rfl⟩
    exact ⟨pl.put i B w _ hwr fun j hj _ => turned_other w _ hj, hj.run _ (hS.turned ht')⟩⟩
end
theorem OwnC.clear {α : Type} {k cap : Nat} {enc : α → List Value} {xs : List α} {cur : Array Value} (h : OwnC k xs.length cap cur (xs.flatMap enc)) {zs : List Value} {off : Nat} (ho : xs.length * k ≤ off) (hl : off + zs.length ≤ cur.size) : OwnC k xs.length cap (lay cur.toList off zs).toArray (xs.flatMap enc) := by
  have hcl : cur.toList.length = cur.size := Array.length_toList
  refine ⟨h.len, h.room, h.most, by rw [List.size_toArray, lay_length, hcl, h.all], ?_⟩
  rw [lay_eq _ _ _ (by rw [hcl]; exact hl)]
  rw [List.append_assoc, List.take_append_of_le_length (by rw [List.length_take, hcl]; omega), List.take_take, Nat.min_eq_left ho]
  exact h.take
end Go.Proofs.YtnapfiheholhiaaSym

namespace Go.Proofs.Ytnapfiheholhiaa
open Go Go.RowKit Go.Proofs.YtnapfiheholhiaaSym

theorem zero_pledge : (Builtin.zeroCells (Value.agg #[.string ⟨#[]⟩, .string ⟨#[]⟩, .string ⟨#[]⟩, .int .i64 0, .int .i64 0, .bool false]).cells 1).toList = [.string ⟨#[]⟩, .string ⟨#[]⟩, .string ⟨#[]⟩, .int .i64 0, .int .i64 0, .bool false] :=
  congrArg Array.toList (zeros_eq [.string ⟨#[]⟩, .string ⟨#[]⟩, .string ⟨#[]⟩, .int .i64 0, .int .i64 0, .bool false] 1)

set_option maxHeartbeats 1000000 in
theorem delete_calls {v : Value} {xs : List Pledge} {ln : List (Nat × Obj)} (ho : Own 6 encPledge 37 v xs ln) (hx : xs.length ≤ 4096) {k : Nat} (hk : k < xs.length) (w : World) (hown : ∀ x ∈ ln, w.heap[x.1]? = some x.2) :
    Does Try.prog 34 [v, .int .i64 k, .int .i64 ((k : Int) + 1)] w (RetO w ln fun u ln' => Own 6 encPledge 37 u (xs.eraseIdx k) ln') := by
  obtain ⟨B, cap, cur, rfl, hoc, rfl⟩ := own_some ho (by rintro rfl; simp at hk)
  have hroom := hoc.room
  have hall := hoc.all
  have hpre := hoc.take' encP_len (i := k) (by omega)
  have hsl : ∀ W, St w [B] [(B, .cells cur 37 (0, 0))] W → Sl 6 encPledge W (.slice (some ⟨B, 0, none⟩) xs.length cap) xs := fun W hS => hoc.sl encP_len (hS.get .head)
  have htl : (xs.take k).length = k := by simp; omega
  have hdl : ((xs.take xs.length).drop (k + 1)).length = xs.length - (k + 1) := by simp
  have hres : xs.take k ++ (xs.take xs.length).drop (k + 1) = xs.eraseIdx k := by rw [List.take_length, List.eraseIdx_eq_take_drop_succ]
  have hrl : (xs.take k ++ (xs.take xs.length).drop (k + 1)).length = xs.length - 1 := by rw [List.length_append, htl, hdl]; omega
  refine calls_J (ys := [.slice (some ⟨B, 0, none⟩) xs.length cap, .int .i64 k, .int .i64 ((k : Int) + 1)]) Try.func34 rfl Try.ntmps34 rfl ?_
  refine J.at_ ?_ (St.startO (l := [(B, .cells cur 37 (0, 0))]) hown (by simp))
  simp only [List.map_cons, List.map_nil]
  repeat' (first
    | refine JE.pure rfl rfl (by conv => lhs; whnf) rfl ?_
    | (refine JE.kBin ?_; (refine JE.int rfl rfl rfl rfl rfl rfl ?_; with_reducible refine JE.waysD (fun _ => ?_) (fun _ => ?_)))
    | (refine JE.kBuiltin ?_; refine JE.lenSl rfl rfl rfl ?_)
    | with_reducible refine JE.sN ?_
    | with_reducible refine JE.dN ?_
    | with_reducible refine J.seq ?_
    | with_reducible refine J.region ?_
    | refine J.condT rfl ?_
    | refine J.condF rfl ?_
    | with_reducible refine J.skip ?_
    | with_reducible refine J.ret ?_
    | with_reducible refine JX.thenN ?_
    | with_reducible refine JX.thenR ?_
    | (refine JE.kSlice ?_; refine JE.slice3 (p := k) (q := k + 1) (r := xs.length) rfl rfl rfl rfl rfl (by omega) (by omega) hroom rfl (fun _ => ?_))
    | (refine JE.kSlice ?_; refine JE.slice1 (p := 0) (q := k) rfl rfl rfl ⟨_, rfl⟩ (Nat.zero_le _) (by omega) hroom (by omega) rfl ?_)
    | (refine JE.kSlice ?_; refine JE.sliceP (p := k + 1) (q := xs.length) rfl rfl ⟨_, rfl⟩ rfl (by omega) (Nat.le_refl _) hroom hsl rfl (fun a2 hs2 => ?_))
    | (refine JE.kSlice ?_; refine JE.slice1c (r := 1) (p := k + ((xs.take xs.length).drop (k + 1)).length) (q := xs.length) rfl rfl rfl rfl (by rw [hdl]; omega) hroom (by rw [hdl]; omega) (by rw [hdl]; omega) rfl ?_)
    | (refine J.isR 5 ?_; refine J.drawL [(0, true), (1, true), (2, true), (3, true), (4, true), (5, true), (6, false), (7, true)] mixed (by kernel_rfl) (fun _ h => h.drew) ?_)
    | (refine JE.isAppT 22 ?_; refine JE.appendRoom (m := k) (xs := xs.take k) (ys := (xs.take xs.length).drop (k + 1)) rfl rfl rfl htl hpre .head encP_len encP_one (fun w hS => hs2 w hS) (by rw [htl, hdl]; omega) trivial rfl (fun cur2 ho2 => ⟨_, .head, ?_⟩))
    | (refine JE.kBuiltin ?_; refine JE.clear1 (zs := [.string ⟨#[]⟩, .string ⟨#[]⟩, .string ⟨#[]⟩, .int .i64 0, .int .i64 0, .bool false]) rfl rfl zero_pledge rfl .head (by rw [ho2.all, hdl]; simp only [List.length_cons, List.length_nil]; omega) trivial rfl ⟨_, .head, ?_⟩))
  all_goals first
    | (exfalso; omega)
    | (refine fnQ_tmp (.inl rfl) rfl (by conv => lhs; whnf) fun w'' hS' => ⟨_, _, rfl, .inr ⟨B, cap, _, ?_, ?_, rfl⟩, hS'⟩
       · rw [← hres, List.length_append, htl]; rfl
       · have := ho2.clear (zs := [.string ⟨#[]⟩, .string ⟨#[]⟩, .string ⟨#[]⟩, .int .i64 0, .int .i64 0, .bool false]) (off := 0 + (k + ((xs.take xs.length).drop (k + 1)).length) * 6) (by rw [hrl, hdl]; omega) (by rw [ho2.all, hdl]; simp only [List.length_cons, List.length_nil]; omega)
         rw [hres] at this
         exact this)

end Go.Proofs.Ytnapfiheholhiaa
