/-
  The calculus of this claim, fourth part: maps. Conditions: none.
-/
import Derived.Test.YtnapfiheholhiaaOps
set_option linter.unusedVariables false
set_option linter.unusedSimpArgs false
namespace Go.Proofs.YtnapfiheholhiaaSym
open Go Go.RowKit

def mfind {K : Type} [DecidableEq K] (k : K) : List (K × Value) → Nat → Option (Nat × Value)
  | [], _ => none
  | (k', v) :: r, j => if k = k' then some (j, v) else mfind k r (j + 1)

/-- How a map's keys stand as values. -/
class KeyT (P : Program) (kt : TypeId) {K : Type} [DecidableEq K] (enc : K → Value) : Prop where
  check : ∀ e k w, (Instr.checkKey e 10000 kt (enc k)).run P w = .ok () w
  find : ∀ k (kvs : List (K × Value)) (es : List MapEntry) w, es.map (fun e => (e.key, e.val)) = kvs.map (fun p => (enc p.1, p.2)) → (Instr.findKey kt (enc k) es).run P w = .ok (mfind k kvs 0) w
  bits : ∀ k, Instr.sameBits 10000 (enc k) (enc k) = true

section
variable {P : Program} {kt : TypeId}

theorem findNow_string (a : ByteArray) : ∀ (kvs : List (ByteArray × Value)) (es : List MapEntry) (j : Nat), es.map (fun e => (e.key, e.val)) = kvs.map (fun p => (Value.string p.1, p.2)) →
    Instr.findNow .string (.string a) es j = some (mfind a kvs j)
  | [], [], _, _ => rfl
  | [], _ :: _, _, h => by simp at h
  | _ :: _, [], _, h => by simp at h
  | (k, v) :: r, e :: es, j, h => by
    simp only [List.map_cons, List.cons.injEq, Prod.mk.injEq] at h
    obtain ⟨⟨h1, h2⟩, h3⟩ := h
    have e1 : (a == k) = decide (a = k) := by rw [beq_toListBytes, bytes_eq]
    simp only [Instr.findNow, h1, Instr.sameNow, mfind, e1]
    by_cases hk : a = k
    · simp [hk, h2]
    · simp [hk, findNow_string a r es (j + 1) h3]

theorem check_flat (hu : ∀ w, (underlying kt).run P w = .ok .string w) (e : Bool) (m : Nat) (k : ByteArray) (w : World) : (Instr.checkKey e (m + 1) kt (.string k)).run P w = .ok () w := by
  simp only [Instr.checkKey, Sem.run_bind, hu, Result.andThen_ok, Sem.run_pure]
theorem bits_string (k : ByteArray) : ∀ m, Instr.sameBits m (.string k) (.string k) = true
  | 0 => by simp [Instr.sameBits, beq_toListBytes]
  | m + 1 => by simp [Instr.sameBits, beq_toListBytes]

theorem key_string (hu : ∀ w, (underlying kt).run P w = .ok .string w) : KeyT P kt Value.string where
  check e k w := check_flat hu e 9999 k w
  find k kvs es w h := by simp [Instr.findKey, hu, findNow_string k kvs es 0 h]
  bits k := bits_string k _

/-- '==' at a struct type. -/
class EqT (P : Program) (t : TypeId) {K : Type} [DecidableEq K] (enc : K → Value) : Prop where
  run : ∀ d x y w, (Op.equalIn (d + 8) t (enc x) (enc y)).run P w = .ok (decide (x = y)) w
  guard : P.eqGuardType P.depth t = false
  isAgg : ∀ x, ∃ cs, enc x = .agg cs

theorem findAsking_eq {K : Type} [DecidableEq K] {enc : K → Value} [hq : EqT P kt enc] (a : K) : ∀ (kvs : List (K × Value)) (es : List MapEntry) (j : Nat) (w : World), es.map (fun e => (e.key, e.val)) = kvs.map (fun p => (enc p.1, p.2)) →
    (Instr.findAsking kt (enc a) es j).run P w = .ok (mfind a kvs j) w
  | [], [], _, _, _ => rfl
  | [], _ :: _, _, _, h => by simp at h
  | _ :: _, [], _, _, h => by simp at h
  | (k, v) :: r, e :: es, j, w, h => by
    simp only [List.map_cons, List.cons.injEq, Prod.mk.injEq] at h
    obtain ⟨⟨h1, h2⟩, h3⟩ := h
    have e1 : (Op.equal kt (enc a) e.key).run P w = .ok (decide (a = k)) w := by rw [h1]; exact hq.run 9992 a k w
    simp only [Instr.findAsking, Sem.run_bind, e1, Result.andThen_ok, mfind]
    by_cases hk : a = k
    · simp [hk, h2]
    · simp [hk, findAsking_eq a r es (j + 1) w h3]

theorem findNow_struct {K : Type} {enc : K → Value} (fs : Array Field) (a : K) : ∀ (es : List MapEntry) (j : Nat), es ≠ [] → Instr.findNow (.struct fs) (enc a) es j = none
  | e :: es, j, _ => by
    unfold Instr.findNow
    have : Instr.sameNow (.struct fs) (enc a) e.key = none := by unfold Instr.sameNow; split <;> simp_all
    rw [this]
  | [], _, h => absurd rfl h

theorem key_struct {K : Type} [DecidableEq K] {enc : K → Value} [hq : EqT P kt enc] {fs : Array Field} (hu : ∀ w, (underlying kt).run P w = .ok (.struct fs) w) (hc : ∀ e k w, (Instr.checkKey e 10000 kt (enc k)).run P w = .ok () w)
    (hb : ∀ k, Instr.sameBits 10000 (enc k) (enc k) = true) : KeyT P kt enc where
  check := hc
  find k kvs es w h := by
    simp only [Instr.findKey, Sem.run_bind, hu, Result.andThen_ok]
    cases es with
    | nil =>
      cases kvs with
      | nil => rfl
      | cons p r => simp at h
    | cons e es => rw [findNow_struct fs k (e :: es) 0 (by simp)]; exact findAsking_eq k kvs (e :: es) 0 w h
  bits := hb
end

/-! ### What a map holds -/
section
variable {K V : Type} [DecidableEq K]
/-- The object o is a map that holds kvs, in the order in which the keys came. -/
def MapO (encK : K → Value) (encV : V → Value) (o : Obj) (kvs : List (K × V)) : Prop :=
  ∃ es clock, o = .map es clock ∧ es.toList.map (fun e => (e.key, e.val)) = kvs.map (fun p => (encK p.1, encV p.2)) ∧ (∀ e ∈ es.toList, e.born < clock) ∧ (es.toList.map (·.born)).Nodup

def klook (k : K) : List (K × V) → Option V
  | [] => none
  | (k', v) :: r => if k = k' then some v else klook k r
def kput (k : K) (v : V) : List (K × V) → List (K × V)
  | [] => [(k, v)]
  | (k', v') :: r => if k = k' then (k, v) :: r else (k', v') :: kput k v r
def kdel (k : K) : List (K × V) → List (K × V)
  | [] => []
  | (k', v') :: r => if k = k' then r else (k', v') :: kdel k r

theorem mfind_klook (encV : V → Value) (k : K) : ∀ (kvs : List (K × V)) (j : Nat), (mfind k (kvs.map fun p => (p.1, encV p.2)) j).map (·.2) = (klook k kvs).map encV
  | [], _ => rfl
  | (k', v) :: r, j => by
    simp only [List.map_cons, mfind, klook]
    split
    · rfl
    · exact mfind_klook encV k r (j + 1)
theorem mfind_put (encK : K → Value) (encV : V → Value) (k : K) (v : V) : ∀ (kvs : List (K × V)) (es : List MapEntry) (j : Nat), es.map (fun e => (e.key, e.val)) = kvs.map (fun p => (encK p.1, encV p.2)) →
    match mfind k (kvs.map fun p => (p.1, encV p.2)) j with
    | some (m, _) => j ≤ m ∧ m - j < es.length ∧ (es[m - j]?).map (·.key) = some (encK k) ∧ (es.modify (m - j) fun e => { e with key := encK k, val := encV v }).map (fun e => (e.key, e.val)) = (kput k v kvs).map (fun p => (encK p.1, encV p.2)) ∧
        (es.eraseIdx (m - j)).map (fun e => (e.key, e.val)) = (kdel k kvs).map (fun p => (encK p.1, encV p.2))
    | none => kput k v kvs = kvs ++ [(k, v)] ∧ kdel k kvs = kvs
  | [], [], _, _ => ⟨rfl, rfl⟩
  | [], _ :: _, _, h => by simp at h
  | _ :: _, [], _, h => by simp at h
  | (k', v') :: r, e :: es, j, h => by
    simp only [List.map_cons, List.cons.injEq, Prod.mk.injEq] at h
    obtain ⟨⟨h1, h2⟩, h3⟩ := h
    have ih := mfind_put encK encV k v r es (j + 1) h3
    simp only [List.map_cons, mfind]
    by_cases hk : k = k'
    · subst hk
      simp only [if_true, Nat.sub_self, kput, kdel]
      exact ⟨Nat.le_refl _, by simp, by simp [h1], by simp [List.modify, h3], by simp [h3]⟩
    · simp only [if_neg hk, kput, kdel]
      cases hm : mfind k (r.map fun p => (p.1, encV p.2)) (j + 1) with
      | none => rw [hm] at ih; simp only at ih ⊢; exact ⟨by rw [ih.1]; rfl, by rw [ih.2]⟩
      | some q =>
        obtain ⟨m, u⟩ := q
        rw [hm] at ih
        simp only at ih ⊢
        obtain ⟨i1, i2, i3, i4, i5⟩ := ih
        have e1 : m - j = (m - (j + 1)) + 1 := by omega
        rw [e1]
        exact ⟨by omega, by simp; omega, by simpa using i3, by simp [h1, h2, i4], by simp [h1, h2, i5]⟩

omit [DecidableEq K] in
theorem MapO.empty (encK : K → Value) (encV : V → Value) : MapO encK encV (.map #[] 0) [] := ⟨#[], 0, rfl, by simp, by simp, by simp⟩
end

section
variable {P : Program} {n : Nat} {ops : Array Oper} {pl : Plan} {S : World → Prop} {E : List Entry} {Q : Post} {f : Fr} {i : Nat} {b : Bool}
variable {dst : Option Tmp} {T : TypeId} {pos : String} {af : Array Edge} {g : Option (Nat × Bool)} {W0 : World} {olds : List Nat} {l l' : List (Nat × Obj)}
variable {K V : Type} [DecidableEq K] {encK : K → Value} {encV : V → Value} {kvs : List (K × V)}

theorem JE.makeMap {t : TypeId} (hw : wantF ops f ⟨dst, .makeMap t none, T, pos, af, g⟩ = true) (hd : dstOk n dst = true)
    (h : ∀ k, W0.heap.size ≤ k → JE P n ops pl (St W0 olds ((k, .map #[] 0) :: l)) E Q (updO f dst (.map (some k)))) :
    JE P n ops pl (St W0 olds l) ((i, ⟨dst, .makeMap t none, T, pos, af, g⟩, false) :: E) Q f := ⟨fun w hS => by
  refine WE.act (R := fun v w' => v = .map (some w.heap.size) ∧ w' = w.alloc (.map #[] 0)) hw ?_ hd ?_
  · simp [Step, execOp, Instr.makeMap]
  · rintro v w' ⟨rfl, rfl⟩
    exact ⟨pl.grow i w _ ((Below.refl _ _).alloc (Nat.le_refl _) _), (h _ hS.size).run _ (hS.alloc _)⟩⟩

theorem run_lookup {t kt et : TypeId} [ht : MapT P t kt et] [hK : KeyT P kt encK] {o : Obj} {w : World} {B : Nat} (hb : w.heap[B]? = some o) (ho : MapO encK encV o kvs) {z : Value} (hz : ∀ w, (zeroValue et).run P w = .ok z w) (k : K) (ok : Bool) :
    (Instr.lookup t (.map (some B)) (encK k) ok).run P w = .ok (match klook k kvs with | some v => (if ok then .tuple #[encV v, .bool true] else encV v) | none => (if ok then .tuple #[z, .bool false] else z)) w := by
  obtain ⟨es, clock, rfl, he, _, _⟩ := ho
  have hf := hK.find k (kvs.map fun p => (p.1, encV p.2)) es.toList w (by rw [he]; simp)
  have hl := mfind_klook encV k kvs 0
  simp only [Instr.lookup, Sem.run_bind, ht.under, Result.andThen_ok, run_getObj hb (by simp), Sem.run_pure, hK.check, hf]
  cases hm : mfind k (kvs.map fun p => (p.1, encV p.2)) 0 with
  | none =>
    rw [hm] at hl
    cases hk : klook k kvs with
    | none => cases ok <;> simp [hz]
    | some v => rw [hk] at hl; simp at hl
  | some q =>
    rw [hm] at hl
    cases hk : klook k kvs with
    | none => rw [hk] at hl; simp at hl
    | some v =>
      rw [hk] at hl
      simp only [Option.map_some, Option.some.injEq] at hl
      cases ok <;> simp [hl]

/-- A look-up in a known map. -/
theorem JE.lookup {t kt et : TypeId} {x y : Operand} {ok : Bool} {B : Nat} {o : Obj} {k : K} {z u v : Value} [ht : MapT P t kt et] [hK : KeyT P kt encK] [hz : ZeroT P et z] (hw : wantF ops f ⟨dst, .lookup t x y ok, T, pos, af, g⟩ = true)
    (hx : ev f x = .map (some B)) (hy : ev f y = encK k) (hk : In l (B, o)) (ho : MapO encK encV o kvs) (hu : (match klook k kvs with | some v => (if ok then .tuple #[encV v, .bool true] else encV v) | none => (if ok then .tuple #[z, .bool false] else z)) = u) (huv : u = v)
    (hfree : b = true → pl.free i B) (hd : dstOk n dst = true)
    (h : JE P n ops pl (St W0 olds l) E Q (updO f dst v)) : JE P n ops pl (St W0 olds l) ((i, ⟨dst, .lookup t x y ok, T, pos, af, g⟩, b) :: E) Q f := ⟨fun w hS =>
  .quiet (fun w => w.heap[B]? = some o) (fun hb => pl.blk i B _ (hfree hb)) (hS.own _ hk.mem) hw
    (fun w hb => by simp only [execOp, hx, hy, Sem.run_bind, run_lookup hb ho hz.zero k ok, Result.andThen_ok, Sem.run_pure]; rw [hu, huv]) hd (h.run w hS)⟩

theorem run_mapUpdate {t kt et : TypeId} [ht : MapT P t kt et] [hK : KeyT P kt encK] {o : Obj} {w : World} {B : Nat} (hb : w.heap[B]? = some o) (ho : MapO encK encV o kvs) (k : K) (v : V) :
    ∃ o', MapO encK encV o' (kput k v kvs) ∧ (Instr.mapUpdate t (.map (some B)) (encK k) (encV v)).run P w = .ok () (w.turned B o') := by
  obtain ⟨es, clock, rfl, he, hc, hn⟩ := ho
  have hf := hK.find k (kvs.map fun p => (p.1, encV p.2)) es.toList w (by rw [he]; simp)
  have hp := mfind_put encK encV k v kvs es.toList 0 he
  cases hm : mfind k (kvs.map fun p => (p.1, encV p.2)) 0 with
  | none =>
    rw [hm] at hp hf
    refine ⟨.map (es.push { key := encK k, val := encV v, born := clock }) (clock + 1), ⟨_, _, rfl, ?_, ?_, ?_⟩, ?_⟩
    · simp [he, hp.1]
    · intro e hm
      simp only [Array.toList_push, List.mem_append, List.mem_singleton] at hm
      rcases hm with hm | rfl
      · exact Nat.lt_succ_of_lt (hc e hm)
      · exact Nat.lt_succ_self _
    · simp only [Array.toList_push, List.map_append, List.map_cons, List.map_nil]
      rw [List.nodup_append]
      refine ⟨hn, by simp, fun a ha c hc' => ?_⟩
      obtain ⟨e, he', rfl⟩ := List.mem_map.1 ha
      have := hc e he'
      simp at hc'
      omega
    · simp only [Instr.mapUpdate, Sem.run_bind, ht.under, Result.andThen_ok, run_getObj hb (by simp), hK.check, hf, run_setObj hb (by simp)]
  | some q =>
    obtain ⟨m, u⟩ := q
    rw [hm] at hp hf
    simp only [Nat.sub_zero] at hp
    obtain ⟨_, hl, hkey, hmod, _⟩ := hp
    have hkey' : ((es[m]?).map (·.key)).getD (encK k) = encK k := by
      have : (es.toList[m]?).map (·.key) = (es[m]?).map (·.key) := by simp
      rw [this] at hkey
      rw [hkey]; rfl
    refine ⟨.map (es.modify m fun e => { e with key := encK k, val := encV v }) clock, ⟨_, _, rfl, ?_, ?_, ?_⟩, ?_⟩
    · rw [Array.toList_modify]; exact hmod
    · intro e hm'
      rw [Array.toList_modify] at hm'
      obtain ⟨j, hj, rfl⟩ := List.mem_iff_getElem.1 hm'
      rw [List.getElem_modify]
      have hj' : j < es.toList.length := by simpa using hj
      have hlt := hc _ (List.getElem_mem hj')
      split <;> exact hlt
    · rw [Array.toList_modify]
      have : (es.toList.modify m fun e => { e with key := encK k, val := encV v }).map (·.born) = es.toList.map (·.born) := by
        apply List.ext_getElem?
        intro j
        simp only [List.getElem?_map, List.getElem?_modify]
        cases es.toList[j]? with
        | none => rfl
        | some e => simp only [Option.map_some]; split <;> rfl
      rw [this]; exact hn
    · simp only [Instr.mapUpdate, Sem.run_bind, ht.under, Result.andThen_ok, run_getObj hb (by simp), hK.check, hf, hkey', Instr.keyThatStays, hK.bits, if_true, Sem.run_pure, run_setObj hb (by simp)]

/-- A store into a known map. -/
theorem JE.mapUpdate {t kt et : TypeId} {x y z : Operand} {B : Nat} {o : Obj} {k : K} {v : V} [ht : MapT P t kt et] [hK : KeyT P kt encK] (hw : wantF ops f ⟨dst, .mapUpdate t x y z, T, pos, af, g⟩ = true)
    (hx : ev f x = .map (some B)) (hy : ev f y = encK k) (hv : ev f z = encV v) (hk : In l (B, o)) (ho : MapO encK encV o kvs) (hwr : pl.wr i B) (hd : dstOk n dst = true)
    (h : ∀ o', MapO encK encV o' (kput k v kvs) → ∃ l', Turn l B o o' l' ∧ JE P n ops pl (St W0 olds l') E Q (updO f dst undef)) :
    JE P n ops pl (St W0 olds l) ((i, ⟨dst, .mapUpdate t x y z, T, pos, af, g⟩, false) :: E) Q f := ⟨fun w hS => by
  have hb := hS.own _ hk.mem
  obtain ⟨o', ho', hrun⟩ := run_mapUpdate (P := P) (t := t) (kt := kt) (et := et) hb ho k v
  obtain ⟨l', ht', hj⟩ := h o' ho'
  refine WE.act (R := fun u w' => u = undef ∧ w' = w.turned B o') hw ?_ hd ?_
  · simp only [Step, execOp, hx, hy, hv, Sem.run_bind, hrun, Result.andThen_ok, Sem.run_pure, and_self]
  · rintro u w' ⟨rfl, rfl⟩
    exact ⟨pl.put i B w _ hwr fun j hj _ => turned_other w _ hj, hj.run _ (hS.turned ht')⟩⟩

/-- '==' of structs. -/
theorem JE.eqStruct {t t' : TypeId} {a c : Operand} {enc : K → Value} {x y : K} [hq : EqT P t enc] (hw : wantF ops f ⟨dst, .binOp .eql t a c t', T, pos, af, g⟩ = true) (ha : ev f a = enc x) (hc : ev f c = enc y)
    (hd : dstOk n dst = true) (h : JE P n ops pl S E Q (updO f dst (.bool (decide (x = y))))) : JE P n ops pl S ((i, ⟨dst, .binOp .eql t a c t', T, pos, af, g⟩, b) :: E) Q f :=
  .val hw (fun w => by
    obtain ⟨cx, ex⟩ := hq.isAgg x
    obtain ⟨cy, ey⟩ := hq.isAgg y
    have h2 : (Op.equal t (enc x) (enc y)).run P w = .ok (decide (x = y)) w := hq.run 9992 x y w
    rw [ex, ey] at h2
    simp [execOp, ha, hc, eqGuard, ex, ey, binOp, hq.guard, h2]) hd h
end
end Go.Proofs.YtnapfiheholhiaaSym
