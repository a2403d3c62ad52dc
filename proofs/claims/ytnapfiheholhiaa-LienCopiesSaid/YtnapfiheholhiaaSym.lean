/-
  The calculus of this claim: symbolic frames (functions from slots to values), symbolic heaps (lists of known blocks), one rule for each kind of operation. Conditions: none.
-/
import Derived.WalkKit
import Derived.Orders
import Derived.OrdersHeld
import Derived.StillTail
import Derived.KernelRfl
set_option linter.unusedVariables false
set_option linter.unusedSimpArgs false
namespace Go.Proofs.YtnapfiheholhiaaSym
open Go Go.RowKit

/-! ### Frames -/
abbrev Fr := Nat → Value
def upd (f : Fr) (d : Nat) (v : Value) : Fr := fun t => cond (Nat.beq t d) v (f t)
def updO (f : Fr) : Option Nat → Value → Fr
  | some d, v => upd f d v
  | none, _ => f
def dstOk (n : Nat) : Option Nat → Bool
  | some d => Nat.blt d n
  | none => true
def ev (f : Fr) : Operand → Value
  | .tmp t => f t
  | .const v => v
  | .global g => .pointer (some ⟨g, 0, none⟩)
  | .func g => .func (.func g) #[] #[]

theorem upd_same (f : Fr) (d : Nat) (v : Value) : upd f d v d = v := by simp [upd]
theorem upd_other (f : Fr) {d t : Nat} (v : Value) (h : t ≠ d) : upd f d v t = f t := by
  have : Nat.beq t d = false := by
    cases h' : Nat.beq t d with
    | true => exact absurd (Nat.eq_of_beq_eq_true h') h
    | false => rfl
  simp [upd, this]

structure Rep (n : Nat) (a : Act) (f : Fr) : Prop where
  defers : a.defers = []
  size : a.tmps.size = n
  get : ∀ t, a.tmps.getD t undef = f t

theorem Rep.eval {n : Nat} {a : Act} {f : Fr} (h : Rep n a f) : a.eval = ev f := by
  funext x; cases x <;> simp only [Act.eval, ev]; exact h.get _

theorem Rep.upd {n : Nat} {a : Act} {f : Fr} (h : Rep n a f) {d : Nat} (hd : d < n) (v : Value) : Rep n (a.put (some d) v) (upd f d v) := by
  refine ⟨h.defers, by simp [Act.put, h.size], fun t => ?_⟩
  have h1 := h.get t
  simp only [Act.put, Array.getD_eq_getD_getElem?] at *
  by_cases ht : t = d
  · subst ht
    rw [upd_same, Array.getElem?_setIfInBounds_self_of_lt (by rw [h.size]; exact hd)]
    rfl
  · rw [upd_other _ _ ht, Array.getElem?_setIfInBounds_ne (fun e => ht e.symm)]
    exact h1

theorem Rep.updO {n : Nat} {a : Act} {f : Fr} (h : Rep n a f) {d : Option Nat} (hd : dstOk n d = true) (v : Value) : Rep n (a.put d v) (updO f d v) := by
  cases d with
  | none => exact h
  | some d => exact h.upd (by simpa [dstOk] using hd) v

/-- Does the operation's guard ask for it? -/
def wantF (ops : Array Oper) (f : Fr) (o : Oper) : Bool :=
  match o.guard with
  | none => true
  | some (j, b) =>
    match (ops[j]?).bind (·.dst) with
    | some d => (match f d with | .bool c => c == b | _ => false)
    | none => false

theorem Rep.want {n : Nat} {a : Act} {f : Fr} (h : Rep n a f) (ops : Array Oper) (o : Oper) : Region.wanted o (yielded ops a.tmps) = wantF ops f o := by
  unfold Region.wanted wantF yielded
  cases o.guard with
  | none => rfl
  | some g =>
    obtain ⟨j, b⟩ := g
    simp only
    cases (ops[j]?).bind (·.dst) with
    | none => simp
    | some d =>
      have h1 := h.get d
      simp only [Array.getD_eq_getD_getElem?] at h1
      simp only [Option.bind_some]
      cases h2 : a.tmps[d]? with
      | none => rw [h2] at h1; simp at h1; rw [← h1]; simp [undef]
      | some v => rw [h2] at h1; simp at h1; rw [← h1]; cases v <;> simp

/-! ### Exits -/
abbrev Post := Exit → Fr → World → Prop
def LQ (n : Nat) (Q : Post) : Exit → Act → World → Prop := fun e a w => ∃ f, Rep n a f ∧ Q e f w
def WP (P : Program) (n : Nat) (c : Code) (Q : Post) (f : Fr) (w : World) : Prop := ∀ a, Rep n a f → c.wp P (LQ n Q) a w
def thenQ (K : Fr → World → Prop) (Q : Post) : Post
  | .normal, f, w => K f w
  | e, f, w => Q e f w
def blkQ (id : Nat) (Q : Post) : Post
  | .exit i, f, w => cond (Nat.beq i id) (Q .normal f w) (Q (.exit i) f w)
  | e, f, w => Q e f w

variable {P : Program} {n : Nat} {ops : Array Oper} {S S' : World → Prop} {Q : Post} {f : Fr} {w : World}

/-- From every world of S. -/
structure J (P : Program) (n : Nat) (S : World → Prop) (c : Code) (Q : Post) (f : Fr) : Prop where
  run : ∀ w, S w → WP P n c Q f w
structure JX (S : World → Prop) (Q : Post) (e : Exit) (f : Fr) : Prop where
  run : ∀ w, S w → Q e f w

theorem WP.seq {x y : Code} (h : WP P n x (thenQ (WP P n y Q) Q) f w) : WP P n (.seq x y) Q f w := fun a ha =>
  wp_seq (wp_mono (h a ha) fun e a' w' ⟨f', hf', hq⟩ => by
    cases e with
    | normal => exact hq a' hf'
    | _ => exact ⟨f', hf', hq⟩)
theorem J.seq {x y : Code} (h : J P n S x (thenQ (WP P n y Q) Q) f) : J P n S (.seq x y) Q f := ⟨fun w hw => (h.run w hw).seq⟩
theorem J.skip (h : JX S Q .normal f) : J P n S .skip Q f := ⟨fun w hw _ ha => wp_skip ⟨f, ha, h.run w hw⟩⟩
theorem J.ret (h : JX S Q .ret f) : J P n S .ret Q f := ⟨fun w hw _ ha => wp_ret ⟨f, ha, h.run w hw⟩⟩
theorem J.exit {i : Nat} (h : JX S Q (.exit i) f) : J P n S (.exit i) Q f := ⟨fun w hw _ ha => wp_exit ⟨f, ha, h.run w hw⟩⟩
theorem J.block {i : Nat} {c : Code} (h : J P n S c (blkQ i Q) f) : J P n S (.block i c) Q f := ⟨fun w hw a ha =>
  wp_block (wp_mono (h.run w hw a ha) fun e a' w' ⟨f', hf', hq⟩ => by
    cases e with
    | exit j =>
      simp only [blkQ] at hq
      simp only [Exit.inBlock]
      by_cases hj : j = i
      · subst hj; rw [if_pos rfl]; exact ⟨f', hf', by simpa using hq⟩
      · rw [if_neg hj]; exact ⟨f', hf', by simpa [hj] using hq⟩
    | _ => exact ⟨f', hf', hq⟩)⟩
theorem J.condT {c : Operand} {x y : Code} (hc : ev f c = .bool true) (h : J P n S x Q f) : J P n S (.cond c x y) Q f := ⟨fun w hw a ha =>
  wp_cond (t := true) (by rw [ha.eval]; exact hc) (h.run w hw a ha)⟩
theorem J.condF {c : Operand} {x y : Code} (hc : ev f c = .bool false) (h : J P n S y Q f) : J P n S (.cond c x y) Q f := ⟨fun w hw a ha =>
  wp_cond (t := false) (by rw [ha.eval]; exact hc) (h.run w hw a ha)⟩
theorem J.at_ {c : Code} (h : J P n S c Q f) (hw : S w) : WP P n c Q f w := h.run w hw
theorem J.mono {c : Code} (hs : ∀ w, S' w → S w) (h : J P n S c Q f) : J P n S' c Q f := ⟨fun w hw => h.run w (hs w hw)⟩

/-- What follows from the state may be used. -/
theorem J.fact {c : Code} {p : Prop} (hp : ∀ w, S w → p) (h : p → J P n S c Q f) : J P n S c Q f := ⟨fun w hw => (h (hp w hw)).run w hw⟩

/-- A loop: what holds at each round's head, and what goes down. -/
theorem J.loop {c : Code} (I : Fr → World → Prop) (μ : Fr → World → Nat) (h0 : ∀ w, S w → I f w)
    (hr : ∀ f w, I f w → WP P n c (thenQ (fun f' w' => I f' w' ∧ μ f' w' < μ f w) Q) f w) : J P n S (.loop c) Q f := ⟨fun w hw a ha => by
  let I' : Act → World → Prop := fun a w => ∃ f, Rep n a f ∧ I f w
  let μ' : Act → World → Nat := fun a w => μ (fun t => a.tmps.getD t undef) w
  have e : ∀ {a : Act} {f : Fr}, Rep n a f → (fun t => a.tmps.getD t undef) = f := fun h => funext h.get
  refine wp_loop I' μ' ⟨f, ha, h0 w hw⟩ fun a w ⟨f, hf, hI⟩ => wp_mono (hr f w hI a hf) fun x a' w' ⟨f', hf', hq⟩ => ?_
  cases x with
  | normal => exact ⟨⟨f', hf', hq.1⟩, by show μ _ _ < μ _ _; rw [e hf, e hf']; exact hq.2⟩
  | _ => exact ⟨f', hf', hq⟩⟩

theorem JX.thenN {y : Code} {Q' : Post} (h : J P n S y Q f) : JX S (thenQ (WP P n y Q) Q') .normal f := ⟨h.run⟩
theorem JX.thenR {K : Fr → World → Prop} (h : JX S Q .ret f) : JX S (thenQ K Q) .ret f := ⟨h.run⟩
theorem JX.thenE {K : Fr → World → Prop} {i : Nat} (h : JX S Q (.exit i) f) : JX S (thenQ K Q) (.exit i) f := ⟨h.run⟩
theorem JX.blkN {i : Nat} (h : JX S Q .normal f) : JX S (blkQ i Q) .normal f := ⟨h.run⟩
theorem JX.blkR {i : Nat} (h : JX S Q .ret f) : JX S (blkQ i Q) .ret f := ⟨h.run⟩
theorem JX.blkS {i : Nat} (h : JX S Q .normal f) : JX S (blkQ i Q) (.exit i) f := ⟨fun w hw => by simp only [blkQ, Nat.beq_refl, cond_true]; exact h.run w hw⟩
theorem JX.blkE {i j : Nat} (hj : Nat.beq j i = false) (h : JX S Q (.exit j) f) : JX S (blkQ i Q) (.exit j) f := ⟨fun w hw => by simp only [blkQ, hj, cond_false]; exact h.run w hw⟩

theorem JX.round {K : Fr → World → Prop} (h : ∀ w, S w → K f w) : JX S (thenQ K Q) .normal f := ⟨h⟩

/-- What slots hold. -/
def upds (f : Fr) : List (Nat × Value) → Fr
  | [] => f
  | (t, v) :: r => upd (upds f r) t v
def Has (f : Fr) : List (Nat × Value) → Prop
  | [] => True
  | (t, v) :: r => f t = v ∧ Has f r
theorem Has.same {f : Fr} : ∀ {l : List (Nat × Value)}, Has f l → upds f l = f
  | [], _ => rfl
  | (t, v) :: r, h => by
    simp only [upds, h.2.same]
    funext x
    by_cases hx : x = t
    · subst hx; rw [upd_same]; exact h.1.symm
    · rw [upd_other _ _ hx]
theorem Has.eq {f : Fr} {l : List (Nat × Value)} (h : Has f l) : ∃ g, f = upds g l := ⟨f, h.same.symm⟩

/-! ### Regions -/
/-- Only the way on. -/
def NQ (n : Nat) (Q : Post) : Exit → Act → World → Prop := fun e a w => e = .normal ∧ LQ n Q .normal a w
theorem NQ.le {e : Exit} {a : Act} {w : World} (h : NQ n Q e a w) : LQ n Q e a w := by obtain ⟨rfl, h⟩ := h; exact h

/-- What is asked of an order: what each operation changes, what is kept while an operation waits. -/
structure Plan where
  Mod : Nat → World → World → Prop
  keep : Nat → (World → Prop) → Prop
  free : Nat → Nat → Prop
  wr : Nat → Nat → Prop
  refl : ∀ i w, Mod i w w
  triv : ∀ i, keep i fun _ => True
  blk : ∀ i b o, free i b → keep i fun w => w.heap[b]? = some o
  grow : ∀ i w w', Below w.heap.size w w' → Mod i w w'
  put : ∀ i b w w', wr i b → (∀ k, k ≠ b → k < w.heap.size → w'.heap[k]? = w.heap[k]?) → Mod i w w'
  calm : Nat → Prop
  hush : ∀ i (C : World → Prop), calm i → (∀ w w', (∀ k, k < w.heap.size → w'.heap[k]? = w.heap[k]?) → C w → C w') → keep i C
def plain : Plan := ⟨fun _ _ _ => True, fun _ _ => True, fun _ _ => True, fun _ _ => True, fun _ _ => trivial, fun _ => trivial, fun _ _ _ _ => trivial, fun _ _ _ _ => trivial, fun _ _ _ _ _ _ => trivial, fun _ => True, fun _ _ _ _ => trivial⟩
abbrev Entry := Nat × Oper × Bool

def wpPlan (P : Program) (ops : Array Oper) (pl : Plan) (Q : Exit → Act → World → Prop) : List Entry → Act → World → Prop
  | [], a, w => Q .normal a w
  | (i, o, true) :: r, a, w => ∃ v, ∃ C : World → Prop, pl.keep i C ∧ C w ∧ YieldsIf P ops C o v a ∧ wpPlan P ops pl Q r (a.put o.dst v) w
  | (i, o, false) :: r, a, w =>
    if Region.wanted o (yielded ops a.tmps) then o.wp P a w (fun a' w' => pl.Mod i w w' ∧ wpPlan P ops pl Q r a' w') Q else pl.Mod i w w ∧ wpPlan P ops pl Q r (a.put o.dst undef) w

def seqE : List Oper → List Entry
  | [] => []
  | o :: r => (0, o, false) :: seqE r

theorem wpList_of_plan {Q : Exit → Act → World → Prop} : ∀ (l : List Oper) (a : Act) (w : World), wpPlan P ops plain Q (seqE l) a w → wpList P ops Q l a w
  | [], _, _, h => h
  | o :: r, a, w, h => by
    simp only [seqE, wpPlan] at h
    unfold wpList
    split
    · rename_i hw
      rw [if_pos hw] at h
      exact .inl (Oper.wp_mono (fun a' w' h' => wpList_of_plan r a' w' h'.2) h)
    · rename_i hw
      rw [if_neg hw] at h
      exact wpList_of_plan r _ _ h.2

def WE (P : Program) (n : Nat) (ops : Array Oper) (pl : Plan) (E : List Entry) (Q : Post) (f : Fr) (w : World) : Prop :=
  ∀ a, Rep n a f → wpPlan P ops pl (NQ n Q) E a w
structure JE (P : Program) (n : Nat) (ops : Array Oper) (pl : Plan) (S : World → Prop) (E : List Entry) (Q : Post) (f : Fr) : Prop where
  run : ∀ w, S w → WE P n ops pl E Q f w

theorem J.region {id : Nat} {l : List Oper} (h : JE P n l.toArray plain S (seqE l) Q f) : J P n S (.region id l.toArray false) Q f := ⟨fun w hw a ha =>
  wp_mono (wp_region_lit (wpList_of_plan l a w (h.run w hw a ha))) fun _ _ _ h => h.le⟩

variable {pl : Plan} {E : List Entry} {i : Nat} {o : Oper} {b : Bool}

theorem JE.nil (h : JX S Q .normal f) : JE P n ops pl S [] Q f := ⟨fun w hw _ ha => ⟨rfl, f, ha, h.run w hw⟩⟩
theorem JE.nilN {y : Code} {Q' : Post} (h : J P n S y Q f) : JE P n ops pl S [] (thenQ (WP P n y Q) Q') f := JE.nil ⟨h.run⟩

theorem JE.sN {y : Code} {Q' : Post} (h : J P n S y Q f) : JE P n ops pl S (seqE []) (thenQ (WP P n y Q) Q') f := JE.nil ⟨h.run⟩
theorem JE.sX (h : JX S Q .normal f) : JE P n ops pl S (seqE []) Q f := JE.nil h

/-- What one operation does. -/
def Step (P : Program) (f : Fr) (o : Oper) (w : World) (R : Value → World → Prop) : Prop :=
  match (execOp (ev f) o).run P w with
  | .ok (.value v) w' => R v w'
  | .ok .skip w' => R undef w'
  | .ok (.enter g args) w' => Calls P g args w' fun e w'' => match e with | .returned v => R v w'' | _ => False
  | _ => False

theorem Step.mono {R R' : Value → World → Prop} (h : Step P f o w R) (hr : ∀ v w', R v w' → R' v w') : Step P f o w R' := by
  unfold Step at *
  split at h
  · exact hr _ _ h
  · exact hr _ _ h
  · exact h.mono fun e w' he => by cases e <;> first | exact hr _ _ he | exact he
  · exact h.elim

theorem Step.wp {a : Act} {R : Value → World → Prop} {K : Act → World → Prop} {Q' : Exit → Act → World → Prop} (ha : Rep n a f) (h : Step P f o w R)
    (hk : ∀ v w', R v w' → K (a.put o.dst v) w') : o.wp P a w K Q' := by
  unfold Step at h
  unfold Oper.wp
  rw [ha.eval]
  split at h
  · rename_i hr; rw [hr]; exact hk _ _ h
  · rename_i hr; rw [hr]; exact hk _ _ h
  · rename_i hr; rw [hr]; exact h.mono fun e w' he => by
      cases e with
      | returned v => exact hk _ _ he
      | _ => exact he.elim
  · exact h.elim

/-- An operation that is not asked for. -/
theorem WE.skip (hw : wantF ops f o = false) (hd : dstOk n o.dst = true) (h : WE P n ops pl E Q (updO f o.dst undef) w) :
    WE P n ops pl ((i, o, b) :: E) Q f w := fun a ha => by
  have e := ha.want ops o
  rw [hw] at e
  cases b with
  | true => exact ⟨undef, fun _ => True, pl.triv i, trivial, .inr ⟨e, rfl⟩, h _ (ha.updO hd _)⟩
  | false => simp only [wpPlan]; rw [if_neg (by rw [e]; decide)]; exact ⟨pl.refl i w, h _ (ha.updO hd _)⟩

/-- An operation that leaves the world alone, and yields one value in every world of C. -/
theorem WE.quiet {v : Value} (C : World → Prop) (hk : b = true → pl.keep i C) (hC : C w) (hw : wantF ops f o = true) (hv : ∀ w, C w → (execOp (ev f) o).run P w = .ok (.value v) w)
    (hd : dstOk n o.dst = true) (h : WE P n ops pl E Q (updO f o.dst v) w) : WE P n ops pl ((i, o, b) :: E) Q f w := fun a ha => by
  have e := ha.want ops o
  rw [hw] at e
  cases b with
  | true => exact ⟨v, C, hk rfl, hC, .inl ⟨e, fun w hw => by rw [ha.eval]; exact hv w hw⟩, h _ (ha.updO hd _)⟩
  | false =>
    simp only [wpPlan]; rw [if_pos e]
    have hs : Step P f o w fun u w' => u = v ∧ w' = w := by unfold Step; rw [hv w hC]; exact ⟨rfl, rfl⟩
    exact hs.wp ha fun u w' ⟨hu, hw'⟩ => by subst hu; subst hw'; exact ⟨pl.refl i w', h _ (ha.updO hd _)⟩

/-- An operation that acts. -/
theorem WE.act {R : Value → World → Prop} (hw : wantF ops f o = true) (hs : Step P f o w R) (hd : dstOk n o.dst = true)
    (h : ∀ v w', R v w' → pl.Mod i w w' ∧ WE P n ops pl E Q (updO f o.dst v) w') : WE P n ops pl ((i, o, false) :: E) Q f w := fun a ha => by
  have e := ha.want ops o
  rw [hw] at e
  simp only [wpPlan]; rw [if_pos e]
  exact hs.wp ha fun v w' hr => ⟨(h v w' hr).1, (h v w' hr).2 _ (ha.updO hd _)⟩

/-! ### Regions that draw their order -/
def wpAnyM (P : Program) (ops : Array Oper) (Q : Exit → Act → World → Prop) (Mod : Nat → World → World → Prop) : Nat → Array Bool → Act → World → Prop
  | 0, listed, a, w => Region.ready .any ops listed = [] ∧ Q .normal a w
  | k + 1, listed, a, w => (Region.ready .any ops listed = [] → Q .normal a w) ∧
    ∀ j ∈ Region.ready .any ops listed, wpOp P ops Q j (fun a' w' => Mod j w w' ∧ wpAnyM P ops Q Mod k (listed.setIfInBounds j true) a' w') a w

/-- C is kept by whatever may come while i waits. -/
def keepM (ops : Array Oper) (Mod : Nat → World → World → Prop) (i : Nat) (C : World → Prop) : Prop := ∀ j w w', Region.waitsFor .any ops j i = false → Mod j w w' → C w → C w'

theorem wpAny_of_M {Q : Exit → Act → World → Prop} {Mod : Nat → World → World → Prop} : ∀ (k : Nat) (listed : Array Bool) (a : Act) (w : World), wpAnyM P ops Q Mod k listed a w → wpAny P .any ops Q k listed a w
  | 0, _, _, _, h => h
  | k + 1, _, _, _, h => ⟨h.1, fun j hj => wpOp_mono (fun a' w' h' => wpAny_of_M k _ a' w' h'.2) (h.2 j hj)⟩

theorem wpAnyM_first {Q : Exit → Act → World → Prop} {Mod : Nat → World → World → Prop} {C : World → Prop} {i : Nat} {oi : Oper} {v : Value} (hi : ops[i]? = some oi)
    (hsel : ∀ (j : Nat) (o : Oper) cs b, ops[j]? = some o → o.op ≠ .select cs b) (hQ : ∀ c a w, Q (.panic c) (a.put oi.dst v) w → Q (.panic c) a w)
    (hrefl : ∀ j w, Mod j w w) (hkeep : keepM ops Mod i C) :
    ∀ (k : Nat) (listed : Array Bool) (a : Act) (w : World),
      (∀ j oj, ops[j]? = some oj → j ≠ i → listed.getD j true = false → (∀ e ∈ oj.after, Region.binds .any e = true → e.on ≠ i) → oi.apart ops oj = true) →
      i ∈ Region.ready .any ops listed → YieldsIf P ops C oi v a → C w →
      wpAnyM P ops Q Mod k (listed.setIfInBounds i true) (a.put oi.dst v) w → wpAnyM P ops Q Mod (k + 1) listed a w := by
  intro k
  induction k with
  | zero =>
    intro listed a w _ hr hy hC H
    refine ⟨fun h => (by rw [h] at hr; cases hr), fun j hj => ?_⟩
    by_cases hji : j = i
    · subst hji; exact hy.wpOp hi hC ⟨hrefl _ _, H⟩
    · have := ready_mono hj hji
      rw [H.1] at this
      cases this
  | succ k ih =>
    intro listed a w hfree hr hy hC H
    refine ⟨fun h => (by rw [h] at hr; cases hr), fun j hj => ?_⟩
    by_cases hji : j = i
    · subst hji; exact hy.wpOp hi hC ⟨hrefl _ _, H⟩
    · have h1 := H.2 j (ready_mono hj hji)
      obtain ⟨hjun, oj, hoj, hall⟩ := mem_ready.1 hj
      have h0 := (mem_ready.1 hr).1
      have hnot : ∀ e ∈ oj.after, Region.binds .any e = true → e.on ≠ i := fun e he hb heq => by
        have h1 := hall e he hb
        rw [heq, getD_both h0] at h1
        cases h1
      have hwait : Region.waitsFor .any ops j i = false := by
        cases hw : Region.waitsFor .any ops j i with
        | false => rfl
        | true =>
          obtain ⟨oj', hoj', e, he, hb, hon⟩ := Region.waitsFor_spec hw
          have : oj' = oj := Option.some.inj (hoj'.symm.trans hoj)
          subst this
          exact absurd hon (hnot e he hb)
      have h2 := wpOp_putIf hoj (hfree j oj hoj hji hjun hnot) (fun cs b => hsel i oi cs b hi) (fun cs b => hsel j oj cs b hoj) hQ hy h1
      have hfree' : ∀ k ok, ops[k]? = some ok → k ≠ i → (listed.setIfInBounds j true).getD k true = false →
          (∀ e ∈ ok.after, Region.binds .any e = true → e.on ≠ i) → oi.apart ops ok = true := fun k ok hk hki hun hno => by
        refine hfree k ok hk hki ?_ hno
        by_cases hjk : j = k
        · subst hjk; exact hjun
        · rw [getD_set_ne true hjk] at hun; exact hun
      refine wpOp_mono (fun a' w' h3 => ⟨h3.2.1, ih (listed.setIfInBounds j true) a' w' hfree' (ready_mono hr (Ne.symm hji)) h3.1 (hkeep j w w' hwait h3.2.1 hC) ?_⟩) h2
      rw [Array.setIfInBounds_comm _ _ hji]
      exact h3.2.2

def entD (ops : Array Oper) : List (Nat × Bool) → List Entry
  | [] => []
  | (i, b) :: r => (i, (ops[i]?).getD default, b) :: entD ops r

/-- An order that serves every order: true: taken first; false: alone ready. -/
def planOk (ops : Array Oper) : List (Nat × Bool) → Array Bool → Bool
  | [], listed => Region.ready .any ops listed == []
  | (i, true) :: r, listed => (Region.ready .any ops listed).contains i && Region.free .any ops listed i && planOk ops r (listed.setIfInBounds i true)
  | (i, false) :: r, listed => (Region.ready .any ops listed == [i]) && planOk ops r (listed.setIfInBounds i true)

def regOk (ops : Array Oper) (ord : List (Nat × Bool)) : Bool := ord.length == ops.size && Region.noSelect ops && planOk ops ord (Array.replicate ops.size false)

/-- The writes of a region: which operation writes which block. No other operation writes what was there. -/
def ModW (Wr : List (Nat × Nat)) (i : Nat) (w w' : World) : Prop := ∀ k, (i, k) ∉ Wr → k < w.heap.size → w'.heap[k]? = w.heap[k]?
/-- Whoever writes block b waits for operation i. -/
def freeW (ops : Array Oper) (i b : Nat) : List (Nat × Nat) → Prop
  | [] => True
  | (e, b') :: r => (Region.waitsFor .any ops e i = true ∨ b' ≠ b) ∧ freeW ops i b r

/-- Whoever writes waits for operation i. -/
def calmW (ops : Array Oper) (i : Nat) : List (Nat × Nat) → Prop
  | [] => True
  | (e, _) :: r => Region.waitsFor .any ops e i = true ∧ calmW ops i r
theorem calmW.spec {i : Nat} : ∀ {Wr : List (Nat × Nat)}, calmW ops i Wr → ∀ e k, Region.waitsFor .any ops e i = false → (e, k) ∉ Wr
  | [], _, _, _, _ => by simp
  | (e', b') :: r, h, e, k, he => by
    intro hm
    rcases List.mem_cons.1 hm with hm | hm
    · cases hm; rw [h.1] at he; cases he
    · exact h.2.spec e k he hm

theorem freeW.spec {i b : Nat} : ∀ {Wr : List (Nat × Nat)}, freeW ops i b Wr → ∀ e, Region.waitsFor .any ops e i = false → (e, b) ∉ Wr
  | [], _, _, _ => by simp
  | (e', b') :: r, h, e, he => by
    intro hm
    rcases List.mem_cons.1 hm with hm | hm
    · cases hm
      rcases h.1 with h1 | h1
      · rw [he] at h1; cases h1
      · exact h1 rfl
    · exact h.2.spec e he hm

def drawn (ops : Array Oper) (Wr : List (Nat × Nat)) : Plan where
  Mod := ModW Wr
  keep := keepM ops (ModW Wr)
  free i b := freeW ops i b Wr
  wr i b := (i, b) ∈ Wr
  refl := fun _ _ _ _ _ => rfl
  triv := fun _ _ _ _ _ _ _ => trivial
  blk := fun i b o hf j w w' hj hm hb => by
    have hlt : b < w.heap.size := (Array.getElem?_eq_some_iff.1 hb).1
    exact (hm b (hf.spec j hj) hlt).trans hb
  grow := fun _ w w' hb k _ hk => hb.block k hk
  put := fun i b w w' hw h k hk hlt => h k (fun e => hk (e ▸ hw)) hlt
  calm i := calmW ops i Wr
  hush := fun i C hc hs j w w' hj hm hC => hs w w' (fun k hk => hm k (hc.spec j k hj) hk) hC

theorem wpAnyM_of_plan {Q : Exit → Act → World → Prop} {pl : Plan} (hs : Region.noSelect ops = true) (hQ : ∀ c a w, ¬ Q (.panic c) a w) (hpl : ∀ i C, pl.keep i C → keepM ops pl.Mod i C) :
    ∀ (ord : List (Nat × Bool)) (listed : Array Bool) (a : Act) (w : World), planOk ops ord listed = true → wpPlan P ops pl Q (entD ops ord) a w → wpAnyM P ops Q pl.Mod ord.length listed a w
  | [], listed, a, w, hok, h => ⟨by simpa [planOk] using hok, h⟩
  | (i, true) :: r, listed, a, w, hok, h => by
    simp only [planOk, Bool.and_eq_true] at hok
    obtain ⟨⟨hr, hf⟩, hok⟩ := hok
    have hr' : i ∈ Region.ready .any ops listed := by simpa using hr
    obtain ⟨_, oi, hoi, _⟩ := mem_ready.1 hr'
    simp only [entD, hoi, Option.getD_some, wpPlan] at h
    obtain ⟨v, C, hk, hC, hy, h⟩ := h
    exact wpAnyM_first hoi (Region.noSelect_spec hs) (fun c a w hp => absurd hp (hQ c _ w)) pl.refl (hpl _ _ hk) _ listed a w (Region.free_spec hoi hf) hr' hy hC (wpAnyM_of_plan hs hQ hpl r _ _ _ hok h)
  | (i, false) :: r, listed, a, w, hok, h => by
    simp only [planOk, Bool.and_eq_true] at hok
    obtain ⟨hr, hok⟩ := hok
    have hr' : Region.ready .any ops listed = [i] := by simpa using hr
    have hm : i ∈ Region.ready .any ops listed := by rw [hr']; exact List.mem_singleton.2 rfl
    obtain ⟨_, oi, hoi, _⟩ := mem_ready.1 hm
    simp only [entD, hoi, Option.getD_some, wpPlan] at h
    show wpAnyM P ops Q pl.Mod (r.length + 1) listed a w
    refine ⟨fun h0 => (by rw [hr'] at h0; cases h0), fun j hj => ?_⟩
    rw [hr'] at hj
    obtain rfl := List.mem_singleton.1 hj
    unfold wpOp
    simp only [hoi]
    split
    · rename_i hw
      rw [if_pos hw] at h
      exact .inl (Oper.wp_mono (fun a' w' h' => ⟨h'.1, wpAnyM_of_plan hs hQ hpl r _ _ _ hok h'.2⟩) h)
    · rename_i hw
      rw [if_neg hw] at h
      exact ⟨h.1, wpAnyM_of_plan hs hQ hpl r _ _ _ hok h.2⟩

/-- Nothing is asked of what an operation changes; nothing is kept. -/
def loose : Plan := ⟨fun _ _ _ => True, fun _ C => ∀ w, C w, fun _ _ => False, fun _ _ => True, fun _ _ => trivial, fun _ _ => trivial, fun _ _ _ h => h.elim, fun _ _ _ _ => trivial, fun _ _ _ _ _ _ => trivial, fun _ => False, fun _ _ h => h.elim⟩

theorem JE.dN {y : Code} {Q' : Post} {pl : Plan} {ops' : Array Oper} (h : J P n S y Q f) : JE P n ops pl S (entD ops' []) (thenQ (WP P n y Q) Q') f := JE.nil ⟨h.run⟩
theorem JE.dX {pl : Plan} {ops' : Array Oper} (h : JX S Q .normal f) : JE P n ops pl S (entD ops' []) Q f := JE.nil h

/-- Is it region i? -/
theorem J.isR (i : Nat) {l : Array Oper} {d : Bool} (h : J P n S (.region i l d) Q f) : J P n S (.region i l d) Q f := h
theorem J.drawP {id : Nat} {l : List Oper} (pl : Plan) (hpl : ∀ i C, pl.keep i C → keepM l.toArray pl.Mod i C) (ord : List (Nat × Bool)) (hm : P.follows .mixedOrders = true) (hok : regOk l.toArray ord = true)
    (hS : ∀ w, S w → S w.drew) (h : JE P n l.toArray pl S (entD l.toArray ord) Q f) : J P n S (.region id l.toArray true) Q f := ⟨fun w hw a ha => by
  simp only [regOk, Bool.and_eq_true] at hok
  obtain ⟨⟨h1, h2⟩, h3⟩ := hok
  have h1 : ord.length = l.toArray.size := by simpa using h1
  refine wp_mono (wp_region_any (Q := NQ n Q) hm (wpAny_of_M (Mod := pl.Mod) _ _ _ _ ?_)) fun _ _ _ h => h.le
  rw [← h1]
  exact wpAnyM_of_plan h2 (fun c a w hq => by cases hq.1) hpl ord _ _ _ (by rw [h1]; exact h3) (h.run w.drew (hS w hw) a ha)⟩

theorem J.draw {id : Nat} {l : List Oper} (ord : List (Nat × Bool)) (Wr : List (Nat × Nat)) (hm : P.follows .mixedOrders = true) (hok : regOk l.toArray ord = true)
    (hS : ∀ w, S w → S w.drew) (h : JE P n l.toArray (drawn l.toArray Wr) S (entD l.toArray ord) Q f) : J P n S (.region id l.toArray true) Q f :=
  J.drawP (drawn l.toArray Wr) (fun _ _ h => h) ord hm hok hS h

/-- The same; the quiet ones need no memory. -/
theorem J.drawL {id : Nat} {l : List Oper} (ord : List (Nat × Bool)) (hm : P.follows .mixedOrders = true) (hok : regOk l.toArray ord = true)
    (hS : ∀ w, S w → S w.drew) (h : JE P n l.toArray loose S (entD l.toArray ord) Q f) : J P n S (.region id l.toArray true) Q f :=
  J.drawP loose (fun _ _ h _ _ w' _ _ _ => h w') ord hm hok hS h

end Go.Proofs.YtnapfiheholhiaaSym
