/-
  The calculus of this claim, seventh part: regions in which several operations may come next. Conditions: none.
-/
import Derived.Test.YtnapfiheholhiaaObj
set_option linter.unusedVariables false
set_option linter.unusedSimpArgs false
namespace Go.Proofs.YtnapfiheholhiaaSym
open Go Go.RowKit

variable {P : Program} {n : Nat} {ops : Array Oper} {S : World → Prop} {Q : Post} {f : Fr} {w : World} {pl : Plan}

theorem JE.neStruct {K : Type} [DecidableEq K] {E : List Entry} {i : Nat} {b : Bool} {dst : Option Tmp} {T : TypeId} {pos : String} {af : Array Edge} {g : Option (Nat × Bool)} {t t' : TypeId} {a c : Operand} {enc : K → Value} {x y : K} [hq : EqT P t enc] (hw : wantF ops f ⟨dst, .binOp .neq t a c t', T, pos, af, g⟩ = true) (ha : ev f a = enc x) (hc : ev f c = enc y)
    (hd : dstOk n dst = true) (h : JE P n ops pl S E Q (updO f dst (.bool (decide (x ≠ y))))) : JE P n ops pl S ((i, ⟨dst, .binOp .neq t a c t', T, pos, af, g⟩, b) :: E) Q f :=
  .val hw (fun w => by
    obtain ⟨cx, ex⟩ := hq.isAgg x
    obtain ⟨cy, ey⟩ := hq.isAgg y
    have h2 : (Op.equal t (enc x) (enc y)).run P w = .ok (decide (x = y)) w := hq.run 9992 x y w
    rw [ex, ey] at h2
    simp [execOp, ha, hc, eqGuard, ex, ey, binOp, hq.guard, h2]) hd h
/-- Is it a load from where slot t points? -/
theorem JE.isLoadT (t : Tmp) {E : List Entry} {i : Nat} {b : Bool} {dst : Option Tmp} {T : TypeId} {pos : String} {af : Array Edge} {g : Option (Nat × Bool)} {u : TypeId} (h : JE P n ops pl S ((i, ⟨dst, .load u (.tmp t), T, pos, af, g⟩, b) :: E) Q f) : JE P n ops pl S ((i, ⟨dst, .load u (.tmp t), T, pos, af, g⟩, b) :: E) Q f := h
theorem LQ_panics {n : Nat} {Q : Post} (c : List PanicEntry) (a : Act) (w : World) : ¬ NQ n Q (.panic c) a w := fun h => by cases h.1
theorem LQ_out {n : Nat} {Q : Post} : ¬ LetsOut (NQ n Q) := fun h => by
  obtain ⟨a, w, h⟩ := h
  cases h.1

theorem Oper.wp_q {o : Oper} {a : Act} {w : World} {K : Act → World → Prop} {n : Nat} {Q Q' : Post} (h : o.wp P a w K (NQ n Q)) : o.wp P a w K (NQ n Q') := by
  unfold Oper.wp at *
  generalize (execOp a.eval o).run P w = r at *
  cases r with
  | ok m w' =>
    cases m <;> simp only [Oper.upon] at h ⊢ <;>
      first
        | exact h
        | exact Calls.mono h (fun e w'' he => by cases e <;> first | exact he | exact absurd he (LQ_panics _ _ _) | exact absurd he LQ_out)
  | halt x w' => cases x <;> simp only [Oper.upon] at h ⊢ <;> first | exact h | exact absurd h (LQ_panics _ _ _)

/-- Which operations are listed behind an order's first part; none: it does not serve. -/
def planPre (ops : Array Oper) : List (Nat × Bool) → Array Bool → Option (Array Bool)
  | [], listed => some listed
  | (i, true) :: r, listed => cond ((Region.ready .any ops listed).contains i && Region.free .any ops listed i) (planPre ops r (listed.setIfInBounds i true)) none
  | (i, false) :: r, listed => cond (Region.ready .any ops listed == [i]) (planPre ops r (listed.setIfInBounds i true)) none

theorem wpAnyM_pre {Q' : Post} {hs : Region.noSelect ops = true} (hpl : ∀ i C, pl.keep i C → keepM ops pl.Mod i C) {rem : Nat} {listed' : Array Bool}
    (H : ∀ a w, NQ n Q' .normal a w → wpAnyM P ops (NQ n Q) pl.Mod rem listed' a w) :
    ∀ (ord : List (Nat × Bool)) (listed : Array Bool) (a : Act) (w : World), planPre ops ord listed = some listed' → wpPlan P ops pl (NQ n Q') (entD ops ord) a w → wpAnyM P ops (NQ n Q) pl.Mod (ord.length + rem) listed a w
  | [], listed, a, w, hok, h => by
    simp only [planPre, Option.some.injEq] at hok
    subst hok
    rw [List.length_nil, Nat.zero_add]
    exact H a w h
  | (i, true) :: r, listed, a, w, hok, h => by
    simp only [planPre] at hok
    cases hc : (Region.ready .any ops listed).contains i && Region.free .any ops listed i with
    | false => rw [hc] at hok; cases hok
    | true =>
      rw [hc] at hok
      simp only [Bool.and_eq_true] at hc
      obtain ⟨hr, hf⟩ := hc
      have hr' : i ∈ Region.ready .any ops listed := by simpa using hr
      obtain ⟨_, oi, hoi, _⟩ := mem_ready.1 hr'
      simp only [entD, hoi, Option.getD_some, wpPlan] at h
      obtain ⟨v, C, hk, hC, hy, h⟩ := h
      rw [List.length_cons, show r.length + 1 + rem = (r.length + rem) + 1 by omega]
      exact wpAnyM_first hoi (Region.noSelect_spec hs) (fun c a w hp => absurd hp (LQ_panics _ _ _)) pl.refl (hpl _ _ hk) _ listed a w (Region.free_spec hoi hf) hr' hy hC (wpAnyM_pre (hs := hs) hpl H r _ _ _ hok h)
  | (i, false) :: r, listed, a, w, hok, h => by
    simp only [planPre] at hok
    cases hc : Region.ready .any ops listed == [i] with
    | false => rw [hc] at hok; cases hok
    | true =>
      rw [hc] at hok
      have hr' : Region.ready .any ops listed = [i] := by simpa using hc
      have hm : i ∈ Region.ready .any ops listed := by rw [hr']; exact List.mem_singleton.2 rfl
      obtain ⟨_, oi, hoi, _⟩ := mem_ready.1 hm
      simp only [entD, hoi, Option.getD_some, wpPlan] at h
      rw [List.length_cons, show r.length + 1 + rem = (r.length + rem) + 1 by omega]
      refine ⟨fun h0 => (by rw [hr'] at h0; cases h0), fun j hj => ?_⟩
      rw [hr'] at hj
      obtain rfl := List.mem_singleton.1 hj
      unfold wpOp
      simp only [hoi]
      split
      · rename_i hw
        rw [if_pos hw] at h
        exact .inl (Oper.wp_q (Oper.wp_mono (fun a' w' h' => ⟨h'.1, wpAnyM_pre (hs := hs) hpl H r _ _ _ hok h'.2⟩) h))
      · rename_i hw
        rw [if_neg hw] at h
        exact ⟨h.1, wpAnyM_pre (hs := hs) hpl H r _ _ _ hok h.2⟩

/-- Orders of a region as a tree: a first part; then whichever operation comes next. -/
def Tr : Nat → Type
  | 0 => List (Nat × Bool)
  | k + 1 => List (Nat × Bool) × List (Nat × Tr k)
def Tr.pre : (k : Nat) → Tr k → List (Nat × Bool)
  | 0, t => t
  | _ + 1, t => t.1
def treeQ (P : Program) (n : Nat) (ops : Array Oper) (pl : Plan) (Q : Post) : (k : Nat) → Tr k → Post
  | 0, _ => Q
  | k + 1, t => match t.2 with
    | [] => Q
    | _ :: _ => fun e f w => e = .normal ∧ ∀ x ∈ t.2, WE P n ops pl ((x.1, (ops[x.1]?).getD default, false) :: entD ops (Tr.pre k x.2)) (treeQ P n ops pl Q k x.2) f w
/-- Does the tree serve, so many operations being left? -/
def treeOk (ops : Array Oper) : (k : Nat) → Tr k → Nat → Array Bool → Bool
  | 0, t, rem, listed => match planPre ops t listed with
    | none => false
    | some listed' => Nat.beq t.length rem && Region.ready .any ops listed' == []
  | k + 1, t, rem, listed => match planPre ops t.1 listed with
    | none => false
    | some listed' => match t.2 with
      | [] => Nat.beq t.1.length rem && Region.ready .any ops listed' == []
      | _ :: _ => Nat.blt t.1.length rem && !(Region.ready .any ops listed').isEmpty && (Region.ready .any ops listed').all (fun j => t.2.any fun x => Nat.beq x.1 j) && t.2.all fun x => treeOk ops k x.2 (rem - t.1.length - 1) (listed'.setIfInBounds x.1 true)

theorem wpAnyM_tree {hs : Region.noSelect ops = true} (hpl : ∀ i C, pl.keep i C → keepM ops pl.Mod i C) :
    ∀ (k : Nat) (t : Tr k) (rem : Nat) (listed : Array Bool) (a : Act) (w : World), treeOk ops k t rem listed = true → wpPlan P ops pl (NQ n (treeQ P n ops pl Q k t)) (entD ops (Tr.pre k t)) a w → wpAnyM P ops (NQ n Q) pl.Mod rem listed a w
  | 0, t, rem, listed, a, w, hok, h => by
    simp only [treeOk] at hok
    split at hok
    · cases hok
    · rename_i listed' hp
      simp only [Bool.and_eq_true] at hok
      have e1 := Nat.eq_of_beq_eq_true hok.1
      have e2 : Region.ready .any ops listed' = [] := by simpa using hok.2
      have := wpAnyM_pre (P := P) (n := n) (Q := Q) (Q' := treeQ P n ops pl Q 0 t) (hs := hs) hpl (rem := 0) (listed' := listed') (fun a w hq => ⟨e2, hq⟩) t listed a w hp h
      rw [Nat.add_zero, e1] at this
      exact this
  | k + 1, t, rem, listed, a, w, hok, h => by
    obtain ⟨pre, fk⟩ := t
    simp only [treeOk] at hok
    split at hok
    · cases hok
    · rename_i listed' hp
      cases fk with
      | nil =>
        simp only [Bool.and_eq_true] at hok
        have e1 := Nat.eq_of_beq_eq_true hok.1
        have e2 : Region.ready .any ops listed' = [] := by simpa using hok.2
        have := wpAnyM_pre (P := P) (n := n) (Q := Q) (Q' := treeQ P n ops pl Q (k + 1) (pre, [])) (hs := hs) hpl (rem := 0) (listed' := listed') (fun a w hq => ⟨e2, hq⟩) pre listed a w hp h
        rw [Nat.add_zero, e1] at this
        exact this
      | cons x0 fk0 =>
        simp only [Bool.and_eq_true] at hok
        obtain ⟨⟨⟨h1, h0⟩, h2⟩, h3⟩ := hok
        have hlt : pre.length < rem := by simp [Nat.blt] at h1; omega
        have := wpAnyM_pre (P := P) (n := n) (Q := Q) (Q' := treeQ P n ops pl Q (k + 1) (pre, x0 :: fk0)) (hs := hs) hpl (rem := (rem - pre.length - 1) + 1) (listed' := listed') (fun a w hq => ?_) pre listed a w hp h
        · rw [show pre.length + (rem - pre.length - 1 + 1) = rem by omega] at this
          exact this
        · obtain ⟨_, f, hf, _, hall⟩ := hq
          have hcov : ∀ j ∈ Region.ready .any ops listed', ∃ x ∈ (x0 :: fk0), x.1 = j := fun j hj => by
            obtain ⟨x, hx, e⟩ := List.any_eq_true.1 (List.all_eq_true.1 h2 j hj)
            exact ⟨x, hx, Nat.eq_of_beq_eq_true e⟩
          have hready : ∀ x ∈ (x0 :: fk0), x.1 ∈ Region.ready .any ops listed' → wpOp P ops (NQ n Q) x.1 (fun a' w' => pl.Mod x.1 w w' ∧ wpAnyM P ops (NQ n Q) pl.Mod (rem - pre.length - 1) (listed'.setIfInBounds x.1 true) a' w') a w := fun x hx hr => by
            obtain ⟨_, oi, hoi, _⟩ := mem_ready.1 hr
            have hw := hall x hx a hf
            simp only [hoi, Option.getD_some, wpPlan] at hw
            have hok' := List.all_eq_true.1 h3 x hx
            unfold wpOp
            simp only [hoi]
            split
            · rename_i hwd
              rw [if_pos hwd] at hw
              exact .inl (Oper.wp_q (Oper.wp_mono (fun a' w' h' => ⟨h'.1, wpAnyM_tree (hs := hs) hpl k x.2 _ _ _ _ hok' h'.2⟩) hw))
            · rename_i hwd
              rw [if_neg hwd] at hw
              exact ⟨hw.1, wpAnyM_tree (hs := hs) hpl k x.2 _ _ _ _ hok' hw.2⟩
          refine ⟨fun e => ?_, fun j hj => ?_⟩
          · rw [e] at h0; cases h0
          · obtain ⟨x, hx, rfl⟩ := hcov j hj
            exact hready x hx hj

theorem J.drawTP {id : Nat} {l : List Oper} (pl : Plan) (hpl : ∀ i C, pl.keep i C → keepM l.toArray pl.Mod i C) (k : Nat) (t : Tr k) (hm : P.follows .mixedOrders = true) (hok : (Region.noSelect l.toArray && treeOk l.toArray k t l.length (Array.replicate l.length false)) = true)
    (hS : ∀ w, S w → S w.drew) (h : JE P n l.toArray pl S (entD l.toArray (Tr.pre k t)) (treeQ P n l.toArray pl Q k t) f) : J P n S (.region id l.toArray true) Q f := ⟨fun w hw a ha => by
  simp only [Bool.and_eq_true] at hok
  refine wp_mono (wp_region_any (Q := NQ n Q) hm (wpAny_of_M (Mod := pl.Mod) _ _ _ _ ?_)) fun _ _ _ h => h.le
  have := wpAnyM_tree (P := P) (n := n) (Q := Q) (hs := hok.1) hpl k t _ _ a w.drew hok.2 (h.run w.drew (hS w hw) a ha)
  simpa using this⟩
/-- A region whose orders make up the tree t; the writes are Wr. -/
theorem J.drawT {id : Nat} {l : List Oper} (k : Nat) (t : Tr k) (Wr : List (Nat × Nat)) (hm : P.follows .mixedOrders = true) (hok : (Region.noSelect l.toArray && treeOk l.toArray k t l.length (Array.replicate l.length false)) = true)
    (hS : ∀ w, S w → S w.drew) (h : JE P n l.toArray (drawn l.toArray Wr) S (entD l.toArray (Tr.pre k t)) (treeQ P n l.toArray (drawn l.toArray Wr) Q k t) f) : J P n S (.region id l.toArray true) Q f :=
  J.drawTP (drawn l.toArray Wr) (fun _ _ h => h) k t hm hok hS h
theorem J.drawTL {id : Nat} {l : List Oper} (k : Nat) (t : Tr k) (hm : P.follows .mixedOrders = true) (hok : (Region.noSelect l.toArray && treeOk l.toArray k t l.length (Array.replicate l.length false)) = true)
    (hS : ∀ w, S w → S w.drew) (h : JE P n l.toArray loose S (entD l.toArray (Tr.pre k t)) (treeQ P n l.toArray loose Q k t) f) : J P n S (.region id l.toArray true) Q f :=
  J.drawTP loose (fun _ _ h _ _ w' _ _ _ => h w') k t hm hok hS h

/-- Is it a tree? -/
theorem JE.isT {E : List Entry} {k : Nat} {t : Tr k} (h : JE P n ops pl S E (treeQ P n ops pl Q k t) f) : JE P n ops pl S E (treeQ P n ops pl Q k t) f := h
/-- Whichever comes next. -/
theorem JE.forks {E : List Entry} {k : Nat} {pre : List (Nat × Bool)} {x : Nat × Tr k} {fk : List (Nat × Tr k)} (hE : E = []) (h : ∀ y ∈ x :: fk, JE P n ops pl S ((y.1, (ops[y.1]?).getD default, false) :: entD ops (Tr.pre k y.2)) (treeQ P n ops pl Q k y.2) f) :
    JE P n ops pl S E (treeQ P n ops pl Q (k + 1) (pre, x :: fk)) f := ⟨fun w hw a ha => by
  subst hE; exact ⟨rfl, f, ha, rfl, fun y hy => (h y hy).run w hw⟩⟩
theorem JE.fork2 {E : List Entry} {k : Nat} {pre : List (Nat × Bool)} {i j : Nat} {t u : Tr k} (hE : E = []) (h1 : JE P n ops pl S ((i, (ops[i]?).getD default, false) :: entD ops (Tr.pre k t)) (treeQ P n ops pl Q k t) f)
    (h2 : JE P n ops pl S ((j, (ops[j]?).getD default, false) :: entD ops (Tr.pre k u)) (treeQ P n ops pl Q k u) f) : JE P n ops pl S E (treeQ P n ops pl Q (k + 1) (pre, [(i, t), (j, u)])) f :=
  JE.forks hE fun y hy => by
    rcases List.mem_cons.1 hy with rfl | hy
    · exact h1
    · rw [List.mem_singleton.1 hy]; exact h2
theorem JE.fork3 {E : List Entry} {k : Nat} {pre : List (Nat × Bool)} {i j m : Nat} {t u v : Tr k} (hE : E = []) (h1 : JE P n ops pl S ((i, (ops[i]?).getD default, false) :: entD ops (Tr.pre k t)) (treeQ P n ops pl Q k t) f)
    (h2 : JE P n ops pl S ((j, (ops[j]?).getD default, false) :: entD ops (Tr.pre k u)) (treeQ P n ops pl Q k u) f) (h3 : JE P n ops pl S ((m, (ops[m]?).getD default, false) :: entD ops (Tr.pre k v)) (treeQ P n ops pl Q k v) f) :
    JE P n ops pl S E (treeQ P n ops pl Q (k + 1) (pre, [(i, t), (j, u), (m, v)])) f :=
  JE.forks hE fun y hy => by
    rcases List.mem_cons.1 hy with rfl | hy
    · exact h1
    · rcases List.mem_cons.1 hy with rfl | hy
      · exact h2
      · rw [List.mem_singleton.1 hy]; exact h3
/-- The tree's end. -/
theorem JE.leaf0 {E : List Entry} {t : Tr 0} {y : Code} {Q' : Post} (hE : E = []) (h : J P n S y Q f) : JE P n ops pl S E (treeQ P n ops pl (thenQ (WP P n y Q) Q') 0 t) f := by subst hE; exact JE.nil ⟨h.run⟩
theorem JE.leaf1 {E : List Entry} {k : Nat} {pre : List (Nat × Bool)} {y : Code} {Q' : Post} (hE : E = []) (h : J P n S y Q f) : JE P n ops pl S E (treeQ P n ops pl (thenQ (WP P n y Q) Q') (k + 1) (pre, [])) f := by subst hE; exact JE.nil ⟨h.run⟩
theorem JE.leafX0 {E : List Entry} {t : Tr 0} (hE : E = []) (h : JX S Q .normal f) : JE P n ops pl S E (treeQ P n ops pl Q 0 t) f := by subst hE; exact JE.nil h
theorem JE.leafX1 {E : List Entry} {k : Nat} {pre : List (Nat × Bool)} (hE : E = []) (h : JX S Q .normal f) : JE P n ops pl S E (treeQ P n ops pl Q (k + 1) (pre, [])) f := by subst hE; exact JE.nil h

end Go.Proofs.YtnapfiheholhiaaSym
