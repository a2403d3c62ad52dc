/-
  Liens in memory, and what the program's calls do to them: first part. Conditions: none.
-/
import Derived.Test.YtnapfiheholhiaaRef26d
import Derived.Test.YtnapfiheholhiaaPl
set_option linter.unusedVariables false
set_option linter.unusedSimpArgs false
namespace Go.Proofs.YtnapfiheholhiaaSym
open Go Go.RowKit
section
variable {P : Program} {n : Nat} {ops : Array Oper} {pl : Plan} {S : World → Prop} {E : List Entry} {Q : Post} {f : Fr} {i : Nat} {b : Bool}
variable {dst : Option Tmp} {T : TypeId} {pos : String} {af : Array Edge} {g : Option (Nat × Bool)} {W0 : World} {olds : List Nat} {l rest : List (Nat × Obj)}
variable {K V : Type} {encK : K → Value} {encV : V → Value} {kvs dn td : List (K × V)} {o io : Obj} {B : Nat}
theorem JE.kEntry {x : Operand} (h : JE P n ops pl S ((i, ⟨dst, .entry x, T, pos, af, g⟩, b) :: E) Q f) : JE P n ops pl S ((i, ⟨dst, .entry x, T, pos, af, g⟩, b) :: E) Q f := h
/-- Is it a call whose second argument is slot t's? -/
theorem JE.isArgT (t : Tmp) {x : Operand} {ce : Callee} {ts : Array TypeId} (h : JE P n ops pl S ((i, ⟨dst, .call { callee := ce, args := #[x, .tmp t], argTypes := ts }, T, pos, af, g⟩, b) :: E) Q f) : JE P n ops pl S ((i, ⟨dst, .call { callee := ce, args := #[x, .tmp t], argTypes := ts }, T, pos, af, g⟩, b) :: E) Q f := h
def lookVal (encV : V → Value) (z : Value) : Option V → Value
  | some v => encV v
  | none => z
theorem JE.lookupV [DecidableEq K] {t kt et : TypeId} {x y : Operand} {k : K} {z v : Value} [ht : MapT P t kt et] [hK : KeyT P kt encK] [hz : ZeroT P et z] (hw : wantF ops f ⟨dst, .lookup t x y false, T, pos, af, g⟩ = true)
    (hx : ev f x = .map (some B)) (hy : ev f y = encK k) (hk : In l (B, o)) (ho : MapO encK encV o kvs) (hu : lookVal encV z (klook k kvs) = v)
    (hfree : b = true → pl.free i B) (hd : dstOk n dst = true)
    (h : JE P n ops pl (St W0 olds l) E Q (updO f dst v)) : JE P n ops pl (St W0 olds l) ((i, ⟨dst, .lookup t x y false, T, pos, af, g⟩, b) :: E) Q f :=
  JE.lookup (z := z) hw hx hy hk ho (u := lookVal encV z (klook k kvs)) (by cases klook k kvs <;> rfl) hu hfree hd h
/-- The next entry of a map; the iterator is known as the first block. -/
theorem JE.nextMap1 {x : Operand} {r : Nat} (hw : wantF ops f ⟨dst, .next x false, T, pos, af, g⟩ = true) (hx : ev f x = .pointer (some ⟨r, 0, none⟩)) (ho : MapO encK encV o kvs) (hi : IterO o B io kvs dn td) (hb : In rest (B, o))
    (hwr : pl.wr i r) (hd : dstOk n dst = true)
    (h0 : td = [] → JE P n ops pl (St W0 olds ((r, io) :: rest)) E Q (updO f dst (.tuple #[.bool false])))
    (h1 : ∀ a td1 td2 io', td = td1 ++ a :: td2 → IterO o B io' kvs (dn ++ [a]) (td1 ++ td2) → JE P n ops pl (St W0 olds ((r, io') :: rest)) E Q (updO f dst (.tuple #[.bool true, encK a.1, encV a.2]))) :
    JE P n ops pl (St W0 olds ((r, io) :: rest)) ((i, ⟨dst, .next x false, T, pos, af, g⟩, false) :: E) Q f := ⟨fun w hS => by
  have hrb := hS.own _ List.mem_cons_self
  have hbb := hS.own _ (List.mem_cons_of_mem _ hb.mem)
  rcases run_next_mapO (P := P) (ty := T) ho hi hrb hbb with ⟨h, hrun⟩ | ⟨a, td1, td2, io', e, hi', w1, hw1, hrun⟩
  · refine WE.act (R := fun v w' => v = .tuple #[.bool false] ∧ w' = w) hw ?_ hd ?_
    · simp [Step, execOp, hx, hrun]
    · rintro v w' ⟨rfl, rfl⟩
      exact ⟨pl.refl i w', (h0 h).run _ hS⟩
  · refine WE.act (R := fun v w' => v = .tuple #[.bool true, encK a.1, encV a.2] ∧ w' = w1.turned r io') hw ?_ hd ?_
    · simp [Step, execOp, hx, hrun]
    · rintro v w' ⟨rfl, rfl⟩
      have hS1 : St W0 olds ((r, io) :: rest) w1 := by
        rcases hw1 with rfl | rfl
        · exact hS
        · exact hS.drew
      have hheap : w1.heap = w.heap := by rcases hw1 with rfl | rfl <;> rfl
      refine ⟨pl.put i r w _ hwr fun j hj _ => ?_, (h1 a td1 td2 io' e hi').run _ (hS1.turned .head)⟩
      rw [turned_other w1 _ hj, hheap]⟩
/-- How many entries an iterator has handed out. -/
def seenN (w : World) (r : Nat) : Nat := match w.heap[r]? with | some (.mapIter _ _ seen _) => seen.size | _ => 0
theorem IterO.seen {w : World} {r : Nat} (hi : IterO o B io kvs dn td) (h : w.heap[r]? = some io) : seenN w r = dn.length := by
  obtain ⟨es, clock, seen, Z1, Z2, rfl, rfl, _, hs, rfl, _⟩ := hi
  simp only [seenN, h]
  have := congrArg List.length hs
  simpa using this
end
end Go.Proofs.YtnapfiheholhiaaSym

namespace Go.Proofs.Ytnapfiheholhiaa
open Go Go.RowKit Go.Proofs.YtnapfiheholhiaaSym

instance : KeyT Try.prog 9 Value.string := key_string Try.runUnderlying9

structure LRow where
  thing : ByteArray
  ps : List Pledge
  blk : Nat
  cap : Nat
  cur : Array Value
def encSV (x : Nat × Nat × Nat) : Value := .slice (some ⟨x.1, 0, none⟩) x.2.1 x.2.2
def rowBlk (r : LRow) : Nat × Obj := (r.blk, .cells r.cur 37 (0, 0))
def rowKV (r : LRow) : ByteArray × (Nat × Nat × Nat) := (r.thing, r.blk, r.ps.length, r.cap)

/-- The rows of liens over the document's list m. -/
structure LRows (R : List LRow) (m : List Pledge) : Prop where
  own : ∀ r ∈ R, OwnC 6 r.ps.length r.cap r.cur (r.ps.flatMap encPledge)
  keys : (R.map (·.thing)).Nodup
  row : ∀ r ∈ R, r.ps = rowOf m r.thing ∧ r.ps ≠ []
  all : ∀ p ∈ m, p.thing ∈ R.map (·.thing)

def LienO (p : Nat) (bm : Nat) (mo : Obj) (R : List LRow) : List (Nat × Obj) := (p, cel [.map (some bm)] 60) :: (bm, mo) :: R.map rowBlk
/-- The blocks l are liens (at p) over the document's list m. -/
def Lien (p : Nat) (m : List Pledge) (l : List (Nat × Obj)) : Prop := ∃ bm mo R, l = LienO p bm mo R ∧ MapO Value.string encSV mo (R.map rowKV) ∧ LRows R m ∧ Doc m

theorem LRows.nil : LRows [] [] := ⟨by simp, by simp, by simp, by simp⟩

/-- How many pledges the rows have. -/
theorem count_rows : ∀ (R : List LRow) (m : List Pledge), LRows R m → (R.map (·.ps.length)).sum = m.length
  | [], m, h => by
    cases m with
    | nil => rfl
    | cons p r => exact absurd (h.all p List.mem_cons_self) (by simp)
  | r :: R, m, h => by
    have hk := h.keys
    simp only [List.map_cons, List.nodup_cons] at hk
    have hr := h.row r List.mem_cons_self
    have ih := count_rows R (m.filter fun x => !decide (x.thing = r.thing)) ⟨fun x hx => h.own x (List.mem_cons_of_mem _ hx), hk.2, fun x hx => by
      have hx' := h.row x (List.mem_cons_of_mem _ hx)
      refine ⟨?_, hx'.2⟩
      rw [hx'.1, rowOf, rowOf, List.filter_filter]
      refine List.filter_congr fun y _ => ?_
      have hne : x.thing ≠ r.thing := fun e => hk.1 (e ▸ List.mem_map_of_mem hx)
      by_cases e : y.thing = x.thing
      · have : y.thing ≠ r.thing := fun e' => hne (e.symm.trans e')
        simp [e, hne]
      · simp [e], fun p hp => by
      rw [List.mem_filter] at hp
      have := h.all p hp.1
      simp only [List.map_cons, List.mem_cons] at this
      rcases this with e | h
      · simp [e] at hp
      · exact h⟩
    rw [List.map_cons, List.sum_cons, ih, hr.1, rowOf]
    have : ∀ l : List Pledge, (l.filter fun x => decide (x.thing = r.thing)).length + (l.filter fun x => !decide (x.thing = r.thing)).length = l.length := by
      intro l
      induction l with
      | nil => rfl
      | cons y l ih => by_cases e : y.thing = r.thing <;> simp [e] <;> omega
    exact this m

theorem klook_rows : ∀ (R : List LRow) (t : ByteArray), (R.map (·.thing)).Nodup → (klook t (R.map rowKV) = none ∧ t ∉ R.map (·.thing)) ∨ ∃ r ∈ R, r.thing = t ∧ klook t (R.map rowKV) = some (r.blk, r.ps.length, r.cap)
  | [], t, _ => .inl ⟨rfl, by simp⟩
  | r :: R, t, h => by
    simp only [List.map_cons, List.nodup_cons] at h
    by_cases e : t = r.thing
    · exact .inr ⟨r, List.mem_cons_self, e.symm, by simp [klook, rowKV, e]⟩
    · rcases klook_rows R t h.2 with ⟨h1, h2⟩ | ⟨x, hx, h1, h2⟩
      · exact .inl ⟨by simp only [List.map_cons, klook, rowKV, if_neg e]; exact h1, by simp [e, h2]⟩
      · exact .inr ⟨x, List.mem_cons_of_mem _ hx, h1, by simp only [List.map_cons, klook, rowKV, if_neg e]; exact h2⟩

theorem rows_split : ∀ (R : List LRow) (r : LRow), (R.map (·.thing)).Nodup → r ∈ R → (R.map rowBlk).Perm (rowBlk r :: (R.filter fun x => decide (x.thing ≠ r.thing)).map rowBlk)
  | [], _, _, h => by cases h
  | x :: R, r, hk, h => by
    simp only [List.map_cons, List.nodup_cons] at hk
    rcases List.mem_cons.1 h with rfl | h
    · have : R.filter (fun x => decide (x.thing ≠ r.thing)) = R := List.filter_eq_self.2 fun y hy => by
        simp only [decide_eq_true_eq]; exact fun e => hk.1 (e ▸ List.mem_map_of_mem hy)
      rw [List.filter_cons_of_neg (by simp), this]
      exact .refl _
    · have hne : x.thing ≠ r.thing := fun e => hk.1 (e ▸ List.mem_map_of_mem h)
      rw [List.filter_cons_of_pos (by simp [hne]), List.map_cons, List.map_cons]
      exact ((rows_split R r hk.2 h).cons _).trans (.swap _ _ _)

/-- What the map tells of a thing. -/
theorem LRows.look {R : List LRow} {m : List Pledge} (h : LRows R m) (t : ByteArray) : ∃ v ln, lookVal encSV (.slice none 0 0) (klook t (R.map rowKV)) = v ∧
    Own 6 encPledge 37 v (rowOf m t) ln ∧ (R.map rowBlk).Perm (ln ++ (R.filter fun x => decide (x.thing ≠ t)).map rowBlk) ∧ (rowOf m t = [] → v = .slice none 0 0 ∧ ln = []) := by
  rcases klook_rows R t h.keys with ⟨h1, h2⟩ | ⟨r, hr, rfl, h1⟩
  · refine ⟨.slice none 0 0, [], by rw [h1]; rfl, .inl ⟨rfl, ?_, rfl⟩, ?_, fun _ => ⟨rfl, rfl⟩⟩
    · refine List.filter_eq_nil_iff.2 fun p hp => ?_
      simp only [decide_eq_true_eq]
      exact fun e => h2 (e ▸ h.all p hp)
    · have : R.filter (fun x => decide (x.thing ≠ t)) = R := List.filter_eq_self.2 fun y hy => by
        simp only [decide_eq_true_eq]; exact fun e => h2 (e ▸ List.mem_map_of_mem hy)
      rw [this]; exact .refl _
  · have ho := h.own r hr
    have hp := (h.row r hr).1
    refine ⟨encSV (r.blk, r.ps.length, r.cap), [rowBlk r], by rw [h1]; rfl, .inr ⟨r.blk, r.cap, r.cur, by rw [hp]; rfl, by rw [← hp]; exact ho, rfl⟩, rows_split R r h.keys hr, fun e => absurd (hp.trans e) (h.row r hr).2⟩

/-! ### New, count -/
theorem new_calls (w : World) : Does Try.prog 23 [] w (RetN w fun v ln => ∃ p, v = .pointer (some ⟨p, 0, none⟩) ∧ Lien p [] ln) := by
  refine calls_J (ys := []) Try.func23 rfl Try.ntmps23 rfl ?_
  refine J.at_ (S := St w [] []) ?_ (St.start w)
  repeat' (first
    | refine JE.pure rfl rfl (by conv => lhs; whnf) rfl ?_
    | (refine JE.kBox ?_; refine JE.box rfl (by conv => lhs; whnf) rfl (fun _ _ => ?_))
    | (refine JE.kBuild ?_; refine JE.build rfl rfl (by repeat (first | exact NfL.nil rfl | apply NfL.cons (by exact rfl) (by conv => lhs; whnf))) rfl ?_)
    | with_reducible refine JE.sN ?_
    | with_reducible refine J.seq ?_
    | with_reducible refine J.region ?_
    | with_reducible refine J.ret ?_
    | (refine JE.kMakeMap ?_; refine JE.makeMap rfl rfl (fun _ _ => ?_)))
  exact fnQ_tmp (.inl rfl) rfl (by conv => lhs; whnf) fun w'' hS' => ⟨_, _, rfl, ⟨_, rfl, _, _, [], rfl, MapO.empty _ _, LRows.nil, Doc.nil⟩, hS'⟩

set_option maxHeartbeats 1000000 in
theorem count_calls {p : Nat} {m : List Pledge} {l : List (Nat × Obj)} (hL : Lien p m l) (w : World) (hown : ∀ x ∈ l, w.heap[x.1]? = some x.2) (hnd : (l.map (·.1)).Nodup) :
    Does Try.prog 48 [.pointer (some ⟨p, 0, none⟩)] w (Ret w (.int .i64 m.length)) := by
  obtain ⟨bm, mo, R, rfl, hM, hR, hD⟩ := hL
  have hsum := count_rows R m hR
  have hsize := hD.size
  refine calls_J (ys := [.pointer (some ⟨p, 0, none⟩)]) Try.func48 rfl Try.ntmps48 rfl ?_
  refine J.at_ ?_ (St.startO hown hnd)
  obtain ⟨olds, holds⟩ : ∃ o, o = (LienO p bm mo R).map (·.1) := ⟨_, rfl⟩
  rw [← holds]
  unfold LienO
  repeat' (first
    | refine JE.pure rfl rfl (by conv => lhs; whnf) rfl ?_
    | (refine JE.kField ?_; refine JE.fieldAddr rfl rfl rfl ?_)
    | (refine JE.kNil ?_; refine JE.nilCheck rfl rfl rfl ?_)
    | (refine JE.kLoad ?_; refine JE.load1 rfl rfl (by repeat (first | exact In.head | refine In.tail ?_ | refine In.app ?_)) rfl (by conv => lhs; whnf) (fun _ => by first | trivial | exact ⟨.inr ‹_›, trivial⟩ | exact ⟨.inl (by kernel_rfl), trivial⟩ | exact ⟨.inr ‹_›, .inr ‹_›, trivial⟩ | exact ⟨.inr ‹_›, .inl (by kernel_rfl), trivial⟩ | exact ⟨.inl (by kernel_rfl), .inr ‹_›, trivial⟩ | exact ⟨.inl (by kernel_rfl), .inl (by kernel_rfl), trivial⟩) rfl ?_)
    | with_reducible refine JE.sN ?_
    | with_reducible refine J.seq ?_
    | with_reducible refine J.region ?_
    | with_reducible refine J.block ?_
    | (refine JE.kRange ?_; refine JE.rangeMap rfl rfl (.tail .head) hM rfl (fun r0 io0 hr0 hi0 => ?_)))
  refine J.loop (fun f w' => ∃ (dn td : List (ByteArray × (Nat × Nat × Nat))) (io : Obj), IterO mo bm io (R.map rowKV) dn td ∧ Has f [(3, .int .i64 ((dn.map (·.2.2.1)).sum : Nat)), (10, .pointer (some ⟨r0, 0, none⟩))] ∧ St w olds ((r0, io) :: (LienO p bm mo R)) w')
    (fun f w' => R.length - seenN w' r0) (fun w' hS => ⟨[], _, _, hi0, (by repeat' (first | exact trivial | refine And.intro (by rfl) ?_)), hS⟩) ?_
  rintro f w' ⟨dn, td, io, hi, hf, hS⟩
  obtain ⟨g, rfl⟩ := hf.eq
  clear hf
  have hseen := hi.seen (hS.own _ List.mem_cons_self)
  have hperm := hi.perm hM
  have hlen : dn.length + td.length = R.length := by simpa using hperm.length_eq
  have hs : ((dn.map (·.2.2.1)).sum : Nat) + (td.map (·.2.2.1)).sum = m.length := by
    rw [← hsum, ← List.sum_append, ← List.map_append]
    have := (hperm.map (·.2.2.1)).sum_nat
    rw [this, List.map_map]; rfl
  have hbound : ∀ x td1 td2, td = td1 ++ x :: td2 → (dn.map (·.2.2.1)).sum + x.2.2.1 ≤ 4096 := fun x td1 td2 e => by
    rw [e, List.map_append, List.sum_append, List.map_cons, List.sum_cons] at hs; omega
  have hsn : ∀ x : ByteArray × (Nat × Nat × Nat), ((dn ++ [x]).map (·.2.2.1)).sum = (dn.map (·.2.2.1)).sum + x.2.2.1 := fun x => by simp
  refine J.at_ ?_ hS
  unfold LienO
  repeat' (first
    | refine JE.pure rfl rfl (by conv => lhs; whnf) rfl ?_
    | (refine JE.kBin ?_; refine JE.int rfl rfl rfl rfl (by rw [i64_id (by omega)]) rfl ?_)
    | (refine JE.kBuiltin ?_; refine JE.lenSl rfl rfl rfl ?_)
    | with_reducible refine JE.sN ?_
    | with_reducible refine JE.sX ?_
    | with_reducible refine J.seq ?_
    | with_reducible refine J.region ?_
    | refine J.condT rfl ?_
    | refine J.condF rfl ?_
    | with_reducible refine J.skip ?_
    | with_reducible refine J.exit ?_
    | with_reducible refine J.block ?_
    | with_reducible refine J.ret ?_
    | with_reducible refine JX.thenN ?_
    | with_reducible refine JX.thenE ?_
    | with_reducible refine JX.blkS ?_
    | with_reducible refine JX.blkN ?_
    | (refine JE.kNext ?_; refine JE.nextMap1 rfl rfl hM hi (.tail .head) trivial rfl (fun ht => ?_) (fun x td1 td2 io2 ht hi2 => have hb := hbound x td1 td2 ht; ?_))
    | (refine JE.kEntry ?_; refine JE.entryMap rfl rfl hM hi2 .head (.tail (.tail .head)) rfl ?_))
  · refine fnQ_tmp (.inl rfl) rfl (by conv => lhs; whnf) fun w'' hS' => ⟨?_, hS'.tl.quietO hown fun k hk => holds ▸ hk⟩
    subst ht
    simp at hs
    show Ending.returned (Value.int .i64 (((dn.map (·.2.2.1)).sum : Nat) : Int)) = _
    rw [hs]
  · refine JX.round fun w'' hS' => ⟨⟨dn ++ [x], td1 ++ td2, io2, hi2, ⟨?_, rfl, trivial⟩, hS'⟩, ?_⟩
    · show Value.int .i64 (((dn.map (·.2.2.1)).sum : Nat) + ((x.2.2.1 : Nat) : Int)) = _
      rw [hsn x, Int.natCast_add]
    · rw [hseen, hi2.seen (hS'.own _ List.mem_cons_self)]
      rw [ht] at hlen
      simp only [List.length_append, List.length_cons, List.length_nil] at hlen ⊢
      omega

end Go.Proofs.Ytnapfiheholhiaa
