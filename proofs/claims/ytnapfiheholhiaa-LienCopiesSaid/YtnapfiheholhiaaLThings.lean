/-
  What the program's calls do to liens: Things. Conditions: none.
-/
import Derived.Test.YtnapfiheholhiaaLSh
import Derived.Test.YtnapfiheholhiaaApart
set_option linter.unusedVariables false
set_option linter.unusedSimpArgs false
namespace Go.Proofs.Ytnapfiheholhiaa
open Go Go.RowKit Go.Maps Go.Sort Go.Shelf Go.Proofs.YtnapfiheholhiaaSym

/-- A reader that takes any element of a map. -/
def anyR : Value → Option (DataW Unit × List MemPlace) := fun _ => some (.nil, [])

theorem MapO.owns {V : Type} {encV : V → Value} {P : Program} {k : TypeId} (hk : P.underlying k = some .string) {b : Nat} {o : Obj} {kvs : List (ByteArray × V)} {w : World} (hb : w.heap[b]? = some o) (hM : MapO Value.string encV o kvs)
    (hsz : ∀ p ∈ kvs, p.1.size ≤ maxLen) (hlen : kvs.length ≤ maxLen) (hnd : (kvs.map (·.1)).Nodup) :
    ∃ D : DataW Unit, w.ownsMap P k anyR b kvs.length D ∧ (strKeys D).Perm (kvs.map fun p => p.1.data.toList) ∧ Maps.size D = kvs.length := by
  obtain ⟨es, clock, rfl, hes, hborn, hbn⟩ := hM
  have hsize : es.size = kvs.length := by
    have := congrArg List.length hes
    simpa using this
  have hkeys : es.toList.map (·.key) = kvs.map fun p => Value.string p.1 := by
    have := congrArg (List.map (·.1)) hes
    simpa [List.map_map, Function.comp_def] using this
  have hread : ∀ x ∈ es.toList, ∃ p ∈ kvs, x.key = .string p.1 ∧ WideElems.rd P k anyR x = some (.string p.1.data.toList, .nil) := fun x hx => by
    have : x.key ∈ es.toList.map (·.key) := List.mem_map_of_mem hx
    rw [hkeys] at this
    obtain ⟨p, hp, e⟩ := List.mem_map.1 this
    refine ⟨p, hp, e.symm, ?_⟩
    rw [WideElems.rd, ← e, WideMaps.keyOf_string_mk hk (hsz p hp)]
    rfl
  have hrg : (es.toList.map (WideElems.rg P k anyR)).map (fun p => strOf p.1) = kvs.map fun p => p.1.data.toList := by
    have h1 : (es.toList.map (WideElems.rg P k anyR)).map (fun p => strOf p.1) = (es.toList.map (·.key)).map (fun v => match v with | .string s => s.data.toList | _ => []) := by
      rw [List.map_map, List.map_map]
      refine List.map_congr_left fun x hx => ?_
      obtain ⟨p, hp, e1, e2⟩ := hread x hx
      simp only [Function.comp, WideElems.rg, e2, e1, Option.getD_some, strOf]
    rw [h1, hkeys, List.map_map]
    rfl
  refine ⟨_, ⟨es, clock, hb, ⟨by omega, ⟨hborn, hbn, ?_⟩, fun x hx => ?_⟩, by omega, rfl⟩, ?_, ?_⟩
  · rw [hkeys]
    exact List.pairwise_map.2 ((List.pairwise_map.1 hnd).imp fun h e => h (by simpa using e))
  · obtain ⟨p, _, _, e2⟩ := hread x hx
    exact ⟨_, e2⟩
  · show (((es.toList.map (WideElems.rg P k anyR)).foldr DataW.insert []).map fun p => strOf p.1).Perm _
    rw [← hrg]
    exact (WideShapes.sorted_perm _).map _
  · show ((es.toList.map (WideElems.rg P k anyR)).foldr DataW.insert []).length = _
    rw [(WideShapes.sorted_perm _).length_eq, List.length_map, Array.length_toList, hsize]

theorem flat1 {α β : Type} (f : α → β) : ∀ l : List α, (l.flatMap fun a => [f a]) = l.map f
  | [] => rfl
  | a :: r => by rw [List.flatMap_cons, flat1 f r]; rfl

/-- Texts in order. -/
def Rising (l : List ByteArray) : Prop := l.Pairwise fun a c => a.data.toList ≤ c.data.toList

theorem keys_calls (mb : Option Nat) (w : World) : Does Try.prog 38 [.map mb] w (RetNew w (fun B => .func (.func 54) #[] #[.pointer (some ⟨B, 0, none⟩)]) fun _ => cel [.map mb] 58) := by
  refine Does.mono ⟨callsIn_wide.1 (AnyZ.keys_in Try.keys38 Fence.wide 5 trivial rfl mb w)⟩ ?_
  rintro _ _ ⟨rfl, rfl⟩
  exact ⟨w.heap.size, rfl, Nat.le_refl _, by show (w.heap.push _)[w.heap.size]? = _; simp [cel]; rfl, (Below.refl _ w).alloc (Nat.le_refl _) _⟩

theorem sorts_in (m : Nat) : AnyZ.SortsIn Try.prog Try.sorted37_ren Fence.wide m :=
  ⟨fun blk off cap ss W hH hblk hsz => callsIn_wide.2 (AnyM.slices_Sort_string Try.sort53 blk off cap ss W hH hblk hsz),
   fun p cap W => callsIn_wide.2 (AnyM.slices_Sort_string_none Try.sort53 p cap W)⟩

set_option maxHeartbeats 1000000 in
theorem sortedKeys_calls {V : Type} {encV : V → Value} {b Bm : Nat} {mo : Obj} {kvs : List (ByteArray × V)} (W : World) (hB : W.heap[Bm]? = some (cel [.map (some b)] 58)) (hb : W.heap[b]? = some mo)
    (hM : MapO Value.string encV mo kvs) (hsz : ∀ p ∈ kvs, p.1.size ≤ maxLen) (hlen : kvs.length ≤ 4096) (hnd : (kvs.map (·.1)).Nodup) :
    Does Try.prog 37 [.func (.func 54) #[] #[.pointer (some ⟨Bm, 0, none⟩)]] W
      (RetN W fun u l' => ∃ ts : List ByteArray, Own 1 (fun s => [Value.string s]) 9 u ts l' ∧ ts.Perm (kvs.map (·.1)) ∧ Rising ts) := by
  have hml : maxLen = 9223372036854775807 := rfl
  obtain ⟨D, hown, hperm, hsize⟩ := MapO.owns (P := Try.prog) (k := 9) (w := W) Try.underlying9 hb hM hsz (by omega) hnd
  have hBl : Bm < W.heap.size := (Array.getElem?_eq_some_iff.1 hB).1
  have hseq : SeqGives Fence.wide 2 Try.prog 54 #[.pointer (some ⟨Bm, 0, none⟩)] encStr (fun ss => ss.Perm (strKeys D)) (Maps.size D) W :=
    AnyZ.keys_gives (ρ := Try.keys38_ren) { Try.keys38 with } Fence.wide _ trivial rfl (by omega) Bm b _ D _ hBl (by simp [World.cell?, hB, cel]) hown
  have hc := AnyZ.sorted_in Try.sorted37 Fence.wide 5 trivial trivial trivial trivial rfl (by omega) (sorts_in _) (enters_of Try.func53 (by kernel_rfl) rfl) 54 #[.pointer (some ⟨Bm, 0, none⟩)] trivial (enters_of Try.func54 (by kernel_rfl) rfl) _ _ (by omega) (by omega) W hseq
  refine Does.mono ⟨callsIn_wide.1 hc⟩ ?_
  rintro _ w' ⟨v, ss, rfl, hS, ⟨hlen', hrow⟩, hnil, hbel⟩
  have hts : ((ss.mergeSort fun x y => decide (x ≤ y)).map fun s => (⟨s.toArray⟩ : ByteArray)).Perm (kvs.map (·.1)) := by
    have h1 := ((List.mergeSort_perm ss fun x y => decide (x ≤ y)).trans (hS.trans hperm)).map fun s => (⟨s.toArray⟩ : ByteArray)
    rw [List.map_map] at h1
    exact h1.trans (by simp [Function.comp_def])
  have hri : Rising ((ss.mergeSort fun x y => decide (x ≤ y)).map fun s => (⟨s.toArray⟩ : ByteArray)) := by
    refine List.pairwise_map.2 ?_
    have := List.pairwise_mergeSort (le := fun x y : List UInt8 => decide (x ≤ y)) (fun a b c h1 h2 => by simp only [decide_eq_true_eq] at *; exact List.le_trans h1 h2) (fun a b => by simp only [Bool.or_eq_true, decide_eq_true_eq]; exact List.le_total a b) ss
    exact this.imp fun h => by simpa using h
  have hlm : (ss.mergeSort fun x y => decide (x ≤ y)).length = ss.length := (List.mergeSort_perm ss _).length_eq
  have hst := (St.start W).grow hbel
  rcases hrow with ⟨rfl, h0⟩ | ⟨g, cap, cur, rfl, hg, hgb, h1, h2, h3, h4⟩
  · have : ss = [] := List.eq_nil_of_length_eq_zero h0
    subst this
    exact ⟨_, [], rfl, ⟨[], Own.nil, by simpa using hts, by simp [Rising]⟩, hst⟩
  · refine ⟨_, [(g, .cells cur 9 (0, 0))], rfl, ⟨_, .inr ⟨g, cap, cur, by rw [List.length_map, hlm], ⟨?_, by rw [List.length_map, hlm]; exact h1, h2, h3, ?_⟩, rfl⟩, hts, hri⟩, (St.start W).fresh hbel hg hgb⟩
    · rw [flat1, List.length_map, Nat.mul_one]
    · rw [List.length_map, hlm, h4, List.flatMap_map, flat1]

theorem length_le_sum {α : Type} (f : α → Nat) : ∀ (l : List α), (∀ x ∈ l, 0 < f x) → l.length ≤ (l.map f).sum
  | [], _ => by simp
  | a :: r, h => by
    have h1 := h a List.mem_cons_self
    have h2 := length_le_sum f r fun x hx => h x (List.mem_cons_of_mem _ hx)
    rw [List.length_cons, List.map_cons, List.sum_cons]; omega

set_option maxRecDepth 100000 in
set_option maxHeartbeats 4000000 in
theorem things_calls {p : Nat} {m : List Pledge} {l : List (Nat × Obj)} (hL : Lien p m l) (w : World) (hown : ∀ x ∈ l, w.heap[x.1]? = some x.2) (hnd : (l.map (·.1)).Nodup) :
    Does Try.prog 20 [.pointer (some ⟨p, 0, none⟩)] w (RetN w fun u l' => ∃ ts : List ByteArray, Own 1 (fun s => [Value.string s]) 9 u ts l' ∧ ts.Nodup ∧ Rising ts ∧ ∀ t, t ∈ ts ↔ ∃ q ∈ m, q.thing = t) := by
  obtain ⟨bm, mo, R, rfl, hM, hR, hD⟩ := hL
  have hms := hD.size
  have hkv : (R.map rowKV).map (·.1) = R.map (·.thing) := by rw [List.map_map]; rfl
  have hmem : ∀ t, t ∈ R.map (·.thing) ↔ ∃ q ∈ m, q.thing = t := fun t => by
    refine ⟨fun h => ?_, fun ⟨q, hq, e⟩ => e ▸ hR.all q hq⟩
    obtain ⟨r, hr, rfl⟩ := List.mem_map.1 h
    obtain ⟨h1, h2⟩ := hR.row r hr
    obtain ⟨q, hq⟩ := List.exists_mem_of_ne_nil _ h2
    rw [h1] at hq
    exact ⟨q, rowOf_mem.1 hq⟩
  have hlen : R.length ≤ 4096 := by
    have h1 := count_rows R m hR
    have h2 := length_le_sum (fun r : LRow => r.ps.length) R fun r hr => List.length_pos_iff.2 (hR.row r hr).2
    omega
  have hsz : ∀ x ∈ R.map rowKV, x.1.size ≤ maxLen := fun x hx => by
    obtain ⟨r, hr, rfl⟩ := List.mem_map.1 hx
    obtain ⟨q, hq, e⟩ := (hmem r.thing).1 (List.mem_map_of_mem hr)
    have h := (may_of (hD.may q hq)).1
    have hml : maxLen = 9223372036854775807 := rfl
    show r.thing.size ≤ maxLen
    rw [← e]; omega
  refine calls_J (ys := [.pointer (some ⟨p, 0, none⟩)]) Try.func20 rfl Try.ntmps20 rfl ?_
  refine J.at_ ?_ (St.startO hown hnd)
  obtain ⟨olds, holds⟩ : ∃ o, o = (LienO p bm mo R).map (·.1) := ⟨_, rfl⟩
  rw [← holds]
  repeat' (first
    | refine JE.pure rfl rfl (by conv => lhs; whnf) rfl ?_
    | (refine JE.kField ?_; refine JE.fieldAddr rfl rfl rfl ?_)
    | (refine JE.kNil ?_; refine JE.nilCheck rfl rfl rfl ?_)
    | (refine JE.kLoad ?_; refine JE.load1 rfl rfl (by repeat (first | exact In.head | refine In.tail ?_ | refine In.app ?_)) rfl (by conv => lhs; whnf) (fun _ => by first | trivial | exact ⟨.inr ‹_›, trivial⟩ | exact ⟨.inl (by kernel_rfl), trivial⟩ | exact ⟨.inr ‹_›, .inr ‹_›, trivial⟩ | exact ⟨.inr ‹_›, .inl (by kernel_rfl), trivial⟩ | exact ⟨.inl (by kernel_rfl), .inr ‹_›, trivial⟩ | exact ⟨.inl (by kernel_rfl), .inl (by kernel_rfl), trivial⟩) rfl ?_)
    | with_reducible refine JE.sN ?_
    | with_reducible refine J.seq ?_
    | with_reducible refine J.region ?_
    | with_reducible refine J.ret ?_
    | (refine JE.isF 38 ?_; refine JE.call rfl rfl (by repeat (first | exact NfL.nil rfl | apply NfL.cons (by exact rfl) (by conv => lhs; whnf))) rfl ?_; refine CallG.retNew (fun w hS => keys_calls (some bm) w) ?_; intro B hB)
    | (refine JE.isF 37 ?_; refine JE.call rfl rfl (by repeat (first | exact NfL.nil rfl | apply NfL.cons (by exact rfl) (by conv => lhs; whnf))) rfl ?_; refine CallG.news (G := _) (fun w hS => sortedKeys_calls w (hS.own _ (.head _)) (hS.own _ (.tail _ (.tail _ (.head _)))) hM hsz (by simpa using hlen) (by rw [hkv]; exact hR.keys)) ?_; rintro v2 l2 ⟨ts, ho2, hp, hri⟩))
  rw [hkv] at hp
  exact fnQ_tmp (.inl rfl) rfl (by conv => lhs; whnf) fun w'' hS' => ⟨_, l2, rfl, ⟨ts, ho2, hp.nodup_iff.2 hR.keys, hri, fun t => hp.mem_iff.trans (hmem t)⟩, St.quietN (hS'.sub (List.Sublist.append_left (List.sublist_cons_self _ _) l2)) hown fun k hk => holds ▸ hk⟩

end Go.Proofs.Ytnapfiheholhiaa
