/-
  The walk of the statement LienTwice. Conditions: none.
-/
import Derived.Test.YtnapfiheholhiaaTwice
import Derived.Test.YtnapfiheholhiaaRel3
set_option linter.unusedVariables false
set_option linter.unusedSimpArgs false
namespace Go.Proofs.Ytnapfiheholhiaa
open Go Go.RowKit Go.Proofs.YtnapfiheholhiaaSym

theorem sumFor_take {who : ByteArray} {l : List Entry} {k : Nat} {x : Entry} (hx : l[k]? = some x) : sumFor who (l.take (k + 1)) = sumFor who (l.take k) + (if x.account = who then x.amount else 0) := by
  rw [sumFor, filter_take hx, sumFor]
  split <;> simp_all [sumE]
theorem sumFor_bound {who : ByteArray} {l : List Entry} (h : ∀ e ∈ l, 0 ≤ e.amount ∧ e.amount ≤ 1099511627776) : 0 ≤ sumFor who l ∧ sumFor who l ≤ l.length * 1099511627776 := by
  induction l with
  | nil => simp [sumFor, sumE]
  | cons e r ih =>
    have h1 := h e List.mem_cons_self
    have h2 := ih fun x hx => h x (List.mem_cons_of_mem _ hx)
    rw [sumFor_cons, List.length_cons]
    split <;> omega
theorem payE_amt {r : List Pledge} {s : Int} (hs : 0 ≤ s) (hp : ∀ p ∈ r, 0 < p.amount ∧ p.amount ≤ 1099511627776) : ∀ e ∈ (payE r s).1, 0 ≤ e.amount ∧ e.amount ≤ 1099511627776 := fun e he => by
  obtain ⟨i, hi, rfl⟩ := List.mem_iff_getElem.1 he
  obtain ⟨p, g1, _, _, g4, g5, _⟩ := payE_at r s hs (fun p hp' => (hp p hp').1) i _ (List.getElem?_eq_getElem hi)
  have := hp p (List.mem_of_getElem? g1)
  omega

set_option maxRecDepth 100000 in
set_option maxHeartbeats 16000000 in
theorem Twice_calls (v : Value) (ds : List Deed) (t : ByteArray) (a b : Int) (who : ByteArray) (w : World) (hs : Sl 8 encDeed w v ds) (hx : ds.length ≤ 9223372036854775807) :
    Does Try.prog 6 [v, .string t, .int .i64 a, .int .i64 b, .string who] w (Ret w (.bool true)) := by
  have hheavy := fun w hs => heavy_calls v ds 20 w hs hx
  have hs0 := hs
  obtain ⟨ad, cp, rfl, hs⟩ := hs
  refine calls_J (ys := [.slice ad ds.length cp, .string t, .int .i64 a, .int .i64 b, .string who]) Try.func6 rfl Try.ntmps6 rfl ?_
  refine J.at_ (S := St w [] []) ?_ (St.start w)
  cases hh : heavyB ds 20 with
  | true =>
    rw [hh] at hheavy
    repeat' (first
      | refine JE.pure rfl rfl (by conv => lhs; whnf) rfl ?_
      | refine JE.skip rfl rfl ?_
      | (refine JE.kBin ?_; first | (refine JE.int rfl rfl rfl rfl rfl rfl ?_; with_reducible refine JE.waysD (fun _ => ?_) (fun _ => ?_)) | refine JE.int rfl rfl rfl rfl (by rw [i64_id (by omega)]) rfl ?_ | refine JE.int rfl rfl rfl rfl rfl rfl ?_ | refine JE.eqBool rfl rfl rfl (by conv => lhs; whnf) rfl ?_ | refine JE.neBool rfl rfl rfl (by conv => lhs; whnf) rfl ?_ | refine JE.eqNilSl rfl rfl rfl rfl ?_ | (refine JE.eqStr rfl rfl rfl rfl ?_; with_reducible refine JE.waysD (fun _ => ?_) (fun _ => ?_)) | (refine JE.neStr rfl rfl rfl rfl ?_; with_reducible refine JE.waysD (fun _ => ?_) (fun _ => ?_)))
      | (refine JE.kField ?_; refine JE.fieldAddr rfl rfl rfl ?_)
      | (refine JE.kNil ?_; refine JE.nilCheck rfl rfl rfl ?_)
      | (refine JE.kLoad ?_; first | refine JE.load1 rfl rfl (by repeat (first | exact In.head | refine In.tail ?_ | refine In.app ?_)) rfl (by conv => lhs; whnf) (fun _ => by first | trivial | exact ⟨.inr ‹_›, trivial⟩ | exact ⟨.inl (by kernel_rfl), trivial⟩ | exact ⟨.inr ‹_›, .inr ‹_›, trivial⟩ | exact ⟨.inr ‹_›, .inl (by kernel_rfl), trivial⟩ | exact ⟨.inl (by kernel_rfl), .inr ‹_›, trivial⟩ | exact ⟨.inl (by kernel_rfl), .inl (by kernel_rfl), trivial⟩) rfl ?_ | refine JE.loadAll rfl rfl (by repeat (first | exact In.head | refine In.tail ?_ | refine In.app ?_)) (by rfl) (fun _ => by first | trivial | exact ⟨.inr ‹_›, trivial⟩ | exact ⟨.inl (by kernel_rfl), trivial⟩ | exact ⟨.inr ‹_›, .inr ‹_›, trivial⟩ | exact ⟨.inr ‹_›, .inl (by kernel_rfl), trivial⟩ | exact ⟨.inl (by kernel_rfl), .inr ‹_›, trivial⟩ | exact ⟨.inl (by kernel_rfl), .inl (by kernel_rfl), trivial⟩) rfl ?_ | refine JE.loadN rfl rfl (by repeat (first | exact In.head | refine In.tail ?_ | refine In.app ?_)) (by conv => lhs; whnf) (by rfl) (fun _ => by first | trivial | exact ⟨.inr ‹_›, trivial⟩ | exact ⟨.inl (by kernel_rfl), trivial⟩ | exact ⟨.inr ‹_›, .inr ‹_›, trivial⟩ | exact ⟨.inr ‹_›, .inl (by kernel_rfl), trivial⟩ | exact ⟨.inl (by kernel_rfl), .inr ‹_›, trivial⟩ | exact ⟨.inl (by kernel_rfl), .inl (by kernel_rfl), trivial⟩) rfl ?_)
      | (refine JE.kBox ?_; refine JE.box rfl (by conv => lhs; whnf) rfl (fun _ _ => ?_))
      | (refine JE.kAlloc ?_; refine JE.alloc rfl (by conv => lhs; whnf) rfl (fun _ _ => ?_))
      | (refine JE.kStore ?_; refine JE.store rfl rfl (by repeat (first | exact Turn.head | apply Turn.tail | apply Turn.app)) SizeT.size (by repeat (first | exact NfL.nil rfl | apply NfL.cons (by exact rfl) (by conv => lhs; whnf))) (by rfl) (by rfl) (by rfl) (by repeat (first | exact NfL.nil rfl | apply NfL.cons (by exact rfl) (by conv => lhs; whnf))) (by first | trivial | exact List.mem_cons_self | exact List.mem_cons_of_mem _ List.mem_cons_self) rfl ?_)
      | (refine JE.kBuiltin ?_; first | refine JE.lenSl rfl rfl rfl ?_ | refine JE.lenStr rfl rfl rfl ?_ | refine JE.max2 rfl rfl rfl rfl rfl ?_ | refine JE.min2 rfl rfl rfl rfl rfl ?_)
      | (refine JE.kBuild ?_; refine JE.build rfl rfl (by repeat (first | exact NfL.nil rfl | apply NfL.cons (by exact rfl) (by conv => lhs; whnf))) rfl ?_)
      | (refine JE.kBuildSlice ?_; refine JE.buildSlice rfl rfl rfl (by conv => lhs; whnf) (by rfl) (by rfl) (by repeat (first | exact NfL.nil rfl | apply NfL.cons (by exact rfl) (by conv => lhs; whnf))) rfl (fun _ _ => ?_))
      | (refine JE.kRange ?_; refine JE.rangeStr rfl rfl rfl (fun _ _ => ?_))
      | with_reducible refine JE.sN ?_
      | with_reducible refine JE.sX ?_
      | with_reducible refine JE.dN ?_
      | with_reducible refine JE.dX ?_
      | with_reducible refine J.seq ?_
      | with_reducible refine J.region ?_
      | refine J.condT rfl ?_
      | refine J.condF rfl ?_
      | with_reducible refine J.skip ?_
      | with_reducible refine J.exit ?_
      | with_reducible refine J.block ?_
      | with_reducible refine J.ret ?_
      | with_reducible refine JX.thenN ?_
      | with_reducible refine JX.thenR ?_
      | with_reducible refine JX.thenE ?_
      | with_reducible refine JX.blkS ?_
      | (with_reducible refine JX.blkE ?_ ?_; exact rfl)
      | with_reducible refine JX.blkN ?_
      | with_reducible refine JX.blkR ?_
      | (refine JE.isF 10 ?_; refine JE.call rfl rfl (by repeat (first | exact NfL.nil rfl | apply NfL.cons (by exact rfl) (by conv => lhs; whnf))) rfl ?_; refine CallG.ret (fun w hS => awake_calls w) ?_)
      | (refine JE.isF 11 ?_; refine JE.call rfl rfl (by repeat (first | exact NfL.nil rfl | apply NfL.cons (by exact rfl) (by conv => lhs; whnf))) rfl ?_; refine CallG.ret (fun w hS => hheavy w (hs0.below hS.below)) ?_))
    all_goals exact fnQ_tmp (.inl rfl) rfl (by conv => lhs; whnf) fun w'' hS' => ⟨rfl, hS'.below⟩
  | false =>
    rw [hh] at hheavy
    obtain ⟨hl20, hfit⟩ := light_of hh
    by_cases ht : 100 < t.size ∨ 100 < who.size ∨ a < 0 ∨ b < 0 ∨ 549755813888 < a ∨ 549755813888 < b
    · skip
      repeat' (first
        | refine JE.pure rfl rfl (by conv => lhs; whnf) rfl ?_
        | refine JE.skip rfl rfl ?_
        | (refine JE.kBin ?_; first | (refine JE.int rfl rfl rfl rfl rfl rfl ?_; with_reducible refine JE.waysD (fun _ => ?_) (fun _ => ?_)) | refine JE.int rfl rfl rfl rfl (by rw [i64_id (by omega)]) rfl ?_ | refine JE.int rfl rfl rfl rfl rfl rfl ?_ | refine JE.eqBool rfl rfl rfl (by conv => lhs; whnf) rfl ?_ | refine JE.neBool rfl rfl rfl (by conv => lhs; whnf) rfl ?_ | refine JE.eqNilSl rfl rfl rfl rfl ?_ | (refine JE.eqStr rfl rfl rfl rfl ?_; with_reducible refine JE.waysD (fun _ => ?_) (fun _ => ?_)) | (refine JE.neStr rfl rfl rfl rfl ?_; with_reducible refine JE.waysD (fun _ => ?_) (fun _ => ?_)))
        | (refine JE.kField ?_; refine JE.fieldAddr rfl rfl rfl ?_)
        | (refine JE.kNil ?_; refine JE.nilCheck rfl rfl rfl ?_)
        | (refine JE.kLoad ?_; first | refine JE.load1 rfl rfl (by repeat (first | exact In.head | refine In.tail ?_ | refine In.app ?_)) rfl (by conv => lhs; whnf) (fun _ => by first | trivial | exact ⟨.inr ‹_›, trivial⟩ | exact ⟨.inl (by kernel_rfl), trivial⟩ | exact ⟨.inr ‹_›, .inr ‹_›, trivial⟩ | exact ⟨.inr ‹_›, .inl (by kernel_rfl), trivial⟩ | exact ⟨.inl (by kernel_rfl), .inr ‹_›, trivial⟩ | exact ⟨.inl (by kernel_rfl), .inl (by kernel_rfl), trivial⟩) rfl ?_ | refine JE.loadAll rfl rfl (by repeat (first | exact In.head | refine In.tail ?_ | refine In.app ?_)) (by rfl) (fun _ => by first | trivial | exact ⟨.inr ‹_›, trivial⟩ | exact ⟨.inl (by kernel_rfl), trivial⟩ | exact ⟨.inr ‹_›, .inr ‹_›, trivial⟩ | exact ⟨.inr ‹_›, .inl (by kernel_rfl), trivial⟩ | exact ⟨.inl (by kernel_rfl), .inr ‹_›, trivial⟩ | exact ⟨.inl (by kernel_rfl), .inl (by kernel_rfl), trivial⟩) rfl ?_ | refine JE.loadN rfl rfl (by repeat (first | exact In.head | refine In.tail ?_ | refine In.app ?_)) (by conv => lhs; whnf) (by rfl) (fun _ => by first | trivial | exact ⟨.inr ‹_›, trivial⟩ | exact ⟨.inl (by kernel_rfl), trivial⟩ | exact ⟨.inr ‹_›, .inr ‹_›, trivial⟩ | exact ⟨.inr ‹_›, .inl (by kernel_rfl), trivial⟩ | exact ⟨.inl (by kernel_rfl), .inr ‹_›, trivial⟩ | exact ⟨.inl (by kernel_rfl), .inl (by kernel_rfl), trivial⟩) rfl ?_)
        | (refine JE.kBox ?_; refine JE.box rfl (by conv => lhs; whnf) rfl (fun _ _ => ?_))
        | (refine JE.kAlloc ?_; refine JE.alloc rfl (by conv => lhs; whnf) rfl (fun _ _ => ?_))
        | (refine JE.kStore ?_; refine JE.store rfl rfl (by repeat (first | exact Turn.head | apply Turn.tail | apply Turn.app)) SizeT.size (by repeat (first | exact NfL.nil rfl | apply NfL.cons (by exact rfl) (by conv => lhs; whnf))) (by rfl) (by rfl) (by rfl) (by repeat (first | exact NfL.nil rfl | apply NfL.cons (by exact rfl) (by conv => lhs; whnf))) (by first | trivial | exact List.mem_cons_self | exact List.mem_cons_of_mem _ List.mem_cons_self) rfl ?_)
        | (refine JE.kBuiltin ?_; first | refine JE.lenSl rfl rfl rfl ?_ | refine JE.lenStr rfl rfl rfl ?_ | refine JE.max2 rfl rfl rfl rfl rfl ?_ | refine JE.min2 rfl rfl rfl rfl rfl ?_)
        | (refine JE.kBuild ?_; refine JE.build rfl rfl (by repeat (first | exact NfL.nil rfl | apply NfL.cons (by exact rfl) (by conv => lhs; whnf))) rfl ?_)
        | (refine JE.kBuildSlice ?_; refine JE.buildSlice rfl rfl rfl (by conv => lhs; whnf) (by rfl) (by rfl) (by repeat (first | exact NfL.nil rfl | apply NfL.cons (by exact rfl) (by conv => lhs; whnf))) rfl (fun _ _ => ?_))
        | (refine JE.kRange ?_; refine JE.rangeStr rfl rfl rfl (fun _ _ => ?_))
        | with_reducible refine JE.sN ?_
        | with_reducible refine JE.sX ?_
        | with_reducible refine JE.dN ?_
        | with_reducible refine JE.dX ?_
        | with_reducible refine J.seq ?_
        | with_reducible refine J.region ?_
        | refine J.condT rfl ?_
        | refine J.condF rfl ?_
        | with_reducible refine J.skip ?_
        | with_reducible refine J.exit ?_
        | with_reducible refine J.block ?_
        | with_reducible refine J.ret ?_
        | with_reducible refine JX.thenN ?_
        | with_reducible refine JX.thenR ?_
        | with_reducible refine JX.thenE ?_
        | with_reducible refine JX.blkS ?_
        | (with_reducible refine JX.blkE ?_ ?_; exact rfl)
        | with_reducible refine JX.blkN ?_
        | with_reducible refine JX.blkR ?_
        | (refine JE.isF 10 ?_; refine JE.call rfl rfl (by repeat (first | exact NfL.nil rfl | apply NfL.cons (by exact rfl) (by conv => lhs; whnf))) rfl ?_; refine CallG.ret (fun w hS => awake_calls w) ?_)
        | (refine JE.isF 11 ?_; refine JE.call rfl rfl (by repeat (first | exact NfL.nil rfl | apply NfL.cons (by exact rfl) (by conv => lhs; whnf))) rfl ?_; refine CallG.ret (fun w hS => hheavy w (hs0.below hS.below)) ?_))
      all_goals first
        | (exfalso; omega)
        | exact fnQ_tmp (.inl rfl) rfl (by conv => lhs; whnf) fun w'' hS' => ⟨rfl, hS'.below⟩
    have hsm : sortMost = 20 := rfl
    have hgd := grown_doc ds
    have hr1 := grown_row ds t
    obtain ⟨m, hmeq⟩ : ∃ m, m = grownDoc ds := ⟨_, rfl⟩
    have hgc := fun w hs => grown_calls (.slice ad ds.length cp) ds w hs hfit (by omega)
    rw [← hmeq] at hgd hr1 hgc
    have hrl : (rank26 m t).length ≤ 20 := by rw [rank_length]; omega
    have ha0 : 0 ≤ a := by omega
    have hb0 : 0 ≤ b := by omega
    have hna : ¬ (a < 0 ∨ 1099511627776 < a) := by omega
    have hnb : ¬ (b < 0 ∨ 1099511627776 < b) := by omega
    have hnc : ¬ (a + b < 0 ∨ 1099511627776 < a + b) := by omega
    have hwrap : IntKind.i64.wrap (a + b) = a + b := i64_id (by omega)
    by_cases hrow : rowOf m t = []
    · have hans : payAns m t a = ([], 0, 4, m) := by rw [payAns, if_neg hna, if_pos hrow]
      repeat' (first
        | refine JE.pure rfl rfl (by conv => lhs; whnf) rfl ?_
        | refine JE.skip rfl rfl ?_
        | (refine JE.kBin ?_; first | (refine JE.int rfl rfl rfl rfl rfl rfl ?_; with_reducible refine JE.waysD (fun _ => ?_) (fun _ => ?_)) | refine JE.int rfl rfl rfl rfl (by rw [i64_id (by omega)]) rfl ?_ | refine JE.int rfl rfl rfl rfl rfl rfl ?_ | refine JE.eqBool rfl rfl rfl (by conv => lhs; whnf) rfl ?_ | refine JE.neBool rfl rfl rfl (by conv => lhs; whnf) rfl ?_ | refine JE.eqNilSl rfl rfl rfl rfl ?_ | (refine JE.eqStr rfl rfl rfl rfl ?_; with_reducible refine JE.waysD (fun _ => ?_) (fun _ => ?_)) | (refine JE.neStr rfl rfl rfl rfl ?_; with_reducible refine JE.waysD (fun _ => ?_) (fun _ => ?_)))
        | (refine JE.kField ?_; refine JE.fieldAddr rfl rfl rfl ?_)
        | (refine JE.kNil ?_; refine JE.nilCheck rfl rfl rfl ?_)
        | (refine JE.kLoad ?_; first | refine JE.load1 rfl rfl (by repeat (first | exact In.head | refine In.tail ?_ | refine In.app ?_)) rfl (by conv => lhs; whnf) (fun _ => by first | trivial | exact ⟨.inr ‹_›, trivial⟩ | exact ⟨.inl (by kernel_rfl), trivial⟩ | exact ⟨.inr ‹_›, .inr ‹_›, trivial⟩ | exact ⟨.inr ‹_›, .inl (by kernel_rfl), trivial⟩ | exact ⟨.inl (by kernel_rfl), .inr ‹_›, trivial⟩ | exact ⟨.inl (by kernel_rfl), .inl (by kernel_rfl), trivial⟩) rfl ?_ | refine JE.loadAll rfl rfl (by repeat (first | exact In.head | refine In.tail ?_ | refine In.app ?_)) (by rfl) (fun _ => by first | trivial | exact ⟨.inr ‹_›, trivial⟩ | exact ⟨.inl (by kernel_rfl), trivial⟩ | exact ⟨.inr ‹_›, .inr ‹_›, trivial⟩ | exact ⟨.inr ‹_›, .inl (by kernel_rfl), trivial⟩ | exact ⟨.inl (by kernel_rfl), .inr ‹_›, trivial⟩ | exact ⟨.inl (by kernel_rfl), .inl (by kernel_rfl), trivial⟩) rfl ?_ | refine JE.loadN rfl rfl (by repeat (first | exact In.head | refine In.tail ?_ | refine In.app ?_)) (by conv => lhs; whnf) (by rfl) (fun _ => by first | trivial | exact ⟨.inr ‹_›, trivial⟩ | exact ⟨.inl (by kernel_rfl), trivial⟩ | exact ⟨.inr ‹_›, .inr ‹_›, trivial⟩ | exact ⟨.inr ‹_›, .inl (by kernel_rfl), trivial⟩ | exact ⟨.inl (by kernel_rfl), .inr ‹_›, trivial⟩ | exact ⟨.inl (by kernel_rfl), .inl (by kernel_rfl), trivial⟩) rfl ?_)
        | (refine JE.kBox ?_; refine JE.box rfl (by conv => lhs; whnf) rfl (fun _ _ => ?_))
        | (refine JE.kAlloc ?_; refine JE.alloc rfl (by conv => lhs; whnf) rfl (fun _ _ => ?_))
        | (refine JE.kStore ?_; refine JE.store rfl rfl (by repeat (first | exact Turn.head | apply Turn.tail | apply Turn.app)) SizeT.size (by repeat (first | exact NfL.nil rfl | apply NfL.cons (by exact rfl) (by conv => lhs; whnf))) (by rfl) (by rfl) (by rfl) (by repeat (first | exact NfL.nil rfl | apply NfL.cons (by exact rfl) (by conv => lhs; whnf))) (by first | trivial | exact List.mem_cons_self | exact List.mem_cons_of_mem _ List.mem_cons_self) rfl ?_)
        | (refine JE.kBuiltin ?_; first | refine JE.lenSl rfl rfl rfl ?_ | refine JE.lenStr rfl rfl rfl ?_ | refine JE.max2 rfl rfl rfl rfl rfl ?_ | refine JE.min2 rfl rfl rfl rfl rfl ?_)
        | (refine JE.kBuild ?_; refine JE.build rfl rfl (by repeat (first | exact NfL.nil rfl | apply NfL.cons (by exact rfl) (by conv => lhs; whnf))) rfl ?_)
        | (refine JE.kBuildSlice ?_; refine JE.buildSlice rfl rfl rfl (by conv => lhs; whnf) (by rfl) (by rfl) (by repeat (first | exact NfL.nil rfl | apply NfL.cons (by exact rfl) (by conv => lhs; whnf))) rfl (fun _ _ => ?_))
        | (refine JE.kRange ?_; refine JE.rangeStr rfl rfl rfl (fun _ _ => ?_))
        | with_reducible refine JE.sN ?_
        | with_reducible refine JE.sX ?_
        | with_reducible refine JE.dN ?_
        | with_reducible refine JE.dX ?_
        | with_reducible refine J.seq ?_
        | with_reducible refine J.region ?_
        | refine J.condT rfl ?_
        | refine J.condF rfl ?_
        | with_reducible refine J.skip ?_
        | with_reducible refine J.exit ?_
        | with_reducible refine J.block ?_
        | with_reducible refine J.ret ?_
        | with_reducible refine JX.thenN ?_
        | with_reducible refine JX.thenR ?_
        | with_reducible refine JX.thenE ?_
        | with_reducible refine JX.blkS ?_
        | (with_reducible refine JX.blkE ?_ ?_; exact rfl)
        | with_reducible refine JX.blkN ?_
        | with_reducible refine JX.blkR ?_
        | (refine JE.isF 10 ?_; refine JE.call rfl rfl (by repeat (first | exact NfL.nil rfl | apply NfL.cons (by exact rfl) (by conv => lhs; whnf))) rfl ?_; refine CallG.ret (fun w hS => awake_calls w) ?_)
        | (refine JE.isF 11 ?_; refine JE.call rfl rfl (by repeat (first | exact NfL.nil rfl | apply NfL.cons (by exact rfl) (by conv => lhs; whnf))) rfl ?_; refine CallG.ret (fun w hS => hheavy w (hs0.below hS.below)) ?_)
        | (refine JE.isF 12 ?_; refine JE.call rfl rfl (by repeat (first | exact NfL.nil rfl | apply NfL.cons (by exact rfl) (by conv => lhs; whnf))) rfl ?_; refine CallG.news (G := _) (fun w hS => hgc w (hs0.below hS.below)) ?_; rintro _ _ ⟨p, vm, l1, l2, rfl, rfl, hL, hm⟩; refine JE.perm (List.Perm.of_eq (List.append_assoc _ _ _)) ?_)
        | (refine JE.isF 19 ?_; refine JE.call rfl rfl (by repeat (first | exact NfL.nil rfl | apply NfL.cons (by exact rfl) (by conv => lhs; whnf))) rfl ?_; refine CallG.news (G := _) (fun w hS => copy_calls hL w (hS.sub (l' := l1) (by repeat (first | exact List.Sublist.refl _ | exact List.nil_sublist _ | refine List.Sublist.append_left ?_ _ | exact List.sublist_append_left _ _ | apply List.Sublist.cons_cons | apply List.Sublist.cons | apply List.sublist_append_of_sublist_right))).own (hS.sub (l' := l1) (by repeat (first | exact List.Sublist.refl _ | exact List.nil_sublist _ | refine List.Sublist.append_left ?_ _ | exact List.sublist_append_left _ _ | apply List.Sublist.cons_cons | apply List.Sublist.cons | apply List.sublist_append_of_sublist_right))).nodup) ?_; rintro _ l3 ⟨p2, rfl, hL3⟩)
        | (refine JE.isF 14 ?_; refine JE.call rfl rfl (by repeat (first | exact NfL.nil rfl | apply NfL.cons (by exact rfl) (by conv => lhs; whnf))) rfl ?_; refine CallG.obj (ln := l1) (G := _) (by repeat (first | exact Seg.head | exact Seg.all | exact Seg.one | apply Seg.tail | apply Seg.cons)) (fun w hS => pay_calls hL t a (by omega) w (hS.owns (by repeat (first | exact Seg.head | exact Seg.all | exact Seg.one | apply Seg.tail | apply Seg.cons))) (hS.dist (by repeat (first | exact Seg.head | exact Seg.all | exact Seg.one | apply Seg.tail | apply Seg.cons)))) (fun _ _ _ _ => trivial) ?_; rw [hans]; rintro _ _ ⟨v11, l11, lA, rfl, rfl, ho11, hLA⟩))
      all_goals first
        | (exfalso; omega)
        | exact absurd rfl ‹_› | exact absurd (show (4 : Int) ≠ 0 by decide) ‹_› | exact absurd ‹(0 : Int) = 4› (by decide) | exact absurd ‹(0 : Int) ≠ 0› (by decide)
        | exact fnQ_tmp (.inl rfl) rfl (by conv => lhs; whnf) fun w'' hS' => ⟨rfl, hS'.below⟩
    have hd1 := hgd.pay t a
    have hrow1 : (rowOf (pay26 m t a) t).length ≤ 20 := by rw [rowOf_pay, if_pos rfl]; exact Nat.le_trans (List.length_filterMap_le _ _) (by omega)
    have hrow3 : (rowOf (pay26 m t (a + b)) t).length ≤ 20 := by rw [rowOf_pay, if_pos rfl]; exact Nat.le_trans (List.length_filterMap_le _ _) (by omega)
    have hramt : ∀ p ∈ rank26 m t, 0 < p.amount ∧ p.amount ≤ 1099511627776 := fun p hp => by
      have := (may_of (hgd.may p (Doc.rankMem hp).1)).2.2.2.2; omega
    have hramt1 : ∀ p ∈ rank26 (pay26 m t a) t, 0 < p.amount ∧ p.amount ≤ 1099511627776 := fun p hp => by
      have := (may_of (hd1.may p (Doc.rankMem hp).1)).2.2.2.2; omega
    have htw := twice who (rank26 m t) a b ha0 hb0 (fun p hp => (hramt p hp).1) (hgd.rankCreditor t)
    rw [← rank_behind t a] at htw
    have hrestA := payE_rest (rank26 m t) a ha0 fun p hp => (hramt p hp).1
    have hrestB := payE_rest (rank26 (pay26 m t a) t) b hb0 fun p hp => (hramt1 p hp).1
    have hansA : payAns m t a = ((payE (rank26 m t) a).1, (payE (rank26 m t) a).2.2, 0, pay26 m t a) := by rw [payAns, if_neg hna, if_neg hrow]
    have hansC : payAns m t (a + b) = ((payE (rank26 m t) (a + b)).1, (payE (rank26 m t) (a + b)).2.2, 0, pay26 m t (a + b)) := by rw [payAns, if_neg hnc, if_neg hrow]
    have hansB : payAns (pay26 m t a) t b = ((payE (rank26 (pay26 m t a) t) b).1, (if rowOf (pay26 m t a) t = [] then 0 else (payE (rank26 (pay26 m t a) t) b).2.2), (if rowOf (pay26 m t a) t = [] then 4 else 0), (payAns (pay26 m t a) t b).2.2.2) ∧ rank26 (payAns (pay26 m t a) t b).2.2.2 t = behind (rank26 (pay26 m t a) t) b ∧ (rowOf (pay26 m t a) t = [] → (payE (rank26 (pay26 m t a) t) b).2.2 = b) ∧ (rowOf (payAns (pay26 m t a) t b).2.2.2 t).length ≤ 20 := by
      by_cases h : rowOf (pay26 m t a) t = []
      · have hr : rank26 (pay26 m t a) t = [] := by rw [rank26, h]; rfl
        rw [payAns, if_neg hnb, if_pos h, hr]
        exact ⟨by rw [if_pos h, if_pos h]; rfl, by first | rfl | (rw [hr]; rfl), fun _ => rfl, by rw [h]; simp⟩
      · have e : payAns (pay26 m t a) t b = ((payE (rank26 (pay26 m t a) t) b).1, (payE (rank26 (pay26 m t a) t) b).2.2, 0, pay26 (pay26 m t a) t b) := by rw [payAns, if_neg hnb, if_neg h]
        rw [e]
        refine ⟨by rw [if_neg h, if_neg h], rank_behind t b, fun e => absurd e h, ?_⟩
        show (rowOf (pay26 (pay26 m t a) t b) t).length ≤ 20
        rw [rowOf_pay, if_pos rfl]; exact Nat.le_trans (List.length_filterMap_le _ _) hrow1
    obtain ⟨hansB, hrkB, hvB, hrowB⟩ := hansB
    have hfin : rank26 (payAns (pay26 m t a) t b).2.2.2 t = rank26 (pay26 m t (a + b)) t := by rw [hrkB, htw.2.2, rank_behind]
    have hfinl : (rank26 (pay26 m t (a + b)) t).length ≤ 20 := by rw [rank_length]; exact hrow3
    have amt1 := payE_amt ha0 hramt
    have amt2 := payE_amt hb0 hramt1
    have amt3 := payE_amt (show 0 ≤ a + b by omega) hramt
    have len1 := payE_len (rank26 m t) a
    have len2 := payE_len (rank26 (pay26 m t a) t) b
    have len3 := payE_len (rank26 m t) (a + b)
    rw [rank_length] at len2
    obtain ⟨mB, hmB⟩ : ∃ mB, mB = (payAns (pay26 m t a) t b).2.2.2 := ⟨_, rfl⟩
    rw [← hmB] at hansB hrowB hfin
    have htw1 := htw.1
    have htw2 := htw.2.1
    clear htw hrkB
    obtain ⟨E1, hE1⟩ : ∃ E, E = (payE (rank26 m t) a).1 := ⟨_, rfl⟩
    obtain ⟨u1, hu1⟩ : ∃ u, u = (payE (rank26 m t) a).2.2 := ⟨_, rfl⟩
    obtain ⟨E2, hE2⟩ : ∃ E, E = (payE (rank26 (pay26 m t a) t) b).1 := ⟨_, rfl⟩
    obtain ⟨u2, hu2⟩ : ∃ u, u = (payE (rank26 (pay26 m t a) t) b).2.2 := ⟨_, rfl⟩
    obtain ⟨E3, hE3⟩ : ∃ E, E = (payE (rank26 m t) (a + b)).1 := ⟨_, rfl⟩
    obtain ⟨u3, hu3⟩ : ∃ u, u = (payE (rank26 m t) (a + b)).2.2 := ⟨_, rfl⟩
    rw [← hE1, ← hu1] at hansA
    rw [← hE2, ← hu2] at hansB
    rw [← hE3, ← hu3] at hansC
    rw [← hu1, ← hu2, ← hu3] at htw1
    rw [← hE1, ← hE2, ← hE3] at htw2
    rw [← hE1] at amt1 len1
    rw [← hE2] at amt2 len2
    rw [← hE3] at amt3 len3
    rw [← hu2] at hvB hrestB
    rw [← hu1] at hrestA
    clear hE1 hE2 hE3 hu1 hu2 hu3
    have sb1 := fun k => sumFor_bound (who := who) (l := E1.take k) fun e he => amt1 e (List.mem_of_mem_take he)
    have sb2 := fun k => sumFor_bound (who := who) (l := E2.take k) fun e he => amt2 e (List.mem_of_mem_take he)
    have sb3 := fun k => sumFor_bound (who := who) (l := E3.take k) fun e he => amt3 e (List.mem_of_mem_take he)
    have sl1 : ∀ k, (E1.take k).length ≤ 20 := fun k => by rw [List.length_take]; omega
    have sl2 : ∀ k, (E2.take k).length ≤ 20 := fun k => by rw [List.length_take]; omega
    have sl3 : ∀ k, (E3.take k).length ≤ 20 := fun k => by rw [List.length_take]; omega
    have hc : (rowOf (pay26 m t a) t = [] ∧ payAns (pay26 m t a) t b = (E2, 0, 4, mB) ∧ u2 = b) ∨ payAns (pay26 m t a) t b = (E2, u2, 0, mB) := by
      by_cases h : rowOf (pay26 m t a) t = []
      · exact .inl ⟨h, by rw [hansB, if_pos h, if_pos h], hvB h⟩
      · exact .inr (by rw [hansB, if_neg h, if_neg h])
    clear hansB hvB
    rcases hc with ⟨_, hansB, hub⟩ | hansB
    · obtain rfl : b = u2 := hub.symm
      repeat' (first
        | refine JE.pure rfl rfl (by conv => lhs; whnf) rfl ?_
        | refine JE.skip rfl rfl ?_
        | (refine JE.kBin ?_; first | (refine JE.int rfl rfl rfl rfl rfl rfl ?_; with_reducible refine JE.waysD (fun _ => ?_) (fun _ => ?_)) | refine JE.int rfl rfl rfl rfl (by rw [i64_id (by omega)]) rfl ?_ | refine JE.int rfl rfl rfl rfl rfl rfl ?_ | refine JE.eqBool rfl rfl rfl (by conv => lhs; whnf) rfl ?_ | refine JE.neBool rfl rfl rfl (by conv => lhs; whnf) rfl ?_ | refine JE.eqNilSl rfl rfl rfl rfl ?_ | (refine JE.eqStr rfl rfl rfl rfl ?_; with_reducible refine JE.waysD (fun _ => ?_) (fun _ => ?_)) | (refine JE.neStr rfl rfl rfl rfl ?_; with_reducible refine JE.waysD (fun _ => ?_) (fun _ => ?_)))
        | (refine JE.kField ?_; refine JE.fieldAddr rfl rfl rfl ?_)
        | (refine JE.kNil ?_; refine JE.nilCheck rfl rfl rfl ?_)
        | (refine JE.kLoad ?_; first | refine JE.load1 rfl rfl (by repeat (first | exact In.head | refine In.tail ?_ | refine In.app ?_)) rfl (by conv => lhs; whnf) (fun _ => by first | trivial | exact ⟨.inr ‹_›, trivial⟩ | exact ⟨.inl (by kernel_rfl), trivial⟩ | exact ⟨.inr ‹_›, .inr ‹_›, trivial⟩ | exact ⟨.inr ‹_›, .inl (by kernel_rfl), trivial⟩ | exact ⟨.inl (by kernel_rfl), .inr ‹_›, trivial⟩ | exact ⟨.inl (by kernel_rfl), .inl (by kernel_rfl), trivial⟩) rfl ?_ | refine JE.loadAll rfl rfl (by repeat (first | exact In.head | refine In.tail ?_ | refine In.app ?_)) (by rfl) (fun _ => by first | trivial | exact ⟨.inr ‹_›, trivial⟩ | exact ⟨.inl (by kernel_rfl), trivial⟩ | exact ⟨.inr ‹_›, .inr ‹_›, trivial⟩ | exact ⟨.inr ‹_›, .inl (by kernel_rfl), trivial⟩ | exact ⟨.inl (by kernel_rfl), .inr ‹_›, trivial⟩ | exact ⟨.inl (by kernel_rfl), .inl (by kernel_rfl), trivial⟩) rfl ?_ | refine JE.loadN rfl rfl (by repeat (first | exact In.head | refine In.tail ?_ | refine In.app ?_)) (by conv => lhs; whnf) (by rfl) (fun _ => by first | trivial | exact ⟨.inr ‹_›, trivial⟩ | exact ⟨.inl (by kernel_rfl), trivial⟩ | exact ⟨.inr ‹_›, .inr ‹_›, trivial⟩ | exact ⟨.inr ‹_›, .inl (by kernel_rfl), trivial⟩ | exact ⟨.inl (by kernel_rfl), .inr ‹_›, trivial⟩ | exact ⟨.inl (by kernel_rfl), .inl (by kernel_rfl), trivial⟩) rfl ?_)
        | (refine JE.kBox ?_; refine JE.box rfl (by conv => lhs; whnf) rfl (fun _ _ => ?_))
        | (refine JE.kAlloc ?_; refine JE.alloc rfl (by conv => lhs; whnf) rfl (fun _ _ => ?_))
        | (refine JE.kStore ?_; refine JE.store rfl rfl (by repeat (first | exact Turn.head | apply Turn.tail | apply Turn.app)) SizeT.size (by repeat (first | exact NfL.nil rfl | apply NfL.cons (by exact rfl) (by conv => lhs; whnf))) (by rfl) (by rfl) (by rfl) (by repeat (first | exact NfL.nil rfl | apply NfL.cons (by exact rfl) (by conv => lhs; whnf))) (by first | trivial | exact List.mem_cons_self | exact List.mem_cons_of_mem _ List.mem_cons_self) rfl ?_)
        | (refine JE.kBuiltin ?_; first | refine JE.lenSl rfl rfl rfl ?_ | refine JE.lenStr rfl rfl rfl ?_ | refine JE.max2 rfl rfl rfl rfl rfl ?_ | refine JE.min2 rfl rfl rfl rfl rfl ?_)
        | (refine JE.kBuild ?_; refine JE.build rfl rfl (by repeat (first | exact NfL.nil rfl | apply NfL.cons (by exact rfl) (by conv => lhs; whnf))) rfl ?_)
        | (refine JE.kBuildSlice ?_; refine JE.buildSlice rfl rfl rfl (by conv => lhs; whnf) (by rfl) (by rfl) (by repeat (first | exact NfL.nil rfl | apply NfL.cons (by exact rfl) (by conv => lhs; whnf))) rfl (fun _ _ => ?_))
        | (refine JE.kRange ?_; refine JE.rangeStr rfl rfl rfl (fun _ _ => ?_))
        | with_reducible refine JE.sN ?_
        | with_reducible refine JE.sX ?_
        | with_reducible refine JE.dN ?_
        | with_reducible refine JE.dX ?_
        | with_reducible refine J.seq ?_
        | with_reducible refine J.region ?_
        | refine J.condT rfl ?_
        | refine J.condF rfl ?_
        | with_reducible refine J.skip ?_
        | with_reducible refine J.exit ?_
        | with_reducible refine J.block ?_
        | with_reducible refine J.ret ?_
        | with_reducible refine JX.thenN ?_
        | with_reducible refine JX.thenR ?_
        | with_reducible refine JX.thenE ?_
        | with_reducible refine JX.blkS ?_
        | (with_reducible refine JX.blkE ?_ ?_; exact rfl)
        | with_reducible refine JX.blkN ?_
        | with_reducible refine JX.blkR ?_
        | (refine JE.isF 10 ?_; refine JE.call rfl rfl (by repeat (first | exact NfL.nil rfl | apply NfL.cons (by exact rfl) (by conv => lhs; whnf))) rfl ?_; refine CallG.ret (fun w hS => awake_calls w) ?_)
        | (refine JE.isF 11 ?_; refine JE.call rfl rfl (by repeat (first | exact NfL.nil rfl | apply NfL.cons (by exact rfl) (by conv => lhs; whnf))) rfl ?_; refine CallG.ret (fun w hS => hheavy w (hs0.below hS.below)) ?_)
        | (refine JE.isF 12 ?_; refine JE.call rfl rfl (by repeat (first | exact NfL.nil rfl | apply NfL.cons (by exact rfl) (by conv => lhs; whnf))) rfl ?_; refine CallG.news (G := _) (fun w hS => hgc w (hs0.below hS.below)) ?_; rintro _ _ ⟨p, vm, l1, l2, rfl, rfl, hL, hm⟩; refine JE.perm (List.Perm.of_eq (List.append_assoc _ _ _)) ?_)
        | (refine JE.isF 19 ?_; refine JE.call rfl rfl (by repeat (first | exact NfL.nil rfl | apply NfL.cons (by exact rfl) (by conv => lhs; whnf))) rfl ?_; refine CallG.news (G := _) (fun w hS => copy_calls hL w (hS.sub (l' := l1) (by repeat (first | exact List.Sublist.refl _ | exact List.nil_sublist _ | refine List.Sublist.append_left ?_ _ | exact List.sublist_append_left _ _ | apply List.Sublist.cons_cons | apply List.Sublist.cons | apply List.sublist_append_of_sublist_right))).own (hS.sub (l' := l1) (by repeat (first | exact List.Sublist.refl _ | exact List.nil_sublist _ | refine List.Sublist.append_left ?_ _ | exact List.sublist_append_left _ _ | apply List.Sublist.cons_cons | apply List.Sublist.cons | apply List.sublist_append_of_sublist_right))).nodup) ?_; rintro _ l3 ⟨p2, rfl, hL3⟩)
        | (refine JE.isF 14 ?_; first | (refine JE.isArg3 70 ?_; refine JE.call rfl rfl (by repeat (first | exact NfL.nil rfl | apply NfL.cons (by exact rfl) (by conv => lhs; whnf))) rfl ?_; refine CallG.obj (ln := l1) (G := _) (by repeat (first | exact Seg.head | exact Seg.all | exact Seg.one | apply Seg.tail | apply Seg.cons)) (fun w hS => pay_calls hL t a (by omega) w (hS.owns (by repeat (first | exact Seg.head | exact Seg.all | exact Seg.one | apply Seg.tail | apply Seg.cons))) (hS.dist (by repeat (first | exact Seg.head | exact Seg.all | exact Seg.one | apply Seg.tail | apply Seg.cons)))) (fun _ _ _ _ => trivial) ?_; rw [hansA]; rintro _ _ ⟨v1, e1, lA, rfl, rfl, hoE1, hLA⟩; obtain ⟨aE1, cE1, rfl, _⟩ := hoE1.shape; refine JE.perm (List.Perm.of_eq (List.append_assoc _ _ _)) ?_) | (refine JE.isArg3 82 ?_; refine JE.call rfl rfl (by repeat (first | exact NfL.nil rfl | apply NfL.cons (by exact rfl) (by conv => lhs; whnf))) rfl ?_; refine CallG.obj (ln := lA) (G := _) (by repeat (first | exact Seg.head | exact Seg.all | exact Seg.one | apply Seg.tail | apply Seg.cons)) (fun w hS => pay_calls (m := pay26 m t a) hLA t _ (by omega) w (hS.owns (by repeat (first | exact Seg.head | exact Seg.all | exact Seg.one | apply Seg.tail | apply Seg.cons))) (hS.dist (by repeat (first | exact Seg.head | exact Seg.all | exact Seg.one | apply Seg.tail | apply Seg.cons)))) (fun _ _ _ _ => trivial) ?_; rw [hansB]; rintro _ _ ⟨v2, e2, lB, rfl, rfl, hoE2, hLB⟩; obtain ⟨aE2, cE2, rfl, _⟩ := hoE2.shape; refine JE.perm (List.Perm.of_eq (List.append_assoc _ _ _)) ?_) | (refine JE.isArg3 90 ?_; refine JE.call rfl rfl (by repeat (first | exact NfL.nil rfl | apply NfL.cons (by exact rfl) (by conv => lhs; whnf))) rfl ?_; refine CallG.obj (ln := l3) (G := _) (by repeat (first | exact Seg.head | exact Seg.all | exact Seg.one | apply Seg.tail | apply Seg.cons)) (fun w hS => pay_calls hL3 t _ (by omega) w (hS.owns (by repeat (first | exact Seg.head | exact Seg.all | exact Seg.one | apply Seg.tail | apply Seg.cons))) (hS.dist (by repeat (first | exact Seg.head | exact Seg.all | exact Seg.one | apply Seg.tail | apply Seg.cons)))) (fun _ _ _ _ => trivial) ?_; rw [hansC]; rintro _ _ ⟨v3, e3, lC, rfl, rfl, hoE3, hLC⟩; obtain ⟨aE3, cE3, rfl, _⟩ := hoE3.shape; refine JE.perm (List.Perm.of_eq (List.append_assoc _ _ _)) ?_)))
      all_goals first
        | (exfalso; omega)
        | exact absurd rfl ‹_› | exact absurd (show (4 : Int) ≠ 0 by decide) ‹_› | exact absurd ‹(0 : Int) = 4› (by decide) | exact absurd ‹(0 : Int) ≠ 0› (by decide)
        | skip
      refine J.loop (fun f w' => ∃ (k : Nat), k ≤ E1.length ∧ Has f [(1, .string t), (4, .string who), (11, .pointer (some ⟨p, 0, none⟩)), (14, .pointer (some ⟨p2, 0, none⟩)), (15, .slice aE1 E1.length cE1), (16, .int .i64 u1), (18, .slice aE2 E2.length cE2), (19, .int .i64 b), (21, .slice aE3 E3.length cE3), (22, .int .i64 u3), (23, .int .i64 0), (24, .int .i64 (sumFor who (E1.take k))), (25, .int .i64 (0)), (26, .int .i64 k)] ∧ St w [] (e3 ++ (lC ++ (e2 ++ (lB ++ e1)))) w')
        (fun f _ => E1.length - (intOf (f 26)).toNat) (fun w' hS => ⟨0, Nat.zero_le _, ⟨rfl, rfl, rfl, rfl, rfl, rfl, rfl, rfl, rfl, rfl, rfl, (congrArg (Value.int .i64) (by simp [sumFor, sumE])), rfl, rfl, trivial⟩, hS.sub (by repeat (first | exact List.Sublist.refl _ | exact List.nil_sublist _ | refine List.Sublist.append_left ?_ _ | exact List.sublist_append_left _ _ | apply List.Sublist.cons_cons | apply List.Sublist.cons | apply List.sublist_append_of_sublist_right))⟩) ?_
      rintro f w' ⟨k, hk, hf, hS⟩
      obtain ⟨g, rfl⟩ := hf.eq
      clear hf
      refine J.at_ ?_ hS
      have hsb := sb1 k
      have hsl := sl1 k
      by_cases hlt : k < E1.length
      · have hxk : E1[k]? = some E1[k] := List.getElem?_eq_getElem hlt
        have htk := sumFor_take (who := who) hxk
        have hxa := amt1 E1[k] (List.getElem_mem hlt)
        generalize E1[k] = x at hxk htk hxa
        have hslE : ∀ w', St w [] e1 w' → Sl 3 encEntry w' (.slice aE1 E1.length cE1) E1 := fun w' hS => hoE1.sl encE_len hS.own
        obtain ⟨BE, offE, rfl⟩ : ∃ B off, aE1 = some ⟨B, off, none⟩ := by
          obtain ⟨a', c', e1, h2⟩ := hslE _ (hS.sub (by repeat (first | exact List.Sublist.refl _ | exact List.nil_sublist _ | refine List.Sublist.append_left ?_ _ | exact List.sublist_append_left _ _ | apply List.Sublist.cons_cons | apply List.Sublist.cons | apply List.sublist_append_of_sublist_right)))
          obtain ⟨B, off, e2, _⟩ := h2 (by rintro e; rw [e] at hxk; simp at hxk)
          simp only [Value.slice.injEq] at e1
          exact ⟨B, off, e1.1.trans e2⟩
        have hrE := rows_of hslE (by rintro e; rw [e] at hxk; simp at hxk)
        skip
        repeat' (first
          | refine JE.pure rfl rfl (by conv => lhs; whnf) rfl ?_
          | refine JE.skip rfl rfl ?_
          | (refine JE.kBin ?_; first | (refine JE.int rfl rfl rfl rfl rfl rfl ?_; with_reducible refine JE.waysD (fun _ => ?_) (fun _ => ?_)) | refine JE.int rfl rfl rfl rfl (by rw [i64_id (by omega)]) rfl ?_ | refine JE.int rfl rfl rfl rfl rfl rfl ?_ | refine JE.eqBool rfl rfl rfl (by conv => lhs; whnf) rfl ?_ | refine JE.neBool rfl rfl rfl (by conv => lhs; whnf) rfl ?_ | refine JE.eqNilSl rfl rfl rfl rfl ?_ | (refine JE.eqStr rfl rfl rfl rfl ?_; with_reducible refine JE.waysD (fun _ => ?_) (fun _ => ?_)) | (refine JE.neStr rfl rfl rfl rfl ?_; with_reducible refine JE.waysD (fun _ => ?_) (fun _ => ?_)))
          | (refine JE.kField ?_; refine JE.fieldAddr rfl rfl rfl ?_)
          | (refine JE.kNil ?_; refine JE.nilCheck rfl rfl rfl ?_)
          | (refine JE.kLoad ?_; first | refine JE.load1 rfl rfl (by repeat (first | exact In.head | refine In.tail ?_ | refine In.app ?_)) rfl (by conv => lhs; whnf) (fun _ => by first | trivial | exact ⟨.inr ‹_›, trivial⟩ | exact ⟨.inl (by kernel_rfl), trivial⟩ | exact ⟨.inr ‹_›, .inr ‹_›, trivial⟩ | exact ⟨.inr ‹_›, .inl (by kernel_rfl), trivial⟩ | exact ⟨.inl (by kernel_rfl), .inr ‹_›, trivial⟩ | exact ⟨.inl (by kernel_rfl), .inl (by kernel_rfl), trivial⟩) rfl ?_ | refine JE.loadAll rfl rfl (by repeat (first | exact In.head | refine In.tail ?_ | refine In.app ?_)) (by rfl) (fun _ => by first | trivial | exact ⟨.inr ‹_›, trivial⟩ | exact ⟨.inl (by kernel_rfl), trivial⟩ | exact ⟨.inr ‹_›, .inr ‹_›, trivial⟩ | exact ⟨.inr ‹_›, .inl (by kernel_rfl), trivial⟩ | exact ⟨.inl (by kernel_rfl), .inr ‹_›, trivial⟩ | exact ⟨.inl (by kernel_rfl), .inl (by kernel_rfl), trivial⟩) rfl ?_ | refine JE.loadN rfl rfl (by repeat (first | exact In.head | refine In.tail ?_ | refine In.app ?_)) (by conv => lhs; whnf) (by rfl) (fun _ => by first | trivial | exact ⟨.inr ‹_›, trivial⟩ | exact ⟨.inl (by kernel_rfl), trivial⟩ | exact ⟨.inr ‹_›, .inr ‹_›, trivial⟩ | exact ⟨.inr ‹_›, .inl (by kernel_rfl), trivial⟩ | exact ⟨.inl (by kernel_rfl), .inr ‹_›, trivial⟩ | exact ⟨.inl (by kernel_rfl), .inl (by kernel_rfl), trivial⟩) rfl ?_)
          | (refine JE.kBox ?_; refine JE.box rfl (by conv => lhs; whnf) rfl (fun _ _ => ?_))
          | (refine JE.kAlloc ?_; refine JE.alloc rfl (by conv => lhs; whnf) rfl (fun _ _ => ?_))
          | (refine JE.kStore ?_; refine JE.store rfl rfl (by repeat (first | exact Turn.head | apply Turn.tail | apply Turn.app)) SizeT.size (by repeat (first | exact NfL.nil rfl | apply NfL.cons (by exact rfl) (by conv => lhs; whnf))) (by rfl) (by rfl) (by rfl) (by repeat (first | exact NfL.nil rfl | apply NfL.cons (by exact rfl) (by conv => lhs; whnf))) (by first | trivial | exact List.mem_cons_self | exact List.mem_cons_of_mem _ List.mem_cons_self) rfl ?_)
          | (refine JE.kBuiltin ?_; first | refine JE.lenSl rfl rfl rfl ?_ | refine JE.lenStr rfl rfl rfl ?_ | refine JE.max2 rfl rfl rfl rfl rfl ?_ | refine JE.min2 rfl rfl rfl rfl rfl ?_)
          | (refine JE.kBuild ?_; refine JE.build rfl rfl (by repeat (first | exact NfL.nil rfl | apply NfL.cons (by exact rfl) (by conv => lhs; whnf))) rfl ?_)
          | (refine JE.kBuildSlice ?_; refine JE.buildSlice rfl rfl rfl (by conv => lhs; whnf) (by rfl) (by rfl) (by repeat (first | exact NfL.nil rfl | apply NfL.cons (by exact rfl) (by conv => lhs; whnf))) rfl (fun _ _ => ?_))
          | (refine JE.kRange ?_; refine JE.rangeStr rfl rfl rfl (fun _ _ => ?_))
          | with_reducible refine JE.sN ?_
          | with_reducible refine JE.sX ?_
          | with_reducible refine JE.dN ?_
          | with_reducible refine JE.dX ?_
          | with_reducible refine J.seq ?_
          | with_reducible refine J.region ?_
          | refine J.condT rfl ?_
          | refine J.condF rfl ?_
          | with_reducible refine J.skip ?_
          | with_reducible refine J.exit ?_
          | with_reducible refine J.block ?_
          | with_reducible refine J.ret ?_
          | with_reducible refine JX.thenN ?_
          | with_reducible refine JX.thenR ?_
          | with_reducible refine JX.thenE ?_
          | with_reducible refine JX.blkS ?_
          | (with_reducible refine JX.blkE ?_ ?_; exact rfl)
          | with_reducible refine JX.blkN ?_
          | with_reducible refine JX.blkR ?_
          | (refine JE.kIndexAddr ?_; refine JE.indexAddr rfl rfl rfl (Int.natCast_nonneg _) (by omega) rfl ?_)
          | (refine JE.kLoad ?_; refine JE.loadRowCS rfl rfl (fun w' hS' => hrE w' (hS'.sub (by repeat (first | exact List.Sublist.refl _ | exact List.nil_sublist _ | refine List.Sublist.append_left ?_ _ | exact List.sublist_append_left _ _ | apply List.Sublist.cons_cons | apply List.Sublist.cons | apply List.sublist_append_of_sublist_right)))) hxk rfl rfl (fun h => by first | exact trivial | cases h) rfl ?_))
        all_goals first
          | (exfalso; omega)
          | (refine JX.round fun w'' hS' => ⟨⟨k + 1, hlt, ⟨rfl, rfl, rfl, rfl, rfl, rfl, rfl, rfl, rfl, rfl, rfl, (congrArg (Value.int .i64) (by rw [htk, if_pos ‹x.account = who›] <;> omega)), rfl, rfl, trivial⟩, hS'⟩, ?_⟩
             show E1.length - ((k : Int) + 1).toNat < E1.length - ((k : Int)).toNat
             omega)
          | (refine JX.round fun w'' hS' => ⟨⟨k + 1, hlt, ⟨rfl, rfl, rfl, rfl, rfl, rfl, rfl, rfl, rfl, rfl, rfl, (congrArg (Value.int .i64) (by rw [htk, if_neg ‹¬ x.account = who›, Int.add_zero])), rfl, rfl, trivial⟩, hS'⟩, ?_⟩
             show E1.length - ((k : Int) + 1).toNat < E1.length - ((k : Int)).toNat
             omega)
      · have hk' : k = E1.length := by omega
        rw [hk', List.take_length] at hsb hsl
        rw [hk', List.take_length]
        have hs1b := hsb
        have hs1l := hsl
        clear hsb hsl
        skip
        repeat' (first
          | refine JE.pure rfl rfl (by conv => lhs; whnf) rfl ?_
          | refine JE.skip rfl rfl ?_
          | (refine JE.kBin ?_; first | (refine JE.int rfl rfl rfl rfl rfl rfl ?_; with_reducible refine JE.waysD (fun _ => ?_) (fun _ => ?_)) | refine JE.int rfl rfl rfl rfl (by rw [i64_id (by omega)]) rfl ?_ | refine JE.int rfl rfl rfl rfl rfl rfl ?_ | refine JE.eqBool rfl rfl rfl (by conv => lhs; whnf) rfl ?_ | refine JE.neBool rfl rfl rfl (by conv => lhs; whnf) rfl ?_ | refine JE.eqNilSl rfl rfl rfl rfl ?_ | (refine JE.eqStr rfl rfl rfl rfl ?_; with_reducible refine JE.waysD (fun _ => ?_) (fun _ => ?_)) | (refine JE.neStr rfl rfl rfl rfl ?_; with_reducible refine JE.waysD (fun _ => ?_) (fun _ => ?_)))
          | (refine JE.kField ?_; refine JE.fieldAddr rfl rfl rfl ?_)
          | (refine JE.kNil ?_; refine JE.nilCheck rfl rfl rfl ?_)
          | (refine JE.kLoad ?_; first | refine JE.load1 rfl rfl (by repeat (first | exact In.head | refine In.tail ?_ | refine In.app ?_)) rfl (by conv => lhs; whnf) (fun _ => by first | trivial | exact ⟨.inr ‹_›, trivial⟩ | exact ⟨.inl (by kernel_rfl), trivial⟩ | exact ⟨.inr ‹_›, .inr ‹_›, trivial⟩ | exact ⟨.inr ‹_›, .inl (by kernel_rfl), trivial⟩ | exact ⟨.inl (by kernel_rfl), .inr ‹_›, trivial⟩ | exact ⟨.inl (by kernel_rfl), .inl (by kernel_rfl), trivial⟩) rfl ?_ | refine JE.loadAll rfl rfl (by repeat (first | exact In.head | refine In.tail ?_ | refine In.app ?_)) (by rfl) (fun _ => by first | trivial | exact ⟨.inr ‹_›, trivial⟩ | exact ⟨.inl (by kernel_rfl), trivial⟩ | exact ⟨.inr ‹_›, .inr ‹_›, trivial⟩ | exact ⟨.inr ‹_›, .inl (by kernel_rfl), trivial⟩ | exact ⟨.inl (by kernel_rfl), .inr ‹_›, trivial⟩ | exact ⟨.inl (by kernel_rfl), .inl (by kernel_rfl), trivial⟩) rfl ?_ | refine JE.loadN rfl rfl (by repeat (first | exact In.head | refine In.tail ?_ | refine In.app ?_)) (by conv => lhs; whnf) (by rfl) (fun _ => by first | trivial | exact ⟨.inr ‹_›, trivial⟩ | exact ⟨.inl (by kernel_rfl), trivial⟩ | exact ⟨.inr ‹_›, .inr ‹_›, trivial⟩ | exact ⟨.inr ‹_›, .inl (by kernel_rfl), trivial⟩ | exact ⟨.inl (by kernel_rfl), .inr ‹_›, trivial⟩ | exact ⟨.inl (by kernel_rfl), .inl (by kernel_rfl), trivial⟩) rfl ?_)
          | (refine JE.kBox ?_; refine JE.box rfl (by conv => lhs; whnf) rfl (fun _ _ => ?_))
          | (refine JE.kAlloc ?_; refine JE.alloc rfl (by conv => lhs; whnf) rfl (fun _ _ => ?_))
          | (refine JE.kStore ?_; refine JE.store rfl rfl (by repeat (first | exact Turn.head | apply Turn.tail | apply Turn.app)) SizeT.size (by repeat (first | exact NfL.nil rfl | apply NfL.cons (by exact rfl) (by conv => lhs; whnf))) (by rfl) (by rfl) (by rfl) (by repeat (first | exact NfL.nil rfl | apply NfL.cons (by exact rfl) (by conv => lhs; whnf))) (by first | trivial | exact List.mem_cons_self | exact List.mem_cons_of_mem _ List.mem_cons_self) rfl ?_)
          | (refine JE.kBuiltin ?_; first | refine JE.lenSl rfl rfl rfl ?_ | refine JE.lenStr rfl rfl rfl ?_ | refine JE.max2 rfl rfl rfl rfl rfl ?_ | refine JE.min2 rfl rfl rfl rfl rfl ?_)
          | (refine JE.kBuild ?_; refine JE.build rfl rfl (by repeat (first | exact NfL.nil rfl | apply NfL.cons (by exact rfl) (by conv => lhs; whnf))) rfl ?_)
          | (refine JE.kBuildSlice ?_; refine JE.buildSlice rfl rfl rfl (by conv => lhs; whnf) (by rfl) (by rfl) (by repeat (first | exact NfL.nil rfl | apply NfL.cons (by exact rfl) (by conv => lhs; whnf))) rfl (fun _ _ => ?_))
          | (refine JE.kRange ?_; refine JE.rangeStr rfl rfl rfl (fun _ _ => ?_))
          | with_reducible refine JE.sN ?_
          | with_reducible refine JE.sX ?_
          | with_reducible refine JE.dN ?_
          | with_reducible refine JE.dX ?_
          | with_reducible refine J.seq ?_
          | with_reducible refine J.region ?_
          | refine J.condT rfl ?_
          | refine J.condF rfl ?_
          | with_reducible refine J.skip ?_
          | with_reducible refine J.exit ?_
          | with_reducible refine J.block ?_
          | with_reducible refine J.ret ?_
          | with_reducible refine JX.thenN ?_
          | with_reducible refine JX.thenR ?_
          | with_reducible refine JX.thenE ?_
          | with_reducible refine JX.blkS ?_
          | (with_reducible refine JX.blkE ?_ ?_; exact rfl)
          | with_reducible refine JX.blkN ?_
          | with_reducible refine JX.blkR ?_)
        · exfalso; omega
        clear hS
        refine J.loop (fun f w' => ∃ (k : Nat), k ≤ E2.length ∧ Has f [(1, .string t), (4, .string who), (11, .pointer (some ⟨p, 0, none⟩)), (14, .pointer (some ⟨p2, 0, none⟩)), (15, .slice aE1 E1.length cE1), (16, .int .i64 u1), (18, .slice aE2 E2.length cE2), (19, .int .i64 b), (21, .slice aE3 E3.length cE3), (22, .int .i64 u3), (23, .int .i64 0), (24, .int .i64 (sumFor who E1 + sumFor who (E2.take k))), (25, .int .i64 (0)), (27, .int .i64 k)] ∧ St w [] (e3 ++ (lC ++ (e2 ++ (lB ++ e1)))) w')
          (fun f _ => E2.length - (intOf (f 27)).toNat) (fun w' hS => ⟨0, Nat.zero_le _, ⟨rfl, rfl, rfl, rfl, rfl, rfl, rfl, rfl, rfl, rfl, rfl, (congrArg (Value.int .i64) (by simp [sumFor, sumE])), rfl, rfl, trivial⟩, hS.sub (by repeat (first | exact List.Sublist.refl _ | exact List.nil_sublist _ | refine List.Sublist.append_left ?_ _ | exact List.sublist_append_left _ _ | apply List.Sublist.cons_cons | apply List.Sublist.cons | apply List.sublist_append_of_sublist_right))⟩) ?_
        rintro f w' ⟨k, hk, hf, hS⟩
        obtain ⟨g, rfl⟩ := hf.eq
        clear hf
        refine J.at_ ?_ hS
        have hsb := sb2 k
        have hsl := sl2 k
        by_cases hlt : k < E2.length
        · have hxk : E2[k]? = some E2[k] := List.getElem?_eq_getElem hlt
          have htk := sumFor_take (who := who) hxk
          have hxa := amt2 E2[k] (List.getElem_mem hlt)
          generalize E2[k] = x at hxk htk hxa
          have hslE : ∀ w', St w [] e2 w' → Sl 3 encEntry w' (.slice aE2 E2.length cE2) E2 := fun w' hS => hoE2.sl encE_len hS.own
          obtain ⟨BE, offE, rfl⟩ : ∃ B off, aE2 = some ⟨B, off, none⟩ := by
            obtain ⟨a', c', e1, h2⟩ := hslE _ (hS.sub (by repeat (first | exact List.Sublist.refl _ | exact List.nil_sublist _ | refine List.Sublist.append_left ?_ _ | exact List.sublist_append_left _ _ | apply List.Sublist.cons_cons | apply List.Sublist.cons | apply List.sublist_append_of_sublist_right)))
            obtain ⟨B, off, e2, _⟩ := h2 (by rintro e; rw [e] at hxk; simp at hxk)
            simp only [Value.slice.injEq] at e1
            exact ⟨B, off, e1.1.trans e2⟩
          have hrE := rows_of hslE (by rintro e; rw [e] at hxk; simp at hxk)
          skip
          repeat' (first
            | refine JE.pure rfl rfl (by conv => lhs; whnf) rfl ?_
            | refine JE.skip rfl rfl ?_
            | (refine JE.kBin ?_; first | (refine JE.int rfl rfl rfl rfl rfl rfl ?_; with_reducible refine JE.waysD (fun _ => ?_) (fun _ => ?_)) | refine JE.int rfl rfl rfl rfl (by rw [i64_id (by omega)]) rfl ?_ | refine JE.int rfl rfl rfl rfl rfl rfl ?_ | refine JE.eqBool rfl rfl rfl (by conv => lhs; whnf) rfl ?_ | refine JE.neBool rfl rfl rfl (by conv => lhs; whnf) rfl ?_ | refine JE.eqNilSl rfl rfl rfl rfl ?_ | (refine JE.eqStr rfl rfl rfl rfl ?_; with_reducible refine JE.waysD (fun _ => ?_) (fun _ => ?_)) | (refine JE.neStr rfl rfl rfl rfl ?_; with_reducible refine JE.waysD (fun _ => ?_) (fun _ => ?_)))
            | (refine JE.kField ?_; refine JE.fieldAddr rfl rfl rfl ?_)
            | (refine JE.kNil ?_; refine JE.nilCheck rfl rfl rfl ?_)
            | (refine JE.kLoad ?_; first | refine JE.load1 rfl rfl (by repeat (first | exact In.head | refine In.tail ?_ | refine In.app ?_)) rfl (by conv => lhs; whnf) (fun _ => by first | trivial | exact ⟨.inr ‹_›, trivial⟩ | exact ⟨.inl (by kernel_rfl), trivial⟩ | exact ⟨.inr ‹_›, .inr ‹_›, trivial⟩ | exact ⟨.inr ‹_›, .inl (by kernel_rfl), trivial⟩ | exact ⟨.inl (by kernel_rfl), .inr ‹_›, trivial⟩ | exact ⟨.inl (by kernel_rfl), .inl (by kernel_rfl), trivial⟩) rfl ?_ | refine JE.loadAll rfl rfl (by repeat (first | exact In.head | refine In.tail ?_ | refine In.app ?_)) (by rfl) (fun _ => by first | trivial | exact ⟨.inr ‹_›, trivial⟩ | exact ⟨.inl (by kernel_rfl), trivial⟩ | exact ⟨.inr ‹_›, .inr ‹_›, trivial⟩ | exact ⟨.inr ‹_›, .inl (by kernel_rfl), trivial⟩ | exact ⟨.inl (by kernel_rfl), .inr ‹_›, trivial⟩ | exact ⟨.inl (by kernel_rfl), .inl (by kernel_rfl), trivial⟩) rfl ?_ | refine JE.loadN rfl rfl (by repeat (first | exact In.head | refine In.tail ?_ | refine In.app ?_)) (by conv => lhs; whnf) (by rfl) (fun _ => by first | trivial | exact ⟨.inr ‹_›, trivial⟩ | exact ⟨.inl (by kernel_rfl), trivial⟩ | exact ⟨.inr ‹_›, .inr ‹_›, trivial⟩ | exact ⟨.inr ‹_›, .inl (by kernel_rfl), trivial⟩ | exact ⟨.inl (by kernel_rfl), .inr ‹_›, trivial⟩ | exact ⟨.inl (by kernel_rfl), .inl (by kernel_rfl), trivial⟩) rfl ?_)
            | (refine JE.kBox ?_; refine JE.box rfl (by conv => lhs; whnf) rfl (fun _ _ => ?_))
            | (refine JE.kAlloc ?_; refine JE.alloc rfl (by conv => lhs; whnf) rfl (fun _ _ => ?_))
            | (refine JE.kStore ?_; refine JE.store rfl rfl (by repeat (first | exact Turn.head | apply Turn.tail | apply Turn.app)) SizeT.size (by repeat (first | exact NfL.nil rfl | apply NfL.cons (by exact rfl) (by conv => lhs; whnf))) (by rfl) (by rfl) (by rfl) (by repeat (first | exact NfL.nil rfl | apply NfL.cons (by exact rfl) (by conv => lhs; whnf))) (by first | trivial | exact List.mem_cons_self | exact List.mem_cons_of_mem _ List.mem_cons_self) rfl ?_)
            | (refine JE.kBuiltin ?_; first | refine JE.lenSl rfl rfl rfl ?_ | refine JE.lenStr rfl rfl rfl ?_ | refine JE.max2 rfl rfl rfl rfl rfl ?_ | refine JE.min2 rfl rfl rfl rfl rfl ?_)
            | (refine JE.kBuild ?_; refine JE.build rfl rfl (by repeat (first | exact NfL.nil rfl | apply NfL.cons (by exact rfl) (by conv => lhs; whnf))) rfl ?_)
            | (refine JE.kBuildSlice ?_; refine JE.buildSlice rfl rfl rfl (by conv => lhs; whnf) (by rfl) (by rfl) (by repeat (first | exact NfL.nil rfl | apply NfL.cons (by exact rfl) (by conv => lhs; whnf))) rfl (fun _ _ => ?_))
            | (refine JE.kRange ?_; refine JE.rangeStr rfl rfl rfl (fun _ _ => ?_))
            | with_reducible refine JE.sN ?_
            | with_reducible refine JE.sX ?_
            | with_reducible refine JE.dN ?_
            | with_reducible refine JE.dX ?_
            | with_reducible refine J.seq ?_
            | with_reducible refine J.region ?_
            | refine J.condT rfl ?_
            | refine J.condF rfl ?_
            | with_reducible refine J.skip ?_
            | with_reducible refine J.exit ?_
            | with_reducible refine J.block ?_
            | with_reducible refine J.ret ?_
            | with_reducible refine JX.thenN ?_
            | with_reducible refine JX.thenR ?_
            | with_reducible refine JX.thenE ?_
            | with_reducible refine JX.blkS ?_
            | (with_reducible refine JX.blkE ?_ ?_; exact rfl)
            | with_reducible refine JX.blkN ?_
            | with_reducible refine JX.blkR ?_
            | (refine JE.kIndexAddr ?_; refine JE.indexAddr rfl rfl rfl (Int.natCast_nonneg _) (by omega) rfl ?_)
            | (refine JE.kLoad ?_; refine JE.loadRowCS rfl rfl (fun w' hS' => hrE w' (hS'.sub (by repeat (first | exact List.Sublist.refl _ | exact List.nil_sublist _ | refine List.Sublist.append_left ?_ _ | exact List.sublist_append_left _ _ | apply List.Sublist.cons_cons | apply List.Sublist.cons | apply List.sublist_append_of_sublist_right)))) hxk rfl rfl (fun h => by first | exact trivial | cases h) rfl ?_))
          all_goals first
            | (exfalso; omega)
            | (refine JX.round fun w'' hS' => ⟨⟨k + 1, hlt, ⟨rfl, rfl, rfl, rfl, rfl, rfl, rfl, rfl, rfl, rfl, rfl, (congrArg (Value.int .i64) (by rw [htk, if_pos ‹x.account = who›] <;> omega)), rfl, rfl, trivial⟩, hS'⟩, ?_⟩
               show E2.length - ((k : Int) + 1).toNat < E2.length - ((k : Int)).toNat
               omega)
            | (refine JX.round fun w'' hS' => ⟨⟨k + 1, hlt, ⟨rfl, rfl, rfl, rfl, rfl, rfl, rfl, rfl, rfl, rfl, rfl, (congrArg (Value.int .i64) (by rw [htk, if_neg ‹¬ x.account = who›, Int.add_zero])), rfl, rfl, trivial⟩, hS'⟩, ?_⟩
               show E2.length - ((k : Int) + 1).toNat < E2.length - ((k : Int)).toNat
               omega)
        · have hk' : k = E2.length := by omega
          rw [hk', List.take_length] at hsb hsl
          rw [hk', List.take_length]
          have hs2b := hsb
          have hs2l := hsl
          clear hsb hsl
          skip
          repeat' (first
            | refine JE.pure rfl rfl (by conv => lhs; whnf) rfl ?_
            | refine JE.skip rfl rfl ?_
            | (refine JE.kBin ?_; first | (refine JE.int rfl rfl rfl rfl rfl rfl ?_; with_reducible refine JE.waysD (fun _ => ?_) (fun _ => ?_)) | refine JE.int rfl rfl rfl rfl (by rw [i64_id (by omega)]) rfl ?_ | refine JE.int rfl rfl rfl rfl rfl rfl ?_ | refine JE.eqBool rfl rfl rfl (by conv => lhs; whnf) rfl ?_ | refine JE.neBool rfl rfl rfl (by conv => lhs; whnf) rfl ?_ | refine JE.eqNilSl rfl rfl rfl rfl ?_ | (refine JE.eqStr rfl rfl rfl rfl ?_; with_reducible refine JE.waysD (fun _ => ?_) (fun _ => ?_)) | (refine JE.neStr rfl rfl rfl rfl ?_; with_reducible refine JE.waysD (fun _ => ?_) (fun _ => ?_)))
            | (refine JE.kField ?_; refine JE.fieldAddr rfl rfl rfl ?_)
            | (refine JE.kNil ?_; refine JE.nilCheck rfl rfl rfl ?_)
            | (refine JE.kLoad ?_; first | refine JE.load1 rfl rfl (by repeat (first | exact In.head | refine In.tail ?_ | refine In.app ?_)) rfl (by conv => lhs; whnf) (fun _ => by first | trivial | exact ⟨.inr ‹_›, trivial⟩ | exact ⟨.inl (by kernel_rfl), trivial⟩ | exact ⟨.inr ‹_›, .inr ‹_›, trivial⟩ | exact ⟨.inr ‹_›, .inl (by kernel_rfl), trivial⟩ | exact ⟨.inl (by kernel_rfl), .inr ‹_›, trivial⟩ | exact ⟨.inl (by kernel_rfl), .inl (by kernel_rfl), trivial⟩) rfl ?_ | refine JE.loadAll rfl rfl (by repeat (first | exact In.head | refine In.tail ?_ | refine In.app ?_)) (by rfl) (fun _ => by first | trivial | exact ⟨.inr ‹_›, trivial⟩ | exact ⟨.inl (by kernel_rfl), trivial⟩ | exact ⟨.inr ‹_›, .inr ‹_›, trivial⟩ | exact ⟨.inr ‹_›, .inl (by kernel_rfl), trivial⟩ | exact ⟨.inl (by kernel_rfl), .inr ‹_›, trivial⟩ | exact ⟨.inl (by kernel_rfl), .inl (by kernel_rfl), trivial⟩) rfl ?_ | refine JE.loadN rfl rfl (by repeat (first | exact In.head | refine In.tail ?_ | refine In.app ?_)) (by conv => lhs; whnf) (by rfl) (fun _ => by first | trivial | exact ⟨.inr ‹_›, trivial⟩ | exact ⟨.inl (by kernel_rfl), trivial⟩ | exact ⟨.inr ‹_›, .inr ‹_›, trivial⟩ | exact ⟨.inr ‹_›, .inl (by kernel_rfl), trivial⟩ | exact ⟨.inl (by kernel_rfl), .inr ‹_›, trivial⟩ | exact ⟨.inl (by kernel_rfl), .inl (by kernel_rfl), trivial⟩) rfl ?_)
            | (refine JE.kBox ?_; refine JE.box rfl (by conv => lhs; whnf) rfl (fun _ _ => ?_))
            | (refine JE.kAlloc ?_; refine JE.alloc rfl (by conv => lhs; whnf) rfl (fun _ _ => ?_))
            | (refine JE.kStore ?_; refine JE.store rfl rfl (by repeat (first | exact Turn.head | apply Turn.tail | apply Turn.app)) SizeT.size (by repeat (first | exact NfL.nil rfl | apply NfL.cons (by exact rfl) (by conv => lhs; whnf))) (by rfl) (by rfl) (by rfl) (by repeat (first | exact NfL.nil rfl | apply NfL.cons (by exact rfl) (by conv => lhs; whnf))) (by first | trivial | exact List.mem_cons_self | exact List.mem_cons_of_mem _ List.mem_cons_self) rfl ?_)
            | (refine JE.kBuiltin ?_; first | refine JE.lenSl rfl rfl rfl ?_ | refine JE.lenStr rfl rfl rfl ?_ | refine JE.max2 rfl rfl rfl rfl rfl ?_ | refine JE.min2 rfl rfl rfl rfl rfl ?_)
            | (refine JE.kBuild ?_; refine JE.build rfl rfl (by repeat (first | exact NfL.nil rfl | apply NfL.cons (by exact rfl) (by conv => lhs; whnf))) rfl ?_)
            | (refine JE.kBuildSlice ?_; refine JE.buildSlice rfl rfl rfl (by conv => lhs; whnf) (by rfl) (by rfl) (by repeat (first | exact NfL.nil rfl | apply NfL.cons (by exact rfl) (by conv => lhs; whnf))) rfl (fun _ _ => ?_))
            | (refine JE.kRange ?_; refine JE.rangeStr rfl rfl rfl (fun _ _ => ?_))
            | with_reducible refine JE.sN ?_
            | with_reducible refine JE.sX ?_
            | with_reducible refine JE.dN ?_
            | with_reducible refine JE.dX ?_
            | with_reducible refine J.seq ?_
            | with_reducible refine J.region ?_
            | refine J.condT rfl ?_
            | refine J.condF rfl ?_
            | with_reducible refine J.skip ?_
            | with_reducible refine J.exit ?_
            | with_reducible refine J.block ?_
            | with_reducible refine J.ret ?_
            | with_reducible refine JX.thenN ?_
            | with_reducible refine JX.thenR ?_
            | with_reducible refine JX.thenE ?_
            | with_reducible refine JX.blkS ?_
            | (with_reducible refine JX.blkE ?_ ?_; exact rfl)
            | with_reducible refine JX.blkN ?_
            | with_reducible refine JX.blkR ?_)
          · exfalso; omega
          clear hS
          refine J.loop (fun f w' => ∃ (k : Nat), k ≤ E3.length ∧ Has f [(1, .string t), (4, .string who), (11, .pointer (some ⟨p, 0, none⟩)), (14, .pointer (some ⟨p2, 0, none⟩)), (15, .slice aE1 E1.length cE1), (16, .int .i64 u1), (18, .slice aE2 E2.length cE2), (19, .int .i64 b), (21, .slice aE3 E3.length cE3), (22, .int .i64 u3), (23, .int .i64 0), (24, .int .i64 (sumFor who E1 + sumFor who E2)), (25, .int .i64 (sumFor who (E3.take k))), (28, .int .i64 k)] ∧ St w [] (e3 ++ (lC ++ (e2 ++ (lB ++ e1)))) w')
            (fun f _ => E3.length - (intOf (f 28)).toNat) (fun w' hS => ⟨0, Nat.zero_le _, ⟨rfl, rfl, rfl, rfl, rfl, rfl, rfl, rfl, rfl, rfl, rfl, rfl, (congrArg (Value.int .i64) (by simp [sumFor, sumE])), rfl, trivial⟩, hS.sub (by repeat (first | exact List.Sublist.refl _ | exact List.nil_sublist _ | refine List.Sublist.append_left ?_ _ | exact List.sublist_append_left _ _ | apply List.Sublist.cons_cons | apply List.Sublist.cons | apply List.sublist_append_of_sublist_right))⟩) ?_
          rintro f w' ⟨k, hk, hf, hS⟩
          obtain ⟨g, rfl⟩ := hf.eq
          clear hf
          refine J.at_ ?_ hS
          have hsb := sb3 k
          have hsl := sl3 k
          by_cases hlt : k < E3.length
          · have hxk : E3[k]? = some E3[k] := List.getElem?_eq_getElem hlt
            have htk := sumFor_take (who := who) hxk
            have hxa := amt3 E3[k] (List.getElem_mem hlt)
            generalize E3[k] = x at hxk htk hxa
            have hslE : ∀ w', St w [] e3 w' → Sl 3 encEntry w' (.slice aE3 E3.length cE3) E3 := fun w' hS => hoE3.sl encE_len hS.own
            obtain ⟨BE, offE, rfl⟩ : ∃ B off, aE3 = some ⟨B, off, none⟩ := by
              obtain ⟨a', c', e1, h2⟩ := hslE _ (hS.sub (by repeat (first | exact List.Sublist.refl _ | exact List.nil_sublist _ | refine List.Sublist.append_left ?_ _ | exact List.sublist_append_left _ _ | apply List.Sublist.cons_cons | apply List.Sublist.cons | apply List.sublist_append_of_sublist_right)))
              obtain ⟨B, off, e2, _⟩ := h2 (by rintro e; rw [e] at hxk; simp at hxk)
              simp only [Value.slice.injEq] at e1
              exact ⟨B, off, e1.1.trans e2⟩
            have hrE := rows_of hslE (by rintro e; rw [e] at hxk; simp at hxk)
            skip
            repeat' (first
              | refine JE.pure rfl rfl (by conv => lhs; whnf) rfl ?_
              | refine JE.skip rfl rfl ?_
              | (refine JE.kBin ?_; first | (refine JE.int rfl rfl rfl rfl rfl rfl ?_; with_reducible refine JE.waysD (fun _ => ?_) (fun _ => ?_)) | refine JE.int rfl rfl rfl rfl (by rw [i64_id (by omega)]) rfl ?_ | refine JE.int rfl rfl rfl rfl rfl rfl ?_ | refine JE.eqBool rfl rfl rfl (by conv => lhs; whnf) rfl ?_ | refine JE.neBool rfl rfl rfl (by conv => lhs; whnf) rfl ?_ | refine JE.eqNilSl rfl rfl rfl rfl ?_ | (refine JE.eqStr rfl rfl rfl rfl ?_; with_reducible refine JE.waysD (fun _ => ?_) (fun _ => ?_)) | (refine JE.neStr rfl rfl rfl rfl ?_; with_reducible refine JE.waysD (fun _ => ?_) (fun _ => ?_)))
              | (refine JE.kField ?_; refine JE.fieldAddr rfl rfl rfl ?_)
              | (refine JE.kNil ?_; refine JE.nilCheck rfl rfl rfl ?_)
              | (refine JE.kLoad ?_; first | refine JE.load1 rfl rfl (by repeat (first | exact In.head | refine In.tail ?_ | refine In.app ?_)) rfl (by conv => lhs; whnf) (fun _ => by first | trivial | exact ⟨.inr ‹_›, trivial⟩ | exact ⟨.inl (by kernel_rfl), trivial⟩ | exact ⟨.inr ‹_›, .inr ‹_›, trivial⟩ | exact ⟨.inr ‹_›, .inl (by kernel_rfl), trivial⟩ | exact ⟨.inl (by kernel_rfl), .inr ‹_›, trivial⟩ | exact ⟨.inl (by kernel_rfl), .inl (by kernel_rfl), trivial⟩) rfl ?_ | refine JE.loadAll rfl rfl (by repeat (first | exact In.head | refine In.tail ?_ | refine In.app ?_)) (by rfl) (fun _ => by first | trivial | exact ⟨.inr ‹_›, trivial⟩ | exact ⟨.inl (by kernel_rfl), trivial⟩ | exact ⟨.inr ‹_›, .inr ‹_›, trivial⟩ | exact ⟨.inr ‹_›, .inl (by kernel_rfl), trivial⟩ | exact ⟨.inl (by kernel_rfl), .inr ‹_›, trivial⟩ | exact ⟨.inl (by kernel_rfl), .inl (by kernel_rfl), trivial⟩) rfl ?_ | refine JE.loadN rfl rfl (by repeat (first | exact In.head | refine In.tail ?_ | refine In.app ?_)) (by conv => lhs; whnf) (by rfl) (fun _ => by first | trivial | exact ⟨.inr ‹_›, trivial⟩ | exact ⟨.inl (by kernel_rfl), trivial⟩ | exact ⟨.inr ‹_›, .inr ‹_›, trivial⟩ | exact ⟨.inr ‹_›, .inl (by kernel_rfl), trivial⟩ | exact ⟨.inl (by kernel_rfl), .inr ‹_›, trivial⟩ | exact ⟨.inl (by kernel_rfl), .inl (by kernel_rfl), trivial⟩) rfl ?_)
              | (refine JE.kBox ?_; refine JE.box rfl (by conv => lhs; whnf) rfl (fun _ _ => ?_))
              | (refine JE.kAlloc ?_; refine JE.alloc rfl (by conv => lhs; whnf) rfl (fun _ _ => ?_))
              | (refine JE.kStore ?_; refine JE.store rfl rfl (by repeat (first | exact Turn.head | apply Turn.tail | apply Turn.app)) SizeT.size (by repeat (first | exact NfL.nil rfl | apply NfL.cons (by exact rfl) (by conv => lhs; whnf))) (by rfl) (by rfl) (by rfl) (by repeat (first | exact NfL.nil rfl | apply NfL.cons (by exact rfl) (by conv => lhs; whnf))) (by first | trivial | exact List.mem_cons_self | exact List.mem_cons_of_mem _ List.mem_cons_self) rfl ?_)
              | (refine JE.kBuiltin ?_; first | refine JE.lenSl rfl rfl rfl ?_ | refine JE.lenStr rfl rfl rfl ?_ | refine JE.max2 rfl rfl rfl rfl rfl ?_ | refine JE.min2 rfl rfl rfl rfl rfl ?_)
              | (refine JE.kBuild ?_; refine JE.build rfl rfl (by repeat (first | exact NfL.nil rfl | apply NfL.cons (by exact rfl) (by conv => lhs; whnf))) rfl ?_)
              | (refine JE.kBuildSlice ?_; refine JE.buildSlice rfl rfl rfl (by conv => lhs; whnf) (by rfl) (by rfl) (by repeat (first | exact NfL.nil rfl | apply NfL.cons (by exact rfl) (by conv => lhs; whnf))) rfl (fun _ _ => ?_))
              | (refine JE.kRange ?_; refine JE.rangeStr rfl rfl rfl (fun _ _ => ?_))
              | with_reducible refine JE.sN ?_
              | with_reducible refine JE.sX ?_
              | with_reducible refine JE.dN ?_
              | with_reducible refine JE.dX ?_
              | with_reducible refine J.seq ?_
              | with_reducible refine J.region ?_
              | refine J.condT rfl ?_
              | refine J.condF rfl ?_
              | with_reducible refine J.skip ?_
              | with_reducible refine J.exit ?_
              | with_reducible refine J.block ?_
              | with_reducible refine J.ret ?_
              | with_reducible refine JX.thenN ?_
              | with_reducible refine JX.thenR ?_
              | with_reducible refine JX.thenE ?_
              | with_reducible refine JX.blkS ?_
              | (with_reducible refine JX.blkE ?_ ?_; exact rfl)
              | with_reducible refine JX.blkN ?_
              | with_reducible refine JX.blkR ?_
              | (refine JE.kIndexAddr ?_; refine JE.indexAddr rfl rfl rfl (Int.natCast_nonneg _) (by omega) rfl ?_)
              | (refine JE.kLoad ?_; refine JE.loadRowCS rfl rfl (fun w' hS' => hrE w' (hS'.sub (by repeat (first | exact List.Sublist.refl _ | exact List.nil_sublist _ | refine List.Sublist.append_left ?_ _ | exact List.sublist_append_left _ _ | apply List.Sublist.cons_cons | apply List.Sublist.cons | apply List.sublist_append_of_sublist_right)))) hxk rfl rfl (fun h => by first | exact trivial | cases h) rfl ?_))
            all_goals first
              | (exfalso; omega)
              | (refine JX.round fun w'' hS' => ⟨⟨k + 1, hlt, ⟨rfl, rfl, rfl, rfl, rfl, rfl, rfl, rfl, rfl, rfl, rfl, rfl, (congrArg (Value.int .i64) (by rw [htk, if_pos ‹x.account = who›] <;> omega)), rfl, trivial⟩, hS'⟩, ?_⟩
                 show E3.length - ((k : Int) + 1).toNat < E3.length - ((k : Int)).toNat
                 omega)
              | (refine JX.round fun w'' hS' => ⟨⟨k + 1, hlt, ⟨rfl, rfl, rfl, rfl, rfl, rfl, rfl, rfl, rfl, rfl, rfl, rfl, (congrArg (Value.int .i64) (by rw [htk, if_neg ‹¬ x.account = who›, Int.add_zero])), rfl, trivial⟩, hS'⟩, ?_⟩
                 show E3.length - ((k : Int) + 1).toNat < E3.length - ((k : Int)).toNat
                 omega)
          · have hk' : k = E3.length := by omega
            rw [hk', List.take_length] at hsb hsl
            rw [hk', List.take_length]
            have hrankB := fun w hw hn => rank_calls (m := mB) hLB t (by omega) w hw hn
            have hrankC := fun w hw hn => rank_calls (m := pay26 m t (a + b)) hLC t (by omega) w hw hn
            rw [hfin] at hrankB
            skip
            repeat' (first
              | refine JE.pure rfl rfl (by conv => lhs; whnf) rfl ?_
              | refine JE.skip rfl rfl ?_
              | (refine JE.kBin ?_; first | (refine JE.int rfl rfl rfl rfl rfl rfl ?_; with_reducible refine JE.waysD (fun _ => ?_) (fun _ => ?_)) | refine JE.int rfl rfl rfl rfl (by rw [i64_id (by omega)]) rfl ?_ | refine JE.int rfl rfl rfl rfl rfl rfl ?_ | refine JE.eqBool rfl rfl rfl (by conv => lhs; whnf) rfl ?_ | refine JE.neBool rfl rfl rfl (by conv => lhs; whnf) rfl ?_ | refine JE.eqNilSl rfl rfl rfl rfl ?_ | (refine JE.eqStr rfl rfl rfl rfl ?_; with_reducible refine JE.waysD (fun _ => ?_) (fun _ => ?_)) | (refine JE.neStr rfl rfl rfl rfl ?_; with_reducible refine JE.waysD (fun _ => ?_) (fun _ => ?_)))
              | (refine JE.kField ?_; refine JE.fieldAddr rfl rfl rfl ?_)
              | (refine JE.kNil ?_; refine JE.nilCheck rfl rfl rfl ?_)
              | (refine JE.kLoad ?_; first | refine JE.load1 rfl rfl (by repeat (first | exact In.head | refine In.tail ?_ | refine In.app ?_)) rfl (by conv => lhs; whnf) (fun _ => by first | trivial | exact ⟨.inr ‹_›, trivial⟩ | exact ⟨.inl (by kernel_rfl), trivial⟩ | exact ⟨.inr ‹_›, .inr ‹_›, trivial⟩ | exact ⟨.inr ‹_›, .inl (by kernel_rfl), trivial⟩ | exact ⟨.inl (by kernel_rfl), .inr ‹_›, trivial⟩ | exact ⟨.inl (by kernel_rfl), .inl (by kernel_rfl), trivial⟩) rfl ?_ | refine JE.loadAll rfl rfl (by repeat (first | exact In.head | refine In.tail ?_ | refine In.app ?_)) (by rfl) (fun _ => by first | trivial | exact ⟨.inr ‹_›, trivial⟩ | exact ⟨.inl (by kernel_rfl), trivial⟩ | exact ⟨.inr ‹_›, .inr ‹_›, trivial⟩ | exact ⟨.inr ‹_›, .inl (by kernel_rfl), trivial⟩ | exact ⟨.inl (by kernel_rfl), .inr ‹_›, trivial⟩ | exact ⟨.inl (by kernel_rfl), .inl (by kernel_rfl), trivial⟩) rfl ?_ | refine JE.loadN rfl rfl (by repeat (first | exact In.head | refine In.tail ?_ | refine In.app ?_)) (by conv => lhs; whnf) (by rfl) (fun _ => by first | trivial | exact ⟨.inr ‹_›, trivial⟩ | exact ⟨.inl (by kernel_rfl), trivial⟩ | exact ⟨.inr ‹_›, .inr ‹_›, trivial⟩ | exact ⟨.inr ‹_›, .inl (by kernel_rfl), trivial⟩ | exact ⟨.inl (by kernel_rfl), .inr ‹_›, trivial⟩ | exact ⟨.inl (by kernel_rfl), .inl (by kernel_rfl), trivial⟩) rfl ?_)
              | (refine JE.kBox ?_; refine JE.box rfl (by conv => lhs; whnf) rfl (fun _ _ => ?_))
              | (refine JE.kAlloc ?_; refine JE.alloc rfl (by conv => lhs; whnf) rfl (fun _ _ => ?_))
              | (refine JE.kStore ?_; refine JE.store rfl rfl (by repeat (first | exact Turn.head | apply Turn.tail | apply Turn.app)) SizeT.size (by repeat (first | exact NfL.nil rfl | apply NfL.cons (by exact rfl) (by conv => lhs; whnf))) (by rfl) (by rfl) (by rfl) (by repeat (first | exact NfL.nil rfl | apply NfL.cons (by exact rfl) (by conv => lhs; whnf))) (by first | trivial | exact List.mem_cons_self | exact List.mem_cons_of_mem _ List.mem_cons_self) rfl ?_)
              | (refine JE.kBuiltin ?_; first | refine JE.lenSl rfl rfl rfl ?_ | refine JE.lenStr rfl rfl rfl ?_ | refine JE.max2 rfl rfl rfl rfl rfl ?_ | refine JE.min2 rfl rfl rfl rfl rfl ?_)
              | (refine JE.kBuild ?_; refine JE.build rfl rfl (by repeat (first | exact NfL.nil rfl | apply NfL.cons (by exact rfl) (by conv => lhs; whnf))) rfl ?_)
              | (refine JE.kBuildSlice ?_; refine JE.buildSlice rfl rfl rfl (by conv => lhs; whnf) (by rfl) (by rfl) (by repeat (first | exact NfL.nil rfl | apply NfL.cons (by exact rfl) (by conv => lhs; whnf))) rfl (fun _ _ => ?_))
              | (refine JE.kRange ?_; refine JE.rangeStr rfl rfl rfl (fun _ _ => ?_))
              | with_reducible refine JE.sN ?_
              | with_reducible refine JE.sX ?_
              | with_reducible refine JE.dN ?_
              | with_reducible refine JE.dX ?_
              | with_reducible refine J.seq ?_
              | with_reducible refine J.region ?_
              | refine J.condT rfl ?_
              | refine J.condF rfl ?_
              | with_reducible refine J.skip ?_
              | with_reducible refine J.exit ?_
              | with_reducible refine J.block ?_
              | with_reducible refine J.ret ?_
              | with_reducible refine JX.thenN ?_
              | with_reducible refine JX.thenR ?_
              | with_reducible refine JX.thenE ?_
              | with_reducible refine JX.blkS ?_
              | (with_reducible refine JX.blkE ?_ ?_; exact rfl)
              | with_reducible refine JX.blkN ?_
              | with_reducible refine JX.blkR ?_
              | (refine JE.isF 13 ?_; first | (refine JE.isArg0 179 ?_; refine JE.call rfl rfl (by repeat (first | exact NfL.nil rfl | apply NfL.cons (by exact rfl) (by conv => lhs; whnf))) rfl ?_; refine CallG.news (G := _) (fun w hS => hrankB w (hS.sub (l' := lB) (by repeat (first | exact List.Sublist.refl _ | exact List.nil_sublist _ | refine List.Sublist.append_left ?_ _ | exact List.sublist_append_left _ _ | apply List.Sublist.cons_cons | apply List.Sublist.cons | apply List.sublist_append_of_sublist_right))).own (hS.sub (l' := lB) (by repeat (first | exact List.Sublist.refl _ | exact List.nil_sublist _ | refine List.Sublist.append_left ?_ _ | exact List.sublist_append_left _ _ | apply List.Sublist.cons_cons | apply List.Sublist.cons | apply List.sublist_append_of_sublist_right))).nodup) ?_; rintro v5 l5 ho5) | (refine JE.isArg0 182 ?_; refine JE.call rfl rfl (by repeat (first | exact NfL.nil rfl | apply NfL.cons (by exact rfl) (by conv => lhs; whnf))) rfl ?_; refine CallG.news (G := _) (fun w hS => hrankC w (hS.sub (l' := lC) (by repeat (first | exact List.Sublist.refl _ | exact List.nil_sublist _ | refine List.Sublist.append_left ?_ _ | exact List.sublist_append_left _ _ | apply List.Sublist.cons_cons | apply List.Sublist.cons | apply List.sublist_append_of_sublist_right))).own (hS.sub (l' := lC) (by repeat (first | exact List.Sublist.refl _ | exact List.nil_sublist _ | refine List.Sublist.append_left ?_ _ | exact List.sublist_append_left _ _ | apply List.Sublist.cons_cons | apply List.Sublist.cons | apply List.sublist_append_of_sublist_right))).nodup) ?_; rintro v6 l6 ho6))
              | (refine JE.isF 15 ?_; refine JE.call rfl rfl (by repeat (first | exact NfL.nil rfl | apply NfL.cons (by exact rfl) (by conv => lhs; whnf))) rfl ?_; refine CallG.ret (fun w hS => sameEq_calls _ _ _ w (ho5.sl encP_len (hS.sub (l' := l5) (by repeat (first | exact List.Sublist.refl _ | exact List.nil_sublist _ | refine List.Sublist.append_left ?_ _ | exact List.sublist_append_left _ _ | apply List.Sublist.cons_cons | apply List.Sublist.cons | apply List.sublist_append_of_sublist_right))).own) (ho6.sl encP_len (hS.sub (l' := l6) (by repeat (first | exact List.Sublist.refl _ | exact List.nil_sublist _ | refine List.Sublist.append_left ?_ _ | exact List.sublist_append_left _ _ | apply List.Sublist.cons_cons | apply List.Sublist.cons | apply List.sublist_append_of_sublist_right))).own) (by omega)) ?_))
            all_goals first
              | (exfalso; omega)
              | exact absurd rfl ‹_› | exact absurd (show (4 : Int) ≠ 0 by decide) ‹_› | exact absurd ‹(0 : Int) = 4› (by decide) | exact absurd ‹(0 : Int) ≠ 0› (by decide)
              | exact fnQ_tmp (.inl rfl) rfl (by conv => lhs; whnf) fun w'' hS' => ⟨rfl, hS'.below⟩
    · skip
      repeat' (first
        | refine JE.pure rfl rfl (by conv => lhs; whnf) rfl ?_
        | refine JE.skip rfl rfl ?_
        | (refine JE.kBin ?_; first | (refine JE.int rfl rfl rfl rfl rfl rfl ?_; with_reducible refine JE.waysD (fun _ => ?_) (fun _ => ?_)) | refine JE.int rfl rfl rfl rfl (by rw [i64_id (by omega)]) rfl ?_ | refine JE.int rfl rfl rfl rfl rfl rfl ?_ | refine JE.eqBool rfl rfl rfl (by conv => lhs; whnf) rfl ?_ | refine JE.neBool rfl rfl rfl (by conv => lhs; whnf) rfl ?_ | refine JE.eqNilSl rfl rfl rfl rfl ?_ | (refine JE.eqStr rfl rfl rfl rfl ?_; with_reducible refine JE.waysD (fun _ => ?_) (fun _ => ?_)) | (refine JE.neStr rfl rfl rfl rfl ?_; with_reducible refine JE.waysD (fun _ => ?_) (fun _ => ?_)))
        | (refine JE.kField ?_; refine JE.fieldAddr rfl rfl rfl ?_)
        | (refine JE.kNil ?_; refine JE.nilCheck rfl rfl rfl ?_)
        | (refine JE.kLoad ?_; first | refine JE.load1 rfl rfl (by repeat (first | exact In.head | refine In.tail ?_ | refine In.app ?_)) rfl (by conv => lhs; whnf) (fun _ => by first | trivial | exact ⟨.inr ‹_›, trivial⟩ | exact ⟨.inl (by kernel_rfl), trivial⟩ | exact ⟨.inr ‹_›, .inr ‹_›, trivial⟩ | exact ⟨.inr ‹_›, .inl (by kernel_rfl), trivial⟩ | exact ⟨.inl (by kernel_rfl), .inr ‹_›, trivial⟩ | exact ⟨.inl (by kernel_rfl), .inl (by kernel_rfl), trivial⟩) rfl ?_ | refine JE.loadAll rfl rfl (by repeat (first | exact In.head | refine In.tail ?_ | refine In.app ?_)) (by rfl) (fun _ => by first | trivial | exact ⟨.inr ‹_›, trivial⟩ | exact ⟨.inl (by kernel_rfl), trivial⟩ | exact ⟨.inr ‹_›, .inr ‹_›, trivial⟩ | exact ⟨.inr ‹_›, .inl (by kernel_rfl), trivial⟩ | exact ⟨.inl (by kernel_rfl), .inr ‹_›, trivial⟩ | exact ⟨.inl (by kernel_rfl), .inl (by kernel_rfl), trivial⟩) rfl ?_ | refine JE.loadN rfl rfl (by repeat (first | exact In.head | refine In.tail ?_ | refine In.app ?_)) (by conv => lhs; whnf) (by rfl) (fun _ => by first | trivial | exact ⟨.inr ‹_›, trivial⟩ | exact ⟨.inl (by kernel_rfl), trivial⟩ | exact ⟨.inr ‹_›, .inr ‹_›, trivial⟩ | exact ⟨.inr ‹_›, .inl (by kernel_rfl), trivial⟩ | exact ⟨.inl (by kernel_rfl), .inr ‹_›, trivial⟩ | exact ⟨.inl (by kernel_rfl), .inl (by kernel_rfl), trivial⟩) rfl ?_)
        | (refine JE.kBox ?_; refine JE.box rfl (by conv => lhs; whnf) rfl (fun _ _ => ?_))
        | (refine JE.kAlloc ?_; refine JE.alloc rfl (by conv => lhs; whnf) rfl (fun _ _ => ?_))
        | (refine JE.kStore ?_; refine JE.store rfl rfl (by repeat (first | exact Turn.head | apply Turn.tail | apply Turn.app)) SizeT.size (by repeat (first | exact NfL.nil rfl | apply NfL.cons (by exact rfl) (by conv => lhs; whnf))) (by rfl) (by rfl) (by rfl) (by repeat (first | exact NfL.nil rfl | apply NfL.cons (by exact rfl) (by conv => lhs; whnf))) (by first | trivial | exact List.mem_cons_self | exact List.mem_cons_of_mem _ List.mem_cons_self) rfl ?_)
        | (refine JE.kBuiltin ?_; first | refine JE.lenSl rfl rfl rfl ?_ | refine JE.lenStr rfl rfl rfl ?_ | refine JE.max2 rfl rfl rfl rfl rfl ?_ | refine JE.min2 rfl rfl rfl rfl rfl ?_)
        | (refine JE.kBuild ?_; refine JE.build rfl rfl (by repeat (first | exact NfL.nil rfl | apply NfL.cons (by exact rfl) (by conv => lhs; whnf))) rfl ?_)
        | (refine JE.kBuildSlice ?_; refine JE.buildSlice rfl rfl rfl (by conv => lhs; whnf) (by rfl) (by rfl) (by repeat (first | exact NfL.nil rfl | apply NfL.cons (by exact rfl) (by conv => lhs; whnf))) rfl (fun _ _ => ?_))
        | (refine JE.kRange ?_; refine JE.rangeStr rfl rfl rfl (fun _ _ => ?_))
        | with_reducible refine JE.sN ?_
        | with_reducible refine JE.sX ?_
        | with_reducible refine JE.dN ?_
        | with_reducible refine JE.dX ?_
        | with_reducible refine J.seq ?_
        | with_reducible refine J.region ?_
        | refine J.condT rfl ?_
        | refine J.condF rfl ?_
        | with_reducible refine J.skip ?_
        | with_reducible refine J.exit ?_
        | with_reducible refine J.block ?_
        | with_reducible refine J.ret ?_
        | with_reducible refine JX.thenN ?_
        | with_reducible refine JX.thenR ?_
        | with_reducible refine JX.thenE ?_
        | with_reducible refine JX.blkS ?_
        | (with_reducible refine JX.blkE ?_ ?_; exact rfl)
        | with_reducible refine JX.blkN ?_
        | with_reducible refine JX.blkR ?_
        | (refine JE.isF 10 ?_; refine JE.call rfl rfl (by repeat (first | exact NfL.nil rfl | apply NfL.cons (by exact rfl) (by conv => lhs; whnf))) rfl ?_; refine CallG.ret (fun w hS => awake_calls w) ?_)
        | (refine JE.isF 11 ?_; refine JE.call rfl rfl (by repeat (first | exact NfL.nil rfl | apply NfL.cons (by exact rfl) (by conv => lhs; whnf))) rfl ?_; refine CallG.ret (fun w hS => hheavy w (hs0.below hS.below)) ?_)
        | (refine JE.isF 12 ?_; refine JE.call rfl rfl (by repeat (first | exact NfL.nil rfl | apply NfL.cons (by exact rfl) (by conv => lhs; whnf))) rfl ?_; refine CallG.news (G := _) (fun w hS => hgc w (hs0.below hS.below)) ?_; rintro _ _ ⟨p, vm, l1, l2, rfl, rfl, hL, hm⟩; refine JE.perm (List.Perm.of_eq (List.append_assoc _ _ _)) ?_)
        | (refine JE.isF 19 ?_; refine JE.call rfl rfl (by repeat (first | exact NfL.nil rfl | apply NfL.cons (by exact rfl) (by conv => lhs; whnf))) rfl ?_; refine CallG.news (G := _) (fun w hS => copy_calls hL w (hS.sub (l' := l1) (by repeat (first | exact List.Sublist.refl _ | exact List.nil_sublist _ | refine List.Sublist.append_left ?_ _ | exact List.sublist_append_left _ _ | apply List.Sublist.cons_cons | apply List.Sublist.cons | apply List.sublist_append_of_sublist_right))).own (hS.sub (l' := l1) (by repeat (first | exact List.Sublist.refl _ | exact List.nil_sublist _ | refine List.Sublist.append_left ?_ _ | exact List.sublist_append_left _ _ | apply List.Sublist.cons_cons | apply List.Sublist.cons | apply List.sublist_append_of_sublist_right))).nodup) ?_; rintro _ l3 ⟨p2, rfl, hL3⟩)
        | (refine JE.isF 14 ?_; first | (refine JE.isArg3 70 ?_; refine JE.call rfl rfl (by repeat (first | exact NfL.nil rfl | apply NfL.cons (by exact rfl) (by conv => lhs; whnf))) rfl ?_; refine CallG.obj (ln := l1) (G := _) (by repeat (first | exact Seg.head | exact Seg.all | exact Seg.one | apply Seg.tail | apply Seg.cons)) (fun w hS => pay_calls hL t a (by omega) w (hS.owns (by repeat (first | exact Seg.head | exact Seg.all | exact Seg.one | apply Seg.tail | apply Seg.cons))) (hS.dist (by repeat (first | exact Seg.head | exact Seg.all | exact Seg.one | apply Seg.tail | apply Seg.cons)))) (fun _ _ _ _ => trivial) ?_; rw [hansA]; rintro _ _ ⟨v1, e1, lA, rfl, rfl, hoE1, hLA⟩; obtain ⟨aE1, cE1, rfl, _⟩ := hoE1.shape; refine JE.perm (List.Perm.of_eq (List.append_assoc _ _ _)) ?_) | (refine JE.isArg3 82 ?_; refine JE.call rfl rfl (by repeat (first | exact NfL.nil rfl | apply NfL.cons (by exact rfl) (by conv => lhs; whnf))) rfl ?_; refine CallG.obj (ln := lA) (G := _) (by repeat (first | exact Seg.head | exact Seg.all | exact Seg.one | apply Seg.tail | apply Seg.cons)) (fun w hS => pay_calls (m := pay26 m t a) hLA t _ (by omega) w (hS.owns (by repeat (first | exact Seg.head | exact Seg.all | exact Seg.one | apply Seg.tail | apply Seg.cons))) (hS.dist (by repeat (first | exact Seg.head | exact Seg.all | exact Seg.one | apply Seg.tail | apply Seg.cons)))) (fun _ _ _ _ => trivial) ?_; rw [hansB]; rintro _ _ ⟨v2, e2, lB, rfl, rfl, hoE2, hLB⟩; obtain ⟨aE2, cE2, rfl, _⟩ := hoE2.shape; refine JE.perm (List.Perm.of_eq (List.append_assoc _ _ _)) ?_) | (refine JE.isArg3 90 ?_; refine JE.call rfl rfl (by repeat (first | exact NfL.nil rfl | apply NfL.cons (by exact rfl) (by conv => lhs; whnf))) rfl ?_; refine CallG.obj (ln := l3) (G := _) (by repeat (first | exact Seg.head | exact Seg.all | exact Seg.one | apply Seg.tail | apply Seg.cons)) (fun w hS => pay_calls hL3 t _ (by omega) w (hS.owns (by repeat (first | exact Seg.head | exact Seg.all | exact Seg.one | apply Seg.tail | apply Seg.cons))) (hS.dist (by repeat (first | exact Seg.head | exact Seg.all | exact Seg.one | apply Seg.tail | apply Seg.cons)))) (fun _ _ _ _ => trivial) ?_; rw [hansC]; rintro _ _ ⟨v3, e3, lC, rfl, rfl, hoE3, hLC⟩; obtain ⟨aE3, cE3, rfl, _⟩ := hoE3.shape; refine JE.perm (List.Perm.of_eq (List.append_assoc _ _ _)) ?_)))
      all_goals first
        | (exfalso; omega)
        | exact absurd rfl ‹_› | exact absurd (show (4 : Int) ≠ 0 by decide) ‹_› | exact absurd ‹(0 : Int) = 4› (by decide) | exact absurd ‹(0 : Int) ≠ 0› (by decide)
        | skip
      refine J.loop (fun f w' => ∃ (k : Nat), k ≤ E1.length ∧ Has f [(1, .string t), (4, .string who), (11, .pointer (some ⟨p, 0, none⟩)), (14, .pointer (some ⟨p2, 0, none⟩)), (15, .slice aE1 E1.length cE1), (16, .int .i64 u1), (18, .slice aE2 E2.length cE2), (19, .int .i64 u2), (21, .slice aE3 E3.length cE3), (22, .int .i64 u3), (23, .int .i64 0), (24, .int .i64 (sumFor who (E1.take k))), (25, .int .i64 (0)), (26, .int .i64 k)] ∧ St w [] (e3 ++ (lC ++ (e2 ++ (lB ++ e1)))) w')
        (fun f _ => E1.length - (intOf (f 26)).toNat) (fun w' hS => ⟨0, Nat.zero_le _, ⟨rfl, rfl, rfl, rfl, rfl, rfl, rfl, rfl, rfl, rfl, rfl, (congrArg (Value.int .i64) (by simp [sumFor, sumE])), rfl, rfl, trivial⟩, hS.sub (by repeat (first | exact List.Sublist.refl _ | exact List.nil_sublist _ | refine List.Sublist.append_left ?_ _ | exact List.sublist_append_left _ _ | apply List.Sublist.cons_cons | apply List.Sublist.cons | apply List.sublist_append_of_sublist_right))⟩) ?_
      rintro f w' ⟨k, hk, hf, hS⟩
      obtain ⟨g, rfl⟩ := hf.eq
      clear hf
      refine J.at_ ?_ hS
      have hsb := sb1 k
      have hsl := sl1 k
      by_cases hlt : k < E1.length
      · have hxk : E1[k]? = some E1[k] := List.getElem?_eq_getElem hlt
        have htk := sumFor_take (who := who) hxk
        have hxa := amt1 E1[k] (List.getElem_mem hlt)
        generalize E1[k] = x at hxk htk hxa
        have hslE : ∀ w', St w [] e1 w' → Sl 3 encEntry w' (.slice aE1 E1.length cE1) E1 := fun w' hS => hoE1.sl encE_len hS.own
        obtain ⟨BE, offE, rfl⟩ : ∃ B off, aE1 = some ⟨B, off, none⟩ := by
          obtain ⟨a', c', e1, h2⟩ := hslE _ (hS.sub (by repeat (first | exact List.Sublist.refl _ | exact List.nil_sublist _ | refine List.Sublist.append_left ?_ _ | exact List.sublist_append_left _ _ | apply List.Sublist.cons_cons | apply List.Sublist.cons | apply List.sublist_append_of_sublist_right)))
          obtain ⟨B, off, e2, _⟩ := h2 (by rintro e; rw [e] at hxk; simp at hxk)
          simp only [Value.slice.injEq] at e1
          exact ⟨B, off, e1.1.trans e2⟩
        have hrE := rows_of hslE (by rintro e; rw [e] at hxk; simp at hxk)
        skip
        repeat' (first
          | refine JE.pure rfl rfl (by conv => lhs; whnf) rfl ?_
          | refine JE.skip rfl rfl ?_
          | (refine JE.kBin ?_; first | (refine JE.int rfl rfl rfl rfl rfl rfl ?_; with_reducible refine JE.waysD (fun _ => ?_) (fun _ => ?_)) | refine JE.int rfl rfl rfl rfl (by rw [i64_id (by omega)]) rfl ?_ | refine JE.int rfl rfl rfl rfl rfl rfl ?_ | refine JE.eqBool rfl rfl rfl (by conv => lhs; whnf) rfl ?_ | refine JE.neBool rfl rfl rfl (by conv => lhs; whnf) rfl ?_ | refine JE.eqNilSl rfl rfl rfl rfl ?_ | (refine JE.eqStr rfl rfl rfl rfl ?_; with_reducible refine JE.waysD (fun _ => ?_) (fun _ => ?_)) | (refine JE.neStr rfl rfl rfl rfl ?_; with_reducible refine JE.waysD (fun _ => ?_) (fun _ => ?_)))
          | (refine JE.kField ?_; refine JE.fieldAddr rfl rfl rfl ?_)
          | (refine JE.kNil ?_; refine JE.nilCheck rfl rfl rfl ?_)
          | (refine JE.kLoad ?_; first | refine JE.load1 rfl rfl (by repeat (first | exact In.head | refine In.tail ?_ | refine In.app ?_)) rfl (by conv => lhs; whnf) (fun _ => by first | trivial | exact ⟨.inr ‹_›, trivial⟩ | exact ⟨.inl (by kernel_rfl), trivial⟩ | exact ⟨.inr ‹_›, .inr ‹_›, trivial⟩ | exact ⟨.inr ‹_›, .inl (by kernel_rfl), trivial⟩ | exact ⟨.inl (by kernel_rfl), .inr ‹_›, trivial⟩ | exact ⟨.inl (by kernel_rfl), .inl (by kernel_rfl), trivial⟩) rfl ?_ | refine JE.loadAll rfl rfl (by repeat (first | exact In.head | refine In.tail ?_ | refine In.app ?_)) (by rfl) (fun _ => by first | trivial | exact ⟨.inr ‹_›, trivial⟩ | exact ⟨.inl (by kernel_rfl), trivial⟩ | exact ⟨.inr ‹_›, .inr ‹_›, trivial⟩ | exact ⟨.inr ‹_›, .inl (by kernel_rfl), trivial⟩ | exact ⟨.inl (by kernel_rfl), .inr ‹_›, trivial⟩ | exact ⟨.inl (by kernel_rfl), .inl (by kernel_rfl), trivial⟩) rfl ?_ | refine JE.loadN rfl rfl (by repeat (first | exact In.head | refine In.tail ?_ | refine In.app ?_)) (by conv => lhs; whnf) (by rfl) (fun _ => by first | trivial | exact ⟨.inr ‹_›, trivial⟩ | exact ⟨.inl (by kernel_rfl), trivial⟩ | exact ⟨.inr ‹_›, .inr ‹_›, trivial⟩ | exact ⟨.inr ‹_›, .inl (by kernel_rfl), trivial⟩ | exact ⟨.inl (by kernel_rfl), .inr ‹_›, trivial⟩ | exact ⟨.inl (by kernel_rfl), .inl (by kernel_rfl), trivial⟩) rfl ?_)
          | (refine JE.kBox ?_; refine JE.box rfl (by conv => lhs; whnf) rfl (fun _ _ => ?_))
          | (refine JE.kAlloc ?_; refine JE.alloc rfl (by conv => lhs; whnf) rfl (fun _ _ => ?_))
          | (refine JE.kStore ?_; refine JE.store rfl rfl (by repeat (first | exact Turn.head | apply Turn.tail | apply Turn.app)) SizeT.size (by repeat (first | exact NfL.nil rfl | apply NfL.cons (by exact rfl) (by conv => lhs; whnf))) (by rfl) (by rfl) (by rfl) (by repeat (first | exact NfL.nil rfl | apply NfL.cons (by exact rfl) (by conv => lhs; whnf))) (by first | trivial | exact List.mem_cons_self | exact List.mem_cons_of_mem _ List.mem_cons_self) rfl ?_)
          | (refine JE.kBuiltin ?_; first | refine JE.lenSl rfl rfl rfl ?_ | refine JE.lenStr rfl rfl rfl ?_ | refine JE.max2 rfl rfl rfl rfl rfl ?_ | refine JE.min2 rfl rfl rfl rfl rfl ?_)
          | (refine JE.kBuild ?_; refine JE.build rfl rfl (by repeat (first | exact NfL.nil rfl | apply NfL.cons (by exact rfl) (by conv => lhs; whnf))) rfl ?_)
          | (refine JE.kBuildSlice ?_; refine JE.buildSlice rfl rfl rfl (by conv => lhs; whnf) (by rfl) (by rfl) (by repeat (first | exact NfL.nil rfl | apply NfL.cons (by exact rfl) (by conv => lhs; whnf))) rfl (fun _ _ => ?_))
          | (refine JE.kRange ?_; refine JE.rangeStr rfl rfl rfl (fun _ _ => ?_))
          | with_reducible refine JE.sN ?_
          | with_reducible refine JE.sX ?_
          | with_reducible refine JE.dN ?_
          | with_reducible refine JE.dX ?_
          | with_reducible refine J.seq ?_
          | with_reducible refine J.region ?_
          | refine J.condT rfl ?_
          | refine J.condF rfl ?_
          | with_reducible refine J.skip ?_
          | with_reducible refine J.exit ?_
          | with_reducible refine J.block ?_
          | with_reducible refine J.ret ?_
          | with_reducible refine JX.thenN ?_
          | with_reducible refine JX.thenR ?_
          | with_reducible refine JX.thenE ?_
          | with_reducible refine JX.blkS ?_
          | (with_reducible refine JX.blkE ?_ ?_; exact rfl)
          | with_reducible refine JX.blkN ?_
          | with_reducible refine JX.blkR ?_
          | (refine JE.kIndexAddr ?_; refine JE.indexAddr rfl rfl rfl (Int.natCast_nonneg _) (by omega) rfl ?_)
          | (refine JE.kLoad ?_; refine JE.loadRowCS rfl rfl (fun w' hS' => hrE w' (hS'.sub (by repeat (first | exact List.Sublist.refl _ | exact List.nil_sublist _ | refine List.Sublist.append_left ?_ _ | exact List.sublist_append_left _ _ | apply List.Sublist.cons_cons | apply List.Sublist.cons | apply List.sublist_append_of_sublist_right)))) hxk rfl rfl (fun h => by first | exact trivial | cases h) rfl ?_))
        all_goals first
          | (exfalso; omega)
          | (refine JX.round fun w'' hS' => ⟨⟨k + 1, hlt, ⟨rfl, rfl, rfl, rfl, rfl, rfl, rfl, rfl, rfl, rfl, rfl, (congrArg (Value.int .i64) (by rw [htk, if_pos ‹x.account = who›] <;> omega)), rfl, rfl, trivial⟩, hS'⟩, ?_⟩
             show E1.length - ((k : Int) + 1).toNat < E1.length - ((k : Int)).toNat
             omega)
          | (refine JX.round fun w'' hS' => ⟨⟨k + 1, hlt, ⟨rfl, rfl, rfl, rfl, rfl, rfl, rfl, rfl, rfl, rfl, rfl, (congrArg (Value.int .i64) (by rw [htk, if_neg ‹¬ x.account = who›, Int.add_zero])), rfl, rfl, trivial⟩, hS'⟩, ?_⟩
             show E1.length - ((k : Int) + 1).toNat < E1.length - ((k : Int)).toNat
             omega)
      · have hk' : k = E1.length := by omega
        rw [hk', List.take_length] at hsb hsl
        rw [hk', List.take_length]
        have hs1b := hsb
        have hs1l := hsl
        clear hsb hsl
        skip
        repeat' (first
          | refine JE.pure rfl rfl (by conv => lhs; whnf) rfl ?_
          | refine JE.skip rfl rfl ?_
          | (refine JE.kBin ?_; first | (refine JE.int rfl rfl rfl rfl rfl rfl ?_; with_reducible refine JE.waysD (fun _ => ?_) (fun _ => ?_)) | refine JE.int rfl rfl rfl rfl (by rw [i64_id (by omega)]) rfl ?_ | refine JE.int rfl rfl rfl rfl rfl rfl ?_ | refine JE.eqBool rfl rfl rfl (by conv => lhs; whnf) rfl ?_ | refine JE.neBool rfl rfl rfl (by conv => lhs; whnf) rfl ?_ | refine JE.eqNilSl rfl rfl rfl rfl ?_ | (refine JE.eqStr rfl rfl rfl rfl ?_; with_reducible refine JE.waysD (fun _ => ?_) (fun _ => ?_)) | (refine JE.neStr rfl rfl rfl rfl ?_; with_reducible refine JE.waysD (fun _ => ?_) (fun _ => ?_)))
          | (refine JE.kField ?_; refine JE.fieldAddr rfl rfl rfl ?_)
          | (refine JE.kNil ?_; refine JE.nilCheck rfl rfl rfl ?_)
          | (refine JE.kLoad ?_; first | refine JE.load1 rfl rfl (by repeat (first | exact In.head | refine In.tail ?_ | refine In.app ?_)) rfl (by conv => lhs; whnf) (fun _ => by first | trivial | exact ⟨.inr ‹_›, trivial⟩ | exact ⟨.inl (by kernel_rfl), trivial⟩ | exact ⟨.inr ‹_›, .inr ‹_›, trivial⟩ | exact ⟨.inr ‹_›, .inl (by kernel_rfl), trivial⟩ | exact ⟨.inl (by kernel_rfl), .inr ‹_›, trivial⟩ | exact ⟨.inl (by kernel_rfl), .inl (by kernel_rfl), trivial⟩) rfl ?_ | refine JE.loadAll rfl rfl (by repeat (first | exact In.head | refine In.tail ?_ | refine In.app ?_)) (by rfl) (fun _ => by first | trivial | exact ⟨.inr ‹_›, trivial⟩ | exact ⟨.inl (by kernel_rfl), trivial⟩ | exact ⟨.inr ‹_›, .inr ‹_›, trivial⟩ | exact ⟨.inr ‹_›, .inl (by kernel_rfl), trivial⟩ | exact ⟨.inl (by kernel_rfl), .inr ‹_›, trivial⟩ | exact ⟨.inl (by kernel_rfl), .inl (by kernel_rfl), trivial⟩) rfl ?_ | refine JE.loadN rfl rfl (by repeat (first | exact In.head | refine In.tail ?_ | refine In.app ?_)) (by conv => lhs; whnf) (by rfl) (fun _ => by first | trivial | exact ⟨.inr ‹_›, trivial⟩ | exact ⟨.inl (by kernel_rfl), trivial⟩ | exact ⟨.inr ‹_›, .inr ‹_›, trivial⟩ | exact ⟨.inr ‹_›, .inl (by kernel_rfl), trivial⟩ | exact ⟨.inl (by kernel_rfl), .inr ‹_›, trivial⟩ | exact ⟨.inl (by kernel_rfl), .inl (by kernel_rfl), trivial⟩) rfl ?_)
          | (refine JE.kBox ?_; refine JE.box rfl (by conv => lhs; whnf) rfl (fun _ _ => ?_))
          | (refine JE.kAlloc ?_; refine JE.alloc rfl (by conv => lhs; whnf) rfl (fun _ _ => ?_))
          | (refine JE.kStore ?_; refine JE.store rfl rfl (by repeat (first | exact Turn.head | apply Turn.tail | apply Turn.app)) SizeT.size (by repeat (first | exact NfL.nil rfl | apply NfL.cons (by exact rfl) (by conv => lhs; whnf))) (by rfl) (by rfl) (by rfl) (by repeat (first | exact NfL.nil rfl | apply NfL.cons (by exact rfl) (by conv => lhs; whnf))) (by first | trivial | exact List.mem_cons_self | exact List.mem_cons_of_mem _ List.mem_cons_self) rfl ?_)
          | (refine JE.kBuiltin ?_; first | refine JE.lenSl rfl rfl rfl ?_ | refine JE.lenStr rfl rfl rfl ?_ | refine JE.max2 rfl rfl rfl rfl rfl ?_ | refine JE.min2 rfl rfl rfl rfl rfl ?_)
          | (refine JE.kBuild ?_; refine JE.build rfl rfl (by repeat (first | exact NfL.nil rfl | apply NfL.cons (by exact rfl) (by conv => lhs; whnf))) rfl ?_)
          | (refine JE.kBuildSlice ?_; refine JE.buildSlice rfl rfl rfl (by conv => lhs; whnf) (by rfl) (by rfl) (by repeat (first | exact NfL.nil rfl | apply NfL.cons (by exact rfl) (by conv => lhs; whnf))) rfl (fun _ _ => ?_))
          | (refine JE.kRange ?_; refine JE.rangeStr rfl rfl rfl (fun _ _ => ?_))
          | with_reducible refine JE.sN ?_
          | with_reducible refine JE.sX ?_
          | with_reducible refine JE.dN ?_
          | with_reducible refine JE.dX ?_
          | with_reducible refine J.seq ?_
          | with_reducible refine J.region ?_
          | refine J.condT rfl ?_
          | refine J.condF rfl ?_
          | with_reducible refine J.skip ?_
          | with_reducible refine J.exit ?_
          | with_reducible refine J.block ?_
          | with_reducible refine J.ret ?_
          | with_reducible refine JX.thenN ?_
          | with_reducible refine JX.thenR ?_
          | with_reducible refine JX.thenE ?_
          | with_reducible refine JX.blkS ?_
          | (with_reducible refine JX.blkE ?_ ?_; exact rfl)
          | with_reducible refine JX.blkN ?_
          | with_reducible refine JX.blkR ?_)
        · exfalso; omega
        clear hS
        refine J.loop (fun f w' => ∃ (k : Nat), k ≤ E2.length ∧ Has f [(1, .string t), (4, .string who), (11, .pointer (some ⟨p, 0, none⟩)), (14, .pointer (some ⟨p2, 0, none⟩)), (15, .slice aE1 E1.length cE1), (16, .int .i64 u1), (18, .slice aE2 E2.length cE2), (19, .int .i64 u2), (21, .slice aE3 E3.length cE3), (22, .int .i64 u3), (23, .int .i64 0), (24, .int .i64 (sumFor who E1 + sumFor who (E2.take k))), (25, .int .i64 (0)), (27, .int .i64 k)] ∧ St w [] (e3 ++ (lC ++ (e2 ++ (lB ++ e1)))) w')
          (fun f _ => E2.length - (intOf (f 27)).toNat) (fun w' hS => ⟨0, Nat.zero_le _, ⟨rfl, rfl, rfl, rfl, rfl, rfl, rfl, rfl, rfl, rfl, rfl, (congrArg (Value.int .i64) (by simp [sumFor, sumE])), rfl, rfl, trivial⟩, hS.sub (by repeat (first | exact List.Sublist.refl _ | exact List.nil_sublist _ | refine List.Sublist.append_left ?_ _ | exact List.sublist_append_left _ _ | apply List.Sublist.cons_cons | apply List.Sublist.cons | apply List.sublist_append_of_sublist_right))⟩) ?_
        rintro f w' ⟨k, hk, hf, hS⟩
        obtain ⟨g, rfl⟩ := hf.eq
        clear hf
        refine J.at_ ?_ hS
        have hsb := sb2 k
        have hsl := sl2 k
        by_cases hlt : k < E2.length
        · have hxk : E2[k]? = some E2[k] := List.getElem?_eq_getElem hlt
          have htk := sumFor_take (who := who) hxk
          have hxa := amt2 E2[k] (List.getElem_mem hlt)
          generalize E2[k] = x at hxk htk hxa
          have hslE : ∀ w', St w [] e2 w' → Sl 3 encEntry w' (.slice aE2 E2.length cE2) E2 := fun w' hS => hoE2.sl encE_len hS.own
          obtain ⟨BE, offE, rfl⟩ : ∃ B off, aE2 = some ⟨B, off, none⟩ := by
            obtain ⟨a', c', e1, h2⟩ := hslE _ (hS.sub (by repeat (first | exact List.Sublist.refl _ | exact List.nil_sublist _ | refine List.Sublist.append_left ?_ _ | exact List.sublist_append_left _ _ | apply List.Sublist.cons_cons | apply List.Sublist.cons | apply List.sublist_append_of_sublist_right)))
            obtain ⟨B, off, e2, _⟩ := h2 (by rintro e; rw [e] at hxk; simp at hxk)
            simp only [Value.slice.injEq] at e1
            exact ⟨B, off, e1.1.trans e2⟩
          have hrE := rows_of hslE (by rintro e; rw [e] at hxk; simp at hxk)
          skip
          repeat' (first
            | refine JE.pure rfl rfl (by conv => lhs; whnf) rfl ?_
            | refine JE.skip rfl rfl ?_
            | (refine JE.kBin ?_; first | (refine JE.int rfl rfl rfl rfl rfl rfl ?_; with_reducible refine JE.waysD (fun _ => ?_) (fun _ => ?_)) | refine JE.int rfl rfl rfl rfl (by rw [i64_id (by omega)]) rfl ?_ | refine JE.int rfl rfl rfl rfl rfl rfl ?_ | refine JE.eqBool rfl rfl rfl (by conv => lhs; whnf) rfl ?_ | refine JE.neBool rfl rfl rfl (by conv => lhs; whnf) rfl ?_ | refine JE.eqNilSl rfl rfl rfl rfl ?_ | (refine JE.eqStr rfl rfl rfl rfl ?_; with_reducible refine JE.waysD (fun _ => ?_) (fun _ => ?_)) | (refine JE.neStr rfl rfl rfl rfl ?_; with_reducible refine JE.waysD (fun _ => ?_) (fun _ => ?_)))
            | (refine JE.kField ?_; refine JE.fieldAddr rfl rfl rfl ?_)
            | (refine JE.kNil ?_; refine JE.nilCheck rfl rfl rfl ?_)
            | (refine JE.kLoad ?_; first | refine JE.load1 rfl rfl (by repeat (first | exact In.head | refine In.tail ?_ | refine In.app ?_)) rfl (by conv => lhs; whnf) (fun _ => by first | trivial | exact ⟨.inr ‹_›, trivial⟩ | exact ⟨.inl (by kernel_rfl), trivial⟩ | exact ⟨.inr ‹_›, .inr ‹_›, trivial⟩ | exact ⟨.inr ‹_›, .inl (by kernel_rfl), trivial⟩ | exact ⟨.inl (by kernel_rfl), .inr ‹_›, trivial⟩ | exact ⟨.inl (by kernel_rfl), .inl (by kernel_rfl), trivial⟩) rfl ?_ | refine JE.loadAll rfl rfl (by repeat (first | exact In.head | refine In.tail ?_ | refine In.app ?_)) (by rfl) (fun _ => by first | trivial | exact ⟨.inr ‹_›, trivial⟩ | exact ⟨.inl (by kernel_rfl), trivial⟩ | exact ⟨.inr ‹_›, .inr ‹_›, trivial⟩ | exact ⟨.inr ‹_›, .inl (by kernel_rfl), trivial⟩ | exact ⟨.inl (by kernel_rfl), .inr ‹_›, trivial⟩ | exact ⟨.inl (by kernel_rfl), .inl (by kernel_rfl), trivial⟩) rfl ?_ | refine JE.loadN rfl rfl (by repeat (first | exact In.head | refine In.tail ?_ | refine In.app ?_)) (by conv => lhs; whnf) (by rfl) (fun _ => by first | trivial | exact ⟨.inr ‹_›, trivial⟩ | exact ⟨.inl (by kernel_rfl), trivial⟩ | exact ⟨.inr ‹_›, .inr ‹_›, trivial⟩ | exact ⟨.inr ‹_›, .inl (by kernel_rfl), trivial⟩ | exact ⟨.inl (by kernel_rfl), .inr ‹_›, trivial⟩ | exact ⟨.inl (by kernel_rfl), .inl (by kernel_rfl), trivial⟩) rfl ?_)
            | (refine JE.kBox ?_; refine JE.box rfl (by conv => lhs; whnf) rfl (fun _ _ => ?_))
            | (refine JE.kAlloc ?_; refine JE.alloc rfl (by conv => lhs; whnf) rfl (fun _ _ => ?_))
            | (refine JE.kStore ?_; refine JE.store rfl rfl (by repeat (first | exact Turn.head | apply Turn.tail | apply Turn.app)) SizeT.size (by repeat (first | exact NfL.nil rfl | apply NfL.cons (by exact rfl) (by conv => lhs; whnf))) (by rfl) (by rfl) (by rfl) (by repeat (first | exact NfL.nil rfl | apply NfL.cons (by exact rfl) (by conv => lhs; whnf))) (by first | trivial | exact List.mem_cons_self | exact List.mem_cons_of_mem _ List.mem_cons_self) rfl ?_)
            | (refine JE.kBuiltin ?_; first | refine JE.lenSl rfl rfl rfl ?_ | refine JE.lenStr rfl rfl rfl ?_ | refine JE.max2 rfl rfl rfl rfl rfl ?_ | refine JE.min2 rfl rfl rfl rfl rfl ?_)
            | (refine JE.kBuild ?_; refine JE.build rfl rfl (by repeat (first | exact NfL.nil rfl | apply NfL.cons (by exact rfl) (by conv => lhs; whnf))) rfl ?_)
            | (refine JE.kBuildSlice ?_; refine JE.buildSlice rfl rfl rfl (by conv => lhs; whnf) (by rfl) (by rfl) (by repeat (first | exact NfL.nil rfl | apply NfL.cons (by exact rfl) (by conv => lhs; whnf))) rfl (fun _ _ => ?_))
            | (refine JE.kRange ?_; refine JE.rangeStr rfl rfl rfl (fun _ _ => ?_))
            | with_reducible refine JE.sN ?_
            | with_reducible refine JE.sX ?_
            | with_reducible refine JE.dN ?_
            | with_reducible refine JE.dX ?_
            | with_reducible refine J.seq ?_
            | with_reducible refine J.region ?_
            | refine J.condT rfl ?_
            | refine J.condF rfl ?_
            | with_reducible refine J.skip ?_
            | with_reducible refine J.exit ?_
            | with_reducible refine J.block ?_
            | with_reducible refine J.ret ?_
            | with_reducible refine JX.thenN ?_
            | with_reducible refine JX.thenR ?_
            | with_reducible refine JX.thenE ?_
            | with_reducible refine JX.blkS ?_
            | (with_reducible refine JX.blkE ?_ ?_; exact rfl)
            | with_reducible refine JX.blkN ?_
            | with_reducible refine JX.blkR ?_
            | (refine JE.kIndexAddr ?_; refine JE.indexAddr rfl rfl rfl (Int.natCast_nonneg _) (by omega) rfl ?_)
            | (refine JE.kLoad ?_; refine JE.loadRowCS rfl rfl (fun w' hS' => hrE w' (hS'.sub (by repeat (first | exact List.Sublist.refl _ | exact List.nil_sublist _ | refine List.Sublist.append_left ?_ _ | exact List.sublist_append_left _ _ | apply List.Sublist.cons_cons | apply List.Sublist.cons | apply List.sublist_append_of_sublist_right)))) hxk rfl rfl (fun h => by first | exact trivial | cases h) rfl ?_))
          all_goals first
            | (exfalso; omega)
            | (refine JX.round fun w'' hS' => ⟨⟨k + 1, hlt, ⟨rfl, rfl, rfl, rfl, rfl, rfl, rfl, rfl, rfl, rfl, rfl, (congrArg (Value.int .i64) (by rw [htk, if_pos ‹x.account = who›] <;> omega)), rfl, rfl, trivial⟩, hS'⟩, ?_⟩
               show E2.length - ((k : Int) + 1).toNat < E2.length - ((k : Int)).toNat
               omega)
            | (refine JX.round fun w'' hS' => ⟨⟨k + 1, hlt, ⟨rfl, rfl, rfl, rfl, rfl, rfl, rfl, rfl, rfl, rfl, rfl, (congrArg (Value.int .i64) (by rw [htk, if_neg ‹¬ x.account = who›, Int.add_zero])), rfl, rfl, trivial⟩, hS'⟩, ?_⟩
               show E2.length - ((k : Int) + 1).toNat < E2.length - ((k : Int)).toNat
               omega)
        · have hk' : k = E2.length := by omega
          rw [hk', List.take_length] at hsb hsl
          rw [hk', List.take_length]
          have hs2b := hsb
          have hs2l := hsl
          clear hsb hsl
          skip
          repeat' (first
            | refine JE.pure rfl rfl (by conv => lhs; whnf) rfl ?_
            | refine JE.skip rfl rfl ?_
            | (refine JE.kBin ?_; first | (refine JE.int rfl rfl rfl rfl rfl rfl ?_; with_reducible refine JE.waysD (fun _ => ?_) (fun _ => ?_)) | refine JE.int rfl rfl rfl rfl (by rw [i64_id (by omega)]) rfl ?_ | refine JE.int rfl rfl rfl rfl rfl rfl ?_ | refine JE.eqBool rfl rfl rfl (by conv => lhs; whnf) rfl ?_ | refine JE.neBool rfl rfl rfl (by conv => lhs; whnf) rfl ?_ | refine JE.eqNilSl rfl rfl rfl rfl ?_ | (refine JE.eqStr rfl rfl rfl rfl ?_; with_reducible refine JE.waysD (fun _ => ?_) (fun _ => ?_)) | (refine JE.neStr rfl rfl rfl rfl ?_; with_reducible refine JE.waysD (fun _ => ?_) (fun _ => ?_)))
            | (refine JE.kField ?_; refine JE.fieldAddr rfl rfl rfl ?_)
            | (refine JE.kNil ?_; refine JE.nilCheck rfl rfl rfl ?_)
            | (refine JE.kLoad ?_; first | refine JE.load1 rfl rfl (by repeat (first | exact In.head | refine In.tail ?_ | refine In.app ?_)) rfl (by conv => lhs; whnf) (fun _ => by first | trivial | exact ⟨.inr ‹_›, trivial⟩ | exact ⟨.inl (by kernel_rfl), trivial⟩ | exact ⟨.inr ‹_›, .inr ‹_›, trivial⟩ | exact ⟨.inr ‹_›, .inl (by kernel_rfl), trivial⟩ | exact ⟨.inl (by kernel_rfl), .inr ‹_›, trivial⟩ | exact ⟨.inl (by kernel_rfl), .inl (by kernel_rfl), trivial⟩) rfl ?_ | refine JE.loadAll rfl rfl (by repeat (first | exact In.head | refine In.tail ?_ | refine In.app ?_)) (by rfl) (fun _ => by first | trivial | exact ⟨.inr ‹_›, trivial⟩ | exact ⟨.inl (by kernel_rfl), trivial⟩ | exact ⟨.inr ‹_›, .inr ‹_›, trivial⟩ | exact ⟨.inr ‹_›, .inl (by kernel_rfl), trivial⟩ | exact ⟨.inl (by kernel_rfl), .inr ‹_›, trivial⟩ | exact ⟨.inl (by kernel_rfl), .inl (by kernel_rfl), trivial⟩) rfl ?_ | refine JE.loadN rfl rfl (by repeat (first | exact In.head | refine In.tail ?_ | refine In.app ?_)) (by conv => lhs; whnf) (by rfl) (fun _ => by first | trivial | exact ⟨.inr ‹_›, trivial⟩ | exact ⟨.inl (by kernel_rfl), trivial⟩ | exact ⟨.inr ‹_›, .inr ‹_›, trivial⟩ | exact ⟨.inr ‹_›, .inl (by kernel_rfl), trivial⟩ | exact ⟨.inl (by kernel_rfl), .inr ‹_›, trivial⟩ | exact ⟨.inl (by kernel_rfl), .inl (by kernel_rfl), trivial⟩) rfl ?_)
            | (refine JE.kBox ?_; refine JE.box rfl (by conv => lhs; whnf) rfl (fun _ _ => ?_))
            | (refine JE.kAlloc ?_; refine JE.alloc rfl (by conv => lhs; whnf) rfl (fun _ _ => ?_))
            | (refine JE.kStore ?_; refine JE.store rfl rfl (by repeat (first | exact Turn.head | apply Turn.tail | apply Turn.app)) SizeT.size (by repeat (first | exact NfL.nil rfl | apply NfL.cons (by exact rfl) (by conv => lhs; whnf))) (by rfl) (by rfl) (by rfl) (by repeat (first | exact NfL.nil rfl | apply NfL.cons (by exact rfl) (by conv => lhs; whnf))) (by first | trivial | exact List.mem_cons_self | exact List.mem_cons_of_mem _ List.mem_cons_self) rfl ?_)
            | (refine JE.kBuiltin ?_; first | refine JE.lenSl rfl rfl rfl ?_ | refine JE.lenStr rfl rfl rfl ?_ | refine JE.max2 rfl rfl rfl rfl rfl ?_ | refine JE.min2 rfl rfl rfl rfl rfl ?_)
            | (refine JE.kBuild ?_; refine JE.build rfl rfl (by repeat (first | exact NfL.nil rfl | apply NfL.cons (by exact rfl) (by conv => lhs; whnf))) rfl ?_)
            | (refine JE.kBuildSlice ?_; refine JE.buildSlice rfl rfl rfl (by conv => lhs; whnf) (by rfl) (by rfl) (by repeat (first | exact NfL.nil rfl | apply NfL.cons (by exact rfl) (by conv => lhs; whnf))) rfl (fun _ _ => ?_))
            | (refine JE.kRange ?_; refine JE.rangeStr rfl rfl rfl (fun _ _ => ?_))
            | with_reducible refine JE.sN ?_
            | with_reducible refine JE.sX ?_
            | with_reducible refine JE.dN ?_
            | with_reducible refine JE.dX ?_
            | with_reducible refine J.seq ?_
            | with_reducible refine J.region ?_
            | refine J.condT rfl ?_
            | refine J.condF rfl ?_
            | with_reducible refine J.skip ?_
            | with_reducible refine J.exit ?_
            | with_reducible refine J.block ?_
            | with_reducible refine J.ret ?_
            | with_reducible refine JX.thenN ?_
            | with_reducible refine JX.thenR ?_
            | with_reducible refine JX.thenE ?_
            | with_reducible refine JX.blkS ?_
            | (with_reducible refine JX.blkE ?_ ?_; exact rfl)
            | with_reducible refine JX.blkN ?_
            | with_reducible refine JX.blkR ?_)
          · exfalso; omega
          clear hS
          refine J.loop (fun f w' => ∃ (k : Nat), k ≤ E3.length ∧ Has f [(1, .string t), (4, .string who), (11, .pointer (some ⟨p, 0, none⟩)), (14, .pointer (some ⟨p2, 0, none⟩)), (15, .slice aE1 E1.length cE1), (16, .int .i64 u1), (18, .slice aE2 E2.length cE2), (19, .int .i64 u2), (21, .slice aE3 E3.length cE3), (22, .int .i64 u3), (23, .int .i64 0), (24, .int .i64 (sumFor who E1 + sumFor who E2)), (25, .int .i64 (sumFor who (E3.take k))), (28, .int .i64 k)] ∧ St w [] (e3 ++ (lC ++ (e2 ++ (lB ++ e1)))) w')
            (fun f _ => E3.length - (intOf (f 28)).toNat) (fun w' hS => ⟨0, Nat.zero_le _, ⟨rfl, rfl, rfl, rfl, rfl, rfl, rfl, rfl, rfl, rfl, rfl, rfl, (congrArg (Value.int .i64) (by simp [sumFor, sumE])), rfl, trivial⟩, hS.sub (by repeat (first | exact List.Sublist.refl _ | exact List.nil_sublist _ | refine List.Sublist.append_left ?_ _ | exact List.sublist_append_left _ _ | apply List.Sublist.cons_cons | apply List.Sublist.cons | apply List.sublist_append_of_sublist_right))⟩) ?_
          rintro f w' ⟨k, hk, hf, hS⟩
          obtain ⟨g, rfl⟩ := hf.eq
          clear hf
          refine J.at_ ?_ hS
          have hsb := sb3 k
          have hsl := sl3 k
          by_cases hlt : k < E3.length
          · have hxk : E3[k]? = some E3[k] := List.getElem?_eq_getElem hlt
            have htk := sumFor_take (who := who) hxk
            have hxa := amt3 E3[k] (List.getElem_mem hlt)
            generalize E3[k] = x at hxk htk hxa
            have hslE : ∀ w', St w [] e3 w' → Sl 3 encEntry w' (.slice aE3 E3.length cE3) E3 := fun w' hS => hoE3.sl encE_len hS.own
            obtain ⟨BE, offE, rfl⟩ : ∃ B off, aE3 = some ⟨B, off, none⟩ := by
              obtain ⟨a', c', e1, h2⟩ := hslE _ (hS.sub (by repeat (first | exact List.Sublist.refl _ | exact List.nil_sublist _ | refine List.Sublist.append_left ?_ _ | exact List.sublist_append_left _ _ | apply List.Sublist.cons_cons | apply List.Sublist.cons | apply List.sublist_append_of_sublist_right)))
              obtain ⟨B, off, e2, _⟩ := h2 (by rintro e; rw [e] at hxk; simp at hxk)
              simp only [Value.slice.injEq] at e1
              exact ⟨B, off, e1.1.trans e2⟩
            have hrE := rows_of hslE (by rintro e; rw [e] at hxk; simp at hxk)
            skip
            repeat' (first
              | refine JE.pure rfl rfl (by conv => lhs; whnf) rfl ?_
              | refine JE.skip rfl rfl ?_
              | (refine JE.kBin ?_; first | (refine JE.int rfl rfl rfl rfl rfl rfl ?_; with_reducible refine JE.waysD (fun _ => ?_) (fun _ => ?_)) | refine JE.int rfl rfl rfl rfl (by rw [i64_id (by omega)]) rfl ?_ | refine JE.int rfl rfl rfl rfl rfl rfl ?_ | refine JE.eqBool rfl rfl rfl (by conv => lhs; whnf) rfl ?_ | refine JE.neBool rfl rfl rfl (by conv => lhs; whnf) rfl ?_ | refine JE.eqNilSl rfl rfl rfl rfl ?_ | (refine JE.eqStr rfl rfl rfl rfl ?_; with_reducible refine JE.waysD (fun _ => ?_) (fun _ => ?_)) | (refine JE.neStr rfl rfl rfl rfl ?_; with_reducible refine JE.waysD (fun _ => ?_) (fun _ => ?_)))
              | (refine JE.kField ?_; refine JE.fieldAddr rfl rfl rfl ?_)
              | (refine JE.kNil ?_; refine JE.nilCheck rfl rfl rfl ?_)
              | (refine JE.kLoad ?_; first | refine JE.load1 rfl rfl (by repeat (first | exact In.head | refine In.tail ?_ | refine In.app ?_)) rfl (by conv => lhs; whnf) (fun _ => by first | trivial | exact ⟨.inr ‹_›, trivial⟩ | exact ⟨.inl (by kernel_rfl), trivial⟩ | exact ⟨.inr ‹_›, .inr ‹_›, trivial⟩ | exact ⟨.inr ‹_›, .inl (by kernel_rfl), trivial⟩ | exact ⟨.inl (by kernel_rfl), .inr ‹_›, trivial⟩ | exact ⟨.inl (by kernel_rfl), .inl (by kernel_rfl), trivial⟩) rfl ?_ | refine JE.loadAll rfl rfl (by repeat (first | exact In.head | refine In.tail ?_ | refine In.app ?_)) (by rfl) (fun _ => by first | trivial | exact ⟨.inr ‹_›, trivial⟩ | exact ⟨.inl (by kernel_rfl), trivial⟩ | exact ⟨.inr ‹_›, .inr ‹_›, trivial⟩ | exact ⟨.inr ‹_›, .inl (by kernel_rfl), trivial⟩ | exact ⟨.inl (by kernel_rfl), .inr ‹_›, trivial⟩ | exact ⟨.inl (by kernel_rfl), .inl (by kernel_rfl), trivial⟩) rfl ?_ | refine JE.loadN rfl rfl (by repeat (first | exact In.head | refine In.tail ?_ | refine In.app ?_)) (by conv => lhs; whnf) (by rfl) (fun _ => by first | trivial | exact ⟨.inr ‹_›, trivial⟩ | exact ⟨.inl (by kernel_rfl), trivial⟩ | exact ⟨.inr ‹_›, .inr ‹_›, trivial⟩ | exact ⟨.inr ‹_›, .inl (by kernel_rfl), trivial⟩ | exact ⟨.inl (by kernel_rfl), .inr ‹_›, trivial⟩ | exact ⟨.inl (by kernel_rfl), .inl (by kernel_rfl), trivial⟩) rfl ?_)
              | (refine JE.kBox ?_; refine JE.box rfl (by conv => lhs; whnf) rfl (fun _ _ => ?_))
              | (refine JE.kAlloc ?_; refine JE.alloc rfl (by conv => lhs; whnf) rfl (fun _ _ => ?_))
              | (refine JE.kStore ?_; refine JE.store rfl rfl (by repeat (first | exact Turn.head | apply Turn.tail | apply Turn.app)) SizeT.size (by repeat (first | exact NfL.nil rfl | apply NfL.cons (by exact rfl) (by conv => lhs; whnf))) (by rfl) (by rfl) (by rfl) (by repeat (first | exact NfL.nil rfl | apply NfL.cons (by exact rfl) (by conv => lhs; whnf))) (by first | trivial | exact List.mem_cons_self | exact List.mem_cons_of_mem _ List.mem_cons_self) rfl ?_)
              | (refine JE.kBuiltin ?_; first | refine JE.lenSl rfl rfl rfl ?_ | refine JE.lenStr rfl rfl rfl ?_ | refine JE.max2 rfl rfl rfl rfl rfl ?_ | refine JE.min2 rfl rfl rfl rfl rfl ?_)
              | (refine JE.kBuild ?_; refine JE.build rfl rfl (by repeat (first | exact NfL.nil rfl | apply NfL.cons (by exact rfl) (by conv => lhs; whnf))) rfl ?_)
              | (refine JE.kBuildSlice ?_; refine JE.buildSlice rfl rfl rfl (by conv => lhs; whnf) (by rfl) (by rfl) (by repeat (first | exact NfL.nil rfl | apply NfL.cons (by exact rfl) (by conv => lhs; whnf))) rfl (fun _ _ => ?_))
              | (refine JE.kRange ?_; refine JE.rangeStr rfl rfl rfl (fun _ _ => ?_))
              | with_reducible refine JE.sN ?_
              | with_reducible refine JE.sX ?_
              | with_reducible refine JE.dN ?_
              | with_reducible refine JE.dX ?_
              | with_reducible refine J.seq ?_
              | with_reducible refine J.region ?_
              | refine J.condT rfl ?_
              | refine J.condF rfl ?_
              | with_reducible refine J.skip ?_
              | with_reducible refine J.exit ?_
              | with_reducible refine J.block ?_
              | with_reducible refine J.ret ?_
              | with_reducible refine JX.thenN ?_
              | with_reducible refine JX.thenR ?_
              | with_reducible refine JX.thenE ?_
              | with_reducible refine JX.blkS ?_
              | (with_reducible refine JX.blkE ?_ ?_; exact rfl)
              | with_reducible refine JX.blkN ?_
              | with_reducible refine JX.blkR ?_
              | (refine JE.kIndexAddr ?_; refine JE.indexAddr rfl rfl rfl (Int.natCast_nonneg _) (by omega) rfl ?_)
              | (refine JE.kLoad ?_; refine JE.loadRowCS rfl rfl (fun w' hS' => hrE w' (hS'.sub (by repeat (first | exact List.Sublist.refl _ | exact List.nil_sublist _ | refine List.Sublist.append_left ?_ _ | exact List.sublist_append_left _ _ | apply List.Sublist.cons_cons | apply List.Sublist.cons | apply List.sublist_append_of_sublist_right)))) hxk rfl rfl (fun h => by first | exact trivial | cases h) rfl ?_))
            all_goals first
              | (exfalso; omega)
              | (refine JX.round fun w'' hS' => ⟨⟨k + 1, hlt, ⟨rfl, rfl, rfl, rfl, rfl, rfl, rfl, rfl, rfl, rfl, rfl, rfl, (congrArg (Value.int .i64) (by rw [htk, if_pos ‹x.account = who›] <;> omega)), rfl, trivial⟩, hS'⟩, ?_⟩
                 show E3.length - ((k : Int) + 1).toNat < E3.length - ((k : Int)).toNat
                 omega)
              | (refine JX.round fun w'' hS' => ⟨⟨k + 1, hlt, ⟨rfl, rfl, rfl, rfl, rfl, rfl, rfl, rfl, rfl, rfl, rfl, rfl, (congrArg (Value.int .i64) (by rw [htk, if_neg ‹¬ x.account = who›, Int.add_zero])), rfl, trivial⟩, hS'⟩, ?_⟩
                 show E3.length - ((k : Int) + 1).toNat < E3.length - ((k : Int)).toNat
                 omega)
          · have hk' : k = E3.length := by omega
            rw [hk', List.take_length] at hsb hsl
            rw [hk', List.take_length]
            have hrankB := fun w hw hn => rank_calls (m := mB) hLB t (by omega) w hw hn
            have hrankC := fun w hw hn => rank_calls (m := pay26 m t (a + b)) hLC t (by omega) w hw hn
            rw [hfin] at hrankB
            skip
            repeat' (first
              | refine JE.pure rfl rfl (by conv => lhs; whnf) rfl ?_
              | refine JE.skip rfl rfl ?_
              | (refine JE.kBin ?_; first | (refine JE.int rfl rfl rfl rfl rfl rfl ?_; with_reducible refine JE.waysD (fun _ => ?_) (fun _ => ?_)) | refine JE.int rfl rfl rfl rfl (by rw [i64_id (by omega)]) rfl ?_ | refine JE.int rfl rfl rfl rfl rfl rfl ?_ | refine JE.eqBool rfl rfl rfl (by conv => lhs; whnf) rfl ?_ | refine JE.neBool rfl rfl rfl (by conv => lhs; whnf) rfl ?_ | refine JE.eqNilSl rfl rfl rfl rfl ?_ | (refine JE.eqStr rfl rfl rfl rfl ?_; with_reducible refine JE.waysD (fun _ => ?_) (fun _ => ?_)) | (refine JE.neStr rfl rfl rfl rfl ?_; with_reducible refine JE.waysD (fun _ => ?_) (fun _ => ?_)))
              | (refine JE.kField ?_; refine JE.fieldAddr rfl rfl rfl ?_)
              | (refine JE.kNil ?_; refine JE.nilCheck rfl rfl rfl ?_)
              | (refine JE.kLoad ?_; first | refine JE.load1 rfl rfl (by repeat (first | exact In.head | refine In.tail ?_ | refine In.app ?_)) rfl (by conv => lhs; whnf) (fun _ => by first | trivial | exact ⟨.inr ‹_›, trivial⟩ | exact ⟨.inl (by kernel_rfl), trivial⟩ | exact ⟨.inr ‹_›, .inr ‹_›, trivial⟩ | exact ⟨.inr ‹_›, .inl (by kernel_rfl), trivial⟩ | exact ⟨.inl (by kernel_rfl), .inr ‹_›, trivial⟩ | exact ⟨.inl (by kernel_rfl), .inl (by kernel_rfl), trivial⟩) rfl ?_ | refine JE.loadAll rfl rfl (by repeat (first | exact In.head | refine In.tail ?_ | refine In.app ?_)) (by rfl) (fun _ => by first | trivial | exact ⟨.inr ‹_›, trivial⟩ | exact ⟨.inl (by kernel_rfl), trivial⟩ | exact ⟨.inr ‹_›, .inr ‹_›, trivial⟩ | exact ⟨.inr ‹_›, .inl (by kernel_rfl), trivial⟩ | exact ⟨.inl (by kernel_rfl), .inr ‹_›, trivial⟩ | exact ⟨.inl (by kernel_rfl), .inl (by kernel_rfl), trivial⟩) rfl ?_ | refine JE.loadN rfl rfl (by repeat (first | exact In.head | refine In.tail ?_ | refine In.app ?_)) (by conv => lhs; whnf) (by rfl) (fun _ => by first | trivial | exact ⟨.inr ‹_›, trivial⟩ | exact ⟨.inl (by kernel_rfl), trivial⟩ | exact ⟨.inr ‹_›, .inr ‹_›, trivial⟩ | exact ⟨.inr ‹_›, .inl (by kernel_rfl), trivial⟩ | exact ⟨.inl (by kernel_rfl), .inr ‹_›, trivial⟩ | exact ⟨.inl (by kernel_rfl), .inl (by kernel_rfl), trivial⟩) rfl ?_)
              | (refine JE.kBox ?_; refine JE.box rfl (by conv => lhs; whnf) rfl (fun _ _ => ?_))
              | (refine JE.kAlloc ?_; refine JE.alloc rfl (by conv => lhs; whnf) rfl (fun _ _ => ?_))
              | (refine JE.kStore ?_; refine JE.store rfl rfl (by repeat (first | exact Turn.head | apply Turn.tail | apply Turn.app)) SizeT.size (by repeat (first | exact NfL.nil rfl | apply NfL.cons (by exact rfl) (by conv => lhs; whnf))) (by rfl) (by rfl) (by rfl) (by repeat (first | exact NfL.nil rfl | apply NfL.cons (by exact rfl) (by conv => lhs; whnf))) (by first | trivial | exact List.mem_cons_self | exact List.mem_cons_of_mem _ List.mem_cons_self) rfl ?_)
              | (refine JE.kBuiltin ?_; first | refine JE.lenSl rfl rfl rfl ?_ | refine JE.lenStr rfl rfl rfl ?_ | refine JE.max2 rfl rfl rfl rfl rfl ?_ | refine JE.min2 rfl rfl rfl rfl rfl ?_)
              | (refine JE.kBuild ?_; refine JE.build rfl rfl (by repeat (first | exact NfL.nil rfl | apply NfL.cons (by exact rfl) (by conv => lhs; whnf))) rfl ?_)
              | (refine JE.kBuildSlice ?_; refine JE.buildSlice rfl rfl rfl (by conv => lhs; whnf) (by rfl) (by rfl) (by repeat (first | exact NfL.nil rfl | apply NfL.cons (by exact rfl) (by conv => lhs; whnf))) rfl (fun _ _ => ?_))
              | (refine JE.kRange ?_; refine JE.rangeStr rfl rfl rfl (fun _ _ => ?_))
              | with_reducible refine JE.sN ?_
              | with_reducible refine JE.sX ?_
              | with_reducible refine JE.dN ?_
              | with_reducible refine JE.dX ?_
              | with_reducible refine J.seq ?_
              | with_reducible refine J.region ?_
              | refine J.condT rfl ?_
              | refine J.condF rfl ?_
              | with_reducible refine J.skip ?_
              | with_reducible refine J.exit ?_
              | with_reducible refine J.block ?_
              | with_reducible refine J.ret ?_
              | with_reducible refine JX.thenN ?_
              | with_reducible refine JX.thenR ?_
              | with_reducible refine JX.thenE ?_
              | with_reducible refine JX.blkS ?_
              | (with_reducible refine JX.blkE ?_ ?_; exact rfl)
              | with_reducible refine JX.blkN ?_
              | with_reducible refine JX.blkR ?_
              | (refine JE.isF 13 ?_; first | (refine JE.isArg0 179 ?_; refine JE.call rfl rfl (by repeat (first | exact NfL.nil rfl | apply NfL.cons (by exact rfl) (by conv => lhs; whnf))) rfl ?_; refine CallG.news (G := _) (fun w hS => hrankB w (hS.sub (l' := lB) (by repeat (first | exact List.Sublist.refl _ | exact List.nil_sublist _ | refine List.Sublist.append_left ?_ _ | exact List.sublist_append_left _ _ | apply List.Sublist.cons_cons | apply List.Sublist.cons | apply List.sublist_append_of_sublist_right))).own (hS.sub (l' := lB) (by repeat (first | exact List.Sublist.refl _ | exact List.nil_sublist _ | refine List.Sublist.append_left ?_ _ | exact List.sublist_append_left _ _ | apply List.Sublist.cons_cons | apply List.Sublist.cons | apply List.sublist_append_of_sublist_right))).nodup) ?_; rintro v5 l5 ho5) | (refine JE.isArg0 182 ?_; refine JE.call rfl rfl (by repeat (first | exact NfL.nil rfl | apply NfL.cons (by exact rfl) (by conv => lhs; whnf))) rfl ?_; refine CallG.news (G := _) (fun w hS => hrankC w (hS.sub (l' := lC) (by repeat (first | exact List.Sublist.refl _ | exact List.nil_sublist _ | refine List.Sublist.append_left ?_ _ | exact List.sublist_append_left _ _ | apply List.Sublist.cons_cons | apply List.Sublist.cons | apply List.sublist_append_of_sublist_right))).own (hS.sub (l' := lC) (by repeat (first | exact List.Sublist.refl _ | exact List.nil_sublist _ | refine List.Sublist.append_left ?_ _ | exact List.sublist_append_left _ _ | apply List.Sublist.cons_cons | apply List.Sublist.cons | apply List.sublist_append_of_sublist_right))).nodup) ?_; rintro v6 l6 ho6))
              | (refine JE.isF 15 ?_; refine JE.call rfl rfl (by repeat (first | exact NfL.nil rfl | apply NfL.cons (by exact rfl) (by conv => lhs; whnf))) rfl ?_; refine CallG.ret (fun w hS => sameEq_calls _ _ _ w (ho5.sl encP_len (hS.sub (l' := l5) (by repeat (first | exact List.Sublist.refl _ | exact List.nil_sublist _ | refine List.Sublist.append_left ?_ _ | exact List.sublist_append_left _ _ | apply List.Sublist.cons_cons | apply List.Sublist.cons | apply List.sublist_append_of_sublist_right))).own) (ho6.sl encP_len (hS.sub (l' := l6) (by repeat (first | exact List.Sublist.refl _ | exact List.nil_sublist _ | refine List.Sublist.append_left ?_ _ | exact List.sublist_append_left _ _ | apply List.Sublist.cons_cons | apply List.Sublist.cons | apply List.sublist_append_of_sublist_right))).own) (by omega)) ?_))
            all_goals first
              | (exfalso; omega)
              | exact absurd rfl ‹_› | exact absurd (show (4 : Int) ≠ 0 by decide) ‹_› | exact absurd ‹(0 : Int) = 4› (by decide) | exact absurd ‹(0 : Int) ≠ 0› (by decide)
              | exact fnQ_tmp (.inl rfl) rfl (by conv => lhs; whnf) fun w'' hS' => ⟨rfl, hS'.below⟩

end Go.Proofs.Ytnapfiheholhiaa
