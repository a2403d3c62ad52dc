/-
  Deeds at both, the program's liens and the document's list. Conditions: none.
-/
import Derived.Test.YtnapfiheholhiaaLPay
set_option linter.unusedVariables false
set_option linter.unusedSimpArgs false
namespace Go.Proofs.Ytnapfiheholhiaa
open Go Go.RowKit Go.Proofs.YtnapfiheholhiaaSym

structure Deed where
  kind : Int
  p : Pledge
  sum : Int
def encDeed (d : Deed) : List Value := .int .u8 d.kind :: (encPledge d.p ++ [.int .i64 d.sum])
def docDeed (m : List Pledge) (d : Deed) : List Pledge :=
  if d.kind = 0 ∨ d.kind = 1 ∨ d.kind = 2 then pledge26 m d.p else if d.kind = 3 then rel26 m d.p.thing d.p.creditor else if d.kind = 4 then (payAns m d.p.thing d.sum).2.2.2 else m
theorem Doc.ans {m : List Pledge} (h : Doc m) (t : ByteArray) (s : Int) : Doc (payAns m t s).2.2.2 := by
  unfold payAns
  split
  · exact h
  · split
    · exact h
    · exact h.pay t s
theorem Doc.deed {m : List Pledge} (h : Doc m) (d : Deed) : Doc (docDeed m d) := by
  unfold docDeed
  split
  · exact h.pledge _
  · split
    · exact h.rel _ _
    · split
      · exact h.ans _ _
      · exact h

theorem Back.own {vm v : Value} {m m' : List Pledge} {lm ln : List (Nat × Obj)} (hb : Back vm m m' v ln) (hm : Own 6 encPledge 37 vm m lm) : Own 6 encPledge 37 v m' lm ∨ Own 6 encPledge 37 v m' ln := by
  rcases hb with ⟨rfl, rfl, _⟩ | h
  · exact .inl hm
  · exact .inr h

theorem entriesEq_calls (va vb : Value) (xs : List Entry) (w : World) (hsa : Sl 3 encEntry w va xs) (hsb : Sl 3 encEntry w vb xs) (hx : xs.length ≤ 9223372036854775807) :
    Does Try.prog 45 [va, vb] w (Ret w (.bool true)) := by
  have := entries_calls va vb xs xs w hsa hsb hx
  rwa [decide_eq_true rfl] at this

set_option maxHeartbeats 8000000 in
theorem doneB_calls {p : Nat} {m : List Pledge} {l : List (Nat × Obj)} (hL : Lien p m l) {vm : Value} {lm : List (Nat × Obj)} (hm : Own 6 encPledge 37 vm m lm) (d : Deed) (hd : Fits d.p) (hmost : (rowOf m d.p.thing).length ≤ sortMost) (w : World)
    (hown : ∀ x ∈ l ++ lm, w.heap[x.1]? = some x.2) (hnd : ((l ++ lm).map (·.1)).Nodup) :
    Does Try.prog 22 [.pointer (some ⟨p, 0, none⟩), vm, .agg (encDeed d).toArray] w (RetO w (l ++ lm) fun u l' => ∃ v' l1 l2, u = .tuple #[v', .bool true] ∧ l' = l1 ++ (l2 ++ lm) ∧ Lien p (docDeed m d) l1 ∧ Back vm m (docDeed m d) v' l2) := by
  have hD : Doc m := by obtain ⟨_, _, _, _, _, _, h⟩ := hL; exact h
  have hms := hD.size
  obtain ⟨olds, holds⟩ : ∃ o, o = (l ++ lm).map (·.1) := ⟨_, rfl⟩
  have hslm : ∀ w', St w olds lm w' → Sl 6 encPledge w' vm m := fun w' hS => hm.sl encP_len hS.own
  refine calls_J (ys := [.pointer (some ⟨p, 0, none⟩), vm, .agg (encDeed d).toArray]) Try.func22 rfl Try.ntmps22 rfl ?_
  refine J.at_ ?_ (St.startO hown hnd)
  rw [← holds]
  by_cases h012 : d.kind = 0 ∨ d.kind = 1 ∨ d.kind = 2
  · have hdoc : docDeed m d = pledge26 m d.p := if_pos h012
    rw [hdoc]
    repeat' (first
      | refine JE.pure rfl rfl (by conv => lhs; whnf) rfl ?_
      | (refine JE.kBin ?_; (refine JE.int rfl rfl rfl rfl rfl rfl ?_; with_reducible refine JE.waysD (fun _ => ?_) (fun _ => ?_)))
      | (refine JE.kField ?_; refine JE.fieldAddr rfl rfl rfl ?_)
      | (refine JE.kLoad ?_; refine JE.load1 rfl rfl (by repeat (first | exact In.head | refine In.tail ?_ | refine In.app ?_)) rfl (by conv => lhs; whnf) (fun _ => by first | trivial | exact ⟨.inr ‹_›, trivial⟩ | exact ⟨.inl (by kernel_rfl), trivial⟩ | exact ⟨.inr ‹_›, .inr ‹_›, trivial⟩ | exact ⟨.inr ‹_›, .inl (by kernel_rfl), trivial⟩ | exact ⟨.inl (by kernel_rfl), .inr ‹_›, trivial⟩ | exact ⟨.inl (by kernel_rfl), .inl (by kernel_rfl), trivial⟩) rfl ?_)
      | (refine JE.kLoad ?_; refine JE.loadN rfl rfl (by repeat (first | exact In.head | refine In.tail ?_ | refine In.app ?_)) (by conv => lhs; whnf) (by rfl) (fun _ => by first | trivial | exact ⟨.inr ‹_›, trivial⟩ | exact ⟨.inl (by kernel_rfl), trivial⟩ | exact ⟨.inr ‹_›, .inr ‹_›, trivial⟩ | exact ⟨.inr ‹_›, .inl (by kernel_rfl), trivial⟩ | exact ⟨.inl (by kernel_rfl), .inr ‹_›, trivial⟩ | exact ⟨.inl (by kernel_rfl), .inl (by kernel_rfl), trivial⟩) rfl ?_)
      | (refine JE.kBox ?_; refine JE.box rfl (by conv => lhs; whnf) rfl (fun _ _ => ?_))
      | with_reducible refine JE.sN ?_
      | with_reducible refine J.seq ?_
      | with_reducible refine J.region ?_
      | refine J.condT rfl ?_
      | refine J.condF rfl ?_
      | with_reducible refine J.skip ?_
      | with_reducible refine J.block ?_
      | with_reducible refine J.ret ?_
      | with_reducible refine JX.thenN ?_
      | with_reducible refine JX.thenR ?_
      | with_reducible refine JX.blkN ?_
      | with_reducible refine JX.blkR ?_
      | (refine JE.isF 42 ?_; refine JE.call rfl rfl (by repeat (first | exact NfL.nil rfl | apply NfL.cons (by exact rfl) (by conv => lhs; whnf))) rfl ?_; refine CallG.news (G := _) (fun w hS => refPledge_calls vm m d.p hd w (hslm w (hS.sub (by repeat (first | exact List.Sublist.refl _ | exact List.nil_sublist _ | refine List.Sublist.append_left ?_ _ | exact List.sublist_append_left _ _ | apply List.Sublist.cons_cons | apply List.Sublist.cons | apply List.sublist_append_of_sublist_right)))) hms) ?_; rintro _ l2 ⟨v2, rfl, hb⟩)
      | (refine JE.isF 24 ?_; refine JE.call rfl rfl (by repeat (first | exact NfL.nil rfl | apply NfL.cons (by exact rfl) (by conv => lhs; whnf))) rfl ?_; refine CallG.obj (ln := l) (G := _) (by repeat (first | exact Seg.head | exact Seg.all | exact Seg.one | apply Seg.tail | apply Seg.cons)) (fun w hS => pledge_calls hL d.p hd w (hS.owns (by repeat (first | exact Seg.head | exact Seg.all | exact Seg.one | apply Seg.tail | apply Seg.cons))) (hS.dist (by repeat (first | exact Seg.head | exact Seg.all | exact Seg.one | apply Seg.tail | apply Seg.cons)))) (fun _ _ _ _ => trivial) ?_; rintro _ l4 ⟨rfl, hL4⟩))
    all_goals first
      | (exfalso; omega)
      | exact absurd rfl ‹_›
      | exact fnQ_tmp2 (.inl rfl) rfl (by conv => lhs; whnf) (by conv => lhs; whnf) fun w'' hS' => ⟨_, l4 ++ (l2 ++ lm), rfl, ⟨_, l4, l2, rfl, rfl, hL4, hb⟩, holds ▸ hS'.sub (by repeat (first | exact List.Sublist.refl _ | exact List.nil_sublist _ | refine List.Sublist.append_left ?_ _ | exact List.sublist_append_left _ _ | apply List.Sublist.cons_cons | apply List.Sublist.cons | apply List.sublist_append_of_sublist_right))⟩
  by_cases h3 : d.kind = 3
  · have hdoc : docDeed m d = rel26 m d.p.thing d.p.creditor := by rw [docDeed, if_neg h012, if_pos h3]
    rw [hdoc]
    repeat' (first
      | refine JE.pure rfl rfl (by conv => lhs; whnf) rfl ?_
      | (refine JE.kBin ?_; (refine JE.int rfl rfl rfl rfl rfl rfl ?_; with_reducible refine JE.waysD (fun _ => ?_) (fun _ => ?_)))
      | (refine JE.kField ?_; refine JE.fieldAddr rfl rfl rfl ?_)
      | (refine JE.kLoad ?_; refine JE.load1 rfl rfl (by repeat (first | exact In.head | refine In.tail ?_ | refine In.app ?_)) rfl (by conv => lhs; whnf) (fun _ => by first | trivial | exact ⟨.inr ‹_›, trivial⟩ | exact ⟨.inl (by kernel_rfl), trivial⟩ | exact ⟨.inr ‹_›, .inr ‹_›, trivial⟩ | exact ⟨.inr ‹_›, .inl (by kernel_rfl), trivial⟩ | exact ⟨.inl (by kernel_rfl), .inr ‹_›, trivial⟩ | exact ⟨.inl (by kernel_rfl), .inl (by kernel_rfl), trivial⟩) rfl ?_)
      | (refine JE.kLoad ?_; refine JE.loadN rfl rfl (by repeat (first | exact In.head | refine In.tail ?_ | refine In.app ?_)) (by conv => lhs; whnf) (by rfl) (fun _ => by first | trivial | exact ⟨.inr ‹_›, trivial⟩ | exact ⟨.inl (by kernel_rfl), trivial⟩ | exact ⟨.inr ‹_›, .inr ‹_›, trivial⟩ | exact ⟨.inr ‹_›, .inl (by kernel_rfl), trivial⟩ | exact ⟨.inl (by kernel_rfl), .inr ‹_›, trivial⟩ | exact ⟨.inl (by kernel_rfl), .inl (by kernel_rfl), trivial⟩) rfl ?_)
      | (refine JE.kBox ?_; refine JE.box rfl (by conv => lhs; whnf) rfl (fun _ _ => ?_))
      | with_reducible refine JE.sN ?_
      | with_reducible refine J.seq ?_
      | with_reducible refine J.region ?_
      | refine J.condT rfl ?_
      | refine J.condF rfl ?_
      | with_reducible refine J.skip ?_
      | with_reducible refine J.block ?_
      | with_reducible refine J.ret ?_
      | with_reducible refine JX.thenN ?_
      | with_reducible refine JX.thenR ?_
      | with_reducible refine JX.blkN ?_
      | with_reducible refine JX.blkR ?_
      | (refine JE.isF 43 ?_; refine JE.call rfl rfl (by repeat (first | exact NfL.nil rfl | apply NfL.cons (by exact rfl) (by conv => lhs; whnf))) rfl ?_; refine CallG.news (G := _) (fun w hS => refRelease_calls vm m d.p.thing d.p.creditor w (hslm w (hS.sub (by repeat (first | exact List.Sublist.refl _ | exact List.nil_sublist _ | refine List.Sublist.append_left ?_ _ | exact List.sublist_append_left _ _ | apply List.Sublist.cons_cons | apply List.Sublist.cons | apply List.sublist_append_of_sublist_right)))) hms) ?_; rintro _ l2 ⟨v2, rfl, hb⟩)
      | (refine JE.isF 17 ?_; refine JE.call rfl rfl (by repeat (first | exact NfL.nil rfl | apply NfL.cons (by exact rfl) (by conv => lhs; whnf))) rfl ?_; refine CallG.obj (ln := l) (G := _) (by repeat (first | exact Seg.head | exact Seg.all | exact Seg.one | apply Seg.tail | apply Seg.cons)) (fun w hS => release_calls hL d.p.thing d.p.creditor w (hS.owns (by repeat (first | exact Seg.head | exact Seg.all | exact Seg.one | apply Seg.tail | apply Seg.cons))) (hS.dist (by repeat (first | exact Seg.head | exact Seg.all | exact Seg.one | apply Seg.tail | apply Seg.cons)))) (fun _ _ _ _ => trivial) ?_; rintro _ l4 ⟨rfl, hL4⟩))
    all_goals first
      | (exfalso; omega)
      | exact absurd rfl ‹_›
      | exact fnQ_tmp2 (.inl rfl) rfl (by conv => lhs; whnf) (by conv => lhs; whnf) fun w'' hS' => ⟨_, l4 ++ (l2 ++ lm), rfl, ⟨_, l4, l2, rfl, rfl, hL4, hb⟩, holds ▸ hS'.sub (by repeat (first | exact List.Sublist.refl _ | exact List.nil_sublist _ | refine List.Sublist.append_left ?_ _ | exact List.sublist_append_left _ _ | apply List.Sublist.cons_cons | apply List.Sublist.cons | apply List.sublist_append_of_sublist_right))⟩
  by_cases h4 : d.kind = 4
  · have hdoc : docDeed m d = (payAns m d.p.thing d.sum).2.2.2 := by rw [docDeed, if_neg h012, if_neg h3, if_pos h4]
    have hpay := fun w => pay_calls hL d.p.thing d.sum hmost w
    rw [hdoc]
    by_cases hs : d.sum < 0 ∨ 1099511627776 < d.sum
    · have hans : payAns m d.p.thing d.sum = ([], 0, 1, m) := if_pos hs
      rw [hans] at hpay
      rw [hans]
      repeat' (first
        | refine JE.pure rfl rfl (by conv => lhs; whnf) rfl ?_
        | refine JE.skip rfl rfl ?_
        | (refine JE.kBin ?_; (refine JE.int rfl rfl rfl rfl rfl rfl ?_; with_reducible refine JE.waysD (fun _ => ?_) (fun _ => ?_)))
        | (refine JE.kField ?_; refine JE.fieldAddr rfl rfl rfl ?_)
        | (refine JE.kLoad ?_; refine JE.load1 rfl rfl (by repeat (first | exact In.head | refine In.tail ?_ | refine In.app ?_)) rfl (by conv => lhs; whnf) (fun _ => by first | trivial | exact ⟨.inr ‹_›, trivial⟩ | exact ⟨.inl (by kernel_rfl), trivial⟩ | exact ⟨.inr ‹_›, .inr ‹_›, trivial⟩ | exact ⟨.inr ‹_›, .inl (by kernel_rfl), trivial⟩ | exact ⟨.inl (by kernel_rfl), .inr ‹_›, trivial⟩ | exact ⟨.inl (by kernel_rfl), .inl (by kernel_rfl), trivial⟩) rfl ?_)
        | (refine JE.kLoad ?_; refine JE.loadN rfl rfl (by repeat (first | exact In.head | refine In.tail ?_ | refine In.app ?_)) (by conv => lhs; whnf) (by rfl) (fun _ => by first | trivial | exact ⟨.inr ‹_›, trivial⟩ | exact ⟨.inl (by kernel_rfl), trivial⟩ | exact ⟨.inr ‹_›, .inr ‹_›, trivial⟩ | exact ⟨.inr ‹_›, .inl (by kernel_rfl), trivial⟩ | exact ⟨.inl (by kernel_rfl), .inr ‹_›, trivial⟩ | exact ⟨.inl (by kernel_rfl), .inl (by kernel_rfl), trivial⟩) rfl ?_)
        | (refine JE.kBox ?_; refine JE.box rfl (by conv => lhs; whnf) rfl (fun _ _ => ?_))
        | (refine JE.kBuiltin ?_; refine JE.lenSl rfl rfl rfl ?_)
        | with_reducible refine JE.sN ?_
        | with_reducible refine J.seq ?_
        | with_reducible refine J.region ?_
        | refine J.condT rfl ?_
        | refine J.condF rfl ?_
        | with_reducible refine J.skip ?_
        | with_reducible refine J.block ?_
        | with_reducible refine J.ret ?_
        | with_reducible refine JX.thenN ?_
        | with_reducible refine JX.thenR ?_
        | with_reducible refine JX.blkN ?_
        | with_reducible refine JX.blkR ?_
        | (refine JE.isF 14 ?_; refine JE.call rfl rfl (by repeat (first | exact NfL.nil rfl | apply NfL.cons (by exact rfl) (by conv => lhs; whnf))) rfl ?_; refine CallG.obj (ln := l) (G := _) (by repeat (first | exact Seg.head | exact Seg.all | exact Seg.one | apply Seg.tail | apply Seg.cons)) (fun w hS => hpay w (hS.owns (by repeat (first | exact Seg.head | exact Seg.all | exact Seg.one | apply Seg.tail | apply Seg.cons))) (hS.dist (by repeat (first | exact Seg.head | exact Seg.all | exact Seg.one | apply Seg.tail | apply Seg.cons)))) (fun _ _ _ _ => trivial) ?_; rintro _ _ ⟨v1, l1, l2, rfl, rfl, ho1, hL2⟩; refine JE.perm (List.Perm.of_eq (List.append_assoc _ _ _)) ?_; obtain ⟨a1, c1, rfl, _⟩ := ho1.shape))
      all_goals first
        | (exfalso; omega)
        | exact absurd rfl ‹_›
        | exact fnQ_tmp2 (.inl rfl) rfl (by conv => lhs; whnf) (by conv => lhs; whnf) fun w'' hS' => ⟨_, l2 ++ ([] ++ lm), rfl, ⟨_, l2, [], rfl, rfl, hL2, .inl ⟨rfl, rfl, rfl⟩⟩, holds ▸ hS'.sub (l' := l2 ++ lm) (by repeat (first | exact List.Sublist.refl _ | exact List.nil_sublist _ | refine List.Sublist.append_left ?_ _ | exact List.sublist_append_left _ _ | apply List.Sublist.cons_cons | apply List.Sublist.cons | apply List.sublist_append_of_sublist_right))⟩
    by_cases hrow : rowOf m d.p.thing = []
    · have hans : payAns m d.p.thing d.sum = ([], 0, 4, m) := by rw [payAns, if_neg hs, if_pos hrow]
      have hrk := fun w hw => refRank_calls vm m d.p.thing w hw hms
      rw [hrow] at hrk
      rw [hans] at hpay
      rw [hans]
      repeat' (first
        | refine JE.pure rfl rfl (by conv => lhs; whnf) rfl ?_
        | refine JE.skip rfl rfl ?_
        | (refine JE.kBin ?_; (refine JE.int rfl rfl rfl rfl rfl rfl ?_; with_reducible refine JE.waysD (fun _ => ?_) (fun _ => ?_)))
        | (refine JE.kField ?_; refine JE.fieldAddr rfl rfl rfl ?_)
        | (refine JE.kLoad ?_; refine JE.load1 rfl rfl (by repeat (first | exact In.head | refine In.tail ?_ | refine In.app ?_)) rfl (by conv => lhs; whnf) (fun _ => by first | trivial | exact ⟨.inr ‹_›, trivial⟩ | exact ⟨.inl (by kernel_rfl), trivial⟩ | exact ⟨.inr ‹_›, .inr ‹_›, trivial⟩ | exact ⟨.inr ‹_›, .inl (by kernel_rfl), trivial⟩ | exact ⟨.inl (by kernel_rfl), .inr ‹_›, trivial⟩ | exact ⟨.inl (by kernel_rfl), .inl (by kernel_rfl), trivial⟩) rfl ?_)
        | (refine JE.kLoad ?_; refine JE.loadN rfl rfl (by repeat (first | exact In.head | refine In.tail ?_ | refine In.app ?_)) (by conv => lhs; whnf) (by rfl) (fun _ => by first | trivial | exact ⟨.inr ‹_›, trivial⟩ | exact ⟨.inl (by kernel_rfl), trivial⟩ | exact ⟨.inr ‹_›, .inr ‹_›, trivial⟩ | exact ⟨.inr ‹_›, .inl (by kernel_rfl), trivial⟩ | exact ⟨.inl (by kernel_rfl), .inr ‹_›, trivial⟩ | exact ⟨.inl (by kernel_rfl), .inl (by kernel_rfl), trivial⟩) rfl ?_)
        | (refine JE.kBox ?_; refine JE.box rfl (by conv => lhs; whnf) rfl (fun _ _ => ?_))
        | (refine JE.kBuiltin ?_; refine JE.lenSl rfl rfl rfl ?_)
        | with_reducible refine JE.sN ?_
        | with_reducible refine J.seq ?_
        | with_reducible refine J.region ?_
        | refine J.condT rfl ?_
        | refine J.condF rfl ?_
        | with_reducible refine J.skip ?_
        | with_reducible refine J.block ?_
        | with_reducible refine J.ret ?_
        | with_reducible refine JX.thenN ?_
        | with_reducible refine JX.thenR ?_
        | with_reducible refine JX.blkN ?_
        | with_reducible refine JX.blkR ?_
        | (refine JE.isF 14 ?_; refine JE.call rfl rfl (by repeat (first | exact NfL.nil rfl | apply NfL.cons (by exact rfl) (by conv => lhs; whnf))) rfl ?_; refine CallG.obj (ln := l) (G := _) (by repeat (first | exact Seg.head | exact Seg.all | exact Seg.one | apply Seg.tail | apply Seg.cons)) (fun w hS => hpay w (hS.owns (by repeat (first | exact Seg.head | exact Seg.all | exact Seg.one | apply Seg.tail | apply Seg.cons))) (hS.dist (by repeat (first | exact Seg.head | exact Seg.all | exact Seg.one | apply Seg.tail | apply Seg.cons)))) (fun _ _ _ _ => trivial) ?_; rintro _ _ ⟨v1, l1, l2, rfl, rfl, ho1, hL2⟩; refine JE.perm (List.Perm.of_eq (List.append_assoc _ _ _)) ?_; obtain ⟨a1, c1, rfl, _⟩ := ho1.shape)
        | (refine JE.isF 41 ?_; refine JE.call rfl rfl (by repeat (first | exact NfL.nil rfl | apply NfL.cons (by exact rfl) (by conv => lhs; whnf))) rfl ?_; refine CallG.news (G := _) (fun w hS => hrk w (hslm w (hS.sub (by repeat (first | exact List.Sublist.refl _ | exact List.nil_sublist _ | refine List.Sublist.append_left ?_ _ | exact List.sublist_append_left _ _ | apply List.Sublist.cons_cons | apply List.Sublist.cons | apply List.sublist_append_of_sublist_right))))) ?_; rintro v9 l9 ho9; obtain ⟨a9, c9, rfl, _⟩ := ho9.shape))
      all_goals first
        | (exfalso; omega)
        | exact absurd rfl ‹_›
        | exact fnQ_tmp2 (.inl rfl) rfl (by conv => lhs; whnf) (by conv => lhs; whnf) fun w'' hS' => ⟨_, l2 ++ ([] ++ lm), rfl, ⟨_, l2, [], rfl, rfl, hL2, .inl ⟨rfl, rfl, rfl⟩⟩, holds ▸ hS'.sub (l' := l2 ++ lm) (by repeat (first | exact List.Sublist.refl _ | exact List.nil_sublist _ | refine List.Sublist.append_left ?_ _ | exact List.sublist_append_left _ _ | apply List.Sublist.cons_cons | apply List.Sublist.cons | apply List.sublist_append_of_sublist_right))⟩
    have hans : payAns m d.p.thing d.sum = ((payE (rank26 m d.p.thing) d.sum).1, (payE (rank26 m d.p.thing) d.sum).2.2, 0, pay26 m d.p.thing d.sum) := by rw [payAns, if_neg hs, if_neg hrow]
    have hrk := fun w hw => refRank_calls vm m d.p.thing w hw hms
    have hrp := fun w hw => refPay_calls vm m d.p.thing d.sum w hw hD (by omega) (by omega)
    have hlen0 : 0 < (sortB refLt (rowOf m d.p.thing)).length := by rw [sortB_length]; exact List.length_pos_iff.2 hrow
    have hEl : (payE (rank26 m d.p.thing) d.sum).1.length ≤ 4096 := Nat.le_trans (payE_len _ _) (by rw [rank_length]; exact Nat.le_trans (rowOf_length _ _) hms)
    rw [hans] at hpay
    rw [hans]
    repeat' (first
      | refine JE.pure rfl rfl (by conv => lhs; whnf) rfl ?_
      | refine JE.skip rfl rfl ?_
      | (refine JE.kBin ?_; (refine JE.int rfl rfl rfl rfl rfl rfl ?_; with_reducible refine JE.waysD (fun _ => ?_) (fun _ => ?_)))
      | (refine JE.kField ?_; refine JE.fieldAddr rfl rfl rfl ?_)
      | (refine JE.kLoad ?_; refine JE.load1 rfl rfl (by repeat (first | exact In.head | refine In.tail ?_ | refine In.app ?_)) rfl (by conv => lhs; whnf) (fun _ => by first | trivial | exact ⟨.inr ‹_›, trivial⟩ | exact ⟨.inl (by kernel_rfl), trivial⟩ | exact ⟨.inr ‹_›, .inr ‹_›, trivial⟩ | exact ⟨.inr ‹_›, .inl (by kernel_rfl), trivial⟩ | exact ⟨.inl (by kernel_rfl), .inr ‹_›, trivial⟩ | exact ⟨.inl (by kernel_rfl), .inl (by kernel_rfl), trivial⟩) rfl ?_)
      | (refine JE.kLoad ?_; refine JE.loadN rfl rfl (by repeat (first | exact In.head | refine In.tail ?_ | refine In.app ?_)) (by conv => lhs; whnf) (by rfl) (fun _ => by first | trivial | exact ⟨.inr ‹_›, trivial⟩ | exact ⟨.inl (by kernel_rfl), trivial⟩ | exact ⟨.inr ‹_›, .inr ‹_›, trivial⟩ | exact ⟨.inr ‹_›, .inl (by kernel_rfl), trivial⟩ | exact ⟨.inl (by kernel_rfl), .inr ‹_›, trivial⟩ | exact ⟨.inl (by kernel_rfl), .inl (by kernel_rfl), trivial⟩) rfl ?_)
      | (refine JE.kBox ?_; refine JE.box rfl (by conv => lhs; whnf) rfl (fun _ _ => ?_))
      | (refine JE.kBuiltin ?_; refine JE.lenSl rfl rfl rfl ?_)
      | with_reducible refine JE.sN ?_
      | with_reducible refine J.seq ?_
      | with_reducible refine J.region ?_
      | refine J.condT rfl ?_
      | refine J.condF rfl ?_
      | with_reducible refine J.skip ?_
      | with_reducible refine J.block ?_
      | with_reducible refine J.ret ?_
      | with_reducible refine JX.thenN ?_
      | with_reducible refine JX.thenR ?_
      | with_reducible refine JX.blkN ?_
      | with_reducible refine JX.blkR ?_
      | (refine JE.isF 14 ?_; refine JE.call rfl rfl (by repeat (first | exact NfL.nil rfl | apply NfL.cons (by exact rfl) (by conv => lhs; whnf))) rfl ?_; refine CallG.obj (ln := l) (G := _) (by repeat (first | exact Seg.head | exact Seg.all | exact Seg.one | apply Seg.tail | apply Seg.cons)) (fun w hS => hpay w (hS.owns (by repeat (first | exact Seg.head | exact Seg.all | exact Seg.one | apply Seg.tail | apply Seg.cons))) (hS.dist (by repeat (first | exact Seg.head | exact Seg.all | exact Seg.one | apply Seg.tail | apply Seg.cons)))) (fun _ _ _ _ => trivial) ?_; rintro _ _ ⟨v1, l1, l2, rfl, rfl, ho1, hL2⟩; refine JE.perm (List.Perm.of_eq (List.append_assoc _ _ _)) ?_)
      | (refine JE.isF 41 ?_; refine JE.call rfl rfl (by repeat (first | exact NfL.nil rfl | apply NfL.cons (by exact rfl) (by conv => lhs; whnf))) rfl ?_; refine CallG.news (G := _) (fun w hS => hrk w (hslm w (hS.sub (by repeat (first | exact List.Sublist.refl _ | exact List.nil_sublist _ | refine List.Sublist.append_left ?_ _ | exact List.sublist_append_left _ _ | apply List.Sublist.cons_cons | apply List.Sublist.cons | apply List.sublist_append_of_sublist_right))))) ?_; rintro v9 l9 ho9; obtain ⟨a9, c9, rfl, _⟩ := ho9.shape)
      | (refine JE.isF 44 ?_; refine JE.call rfl rfl (by repeat (first | exact NfL.nil rfl | apply NfL.cons (by exact rfl) (by conv => lhs; whnf))) rfl ?_; refine CallG.news (G := _) (fun w hS => hrp w (hslm w (hS.sub (by repeat (first | exact List.Sublist.refl _ | exact List.nil_sublist _ | refine List.Sublist.append_left ?_ _ | exact List.sublist_append_left _ _ | apply List.Sublist.cons_cons | apply List.Sublist.cons | apply List.sublist_append_of_sublist_right))))) ?_; rintro _ _ ⟨v5, v6, l5, l6, rfl, rfl, ho5, hb6⟩; refine JE.perm (List.Perm.of_eq (List.append_assoc _ _ _)) ?_)
      | (refine JE.isF 45 ?_; refine JE.call rfl rfl (by repeat (first | exact NfL.nil rfl | apply NfL.cons (by exact rfl) (by conv => lhs; whnf))) rfl ?_; refine CallG.ret (fun w hS => entriesEq_calls _ _ _ w (ho1.sl (fun _ => rfl) (hS.sub (l' := l1) (by repeat (first | exact List.Sublist.refl _ | exact List.nil_sublist _ | refine List.Sublist.append_left ?_ _ | exact List.sublist_append_left _ _ | apply List.Sublist.cons_cons | apply List.Sublist.cons | apply List.sublist_append_of_sublist_right))).own) (ho5.sl (fun _ => rfl) (hS.sub (l' := l5) (by repeat (first | exact List.Sublist.refl _ | exact List.nil_sublist _ | refine List.Sublist.append_left ?_ _ | exact List.sublist_append_left _ _ | apply List.Sublist.cons_cons | apply List.Sublist.cons | apply List.sublist_append_of_sublist_right))).own) (Nat.le_trans hEl (by decide))) ?_))
    all_goals first
      | (exfalso; omega)
      | exact absurd rfl ‹_›
      | exact fnQ_tmp2 (.inl rfl) rfl (by conv => lhs; whnf) (by conv => lhs; whnf) fun w'' hS' => ⟨_, l2 ++ (l6 ++ lm), rfl, ⟨_, l2, l6, rfl, rfl, hL2, hb6⟩, holds ▸ (hS'.sub (l' := l6 ++ (l2 ++ lm)) (by repeat (first | exact List.Sublist.refl _ | exact List.nil_sublist _ | refine List.Sublist.append_left ?_ _ | exact List.sublist_append_left _ _ | apply List.Sublist.cons_cons | apply List.Sublist.cons | apply List.sublist_append_of_sublist_right))).perm (List.perm_append_comm_assoc _ _ _)⟩
  · have hdoc : docDeed m d = m := by rw [docDeed, if_neg h012, if_neg h3, if_neg h4]
    rw [hdoc]
    repeat' (first
      | refine JE.pure rfl rfl (by conv => lhs; whnf) rfl ?_
      | (refine JE.kBin ?_; (refine JE.int rfl rfl rfl rfl rfl rfl ?_; with_reducible refine JE.waysD (fun _ => ?_) (fun _ => ?_)))
      | (refine JE.kField ?_; refine JE.fieldAddr rfl rfl rfl ?_)
      | (refine JE.kLoad ?_; refine JE.load1 rfl rfl (by repeat (first | exact In.head | refine In.tail ?_ | refine In.app ?_)) rfl (by conv => lhs; whnf) (fun _ => by first | trivial | exact ⟨.inr ‹_›, trivial⟩ | exact ⟨.inl (by kernel_rfl), trivial⟩ | exact ⟨.inr ‹_›, .inr ‹_›, trivial⟩ | exact ⟨.inr ‹_›, .inl (by kernel_rfl), trivial⟩ | exact ⟨.inl (by kernel_rfl), .inr ‹_›, trivial⟩ | exact ⟨.inl (by kernel_rfl), .inl (by kernel_rfl), trivial⟩) rfl ?_)
      | (refine JE.kLoad ?_; refine JE.loadN rfl rfl (by repeat (first | exact In.head | refine In.tail ?_ | refine In.app ?_)) (by conv => lhs; whnf) (by rfl) (fun _ => by first | trivial | exact ⟨.inr ‹_›, trivial⟩ | exact ⟨.inl (by kernel_rfl), trivial⟩ | exact ⟨.inr ‹_›, .inr ‹_›, trivial⟩ | exact ⟨.inr ‹_›, .inl (by kernel_rfl), trivial⟩ | exact ⟨.inl (by kernel_rfl), .inr ‹_›, trivial⟩ | exact ⟨.inl (by kernel_rfl), .inl (by kernel_rfl), trivial⟩) rfl ?_)
      | (refine JE.kBox ?_; refine JE.box rfl (by conv => lhs; whnf) rfl (fun _ _ => ?_))
      | with_reducible refine JE.sN ?_
      | with_reducible refine J.seq ?_
      | with_reducible refine J.region ?_
      | refine J.condT rfl ?_
      | refine J.condF rfl ?_
      | with_reducible refine J.skip ?_
      | with_reducible refine J.block ?_
      | with_reducible refine J.ret ?_
      | with_reducible refine JX.thenN ?_
      | with_reducible refine JX.blkN ?_)
    all_goals first
      | (exfalso; omega)
      | exact fnQ_tmp2 (.inl rfl) rfl (by conv => lhs; whnf) (by conv => lhs; whnf) fun w'' hS' => ⟨_, l ++ ([] ++ lm), rfl, ⟨_, l, [], rfl, rfl, hL, .inl ⟨rfl, rfl, rfl⟩⟩, holds ▸ hS'.sub (l' := l ++ lm) (by repeat (first | exact List.Sublist.refl _ | exact List.nil_sublist _ | refine List.Sublist.append_left ?_ _ | exact List.sublist_append_left _ _ | apply List.Sublist.cons_cons | apply List.Sublist.cons | apply List.sublist_append_of_sublist_right))⟩

theorem done_calls {p : Nat} {m : List Pledge} {l : List (Nat × Obj)} (hL : Lien p m l) {vm : Value} {lm : List (Nat × Obj)} (hm : Own 6 encPledge 37 vm m lm) (d : Deed) (hd : Fits d.p) (hmost : (rowOf m d.p.thing).length ≤ sortMost) (w : World)
    (hown : ∀ x ∈ l ++ lm, w.heap[x.1]? = some x.2) (hnd : ((l ++ lm).map (·.1)).Nodup) :
    Does Try.prog 22 [.pointer (some ⟨p, 0, none⟩), vm, .agg (encDeed d).toArray] w (RetO w (l ++ lm) fun u l' => ∃ v' l1 l2, u = .tuple #[v', .bool true] ∧ l' = l1 ++ l2 ∧ Lien p (docDeed m d) l1 ∧ Own 6 encPledge 37 v' (docDeed m d) l2) := by
  refine (doneB_calls hL hm d hd hmost w hown hnd).mono ?_
  rintro e w' ⟨u, l', rfl, ⟨v', l1, l2, rfl, rfl, hL', hb⟩, hS⟩
  rcases hb.own hm with ho | ho
  · exact ⟨_, l1 ++ lm, rfl, ⟨_, l1, lm, rfl, rfl, hL', ho⟩, hS.sub (by repeat (first | exact List.Sublist.refl _ | exact List.nil_sublist _ | refine List.Sublist.append_left ?_ _ | exact List.sublist_append_left _ _ | apply List.Sublist.cons_cons | apply List.Sublist.cons | apply List.sublist_append_of_sublist_right))⟩
  · exact ⟨_, l1 ++ l2, rfl, ⟨_, l1, l2, rfl, rfl, hL', ho⟩, hS.sub (by repeat (first | exact List.Sublist.refl _ | exact List.nil_sublist _ | refine List.Sublist.append_left ?_ _ | exact List.sublist_append_left _ _ | apply List.Sublist.cons_cons | apply List.Sublist.cons | apply List.sublist_append_of_sublist_right))⟩

end Go.Proofs.Ytnapfiheholhiaa
