/-
  The chapter's example. Conditions: none.
-/
import Derived.Test.YtnapfiheholhiaaLGrown
set_option linter.unusedVariables false
set_option linter.unusedSimpArgs false
namespace Go.Proofs.Ytnapfiheholhiaa
open Go Go.RowKit Go.Proofs.YtnapfiheholhiaaSym

def awT : ByteArray := ⟨#[116]⟩
def aw1 : Pledge := ⟨⟨#[116]⟩, ⟨#[100]⟩, ⟨#[107]⟩, 5, 70, false⟩
def aw2 : Pledge := ⟨⟨#[116]⟩, ⟨#[100]⟩, ⟨#[98]⟩, 9, 50, true⟩
def aw3 : Pledge := ⟨⟨#[116]⟩, ⟨#[100]⟩, ⟨#[107]⟩, 5, 20, false⟩
def awE1 : Entry := ⟨⟨#[98]⟩, ByteArray.empty, 50⟩
def awE2 : Entry := ⟨⟨#[107]⟩, ByteArray.empty, 50⟩
theorem aw_1 : code26 [] aw1 = 0 ∧ pledge26 [] aw1 = [aw1] := by decide
theorem aw_2 : code26 [aw1] aw2 = 0 ∧ pledge26 [aw1] aw2 = [aw1, aw2] := by decide
theorem aw_3 : payAns [aw1, aw2] awT 100 = ([awE1, awE2], 0, 0, [aw3]) := by decide
theorem aw_4 : rank26 [aw3] awT = [aw3] := by decide

theorem fits_of {p : Pledge} (h1 : p.thing.size ≤ 16) (h2 : p.debtor.size ≤ 16) (h3 : p.creditor.size ≤ 16) : Fits p := ⟨by omega, by omega, by omega⟩

theorem encE_len (e : Entry) : (encEntry e).length = 3 := rfl

set_option maxHeartbeats 4000000 in
theorem awake_calls (w : World) : Does Try.prog 10 [] w (Ret w (.bool true)) := by
  have hf1 : Fits aw1 := fits_of (by decide) (by decide) (by decide)
  have hf2 : Fits aw2 := fits_of (by decide) (by decide) (by decide)
  have hc1 := fun (p : Nat) (l : List (Nat × Obj)) (hL : Lien p [] l) w => pledge_calls hL aw1 hf1 w
  rw [aw_1.1, aw_1.2] at hc1
  have hc2 := fun (p : Nat) (l : List (Nat × Obj)) (hL : Lien p [aw1] l) w => pledge_calls hL aw2 hf2 w
  rw [aw_2.1, aw_2.2] at hc2
  have hc3 := fun (p : Nat) (l : List (Nat × Obj)) (hL : Lien p [aw1, aw2] l) w => pay_calls hL awT 100 (by decide) w
  rw [aw_3] at hc3
  have hc4 := fun (p : Nat) (l : List (Nat × Obj)) (hL : Lien p [aw3] l) w => rank_calls hL awT (by decide) w
  rw [aw_4] at hc4
  refine calls_J (ys := []) Try.func10 rfl Try.ntmps10 rfl ?_
  refine J.at_ (S := St w [] []) ?_ (St.start w)
  repeat' (first
    | (refine JE.kBin ?_; refine JE.eqPtr rfl rfl rfl rfl ?_)
    | refine JE.pure rfl rfl (by conv => lhs; whnf) rfl ?_
    | refine JE.skip rfl rfl ?_
    | (refine JE.kBin ?_; (refine JE.int rfl rfl rfl rfl rfl rfl ?_; with_reducible refine JE.waysD (fun _ => ?_) (fun _ => ?_)))
    | (refine JE.kBin ?_; (refine JE.eqStr rfl rfl rfl rfl ?_; with_reducible refine JE.waysD (fun _ => ?_) (fun _ => ?_)))
    | (refine JE.kField ?_; refine JE.fieldAddr rfl rfl rfl ?_)
    | (refine JE.kBuiltin ?_; refine JE.lenSl rfl rfl rfl ?_)
    | (refine JE.kBuild ?_; refine JE.build rfl rfl (by repeat (first | exact NfL.nil rfl | apply NfL.cons (by exact rfl) (by conv => lhs; whnf))) rfl ?_)
    | with_reducible refine JE.sN ?_
    | with_reducible refine J.seq ?_
    | with_reducible refine J.region ?_
    | refine J.condF rfl ?_
    | with_reducible refine J.skip ?_
    | with_reducible refine J.ret ?_
    | with_reducible refine JX.thenN ?_
    | (refine JE.isF 23 ?_; refine JE.call rfl rfl (by repeat (first | exact NfL.nil rfl | apply NfL.cons (by exact rfl) (by conv => lhs; whnf))) rfl ?_; refine CallG.news (G := _) (fun w hS => new_calls w) ?_; rintro _ l0 ⟨p, rfl, hL0⟩)
    | (refine JE.isF 24 ?_; refine JE.call rfl rfl (by repeat (first | exact NfL.nil rfl | apply NfL.cons (by exact rfl) (by conv => lhs; whnf))) rfl ?_; first | (refine CallG.obj (G := _) (by repeat (first | exact Seg.head | exact Seg.all | exact Seg.one | apply Seg.tail | apply Seg.cons)) (fun w hS => hc1 p l0 hL0 w (hS.owns (by repeat (first | exact Seg.head | exact Seg.all | exact Seg.one | apply Seg.tail | apply Seg.cons))) (hS.dist (by repeat (first | exact Seg.head | exact Seg.all | exact Seg.one | apply Seg.tail | apply Seg.cons)))) (fun _ _ _ _ => trivial) ?_; rintro _ l1 ⟨rfl, hL1⟩) | (refine CallG.obj (G := _) (by repeat (first | exact Seg.head | exact Seg.all | exact Seg.one | apply Seg.tail | apply Seg.cons)) (fun w hS => hc2 p l1 hL1 w (hS.owns (by repeat (first | exact Seg.head | exact Seg.all | exact Seg.one | apply Seg.tail | apply Seg.cons))) (hS.dist (by repeat (first | exact Seg.head | exact Seg.all | exact Seg.one | apply Seg.tail | apply Seg.cons)))) (fun _ _ _ _ => trivial) ?_; rintro _ l2 ⟨rfl, hL2⟩))
    | (refine JE.isF 14 ?_; refine JE.call rfl rfl (by repeat (first | exact NfL.nil rfl | apply NfL.cons (by exact rfl) (by conv => lhs; whnf))) rfl ?_; refine CallG.obj (G := _) (by repeat (first | exact Seg.head | exact Seg.all | exact Seg.one | apply Seg.tail | apply Seg.cons)) (fun w hS => hc3 p l2 hL2 w (hS.owns (by repeat (first | exact Seg.head | exact Seg.all | exact Seg.one | apply Seg.tail | apply Seg.cons))) (hS.dist (by repeat (first | exact Seg.head | exact Seg.all | exact Seg.one | apply Seg.tail | apply Seg.cons)))) (fun _ _ _ _ => trivial) ?_; rintro _ _ ⟨v4, l4, l5, rfl, rfl, ho4, hL5⟩; obtain ⟨B4, cap4, cur4, rfl, hoc4, rfl⟩ := own_some ho4 (by simp); refine JE.perm (l' := (B4, .cells cur4 35 (0, 0)) :: l5) (by simp) ?_)
    | (refine JE.isF 13 ?_; refine JE.call rfl rfl (by repeat (first | exact NfL.nil rfl | apply NfL.cons (by exact rfl) (by conv => lhs; whnf))) rfl ?_; refine CallG.news (G := _) (fun w hS => hc4 p l5 hL5 w hS.tl.own hS.tl.nodup) ?_; rintro v7 l7 ho7; obtain ⟨B7, cap7, cur7, rfl, hoc7, rfl⟩ := own_some ho7 (by simp))
    | (refine JE.kIndexAddr ?_; refine JE.indexAddr (j := 0) rfl rfl rfl (by decide) (by decide) rfl ?_)
    | (refine JE.kIndexAddr ?_; refine JE.indexAddr (j := 1) rfl rfl rfl (by decide) (by decide) rfl ?_)
    | (refine JE.isLoadT 47 ?_; refine JE.loadRowCS (k := 3) (off := 0) (B := B4) (j := 0) (o := 0) (x := awE1) rfl rfl (fun w' hS => OwnC.rows (xs := [awE1, awE2]) encE_len hoc4 (hS.get (by repeat (first | exact In.head | refine In.tail ?_ | refine In.app ?_)))) rfl rfl rfl (fun h => by first | exact trivial | cases h) rfl ?_)
    | (refine JE.isLoadT 54 ?_; refine JE.loadRowCS (k := 3) (off := 0) (B := B4) (j := 0) (o := 2) (x := awE1) rfl rfl (fun w' hS => OwnC.rows (xs := [awE1, awE2]) encE_len hoc4 (hS.get (by repeat (first | exact In.head | refine In.tail ?_ | refine In.app ?_)))) rfl rfl rfl (fun h => by first | exact trivial | cases h) rfl ?_)
    | (refine JE.isLoadT 61 ?_; refine JE.loadRowCS (k := 3) (off := 0) (B := B4) (j := 1) (o := 2) (x := awE2) rfl rfl (fun w' hS => OwnC.rows (xs := [awE1, awE2]) encE_len hoc4 (hS.get (by repeat (first | exact In.head | refine In.tail ?_ | refine In.app ?_)))) rfl rfl rfl (fun h => by first | exact trivial | cases h) rfl ?_)
    | (refine JE.isLoadT 73 ?_; refine JE.loadRowCS (k := 6) (off := 0) (B := B7) (j := 0) (o := 4) (x := aw3) rfl rfl (fun w' hS => OwnC.rows (xs := [aw3]) encP_len hoc7 (hS.get (by repeat (first | exact In.head | refine In.tail ?_ | refine In.app ?_)))) rfl rfl rfl (fun h => by first | exact trivial | cases h) rfl ?_))
  all_goals first
    | exact absurd rfl ‹_›
    | exact fnQ_tmp (.inl rfl) rfl (by conv => lhs; whnf) fun w'' hS' => ⟨rfl, hS'.below⟩

end Go.Proofs.Ytnapfiheholhiaa
