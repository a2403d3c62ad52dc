/-
  The walk of the statement LienPlays. Conditions: none.
-/
import Derived.Test.YtnapfiheholhiaaEven
set_option linter.unusedVariables false
set_option linter.unusedSimpArgs false
namespace Go.Proofs.Ytnapfiheholhiaa
open Go Go.RowKit Go.Proofs.YtnapfiheholhiaaSym

set_option maxRecDepth 100000 in
set_option maxHeartbeats 8000000 in
theorem Plays_calls (v : Value) (ds : List Deed) (t who : ByteArray) (w : World) (hs : Sl 8 encDeed w v ds) (hx : ds.length ≤ 9223372036854775807) :
    Does Try.prog 8 [v, .string t, .string who] w (Ret w (.bool true)) := by
  have hheavy := fun w hs => heavy_calls v ds 30 w hs hx
  have hs0 := hs
  obtain ⟨a, cp, rfl, hs⟩ := hs
  refine calls_J (ys := [.slice a ds.length cp, .string t, .string who]) Try.func8 rfl Try.ntmps8 rfl ?_
  refine J.at_ (S := St w [] []) ?_ (St.start w)
  cases hh : heavyB ds 30 with
  | true =>
    rw [hh] at hheavy
    repeat' (first
      | refine JE.pure rfl rfl (by conv => lhs; whnf) rfl ?_
      | refine JE.skip rfl rfl ?_
      | with_reducible refine JE.sN ?_
      | with_reducible refine J.seq ?_
      | with_reducible refine J.region ?_
      | refine J.condT rfl ?_
      | refine J.condF rfl ?_
      | with_reducible refine J.skip ?_
      | with_reducible refine J.ret ?_
      | with_reducible refine JX.thenN ?_
      | with_reducible refine JX.thenR ?_
      | (refine JE.isF 10 ?_; refine JE.call rfl rfl (by repeat (first | exact NfL.nil rfl | apply NfL.cons (by exact rfl) (by conv => lhs; whnf))) rfl ?_; refine CallG.ret (fun w hS => awake_calls w) ?_)
      | (refine JE.isF 11 ?_; refine JE.call rfl rfl (by repeat (first | exact NfL.nil rfl | apply NfL.cons (by exact rfl) (by conv => lhs; whnf))) rfl ?_; refine CallG.ret (fun w hS => hheavy w (hs0.below hS.below)) ?_))
    all_goals exact fnQ_tmp (.inl rfl) rfl (by conv => lhs; whnf) fun w'' hS' => ⟨rfl, hS'.below⟩
  | false =>
    rw [hh] at hheavy
    obtain ⟨hl20, hfit⟩ := light_of hh
    have hsm : sortMost = 39 := rfl
    have hgd := grown_doc ds
    have hgl := grown_length ds
    obtain ⟨m, hmeq⟩ : ∃ m, m = grownDoc ds := ⟨_, rfl⟩
    have hgc := fun w hs => grown_calls (.slice a ds.length cp) ds w hs hfit (by omega)
    rw [← hmeq] at hgd hgl hgc
    repeat' (first
      | refine JE.pure rfl rfl (by conv => lhs; whnf) rfl ?_
      | refine JE.skip rfl rfl ?_
      | (refine JE.kBin ?_; (refine JE.int rfl rfl rfl rfl rfl rfl ?_; with_reducible refine JE.waysD (fun _ => ?_) (fun _ => ?_)))
      | (refine JE.kBuiltin ?_; refine JE.lenStr rfl rfl rfl ?_)
      | with_reducible refine JE.sN ?_
      | with_reducible refine J.seq ?_
      | with_reducible refine J.region ?_
      | refine J.condT rfl ?_
      | refine J.condF rfl ?_
      | with_reducible refine J.skip ?_
      | with_reducible refine J.ret ?_
      | with_reducible refine JX.thenN ?_
      | with_reducible refine JX.thenR ?_
      | (refine JE.isF 10 ?_; refine JE.call rfl rfl (by repeat (first | exact NfL.nil rfl | apply NfL.cons (by exact rfl) (by conv => lhs; whnf))) rfl ?_; refine CallG.ret (fun w hS => awake_calls w) ?_)
      | (refine JE.isF 11 ?_; refine JE.call rfl rfl (by repeat (first | exact NfL.nil rfl | apply NfL.cons (by exact rfl) (by conv => lhs; whnf))) rfl ?_; refine CallG.ret (fun w hS => hheavy w (hs0.below hS.below)) ?_)
      | (refine JE.isF 12 ?_; refine JE.call rfl rfl (by repeat (first | exact NfL.nil rfl | apply NfL.cons (by exact rfl) (by conv => lhs; whnf))) rfl ?_; refine CallG.news (G := _) (fun w hS => hgc w (hs0.below hS.below)) ?_; rintro _ _ ⟨p, vm, l1, l2, rfl, rfl, hL, hm⟩)
      | (refine JE.isF 21 ?_; refine JE.call rfl rfl (by repeat (first | exact NfL.nil rfl | apply NfL.cons (by exact rfl) (by conv => lhs; whnf))) rfl ?_; refine CallG.ret (fun w hS => even_calls hL hm t who (by omega) w (hS.sub (l' := l1 ++ l2) (by repeat (first | exact List.Sublist.refl _ | exact List.nil_sublist _ | refine List.Sublist.append_left ?_ _ | exact List.sublist_append_left _ _ | apply List.Sublist.cons_cons | apply List.Sublist.cons | apply List.sublist_append_of_sublist_right))).own (hS.sub (l' := l1 ++ l2) (by repeat (first | exact List.Sublist.refl _ | exact List.nil_sublist _ | refine List.Sublist.append_left ?_ _ | exact List.sublist_append_left _ _ | apply List.Sublist.cons_cons | apply List.Sublist.cons | apply List.sublist_append_of_sublist_right))).nodup) ?_))
    all_goals exact fnQ_tmp (.inl rfl) rfl (by conv => lhs; whnf) fun w'' hS' => ⟨rfl, hS'.below⟩

end Go.Proofs.Ytnapfiheholhiaa
