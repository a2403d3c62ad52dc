/-
  The walk of the statement LienPays, second part. Conditions: none.
-/
import Derived.Test.YtnapfiheholhiaaPays
set_option linter.unusedVariables false
set_option linter.unusedSimpArgs false
namespace Go.Proofs.Ytnapfiheholhiaa
open Go Go.RowKit Go.Proofs.YtnapfiheholhiaaSym

set_option maxRecDepth 100000 in
set_option maxHeartbeats 16000000 in
theorem Pays_calls (v : Value) (ds : List Deed) (t : ByteArray) (s : Int) (w : World) (hs : Sl 8 encDeed w v ds) (hx : ds.length ≤ 9223372036854775807) :
    Does Try.prog 3 [v, .string t, .int .i64 s] w (Ret w (.bool true)) := by
  have hheavy := fun w hs => heavy_calls v ds 20 w hs hx
  have hs0 := hs
  obtain ⟨a, cp, rfl, hs⟩ := hs
  refine calls_J (ys := [.slice a ds.length cp, .string t, .int .i64 s]) Try.func3 rfl Try.ntmps3 rfl ?_
  refine J.at_ (S := St w [] []) ?_ (St.start w)
  cases hh : heavyB ds 20 with
  | true =>
    rw [hh] at hheavy
    repeat' (first
      | refine JE.pure rfl rfl (by conv => lhs; whnf) rfl ?_
      | refine JE.skip rfl rfl ?_
      | (refine JE.kBin ?_; first | (refine JE.int rfl rfl rfl rfl rfl rfl ?_; with_reducible refine JE.waysD (fun _ => ?_) (fun _ => ?_)) | refine JE.int rfl rfl rfl rfl (by rw [i64_id (by omega)]) rfl ?_ | refine JE.int rfl rfl rfl rfl rfl rfl ?_ | refine JE.eqBool rfl rfl rfl (by conv => lhs; whnf) rfl ?_ | refine JE.neBool rfl rfl rfl (by conv => lhs; whnf) rfl ?_ | refine JE.eqNilSl rfl rfl rfl rfl ?_ | (refine JE.eqStr rfl rfl rfl rfl ?_; with_reducible refine JE.waysD (fun _ => ?_) (fun _ => ?_)) | (refine JE.neStr rfl rfl rfl rfl ?_; with_reducible refine JE.waysD (fun _ => ?_) (fun _ => ?_)))
      | (refine JE.kField ?_; refine JE.fieldAddr rfl rfl rfl ?_)
      | (refine JE.kNil ?_; refine JE.nilCheck rfl rfl rfl ?_)
      | (refine JE.kLoad ?_; first | refine JE.load1 rfl rfl (by repeat (first | exact In.head | refine In.tail ?_ | refine In.app ?_)) rfl (by conv => lhs; whnf) (fun _ => by first | trivial | exact ⟨.inr ‹_›, trivial⟩ | exact ⟨.inl (by kernel_rfl), trivial⟩ | exact ⟨.inr ‹_›, .inr ‹_›, trivial⟩ | exact ⟨.inr ‹_›, .inl (by kernel_rfl), trivial⟩ | exact ⟨.inl (by kernel_rfl), .inr ‹_›, trivial⟩ | exact ⟨.inl (by kernel_rfl), .inl (by kernel_rfl), trivial⟩) rfl ?_ | refine JE.loadAll rfl rfl (by repeat (first | exact In.head | refine In.tail ?_ | refine In.app ?_)) (by rfl) (fun _ => by first | trivial | exact ⟨.inr ‹_›, trivial⟩ | exact ⟨.inl (by kernel_rfl), trivial⟩ | exact ⟨.inr ‹_›, .inr ‹_›, trivial⟩ | exact ⟨.inr ‹_›, .inl (by kernel_rfl), trivial⟩ | exact ⟨.inl (by kernel_rfl), .inr ‹_›, trivial⟩ | exact ⟨.inl (by kernel_rfl), .inl (by kernel_rfl), trivial⟩) rfl ?_ | refine JE.loadN rfl rfl (by repeat (first | exact In.head | refine In.tail ?_ | refine In.app ?_)) (by conv => lhs; whnf) (by rfl) (fun _ => by first | trivial | exact ⟨.inr ‹_›, trivial⟩ | exact ⟨.inl (by kernel_rfl), trivial⟩ | exact ⟨.inr ‹_›, .inr ‹_›, trivial⟩ | exact ⟨.inr ‹_›, .inl (by kernel_rfl), trivial⟩ | exact ⟨.inl (by kernel_rfl), .inr ‹_›, trivial⟩ | exact ⟨.inl (by kernel_rfl), .inl (by kernel_rfl), trivial⟩) rfl ?_)
      | (refine JE.kBox ?_; refine JE.box rfl (by conv => lhs; whnf) rfl (fun _ _ => ?_))
      | (refine JE.kAlloc ?_; refine JE.alloc rfl (by conv => lhs; whnf) rfl (fun _ _ => ?_))
      | (refine JE.kStore ?_; refine JE.store rfl rfl (by repeat (first | exact Turn.head | apply Turn.tail | apply Turn.app)) SizeT.size (by repeat (first | exact NfL.nil rfl | apply NfL.cons (by exact rfl) (by conv => lhs; whnf))) (by rfl) (by rfl) (by rfl) (by repeat (first | exact NfL.nil rfl | apply NfL.cons (by exact rfl) (by conv => lhs; whnf))) (by first | trivial | exact List.mem_cons_self | exact List.mem_cons_of_mem _ List.mem_cons_self) rfl ?_)
      | (refine JE.kBuiltin ?_; first | refine JE.lenSl rfl rfl rfl ?_ | refine JE.lenStr rfl rfl rfl ?_ | refine JE.max2 rfl rfl rfl rfl rfl ?_ | refine JE.min2 rfl rfl rfl rfl rfl ?_)
      | (refine JE.kBuild ?_; refine JE.build rfl rfl (by repeat (first | exact NfL.nil rfl | apply NfL.cons (by exact rfl) (by conv => lhs; whnf))) rfl ?_)
      | (refine JE.kBuildSlice ?_; refine JE.buildSlice rfl rfl rfl (by conv => lhs; whnf) (by rfl) (by rfl) (by repeat (first | exact NfL.nil rfl | apply NfL.cons (by exact rfl) (by conv => lhs; whnf))) rfl (fun _ _ => ?_))
      | (refine JE.kRange ?_; refine JE.rangeStr rfl rfl rfl (fun _ _ => ?_))
      | with_reducible refine JE.sN ?_
      | with_reducible refine JE.sX ?_
      | with_reducible refine JE.dN ?_
      | with_reducible refine JE.dX ?_
      | with_reducible refine J.seq ?_
      | with_reducible refine J.region ?_
      | refine J.condT rfl ?_
      | refine J.condF rfl ?_
      | with_reducible refine J.skip ?_
      | with_reducible refine J.exit ?_
      | with_reducible refine J.block ?_
      | with_reducible refine J.ret ?_
      | with_reducible refine JX.thenN ?_
      | with_reducible refine JX.thenR ?_
      | with_reducible refine JX.thenE ?_
      | with_reducible refine JX.blkS ?_
      | (with_reducible refine JX.blkE ?_ ?_; exact rfl)
      | with_reducible refine JX.blkN ?_
      | with_reducible refine JX.blkR ?_
      | (refine JE.isF 10 ?_; refine JE.call rfl rfl (by repeat (first | exact NfL.nil rfl | apply NfL.cons (by exact rfl) (by conv => lhs; whnf))) rfl ?_; refine CallG.ret (fun w hS => awake_calls w) ?_)
      | (refine JE.isF 11 ?_; refine JE.call rfl rfl (by repeat (first | exact NfL.nil rfl | apply NfL.cons (by exact rfl) (by conv => lhs; whnf))) rfl ?_; refine CallG.ret (fun w hS => hheavy w (hs0.below hS.below)) ?_))
    all_goals exact fnQ_tmp (.inl rfl) rfl (by conv => lhs; whnf) fun w'' hS' => ⟨rfl, hS'.below⟩
  | false =>
    rw [hh] at hheavy
    obtain ⟨hl20, hfit⟩ := light_of hh
    by_cases ht : 100 < t.size ∨ s < 0 ∨ 1099511627776 < s
    · skip
      repeat' (first
        | refine JE.pure rfl rfl (by conv => lhs; whnf) rfl ?_
        | refine JE.skip rfl rfl ?_
        | (refine JE.kBin ?_; first | (refine JE.int rfl rfl rfl rfl rfl rfl ?_; with_reducible refine JE.waysD (fun _ => ?_) (fun _ => ?_)) | refine JE.int rfl rfl rfl rfl (by rw [i64_id (by omega)]) rfl ?_ | refine JE.int rfl rfl rfl rfl rfl rfl ?_ | refine JE.eqBool rfl rfl rfl (by conv => lhs; whnf) rfl ?_ | refine JE.neBool rfl rfl rfl (by conv => lhs; whnf) rfl ?_ | refine JE.eqNilSl rfl rfl rfl rfl ?_ | (refine JE.eqStr rfl rfl rfl rfl ?_; with_reducible refine JE.waysD (fun _ => ?_) (fun _ => ?_)) | (refine JE.neStr rfl rfl rfl rfl ?_; with_reducible refine JE.waysD (fun _ => ?_) (fun _ => ?_)))
        | (refine JE.kField ?_; refine JE.fieldAddr rfl rfl rfl ?_)
        | (refine JE.kNil ?_; refine JE.nilCheck rfl rfl rfl ?_)
        | (refine JE.kLoad ?_; first | refine JE.load1 rfl rfl (by repeat (first | exact In.head | refine In.tail ?_ | refine In.app ?_)) rfl (by conv => lhs; whnf) (fun _ => by first | trivial | exact ⟨.inr ‹_›, trivial⟩ | exact ⟨.inl (by kernel_rfl), trivial⟩ | exact ⟨.inr ‹_›, .inr ‹_›, trivial⟩ | exact ⟨.inr ‹_›, .inl (by kernel_rfl), trivial⟩ | exact ⟨.inl (by kernel_rfl), .inr ‹_›, trivial⟩ | exact ⟨.inl (by kernel_rfl), .inl (by kernel_rfl), trivial⟩) rfl ?_ | refine JE.loadAll rfl rfl (by repeat (first | exact In.head | refine In.tail ?_ | refine In.app ?_)) (by rfl) (fun _ => by first | trivial | exact ⟨.inr ‹_›, trivial⟩ | exact ⟨.inl (by kernel_rfl), trivial⟩ | exact ⟨.inr ‹_›, .inr ‹_›, trivial⟩ | exact ⟨.inr ‹_›, .inl (by kernel_rfl), trivial⟩ | exact ⟨.inl (by kernel_rfl), .inr ‹_›, trivial⟩ | exact ⟨.inl (by kernel_rfl), .inl (by kernel_rfl), trivial⟩) rfl ?_ | refine JE.loadN rfl rfl (by repeat (first | exact In.head | refine In.tail ?_ | refine In.app ?_)) (by conv => lhs; whnf) (by rfl) (fun _ => by first | trivial | exact ⟨.inr ‹_›, trivial⟩ | exact ⟨.inl (by kernel_rfl), trivial⟩ | exact ⟨.inr ‹_›, .inr ‹_›, trivial⟩ | exact ⟨.inr ‹_›, .inl (by kernel_rfl), trivial⟩ | exact ⟨.inl (by kernel_rfl), .inr ‹_›, trivial⟩ | exact ⟨.inl (by kernel_rfl), .inl (by kernel_rfl), trivial⟩) rfl ?_)
        | (refine JE.kBox ?_; refine JE.box rfl (by conv => lhs; whnf) rfl (fun _ _ => ?_))
        | (refine JE.kAlloc ?_; refine JE.alloc rfl (by conv => lhs; whnf) rfl (fun _ _ => ?_))
        | (refine JE.kStore ?_; refine JE.store rfl rfl (by repeat (first | exact Turn.head | apply Turn.tail | apply Turn.app)) SizeT.size (by repeat (first | exact NfL.nil rfl | apply NfL.cons (by exact rfl) (by conv => lhs; whnf))) (by rfl) (by rfl) (by rfl) (by repeat (first | exact NfL.nil rfl | apply NfL.cons (by exact rfl) (by conv => lhs; whnf))) (by first | trivial | exact List.mem_cons_self | exact List.mem_cons_of_mem _ List.mem_cons_self) rfl ?_)
        | (refine JE.kBuiltin ?_; first | refine JE.lenSl rfl rfl rfl ?_ | refine JE.lenStr rfl rfl rfl ?_ | refine JE.max2 rfl rfl rfl rfl rfl ?_ | refine JE.min2 rfl rfl rfl rfl rfl ?_)
        | (refine JE.kBuild ?_; refine JE.build rfl rfl (by repeat (first | exact NfL.nil rfl | apply NfL.cons (by exact rfl) (by conv => lhs; whnf))) rfl ?_)
        | (refine JE.kBuildSlice ?_; refine JE.buildSlice rfl rfl rfl (by conv => lhs; whnf) (by rfl) (by rfl) (by repeat (first | exact NfL.nil rfl | apply NfL.cons (by exact rfl) (by conv => lhs; whnf))) rfl (fun _ _ => ?_))
        | (refine JE.kRange ?_; refine JE.rangeStr rfl rfl rfl (fun _ _ => ?_))
        | with_reducible refine JE.sN ?_
        | with_reducible refine JE.sX ?_
        | with_reducible refine JE.dN ?_
        | with_reducible refine JE.dX ?_
        | with_reducible refine J.seq ?_
        | with_reducible refine J.region ?_
        | refine J.condT rfl ?_
        | refine J.condF rfl ?_
        | with_reducible refine J.skip ?_
        | with_reducible refine J.exit ?_
        | with_reducible refine J.block ?_
        | with_reducible refine J.ret ?_
        | with_reducible refine JX.thenN ?_
        | with_reducible refine JX.thenR ?_
        | with_reducible refine JX.thenE ?_
        | with_reducible refine JX.blkS ?_
        | (with_reducible refine JX.blkE ?_ ?_; exact rfl)
        | with_reducible refine JX.blkN ?_
        | with_reducible refine JX.blkR ?_
        | (refine JE.isF 10 ?_; refine JE.call rfl rfl (by repeat (first | exact NfL.nil rfl | apply NfL.cons (by exact rfl) (by conv => lhs; whnf))) rfl ?_; refine CallG.ret (fun w hS => awake_calls w) ?_)
        | (refine JE.isF 11 ?_; refine JE.call rfl rfl (by repeat (first | exact NfL.nil rfl | apply NfL.cons (by exact rfl) (by conv => lhs; whnf))) rfl ?_; refine CallG.ret (fun w hS => hheavy w (hs0.below hS.below)) ?_))
      all_goals first
        | (exfalso; omega)
        | exact fnQ_tmp (.inl rfl) rfl (by conv => lhs; whnf) fun w'' hS' => ⟨rfl, hS'.below⟩
    have hsm : sortMost = 20 := rfl
    have hgd := grown_doc ds
    have hr1 := grown_row ds t
    obtain ⟨m, hmeq⟩ : ∃ m, m = grownDoc ds := ⟨_, rfl⟩
    have hgc := fun w hs => grown_calls (.slice a ds.length cp) ds w hs hfit (by omega)
    rw [← hmeq] at hgd hr1 hgc
    have hrl : (rank26 m t).length ≤ 20 := by rw [rank_length]; omega
    have hs00 : 0 ≤ s := by omega
    have hsn : ¬ (s < 0 ∨ 1099511627776 < s) := by omega
    by_cases hrow : rowOf m t = []
    · have hans : payAns m t s = ([], 0, 4, m) := by rw [payAns, if_neg hsn, if_pos hrow]
      have hrk : rank26 m t = [] := by rw [rank26, hrow]; rfl
      repeat' (first
        | refine JE.pure rfl rfl (by conv => lhs; whnf) rfl ?_
        | refine JE.skip rfl rfl ?_
        | (refine JE.kBin ?_; first | (refine JE.int rfl rfl rfl rfl rfl rfl ?_; with_reducible refine JE.waysD (fun _ => ?_) (fun _ => ?_)) | refine JE.int rfl rfl rfl rfl (by rw [i64_id (by omega)]) rfl ?_ | refine JE.int rfl rfl rfl rfl rfl rfl ?_ | refine JE.eqBool rfl rfl rfl (by conv => lhs; whnf) rfl ?_ | refine JE.neBool rfl rfl rfl (by conv => lhs; whnf) rfl ?_ | refine JE.eqNilSl rfl rfl rfl rfl ?_ | (refine JE.eqStr rfl rfl rfl rfl ?_; with_reducible refine JE.waysD (fun _ => ?_) (fun _ => ?_)) | (refine JE.neStr rfl rfl rfl rfl ?_; with_reducible refine JE.waysD (fun _ => ?_) (fun _ => ?_)))
        | (refine JE.kField ?_; refine JE.fieldAddr rfl rfl rfl ?_)
        | (refine JE.kNil ?_; refine JE.nilCheck rfl rfl rfl ?_)
        | (refine JE.kLoad ?_; first | refine JE.load1 rfl rfl (by repeat (first | exact In.head | refine In.tail ?_ | refine In.app ?_)) rfl (by conv => lhs; whnf) (fun _ => by first | trivial | exact ⟨.inr ‹_›, trivial⟩ | exact ⟨.inl (by kernel_rfl), trivial⟩ | exact ⟨.inr ‹_›, .inr ‹_›, trivial⟩ | exact ⟨.inr ‹_›, .inl (by kernel_rfl), trivial⟩ | exact ⟨.inl (by kernel_rfl), .inr ‹_›, trivial⟩ | exact ⟨.inl (by kernel_rfl), .inl (by kernel_rfl), trivial⟩) rfl ?_ | refine JE.loadAll rfl rfl (by repeat (first | exact In.head | refine In.tail ?_ | refine In.app ?_)) (by rfl) (fun _ => by first | trivial | exact ⟨.inr ‹_›, trivial⟩ | exact ⟨.inl (by kernel_rfl), trivial⟩ | exact ⟨.inr ‹_›, .inr ‹_›, trivial⟩ | exact ⟨.inr ‹_›, .inl (by kernel_rfl), trivial⟩ | exact ⟨.inl (by kernel_rfl), .inr ‹_›, trivial⟩ | exact ⟨.inl (by kernel_rfl), .inl (by kernel_rfl), trivial⟩) rfl ?_ | refine JE.loadN rfl rfl (by repeat (first | exact In.head | refine In.tail ?_ | refine In.app ?_)) (by conv => lhs; whnf) (by rfl) (fun _ => by first | trivial | exact ⟨.inr ‹_›, trivial⟩ | exact ⟨.inl (by kernel_rfl), trivial⟩ | exact ⟨.inr ‹_›, .inr ‹_›, trivial⟩ | exact ⟨.inr ‹_›, .inl (by kernel_rfl), trivial⟩ | exact ⟨.inl (by kernel_rfl), .inr ‹_›, trivial⟩ | exact ⟨.inl (by kernel_rfl), .inl (by kernel_rfl), trivial⟩) rfl ?_)
        | (refine JE.kBox ?_; refine JE.box rfl (by conv => lhs; whnf) rfl (fun _ _ => ?_))
        | (refine JE.kAlloc ?_; refine JE.alloc rfl (by conv => lhs; whnf) rfl (fun _ _ => ?_))
        | (refine JE.kStore ?_; refine JE.store rfl rfl (by repeat (first | exact Turn.head | apply Turn.tail | apply Turn.app)) SizeT.size (by repeat (first | exact NfL.nil rfl | apply NfL.cons (by exact rfl) (by conv => lhs; whnf))) (by rfl) (by rfl) (by rfl) (by repeat (first | exact NfL.nil rfl | apply NfL.cons (by exact rfl) (by conv => lhs; whnf))) (by first | trivial | exact List.mem_cons_self | exact List.mem_cons_of_mem _ List.mem_cons_self) rfl ?_)
        | (refine JE.kBuiltin ?_; first | refine JE.lenSl rfl rfl rfl ?_ | refine JE.lenStr rfl rfl rfl ?_ | refine JE.max2 rfl rfl rfl rfl rfl ?_ | refine JE.min2 rfl rfl rfl rfl rfl ?_)
        | (refine JE.kBuild ?_; refine JE.build rfl rfl (by repeat (first | exact NfL.nil rfl | apply NfL.cons (by exact rfl) (by conv => lhs; whnf))) rfl ?_)
        | (refine JE.kBuildSlice ?_; refine JE.buildSlice rfl rfl rfl (by conv => lhs; whnf) (by rfl) (by rfl) (by repeat (first | exact NfL.nil rfl | apply NfL.cons (by exact rfl) (by conv => lhs; whnf))) rfl (fun _ _ => ?_))
        | (refine JE.kRange ?_; refine JE.rangeStr rfl rfl rfl (fun _ _ => ?_))
        | with_reducible refine JE.sN ?_
        | with_reducible refine JE.sX ?_
        | with_reducible refine JE.dN ?_
        | with_reducible refine JE.dX ?_
        | with_reducible refine J.seq ?_
        | with_reducible refine J.region ?_
        | refine J.condT rfl ?_
        | refine J.condF rfl ?_
        | with_reducible refine J.skip ?_
        | with_reducible refine J.exit ?_
        | with_reducible refine J.block ?_
        | with_reducible refine J.ret ?_
        | with_reducible refine JX.thenN ?_
        | with_reducible refine JX.thenR ?_
        | with_reducible refine JX.thenE ?_
        | with_reducible refine JX.blkS ?_
        | (with_reducible refine JX.blkE ?_ ?_; exact rfl)
        | with_reducible refine JX.blkN ?_
        | with_reducible refine JX.blkR ?_
        | (refine JE.isF 10 ?_; refine JE.call rfl rfl (by repeat (first | exact NfL.nil rfl | apply NfL.cons (by exact rfl) (by conv => lhs; whnf))) rfl ?_; refine CallG.ret (fun w hS => awake_calls w) ?_)
        | (refine JE.isF 11 ?_; refine JE.call rfl rfl (by repeat (first | exact NfL.nil rfl | apply NfL.cons (by exact rfl) (by conv => lhs; whnf))) rfl ?_; refine CallG.ret (fun w hS => hheavy w (hs0.below hS.below)) ?_)
        | (refine JE.isF 12 ?_; refine JE.call rfl rfl (by repeat (first | exact NfL.nil rfl | apply NfL.cons (by exact rfl) (by conv => lhs; whnf))) rfl ?_; refine CallG.news (G := _) (fun w hS => hgc w (hs0.below hS.below)) ?_; rintro _ _ ⟨p, vm, l1, l2, rfl, rfl, hL, hm⟩; refine JE.perm (List.Perm.of_eq (List.append_assoc _ _ _)) ?_)
        | (refine JE.isF 13 ?_; refine JE.call rfl rfl (by repeat (first | exact NfL.nil rfl | apply NfL.cons (by exact rfl) (by conv => lhs; whnf))) rfl ?_; refine CallG.news (G := _) (fun w hS => rank_calls hL t (by omega) w (hS.sub (l' := l1) (by repeat (first | exact List.Sublist.refl _ | exact List.nil_sublist _ | refine List.Sublist.append_left ?_ _ | exact List.sublist_append_left _ _ | apply List.Sublist.cons_cons | apply List.Sublist.cons | apply List.sublist_append_of_sublist_right))).own (hS.sub (l' := l1) (by repeat (first | exact List.Sublist.refl _ | exact List.nil_sublist _ | refine List.Sublist.append_left ?_ _ | exact List.sublist_append_left _ _ | apply List.Sublist.cons_cons | apply List.Sublist.cons | apply List.sublist_append_of_sublist_right))).nodup) ?_; rintro v10 l10 ho10; rw [hrk] at ho10; obtain ⟨a10, c10, rfl, _⟩ := ho10.shape)
        | (refine JE.isF 14 ?_; refine JE.call rfl rfl (by repeat (first | exact NfL.nil rfl | apply NfL.cons (by exact rfl) (by conv => lhs; whnf))) rfl ?_; refine CallG.obj (ln := l1) (G := _) (by repeat (first | exact Seg.head | exact Seg.all | exact Seg.one | apply Seg.tail | apply Seg.cons)) (fun w hS => pay_calls hL t s (by omega) w (hS.owns (by repeat (first | exact Seg.head | exact Seg.all | exact Seg.one | apply Seg.tail | apply Seg.cons))) (hS.dist (by repeat (first | exact Seg.head | exact Seg.all | exact Seg.one | apply Seg.tail | apply Seg.cons)))) (fun _ _ _ _ => trivial) ?_; rw [hans]; rintro _ _ ⟨v11, l11, l3, rfl, rfl, ho11, hL3⟩))
      all_goals first
        | (exfalso; omega)
        | exact absurd rfl ‹_›
        | exact fnQ_tmp (.inl rfl) rfl (by conv => lhs; whnf) fun w'' hS' => ⟨rfl, hS'.below⟩
    have hans : payAns m t s = ((payE (rank26 m t) s).1, (payE (rank26 m t) s).2.2, 0, pay26 m t s) := by rw [payAns, if_neg hsn, if_neg hrow]
    have hbeh := pay_behind hgd t hs00
    have hrow2 : (rowOf (pay26 m t s) t).length ≤ 20 := by rw [rowOf_pay, if_pos rfl]; exact Nat.le_trans (List.length_filterMap_le _ _) (by omega)
    have hd2 := hgd.pay t s
    have hb2 : (rank26 (pay26 m t s) t).length ≤ 20 := by rw [rank_length]; exact hrow2
    have hramt : ∀ p ∈ rank26 m t, 0 < p.amount ∧ p.amount ≤ 1099511627776 := fun p hp => by
      have := (may_of (hgd.may p (Doc.rankMem hp).1)).2.2.2.2; omega
    have hbamt : ∀ p ∈ rank26 (pay26 m t s) t, 0 < p.amount ∧ p.amount ≤ 1099511627776 := fun p hp => by
      have := (may_of (hd2.may p (Doc.rankMem hp).1)).2.2.2.2; omega
    have hr0 : 0 < (rank26 m t).length := by rw [rank_length]; exact List.length_pos_iff.2 hrow
    obtain ⟨rk, hrk⟩ : ∃ rk, rk = rank26 m t := ⟨_, rfl⟩
    obtain ⟨bh, hbh⟩ : ∃ bh, bh = rank26 (pay26 m t s) t := ⟨_, rfl⟩
    rw [← hrk] at hans hbeh hrl hramt hr0
    rw [← hbh] at hbeh hb2 hbamt
    have hat := payE_at rk s hs00 fun p hp => (hramt p hp).1
    have hsum := payE_sum rk s
    have hrest := payE_rest rk s hs00 fun p hp => (hramt p hp).1
    have hElen := payE_len rk s
    obtain ⟨E, hE⟩ : ∃ E, E = (payE rk s).1 := ⟨_, rfl⟩
    obtain ⟨u, hu⟩ : ∃ u, u = (payE rk s).2.2 := ⟨_, rfl⟩
    rw [← hE, ← hu] at hans hsum
    rw [← hu] at hbeh hrest
    rw [← hE] at hat hElen
    have hrb := fun k => sumP_bound (rk.take k) fun p hp => hramt p (List.mem_of_mem_take hp)
    have hbb := fun k => sumP_bound (bh.take k) fun p hp => hbamt p (List.mem_of_mem_take hp)
    have hrtl : ∀ k, (rk.take k).length ≤ 20 := fun k => by rw [List.length_take]; omega
    have hbtl : ∀ k, (bh.take k).length ≤ 20 := fun k => by rw [List.length_take]; omega
    have hEb : ∀ k, 0 ≤ sumE (E.take k) ∧ sumE (E.take k) ≤ k * 1099511627776 := by
      intro k
      induction k with
      | zero => simp [sumE]
      | succ k ih =>
        cases hk : E[k]? with
        | none =>
          rw [List.getElem?_eq_none_iff] at hk
          rw [List.take_of_length_le (by omega)]
          rw [List.take_of_length_le hk] at ih
          omega
        | some e =>
          obtain ⟨p, g1, _, _, g4, g5, _⟩ := hat k e hk
          have := hramt p (List.mem_of_getElem? g1)
          rw [sumE_take hk]; omega
    repeat' (first
      | refine JE.pure rfl rfl (by conv => lhs; whnf) rfl ?_
      | refine JE.skip rfl rfl ?_
      | (refine JE.kBin ?_; first | (refine JE.int rfl rfl rfl rfl rfl rfl ?_; with_reducible refine JE.waysD (fun _ => ?_) (fun _ => ?_)) | refine JE.int rfl rfl rfl rfl (by rw [i64_id (by omega)]) rfl ?_ | refine JE.int rfl rfl rfl rfl rfl rfl ?_ | refine JE.eqBool rfl rfl rfl (by conv => lhs; whnf) rfl ?_ | refine JE.neBool rfl rfl rfl (by conv => lhs; whnf) rfl ?_ | refine JE.eqNilSl rfl rfl rfl rfl ?_ | (refine JE.eqStr rfl rfl rfl rfl ?_; with_reducible refine JE.waysD (fun _ => ?_) (fun _ => ?_)) | (refine JE.neStr rfl rfl rfl rfl ?_; with_reducible refine JE.waysD (fun _ => ?_) (fun _ => ?_)))
      | (refine JE.kField ?_; refine JE.fieldAddr rfl rfl rfl ?_)
      | (refine JE.kNil ?_; refine JE.nilCheck rfl rfl rfl ?_)
      | (refine JE.kLoad ?_; first | refine JE.load1 rfl rfl (by repeat (first | exact In.head | refine In.tail ?_ | refine In.app ?_)) rfl (by conv => lhs; whnf) (fun _ => by first | trivial | exact ⟨.inr ‹_›, trivial⟩ | exact ⟨.inl (by kernel_rfl), trivial⟩ | exact ⟨.inr ‹_›, .inr ‹_›, trivial⟩ | exact ⟨.inr ‹_›, .inl (by kernel_rfl), trivial⟩ | exact ⟨.inl (by kernel_rfl), .inr ‹_›, trivial⟩ | exact ⟨.inl (by kernel_rfl), .inl (by kernel_rfl), trivial⟩) rfl ?_ | refine JE.loadAll rfl rfl (by repeat (first | exact In.head | refine In.tail ?_ | refine In.app ?_)) (by rfl) (fun _ => by first | trivial | exact ⟨.inr ‹_›, trivial⟩ | exact ⟨.inl (by kernel_rfl), trivial⟩ | exact ⟨.inr ‹_›, .inr ‹_›, trivial⟩ | exact ⟨.inr ‹_›, .inl (by kernel_rfl), trivial⟩ | exact ⟨.inl (by kernel_rfl), .inr ‹_›, trivial⟩ | exact ⟨.inl (by kernel_rfl), .inl (by kernel_rfl), trivial⟩) rfl ?_ | refine JE.loadN rfl rfl (by repeat (first | exact In.head | refine In.tail ?_ | refine In.app ?_)) (by conv => lhs; whnf) (by rfl) (fun _ => by first | trivial | exact ⟨.inr ‹_›, trivial⟩ | exact ⟨.inl (by kernel_rfl), trivial⟩ | exact ⟨.inr ‹_›, .inr ‹_›, trivial⟩ | exact ⟨.inr ‹_›, .inl (by kernel_rfl), trivial⟩ | exact ⟨.inl (by kernel_rfl), .inr ‹_›, trivial⟩ | exact ⟨.inl (by kernel_rfl), .inl (by kernel_rfl), trivial⟩) rfl ?_)
      | (refine JE.kBox ?_; refine JE.box rfl (by conv => lhs; whnf) rfl (fun _ _ => ?_))
      | (refine JE.kAlloc ?_; refine JE.alloc rfl (by conv => lhs; whnf) rfl (fun _ _ => ?_))
      | (refine JE.kStore ?_; refine JE.store rfl rfl (by repeat (first | exact Turn.head | apply Turn.tail | apply Turn.app)) SizeT.size (by repeat (first | exact NfL.nil rfl | apply NfL.cons (by exact rfl) (by conv => lhs; whnf))) (by rfl) (by rfl) (by rfl) (by repeat (first | exact NfL.nil rfl | apply NfL.cons (by exact rfl) (by conv => lhs; whnf))) (by first | trivial | exact List.mem_cons_self | exact List.mem_cons_of_mem _ List.mem_cons_self) rfl ?_)
      | (refine JE.kBuiltin ?_; first | refine JE.lenSl rfl rfl rfl ?_ | refine JE.lenStr rfl rfl rfl ?_ | refine JE.max2 rfl rfl rfl rfl rfl ?_ | refine JE.min2 rfl rfl rfl rfl rfl ?_)
      | (refine JE.kBuild ?_; refine JE.build rfl rfl (by repeat (first | exact NfL.nil rfl | apply NfL.cons (by exact rfl) (by conv => lhs; whnf))) rfl ?_)
      | (refine JE.kBuildSlice ?_; refine JE.buildSlice rfl rfl rfl (by conv => lhs; whnf) (by rfl) (by rfl) (by repeat (first | exact NfL.nil rfl | apply NfL.cons (by exact rfl) (by conv => lhs; whnf))) rfl (fun _ _ => ?_))
      | (refine JE.kRange ?_; refine JE.rangeStr rfl rfl rfl (fun _ _ => ?_))
      | with_reducible refine JE.sN ?_
      | with_reducible refine JE.sX ?_
      | with_reducible refine JE.dN ?_
      | with_reducible refine JE.dX ?_
      | with_reducible refine J.seq ?_
      | with_reducible refine J.region ?_
      | refine J.condT rfl ?_
      | refine J.condF rfl ?_
      | with_reducible refine J.skip ?_
      | with_reducible refine J.exit ?_
      | with_reducible refine J.block ?_
      | with_reducible refine J.ret ?_
      | with_reducible refine JX.thenN ?_
      | with_reducible refine JX.thenR ?_
      | with_reducible refine JX.thenE ?_
      | with_reducible refine JX.blkS ?_
      | (with_reducible refine JX.blkE ?_ ?_; exact rfl)
      | with_reducible refine JX.blkN ?_
      | with_reducible refine JX.blkR ?_
      | (refine JE.isF 10 ?_; refine JE.call rfl rfl (by repeat (first | exact NfL.nil rfl | apply NfL.cons (by exact rfl) (by conv => lhs; whnf))) rfl ?_; refine CallG.ret (fun w hS => awake_calls w) ?_)
      | (refine JE.isF 11 ?_; refine JE.call rfl rfl (by repeat (first | exact NfL.nil rfl | apply NfL.cons (by exact rfl) (by conv => lhs; whnf))) rfl ?_; refine CallG.ret (fun w hS => hheavy w (hs0.below hS.below)) ?_)
      | (refine JE.isF 12 ?_; refine JE.call rfl rfl (by repeat (first | exact NfL.nil rfl | apply NfL.cons (by exact rfl) (by conv => lhs; whnf))) rfl ?_; refine CallG.news (G := _) (fun w hS => hgc w (hs0.below hS.below)) ?_; rintro _ _ ⟨p, vm, l1, l2, rfl, rfl, hL, hm⟩; refine JE.perm (List.Perm.of_eq (List.append_assoc _ _ _)) ?_)
      | (refine JE.isF 13 ?_; refine JE.call rfl rfl (by repeat (first | exact NfL.nil rfl | apply NfL.cons (by exact rfl) (by conv => lhs; whnf))) rfl ?_; refine CallG.news (G := _) (fun w hS => rank_calls hL t (by omega) w (hS.sub (l' := l1) (by repeat (first | exact List.Sublist.refl _ | exact List.nil_sublist _ | refine List.Sublist.append_left ?_ _ | exact List.sublist_append_left _ _ | apply List.Sublist.cons_cons | apply List.Sublist.cons | apply List.sublist_append_of_sublist_right))).own (hS.sub (l' := l1) (by repeat (first | exact List.Sublist.refl _ | exact List.nil_sublist _ | refine List.Sublist.append_left ?_ _ | exact List.sublist_append_left _ _ | apply List.Sublist.cons_cons | apply List.Sublist.cons | apply List.sublist_append_of_sublist_right))).nodup) ?_; rintro v10 l10 ho10; rw [← hrk] at ho10; obtain ⟨a10, c10, rfl, _⟩ := ho10.shape)
      | (refine JE.isF 14 ?_; refine JE.call rfl rfl (by repeat (first | exact NfL.nil rfl | apply NfL.cons (by exact rfl) (by conv => lhs; whnf))) rfl ?_; refine CallG.obj (ln := l1) (G := _) (by repeat (first | exact Seg.head | exact Seg.all | exact Seg.one | apply Seg.tail | apply Seg.cons)) (fun w hS => pay_calls hL t s (by omega) w (hS.owns (by repeat (first | exact Seg.head | exact Seg.all | exact Seg.one | apply Seg.tail | apply Seg.cons))) (hS.dist (by repeat (first | exact Seg.head | exact Seg.all | exact Seg.one | apply Seg.tail | apply Seg.cons)))) (fun _ _ _ _ => trivial) ?_; rw [hans]; rintro _ _ ⟨v11, l11, l3, rfl, rfl, ho11, hL3⟩; obtain ⟨a11, c11, rfl, _⟩ := ho11.shape; refine JE.perm (List.Perm.of_eq (List.append_assoc _ _ _)) ?_))
    all_goals first
      | (exfalso; omega)
      | skip
    have hsl10 : ∀ w', St w [] l10 w' → Sl 6 encPledge w' (.slice a10 rk.length c10) rk := fun w' hS => ho10.sl encP_len hS.own
    have hsl11 : ∀ w', St w [] l11 w' → Sl 3 encEntry w' (.slice a11 E.length c11) E := fun w' hS => ho11.sl encE_len hS.own
    refine J.loop (fun f w' => ∃ (k : Nat), k ≤ E.length ∧ Has f [(1, .string t), (2, .int .i64 s), (7, .pointer (some ⟨p, 0, none⟩)), (10, .slice a10 rk.length c10), (11, .slice a11 E.length c11), (12, .int .i64 u), (13, .int .i64 0), (14, .int .i64 (u + sumE (E.take k))), (15, .int .i64 0), (16, .int .i64 k)] ∧ St w [] (l11 ++ (l3 ++ l10)) w')
      (fun f _ => E.length - (intOf (f 16)).toNat) (fun w' hS => ⟨0, Nat.zero_le _, ⟨rfl, rfl, rfl, rfl, rfl, rfl, rfl, congrArg (Value.int .i64) (by simp [sumE]), rfl, rfl, trivial⟩, hS.sub (by repeat (first | exact List.Sublist.refl _ | exact List.nil_sublist _ | refine List.Sublist.append_left ?_ _ | exact List.sublist_append_left _ _ | apply List.Sublist.cons_cons | apply List.Sublist.cons | apply List.sublist_append_of_sublist_right))⟩) ?_
    rintro f w' ⟨k, hk, hf, hS⟩
    obtain ⟨g, rfl⟩ := hf.eq
    clear hf
    refine J.at_ ?_ hS
    have hEk := hEb k
    by_cases hlt : k < E.length
    · have hxk : E[k]? = some E[k] := List.getElem?_eq_getElem hlt
      have htk := sumE_take hxk
      generalize E[k] = e at hxk htk
      obtain ⟨q, g1, g2, g3, g4, g5, g6⟩ := hat k e hxk
      have hqa := hramt q (List.mem_of_getElem? g1)
      obtain ⟨B10, off10, rfl⟩ : ∃ B off, a10 = some ⟨B, off, none⟩ := by
        obtain ⟨a', c', e1, h2⟩ := hsl10 _ (hS.sub (by repeat (first | exact List.Sublist.refl _ | exact List.nil_sublist _ | refine List.Sublist.append_left ?_ _ | exact List.sublist_append_left _ _ | apply List.Sublist.cons_cons | apply List.Sublist.cons | apply List.sublist_append_of_sublist_right)))
        obtain ⟨B, off, e2, _⟩ := h2 (by rintro e; rw [e] at g1; simp at g1)
        simp only [Value.slice.injEq] at e1
        exact ⟨B, off, e1.1.trans e2⟩
      obtain ⟨B11, off11, rfl⟩ : ∃ B off, a11 = some ⟨B, off, none⟩ := by
        obtain ⟨a', c', e1, h2⟩ := hsl11 _ (hS.sub (by repeat (first | exact List.Sublist.refl _ | exact List.nil_sublist _ | refine List.Sublist.append_left ?_ _ | exact List.sublist_append_left _ _ | apply List.Sublist.cons_cons | apply List.Sublist.cons | apply List.sublist_append_of_sublist_right)))
        obtain ⟨B, off, e2, _⟩ := h2 (by rintro e; rw [e] at hxk; simp at hxk)
        simp only [Value.slice.injEq] at e1
        exact ⟨B, off, e1.1.trans e2⟩
      have hr10 := rows_of hsl10 (by rintro e; rw [e] at g1; simp at g1)
      have hr11 := rows_of hsl11 (by rintro e; rw [e] at hxk; simp at hxk)
      have hkr : k < rk.length := (List.getElem?_eq_some_iff.1 g1).1
      repeat' (first
        | refine JE.pure rfl rfl (by conv => lhs; whnf) rfl ?_
        | refine JE.skip rfl rfl ?_
        | (refine JE.kBin ?_; first | (refine JE.int rfl rfl rfl rfl rfl rfl ?_; with_reducible refine JE.waysD (fun _ => ?_) (fun _ => ?_)) | refine JE.int rfl rfl rfl rfl (by rw [i64_id (by omega)]) rfl ?_ | refine JE.int rfl rfl rfl rfl rfl rfl ?_ | refine JE.eqBool rfl rfl rfl (by conv => lhs; whnf) rfl ?_ | refine JE.neBool rfl rfl rfl (by conv => lhs; whnf) rfl ?_ | refine JE.eqNilSl rfl rfl rfl rfl ?_ | (refine JE.eqStr rfl rfl rfl rfl ?_; with_reducible refine JE.waysD (fun _ => ?_) (fun _ => ?_)) | (refine JE.neStr rfl rfl rfl rfl ?_; with_reducible refine JE.waysD (fun _ => ?_) (fun _ => ?_)))
        | (refine JE.kField ?_; refine JE.fieldAddr rfl rfl rfl ?_)
        | (refine JE.kNil ?_; refine JE.nilCheck rfl rfl rfl ?_)
        | (refine JE.kLoad ?_; first | refine JE.load1 rfl rfl (by repeat (first | exact In.head | refine In.tail ?_ | refine In.app ?_)) rfl (by conv => lhs; whnf) (fun _ => by first | trivial | exact ⟨.inr ‹_›, trivial⟩ | exact ⟨.inl (by kernel_rfl), trivial⟩ | exact ⟨.inr ‹_›, .inr ‹_›, trivial⟩ | exact ⟨.inr ‹_›, .inl (by kernel_rfl), trivial⟩ | exact ⟨.inl (by kernel_rfl), .inr ‹_›, trivial⟩ | exact ⟨.inl (by kernel_rfl), .inl (by kernel_rfl), trivial⟩) rfl ?_ | refine JE.loadAll rfl rfl (by repeat (first | exact In.head | refine In.tail ?_ | refine In.app ?_)) (by rfl) (fun _ => by first | trivial | exact ⟨.inr ‹_›, trivial⟩ | exact ⟨.inl (by kernel_rfl), trivial⟩ | exact ⟨.inr ‹_›, .inr ‹_›, trivial⟩ | exact ⟨.inr ‹_›, .inl (by kernel_rfl), trivial⟩ | exact ⟨.inl (by kernel_rfl), .inr ‹_›, trivial⟩ | exact ⟨.inl (by kernel_rfl), .inl (by kernel_rfl), trivial⟩) rfl ?_ | refine JE.loadN rfl rfl (by repeat (first | exact In.head | refine In.tail ?_ | refine In.app ?_)) (by conv => lhs; whnf) (by rfl) (fun _ => by first | trivial | exact ⟨.inr ‹_›, trivial⟩ | exact ⟨.inl (by kernel_rfl), trivial⟩ | exact ⟨.inr ‹_›, .inr ‹_›, trivial⟩ | exact ⟨.inr ‹_›, .inl (by kernel_rfl), trivial⟩ | exact ⟨.inl (by kernel_rfl), .inr ‹_›, trivial⟩ | exact ⟨.inl (by kernel_rfl), .inl (by kernel_rfl), trivial⟩) rfl ?_)
        | (refine JE.kBox ?_; refine JE.box rfl (by conv => lhs; whnf) rfl (fun _ _ => ?_))
        | (refine JE.kAlloc ?_; refine JE.alloc rfl (by conv => lhs; whnf) rfl (fun _ _ => ?_))
        | (refine JE.kStore ?_; refine JE.store rfl rfl (by repeat (first | exact Turn.head | apply Turn.tail | apply Turn.app)) SizeT.size (by repeat (first | exact NfL.nil rfl | apply NfL.cons (by exact rfl) (by conv => lhs; whnf))) (by rfl) (by rfl) (by rfl) (by repeat (first | exact NfL.nil rfl | apply NfL.cons (by exact rfl) (by conv => lhs; whnf))) (by first | trivial | exact List.mem_cons_self | exact List.mem_cons_of_mem _ List.mem_cons_self) rfl ?_)
        | (refine JE.kBuiltin ?_; first | refine JE.lenSl rfl rfl rfl ?_ | refine JE.lenStr rfl rfl rfl ?_ | refine JE.max2 rfl rfl rfl rfl rfl ?_ | refine JE.min2 rfl rfl rfl rfl rfl ?_)
        | (refine JE.kBuild ?_; refine JE.build rfl rfl (by repeat (first | exact NfL.nil rfl | apply NfL.cons (by exact rfl) (by conv => lhs; whnf))) rfl ?_)
        | (refine JE.kBuildSlice ?_; refine JE.buildSlice rfl rfl rfl (by conv => lhs; whnf) (by rfl) (by rfl) (by repeat (first | exact NfL.nil rfl | apply NfL.cons (by exact rfl) (by conv => lhs; whnf))) rfl (fun _ _ => ?_))
        | (refine JE.kRange ?_; refine JE.rangeStr rfl rfl rfl (fun _ _ => ?_))
        | with_reducible refine JE.sN ?_
        | with_reducible refine JE.sX ?_
        | with_reducible refine JE.dN ?_
        | with_reducible refine JE.dX ?_
        | with_reducible refine J.seq ?_
        | with_reducible refine J.region ?_
        | refine J.condT rfl ?_
        | refine J.condF rfl ?_
        | with_reducible refine J.skip ?_
        | with_reducible refine J.exit ?_
        | with_reducible refine J.block ?_
        | with_reducible refine J.ret ?_
        | with_reducible refine JX.thenN ?_
        | with_reducible refine JX.thenR ?_
        | with_reducible refine JX.thenE ?_
        | with_reducible refine JX.blkS ?_
        | (with_reducible refine JX.blkE ?_ ?_; exact rfl)
        | with_reducible refine JX.blkN ?_
        | with_reducible refine JX.blkR ?_
        | (refine J.isR 16 ?_; refine J.draw [(0, true), (1, true), (2, true), (3, true), (4, true), (5, true), (6, true), (7, true), (8, true), (9, true), (10, true), (11, true), (12, true), (13, true), (14, true), (15, true), (16, true), (17, true), (18, true), (19, true), (20, true), (21, true), (22, true), (23, true), (24, true), (25, true), (26, true), (27, true), (28, true), (29, true), (30, true), (31, true), (32, true), (33, true), (34, true), (35, true), (36, true), (37, true), (38, true), (39, true), (40, true), (41, true), (42, true), (43, true), (44, true), (45, true), (46, true), (47, true), (48, true), (49, true), (50, true), (51, true), (52, true), (53, true), (54, true), (55, true), (56, true), (57, true), (58, true), (59, true), (60, true), (61, true), (62, true), (63, true), (64, true), (65, true)] [] mixed (by kernel_rfl) (fun _ h => h.drew) ?_)
        | (refine JE.kIndexAddr ?_; refine JE.indexAddr rfl rfl rfl (Int.natCast_nonneg _) (by omega) rfl ?_)
        | (refine JE.kLoad ?_; first | refine JE.loadRowCS (B := B11) (x := e) rfl rfl (fun w' hS' => hr11 w' (hS'.sub (by repeat (first | exact List.Sublist.refl _ | exact List.nil_sublist _ | refine List.Sublist.append_left ?_ _ | exact List.sublist_append_left _ _ | apply List.Sublist.cons_cons | apply List.Sublist.cons | apply List.sublist_append_of_sublist_right)))) hxk rfl rfl (fun h => by first | exact trivial | cases h) rfl ?_ | refine JE.loadRowCS (B := B10) (x := q) rfl rfl (fun w' hS' => hr10 w' (hS'.sub (by repeat (first | exact List.Sublist.refl _ | exact List.nil_sublist _ | refine List.Sublist.append_left ?_ _ | exact List.sublist_append_left _ _ | apply List.Sublist.cons_cons | apply List.Sublist.cons | apply List.sublist_append_of_sublist_right)))) g1 rfl rfl (fun h => by first | exact trivial | cases h) rfl ?_))
      all_goals first
        | (exfalso; omega)
        | exact absurd g2 ‹_›
        | exact absurd g3 ‹_›
        | (exfalso; have := g6 (by omega); omega)
        | (refine JX.round fun w'' hS' => ⟨⟨k + 1, hlt, ⟨rfl, rfl, rfl, rfl, rfl, rfl, rfl, congrArg (Value.int .i64) (by omega), rfl, rfl, trivial⟩, hS'⟩, ?_⟩
           show E.length - ((k : Int) + 1).toNat < E.length - ((k : Int)).toNat
           omega)
    · have hk' : k = E.length := by omega
      rw [hk', List.take_length, hsum]
      repeat' (first
        | refine JE.pure rfl rfl (by conv => lhs; whnf) rfl ?_
        | refine JE.skip rfl rfl ?_
        | (refine JE.kBin ?_; first | (refine JE.int rfl rfl rfl rfl rfl rfl ?_; with_reducible refine JE.waysD (fun _ => ?_) (fun _ => ?_)) | refine JE.int rfl rfl rfl rfl (by rw [i64_id (by omega)]) rfl ?_ | refine JE.int rfl rfl rfl rfl rfl rfl ?_ | refine JE.eqBool rfl rfl rfl (by conv => lhs; whnf) rfl ?_ | refine JE.neBool rfl rfl rfl (by conv => lhs; whnf) rfl ?_ | refine JE.eqNilSl rfl rfl rfl rfl ?_ | (refine JE.eqStr rfl rfl rfl rfl ?_; with_reducible refine JE.waysD (fun _ => ?_) (fun _ => ?_)) | (refine JE.neStr rfl rfl rfl rfl ?_; with_reducible refine JE.waysD (fun _ => ?_) (fun _ => ?_)))
        | (refine JE.kField ?_; refine JE.fieldAddr rfl rfl rfl ?_)
        | (refine JE.kNil ?_; refine JE.nilCheck rfl rfl rfl ?_)
        | (refine JE.kLoad ?_; first | refine JE.load1 rfl rfl (by repeat (first | exact In.head | refine In.tail ?_ | refine In.app ?_)) rfl (by conv => lhs; whnf) (fun _ => by first | trivial | exact ⟨.inr ‹_›, trivial⟩ | exact ⟨.inl (by kernel_rfl), trivial⟩ | exact ⟨.inr ‹_›, .inr ‹_›, trivial⟩ | exact ⟨.inr ‹_›, .inl (by kernel_rfl), trivial⟩ | exact ⟨.inl (by kernel_rfl), .inr ‹_›, trivial⟩ | exact ⟨.inl (by kernel_rfl), .inl (by kernel_rfl), trivial⟩) rfl ?_ | refine JE.loadAll rfl rfl (by repeat (first | exact In.head | refine In.tail ?_ | refine In.app ?_)) (by rfl) (fun _ => by first | trivial | exact ⟨.inr ‹_›, trivial⟩ | exact ⟨.inl (by kernel_rfl), trivial⟩ | exact ⟨.inr ‹_›, .inr ‹_›, trivial⟩ | exact ⟨.inr ‹_›, .inl (by kernel_rfl), trivial⟩ | exact ⟨.inl (by kernel_rfl), .inr ‹_›, trivial⟩ | exact ⟨.inl (by kernel_rfl), .inl (by kernel_rfl), trivial⟩) rfl ?_ | refine JE.loadN rfl rfl (by repeat (first | exact In.head | refine In.tail ?_ | refine In.app ?_)) (by conv => lhs; whnf) (by rfl) (fun _ => by first | trivial | exact ⟨.inr ‹_›, trivial⟩ | exact ⟨.inl (by kernel_rfl), trivial⟩ | exact ⟨.inr ‹_›, .inr ‹_›, trivial⟩ | exact ⟨.inr ‹_›, .inl (by kernel_rfl), trivial⟩ | exact ⟨.inl (by kernel_rfl), .inr ‹_›, trivial⟩ | exact ⟨.inl (by kernel_rfl), .inl (by kernel_rfl), trivial⟩) rfl ?_)
        | (refine JE.kBox ?_; refine JE.box rfl (by conv => lhs; whnf) rfl (fun _ _ => ?_))
        | (refine JE.kAlloc ?_; refine JE.alloc rfl (by conv => lhs; whnf) rfl (fun _ _ => ?_))
        | (refine JE.kStore ?_; refine JE.store rfl rfl (by repeat (first | exact Turn.head | apply Turn.tail | apply Turn.app)) SizeT.size (by repeat (first | exact NfL.nil rfl | apply NfL.cons (by exact rfl) (by conv => lhs; whnf))) (by rfl) (by rfl) (by rfl) (by repeat (first | exact NfL.nil rfl | apply NfL.cons (by exact rfl) (by conv => lhs; whnf))) (by first | trivial | exact List.mem_cons_self | exact List.mem_cons_of_mem _ List.mem_cons_self) rfl ?_)
        | (refine JE.kBuiltin ?_; first | refine JE.lenSl rfl rfl rfl ?_ | refine JE.lenStr rfl rfl rfl ?_ | refine JE.max2 rfl rfl rfl rfl rfl ?_ | refine JE.min2 rfl rfl rfl rfl rfl ?_)
        | (refine JE.kBuild ?_; refine JE.build rfl rfl (by repeat (first | exact NfL.nil rfl | apply NfL.cons (by exact rfl) (by conv => lhs; whnf))) rfl ?_)
        | (refine JE.kBuildSlice ?_; refine JE.buildSlice rfl rfl rfl (by conv => lhs; whnf) (by rfl) (by rfl) (by repeat (first | exact NfL.nil rfl | apply NfL.cons (by exact rfl) (by conv => lhs; whnf))) rfl (fun _ _ => ?_))
        | (refine JE.kRange ?_; refine JE.rangeStr rfl rfl rfl (fun _ _ => ?_))
        | with_reducible refine JE.sN ?_
        | with_reducible refine JE.sX ?_
        | with_reducible refine JE.dN ?_
        | with_reducible refine JE.dX ?_
        | with_reducible refine J.seq ?_
        | with_reducible refine J.region ?_
        | refine J.condT rfl ?_
        | refine J.condF rfl ?_
        | with_reducible refine J.skip ?_
        | with_reducible refine J.exit ?_
        | with_reducible refine J.block ?_
        | with_reducible refine J.ret ?_
        | with_reducible refine JX.thenN ?_
        | with_reducible refine JX.thenR ?_
        | with_reducible refine JX.thenE ?_
        | with_reducible refine JX.blkS ?_
        | (with_reducible refine JX.blkE ?_ ?_; exact rfl)
        | with_reducible refine JX.blkN ?_
        | with_reducible refine JX.blkR ?_)
      · exfalso; omega
      clear hS
      refine J.loop (fun f w' => ∃ (k : Nat), k ≤ rk.length ∧ Has f [(1, .string t), (2, .int .i64 s), (7, .pointer (some ⟨p, 0, none⟩)), (10, .slice a10 rk.length c10), (12, .int .i64 u), (13, .int .i64 0), (14, .int .i64 s), (15, .int .i64 (sumP (rk.take k))), (17, .int .i64 k)] ∧ St w [] (l11 ++ (l3 ++ l10)) w')
        (fun f _ => rk.length - (intOf (f 17)).toNat) (fun w' hS => ⟨0, Nat.zero_le _, (by repeat' (first | exact trivial | refine And.intro (by rfl) ?_)), hS⟩) ?_
      rintro f w' ⟨k, hk, hf, hS⟩
      obtain ⟨g, rfl⟩ := hf.eq
      clear hf
      refine J.at_ ?_ hS
      have hPk := hrb k
      have hPl := hrtl k
      by_cases hlt : k < rk.length
      · have hxk : rk[k]? = some rk[k] := List.getElem?_eq_getElem hlt
        have htk := sumP_take hxk
        have hqa := hramt rk[k] (List.getElem_mem hlt)
        generalize rk[k] = q at hxk htk hqa
        obtain ⟨B10, off10, rfl⟩ : ∃ B off, a10 = some ⟨B, off, none⟩ := by
          obtain ⟨a', c', e1, h2⟩ := hsl10 _ (hS.sub (by repeat (first | exact List.Sublist.refl _ | exact List.nil_sublist _ | refine List.Sublist.append_left ?_ _ | exact List.sublist_append_left _ _ | apply List.Sublist.cons_cons | apply List.Sublist.cons | apply List.sublist_append_of_sublist_right)))
          obtain ⟨B, off, e2, _⟩ := h2 (by rintro e; rw [e] at hxk; simp at hxk)
          simp only [Value.slice.injEq] at e1
          exact ⟨B, off, e1.1.trans e2⟩
        have hr10 := rows_of hsl10 (by rintro e; rw [e] at hxk; simp at hxk)
        repeat' (first
          | refine JE.pure rfl rfl (by conv => lhs; whnf) rfl ?_
          | refine JE.skip rfl rfl ?_
          | (refine JE.kBin ?_; first | (refine JE.int rfl rfl rfl rfl rfl rfl ?_; with_reducible refine JE.waysD (fun _ => ?_) (fun _ => ?_)) | refine JE.int rfl rfl rfl rfl (by rw [i64_id (by omega)]) rfl ?_ | refine JE.int rfl rfl rfl rfl rfl rfl ?_ | refine JE.eqBool rfl rfl rfl (by conv => lhs; whnf) rfl ?_ | refine JE.neBool rfl rfl rfl (by conv => lhs; whnf) rfl ?_ | refine JE.eqNilSl rfl rfl rfl rfl ?_ | (refine JE.eqStr rfl rfl rfl rfl ?_; with_reducible refine JE.waysD (fun _ => ?_) (fun _ => ?_)) | (refine JE.neStr rfl rfl rfl rfl ?_; with_reducible refine JE.waysD (fun _ => ?_) (fun _ => ?_)))
          | (refine JE.kField ?_; refine JE.fieldAddr rfl rfl rfl ?_)
          | (refine JE.kNil ?_; refine JE.nilCheck rfl rfl rfl ?_)
          | (refine JE.kLoad ?_; first | refine JE.load1 rfl rfl (by repeat (first | exact In.head | refine In.tail ?_ | refine In.app ?_)) rfl (by conv => lhs; whnf) (fun _ => by first | trivial | exact ⟨.inr ‹_›, trivial⟩ | exact ⟨.inl (by kernel_rfl), trivial⟩ | exact ⟨.inr ‹_›, .inr ‹_›, trivial⟩ | exact ⟨.inr ‹_›, .inl (by kernel_rfl), trivial⟩ | exact ⟨.inl (by kernel_rfl), .inr ‹_›, trivial⟩ | exact ⟨.inl (by kernel_rfl), .inl (by kernel_rfl), trivial⟩) rfl ?_ | refine JE.loadAll rfl rfl (by repeat (first | exact In.head | refine In.tail ?_ | refine In.app ?_)) (by rfl) (fun _ => by first | trivial | exact ⟨.inr ‹_›, trivial⟩ | exact ⟨.inl (by kernel_rfl), trivial⟩ | exact ⟨.inr ‹_›, .inr ‹_›, trivial⟩ | exact ⟨.inr ‹_›, .inl (by kernel_rfl), trivial⟩ | exact ⟨.inl (by kernel_rfl), .inr ‹_›, trivial⟩ | exact ⟨.inl (by kernel_rfl), .inl (by kernel_rfl), trivial⟩) rfl ?_ | refine JE.loadN rfl rfl (by repeat (first | exact In.head | refine In.tail ?_ | refine In.app ?_)) (by conv => lhs; whnf) (by rfl) (fun _ => by first | trivial | exact ⟨.inr ‹_›, trivial⟩ | exact ⟨.inl (by kernel_rfl), trivial⟩ | exact ⟨.inr ‹_›, .inr ‹_›, trivial⟩ | exact ⟨.inr ‹_›, .inl (by kernel_rfl), trivial⟩ | exact ⟨.inl (by kernel_rfl), .inr ‹_›, trivial⟩ | exact ⟨.inl (by kernel_rfl), .inl (by kernel_rfl), trivial⟩) rfl ?_)
          | (refine JE.kBox ?_; refine JE.box rfl (by conv => lhs; whnf) rfl (fun _ _ => ?_))
          | (refine JE.kAlloc ?_; refine JE.alloc rfl (by conv => lhs; whnf) rfl (fun _ _ => ?_))
          | (refine JE.kStore ?_; refine JE.store rfl rfl (by repeat (first | exact Turn.head | apply Turn.tail | apply Turn.app)) SizeT.size (by repeat (first | exact NfL.nil rfl | apply NfL.cons (by exact rfl) (by conv => lhs; whnf))) (by rfl) (by rfl) (by rfl) (by repeat (first | exact NfL.nil rfl | apply NfL.cons (by exact rfl) (by conv => lhs; whnf))) (by first | trivial | exact List.mem_cons_self | exact List.mem_cons_of_mem _ List.mem_cons_self) rfl ?_)
          | (refine JE.kBuiltin ?_; first | refine JE.lenSl rfl rfl rfl ?_ | refine JE.lenStr rfl rfl rfl ?_ | refine JE.max2 rfl rfl rfl rfl rfl ?_ | refine JE.min2 rfl rfl rfl rfl rfl ?_)
          | (refine JE.kBuild ?_; refine JE.build rfl rfl (by repeat (first | exact NfL.nil rfl | apply NfL.cons (by exact rfl) (by conv => lhs; whnf))) rfl ?_)
          | (refine JE.kBuildSlice ?_; refine JE.buildSlice rfl rfl rfl (by conv => lhs; whnf) (by rfl) (by rfl) (by repeat (first | exact NfL.nil rfl | apply NfL.cons (by exact rfl) (by conv => lhs; whnf))) rfl (fun _ _ => ?_))
          | (refine JE.kRange ?_; refine JE.rangeStr rfl rfl rfl (fun _ _ => ?_))
          | with_reducible refine JE.sN ?_
          | with_reducible refine JE.sX ?_
          | with_reducible refine JE.dN ?_
          | with_reducible refine JE.dX ?_
          | with_reducible refine J.seq ?_
          | with_reducible refine J.region ?_
          | refine J.condT rfl ?_
          | refine J.condF rfl ?_
          | with_reducible refine J.skip ?_
          | with_reducible refine J.exit ?_
          | with_reducible refine J.block ?_
          | with_reducible refine J.ret ?_
          | with_reducible refine JX.thenN ?_
          | with_reducible refine JX.thenR ?_
          | with_reducible refine JX.thenE ?_
          | with_reducible refine JX.blkS ?_
          | (with_reducible refine JX.blkE ?_ ?_; exact rfl)
          | with_reducible refine JX.blkN ?_
          | with_reducible refine JX.blkR ?_
          | (refine JE.kIndexAddr ?_; refine JE.indexAddr rfl rfl rfl (Int.natCast_nonneg _) (by omega) rfl ?_)
          | (refine JE.kLoad ?_; refine JE.loadRowCS rfl rfl (fun w' hS' => hr10 w' (hS'.sub (by repeat (first | exact List.Sublist.refl _ | exact List.nil_sublist _ | refine List.Sublist.append_left ?_ _ | exact List.sublist_append_left _ _ | apply List.Sublist.cons_cons | apply List.Sublist.cons | apply List.sublist_append_of_sublist_right)))) hxk rfl rfl (fun h => by first | exact trivial | cases h) rfl ?_))
        all_goals first
          | (exfalso; omega)
          | (refine JX.round fun w'' hS' => ⟨⟨k + 1, hlt, ⟨rfl, rfl, rfl, rfl, rfl, rfl, rfl, congrArg (Value.int .i64) htk.symm, rfl, trivial⟩, hS'⟩, ?_⟩
             show rk.length - ((k : Int) + 1).toNat < rk.length - ((k : Int)).toNat
             omega)
      · have hk' : k = rk.length := by omega
        have hPr := hrb rk.length
        have hPrl := hrtl rk.length
        rw [List.take_length] at hPr hPrl
        rw [hk', List.take_length]
        have hrank3 := fun w hw hn => rank_calls hL3 t (by show (rowOf (pay26 m t s) t).length ≤ _; omega) w hw hn
        repeat' (first
          | refine JE.pure rfl rfl (by conv => lhs; whnf) rfl ?_
          | refine JE.skip rfl rfl ?_
          | (refine JE.kBin ?_; first | (refine JE.int rfl rfl rfl rfl rfl rfl ?_; with_reducible refine JE.waysD (fun _ => ?_) (fun _ => ?_)) | refine JE.int rfl rfl rfl rfl (by rw [i64_id (by omega)]) rfl ?_ | refine JE.int rfl rfl rfl rfl rfl rfl ?_ | refine JE.eqBool rfl rfl rfl (by conv => lhs; whnf) rfl ?_ | refine JE.neBool rfl rfl rfl (by conv => lhs; whnf) rfl ?_ | refine JE.eqNilSl rfl rfl rfl rfl ?_ | (refine JE.eqStr rfl rfl rfl rfl ?_; with_reducible refine JE.waysD (fun _ => ?_) (fun _ => ?_)) | (refine JE.neStr rfl rfl rfl rfl ?_; with_reducible refine JE.waysD (fun _ => ?_) (fun _ => ?_)))
          | (refine JE.kField ?_; refine JE.fieldAddr rfl rfl rfl ?_)
          | (refine JE.kNil ?_; refine JE.nilCheck rfl rfl rfl ?_)
          | (refine JE.kLoad ?_; first | refine JE.load1 rfl rfl (by repeat (first | exact In.head | refine In.tail ?_ | refine In.app ?_)) rfl (by conv => lhs; whnf) (fun _ => by first | trivial | exact ⟨.inr ‹_›, trivial⟩ | exact ⟨.inl (by kernel_rfl), trivial⟩ | exact ⟨.inr ‹_›, .inr ‹_›, trivial⟩ | exact ⟨.inr ‹_›, .inl (by kernel_rfl), trivial⟩ | exact ⟨.inl (by kernel_rfl), .inr ‹_›, trivial⟩ | exact ⟨.inl (by kernel_rfl), .inl (by kernel_rfl), trivial⟩) rfl ?_ | refine JE.loadAll rfl rfl (by repeat (first | exact In.head | refine In.tail ?_ | refine In.app ?_)) (by rfl) (fun _ => by first | trivial | exact ⟨.inr ‹_›, trivial⟩ | exact ⟨.inl (by kernel_rfl), trivial⟩ | exact ⟨.inr ‹_›, .inr ‹_›, trivial⟩ | exact ⟨.inr ‹_›, .inl (by kernel_rfl), trivial⟩ | exact ⟨.inl (by kernel_rfl), .inr ‹_›, trivial⟩ | exact ⟨.inl (by kernel_rfl), .inl (by kernel_rfl), trivial⟩) rfl ?_ | refine JE.loadN rfl rfl (by repeat (first | exact In.head | refine In.tail ?_ | refine In.app ?_)) (by conv => lhs; whnf) (by rfl) (fun _ => by first | trivial | exact ⟨.inr ‹_›, trivial⟩ | exact ⟨.inl (by kernel_rfl), trivial⟩ | exact ⟨.inr ‹_›, .inr ‹_›, trivial⟩ | exact ⟨.inr ‹_›, .inl (by kernel_rfl), trivial⟩ | exact ⟨.inl (by kernel_rfl), .inr ‹_›, trivial⟩ | exact ⟨.inl (by kernel_rfl), .inl (by kernel_rfl), trivial⟩) rfl ?_)
          | (refine JE.kBox ?_; refine JE.box rfl (by conv => lhs; whnf) rfl (fun _ _ => ?_))
          | (refine JE.kAlloc ?_; refine JE.alloc rfl (by conv => lhs; whnf) rfl (fun _ _ => ?_))
          | (refine JE.kStore ?_; refine JE.store rfl rfl (by repeat (first | exact Turn.head | apply Turn.tail | apply Turn.app)) SizeT.size (by repeat (first | exact NfL.nil rfl | apply NfL.cons (by exact rfl) (by conv => lhs; whnf))) (by rfl) (by rfl) (by rfl) (by repeat (first | exact NfL.nil rfl | apply NfL.cons (by exact rfl) (by conv => lhs; whnf))) (by first | trivial | exact List.mem_cons_self | exact List.mem_cons_of_mem _ List.mem_cons_self) rfl ?_)
          | (refine JE.kBuiltin ?_; first | refine JE.lenSl rfl rfl rfl ?_ | refine JE.lenStr rfl rfl rfl ?_ | refine JE.max2 rfl rfl rfl rfl rfl ?_ | refine JE.min2 rfl rfl rfl rfl rfl ?_)
          | (refine JE.kBuild ?_; refine JE.build rfl rfl (by repeat (first | exact NfL.nil rfl | apply NfL.cons (by exact rfl) (by conv => lhs; whnf))) rfl ?_)
          | (refine JE.kBuildSlice ?_; refine JE.buildSlice rfl rfl rfl (by conv => lhs; whnf) (by rfl) (by rfl) (by repeat (first | exact NfL.nil rfl | apply NfL.cons (by exact rfl) (by conv => lhs; whnf))) rfl (fun _ _ => ?_))
          | (refine JE.kRange ?_; refine JE.rangeStr rfl rfl rfl (fun _ _ => ?_))
          | with_reducible refine JE.sN ?_
          | with_reducible refine JE.sX ?_
          | with_reducible refine JE.dN ?_
          | with_reducible refine JE.dX ?_
          | with_reducible refine J.seq ?_
          | with_reducible refine J.region ?_
          | refine J.condT rfl ?_
          | refine J.condF rfl ?_
          | with_reducible refine J.skip ?_
          | with_reducible refine J.exit ?_
          | with_reducible refine J.block ?_
          | with_reducible refine J.ret ?_
          | with_reducible refine JX.thenN ?_
          | with_reducible refine JX.thenR ?_
          | with_reducible refine JX.thenE ?_
          | with_reducible refine JX.blkS ?_
          | (with_reducible refine JX.blkE ?_ ?_; exact rfl)
          | with_reducible refine JX.blkN ?_
          | with_reducible refine JX.blkR ?_
          | (refine JE.isF 13 ?_; refine JE.call rfl rfl (by repeat (first | exact NfL.nil rfl | apply NfL.cons (by exact rfl) (by conv => lhs; whnf))) rfl ?_; refine CallG.news (G := _) (fun w hS => hrank3 w (hS.sub (l' := l3) (by repeat (first | exact List.Sublist.refl _ | exact List.nil_sublist _ | refine List.Sublist.append_left ?_ _ | exact List.sublist_append_left _ _ | apply List.Sublist.cons_cons | apply List.Sublist.cons | apply List.sublist_append_of_sublist_right))).own (hS.sub (l' := l3) (by repeat (first | exact List.Sublist.refl _ | exact List.nil_sublist _ | refine List.Sublist.append_left ?_ _ | exact List.sublist_append_left _ _ | apply List.Sublist.cons_cons | apply List.Sublist.cons | apply List.sublist_append_of_sublist_right))).nodup) ?_; rintro v18 l18 ho18; replace ho18 : Own 6 encPledge 37 v18 bh l18 := hbh ▸ ho18; obtain ⟨a18, c18, rfl, _⟩ := ho18.shape))
        · exfalso; omega
        have hsl18 : ∀ w', St w [] l18 w' → Sl 6 encPledge w' (.slice a18 bh.length c18) bh := fun w' hS => ho18.sl encP_len hS.own
        refine J.loop (fun f w' => ∃ (k : Nat), k ≤ bh.length ∧ Has f [(2, .int .i64 s), (12, .int .i64 u), (13, .int .i64 0), (14, .int .i64 s), (15, .int .i64 (sumP rk - sumP (bh.take k))), (18, .slice a18 bh.length c18), (19, .int .i64 k)] ∧ St w [] l18 w')
          (fun f _ => bh.length - (intOf (f 19)).toNat) (fun w' hS => ⟨0, Nat.zero_le _, ⟨rfl, rfl, rfl, rfl, congrArg (Value.int .i64) (by simp [sumP]), rfl, rfl, trivial⟩, hS.sub (by repeat (first | exact List.Sublist.refl _ | exact List.nil_sublist _ | refine List.Sublist.append_left ?_ _ | exact List.sublist_append_left _ _ | apply List.Sublist.cons_cons | apply List.Sublist.cons | apply List.sublist_append_of_sublist_right))⟩) ?_
        rintro f w' ⟨k, hk, hf, hS⟩
        obtain ⟨g, rfl⟩ := hf.eq
        clear hf
        refine J.at_ ?_ hS
        have hBk := hbb k
        have hBl := hbtl k
        by_cases hlt : k < bh.length
        · have hxk : bh[k]? = some bh[k] := List.getElem?_eq_getElem hlt
          have htk := sumP_take hxk
          have hqa := hbamt bh[k] (List.getElem_mem hlt)
          generalize bh[k] = q at hxk htk hqa
          obtain ⟨B18, off18, rfl⟩ : ∃ B off, a18 = some ⟨B, off, none⟩ := by
            obtain ⟨a', c', e1, h2⟩ := hsl18 _ hS
            obtain ⟨B, off, e2, _⟩ := h2 (by rintro e; rw [e] at hxk; simp at hxk)
            simp only [Value.slice.injEq] at e1
            exact ⟨B, off, e1.1.trans e2⟩
          have hr18 := rows_of hsl18 (by rintro e; rw [e] at hxk; simp at hxk)
          repeat' (first
            | refine JE.pure rfl rfl (by conv => lhs; whnf) rfl ?_
            | refine JE.skip rfl rfl ?_
            | (refine JE.kBin ?_; first | (refine JE.int rfl rfl rfl rfl rfl rfl ?_; with_reducible refine JE.waysD (fun _ => ?_) (fun _ => ?_)) | refine JE.int rfl rfl rfl rfl (by rw [i64_id (by omega)]) rfl ?_ | refine JE.int rfl rfl rfl rfl rfl rfl ?_ | refine JE.eqBool rfl rfl rfl (by conv => lhs; whnf) rfl ?_ | refine JE.neBool rfl rfl rfl (by conv => lhs; whnf) rfl ?_ | refine JE.eqNilSl rfl rfl rfl rfl ?_ | (refine JE.eqStr rfl rfl rfl rfl ?_; with_reducible refine JE.waysD (fun _ => ?_) (fun _ => ?_)) | (refine JE.neStr rfl rfl rfl rfl ?_; with_reducible refine JE.waysD (fun _ => ?_) (fun _ => ?_)))
            | (refine JE.kField ?_; refine JE.fieldAddr rfl rfl rfl ?_)
            | (refine JE.kNil ?_; refine JE.nilCheck rfl rfl rfl ?_)
            | (refine JE.kLoad ?_; first | refine JE.load1 rfl rfl (by repeat (first | exact In.head | refine In.tail ?_ | refine In.app ?_)) rfl (by conv => lhs; whnf) (fun _ => by first | trivial | exact ⟨.inr ‹_›, trivial⟩ | exact ⟨.inl (by kernel_rfl), trivial⟩ | exact ⟨.inr ‹_›, .inr ‹_›, trivial⟩ | exact ⟨.inr ‹_›, .inl (by kernel_rfl), trivial⟩ | exact ⟨.inl (by kernel_rfl), .inr ‹_›, trivial⟩ | exact ⟨.inl (by kernel_rfl), .inl (by kernel_rfl), trivial⟩) rfl ?_ | refine JE.loadAll rfl rfl (by repeat (first | exact In.head | refine In.tail ?_ | refine In.app ?_)) (by rfl) (fun _ => by first | trivial | exact ⟨.inr ‹_›, trivial⟩ | exact ⟨.inl (by kernel_rfl), trivial⟩ | exact ⟨.inr ‹_›, .inr ‹_›, trivial⟩ | exact ⟨.inr ‹_›, .inl (by kernel_rfl), trivial⟩ | exact ⟨.inl (by kernel_rfl), .inr ‹_›, trivial⟩ | exact ⟨.inl (by kernel_rfl), .inl (by kernel_rfl), trivial⟩) rfl ?_ | refine JE.loadN rfl rfl (by repeat (first | exact In.head | refine In.tail ?_ | refine In.app ?_)) (by conv => lhs; whnf) (by rfl) (fun _ => by first | trivial | exact ⟨.inr ‹_›, trivial⟩ | exact ⟨.inl (by kernel_rfl), trivial⟩ | exact ⟨.inr ‹_›, .inr ‹_›, trivial⟩ | exact ⟨.inr ‹_›, .inl (by kernel_rfl), trivial⟩ | exact ⟨.inl (by kernel_rfl), .inr ‹_›, trivial⟩ | exact ⟨.inl (by kernel_rfl), .inl (by kernel_rfl), trivial⟩) rfl ?_)
            | (refine JE.kBox ?_; refine JE.box rfl (by conv => lhs; whnf) rfl (fun _ _ => ?_))
            | (refine JE.kAlloc ?_; refine JE.alloc rfl (by conv => lhs; whnf) rfl (fun _ _ => ?_))
            | (refine JE.kStore ?_; refine JE.store rfl rfl (by repeat (first | exact Turn.head | apply Turn.tail | apply Turn.app)) SizeT.size (by repeat (first | exact NfL.nil rfl | apply NfL.cons (by exact rfl) (by conv => lhs; whnf))) (by rfl) (by rfl) (by rfl) (by repeat (first | exact NfL.nil rfl | apply NfL.cons (by exact rfl) (by conv => lhs; whnf))) (by first | trivial | exact List.mem_cons_self | exact List.mem_cons_of_mem _ List.mem_cons_self) rfl ?_)
            | (refine JE.kBuiltin ?_; first | refine JE.lenSl rfl rfl rfl ?_ | refine JE.lenStr rfl rfl rfl ?_ | refine JE.max2 rfl rfl rfl rfl rfl ?_ | refine JE.min2 rfl rfl rfl rfl rfl ?_)
            | (refine JE.kBuild ?_; refine JE.build rfl rfl (by repeat (first | exact NfL.nil rfl | apply NfL.cons (by exact rfl) (by conv => lhs; whnf))) rfl ?_)
            | (refine JE.kBuildSlice ?_; refine JE.buildSlice rfl rfl rfl (by conv => lhs; whnf) (by rfl) (by rfl) (by repeat (first | exact NfL.nil rfl | apply NfL.cons (by exact rfl) (by conv => lhs; whnf))) rfl (fun _ _ => ?_))
            | (refine JE.kRange ?_; refine JE.rangeStr rfl rfl rfl (fun _ _ => ?_))
            | with_reducible refine JE.sN ?_
            | with_reducible refine JE.sX ?_
            | with_reducible refine JE.dN ?_
            | with_reducible refine JE.dX ?_
            | with_reducible refine J.seq ?_
            | with_reducible refine J.region ?_
            | refine J.condT rfl ?_
            | refine J.condF rfl ?_
            | with_reducible refine J.skip ?_
            | with_reducible refine J.exit ?_
            | with_reducible refine J.block ?_
            | with_reducible refine J.ret ?_
            | with_reducible refine JX.thenN ?_
            | with_reducible refine JX.thenR ?_
            | with_reducible refine JX.thenE ?_
            | with_reducible refine JX.blkS ?_
            | (with_reducible refine JX.blkE ?_ ?_; exact rfl)
            | with_reducible refine JX.blkN ?_
            | with_reducible refine JX.blkR ?_
            | (refine JE.kIndexAddr ?_; refine JE.indexAddr rfl rfl rfl (Int.natCast_nonneg _) (by omega) rfl ?_)
            | (refine JE.kLoad ?_; refine JE.loadRowCS rfl rfl (fun w' hS' => hr18 w' (hS'.sub (by repeat (first | exact List.Sublist.refl _ | exact List.nil_sublist _ | refine List.Sublist.append_left ?_ _ | exact List.sublist_append_left _ _ | apply List.Sublist.cons_cons | apply List.Sublist.cons | apply List.sublist_append_of_sublist_right)))) hxk rfl rfl (fun h => by first | exact trivial | cases h) rfl ?_))
          all_goals first
            | (exfalso; omega)
            | (refine JX.round fun w'' hS' => ⟨⟨k + 1, hlt, ⟨rfl, rfl, rfl, rfl, congrArg (Value.int .i64) (by omega), rfl, rfl, trivial⟩, hS'⟩, ?_⟩
               show bh.length - ((k : Int) + 1).toNat < bh.length - ((k : Int)).toNat
               omega)
        · have hk' : k = bh.length := by omega
          rw [hk', List.take_length]
          have hbl0 : 0 < u → bh.length = 0 := fun h => by rw [hbeh.2 h]; rfl
          have hb1 := hbeh.1
          repeat' (first
            | refine JE.pure rfl rfl (by conv => lhs; whnf) rfl ?_
            | refine JE.skip rfl rfl ?_
            | (refine JE.kBin ?_; first | (refine JE.int rfl rfl rfl rfl rfl rfl ?_; with_reducible refine JE.waysD (fun _ => ?_) (fun _ => ?_)) | refine JE.int rfl rfl rfl rfl (by rw [i64_id (by omega)]) rfl ?_ | refine JE.int rfl rfl rfl rfl rfl rfl ?_ | refine JE.eqBool rfl rfl rfl (by conv => lhs; whnf) rfl ?_ | refine JE.neBool rfl rfl rfl (by conv => lhs; whnf) rfl ?_ | refine JE.eqNilSl rfl rfl rfl rfl ?_ | (refine JE.eqStr rfl rfl rfl rfl ?_; with_reducible refine JE.waysD (fun _ => ?_) (fun _ => ?_)) | (refine JE.neStr rfl rfl rfl rfl ?_; with_reducible refine JE.waysD (fun _ => ?_) (fun _ => ?_)))
            | (refine JE.kField ?_; refine JE.fieldAddr rfl rfl rfl ?_)
            | (refine JE.kNil ?_; refine JE.nilCheck rfl rfl rfl ?_)
            | (refine JE.kLoad ?_; first | refine JE.load1 rfl rfl (by repeat (first | exact In.head | refine In.tail ?_ | refine In.app ?_)) rfl (by conv => lhs; whnf) (fun _ => by first | trivial | exact ⟨.inr ‹_›, trivial⟩ | exact ⟨.inl (by kernel_rfl), trivial⟩ | exact ⟨.inr ‹_›, .inr ‹_›, trivial⟩ | exact ⟨.inr ‹_›, .inl (by kernel_rfl), trivial⟩ | exact ⟨.inl (by kernel_rfl), .inr ‹_›, trivial⟩ | exact ⟨.inl (by kernel_rfl), .inl (by kernel_rfl), trivial⟩) rfl ?_ | refine JE.loadAll rfl rfl (by repeat (first | exact In.head | refine In.tail ?_ | refine In.app ?_)) (by rfl) (fun _ => by first | trivial | exact ⟨.inr ‹_›, trivial⟩ | exact ⟨.inl (by kernel_rfl), trivial⟩ | exact ⟨.inr ‹_›, .inr ‹_›, trivial⟩ | exact ⟨.inr ‹_›, .inl (by kernel_rfl), trivial⟩ | exact ⟨.inl (by kernel_rfl), .inr ‹_›, trivial⟩ | exact ⟨.inl (by kernel_rfl), .inl (by kernel_rfl), trivial⟩) rfl ?_ | refine JE.loadN rfl rfl (by repeat (first | exact In.head | refine In.tail ?_ | refine In.app ?_)) (by conv => lhs; whnf) (by rfl) (fun _ => by first | trivial | exact ⟨.inr ‹_›, trivial⟩ | exact ⟨.inl (by kernel_rfl), trivial⟩ | exact ⟨.inr ‹_›, .inr ‹_›, trivial⟩ | exact ⟨.inr ‹_›, .inl (by kernel_rfl), trivial⟩ | exact ⟨.inl (by kernel_rfl), .inr ‹_›, trivial⟩ | exact ⟨.inl (by kernel_rfl), .inl (by kernel_rfl), trivial⟩) rfl ?_)
            | (refine JE.kBox ?_; refine JE.box rfl (by conv => lhs; whnf) rfl (fun _ _ => ?_))
            | (refine JE.kAlloc ?_; refine JE.alloc rfl (by conv => lhs; whnf) rfl (fun _ _ => ?_))
            | (refine JE.kStore ?_; refine JE.store rfl rfl (by repeat (first | exact Turn.head | apply Turn.tail | apply Turn.app)) SizeT.size (by repeat (first | exact NfL.nil rfl | apply NfL.cons (by exact rfl) (by conv => lhs; whnf))) (by rfl) (by rfl) (by rfl) (by repeat (first | exact NfL.nil rfl | apply NfL.cons (by exact rfl) (by conv => lhs; whnf))) (by first | trivial | exact List.mem_cons_self | exact List.mem_cons_of_mem _ List.mem_cons_self) rfl ?_)
            | (refine JE.kBuiltin ?_; first | refine JE.lenSl rfl rfl rfl ?_ | refine JE.lenStr rfl rfl rfl ?_ | refine JE.max2 rfl rfl rfl rfl rfl ?_ | refine JE.min2 rfl rfl rfl rfl rfl ?_)
            | (refine JE.kBuild ?_; refine JE.build rfl rfl (by repeat (first | exact NfL.nil rfl | apply NfL.cons (by exact rfl) (by conv => lhs; whnf))) rfl ?_)
            | (refine JE.kBuildSlice ?_; refine JE.buildSlice rfl rfl rfl (by conv => lhs; whnf) (by rfl) (by rfl) (by repeat (first | exact NfL.nil rfl | apply NfL.cons (by exact rfl) (by conv => lhs; whnf))) rfl (fun _ _ => ?_))
            | (refine JE.kRange ?_; refine JE.rangeStr rfl rfl rfl (fun _ _ => ?_))
            | with_reducible refine JE.sN ?_
            | with_reducible refine JE.sX ?_
            | with_reducible refine JE.dN ?_
            | with_reducible refine JE.dX ?_
            | with_reducible refine J.seq ?_
            | with_reducible refine J.region ?_
            | refine J.condT rfl ?_
            | refine J.condF rfl ?_
            | with_reducible refine J.skip ?_
            | with_reducible refine J.exit ?_
            | with_reducible refine J.block ?_
            | with_reducible refine J.ret ?_
            | with_reducible refine JX.thenN ?_
            | with_reducible refine JX.thenR ?_
            | with_reducible refine JX.thenE ?_
            | with_reducible refine JX.blkS ?_
            | (with_reducible refine JX.blkE ?_ ?_; exact rfl)
            | with_reducible refine JX.blkN ?_
            | with_reducible refine JX.blkR ?_)
          all_goals first
            | (exfalso; omega)
            | exact absurd rfl ‹_›
            | exact fnQ_tmp (.inl rfl) rfl (by conv => lhs; whnf) fun w'' hS' => ⟨rfl, hS'.below⟩
            | (exfalso; have := hbl0 (by omega); omega)

end Go.Proofs.Ytnapfiheholhiaa
