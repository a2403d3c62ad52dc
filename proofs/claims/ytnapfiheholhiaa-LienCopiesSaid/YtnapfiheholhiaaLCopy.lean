/-
  What the program's calls do to liens: Copy. Conditions: none.
-/
import Derived.Test.YtnapfiheholhiaaPays
set_option linter.unusedVariables false
set_option linter.unusedSimpArgs false
namespace Go.Proofs.Ytnapfiheholhiaa
open Go Go.RowKit Go.Proofs.YtnapfiheholhiaaSym

def rowTP (r : LRow) : ByteArray × List Pledge := (r.thing, r.ps)
theorem new2_calls (w : World) : Does Try.prog 23 [] w (RetN w fun v ln => ∃ p bm mo, v = .pointer (some ⟨p, 0, none⟩) ∧ MapO Value.string encSV mo ([] : List (ByteArray × (Nat × Nat × Nat))) ∧ ln = LienO p bm mo []) := by
  refine calls_J (ys := []) Try.func23 rfl Try.ntmps23 rfl ?_
  refine J.at_ (S := St w [] []) ?_ (St.start w)
  repeat' (first
    | refine JE.pure rfl rfl (by conv => lhs; whnf) rfl ?_
    | (refine JE.kBox ?_; refine JE.box rfl (by conv => lhs; whnf) rfl (fun _ _ => ?_))
    | (refine JE.kBuild ?_; refine JE.build rfl rfl (by repeat (first | exact NfL.nil rfl | apply NfL.cons (by exact rfl) (by conv => lhs; whnf))) rfl ?_)
    | with_reducible refine JE.sN ?_
    | with_reducible refine J.seq ?_
    | with_reducible refine J.region ?_
    | with_reducible refine J.ret ?_
    | (refine JE.kMakeMap ?_; refine JE.makeMap rfl rfl (fun _ _ => ?_)))
  exact fnQ_tmp (.inl rfl) rfl (by conv => lhs; whnf) fun w'' hS' => ⟨_, _, rfl, ⟨_, _, _, rfl, MapO.empty _ _, rfl⟩, hS'⟩

/-- Rows that tell the same of the same things. -/
theorem LRows.same {R R2 : List LRow} {m : List Pledge} (h : LRows R m) (hp : (R2.map rowTP).Perm (R.map rowTP)) (ho : ∀ r ∈ R2, OwnC 6 r.ps.length r.cap r.cur (r.ps.flatMap encPledge)) : LRows R2 m := by
  have ht : (R2.map (·.thing)).Perm (R.map (·.thing)) := by
    have := hp.map (·.1)
    rw [List.map_map, List.map_map] at this
    exact this
  refine ⟨ho, ht.nodup_iff.2 h.keys, fun r hr => ?_, fun q hq => ht.mem_iff.2 (h.all q hq)⟩
  obtain ⟨x, hx, e⟩ := List.mem_map.1 (hp.mem_iff.1 (List.mem_map_of_mem hr))
  have := h.row x hx
  simp only [rowTP, Prod.mk.injEq] at e
  rw [← e.1, ← e.2]; exact this

theorem map_split {α β : Type} {f : α → β} : ∀ {l : List α} {A B : List β} {x : β}, l.map f = A ++ x :: B → ∃ l1 y l2, l = l1 ++ y :: l2 ∧ A = l1.map f ∧ x = f y ∧ B = l2.map f := by
  intro l A B x h
  obtain ⟨l1, l', rfl, rfl, h2⟩ := List.map_eq_append_iff.1 h
  obtain ⟨y, l2, rfl, rfl, rfl⟩ := List.map_eq_cons_iff.1 h2
  exact ⟨l1, y, l2, rfl, rfl, rfl, rfl⟩

set_option maxHeartbeats 4000000 in
theorem copy_calls {p : Nat} {m : List Pledge} {l : List (Nat × Obj)} (hL : Lien p m l) (w : World) (hown : ∀ x ∈ l, w.heap[x.1]? = some x.2) (hnd : (l.map (·.1)).Nodup) :
    Does Try.prog 19 [.pointer (some ⟨p, 0, none⟩)] w (RetN w fun u l' => ∃ p2, u = .pointer (some ⟨p2, 0, none⟩) ∧ Lien p2 m l') := by
  obtain ⟨bm, mo, R, rfl, hM, hR, hD⟩ := hL
  have hms := hD.size
  refine calls_J (ys := [.pointer (some ⟨p, 0, none⟩)]) Try.func19 rfl Try.ntmps19 rfl ?_
  refine J.at_ ?_ (St.startO hown hnd)
  obtain ⟨olds, holds⟩ : ∃ o, o = (LienO p bm mo R).map (·.1) := ⟨_, rfl⟩
  rw [← holds]
  repeat' (first
    | refine JE.pure rfl rfl (by conv => lhs; whnf) rfl ?_
    | (refine JE.kField ?_; refine JE.fieldAddr rfl rfl rfl ?_)
    | (refine JE.kNil ?_; refine JE.nilCheck rfl rfl rfl ?_)
    | (refine JE.kLoad ?_; refine JE.load1 rfl rfl (by repeat (first | exact In.head | refine In.tail ?_ | refine In.app ?_)) rfl (by conv => lhs; whnf) (fun _ => by first | trivial | exact ⟨.inr ‹_›, trivial⟩ | exact ⟨.inl (by kernel_rfl), trivial⟩ | exact ⟨.inr ‹_›, .inr ‹_›, trivial⟩ | exact ⟨.inr ‹_›, .inl (by kernel_rfl), trivial⟩ | exact ⟨.inl (by kernel_rfl), .inr ‹_›, trivial⟩ | exact ⟨.inl (by kernel_rfl), .inl (by kernel_rfl), trivial⟩) rfl ?_)
    | with_reducible refine JE.sN ?_
    | with_reducible refine J.seq ?_
    | with_reducible refine J.region ?_
    | with_reducible refine J.block ?_
    | (refine JE.isF 23 ?_; refine JE.call rfl rfl (by repeat (first | exact NfL.nil rfl | apply NfL.cons (by exact rfl) (by conv => lhs; whnf))) rfl ?_; refine CallG.news (G := _) (fun w hS => new2_calls w) ?_; rintro _ _ ⟨p2, bm2, mo2, rfl, hM2, rfl⟩)
    | (refine JE.kRange ?_; refine JE.rangeMap (B := bm) (o := mo) rfl rfl (.tail (.tail (.tail .head))) hM rfl (fun r0 io0 hr0 hi0 => ?_)))
  refine J.loop (fun f w' => ∃ (RD RT R2 : List LRow) (io mo2 : Obj), IterO mo bm io (R.map rowKV) (RD.map rowKV) (RT.map rowKV) ∧ (RD ++ RT).Perm R ∧ R2.map rowTP = RD.map rowTP ∧ (∀ r ∈ R2, OwnC 6 r.ps.length r.cap r.cur (r.ps.flatMap encPledge)) ∧ MapO Value.string encSV mo2 (R2.map rowKV) ∧
      Has f [(3, .pointer (some ⟨p2, 0, none⟩)), (11, .pointer (some ⟨r0, 0, none⟩))] ∧ St w olds ((r0, io) :: ((LienO p2 bm2 mo2 R2) ++ (LienO p bm mo R))) w')
    (fun f w' => R.length - seenN w' r0) (fun w' hS => ⟨[], R, [], io0, mo2, hi0, .refl _, rfl, by simp, hM2, (by repeat' (first | exact trivial | refine And.intro (by rfl) ?_)), hS⟩) ?_
  rintro f w' ⟨RD, RT, R2, io, mo2', hi, hperm, htp, ho2, hM2', hf, hS⟩
  obtain ⟨g, rfl⟩ := hf.eq
  clear hf
  have hseen := hi.seen (hS.own _ List.mem_cons_self)
  have hlen : RD.length + RT.length = R.length := by simpa using hperm.length_eq
  refine J.at_ ?_ hS
  cases RT with
  | nil =>
    have hR2 : LRows R2 m := hR.same (by rw [htp]; exact (by simpa using hperm.map rowTP)) ho2
    repeat' (first
      | refine JE.pure rfl rfl (by conv => lhs; whnf) rfl ?_
      | with_reducible refine JE.sN ?_
      | with_reducible refine J.seq ?_
      | with_reducible refine J.region ?_
      | refine J.condT rfl ?_
      | refine J.condF rfl ?_
      | with_reducible refine J.skip ?_
      | with_reducible refine J.exit ?_
      | with_reducible refine J.block ?_
      | with_reducible refine J.ret ?_
      | with_reducible refine JX.thenN ?_
      | with_reducible refine JX.thenE ?_
      | with_reducible refine JX.blkS ?_
      | (refine JE.kNext ?_; refine JE.nextMap1 rfl rfl hM hi (In.app (a := LienO p2 bm2 mo2' R2) (.tail .head)) trivial rfl (fun ht => ?_) (fun x td1 td2 io2 ht hi2 => ?_)))
    · exact fnQ_tmp (.inl rfl) rfl (by conv => lhs; whnf) fun w'' hS' => ⟨_, LienO p2 bm2 mo2' R2, rfl, ⟨p2, rfl, bm2, mo2', R2, rfl, hM2', hR2, hD⟩, St.quietN hS'.tl hown fun k hk => holds ▸ hk⟩
    · simp at ht
  | cons rt RT =>
    repeat' (first
      | refine JE.pure rfl rfl (by conv => lhs; whnf) rfl ?_
      | with_reducible refine JE.sN ?_
      | with_reducible refine J.seq ?_
      | with_reducible refine J.region ?_
      | refine J.condT rfl ?_
      | refine J.condF rfl ?_
      | with_reducible refine J.skip ?_
      | with_reducible refine J.exit ?_
      | with_reducible refine J.block ?_
      | with_reducible refine J.ret ?_
      | with_reducible refine JX.thenN ?_
      | with_reducible refine JX.thenE ?_
      | with_reducible refine JX.blkS ?_
      | (refine JE.kNext ?_; refine JE.nextMap1 rfl rfl hM hi (In.app (a := LienO p2 bm2 mo2' R2) (.tail .head)) trivial rfl (fun ht => ?_) (fun x td1 td2 io2 ht hi2 => ?_)))
    · simp at ht
    · obtain ⟨RT1, r, RT2, hRT, rfl, rfl, rfl⟩ := map_split ht
      rw [hRT] at hperm hlen
      have hrR : r ∈ R := hperm.mem_iff.1 (by simp)
      have hrne := (hR.row r hrR).2
      have hrl : r.ps.length ≤ 4096 := by rw [(hR.row r hrR).1]; exact Nat.le_trans (rowOf_length _ _) hms
      have hor : Own 6 encPledge 37 (.slice (some ⟨r.blk, 0, none⟩) r.ps.length r.cap) r.ps [rowBlk r] := .inr ⟨r.blk, r.cap, r.cur, rfl, hR.own r hrR, rfl⟩
      have hfresh : r.thing ∉ (R2.map rowKV).map (·.1) := by
        have e : (R2.map rowKV).map (·.1) = RD.map (·.thing) := by
          have := congrArg (List.map (·.1)) htp
          rw [List.map_map, List.map_map] at this
          rw [List.map_map]
          exact this
        rw [e]
        have hk := ((hperm.map (·.thing)).nodup_iff).2 hR.keys
        rw [List.map_append, List.nodup_append] at hk
        intro hm
        exact hk.2.2 _ hm r.thing (by simp) rfl
      repeat' (first
        | refine JE.pure rfl rfl (by conv => lhs; whnf) rfl ?_
        | (refine JE.kField ?_; refine JE.fieldAddr rfl rfl rfl ?_)
        | (refine JE.kNil ?_; refine JE.nilCheck rfl rfl rfl ?_)
        | (refine JE.kLoad ?_; refine JE.load1 rfl rfl (by repeat (first | exact In.head | refine In.tail ?_ | refine In.app ?_)) rfl (by conv => lhs; whnf) (fun _ => by first | trivial | exact ⟨.inr ‹_›, trivial⟩ | exact ⟨.inl (by kernel_rfl), trivial⟩ | exact ⟨.inr ‹_›, .inr ‹_›, trivial⟩ | exact ⟨.inr ‹_›, .inl (by kernel_rfl), trivial⟩ | exact ⟨.inl (by kernel_rfl), .inr ‹_›, trivial⟩ | exact ⟨.inl (by kernel_rfl), .inl (by kernel_rfl), trivial⟩) rfl ?_)
        | with_reducible refine JE.sN ?_
        | with_reducible refine JE.dX ?_
        | with_reducible refine JX.blkN ?_
        | (refine JE.kEntry ?_; refine JE.entryMap (a := rowKV r) rfl rfl hM hi2 .head (.tail (In.app (a := LienO p2 bm2 mo2' R2) (.tail .head))) rfl ?_)
        | (refine J.isR 5 ?_; refine J.draw [(0, true), (1, true), (2, true), (3, true), (4, true), (5, true), (6, false), (7, false)] [(7, bm2)] mixed (by kernel_rfl) (fun _ h => h.drew) ?_)
        | (refine JE.isF 25 ?_; refine JE.call rfl rfl (by repeat (first | exact NfL.nil rfl | apply NfL.cons (by exact rfl) (by conv => lhs; whnf))) rfl ?_; refine CallG.news (G := _) (fun w hS => clone_calls hor hrl w (fun z hz => by rw [List.mem_singleton.1 hz]; exact hS.own _ (List.mem_cons_of_mem _ (List.mem_append_right _ (List.mem_cons_of_mem _ (List.mem_cons_of_mem _ (List.mem_map_of_mem hrR))))))) ?_; rintro v4 l4 ho4; obtain ⟨B4, cap4, cur4, rfl, hoc4, rfl⟩ := own_some ho4 hrne)
        | (refine JE.kUpdate ?_; refine JE.mapUpdate (encK := Value.string) (encV := encSV) (k := r.thing) (v := (B4, r.ps.length, cap4)) rfl rfl rfl rfl (.tail (.tail (.tail .head))) hM2' (by simp [drawn]) rfl (fun mo3 hM3 => ⟨_, .tail (.tail (.tail .head)), ?_⟩)))
      rw [kput_new hfresh] at hM3
      refine JX.round fun w'' hS' => ⟨⟨RD ++ [r], RT1 ++ RT2, R2 ++ [⟨r.thing, r.ps, B4, cap4, cur4⟩], io2, mo3, ?_, ?_, ?_, ?_, ?_, (by repeat' (first | exact trivial | refine And.intro (by rfl) ?_)), hS'.perm ?_⟩, ?_⟩
      · rw [List.map_append, List.map_append]; exact hi2
      · refine List.Perm.trans ?_ hperm
        rw [List.append_assoc]
        exact List.Perm.append_left _ (show (r :: (RT1 ++ RT2)).Perm (RT1 ++ r :: RT2) from List.perm_middle.symm)
      · rw [List.map_append, List.map_append, htp]; rfl
      · intro x hx
        rcases List.mem_append.1 hx with hx | hx
        · exact ho2 x hx
        · rw [List.mem_singleton.1 hx]; exact hoc4
      · rw [List.map_append]; exact hM3
      · unfold LienO
        rw [List.map_append]
        refine (List.Perm.swap _ _ _).trans (List.Perm.cons _ ?_)
        refine (List.Perm.swap _ _ _).trans (List.Perm.cons _ ?_)
        refine (List.Perm.swap _ _ _).trans (List.Perm.cons _ ?_)
        show ((B4, Obj.cells cur4 37 (0, 0)) :: (R2.map rowBlk ++ LienO p bm mo R)).Perm ((R2.map rowBlk ++ [(B4, Obj.cells cur4 37 (0, 0))]) ++ LienO p bm mo R)
        rw [List.append_assoc]
        exact List.perm_middle.symm
      · rw [hseen, hi2.seen (hS'.own _ (List.mem_cons_of_mem _ List.mem_cons_self))]
        simp only [List.length_append, List.length_map, List.length_cons, List.length_nil] at hlen ⊢
        omega

end Go.Proofs.Ytnapfiheholhiaa
