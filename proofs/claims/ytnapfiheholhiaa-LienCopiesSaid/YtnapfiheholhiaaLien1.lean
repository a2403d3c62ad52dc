/-
  The walks of layer 26: small callees. Conditions: none.
-/
import Derived.Test.YtnapfiheholhiaaName
set_option linter.unusedVariables false
set_option linter.unusedSimpArgs false
namespace Go.Proofs.Ytnapfiheholhiaa
open Go Go.RowKit Go.Proofs.YtnapfiheholhiaaSym

def firstP (p : Pledge) : Int := if p.held then 0 else 1
theorem first_calls (p : Pledge) (w : World) : Does Try.prog 30 [.agg (encPledge p).toArray] w (Ret w (.int .i64 (firstP p))) := by
  refine calls_J (ys := [.agg (encPledge p).toArray]) Try.func30 rfl Try.ntmps30 rfl ?_
  refine J.at_ (S := St w [] []) ?_ (St.start w)
  cases hh : p.held with
  | true =>
    simp only [encPledge, hh]
    repeat' (first
      | refine JE.pure rfl rfl (by conv => lhs; whnf) rfl ?_
      | (refine JE.kField ?_; refine JE.fieldAddr rfl rfl rfl ?_)
      | (refine JE.kLoad ?_; refine JE.load1 rfl rfl (by repeat (first | exact In.head | refine In.tail ?_ | refine In.app ?_)) rfl (by conv => lhs; whnf) (fun _ => by first | trivial | exact ⟨.inr ‹_›, trivial⟩ | exact ⟨.inl (by kernel_rfl), trivial⟩ | exact ⟨.inr ‹_›, .inr ‹_›, trivial⟩ | exact ⟨.inr ‹_›, .inl (by kernel_rfl), trivial⟩ | exact ⟨.inl (by kernel_rfl), .inr ‹_›, trivial⟩ | exact ⟨.inl (by kernel_rfl), .inl (by kernel_rfl), trivial⟩) rfl ?_)
      | (refine JE.kBox ?_; refine JE.box rfl (by conv => lhs; whnf) rfl (fun _ _ => ?_))
      | with_reducible refine JE.sN ?_
      | with_reducible refine J.seq ?_
      | with_reducible refine J.region ?_
      | refine J.condT rfl ?_
      | with_reducible refine J.ret ?_
      | with_reducible refine JX.thenR ?_)
    all_goals refine fnQ_tmp (.inl rfl) rfl (by conv => lhs; whnf) fun w' hS => ⟨?_, hS.below⟩
    all_goals simp [firstP, hh]
  | false =>
    simp only [encPledge, hh]
    repeat' (first
      | refine JE.pure rfl rfl (by conv => lhs; whnf) rfl ?_
      | (refine JE.kField ?_; refine JE.fieldAddr rfl rfl rfl ?_)
      | (refine JE.kLoad ?_; refine JE.load1 rfl rfl (by repeat (first | exact In.head | refine In.tail ?_ | refine In.app ?_)) rfl (by conv => lhs; whnf) (fun _ => by first | trivial | exact ⟨.inr ‹_›, trivial⟩ | exact ⟨.inl (by kernel_rfl), trivial⟩ | exact ⟨.inr ‹_›, .inr ‹_›, trivial⟩ | exact ⟨.inr ‹_›, .inl (by kernel_rfl), trivial⟩ | exact ⟨.inl (by kernel_rfl), .inr ‹_›, trivial⟩ | exact ⟨.inl (by kernel_rfl), .inl (by kernel_rfl), trivial⟩) rfl ?_)
      | (refine JE.kBox ?_; refine JE.box rfl (by conv => lhs; whnf) rfl (fun _ _ => ?_))
      | with_reducible refine JE.sN ?_
      | with_reducible refine J.seq ?_
      | with_reducible refine J.region ?_
      | refine J.condF rfl ?_
      | with_reducible refine J.skip ?_
      | with_reducible refine J.ret ?_
      | with_reducible refine JX.thenN ?_)
    all_goals refine fnQ_tmp (.inl rfl) rfl (by conv => lhs; whnf) fun w' hS => ⟨?_, hS.below⟩
    all_goals simp [firstP, hh]

theorem held_calls (p : Pledge) (w : World) : Does Try.prog 47 [.agg (encPledge p).toArray] w (Ret w (.bool p.held)) := by
  refine calls_J (ys := [.agg (encPledge p).toArray]) Try.func47 rfl Try.ntmps47 rfl ?_
  refine J.at_ (S := St w [] []) ?_ (St.start w)
  repeat' (first
    | refine JE.pure rfl rfl (by conv => lhs; whnf) rfl ?_
    | (refine JE.kField ?_; refine JE.fieldAddr rfl rfl rfl ?_)
    | (refine JE.kLoad ?_; refine JE.load1 rfl rfl (by repeat (first | exact In.head | refine In.tail ?_ | refine In.app ?_)) rfl (by conv => lhs; whnf) (fun _ => by first | trivial | exact ⟨.inr ‹_›, trivial⟩ | exact ⟨.inl (by kernel_rfl), trivial⟩ | exact ⟨.inr ‹_›, .inr ‹_›, trivial⟩ | exact ⟨.inr ‹_›, .inl (by kernel_rfl), trivial⟩ | exact ⟨.inl (by kernel_rfl), .inr ‹_›, trivial⟩ | exact ⟨.inl (by kernel_rfl), .inl (by kernel_rfl), trivial⟩) rfl ?_)
    | (refine JE.kBox ?_; refine JE.box rfl (by conv => lhs; whnf) rfl (fun _ _ => ?_))
    | with_reducible refine JE.sN ?_
    | with_reducible refine J.seq ?_
    | with_reducible refine J.region ?_
    | with_reducible refine J.ret ?_)
  all_goals refine fnQ_tmp (.inl rfl) rfl (by conv => lhs; whnf) fun w' hS => ⟨?_, hS.below⟩
  all_goals rfl

theorem ofF_calls (p : Pledge) (c : ByteArray) (b : Nat) (w : World) (hb : w.heap[b]? = some (cel [.string c] 9)) :
    Does Try.prog 51 [.agg (encPledge p).toArray, .pointer (some ⟨b, 0, none⟩)] w (Ret w (.bool (decide (p.creditor = c)))) := by
  refine calls_J (ys := [.agg (encPledge p).toArray, .pointer (some ⟨b, 0, none⟩)]) Try.func51 rfl Try.ntmps51 rfl ?_
  refine J.at_ ?_ (St.startO (l := [(b, cel [.string c] 9)]) (by simp [hb]) (by simp))
  simp only [List.map_cons, List.map_nil]
  repeat' (first
    | refine JE.pure rfl rfl (by conv => lhs; whnf) rfl ?_
    | (refine JE.kBin ?_; (refine JE.eqStr rfl rfl rfl rfl ?_; with_reducible refine JE.waysD (fun _ => ?_) (fun _ => ?_)))
    | (refine JE.kField ?_; refine JE.fieldAddr rfl rfl rfl ?_)
    | (refine JE.kLoad ?_; refine JE.load1 rfl rfl (by repeat (first | exact In.head | refine In.tail ?_ | refine In.app ?_)) rfl (by conv => lhs; whnf) (fun _ => by first | trivial | exact ⟨.inr ‹_›, trivial⟩ | exact ⟨.inl (by kernel_rfl), trivial⟩ | exact ⟨.inr ‹_›, .inr ‹_›, trivial⟩ | exact ⟨.inr ‹_›, .inl (by kernel_rfl), trivial⟩ | exact ⟨.inl (by kernel_rfl), .inr ‹_›, trivial⟩ | exact ⟨.inl (by kernel_rfl), .inl (by kernel_rfl), trivial⟩) rfl ?_)
    | (refine JE.kBox ?_; refine JE.box rfl (by conv => lhs; whnf) rfl (fun _ _ => ?_))
    | with_reducible refine JE.sN ?_
    | with_reducible refine J.seq ?_
    | with_reducible refine J.region ?_
    | with_reducible refine J.ret ?_)
  all_goals refine fnQ_tmp (.inl rfl) rfl (by conv => lhs; whnf) fun w' hS => ⟨?_, hS.belowO (by simp [hb])⟩
  all_goals simp_all

theorem nan_calls (n : Int) (w : World) : Does Try.prog 50 [.int .i64 n] w (Ret w (.bool false)) := by
  refine calls_J (ys := [.int .i64 n]) Try.func50 rfl Try.ntmps50 rfl ?_
  refine J.at_ (S := St w [] []) ?_ (St.start w)
  repeat' (first
    | refine JE.pure rfl rfl (by conv => lhs; whnf) rfl ?_
    | (refine JE.kBin ?_; (refine JE.int rfl rfl rfl rfl rfl rfl ?_; with_reducible refine JE.waysD (fun _ => ?_) (fun _ => ?_)))
    | with_reducible refine JE.sN ?_
    | with_reducible refine J.seq ?_
    | with_reducible refine J.region ?_
    | with_reducible refine J.ret ?_)
  all_goals first | (exfalso; omega) | skip
  all_goals refine fnQ_tmp (.inl rfl) rfl (by conv => lhs; whnf) fun w' hS => ⟨?_, hS.below⟩
  all_goals simp_all

def cmpI (a b : Int) : Int := if a < b then -1 else if b < a then 1 else 0
theorem compare_calls (a b : Int) (w : World) : Does Try.prog 29 [.int .i64 a, .int .i64 b] w (Ret w (.int .i64 (cmpI a b))) := by
  refine calls_J (ys := [.int .i64 a, .int .i64 b]) Try.func29 rfl Try.ntmps29 rfl ?_
  refine J.at_ (S := St w [] []) ?_ (St.start w)
  repeat' (first
    | refine JE.pure rfl rfl (by conv => lhs; whnf) rfl ?_
    | (refine JE.kBin ?_; (refine JE.int rfl rfl rfl rfl rfl rfl ?_; with_reducible refine JE.waysD (fun _ => ?_) (fun _ => ?_)))
    | with_reducible refine JE.sN ?_
    | with_reducible refine J.seq ?_
    | with_reducible refine J.region ?_
    | refine J.condT rfl ?_
    | refine J.condF rfl ?_
    | with_reducible refine J.skip ?_
    | with_reducible refine J.ret ?_
    | with_reducible refine JX.thenN ?_
    | with_reducible refine JX.thenR ?_
    | (refine JE.isF 50 ?_; refine JE.call rfl rfl (by repeat (first | exact NfL.nil rfl | apply NfL.cons (by exact rfl) (by conv => lhs; whnf))) rfl ?_; refine CallG.ret (fun w hS => nan_calls _ w) ?_))
  all_goals refine fnQ_tmp (.inl rfl) rfl (by conv => lhs; whnf) fun w' hS => ⟨?_, hS.below⟩
  all_goals simp_all [cmpI]
  all_goals omega

def orI (a b : Int) : Int := if a ≠ 0 then a else b
theorem or_calls (a b : Int) (B : Nat) (w : World) (hb : w.heap[B]? = some (cel [.int .i64 a, .int .i64 b] 3)) :
    Does Try.prog 28 [.slice (some ⟨B, 0, none⟩) 2 2] w (Ret w (.int .i64 (orI a b))) := by
  refine calls_J (ys := [.slice (some ⟨B, 0, none⟩) 2 2]) Try.func28 rfl Try.ntmps28 rfl ?_
  refine J.at_ ?_ (St.startO (l := [(B, cel [.int .i64 a, .int .i64 b] 3)]) (by simp [hb]) (by simp))
  simp only [List.map_cons, List.map_nil]
  repeat' (first
    | refine JE.pure rfl rfl (by conv => lhs; whnf) rfl ?_
    | (refine JE.kBuiltin ?_; refine JE.lenSl rfl rfl rfl ?_)
    | with_reducible refine JE.sN ?_
    | with_reducible refine J.seq ?_
    | with_reducible refine J.region ?_
    | with_reducible refine J.block ?_)
  refine J.loop (fun f w' => ∃ k : Nat, k ≤ 2 ∧ (0 < k → a = 0) ∧ (1 < k → b = 0) ∧ Has f [(3, .int .i64 0), (6, .slice (some ⟨B, 0, none⟩) 2 2), (7, .int .i64 2), (8, .int .i64 k)] ∧ St w [B] [(B, cel [.int .i64 a, .int .i64 b] 3)] w')
    (fun f _ => 2 - (intOf (f 8)).toNat) (fun w' hS => ⟨0, by omega, by simp, by simp, (by repeat' (first | exact trivial | refine And.intro (by rfl) ?_)), hS⟩) ?_
  rintro f w' ⟨k, hk, h1, h2, hf, hS⟩
  obtain ⟨g, rfl⟩ := hf.eq
  clear hf
  refine J.at_ ?_ hS
  have hk4 : k = 0 ∨ k = 1 ∨ k = 2 := by omega
  rcases hk4 with rfl | rfl | rfl
  · skip
    repeat' (first
      | refine JE.pure rfl rfl (by conv => lhs; whnf) rfl ?_
      | (refine JE.kBin ?_; (refine JE.int rfl rfl rfl rfl rfl rfl ?_; with_reducible refine JE.waysD (fun _ => ?_) (fun _ => ?_)))
      | (refine JE.kBin ?_; refine JE.int rfl rfl rfl rfl (by rw [i64_id (by omega)]) rfl ?_)
      | (refine JE.kLoad ?_; refine JE.load1 rfl rfl (by repeat (first | exact In.head | refine In.tail ?_ | refine In.app ?_)) rfl (by conv => lhs; whnf) (fun _ => by first | trivial | exact ⟨.inr ‹_›, trivial⟩ | exact ⟨.inl (by kernel_rfl), trivial⟩ | exact ⟨.inr ‹_›, .inr ‹_›, trivial⟩ | exact ⟨.inr ‹_›, .inl (by kernel_rfl), trivial⟩ | exact ⟨.inl (by kernel_rfl), .inr ‹_›, trivial⟩ | exact ⟨.inl (by kernel_rfl), .inl (by kernel_rfl), trivial⟩) rfl ?_)
      | with_reducible refine JE.sN ?_
      | with_reducible refine JE.sX ?_
      | with_reducible refine J.seq ?_
      | with_reducible refine J.region ?_
      | refine J.condT rfl ?_
      | refine J.condF rfl ?_
      | with_reducible refine J.skip ?_
      | with_reducible refine J.exit ?_
      | with_reducible refine J.block ?_
      | with_reducible refine J.ret ?_
      | with_reducible refine JX.thenN ?_
      | with_reducible refine JX.thenR ?_
      | with_reducible refine JX.thenE ?_
      | with_reducible refine JX.blkS ?_
      | with_reducible refine JX.blkN ?_
      | with_reducible refine JX.blkR ?_
      | (refine JE.kIndexAddr ?_; refine JE.indexAddr rfl rfl rfl (Int.natCast_nonneg _) (by omega) rfl ?_))
    all_goals first
      | (exfalso; omega)
      | (refine JX.round fun w'' hS' => ⟨⟨1, by omega, by intro _; first | omega | exact h1 (by omega), by intro _; omega, (by repeat' (first | exact trivial | refine And.intro (by rfl) ?_)), hS'⟩, by show 1 < 2; decide⟩)
      | (refine fnQ_tmp (.inl rfl) rfl (by conv => lhs; whnf) fun w'' hS' => ⟨?_, hS'.belowO (by simp [hb])⟩; simp only [orI]; first | (rw [if_pos (by omega)]; done) | (rw [if_neg (by omega)]; done))
  · skip
    repeat' (first
      | refine JE.pure rfl rfl (by conv => lhs; whnf) rfl ?_
      | (refine JE.kBin ?_; (refine JE.int rfl rfl rfl rfl rfl rfl ?_; with_reducible refine JE.waysD (fun _ => ?_) (fun _ => ?_)))
      | (refine JE.kBin ?_; refine JE.int rfl rfl rfl rfl (by rw [i64_id (by omega)]) rfl ?_)
      | (refine JE.kLoad ?_; refine JE.load1 rfl rfl (by repeat (first | exact In.head | refine In.tail ?_ | refine In.app ?_)) rfl (by conv => lhs; whnf) (fun _ => by first | trivial | exact ⟨.inr ‹_›, trivial⟩ | exact ⟨.inl (by kernel_rfl), trivial⟩ | exact ⟨.inr ‹_›, .inr ‹_›, trivial⟩ | exact ⟨.inr ‹_›, .inl (by kernel_rfl), trivial⟩ | exact ⟨.inl (by kernel_rfl), .inr ‹_›, trivial⟩ | exact ⟨.inl (by kernel_rfl), .inl (by kernel_rfl), trivial⟩) rfl ?_)
      | with_reducible refine JE.sN ?_
      | with_reducible refine JE.sX ?_
      | with_reducible refine J.seq ?_
      | with_reducible refine J.region ?_
      | refine J.condT rfl ?_
      | refine J.condF rfl ?_
      | with_reducible refine J.skip ?_
      | with_reducible refine J.exit ?_
      | with_reducible refine J.block ?_
      | with_reducible refine J.ret ?_
      | with_reducible refine JX.thenN ?_
      | with_reducible refine JX.thenR ?_
      | with_reducible refine JX.thenE ?_
      | with_reducible refine JX.blkS ?_
      | with_reducible refine JX.blkN ?_
      | with_reducible refine JX.blkR ?_
      | (refine JE.kIndexAddr ?_; refine JE.indexAddr rfl rfl rfl (Int.natCast_nonneg _) (by omega) rfl ?_))
    all_goals first
      | (exfalso; omega)
      | (refine JX.round fun w'' hS' => ⟨⟨2, by omega, by intro _; first | omega | exact h1 (by omega), by intro _; omega, (by repeat' (first | exact trivial | refine And.intro (by rfl) ?_)), hS'⟩, by show 0 < 1; decide⟩)
      | (refine fnQ_tmp (.inl rfl) rfl (by conv => lhs; whnf) fun w'' hS' => ⟨?_, hS'.belowO (by simp [hb])⟩; simp only [orI]; first | (rw [if_pos (by omega)]; done) | (rw [if_neg (by omega)]; done))
  · skip
    repeat' (first
      | refine JE.pure rfl rfl (by conv => lhs; whnf) rfl ?_
      | (refine JE.kBin ?_; (refine JE.int rfl rfl rfl rfl rfl rfl ?_; with_reducible refine JE.waysD (fun _ => ?_) (fun _ => ?_)))
      | with_reducible refine JE.sN ?_
      | with_reducible refine J.seq ?_
      | with_reducible refine J.region ?_
      | refine J.condT rfl ?_
      | refine J.condF rfl ?_
      | with_reducible refine J.skip ?_
      | with_reducible refine J.exit ?_
      | with_reducible refine J.block ?_
      | with_reducible refine J.ret ?_
      | with_reducible refine JX.thenN ?_
      | with_reducible refine JX.thenE ?_
      | with_reducible refine JX.blkS ?_)
    all_goals first
      | (exfalso; omega)
      | (refine fnQ_tmp (.inl rfl) rfl (by conv => lhs; whnf) fun w'' hS' => ⟨?_, hS'.belowO (by simp [hb])⟩; simp only [orI]; rw [if_neg (by omega), h2 (by omega)])

/-- In which order two pledges of a thing stand. -/
def rankI (p q : Pledge) : Int := orI (cmpI (firstP p) (firstP q)) (cmpI p.day q.day)
theorem rankF_calls (p q : Pledge) (w : World) : Does Try.prog 27 [.agg (encPledge p).toArray, .agg (encPledge q).toArray] w (Ret w (.int .i64 (rankI p q))) := by
  refine calls_J (ys := [.agg (encPledge p).toArray, .agg (encPledge q).toArray]) Try.func27 rfl Try.ntmps27 rfl ?_
  refine J.at_ (S := St w [] []) ?_ (St.start w)
  repeat' (first
    | refine JE.pure rfl rfl (by conv => lhs; whnf) rfl ?_
    | (refine JE.kField ?_; refine JE.fieldAddr rfl rfl rfl ?_)
    | (refine JE.kLoad ?_; refine JE.load1 rfl rfl (by repeat (first | exact In.head | refine In.tail ?_ | refine In.app ?_)) rfl (by conv => lhs; whnf) (fun _ => by first | trivial | exact ⟨.inr ‹_›, trivial⟩ | exact ⟨.inl (by kernel_rfl), trivial⟩ | exact ⟨.inr ‹_›, .inr ‹_›, trivial⟩ | exact ⟨.inr ‹_›, .inl (by kernel_rfl), trivial⟩ | exact ⟨.inl (by kernel_rfl), .inr ‹_›, trivial⟩ | exact ⟨.inl (by kernel_rfl), .inl (by kernel_rfl), trivial⟩) rfl ?_)
    | (refine JE.kLoad ?_; refine JE.loadAll rfl rfl (by repeat (first | exact In.head | refine In.tail ?_ | refine In.app ?_)) (by rfl) (fun _ => by first | trivial | exact ⟨.inr ‹_›, trivial⟩ | exact ⟨.inl (by kernel_rfl), trivial⟩ | exact ⟨.inr ‹_›, .inr ‹_›, trivial⟩ | exact ⟨.inr ‹_›, .inl (by kernel_rfl), trivial⟩ | exact ⟨.inl (by kernel_rfl), .inr ‹_›, trivial⟩ | exact ⟨.inl (by kernel_rfl), .inl (by kernel_rfl), trivial⟩) rfl ?_)
    | (refine JE.kBox ?_; refine JE.box rfl (by conv => lhs; whnf) rfl (fun _ _ => ?_))
    | (refine JE.kBuildSlice ?_; refine JE.buildSlice rfl rfl rfl (by conv => lhs; whnf) (by rfl) (by rfl) (by repeat (first | exact NfL.nil rfl | apply NfL.cons (by exact rfl) (by conv => lhs; whnf))) rfl (fun _ _ => ?_))
    | with_reducible refine JE.sN ?_
    | with_reducible refine JE.dN ?_
    | with_reducible refine J.seq ?_
    | with_reducible refine J.region ?_
    | with_reducible refine J.ret ?_
    | (refine J.isR 1 ?_; refine J.draw [(0,true),(2,true),(5,true),(6,true),(7,true),(8,true),(1,false),(3,false),(4,false),(9,false),(10,false),(11,false),(12,true)] [] mixed (by kernel_rfl) (fun _ h => h.drew) ?_)
    | (refine JE.isF 30 ?_; refine JE.call rfl rfl (by repeat (first | exact NfL.nil rfl | apply NfL.cons (by exact rfl) (by conv => lhs; whnf))) rfl ?_; refine CallG.ret (fun w hS => first_calls p w) ?_)
    | (refine JE.isF 30 ?_; refine JE.call rfl rfl (by repeat (first | exact NfL.nil rfl | apply NfL.cons (by exact rfl) (by conv => lhs; whnf))) rfl ?_; refine CallG.ret (fun w hS => first_calls q w) ?_)
    | (refine JE.isF 29 ?_; refine JE.call rfl rfl (by repeat (first | exact NfL.nil rfl | apply NfL.cons (by exact rfl) (by conv => lhs; whnf))) rfl ?_; refine CallG.ret (fun w hS => compare_calls _ _ w) ?_)
    | (refine JE.isF 28 ?_; refine JE.call rfl rfl (by repeat (first | exact NfL.nil rfl | apply NfL.cons (by exact rfl) (by conv => lhs; whnf))) rfl ?_; refine CallG.ret (fun w hS => or_calls _ _ _ w (hS.own _ (.head _))) ?_))
  all_goals refine fnQ_tmp (.inl rfl) rfl (by conv => lhs; whnf) fun w' hS => ⟨?_, hS.below⟩
  all_goals rfl

end Go.Proofs.Ytnapfiheholhiaa
