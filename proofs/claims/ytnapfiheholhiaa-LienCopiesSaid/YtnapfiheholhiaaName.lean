/-
  Names: mark.Name and the document's own. Conditions: none.
-/
import Derived.Test.YtnapfiheholhiaaRow
import Derived.Test.YtnapfiheholhiaaTypes
set_option linter.unusedVariables false
set_option linter.unusedSimpArgs false
namespace Go.Proofs.Ytnapfiheholhiaa
open Go Go.RowKit Go.Proofs.YtnapfiheholhiaaSym

/-- A byte of a name. -/
def nameInt (c : Int) : Bool := decide ((97 ≤ c ∧ c ≤ 122) ∨ (48 ≤ c ∧ c ≤ 57) ∨ c = 45)
def isName (s : ByteArray) : Bool := decide (1 ≤ s.size ∧ s.size ≤ 16) && s.data.toList.all fun c => nameInt c.toNat

theorem byteAt_eq {s : ByteArray} {k : Nat} (hk' : k < s.data.toList.length) : byteAt s k = s.data.toList[k] := by
  rw [byteAt, List.getD_eq_getElem?_getD, List.getElem?_eq_getElem hk']; rfl
theorem byte_all {s : ByteArray} {p : Nat → Bool} {k : Nat} (hk : k < s.size) : (s.data.toList.take (k + 1)).all (fun c => p c.toNat) = ((s.data.toList.take k).all (fun c => p c.toNat) && p (byteAt s k).toNat) := by
  have hk' : k < s.data.toList.length := by simpa using hk
  rw [List.take_add_one, List.getElem?_eq_getElem hk', List.all_append, byteAt_eq hk']
  simp
theorem byte_bad {s : ByteArray} {p : Nat → Bool} {k : Nat} (hk : k < s.size) (h : p (byteAt s k).toNat = false) : (s.data.toList.all fun c => p c.toNat) = false := by
  have hk' : k < s.data.toList.length := by simpa using hk
  rw [List.all_eq_false]
  refine ⟨s.data.toList[k], List.getElem_mem hk', ?_⟩
  rw [← byteAt_eq hk', h]
  simp

theorem lower_calls (c : Int) (w : World) : Does Try.prog 66 [.int .u8 c] w (Ret w (.bool (decide (97 ≤ c ∧ c ≤ 122)))) := by
  refine calls_J (ys := [.int .u8 c]) Try.func66 rfl Try.ntmps66 rfl ?_
  refine J.at_ (S := St w [] []) ?_ (St.start w)
  repeat' (first
    | refine JE.pure rfl rfl (by conv => lhs; whnf) rfl ?_
    | refine JE.skip rfl rfl ?_
    | (refine JE.kBin ?_; (refine JE.int rfl rfl rfl rfl rfl rfl ?_; with_reducible refine JE.waysD (fun _ => ?_) (fun _ => ?_)))
    | with_reducible refine JE.sN ?_
    | with_reducible refine J.seq ?_
    | with_reducible refine J.region ?_
    | with_reducible refine J.ret ?_)
  all_goals refine fnQ_tmp (.inl rfl) rfl (by conv => lhs; whnf) fun w' hS => ⟨?_, hS.below⟩
  all_goals (first | (simp_all []; done) | (simp_all [] <;> (intros; omega)))
theorem digit_calls (c : Int) (w : World) : Does Try.prog 67 [.int .u8 c] w (Ret w (.bool (decide (48 ≤ c ∧ c ≤ 57)))) := by
  refine calls_J (ys := [.int .u8 c]) Try.func67 rfl Try.ntmps67 rfl ?_
  refine J.at_ (S := St w [] []) ?_ (St.start w)
  repeat' (first
    | refine JE.pure rfl rfl (by conv => lhs; whnf) rfl ?_
    | refine JE.skip rfl rfl ?_
    | (refine JE.kBin ?_; (refine JE.int rfl rfl rfl rfl rfl rfl ?_; with_reducible refine JE.waysD (fun _ => ?_) (fun _ => ?_)))
    | with_reducible refine JE.sN ?_
    | with_reducible refine J.seq ?_
    | with_reducible refine J.region ?_
    | with_reducible refine J.ret ?_)
  all_goals refine fnQ_tmp (.inl rfl) rfl (by conv => lhs; whnf) fun w' hS => ⟨?_, hS.below⟩
  all_goals (first | (simp_all []; done) | (simp_all [] <;> (intros; omega)))
theorem name1_calls (c : Int) (w : World) : Does Try.prog 65 [.int .u8 c] w (Ret w (.bool (nameInt c))) := by
  refine calls_J (ys := [.int .u8 c]) Try.func65 rfl Try.ntmps65 rfl ?_
  refine J.at_ (S := St w [] []) ?_ (St.start w)
  repeat' (first
    | refine JE.pure rfl rfl (by conv => lhs; whnf) rfl ?_
    | refine JE.skip rfl rfl ?_
    | (refine JE.kBin ?_; (refine JE.int rfl rfl rfl rfl rfl rfl ?_; with_reducible refine JE.waysD (fun _ => ?_) (fun _ => ?_)))
    | with_reducible refine JE.sN ?_
    | with_reducible refine J.seq ?_
    | with_reducible refine J.region ?_
    | with_reducible refine J.ret ?_
    | (refine JE.isF 66 ?_; refine JE.call rfl rfl (by repeat (first | exact NfL.nil rfl | apply NfL.cons (by exact rfl) (by conv => lhs; whnf))) rfl ?_; refine CallG.ret (fun w hS => lower_calls _ w) ?_; with_reducible refine JE.ways (fun _ => ?_) (fun _ => ?_))
    | (refine JE.isF 67 ?_; refine JE.call rfl rfl (by repeat (first | exact NfL.nil rfl | apply NfL.cons (by exact rfl) (by conv => lhs; whnf))) rfl ?_; refine CallG.ret (fun w hS => digit_calls _ w) ?_; with_reducible refine JE.ways (fun _ => ?_) (fun _ => ?_)))
  all_goals refine fnQ_tmp (.inl rfl) rfl (by conv => lhs; whnf) fun w' hS => ⟨?_, hS.below⟩
  all_goals (first | (simp_all [nameInt]; done) | (simp_all [nameInt] <;> (intros; omega)))

set_option maxHeartbeats 1000000 in
theorem markAll_calls (h : FuncId) [EntersF Try.prog h] (p : Int → Bool) (s : ByteArray) (w : World) (hp : ∀ c w, Does Try.prog h [.int .u8 c] w (Ret w (.bool (p c)))) (hz : s.size ≤ 9223372036854775807) :
    Does Try.prog 64 [.string s, .func (.func h) #[] #[]] w (Ret w (.bool (s.data.toList.all fun c => p c.toNat))) := by
  refine calls_J (ys := [.string s, .func (.func h) #[] #[]]) Try.func64 rfl Try.ntmps64 rfl ?_
  refine J.at_ (S := St w [] []) ?_ (St.start w)
  repeat' (first
    | refine JE.pure rfl rfl (by conv => lhs; whnf) rfl ?_
    | (refine JE.kBuiltin ?_; refine JE.lenStr rfl rfl rfl ?_)
    | with_reducible refine JE.sN ?_
    | with_reducible refine J.seq ?_
    | with_reducible refine J.region ?_
    | with_reducible refine J.block ?_)
  refine J.loop (fun f w' => ∃ k : Nat, k ≤ s.size ∧ (s.data.toList.take k).all (fun c => p c.toNat) = true ∧ Has f [(0, .string s), (1, .func (.func h) #[] #[]), (7, .int .i64 s.size), (8, .int .i64 k)] ∧ St w [] [] w')
    (fun f _ => s.size - (intOf (f 8)).toNat) (fun w' hS => ⟨0, Nat.zero_le _, rfl, (by repeat' (first | exact trivial | refine And.intro (by rfl) ?_)), hS⟩) ?_
  rintro f w' ⟨k, hk, hall, hf, hS⟩
  obtain ⟨g, rfl⟩ := hf.eq
  clear hf
  refine J.at_ ?_ hS
  by_cases hlt : k < s.size
  · have hb := byte_bad (p := fun c => p c) hlt
    have hs := byte_all (p := fun c => p c) hlt
    repeat' (first
      | refine JE.pure rfl rfl (by conv => lhs; whnf) rfl ?_
      | (refine JE.kBin ?_; (refine JE.int rfl rfl rfl rfl rfl rfl ?_; with_reducible refine JE.waysD (fun _ => ?_) (fun _ => ?_)))
      | (refine JE.kBin ?_; refine JE.int rfl rfl rfl rfl (by rw [i64_id (by omega)]) rfl ?_)
      | with_reducible refine JE.sN ?_
      | with_reducible refine JE.sX ?_
      | with_reducible refine J.seq ?_
      | with_reducible refine J.region ?_
      | refine J.condT rfl ?_
      | refine J.condF rfl ?_
      | with_reducible refine J.skip ?_
      | with_reducible refine J.exit ?_
      | with_reducible refine J.block ?_
      | with_reducible refine J.ret ?_
      | with_reducible refine JX.thenN ?_
      | with_reducible refine JX.thenR ?_
      | with_reducible refine JX.thenE ?_
      | with_reducible refine JX.blkS ?_
      | with_reducible refine JX.blkN ?_
      | with_reducible refine JX.blkR ?_
      | (refine JE.kIndex ?_; refine JE.indexStr rfl rfl rfl (Int.natCast_nonneg _) (by omega) rfl ?_)
      | (refine JE.isV ?_; refine JE.call rfl rfl (by repeat (first | exact NfL.nil rfl | apply NfL.cons (by exact rfl) (by conv => lhs; whnf))) rfl ?_; refine CallG.ret (fun w hS => hp _ w) ?_; with_reducible refine JE.ways (fun _ => ?_) (fun _ => ?_)))
    all_goals try simp only [Int.toNat_natCast] at *
    all_goals first
      | (exfalso; omega)
      | (refine JX.round fun w'' hS' => ⟨⟨k + 1, hlt, by rw [hs, hall]; simpa using ‹_›, (by repeat' (first | exact trivial | refine And.intro (by rfl) ?_)), hS'⟩, ?_⟩
         show s.size - ((k : Int) + 1).toNat < s.size - ((k : Int)).toNat
         omega)
      | (refine fnQ_tmp (.inl rfl) rfl (by conv => lhs; whnf) fun w'' hS' => ⟨?_, hS'.below⟩; rw [hb ‹_›])
  · have hk' : k = s.size := by omega
    rw [hk', List.take_of_length_le (by simp)] at hall
    repeat' (first
      | refine JE.pure rfl rfl (by conv => lhs; whnf) rfl ?_
      | (refine JE.kBin ?_; (refine JE.int rfl rfl rfl rfl rfl rfl ?_; with_reducible refine JE.waysD (fun _ => ?_) (fun _ => ?_)))
      | with_reducible refine JE.sN ?_
      | with_reducible refine J.seq ?_
      | with_reducible refine J.region ?_
      | refine J.condT rfl ?_
      | refine J.condF rfl ?_
      | with_reducible refine J.skip ?_
      | with_reducible refine J.exit ?_
      | with_reducible refine J.block ?_
      | with_reducible refine J.ret ?_
      | with_reducible refine JX.thenN ?_
      | with_reducible refine JX.thenE ?_
      | with_reducible refine JX.blkS ?_)
    all_goals first
      | (exfalso; omega)
      | (refine fnQ_tmp (.inl rfl) rfl (by conv => lhs; whnf) fun w'' hS' => ⟨?_, hS'.below⟩; rw [hall])

theorem markName_calls (s : ByteArray) (hz : s.size ≤ 9223372036854775807) (w : World) : Does Try.prog 57 [.string s] w (Ret w (.bool (isName s))) := by
  have hC := fun w => markAll_calls 65 nameInt s w name1_calls hz
  refine calls_J (ys := [.string s]) Try.func57 rfl Try.ntmps57 rfl ?_
  refine J.at_ (S := St w [] []) ?_ (St.start w)
  repeat' (first
    | refine JE.pure rfl rfl (by conv => lhs; whnf) rfl ?_
    | refine JE.skip rfl rfl ?_
    | (refine JE.kBin ?_; (refine JE.int rfl rfl rfl rfl rfl rfl ?_; with_reducible refine JE.waysD (fun _ => ?_) (fun _ => ?_)))
    | (refine JE.kBuiltin ?_; refine JE.lenStr rfl rfl rfl ?_)
    | with_reducible refine JE.sN ?_
    | with_reducible refine J.seq ?_
    | with_reducible refine J.region ?_
    | with_reducible refine J.ret ?_
    | (refine JE.isF 64 ?_; refine JE.call rfl rfl (by repeat (first | exact NfL.nil rfl | apply NfL.cons (by exact rfl) (by conv => lhs; whnf))) rfl ?_; refine CallG.ret (fun w hS => hC w) ?_; with_reducible refine JE.ways (fun _ => ?_) (fun _ => ?_)))
  all_goals refine fnQ_tmp (.inl rfl) rfl (by conv => lhs; whnf) fun w' hS => ⟨?_, hS.below⟩
  all_goals (first | (simp_all [isName]; done) | (simp_all [isName] <;> (intros; omega)))

set_option maxHeartbeats 1000000 in
theorem refName_calls (s : ByteArray) (hz : s.size ≤ 9223372036854775807) (w : World) : Does Try.prog 63 [.string s] w (Ret w (.bool (isName s))) := by
  refine calls_J (ys := [.string s]) Try.func63 rfl Try.ntmps63 rfl ?_
  refine J.at_ (S := St w [] []) ?_ (St.start w)
  repeat' (first
    | refine JE.pure rfl rfl (by conv => lhs; whnf) rfl ?_
    | with_reducible refine JE.sN ?_
    | with_reducible refine J.seq ?_
    | with_reducible refine J.region ?_
    | with_reducible refine J.block ?_)
  refine J.loop (fun f w' => ∃ k : Nat, k ≤ s.size ∧ (s.data.toList.take k).all (fun c => nameInt c.toNat) = true ∧ Has f [(0, .string s), (3, .int .i64 k)] ∧ St w [] [] w')
    (fun f _ => s.size - (intOf (f 3)).toNat) (fun w' hS => ⟨0, Nat.zero_le _, rfl, (by repeat' (first | exact trivial | refine And.intro (by rfl) ?_)), hS⟩) ?_
  rintro f w' ⟨k, hk, hall, hf, hS⟩
  obtain ⟨g, rfl⟩ := hf.eq
  clear hf
  refine J.at_ ?_ hS
  by_cases hlt : k < s.size
  · have hb := byte_bad (p := fun c => nameInt c) hlt
    have hs := byte_all (p := fun c => nameInt c) hlt
    repeat' (first
      | refine JE.pure rfl rfl (by conv => lhs; whnf) rfl ?_
      | refine JE.skip rfl rfl ?_
      | (refine JE.kBin ?_; (refine JE.int rfl rfl rfl rfl rfl rfl ?_; with_reducible refine JE.waysD (fun _ => ?_) (fun _ => ?_)))
      | (refine JE.kBin ?_; refine JE.int rfl rfl rfl rfl (by rw [i64_id (by omega)]) rfl ?_)
      | (refine JE.kBuiltin ?_; refine JE.lenStr rfl rfl rfl ?_)
      | with_reducible refine JE.sN ?_
      | with_reducible refine JE.sX ?_
      | with_reducible refine J.seq ?_
      | with_reducible refine J.region ?_
      | refine J.condT rfl ?_
      | refine J.condF rfl ?_
      | with_reducible refine J.skip ?_
      | with_reducible refine J.exit ?_
      | with_reducible refine J.block ?_
      | with_reducible refine J.ret ?_
      | with_reducible refine JX.thenN ?_
      | with_reducible refine JX.thenR ?_
      | with_reducible refine JX.thenE ?_
      | with_reducible refine JX.blkS ?_
      | with_reducible refine JX.blkN ?_
      | with_reducible refine JX.blkR ?_
      | (refine JE.kIndex ?_; refine JE.indexStr rfl rfl rfl (Int.natCast_nonneg _) (by omega) rfl ?_))
    all_goals try simp only [Int.toNat_natCast] at *
    all_goals first
      | (exfalso; omega)
      | (refine fnQ_tmp (.inl rfl) rfl (by conv => lhs; whnf) fun w'' hS' => ⟨?_, hS'.below⟩; simp only [isName]; rw [hb (by simp only [nameInt, decide_eq_false_iff_not]; omega)]; simp)
      | (refine JX.round fun w'' hS' => ⟨⟨k + 1, hlt, ?_, (by repeat' (first | exact trivial | refine And.intro (by rfl) ?_)), hS'⟩, ?_⟩
         · rw [hs, hall]; simp only [nameInt, Bool.true_and, decide_eq_true_eq]; omega
         · show s.size - ((k : Int) + 1).toNat < s.size - ((k : Int)).toNat
           omega)
  · have hk' : k = s.size := by omega
    rw [hk', List.take_of_length_le (by simp)] at hall
    repeat' (first
      | refine JE.pure rfl rfl (by conv => lhs; whnf) rfl ?_
      | refine JE.skip rfl rfl ?_
      | (refine JE.kBin ?_; (refine JE.int rfl rfl rfl rfl rfl rfl ?_; with_reducible refine JE.waysD (fun _ => ?_) (fun _ => ?_)))
      | (refine JE.kBuiltin ?_; refine JE.lenStr rfl rfl rfl ?_)
      | with_reducible refine JE.sN ?_
      | with_reducible refine J.seq ?_
      | with_reducible refine J.region ?_
      | refine J.condT rfl ?_
      | refine J.condF rfl ?_
      | with_reducible refine J.skip ?_
      | with_reducible refine J.exit ?_
      | with_reducible refine J.block ?_
      | with_reducible refine J.ret ?_
      | with_reducible refine JX.thenN ?_
      | with_reducible refine JX.thenE ?_
      | with_reducible refine JX.blkS ?_)
    all_goals first
      | (exfalso; omega)
      | (refine fnQ_tmp (.inl rfl) rfl (by conv => lhs; whnf) fun w'' hS' => ⟨?_, hS'.below⟩; simp_all [isName] <;> omega)


/-! ### Pledges -/
structure Pledge where
  thing : ByteArray
  debtor : ByteArray
  creditor : ByteArray
  day : Int
  amount : Int
  held : Bool
  deriving DecidableEq
def encPledge (p : Pledge) : List Value := [.string p.thing, .string p.debtor, .string p.creditor, .int .i64 p.day, .int .i64 p.amount, .bool p.held]
def mayPledge (p : Pledge) : Bool :=
  isName p.thing && (isName p.debtor && (isName p.creditor && (decide (p.debtor ≠ p.creditor) && (decide (0 ≤ p.day ∧ p.day ≤ 1048576) && decide (1 ≤ p.amount ∧ p.amount ≤ 1099511627776)))))
/-- The texts of a pledge are no longer than memory. -/
def Fits (p : Pledge) : Prop := p.thing.size ≤ 9223372036854775807 ∧ p.debtor.size ≤ 9223372036854775807 ∧ p.creditor.size ≤ 9223372036854775807

theorem right_calls (p : Pledge) (hp : Fits p) (w : World) : Does Try.prog 46 [.agg (encPledge p).toArray] w (Ret w (.bool (mayPledge p))) := by
  obtain ⟨h1, h2, h3⟩ := hp
  refine calls_J (ys := [.agg (encPledge p).toArray]) Try.func46 rfl Try.ntmps46 rfl ?_
  refine J.at_ (S := St w [] []) ?_ (St.start w)
  repeat' (first
    | refine JE.pure rfl rfl (by conv => lhs; whnf) rfl ?_
    | refine JE.skip rfl rfl ?_
    | (refine JE.kBin ?_; (refine JE.int rfl rfl rfl rfl rfl rfl ?_; with_reducible refine JE.waysD (fun _ => ?_) (fun _ => ?_)))
    | (refine JE.kBin ?_; (refine JE.neStr rfl rfl rfl rfl ?_; with_reducible refine JE.waysD (fun _ => ?_) (fun _ => ?_)))
    | (refine JE.kField ?_; refine JE.fieldAddr rfl rfl rfl ?_)
    | (refine JE.kLoad ?_; refine JE.load1 rfl rfl (by repeat (first | exact In.head | refine In.tail ?_ | refine In.app ?_)) rfl (by conv => lhs; whnf) (fun _ => by first | trivial | exact ⟨.inr ‹_›, trivial⟩ | exact ⟨.inl (by kernel_rfl), trivial⟩ | exact ⟨.inr ‹_›, .inr ‹_›, trivial⟩ | exact ⟨.inr ‹_›, .inl (by kernel_rfl), trivial⟩ | exact ⟨.inl (by kernel_rfl), .inr ‹_›, trivial⟩ | exact ⟨.inl (by kernel_rfl), .inl (by kernel_rfl), trivial⟩) rfl ?_)
    | (refine JE.kBox ?_; refine JE.box rfl (by conv => lhs; whnf) rfl (fun _ _ => ?_))
    | with_reducible refine JE.sN ?_
    | with_reducible refine J.seq ?_
    | with_reducible refine J.region ?_
    | with_reducible refine J.ret ?_
    | (refine JE.isF 57 ?_; refine JE.call rfl rfl (by repeat (first | exact NfL.nil rfl | apply NfL.cons (by exact rfl) (by conv => lhs; whnf))) rfl ?_; refine CallG.ret (fun w hS => markName_calls _ (by assumption) w) ?_; with_reducible refine JE.ways (fun _ => ?_) (fun _ => ?_)))
  all_goals refine fnQ_tmp (.inl rfl) rfl (by conv => lhs; whnf) fun w' hS => ⟨?_, hS.below⟩
  all_goals (first | (simp_all [mayPledge]; done) | (simp_all [mayPledge] <;> (intros; omega)))
theorem refMay_calls (p : Pledge) (hp : Fits p) (w : World) : Does Try.prog 56 [.agg (encPledge p).toArray] w (Ret w (.bool (mayPledge p))) := by
  obtain ⟨h1, h2, h3⟩ := hp
  refine calls_J (ys := [.agg (encPledge p).toArray]) Try.func56 rfl Try.ntmps56 rfl ?_
  refine J.at_ (S := St w [] []) ?_ (St.start w)
  repeat' (first
    | refine JE.pure rfl rfl (by conv => lhs; whnf) rfl ?_
    | refine JE.skip rfl rfl ?_
    | (refine JE.kBin ?_; (refine JE.int rfl rfl rfl rfl rfl rfl ?_; with_reducible refine JE.waysD (fun _ => ?_) (fun _ => ?_)))
    | (refine JE.kBin ?_; (refine JE.neStr rfl rfl rfl rfl ?_; with_reducible refine JE.waysD (fun _ => ?_) (fun _ => ?_)))
    | (refine JE.kField ?_; refine JE.fieldAddr rfl rfl rfl ?_)
    | (refine JE.kLoad ?_; refine JE.load1 rfl rfl (by repeat (first | exact In.head | refine In.tail ?_ | refine In.app ?_)) rfl (by conv => lhs; whnf) (fun _ => by first | trivial | exact ⟨.inr ‹_›, trivial⟩ | exact ⟨.inl (by kernel_rfl), trivial⟩ | exact ⟨.inr ‹_›, .inr ‹_›, trivial⟩ | exact ⟨.inr ‹_›, .inl (by kernel_rfl), trivial⟩ | exact ⟨.inl (by kernel_rfl), .inr ‹_›, trivial⟩ | exact ⟨.inl (by kernel_rfl), .inl (by kernel_rfl), trivial⟩) rfl ?_)
    | (refine JE.kBox ?_; refine JE.box rfl (by conv => lhs; whnf) rfl (fun _ _ => ?_))
    | with_reducible refine JE.sN ?_
    | with_reducible refine J.seq ?_
    | with_reducible refine J.region ?_
    | with_reducible refine J.ret ?_
    | (refine JE.isF 63 ?_; refine JE.call rfl rfl (by repeat (first | exact NfL.nil rfl | apply NfL.cons (by exact rfl) (by conv => lhs; whnf))) rfl ?_; refine CallG.ret (fun w hS => refName_calls _ (by assumption) w) ?_; with_reducible refine JE.ways (fun _ => ?_) (fun _ => ?_)))
  all_goals refine fnQ_tmp (.inl rfl) rfl (by conv => lhs; whnf) fun w' hS => ⟨?_, hS.below⟩
  all_goals (first | (simp_all [mayPledge]; done) | (simp_all [mayPledge] <;> (intros; omega)))

end Go.Proofs.Ytnapfiheholhiaa
