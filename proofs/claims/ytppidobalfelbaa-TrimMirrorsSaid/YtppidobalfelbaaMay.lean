/-
  bay.May and its callees: may a ship be? Conditions: none.
-/
import Derived.Test.YtppidobalfelbaaStr
namespace Go.Proofs.Ytppidobalfelbaa
open Go Go.RowKit Go.Proofs.YtppidobalfelbaaSym

structure Ship where
  name : ByteArray
  bays : Int
  rows : Int
  tiers : Int
  stack : Int
  trim : Int
  list : Int
  up : Int
  most : Int
structure Slot where
  bay : Int
  row : Int
  tier : Int
  deriving DecidableEq
structure Load where
  slot : Slot
  box : ByteArray
  weight : Int
  cls : Int
  port : Int
  deriving DecidableEq
def encShip (s : Ship) : List Value := [.string s.name, .int .i64 s.bays, .int .i64 s.rows, .int .i64 s.tiers, .int .i64 s.stack, .int .i64 s.trim, .int .i64 s.list, .int .i64 s.up, .int .i64 s.most]
def encSlot (x : Slot) : List Value := [.int .i64 x.bay, .int .i64 x.row, .int .i64 x.tier]
def encLoad (x : Load) : List Value := [.int .i64 x.slot.bay, .int .i64 x.slot.row, .int .i64 x.slot.tier, .string x.box, .int .i64 x.weight, .int .i64 x.cls, .int .i64 x.port]
def encInt (x : Int) : List Value := [.int .i64 x]

def within (n lo hi : Int) : Bool := decide (lo ≤ n ∧ n ≤ hi)

theorem within_calls (n lo hi : Int) (w : World) : Does Try.prog 29 [.int .i64 n, .int .i64 lo, .int .i64 hi] w (Ret w (.bool (within n lo hi))) := by
  refine calls_J (ys := [.int .i64 n, .int .i64 lo, .int .i64 hi]) Try.func29 rfl Try.ntmps29 rfl ?_
  refine J.at_ (S := St w [] []) ?_ (St.start w)
  repeat' (first
    | refine JE.pure rfl rfl (by conv => lhs; whnf) rfl ?_
    | refine JE.skip rfl rfl ?_
    | (refine JE.kBin ?_; first | (refine JE.int rfl rfl rfl rfl rfl rfl ?_; with_reducible refine JE.waysD (fun _ => ?_) (fun _ => ?_)) | refine JE.int rfl rfl rfl rfl (by rw [i64_id (by omega)]) rfl ?_ | refine JE.int rfl rfl rfl rfl rfl rfl ?_ | refine JE.eqBool rfl rfl rfl (by conv => lhs; whnf) rfl ?_ | refine JE.neBool rfl rfl rfl (by conv => lhs; whnf) rfl ?_ | (refine JE.eqStr rfl rfl rfl rfl ?_; with_reducible refine JE.waysD (fun _ => ?_) (fun _ => ?_)) | (refine JE.neStr rfl rfl rfl rfl ?_; with_reducible refine JE.waysD (fun _ => ?_) (fun _ => ?_)))
    | (refine JE.kField ?_; refine JE.fieldAddr rfl rfl rfl ?_)
    | (refine JE.kLoad ?_; first | refine JE.load1 rfl rfl (by repeat (first | exact In.head | refine In.tail ?_)) rfl (by conv => lhs; whnf) (fun _ => by first | trivial | exact ⟨.inr ‹_›, trivial⟩ | exact ⟨.inl (by kernel_rfl), trivial⟩ | exact ⟨.inr ‹_›, .inr ‹_›, trivial⟩ | exact ⟨.inl (by kernel_rfl), .inl (by kernel_rfl), trivial⟩) rfl ?_ | refine JE.loadAll rfl rfl (by repeat (first | exact In.head | refine In.tail ?_)) (by rfl) (fun _ => by first | trivial | exact ⟨.inr ‹_›, trivial⟩ | exact ⟨.inl (by kernel_rfl), trivial⟩ | exact ⟨.inr ‹_›, .inr ‹_›, trivial⟩ | exact ⟨.inl (by kernel_rfl), .inl (by kernel_rfl), trivial⟩) rfl ?_ | refine JE.loadN rfl rfl (by repeat (first | exact In.head | refine In.tail ?_)) (by conv => lhs; whnf) (by rfl) (fun _ => by first | trivial | exact ⟨.inr ‹_›, trivial⟩ | exact ⟨.inl (by kernel_rfl), trivial⟩ | exact ⟨.inr ‹_›, .inr ‹_›, trivial⟩ | exact ⟨.inl (by kernel_rfl), .inl (by kernel_rfl), trivial⟩) rfl ?_)
    | (refine JE.kBox ?_; refine JE.box rfl (by conv => lhs; whnf) rfl (fun _ _ => ?_))
    | (refine JE.kAlloc ?_; refine JE.alloc rfl (by conv => lhs; whnf) rfl (fun _ _ => ?_))
    | (refine JE.kStore ?_; refine JE.store rfl rfl (by repeat (first | exact Turn.head | apply Turn.tail)) SizeT.size (by repeat (first | exact NfL.nil rfl | apply NfL.cons (by exact rfl) (by conv => lhs; whnf))) (by rfl) (by rfl) (by rfl) (by repeat (first | exact NfL.nil rfl | apply NfL.cons (by exact rfl) (by conv => lhs; whnf))) (by first | trivial | exact List.mem_cons_self | exact List.mem_cons_of_mem _ List.mem_cons_self) rfl ?_)
    | (refine JE.kBuiltin ?_; first | refine JE.lenSl rfl rfl rfl ?_ | refine JE.lenStr rfl rfl rfl ?_ | refine JE.max2 rfl rfl rfl rfl rfl ?_ | refine JE.min2 rfl rfl rfl rfl rfl ?_)
    | (refine JE.kBuild ?_; refine JE.build rfl rfl (by repeat (first | exact NfL.nil rfl | apply NfL.cons (by exact rfl) (by conv => lhs; whnf))) rfl ?_)
    | (refine JE.kBuildSlice ?_; refine JE.buildSlice rfl rfl rfl (by conv => lhs; whnf) (by rfl) (by rfl) (by repeat (first | exact NfL.nil rfl | apply NfL.cons (by exact rfl) (by conv => lhs; whnf))) rfl (fun _ _ => ?_))
    | (refine JE.kRange ?_; refine JE.rangeStr rfl rfl rfl (fun _ _ => ?_))
    | with_reducible refine JE.sN ?_
    | with_reducible refine JE.sX ?_
    | with_reducible refine JE.dN ?_
    | with_reducible refine JE.dX ?_
    | with_reducible refine J.seq ?_
    | with_reducible refine J.region ?_
    | refine J.condT rfl ?_
    | refine J.condF rfl ?_
    | with_reducible refine J.skip ?_
    | with_reducible refine J.exit ?_
    | with_reducible refine J.block ?_
    | with_reducible refine J.ret ?_
    | with_reducible refine JX.thenN ?_
    | with_reducible refine JX.thenR ?_
    | with_reducible refine JX.thenE ?_
    | with_reducible refine JX.blkS ?_
    | (with_reducible refine JX.blkE ?_ ?_; exact rfl)
    | with_reducible refine JX.blkN ?_
    | with_reducible refine JX.blkR ?_)
  all_goals refine fnQ_tmp (.inl rfl) rfl (by conv => lhs; whnf) fun w' hS => ⟨?_, hS.below⟩
  all_goals (first | (simp_all [within]; done) | (simp_all [within] <;> (intros; omega)))

/-- A byte of a name. -/
def nameInt (c : Int) : Bool := decide ((97 ≤ c ∧ c ≤ 122) ∨ (48 ≤ c ∧ c ≤ 57) ∨ c = 45)
def isName (s : ByteArray) : Bool := decide (1 ≤ s.size ∧ s.size ≤ 16) && s.data.toList.all fun c => nameInt c.toNat

theorem odd_calls (c : Int) (w : World) : Does Try.prog 25 [.int .i32 c] w (Ret w (.bool (!nameInt c))) := by
  refine calls_J (ys := [.int .i32 c]) Try.func25 rfl Try.ntmps25 rfl ?_
  refine J.at_ (S := St w [] []) ?_ (St.start w)
  repeat' (first
    | refine JE.pure rfl rfl (by conv => lhs; whnf) rfl ?_
    | refine JE.skip rfl rfl ?_
    | (refine JE.kBin ?_; first | (refine JE.int rfl rfl rfl rfl rfl rfl ?_; with_reducible refine JE.waysD (fun _ => ?_) (fun _ => ?_)) | refine JE.int rfl rfl rfl rfl (by rw [i64_id (by omega)]) rfl ?_ | refine JE.int rfl rfl rfl rfl rfl rfl ?_ | refine JE.eqBool rfl rfl rfl (by conv => lhs; whnf) rfl ?_ | refine JE.neBool rfl rfl rfl (by conv => lhs; whnf) rfl ?_ | (refine JE.eqStr rfl rfl rfl rfl ?_; with_reducible refine JE.waysD (fun _ => ?_) (fun _ => ?_)) | (refine JE.neStr rfl rfl rfl rfl ?_; with_reducible refine JE.waysD (fun _ => ?_) (fun _ => ?_)))
    | (refine JE.kField ?_; refine JE.fieldAddr rfl rfl rfl ?_)
    | (refine JE.kLoad ?_; first | refine JE.load1 rfl rfl (by repeat (first | exact In.head | refine In.tail ?_)) rfl (by conv => lhs; whnf) (fun _ => by first | trivial | exact ⟨.inr ‹_›, trivial⟩ | exact ⟨.inl (by kernel_rfl), trivial⟩ | exact ⟨.inr ‹_›, .inr ‹_›, trivial⟩ | exact ⟨.inl (by kernel_rfl), .inl (by kernel_rfl), trivial⟩) rfl ?_ | refine JE.loadAll rfl rfl (by repeat (first | exact In.head | refine In.tail ?_)) (by rfl) (fun _ => by first | trivial | exact ⟨.inr ‹_›, trivial⟩ | exact ⟨.inl (by kernel_rfl), trivial⟩ | exact ⟨.inr ‹_›, .inr ‹_›, trivial⟩ | exact ⟨.inl (by kernel_rfl), .inl (by kernel_rfl), trivial⟩) rfl ?_ | refine JE.loadN rfl rfl (by repeat (first | exact In.head | refine In.tail ?_)) (by conv => lhs; whnf) (by rfl) (fun _ => by first | trivial | exact ⟨.inr ‹_›, trivial⟩ | exact ⟨.inl (by kernel_rfl), trivial⟩ | exact ⟨.inr ‹_›, .inr ‹_›, trivial⟩ | exact ⟨.inl (by kernel_rfl), .inl (by kernel_rfl), trivial⟩) rfl ?_)
    | (refine JE.kBox ?_; refine JE.box rfl (by conv => lhs; whnf) rfl (fun _ _ => ?_))
    | (refine JE.kAlloc ?_; refine JE.alloc rfl (by conv => lhs; whnf) rfl (fun _ _ => ?_))
    | (refine JE.kStore ?_; refine JE.store rfl rfl (by repeat (first | exact Turn.head | apply Turn.tail)) SizeT.size (by repeat (first | exact NfL.nil rfl | apply NfL.cons (by exact rfl) (by conv => lhs; whnf))) (by rfl) (by rfl) (by rfl) (by repeat (first | exact NfL.nil rfl | apply NfL.cons (by exact rfl) (by conv => lhs; whnf))) (by first | trivial | exact List.mem_cons_self | exact List.mem_cons_of_mem _ List.mem_cons_self) rfl ?_)
    | (refine JE.kBuiltin ?_; first | refine JE.lenSl rfl rfl rfl ?_ | refine JE.lenStr rfl rfl rfl ?_ | refine JE.max2 rfl rfl rfl rfl rfl ?_ | refine JE.min2 rfl rfl rfl rfl rfl ?_)
    | (refine JE.kBuild ?_; refine JE.build rfl rfl (by repeat (first | exact NfL.nil rfl | apply NfL.cons (by exact rfl) (by conv => lhs; whnf))) rfl ?_)
    | (refine JE.kBuildSlice ?_; refine JE.buildSlice rfl rfl rfl (by conv => lhs; whnf) (by rfl) (by rfl) (by repeat (first | exact NfL.nil rfl | apply NfL.cons (by exact rfl) (by conv => lhs; whnf))) rfl (fun _ _ => ?_))
    | (refine JE.kRange ?_; refine JE.rangeStr rfl rfl rfl (fun _ _ => ?_))
    | with_reducible refine JE.sN ?_
    | with_reducible refine JE.sX ?_
    | with_reducible refine JE.dN ?_
    | with_reducible refine JE.dX ?_
    | with_reducible refine J.seq ?_
    | with_reducible refine J.region ?_
    | refine J.condT rfl ?_
    | refine J.condF rfl ?_
    | with_reducible refine J.skip ?_
    | with_reducible refine J.exit ?_
    | with_reducible refine J.block ?_
    | with_reducible refine J.ret ?_
    | with_reducible refine JX.thenN ?_
    | with_reducible refine JX.thenR ?_
    | with_reducible refine JX.thenE ?_
    | with_reducible refine JX.blkS ?_
    | (with_reducible refine JX.blkE ?_ ?_; exact rfl)
    | with_reducible refine JX.blkN ?_
    | with_reducible refine JX.blkR ?_)
  all_goals refine fnQ_tmp (.inl rfl) rfl (by conv => lhs; whnf) fun w' hS => ⟨?_, hS.below⟩
  all_goals (first | (simp_all [nameInt]; done) | (simp_all [nameInt] <;> (intros; omega)))

theorem size_pos_iff (s : ByteArray) : s ≠ (⟨#[]⟩ : ByteArray) ↔ 1 ≤ s.size := by
  constructor
  · intro h
    rcases Nat.eq_zero_or_pos s.size with h0 | h0
    · refine absurd (ByteArray.ext (Array.eq_empty_of_size_eq_zero ?_)) h
      exact h0
    · exact h0
  · rintro h rfl
    exact absurd h (by decide)

theorem name_calls (s : ByteArray) (w : World) : Does Try.prog 22 [.string s] w (Ret w (.bool (isName s))) := by
  have hC := fun w => ContainsFunc_calls 25 (fun c => !nameInt c) odd_calls (fun c hc => by simp [nameInt]; omega) s w
  have he : (s.data.toList.any fun c => !nameInt c.toNat) = !(s.data.toList.all fun c => nameInt c.toNat) := by
    rw [List.not_all_eq_any_not]
  simp only [he] at hC
  have hz := size_pos_iff s
  have h0 : (⟨#[]⟩ : ByteArray).size = 0 := rfl
  refine calls_J (ys := [.string s]) Try.func22 rfl Try.ntmps22 rfl ?_
  refine J.at_ (S := St w [] []) ?_ (St.start w)
  repeat' (first
    | refine JE.pure rfl rfl (by conv => lhs; whnf) rfl ?_
    | refine JE.skip rfl rfl ?_
    | (refine JE.kBin ?_; first | (refine JE.int rfl rfl rfl rfl rfl rfl ?_; with_reducible refine JE.waysD (fun _ => ?_) (fun _ => ?_)) | refine JE.int rfl rfl rfl rfl (by rw [i64_id (by omega)]) rfl ?_ | refine JE.int rfl rfl rfl rfl rfl rfl ?_ | refine JE.eqBool rfl rfl rfl (by conv => lhs; whnf) rfl ?_ | refine JE.neBool rfl rfl rfl (by conv => lhs; whnf) rfl ?_ | (refine JE.eqStr rfl rfl rfl rfl ?_; with_reducible refine JE.waysD (fun _ => ?_) (fun _ => ?_)) | (refine JE.neStr rfl rfl rfl rfl ?_; with_reducible refine JE.waysD (fun _ => ?_) (fun _ => ?_)))
    | (refine JE.kField ?_; refine JE.fieldAddr rfl rfl rfl ?_)
    | (refine JE.kLoad ?_; first | refine JE.load1 rfl rfl (by repeat (first | exact In.head | refine In.tail ?_)) rfl (by conv => lhs; whnf) (fun _ => by first | trivial | exact ⟨.inr ‹_›, trivial⟩ | exact ⟨.inl (by kernel_rfl), trivial⟩ | exact ⟨.inr ‹_›, .inr ‹_›, trivial⟩ | exact ⟨.inl (by kernel_rfl), .inl (by kernel_rfl), trivial⟩) rfl ?_ | refine JE.loadAll rfl rfl (by repeat (first | exact In.head | refine In.tail ?_)) (by rfl) (fun _ => by first | trivial | exact ⟨.inr ‹_›, trivial⟩ | exact ⟨.inl (by kernel_rfl), trivial⟩ | exact ⟨.inr ‹_›, .inr ‹_›, trivial⟩ | exact ⟨.inl (by kernel_rfl), .inl (by kernel_rfl), trivial⟩) rfl ?_ | refine JE.loadN rfl rfl (by repeat (first | exact In.head | refine In.tail ?_)) (by conv => lhs; whnf) (by rfl) (fun _ => by first | trivial | exact ⟨.inr ‹_›, trivial⟩ | exact ⟨.inl (by kernel_rfl), trivial⟩ | exact ⟨.inr ‹_›, .inr ‹_›, trivial⟩ | exact ⟨.inl (by kernel_rfl), .inl (by kernel_rfl), trivial⟩) rfl ?_)
    | (refine JE.kBox ?_; refine JE.box rfl (by conv => lhs; whnf) rfl (fun _ _ => ?_))
    | (refine JE.kAlloc ?_; refine JE.alloc rfl (by conv => lhs; whnf) rfl (fun _ _ => ?_))
    | (refine JE.kStore ?_; refine JE.store rfl rfl (by repeat (first | exact Turn.head | apply Turn.tail)) SizeT.size (by repeat (first | exact NfL.nil rfl | apply NfL.cons (by exact rfl) (by conv => lhs; whnf))) (by rfl) (by rfl) (by rfl) (by repeat (first | exact NfL.nil rfl | apply NfL.cons (by exact rfl) (by conv => lhs; whnf))) (by first | trivial | exact List.mem_cons_self | exact List.mem_cons_of_mem _ List.mem_cons_self) rfl ?_)
    | (refine JE.kBuiltin ?_; first | refine JE.lenSl rfl rfl rfl ?_ | refine JE.lenStr rfl rfl rfl ?_ | refine JE.max2 rfl rfl rfl rfl rfl ?_ | refine JE.min2 rfl rfl rfl rfl rfl ?_)
    | (refine JE.kBuild ?_; refine JE.build rfl rfl (by repeat (first | exact NfL.nil rfl | apply NfL.cons (by exact rfl) (by conv => lhs; whnf))) rfl ?_)
    | (refine JE.kBuildSlice ?_; refine JE.buildSlice rfl rfl rfl (by conv => lhs; whnf) (by rfl) (by rfl) (by repeat (first | exact NfL.nil rfl | apply NfL.cons (by exact rfl) (by conv => lhs; whnf))) rfl (fun _ _ => ?_))
    | (refine JE.kRange ?_; refine JE.rangeStr rfl rfl rfl (fun _ _ => ?_))
    | with_reducible refine JE.sN ?_
    | with_reducible refine JE.sX ?_
    | with_reducible refine JE.dN ?_
    | with_reducible refine JE.dX ?_
    | with_reducible refine J.seq ?_
    | with_reducible refine J.region ?_
    | refine J.condT rfl ?_
    | refine J.condF rfl ?_
    | with_reducible refine J.skip ?_
    | with_reducible refine J.exit ?_
    | with_reducible refine J.block ?_
    | with_reducible refine J.ret ?_
    | with_reducible refine JX.thenN ?_
    | with_reducible refine JX.thenR ?_
    | with_reducible refine JX.thenE ?_
    | with_reducible refine JX.blkS ?_
    | (with_reducible refine JX.blkE ?_ ?_; exact rfl)
    | with_reducible refine JX.blkN ?_
    | with_reducible refine JX.blkR ?_
    | (refine JE.isF 26 ?_; refine JE.call rfl rfl (by repeat (first | exact NfL.nil rfl | apply NfL.cons (by exact rfl) (by conv => lhs; whnf))) rfl ?_; refine CallG.ret (fun w hS => hC w) ?_; with_reducible refine JE.ways (fun _ => ?_) (fun _ => ?_)))
  all_goals refine fnQ_tmp (.inl rfl) rfl (by conv => lhs; whnf) fun w' hS => ⟨?_, hS.below⟩
  all_goals (first | (simp_all [isName]; done) | (simp_all [isName] <;> (intros; omega)))

/-! ### slices.ContainsFunc over whole numbers -/
/-- The first place of a number of which p holds; -1: there is none. -/
def idxL (p : Int → Bool) (xs : List Int) : Int :=
  match xs.findIdx? p with
  | some i => i
  | none => -1
theorem idxL_at {p : Int → Bool} {xs : List Int} {k : Nat} {x : Int} (hk : xs[k]? = some x) (hp : p x = true) (hb : ∀ (j : Nat) y, j < k → xs[j]? = some y → p y = false) : idxL p xs = k := by
  obtain ⟨hl, rfl⟩ := List.getElem?_eq_some_iff.1 hk
  have : xs.findIdx? p = some k := by
    rw [List.findIdx?_eq_some_iff_getElem]
    exact ⟨hl, hp, fun j hj => by simp [hb j _ hj (List.getElem?_eq_getElem (by omega))]⟩
  simp [idxL, this]
theorem idxL_none {p : Int → Bool} {xs : List Int} (hb : ∀ (j : Nat) y, xs[j]? = some y → p y = false) : idxL p xs = -1 := by
  have : xs.findIdx? p = none := by
    rw [List.findIdx?_eq_none_iff]
    intro x hx
    obtain ⟨j, hj, rfl⟩ := List.mem_iff_getElem.1 hx
    exact hb j _ (List.getElem?_eq_getElem hj)
  simp [idxL, this]
theorem idxL_any (p : Int → Bool) (xs : List Int) : decide (0 ≤ idxL p xs) = xs.any p := by
  unfold idxL
  cases h : xs.findIdx? p with
  | none =>
    rw [List.findIdx?_eq_none_iff] at h
    simp only [Int.reduceNeg, Int.reduceLE, decide_false]
    symm
    rw [List.any_eq_false]
    intro x hx
    simp [h x hx]
  | some k =>
    rw [List.findIdx?_eq_some_iff_getElem] at h
    obtain ⟨hl, h1, _⟩ := h
    have : xs.any p = true := List.any_eq_true.2 ⟨_, List.getElem_mem hl, h1⟩
    rw [this]
    simp

set_option maxHeartbeats 400000 in
theorem IndexFuncI_calls (h : FuncId) [EntersF Try.prog h] (cs : List Value) (p : Int → Bool) (v : Value) (xs : List Int) (w : World) (hp : ∀ c w', Below w.heap.size w w' → Does Try.prog h (.int .i64 c :: cs) w' (Ret w' (.bool (p c))))
    (hs : Sl 1 encInt w v xs) (hx : xs.length ≤ 9223372036854775807) :
    Does Try.prog 31 [v, .func (.func h) #[] cs.toArray] w (Ret w (.int .i64 (idxL p xs))) := by
  obtain ⟨a, c, rfl, hs⟩ := hs
  refine calls_J (ys := [.slice a xs.length c, .func (.func h) #[] cs.toArray]) Try.func31 rfl Try.ntmps31 rfl ?_
  refine J.at_ (S := St w [] []) ?_ (St.start w)
  repeat' (first
    | refine JE.pure rfl rfl (by conv => lhs; whnf) rfl ?_
    | refine JE.skip rfl rfl ?_
    | (refine JE.kBin ?_; first | (refine JE.int rfl rfl rfl rfl rfl rfl ?_; with_reducible refine JE.waysD (fun _ => ?_) (fun _ => ?_)) | refine JE.int rfl rfl rfl rfl (by rw [i64_id (by omega)]) rfl ?_ | refine JE.int rfl rfl rfl rfl rfl rfl ?_ | refine JE.eqBool rfl rfl rfl (by conv => lhs; whnf) rfl ?_ | refine JE.neBool rfl rfl rfl (by conv => lhs; whnf) rfl ?_ | (refine JE.eqStr rfl rfl rfl rfl ?_; with_reducible refine JE.waysD (fun _ => ?_) (fun _ => ?_)) | (refine JE.neStr rfl rfl rfl rfl ?_; with_reducible refine JE.waysD (fun _ => ?_) (fun _ => ?_)))
    | (refine JE.kField ?_; refine JE.fieldAddr rfl rfl rfl ?_)
    | (refine JE.kLoad ?_; first | refine JE.load1 rfl rfl (by repeat (first | exact In.head | refine In.tail ?_)) rfl (by conv => lhs; whnf) (fun _ => by first | trivial | exact ⟨.inr ‹_›, trivial⟩ | exact ⟨.inl (by kernel_rfl), trivial⟩ | exact ⟨.inr ‹_›, .inr ‹_›, trivial⟩ | exact ⟨.inl (by kernel_rfl), .inl (by kernel_rfl), trivial⟩) rfl ?_ | refine JE.loadAll rfl rfl (by repeat (first | exact In.head | refine In.tail ?_)) (by rfl) (fun _ => by first | trivial | exact ⟨.inr ‹_›, trivial⟩ | exact ⟨.inl (by kernel_rfl), trivial⟩ | exact ⟨.inr ‹_›, .inr ‹_›, trivial⟩ | exact ⟨.inl (by kernel_rfl), .inl (by kernel_rfl), trivial⟩) rfl ?_ | refine JE.loadN rfl rfl (by repeat (first | exact In.head | refine In.tail ?_)) (by conv => lhs; whnf) (by rfl) (fun _ => by first | trivial | exact ⟨.inr ‹_›, trivial⟩ | exact ⟨.inl (by kernel_rfl), trivial⟩ | exact ⟨.inr ‹_›, .inr ‹_›, trivial⟩ | exact ⟨.inl (by kernel_rfl), .inl (by kernel_rfl), trivial⟩) rfl ?_)
    | (refine JE.kBox ?_; refine JE.box rfl (by conv => lhs; whnf) rfl (fun _ _ => ?_))
    | (refine JE.kAlloc ?_; refine JE.alloc rfl (by conv => lhs; whnf) rfl (fun _ _ => ?_))
    | (refine JE.kStore ?_; refine JE.store rfl rfl (by repeat (first | exact Turn.head | apply Turn.tail)) SizeT.size (by repeat (first | exact NfL.nil rfl | apply NfL.cons (by exact rfl) (by conv => lhs; whnf))) (by rfl) (by rfl) (by rfl) (by repeat (first | exact NfL.nil rfl | apply NfL.cons (by exact rfl) (by conv => lhs; whnf))) (by first | trivial | exact List.mem_cons_self | exact List.mem_cons_of_mem _ List.mem_cons_self) rfl ?_)
    | (refine JE.kBuiltin ?_; first | refine JE.lenSl rfl rfl rfl ?_ | refine JE.lenStr rfl rfl rfl ?_ | refine JE.max2 rfl rfl rfl rfl rfl ?_ | refine JE.min2 rfl rfl rfl rfl rfl ?_)
    | (refine JE.kBuild ?_; refine JE.build rfl rfl (by repeat (first | exact NfL.nil rfl | apply NfL.cons (by exact rfl) (by conv => lhs; whnf))) rfl ?_)
    | (refine JE.kBuildSlice ?_; refine JE.buildSlice rfl rfl rfl (by conv => lhs; whnf) (by rfl) (by rfl) (by repeat (first | exact NfL.nil rfl | apply NfL.cons (by exact rfl) (by conv => lhs; whnf))) rfl (fun _ _ => ?_))
    | (refine JE.kRange ?_; refine JE.rangeStr rfl rfl rfl (fun _ _ => ?_))
    | with_reducible refine JE.sN ?_
    | with_reducible refine JE.sX ?_
    | with_reducible refine JE.dN ?_
    | with_reducible refine JE.dX ?_
    | with_reducible refine J.seq ?_
    | with_reducible refine J.region ?_
    | refine J.condT rfl ?_
    | refine J.condF rfl ?_
    | with_reducible refine J.skip ?_
    | with_reducible refine J.exit ?_
    | with_reducible refine J.block ?_
    | with_reducible refine J.ret ?_
    | with_reducible refine JX.thenN ?_
    | with_reducible refine JX.thenR ?_
    | with_reducible refine JX.thenE ?_
    | with_reducible refine JX.blkS ?_
    | (with_reducible refine JX.blkE ?_ ?_; exact rfl)
    | with_reducible refine JX.blkN ?_
    | with_reducible refine JX.blkR ?_)
  refine J.loop (fun f w' => ∃ k : Nat, k ≤ xs.length ∧ (∀ (j : Nat) y, j < k → xs[j]? = some y → p y = false) ∧ Has f [(0, .slice a xs.length c), (1, .func (.func h) #[] cs.toArray), (7, .int .i64 xs.length), (8, .int .i64 k)] ∧ St w [] [] w')
    (fun f _ => xs.length - (intOf (f 8)).toNat) (fun w' hS => ⟨0, Nat.zero_le _, fun _ _ hj => absurd hj (Nat.not_lt_zero _), (by repeat' (first | exact trivial | refine And.intro (by rfl) ?_)), hS⟩) ?_
  rintro f w' ⟨k, hk, hbef, hf, hS⟩
  obtain ⟨g, rfl⟩ := hf.eq
  clear hf
  by_cases hlt : k < xs.length
  · obtain ⟨B, off, rfl, hr⟩ := hs (by intro e; rw [e] at hlt; simp at hlt)
    have hxk : xs[k]? = some xs[k] := List.getElem?_eq_getElem hlt
    refine J.at_ ?_ hS
    repeat' (first
      | refine JE.pure rfl rfl (by conv => lhs; whnf) rfl ?_
      | refine JE.skip rfl rfl ?_
      | (refine JE.kBin ?_; first | (refine JE.int rfl rfl rfl rfl rfl rfl ?_; with_reducible refine JE.waysD (fun _ => ?_) (fun _ => ?_)) | refine JE.int rfl rfl rfl rfl (by rw [i64_id (by omega)]) rfl ?_ | refine JE.int rfl rfl rfl rfl rfl rfl ?_ | refine JE.eqBool rfl rfl rfl (by conv => lhs; whnf) rfl ?_ | refine JE.neBool rfl rfl rfl (by conv => lhs; whnf) rfl ?_ | (refine JE.eqStr rfl rfl rfl rfl ?_; with_reducible refine JE.waysD (fun _ => ?_) (fun _ => ?_)) | (refine JE.neStr rfl rfl rfl rfl ?_; with_reducible refine JE.waysD (fun _ => ?_) (fun _ => ?_)))
      | (refine JE.kField ?_; refine JE.fieldAddr rfl rfl rfl ?_)
      | (refine JE.kLoad ?_; first | refine JE.load1 rfl rfl (by repeat (first | exact In.head | refine In.tail ?_)) rfl (by conv => lhs; whnf) (fun _ => by first | trivial | exact ⟨.inr ‹_›, trivial⟩ | exact ⟨.inl (by kernel_rfl), trivial⟩ | exact ⟨.inr ‹_›, .inr ‹_›, trivial⟩ | exact ⟨.inl (by kernel_rfl), .inl (by kernel_rfl), trivial⟩) rfl ?_ | refine JE.loadAll rfl rfl (by repeat (first | exact In.head | refine In.tail ?_)) (by rfl) (fun _ => by first | trivial | exact ⟨.inr ‹_›, trivial⟩ | exact ⟨.inl (by kernel_rfl), trivial⟩ | exact ⟨.inr ‹_›, .inr ‹_›, trivial⟩ | exact ⟨.inl (by kernel_rfl), .inl (by kernel_rfl), trivial⟩) rfl ?_ | refine JE.loadN rfl rfl (by repeat (first | exact In.head | refine In.tail ?_)) (by conv => lhs; whnf) (by rfl) (fun _ => by first | trivial | exact ⟨.inr ‹_›, trivial⟩ | exact ⟨.inl (by kernel_rfl), trivial⟩ | exact ⟨.inr ‹_›, .inr ‹_›, trivial⟩ | exact ⟨.inl (by kernel_rfl), .inl (by kernel_rfl), trivial⟩) rfl ?_)
      | (refine JE.kBox ?_; refine JE.box rfl (by conv => lhs; whnf) rfl (fun _ _ => ?_))
      | (refine JE.kAlloc ?_; refine JE.alloc rfl (by conv => lhs; whnf) rfl (fun _ _ => ?_))
      | (refine JE.kStore ?_; refine JE.store rfl rfl (by repeat (first | exact Turn.head | apply Turn.tail)) SizeT.size (by repeat (first | exact NfL.nil rfl | apply NfL.cons (by exact rfl) (by conv => lhs; whnf))) (by rfl) (by rfl) (by rfl) (by repeat (first | exact NfL.nil rfl | apply NfL.cons (by exact rfl) (by conv => lhs; whnf))) (by first | trivial | exact List.mem_cons_self | exact List.mem_cons_of_mem _ List.mem_cons_self) rfl ?_)
      | (refine JE.kBuiltin ?_; first | refine JE.lenSl rfl rfl rfl ?_ | refine JE.lenStr rfl rfl rfl ?_ | refine JE.max2 rfl rfl rfl rfl rfl ?_ | refine JE.min2 rfl rfl rfl rfl rfl ?_)
      | (refine JE.kBuild ?_; refine JE.build rfl rfl (by repeat (first | exact NfL.nil rfl | apply NfL.cons (by exact rfl) (by conv => lhs; whnf))) rfl ?_)
      | (refine JE.kBuildSlice ?_; refine JE.buildSlice rfl rfl rfl (by conv => lhs; whnf) (by rfl) (by rfl) (by repeat (first | exact NfL.nil rfl | apply NfL.cons (by exact rfl) (by conv => lhs; whnf))) rfl (fun _ _ => ?_))
      | (refine JE.kRange ?_; refine JE.rangeStr rfl rfl rfl (fun _ _ => ?_))
      | with_reducible refine JE.sN ?_
      | with_reducible refine JE.sX ?_
      | with_reducible refine JE.dN ?_
      | with_reducible refine JE.dX ?_
      | with_reducible refine J.seq ?_
      | with_reducible refine J.region ?_
      | refine J.condT rfl ?_
      | refine J.condF rfl ?_
      | with_reducible refine J.skip ?_
      | with_reducible refine J.exit ?_
      | with_reducible refine J.block ?_
      | with_reducible refine J.ret ?_
      | with_reducible refine JX.thenN ?_
      | with_reducible refine JX.thenR ?_
      | with_reducible refine JX.thenE ?_
      | with_reducible refine JX.blkS ?_
      | (with_reducible refine JX.blkE ?_ ?_; exact rfl)
      | with_reducible refine JX.blkN ?_
      | with_reducible refine JX.blkR ?_
      | refine JE.indexAddr rfl rfl rfl (Int.natCast_nonneg _) (by omega) rfl ?_
      | refine JE.loadRow1 rfl rfl hr (by simp) hxk rfl (fun _ => trivial) rfl ?_
      | (refine JE.isV ?_; refine JE.callC rfl rfl (by repeat (first | exact NfL.nil rfl | apply NfL.cons (by exact rfl) (by conv => lhs; whnf))) rfl ?_; refine CallG.ret (fun w hS => hp _ w hS.below) ?_; with_reducible refine JE.ways (fun _ => ?_) (fun _ => ?_)))
    · refine fnQ_tmp (.inl rfl) rfl (by conv => lhs; whnf) fun w'' hS' => ⟨?_, hS'.below⟩
      rename_i hq
      rw [idxL_at hxk hq hbef]
    · rename_i hq
      refine JX.round fun w'' hS' => ⟨⟨k + 1, hlt, fun j y hj hy => ?_, (by repeat' (first | exact trivial | refine And.intro (by rfl) ?_)), hS'⟩, ?_⟩
      · by_cases e : j = k
        · subst e; rw [hxk] at hy; cases hy; exact hq
        · exact hbef j y (by omega) hy
      · show xs.length - ((k : Int) + 1).toNat < xs.length - ((k : Int)).toNat
        omega
    · exfalso; omega
  · refine J.at_ ?_ hS
    repeat' (first
      | refine JE.pure rfl rfl (by conv => lhs; whnf) rfl ?_
      | refine JE.skip rfl rfl ?_
      | (refine JE.kBin ?_; first | (refine JE.int rfl rfl rfl rfl rfl rfl ?_; with_reducible refine JE.waysD (fun _ => ?_) (fun _ => ?_)) | refine JE.int rfl rfl rfl rfl (by rw [i64_id (by omega)]) rfl ?_ | refine JE.int rfl rfl rfl rfl rfl rfl ?_ | refine JE.eqBool rfl rfl rfl (by conv => lhs; whnf) rfl ?_ | refine JE.neBool rfl rfl rfl (by conv => lhs; whnf) rfl ?_ | (refine JE.eqStr rfl rfl rfl rfl ?_; with_reducible refine JE.waysD (fun _ => ?_) (fun _ => ?_)) | (refine JE.neStr rfl rfl rfl rfl ?_; with_reducible refine JE.waysD (fun _ => ?_) (fun _ => ?_)))
      | (refine JE.kField ?_; refine JE.fieldAddr rfl rfl rfl ?_)
      | (refine JE.kLoad ?_; first | refine JE.load1 rfl rfl (by repeat (first | exact In.head | refine In.tail ?_)) rfl (by conv => lhs; whnf) (fun _ => by first | trivial | exact ⟨.inr ‹_›, trivial⟩ | exact ⟨.inl (by kernel_rfl), trivial⟩ | exact ⟨.inr ‹_›, .inr ‹_›, trivial⟩ | exact ⟨.inl (by kernel_rfl), .inl (by kernel_rfl), trivial⟩) rfl ?_ | refine JE.loadAll rfl rfl (by repeat (first | exact In.head | refine In.tail ?_)) (by rfl) (fun _ => by first | trivial | exact ⟨.inr ‹_›, trivial⟩ | exact ⟨.inl (by kernel_rfl), trivial⟩ | exact ⟨.inr ‹_›, .inr ‹_›, trivial⟩ | exact ⟨.inl (by kernel_rfl), .inl (by kernel_rfl), trivial⟩) rfl ?_ | refine JE.loadN rfl rfl (by repeat (first | exact In.head | refine In.tail ?_)) (by conv => lhs; whnf) (by rfl) (fun _ => by first | trivial | exact ⟨.inr ‹_›, trivial⟩ | exact ⟨.inl (by kernel_rfl), trivial⟩ | exact ⟨.inr ‹_›, .inr ‹_›, trivial⟩ | exact ⟨.inl (by kernel_rfl), .inl (by kernel_rfl), trivial⟩) rfl ?_)
      | (refine JE.kBox ?_; refine JE.box rfl (by conv => lhs; whnf) rfl (fun _ _ => ?_))
      | (refine JE.kAlloc ?_; refine JE.alloc rfl (by conv => lhs; whnf) rfl (fun _ _ => ?_))
      | (refine JE.kStore ?_; refine JE.store rfl rfl (by repeat (first | exact Turn.head | apply Turn.tail)) SizeT.size (by repeat (first | exact NfL.nil rfl | apply NfL.cons (by exact rfl) (by conv => lhs; whnf))) (by rfl) (by rfl) (by rfl) (by repeat (first | exact NfL.nil rfl | apply NfL.cons (by exact rfl) (by conv => lhs; whnf))) (by first | trivial | exact List.mem_cons_self | exact List.mem_cons_of_mem _ List.mem_cons_self) rfl ?_)
      | (refine JE.kBuiltin ?_; first | refine JE.lenSl rfl rfl rfl ?_ | refine JE.lenStr rfl rfl rfl ?_ | refine JE.max2 rfl rfl rfl rfl rfl ?_ | refine JE.min2 rfl rfl rfl rfl rfl ?_)
      | (refine JE.kBuild ?_; refine JE.build rfl rfl (by repeat (first | exact NfL.nil rfl | apply NfL.cons (by exact rfl) (by conv => lhs; whnf))) rfl ?_)
      | (refine JE.kBuildSlice ?_; refine JE.buildSlice rfl rfl rfl (by conv => lhs; whnf) (by rfl) (by rfl) (by repeat (first | exact NfL.nil rfl | apply NfL.cons (by exact rfl) (by conv => lhs; whnf))) rfl (fun _ _ => ?_))
      | (refine JE.kRange ?_; refine JE.rangeStr rfl rfl rfl (fun _ _ => ?_))
      | with_reducible refine JE.sN ?_
      | with_reducible refine JE.sX ?_
      | with_reducible refine JE.dN ?_
      | with_reducible refine JE.dX ?_
      | with_reducible refine J.seq ?_
      | with_reducible refine J.region ?_
      | refine J.condT rfl ?_
      | refine J.condF rfl ?_
      | with_reducible refine J.skip ?_
      | with_reducible refine J.exit ?_
      | with_reducible refine J.block ?_
      | with_reducible refine J.ret ?_
      | with_reducible refine JX.thenN ?_
      | with_reducible refine JX.thenR ?_
      | with_reducible refine JX.thenE ?_
      | with_reducible refine JX.blkS ?_
      | (with_reducible refine JX.blkE ?_ ?_; exact rfl)
      | with_reducible refine JX.blkN ?_
      | with_reducible refine JX.blkR ?_)
    · exfalso; omega
    · refine fnQ_tmp (.inl rfl) rfl (by conv => lhs; whnf) fun w'' hS' => ⟨?_, hS'.below⟩
      rw [idxL_none fun j y hy => hbef j y (by have := (List.getElem?_eq_some_iff.1 hy).1; omega) hy]

theorem ContainsFuncI_calls (h : FuncId) [EntersF Try.prog h] (cs : List Value) (p : Int → Bool) (v : Value) (xs : List Int) (w : World) (hp : ∀ c w', Below w.heap.size w w' → Does Try.prog h (.int .i64 c :: cs) w' (Ret w' (.bool (p c))))
    (hs : Sl 1 encInt w v xs) (hx : xs.length ≤ 9223372036854775807) :
    Does Try.prog 27 [v, .func (.func h) #[] cs.toArray] w (Ret w (.bool (xs.any p))) := by
  rw [← idxL_any]
  refine calls_J (ys := [v, .func (.func h) #[] cs.toArray]) Try.func27 rfl Try.ntmps27 rfl ?_
  refine J.at_ (S := St w [] []) ?_ (St.start w)
  repeat' (first
    | refine JE.pure rfl rfl (by conv => lhs; whnf) rfl ?_
    | refine JE.skip rfl rfl ?_
    | (refine JE.kBin ?_; first | (refine JE.int rfl rfl rfl rfl rfl rfl ?_; with_reducible refine JE.waysD (fun _ => ?_) (fun _ => ?_)) | refine JE.int rfl rfl rfl rfl (by rw [i64_id (by omega)]) rfl ?_ | refine JE.int rfl rfl rfl rfl rfl rfl ?_ | refine JE.eqBool rfl rfl rfl (by conv => lhs; whnf) rfl ?_ | refine JE.neBool rfl rfl rfl (by conv => lhs; whnf) rfl ?_ | (refine JE.eqStr rfl rfl rfl rfl ?_; with_reducible refine JE.waysD (fun _ => ?_) (fun _ => ?_)) | (refine JE.neStr rfl rfl rfl rfl ?_; with_reducible refine JE.waysD (fun _ => ?_) (fun _ => ?_)))
    | (refine JE.kField ?_; refine JE.fieldAddr rfl rfl rfl ?_)
    | (refine JE.kLoad ?_; first | refine JE.load1 rfl rfl (by repeat (first | exact In.head | refine In.tail ?_)) rfl (by conv => lhs; whnf) (fun _ => by first | trivial | exact ⟨.inr ‹_›, trivial⟩ | exact ⟨.inl (by kernel_rfl), trivial⟩ | exact ⟨.inr ‹_›, .inr ‹_›, trivial⟩ | exact ⟨.inl (by kernel_rfl), .inl (by kernel_rfl), trivial⟩) rfl ?_ | refine JE.loadAll rfl rfl (by repeat (first | exact In.head | refine In.tail ?_)) (by rfl) (fun _ => by first | trivial | exact ⟨.inr ‹_›, trivial⟩ | exact ⟨.inl (by kernel_rfl), trivial⟩ | exact ⟨.inr ‹_›, .inr ‹_›, trivial⟩ | exact ⟨.inl (by kernel_rfl), .inl (by kernel_rfl), trivial⟩) rfl ?_ | refine JE.loadN rfl rfl (by repeat (first | exact In.head | refine In.tail ?_)) (by conv => lhs; whnf) (by rfl) (fun _ => by first | trivial | exact ⟨.inr ‹_›, trivial⟩ | exact ⟨.inl (by kernel_rfl), trivial⟩ | exact ⟨.inr ‹_›, .inr ‹_›, trivial⟩ | exact ⟨.inl (by kernel_rfl), .inl (by kernel_rfl), trivial⟩) rfl ?_)
    | (refine JE.kBox ?_; refine JE.box rfl (by conv => lhs; whnf) rfl (fun _ _ => ?_))
    | (refine JE.kAlloc ?_; refine JE.alloc rfl (by conv => lhs; whnf) rfl (fun _ _ => ?_))
    | (refine JE.kStore ?_; refine JE.store rfl rfl (by repeat (first | exact Turn.head | apply Turn.tail)) SizeT.size (by repeat (first | exact NfL.nil rfl | apply NfL.cons (by exact rfl) (by conv => lhs; whnf))) (by rfl) (by rfl) (by rfl) (by repeat (first | exact NfL.nil rfl | apply NfL.cons (by exact rfl) (by conv => lhs; whnf))) (by first | trivial | exact List.mem_cons_self | exact List.mem_cons_of_mem _ List.mem_cons_self) rfl ?_)
    | (refine JE.kBuiltin ?_; first | refine JE.lenSl rfl rfl rfl ?_ | refine JE.lenStr rfl rfl rfl ?_ | refine JE.max2 rfl rfl rfl rfl rfl ?_ | refine JE.min2 rfl rfl rfl rfl rfl ?_)
    | (refine JE.kBuild ?_; refine JE.build rfl rfl (by repeat (first | exact NfL.nil rfl | apply NfL.cons (by exact rfl) (by conv => lhs; whnf))) rfl ?_)
    | (refine JE.kBuildSlice ?_; refine JE.buildSlice rfl rfl rfl (by conv => lhs; whnf) (by rfl) (by rfl) (by repeat (first | exact NfL.nil rfl | apply NfL.cons (by exact rfl) (by conv => lhs; whnf))) rfl (fun _ _ => ?_))
    | (refine JE.kRange ?_; refine JE.rangeStr rfl rfl rfl (fun _ _ => ?_))
    | with_reducible refine JE.sN ?_
    | with_reducible refine JE.sX ?_
    | with_reducible refine JE.dN ?_
    | with_reducible refine JE.dX ?_
    | with_reducible refine J.seq ?_
    | with_reducible refine J.region ?_
    | refine J.condT rfl ?_
    | refine J.condF rfl ?_
    | with_reducible refine J.skip ?_
    | with_reducible refine J.exit ?_
    | with_reducible refine J.block ?_
    | with_reducible refine J.ret ?_
    | with_reducible refine JX.thenN ?_
    | with_reducible refine JX.thenR ?_
    | with_reducible refine JX.thenE ?_
    | with_reducible refine JX.blkS ?_
    | (with_reducible refine JX.blkE ?_ ?_; exact rfl)
    | with_reducible refine JX.blkN ?_
    | with_reducible refine JX.blkR ?_
    | (refine JE.isF 31 ?_; refine JE.call rfl rfl (by repeat (first | exact NfL.nil rfl | apply NfL.cons (by exact rfl) (by conv => lhs; whnf))) rfl ?_; refine CallG.ret (fun w hS => IndexFuncI_calls h cs p v xs w (fun c w' hb => hp c w' (hS.below.trans (hb.mono hS.size))) (hs.below hS.below) hx) ?_))
  all_goals refine fnQ_tmp (.inl rfl) rfl (by conv => lhs; whnf) fun w' hS => ⟨?_, hS.below⟩
  all_goals (first | (simp_all []; done) | (simp_all [] <;> (intros; omega)))

theorem allF_calls (c lo hi : Int) (b3 b4 : Nat) (w : World) (h3 : w.heap[b3]? = some (cel [.int .i64 lo] 3)) (h4 : w.heap[b4]? = some (cel [.int .i64 hi] 3)) (hne : b3 ≠ b4) :
    Does Try.prog 28 [.int .i64 c, .pointer (some ⟨b3, 0, none⟩), .pointer (some ⟨b4, 0, none⟩)] w (Ret w (.bool (!within c lo hi))) := by
  refine calls_J (ys := [.int .i64 c, .pointer (some ⟨b3, 0, none⟩), .pointer (some ⟨b4, 0, none⟩)]) Try.func28 rfl Try.ntmps28 rfl ?_
  refine J.at_ ?_ (St.startO (l := [(b3, cel [.int .i64 lo] 3), (b4, cel [.int .i64 hi] 3)]) (by simp [h3, h4]) (by simp [hne]))
  simp only [List.map_cons, List.map_nil]
  repeat' (first
    | refine JE.pure rfl rfl (by conv => lhs; whnf) rfl ?_
    | refine JE.skip rfl rfl ?_
    | (refine JE.kBin ?_; first | (refine JE.int rfl rfl rfl rfl rfl rfl ?_; with_reducible refine JE.waysD (fun _ => ?_) (fun _ => ?_)) | refine JE.int rfl rfl rfl rfl (by rw [i64_id (by omega)]) rfl ?_ | refine JE.int rfl rfl rfl rfl rfl rfl ?_ | refine JE.eqBool rfl rfl rfl (by conv => lhs; whnf) rfl ?_ | refine JE.neBool rfl rfl rfl (by conv => lhs; whnf) rfl ?_ | (refine JE.eqStr rfl rfl rfl rfl ?_; with_reducible refine JE.waysD (fun _ => ?_) (fun _ => ?_)) | (refine JE.neStr rfl rfl rfl rfl ?_; with_reducible refine JE.waysD (fun _ => ?_) (fun _ => ?_)))
    | (refine JE.kField ?_; refine JE.fieldAddr rfl rfl rfl ?_)
    | (refine JE.kLoad ?_; first | refine JE.load1 rfl rfl (by repeat (first | exact In.head | refine In.tail ?_)) rfl (by conv => lhs; whnf) (fun _ => by first | trivial | exact ⟨.inr ‹_›, trivial⟩ | exact ⟨.inl (by kernel_rfl), trivial⟩ | exact ⟨.inr ‹_›, .inr ‹_›, trivial⟩ | exact ⟨.inl (by kernel_rfl), .inl (by kernel_rfl), trivial⟩) rfl ?_ | refine JE.loadAll rfl rfl (by repeat (first | exact In.head | refine In.tail ?_)) (by rfl) (fun _ => by first | trivial | exact ⟨.inr ‹_›, trivial⟩ | exact ⟨.inl (by kernel_rfl), trivial⟩ | exact ⟨.inr ‹_›, .inr ‹_›, trivial⟩ | exact ⟨.inl (by kernel_rfl), .inl (by kernel_rfl), trivial⟩) rfl ?_ | refine JE.loadN rfl rfl (by repeat (first | exact In.head | refine In.tail ?_)) (by conv => lhs; whnf) (by rfl) (fun _ => by first | trivial | exact ⟨.inr ‹_›, trivial⟩ | exact ⟨.inl (by kernel_rfl), trivial⟩ | exact ⟨.inr ‹_›, .inr ‹_›, trivial⟩ | exact ⟨.inl (by kernel_rfl), .inl (by kernel_rfl), trivial⟩) rfl ?_)
    | (refine JE.kBox ?_; refine JE.box rfl (by conv => lhs; whnf) rfl (fun _ _ => ?_))
    | (refine JE.kAlloc ?_; refine JE.alloc rfl (by conv => lhs; whnf) rfl (fun _ _ => ?_))
    | (refine JE.kStore ?_; refine JE.store rfl rfl (by repeat (first | exact Turn.head | apply Turn.tail)) SizeT.size (by repeat (first | exact NfL.nil rfl | apply NfL.cons (by exact rfl) (by conv => lhs; whnf))) (by rfl) (by rfl) (by rfl) (by repeat (first | exact NfL.nil rfl | apply NfL.cons (by exact rfl) (by conv => lhs; whnf))) (by first | trivial | exact List.mem_cons_self | exact List.mem_cons_of_mem _ List.mem_cons_self) rfl ?_)
    | (refine JE.kBuiltin ?_; first | refine JE.lenSl rfl rfl rfl ?_ | refine JE.lenStr rfl rfl rfl ?_ | refine JE.max2 rfl rfl rfl rfl rfl ?_ | refine JE.min2 rfl rfl rfl rfl rfl ?_)
    | (refine JE.kBuild ?_; refine JE.build rfl rfl (by repeat (first | exact NfL.nil rfl | apply NfL.cons (by exact rfl) (by conv => lhs; whnf))) rfl ?_)
    | (refine JE.kBuildSlice ?_; refine JE.buildSlice rfl rfl rfl (by conv => lhs; whnf) (by rfl) (by rfl) (by repeat (first | exact NfL.nil rfl | apply NfL.cons (by exact rfl) (by conv => lhs; whnf))) rfl (fun _ _ => ?_))
    | (refine JE.kRange ?_; refine JE.rangeStr rfl rfl rfl (fun _ _ => ?_))
    | with_reducible refine JE.sN ?_
    | with_reducible refine JE.sX ?_
    | with_reducible refine JE.dN ?_
    | with_reducible refine JE.dX ?_
    | with_reducible refine J.seq ?_
    | with_reducible refine J.region ?_
    | refine J.condT rfl ?_
    | refine J.condF rfl ?_
    | with_reducible refine J.skip ?_
    | with_reducible refine J.exit ?_
    | with_reducible refine J.block ?_
    | with_reducible refine J.ret ?_
    | with_reducible refine JX.thenN ?_
    | with_reducible refine JX.thenR ?_
    | with_reducible refine JX.thenE ?_
    | with_reducible refine JX.blkS ?_
    | (with_reducible refine JX.blkE ?_ ?_; exact rfl)
    | with_reducible refine JX.blkN ?_
    | with_reducible refine JX.blkR ?_
    | (refine JE.isF 29 ?_; refine JE.call rfl rfl (by repeat (first | exact NfL.nil rfl | apply NfL.cons (by exact rfl) (by conv => lhs; whnf))) rfl ?_; refine CallG.ret (fun w hS => within_calls _ _ _ w) ?_; with_reducible refine JE.ways (fun _ => ?_) (fun _ => ?_)))
  all_goals refine fnQ_tmp (.inl rfl) rfl (by conv => lhs; whnf) fun w' hS => ⟨?_, hS.belowO (by simp [h3, h4])⟩
  all_goals simp_all

def allIn (lo hi : Int) (xs : List Int) : Bool := xs.all fun c => within c lo hi

theorem all_calls (lo hi : Int) (v : Value) (xs : List Int) (w : World) (hs : Sl 1 encInt w v xs) (hx : xs.length ≤ 9223372036854775807) :
    Does Try.prog 23 [.int .i64 lo, .int .i64 hi, v] w (Ret w (.bool (allIn lo hi xs))) := by
  have he : (xs.any fun c => !within c lo hi) = !allIn lo hi xs := by unfold allIn; rw [List.not_all_eq_any_not]
  refine calls_J (ys := [.int .i64 lo, .int .i64 hi, v]) Try.func23 rfl Try.ntmps23 rfl ?_
  refine J.at_ (S := St w [] []) ?_ (St.start w)
  repeat' (first
    | refine JE.pure rfl rfl (by conv => lhs; whnf) rfl ?_
    | refine JE.skip rfl rfl ?_
    | (refine JE.kBin ?_; first | (refine JE.int rfl rfl rfl rfl rfl rfl ?_; with_reducible refine JE.waysD (fun _ => ?_) (fun _ => ?_)) | refine JE.int rfl rfl rfl rfl (by rw [i64_id (by omega)]) rfl ?_ | refine JE.int rfl rfl rfl rfl rfl rfl ?_ | refine JE.eqBool rfl rfl rfl (by conv => lhs; whnf) rfl ?_ | refine JE.neBool rfl rfl rfl (by conv => lhs; whnf) rfl ?_ | (refine JE.eqStr rfl rfl rfl rfl ?_; with_reducible refine JE.waysD (fun _ => ?_) (fun _ => ?_)) | (refine JE.neStr rfl rfl rfl rfl ?_; with_reducible refine JE.waysD (fun _ => ?_) (fun _ => ?_)))
    | (refine JE.kField ?_; refine JE.fieldAddr rfl rfl rfl ?_)
    | (refine JE.kLoad ?_; first | refine JE.load1 rfl rfl (by repeat (first | exact In.head | refine In.tail ?_)) rfl (by conv => lhs; whnf) (fun _ => by first | trivial | exact ⟨.inr ‹_›, trivial⟩ | exact ⟨.inl (by kernel_rfl), trivial⟩ | exact ⟨.inr ‹_›, .inr ‹_›, trivial⟩ | exact ⟨.inl (by kernel_rfl), .inl (by kernel_rfl), trivial⟩) rfl ?_ | refine JE.loadAll rfl rfl (by repeat (first | exact In.head | refine In.tail ?_)) (by rfl) (fun _ => by first | trivial | exact ⟨.inr ‹_›, trivial⟩ | exact ⟨.inl (by kernel_rfl), trivial⟩ | exact ⟨.inr ‹_›, .inr ‹_›, trivial⟩ | exact ⟨.inl (by kernel_rfl), .inl (by kernel_rfl), trivial⟩) rfl ?_ | refine JE.loadN rfl rfl (by repeat (first | exact In.head | refine In.tail ?_)) (by conv => lhs; whnf) (by rfl) (fun _ => by first | trivial | exact ⟨.inr ‹_›, trivial⟩ | exact ⟨.inl (by kernel_rfl), trivial⟩ | exact ⟨.inr ‹_›, .inr ‹_›, trivial⟩ | exact ⟨.inl (by kernel_rfl), .inl (by kernel_rfl), trivial⟩) rfl ?_)
    | (refine JE.kBox ?_; refine JE.box rfl (by conv => lhs; whnf) rfl (fun _ _ => ?_))
    | (refine JE.kAlloc ?_; refine JE.alloc rfl (by conv => lhs; whnf) rfl (fun _ _ => ?_))
    | (refine JE.kStore ?_; refine JE.store rfl rfl (by repeat (first | exact Turn.head | apply Turn.tail)) SizeT.size (by repeat (first | exact NfL.nil rfl | apply NfL.cons (by exact rfl) (by conv => lhs; whnf))) (by rfl) (by rfl) (by rfl) (by repeat (first | exact NfL.nil rfl | apply NfL.cons (by exact rfl) (by conv => lhs; whnf))) (by first | trivial | exact List.mem_cons_self | exact List.mem_cons_of_mem _ List.mem_cons_self) rfl ?_)
    | (refine JE.kBuiltin ?_; first | refine JE.lenSl rfl rfl rfl ?_ | refine JE.lenStr rfl rfl rfl ?_ | refine JE.max2 rfl rfl rfl rfl rfl ?_ | refine JE.min2 rfl rfl rfl rfl rfl ?_)
    | (refine JE.kBuild ?_; refine JE.build rfl rfl (by repeat (first | exact NfL.nil rfl | apply NfL.cons (by exact rfl) (by conv => lhs; whnf))) rfl ?_)
    | (refine JE.kBuildSlice ?_; refine JE.buildSlice rfl rfl rfl (by conv => lhs; whnf) (by rfl) (by rfl) (by repeat (first | exact NfL.nil rfl | apply NfL.cons (by exact rfl) (by conv => lhs; whnf))) rfl (fun _ _ => ?_))
    | (refine JE.kRange ?_; refine JE.rangeStr rfl rfl rfl (fun _ _ => ?_))
    | with_reducible refine JE.sN ?_
    | with_reducible refine JE.sX ?_
    | with_reducible refine JE.dN ?_
    | with_reducible refine JE.dX ?_
    | with_reducible refine J.seq ?_
    | with_reducible refine J.region ?_
    | refine J.condT rfl ?_
    | refine J.condF rfl ?_
    | with_reducible refine J.skip ?_
    | with_reducible refine J.exit ?_
    | with_reducible refine J.block ?_
    | with_reducible refine J.ret ?_
    | with_reducible refine JX.thenN ?_
    | with_reducible refine JX.thenR ?_
    | with_reducible refine JX.thenE ?_
    | with_reducible refine JX.blkS ?_
    | (with_reducible refine JX.blkE ?_ ?_; exact rfl)
    | with_reducible refine JX.blkN ?_
    | with_reducible refine JX.blkR ?_)
  rename_i b3 _ b4 _
  repeat' (first
    | refine JE.pure rfl rfl (by conv => lhs; whnf) rfl ?_
    | refine JE.skip rfl rfl ?_
    | (refine JE.kBin ?_; first | (refine JE.int rfl rfl rfl rfl rfl rfl ?_; with_reducible refine JE.waysD (fun _ => ?_) (fun _ => ?_)) | refine JE.int rfl rfl rfl rfl (by rw [i64_id (by omega)]) rfl ?_ | refine JE.int rfl rfl rfl rfl rfl rfl ?_ | refine JE.eqBool rfl rfl rfl (by conv => lhs; whnf) rfl ?_ | refine JE.neBool rfl rfl rfl (by conv => lhs; whnf) rfl ?_ | (refine JE.eqStr rfl rfl rfl rfl ?_; with_reducible refine JE.waysD (fun _ => ?_) (fun _ => ?_)) | (refine JE.neStr rfl rfl rfl rfl ?_; with_reducible refine JE.waysD (fun _ => ?_) (fun _ => ?_)))
    | (refine JE.kField ?_; refine JE.fieldAddr rfl rfl rfl ?_)
    | (refine JE.kLoad ?_; first | refine JE.load1 rfl rfl (by repeat (first | exact In.head | refine In.tail ?_)) rfl (by conv => lhs; whnf) (fun _ => by first | trivial | exact ⟨.inr ‹_›, trivial⟩ | exact ⟨.inl (by kernel_rfl), trivial⟩ | exact ⟨.inr ‹_›, .inr ‹_›, trivial⟩ | exact ⟨.inl (by kernel_rfl), .inl (by kernel_rfl), trivial⟩) rfl ?_ | refine JE.loadAll rfl rfl (by repeat (first | exact In.head | refine In.tail ?_)) (by rfl) (fun _ => by first | trivial | exact ⟨.inr ‹_›, trivial⟩ | exact ⟨.inl (by kernel_rfl), trivial⟩ | exact ⟨.inr ‹_›, .inr ‹_›, trivial⟩ | exact ⟨.inl (by kernel_rfl), .inl (by kernel_rfl), trivial⟩) rfl ?_ | refine JE.loadN rfl rfl (by repeat (first | exact In.head | refine In.tail ?_)) (by conv => lhs; whnf) (by rfl) (fun _ => by first | trivial | exact ⟨.inr ‹_›, trivial⟩ | exact ⟨.inl (by kernel_rfl), trivial⟩ | exact ⟨.inr ‹_›, .inr ‹_›, trivial⟩ | exact ⟨.inl (by kernel_rfl), .inl (by kernel_rfl), trivial⟩) rfl ?_)
    | (refine JE.kBox ?_; refine JE.box rfl (by conv => lhs; whnf) rfl (fun _ _ => ?_))
    | (refine JE.kAlloc ?_; refine JE.alloc rfl (by conv => lhs; whnf) rfl (fun _ _ => ?_))
    | (refine JE.kStore ?_; refine JE.store rfl rfl (by repeat (first | exact Turn.head | apply Turn.tail)) SizeT.size (by repeat (first | exact NfL.nil rfl | apply NfL.cons (by exact rfl) (by conv => lhs; whnf))) (by rfl) (by rfl) (by rfl) (by repeat (first | exact NfL.nil rfl | apply NfL.cons (by exact rfl) (by conv => lhs; whnf))) (by first | trivial | exact List.mem_cons_self | exact List.mem_cons_of_mem _ List.mem_cons_self) rfl ?_)
    | (refine JE.kBuiltin ?_; first | refine JE.lenSl rfl rfl rfl ?_ | refine JE.lenStr rfl rfl rfl ?_ | refine JE.max2 rfl rfl rfl rfl rfl ?_ | refine JE.min2 rfl rfl rfl rfl rfl ?_)
    | (refine JE.kBuild ?_; refine JE.build rfl rfl (by repeat (first | exact NfL.nil rfl | apply NfL.cons (by exact rfl) (by conv => lhs; whnf))) rfl ?_)
    | (refine JE.kBuildSlice ?_; refine JE.buildSlice rfl rfl rfl (by conv => lhs; whnf) (by rfl) (by rfl) (by repeat (first | exact NfL.nil rfl | apply NfL.cons (by exact rfl) (by conv => lhs; whnf))) rfl (fun _ _ => ?_))
    | (refine JE.kRange ?_; refine JE.rangeStr rfl rfl rfl (fun _ _ => ?_))
    | with_reducible refine JE.sN ?_
    | with_reducible refine JE.sX ?_
    | with_reducible refine JE.dN ?_
    | with_reducible refine JE.dX ?_
    | with_reducible refine J.seq ?_
    | with_reducible refine J.region ?_
    | refine J.condT rfl ?_
    | refine J.condF rfl ?_
    | with_reducible refine J.skip ?_
    | with_reducible refine J.exit ?_
    | with_reducible refine J.block ?_
    | with_reducible refine J.ret ?_
    | with_reducible refine JX.thenN ?_
    | with_reducible refine JX.thenR ?_
    | with_reducible refine JX.thenE ?_
    | with_reducible refine JX.blkS ?_
    | (with_reducible refine JX.blkE ?_ ?_; exact rfl)
    | with_reducible refine JX.blkN ?_
    | with_reducible refine JX.blkR ?_
    | (refine JE.isF 27 ?_; refine JE.call rfl rfl (by repeat (first | exact NfL.nil rfl | apply NfL.cons (by exact rfl) (by conv => lhs; whnf))) rfl ?_; refine CallG.ret (fun w hS => ContainsFuncI_calls 28 [.pointer (some ⟨b3, 0, none⟩), .pointer (some ⟨b4, 0, none⟩)] (fun c => !within c lo hi) v xs w (fun c w' hb => allF_calls c lo hi b3 b4 w' ((hb.block _ (hS.lt (.tail _ (.head _)))).trans (hS.own _ (.tail _ (.head _)))) ((hb.block _ (hS.lt (.head _))).trans (hS.own _ (.head _))) (hS.ne rfl (.head _)).symm) (hs.below hS.below) hx) ?_; with_reducible refine JE.ways (fun _ => ?_) (fun _ => ?_)))
  all_goals refine fnQ_tmp (.inl rfl) rfl (by conv => lhs; whnf) fun w' hS => ⟨?_, hS.below⟩
  all_goals simp_all

/-- May a ship be? -/
def mayShip (s : Ship) : Bool :=
  isName s.name && (allIn 1 32 [s.bays, s.rows, s.tiers] && allIn 0 1048576 [s.stack, s.trim, s.list, s.up, s.most])

theorem Sl.lit (xs : List Int) (w : World) (B T : Nat) (hb : w.heap[B]? = some (cel (xs.map fun x => .int .i64 x) T)) : Sl 1 encInt w (.slice (some ⟨B, 0, none⟩) xs.length xs.length) xs :=
  ⟨_, _, rfl, fun _ => ⟨B, 0, rfl, _, _, _, hb, fun j x hj m u hm => by
    cases m with
    | zero => simp [encInt] at hm; subst hm; simp [hj]
    | succ m => simp [encInt] at hm⟩⟩

theorem May_calls (s : Ship) (w : World) : Does Try.prog 18 [.agg (encShip s).toArray] w (Ret w (.bool (mayShip s))) := by
  refine calls_J (ys := [.agg (encShip s).toArray]) Try.func18 rfl Try.ntmps18 rfl ?_
  refine J.at_ (S := St w [] []) ?_ (St.start w)
  repeat' (first
    | refine JE.pure rfl rfl (by conv => lhs; whnf) rfl ?_
    | refine JE.skip rfl rfl ?_
    | (refine JE.kBin ?_; first | (refine JE.int rfl rfl rfl rfl rfl rfl ?_; with_reducible refine JE.waysD (fun _ => ?_) (fun _ => ?_)) | refine JE.int rfl rfl rfl rfl (by rw [i64_id (by omega)]) rfl ?_ | refine JE.int rfl rfl rfl rfl rfl rfl ?_ | refine JE.eqBool rfl rfl rfl (by conv => lhs; whnf) rfl ?_ | refine JE.neBool rfl rfl rfl (by conv => lhs; whnf) rfl ?_ | (refine JE.eqStr rfl rfl rfl rfl ?_; with_reducible refine JE.waysD (fun _ => ?_) (fun _ => ?_)) | (refine JE.neStr rfl rfl rfl rfl ?_; with_reducible refine JE.waysD (fun _ => ?_) (fun _ => ?_)))
    | (refine JE.kField ?_; refine JE.fieldAddr rfl rfl rfl ?_)
    | (refine JE.kLoad ?_; first | refine JE.load1 rfl rfl (by repeat (first | exact In.head | refine In.tail ?_)) rfl (by conv => lhs; whnf) (fun _ => by first | trivial | exact ⟨.inr ‹_›, trivial⟩ | exact ⟨.inl (by kernel_rfl), trivial⟩ | exact ⟨.inr ‹_›, .inr ‹_›, trivial⟩ | exact ⟨.inl (by kernel_rfl), .inl (by kernel_rfl), trivial⟩) rfl ?_ | refine JE.loadAll rfl rfl (by repeat (first | exact In.head | refine In.tail ?_)) (by rfl) (fun _ => by first | trivial | exact ⟨.inr ‹_›, trivial⟩ | exact ⟨.inl (by kernel_rfl), trivial⟩ | exact ⟨.inr ‹_›, .inr ‹_›, trivial⟩ | exact ⟨.inl (by kernel_rfl), .inl (by kernel_rfl), trivial⟩) rfl ?_ | refine JE.loadN rfl rfl (by repeat (first | exact In.head | refine In.tail ?_)) (by conv => lhs; whnf) (by rfl) (fun _ => by first | trivial | exact ⟨.inr ‹_›, trivial⟩ | exact ⟨.inl (by kernel_rfl), trivial⟩ | exact ⟨.inr ‹_›, .inr ‹_›, trivial⟩ | exact ⟨.inl (by kernel_rfl), .inl (by kernel_rfl), trivial⟩) rfl ?_)
    | (refine JE.kBox ?_; refine JE.box rfl (by conv => lhs; whnf) rfl (fun _ _ => ?_))
    | (refine JE.kAlloc ?_; refine JE.alloc rfl (by conv => lhs; whnf) rfl (fun _ _ => ?_))
    | (refine JE.kStore ?_; refine JE.store rfl rfl (by repeat (first | exact Turn.head | apply Turn.tail)) SizeT.size (by repeat (first | exact NfL.nil rfl | apply NfL.cons (by exact rfl) (by conv => lhs; whnf))) (by rfl) (by rfl) (by rfl) (by repeat (first | exact NfL.nil rfl | apply NfL.cons (by exact rfl) (by conv => lhs; whnf))) (by first | trivial | exact List.mem_cons_self | exact List.mem_cons_of_mem _ List.mem_cons_self) rfl ?_)
    | (refine JE.kBuiltin ?_; first | refine JE.lenSl rfl rfl rfl ?_ | refine JE.lenStr rfl rfl rfl ?_ | refine JE.max2 rfl rfl rfl rfl rfl ?_ | refine JE.min2 rfl rfl rfl rfl rfl ?_)
    | (refine JE.kBuild ?_; refine JE.build rfl rfl (by repeat (first | exact NfL.nil rfl | apply NfL.cons (by exact rfl) (by conv => lhs; whnf))) rfl ?_)
    | (refine JE.kBuildSlice ?_; refine JE.buildSlice rfl rfl rfl (by conv => lhs; whnf) (by rfl) (by rfl) (by repeat (first | exact NfL.nil rfl | apply NfL.cons (by exact rfl) (by conv => lhs; whnf))) rfl (fun _ _ => ?_))
    | (refine JE.kRange ?_; refine JE.rangeStr rfl rfl rfl (fun _ _ => ?_))
    | with_reducible refine JE.sN ?_
    | with_reducible refine JE.sX ?_
    | with_reducible refine JE.dN ?_
    | with_reducible refine JE.dX ?_
    | with_reducible refine J.seq ?_
    | with_reducible refine J.region ?_
    | refine J.condT rfl ?_
    | refine J.condF rfl ?_
    | with_reducible refine J.skip ?_
    | with_reducible refine J.exit ?_
    | with_reducible refine J.block ?_
    | with_reducible refine J.ret ?_
    | with_reducible refine JX.thenN ?_
    | with_reducible refine JX.thenR ?_
    | with_reducible refine JX.thenE ?_
    | with_reducible refine JX.blkS ?_
    | (with_reducible refine JX.blkE ?_ ?_; exact rfl)
    | with_reducible refine JX.blkN ?_
    | with_reducible refine JX.blkR ?_
    | (refine JE.isF 22 ?_; refine JE.call rfl rfl (by repeat (first | exact NfL.nil rfl | apply NfL.cons (by exact rfl) (by conv => lhs; whnf))) rfl ?_; refine CallG.ret (fun w hS => name_calls s.name w) ?_; with_reducible refine JE.ways (fun _ => ?_) (fun _ => ?_))
    | (refine JE.isF 23 ?_; refine JE.call rfl rfl (by repeat (first | exact NfL.nil rfl | apply NfL.cons (by exact rfl) (by conv => lhs; whnf))) rfl ?_; refine CallG.ret (fun w hS => all_calls 1 32 _ [s.bays, s.rows, s.tiers] w (Sl.lit [s.bays, s.rows, s.tiers] w _ _ (hS.own _ (.head _))) (by simp)) ?_; with_reducible refine JE.ways (fun _ => ?_) (fun _ => ?_))
    | (refine JE.isF 23 ?_; refine JE.call rfl rfl (by repeat (first | exact NfL.nil rfl | apply NfL.cons (by exact rfl) (by conv => lhs; whnf))) rfl ?_; refine CallG.ret (fun w hS => all_calls 0 1048576 _ [s.stack, s.trim, s.list, s.up, s.most] w (Sl.lit [s.stack, s.trim, s.list, s.up, s.most] w _ _ (hS.own _ (.head _))) (by simp)) ?_; with_reducible refine JE.ways (fun _ => ?_) (fun _ => ?_)))
  all_goals refine fnQ_tmp (.inl rfl) rfl (by conv => lhs; whnf) fun w' hS => ⟨?_, hS.below⟩
  all_goals simp_all [mayShip]

end Go.Proofs.Ytppidobalfelbaa
