/-
  Rotating a row of pledges in place: the walk. Conditions: none.
-/
import Derived.Test.YtnapfiheholhiaaRot
set_option linter.unusedVariables false
set_option linter.unusedSimpArgs false
namespace Go.Proofs.Ytnapfiheholhiaa
open Go Go.RowKit Go.Proofs.YtnapfiheholhiaaSym

/-- The known block that holds a row of pledges. -/
def RowO (B cap n : Nat) (xs : List Pledge) (ln : List (Nat × Obj)) : Prop := xs.length = n ∧ ∃ cur, ln = [(B, .cells cur 37 (0, 0))] ∧ OwnC 6 n cap cur (xs.flatMap encPledge)

theorem swapRow_calls {B cap n : Nat} (c : Nat) {xs : List Pledge} {ln : List (Nat × Obj)} (a b k : Nat) (w : World) (hr : RowO B cap n xs ln) (hown : ∀ x ∈ ln, w.heap[x.1]? = some x.2) (hab : a + k ≤ b) (hbl : b + k ≤ n) (hmax : n ≤ 4096) :
    Does Try.prog 80 [.slice (some ⟨B, 0, none⟩) n c, .int .i64 a, .int .i64 b, .int .i64 k, .func (.func 27) #[] #[]] w (RetO w ln fun v ln' => v = .tuple #[] ∧ RowO B cap n (swapR a b k xs) ln') := by
  obtain ⟨rfl, cur, rfl, ho⟩ := hr
  refine (swapRange_calls B cap c cur xs a b k w (hown _ List.mem_cons_self) ho hab hbl hmax).mono ?_
  rintro e w' ⟨v, ln', he, ⟨rfl, cur', rfl, ho'⟩, hS⟩
  exact ⟨_, _, he, ⟨rfl, swapR_length _ _ _ _, cur', rfl, ho'⟩, hS⟩
theorem RowO.nodup {B cap n : Nat} {xs : List Pledge} {ln : List (Nat × Obj)} (hr : RowO B cap n xs ln) : (ln.map (·.1)).Nodup := by
  obtain ⟨_, cur, rfl, _⟩ := hr; simp

set_option maxRecDepth 100000 in
set_option maxHeartbeats 4000000 in
theorem rotate_calls {B cap n : Nat} (c : Nat) {P0 L0 R0 S0 : List Pledge} {ln : List (Nat × Obj)} {a m b : Nat} (w : World) (hr : RowO B cap n (P0 ++ (L0 ++ (R0 ++ S0))) ln) (hown : ∀ x ∈ ln, w.heap[x.1]? = some x.2)
    (ha : a = P0.length) (hm : m = a + L0.length) (hb : b = m + R0.length) (hL0 : 0 < L0.length) (hR0 : 0 < R0.length) (hmax : n ≤ 4096) :
    Does Try.prog 68 [.slice (some ⟨B, 0, none⟩) n c, .int .i64 a, .int .i64 m, .int .i64 b, .func (.func 27) #[] #[]] w (RetO w ln fun v ln' => v = .tuple #[] ∧ RowO B cap n (P0 ++ (R0 ++ (L0 ++ S0))) ln') := by
  have hn := hr.1
  simp only [List.length_append] at hn
  refine calls_J (ys := [.slice (some ⟨B, 0, none⟩) n c, .int .i64 a, .int .i64 m, .int .i64 b, .func (.func 27) #[] #[]]) Try.func68 rfl Try.ntmps68 rfl ?_
  refine J.at_ ?_ (St.startO hown hr.nodup)
  have hi : Value.int .i64 (IntKind.i64.wrap ((m : Int) - (a : Int))) = .int .i64 (L0.length : Nat) := by rw [i64_id (by omega)]; congr 1; omega
  have hj : Value.int .i64 (IntKind.i64.wrap ((b : Int) - (m : Int))) = .int .i64 (R0.length : Nat) := by rw [i64_id (by omega)]; congr 1; omega
  repeat' (first
    | (refine JE.kBin ?_; refine JE.int rfl rfl rfl rfl hi rfl ?_)
    | (refine JE.kBin ?_; refine JE.int rfl rfl rfl rfl hj rfl ?_)
    | refine JE.pure rfl rfl (by conv => lhs; whnf) rfl ?_
    | with_reducible refine JE.sN ?_
    | with_reducible refine J.seq ?_
    | with_reducible refine J.region ?_
    | with_reducible refine J.block ?_)
  obtain ⟨T, hT⟩ : ∃ T, T = P0 ++ (R0 ++ (L0 ++ S0)) := ⟨_, rfl⟩
  rw [← hT]
  refine J.loop (fun f w' => ∃ (P L R S : List Pledge) (ln' : List (Nat × Obj)), P.length + L.length = m ∧ 0 < L.length ∧ 0 < R.length ∧ P ++ (R ++ (L ++ S)) = T ∧ RowO B cap n (P ++ (L ++ (R ++ S))) ln' ∧ Has f [(0, .slice (some ⟨B, 0, none⟩) n c), (2, .int .i64 m), (4, .func (.func 27) #[] #[]), (10, .int .i64 (L.length : Nat)), (11, .int .i64 (R.length : Nat))] ∧ St w (ln.map (·.1)) ln' w')
    (fun f _ => (intOf (f 10)).toNat + (intOf (f 11)).toNat) (fun w' hS => ⟨P0, L0, R0, S0, ln, by omega, hL0, hR0, hT.symm, hr, (by repeat' (first | exact trivial | refine And.intro (by rfl) ?_)), hS⟩) ?_
  clear hr hT hi hj
  rintro f w' ⟨P, L, R, S, ln', hPL, hL, hR, hT, hr, hf, hS⟩
  obtain ⟨g, rfl⟩ := hf.eq
  clear hf
  refine J.at_ ?_ hS
  have hlen := hr.1
  simp only [List.length_append] at hlen
  have hs1 : Value.int .i64 (IntKind.i64.wrap ((m : Int) - (L.length : Int))) = .int .i64 (P.length : Nat) := by rw [i64_id (by omega)]; congr 1; omega
  rcases Nat.lt_trichotomy L.length R.length with hc | hc | hc
  · obtain ⟨Bq, A, rfl, hA⟩ : ∃ Bq A, R = Bq ++ A ∧ L.length = A.length := ⟨R.take (R.length - L.length), R.drop (R.length - L.length), (List.take_append_drop _ _).symm, by rw [List.length_drop]; omega⟩
    rw [List.length_append] at hc hlen
    have hs2 : Value.int .i64 (IntKind.i64.wrap ((m : Int) + ((Bq ++ A).length : Int))) = .int .i64 ((m + (Bq ++ A).length : Nat) : Int) := by rw [List.length_append, i64_id (by omega)]; congr 1
    have hs3 : Value.int .i64 (IntKind.i64.wrap (((m + (Bq ++ A).length : Nat) : Int) - (L.length : Int))) = .int .i64 ((P.length + L.length + Bq.length : Nat) : Int) := by rw [List.length_append, i64_id (by omega)]; congr 1; omega
    have hs4 : Value.int .i64 (IntKind.i64.wrap (((Bq ++ A).length : Int) - (L.length : Int))) = .int .i64 (Bq.length : Nat) := by rw [List.length_append, i64_id (by omega)]; congr 1; omega
    have hlt : ¬ ((L.length : Int) = ((Bq ++ A).length : Int)) := by rw [List.length_append]; omega
    have hgt : ¬ (((Bq ++ A).length : Int) < (L.length : Int)) := by rw [List.length_append]; omega
    have hsw := swapR_parts (P := P) (A := L) (M := Bq) (C := A) (S := S) hA
    rw [List.append_assoc] at hr
    have hcall := fun w hw => swapRow_calls c P.length (P.length + L.length + Bq.length) L.length w hr hw (by omega) (by omega) hmax
    rw [hsw] at hcall
    repeat' (first
      | (refine JE.kBin ?_; refine JE.int rfl rfl rfl rfl hs1 rfl ?_)
      | (refine JE.kBin ?_; refine JE.int rfl rfl rfl rfl hs2 rfl ?_)
      | (refine JE.kBin ?_; refine JE.int rfl rfl rfl rfl hs3 rfl ?_)
      | (refine JE.kBin ?_; refine JE.int rfl rfl rfl rfl hs4 rfl ?_)
      | refine JE.pure rfl rfl (by conv => lhs; whnf) rfl ?_
      | (refine JE.kBin ?_; (refine JE.int rfl rfl rfl rfl rfl rfl ?_; with_reducible refine JE.waysD (fun _ => ?_) (fun _ => ?_)))
      | with_reducible refine JE.sN ?_
      | with_reducible refine JE.sX ?_
      | with_reducible refine J.seq ?_
      | with_reducible refine J.region ?_
      | refine J.condT rfl ?_
      | refine J.condF rfl ?_
      | with_reducible refine J.skip ?_
      | with_reducible refine J.exit ?_
      | with_reducible refine J.block ?_
      | with_reducible refine JX.thenN ?_
      | with_reducible refine JX.thenE ?_
      | with_reducible refine JX.blkS ?_
      | with_reducible refine JX.blkN ?_
      | (refine JE.isF 80 ?_; refine JE.call rfl rfl (by repeat (first | exact NfL.nil rfl | apply NfL.cons (by exact rfl) (by conv => lhs; whnf))) rfl ?_; refine CallG.obj (ln := ln') (G := _) (by repeat (first | exact Seg.head | exact Seg.all | exact Seg.one | apply Seg.tail | apply Seg.cons)) (fun w hS => hcall w (hS.owns .all)) (fun _ _ _ _ => trivial) ?_; rintro _ ln2 ⟨rfl, hr2⟩))
    all_goals first
      | (exfalso; omega)
      | exact absurd ‹_› hlt
      | exact absurd ‹_› hgt
      | (refine JX.round fun w'' hS' => ⟨⟨P, A, Bq, L ++ S, ln2, by omega, by omega, by omega, by rw [← hT]; simp, hr2, ⟨rfl, rfl, rfl, by rw [← hA]; rfl, rfl, trivial⟩, by simpa using hS'⟩, ?_⟩
         show (L.length : Int).toNat + (Bq.length : Int).toNat < (L.length : Int).toNat + ((Bq ++ A).length : Int).toNat
         rw [List.length_append]; omega)
  · have hsw := swapR_parts (P := P) (A := L) (M := []) (C := R) (S := S) hc
    rw [List.nil_append, List.nil_append, List.length_nil, Nat.add_zero, hPL] at hsw
    have hcall := fun w hw => swapRow_calls c P.length m L.length w hr hw (by omega) (by omega) hmax
    rw [hsw, hT] at hcall
    have he : (L.length : Int) = (R.length : Int) := by omega
    repeat' (first
      | (refine JE.kBin ?_; refine JE.int rfl rfl rfl rfl hs1 rfl ?_)
      | refine JE.pure rfl rfl (by conv => lhs; whnf) rfl ?_
      | (refine JE.kBin ?_; (refine JE.int rfl rfl rfl rfl rfl rfl ?_; with_reducible refine JE.waysD (fun _ => ?_) (fun _ => ?_)))
      | (refine JE.kBin ?_; refine JE.int rfl rfl rfl rfl (by rw [i64_id (by omega)]) rfl ?_)
      | with_reducible refine JE.sN ?_
      | with_reducible refine JE.sX ?_
      | with_reducible refine J.seq ?_
      | with_reducible refine J.region ?_
      | refine J.condT rfl ?_
      | refine J.condF rfl ?_
      | with_reducible refine J.skip ?_
      | with_reducible refine J.exit ?_
      | with_reducible refine J.block ?_
      | with_reducible refine JX.thenN ?_
      | with_reducible refine JX.thenE ?_
      | with_reducible refine JX.blkS ?_
      | (refine JE.isF 80 ?_; refine JE.call rfl rfl (by repeat (first | exact NfL.nil rfl | apply NfL.cons (by exact rfl) (by conv => lhs; whnf))) rfl ?_; refine CallG.obj (ln := ln') (G := _) (by repeat (first | exact Seg.head | exact Seg.all | exact Seg.one | apply Seg.tail | apply Seg.cons)) (fun w hS => hcall w (hS.owns .all)) (fun _ _ _ _ => trivial) ?_; rintro _ ln2 ⟨rfl, hr2⟩))
    all_goals first
      | (exfalso; omega)
      | exact fnQ_none (.inr rfl) rfl fun w'' hS' => ⟨_, _, rfl, ⟨rfl, hr2⟩, by simpa using hS'⟩
  · obtain ⟨A, Bq, rfl, hA⟩ : ∃ A Bq, L = A ++ Bq ∧ A.length = R.length := ⟨L.take R.length, L.drop R.length, (List.take_append_drop _ _).symm, by rw [List.length_take]; omega⟩
    rw [List.length_append] at hc hlen hPL
    have hs4 : Value.int .i64 (IntKind.i64.wrap (((A ++ Bq).length : Int) - (R.length : Int))) = .int .i64 (Bq.length : Nat) := by rw [List.length_append, i64_id (by omega)]; congr 1; omega
    have hlt : ¬ (((A ++ Bq).length : Int) = (R.length : Int)) := by rw [List.length_append]; omega
    have hgt : ((R.length : Int) < ((A ++ Bq).length : Int)) := by rw [List.length_append]; omega
    have hsw := swapR_parts (P := P) (A := A) (M := Bq) (C := R) (S := S) hA
    rw [show P.length + A.length + Bq.length = m by omega, hA] at hsw
    rw [List.append_assoc] at hr
    have hcall := fun w hw => swapRow_calls c P.length m R.length w hr hw (by omega) (by omega) hmax
    rw [hsw] at hcall
    repeat' (first
      | (refine JE.kBin ?_; refine JE.int rfl rfl rfl rfl hs1 rfl ?_)
      | (refine JE.kBin ?_; refine JE.int rfl rfl rfl rfl hs4 rfl ?_)
      | refine JE.pure rfl rfl (by conv => lhs; whnf) rfl ?_
      | (refine JE.kBin ?_; (refine JE.int rfl rfl rfl rfl rfl rfl ?_; with_reducible refine JE.waysD (fun _ => ?_) (fun _ => ?_)))
      | (refine JE.kBin ?_; refine JE.int rfl rfl rfl rfl (by rw [i64_id (by omega)]) rfl ?_)
      | with_reducible refine JE.sN ?_
      | with_reducible refine JE.sX ?_
      | with_reducible refine J.seq ?_
      | with_reducible refine J.region ?_
      | refine J.condT rfl ?_
      | refine J.condF rfl ?_
      | with_reducible refine J.skip ?_
      | with_reducible refine J.exit ?_
      | with_reducible refine J.block ?_
      | with_reducible refine JX.thenN ?_
      | with_reducible refine JX.thenE ?_
      | with_reducible refine JX.blkS ?_
      | with_reducible refine JX.blkN ?_
      | (refine JE.isF 80 ?_; refine JE.call rfl rfl (by repeat (first | exact NfL.nil rfl | apply NfL.cons (by exact rfl) (by conv => lhs; whnf))) rfl ?_; refine CallG.obj (ln := ln') (G := _) (by repeat (first | exact Seg.head | exact Seg.all | exact Seg.one | apply Seg.tail | apply Seg.cons)) (fun w hS => hcall w (hS.owns .all)) (fun _ _ _ _ => trivial) ?_; rintro _ ln2 ⟨rfl, hr2⟩))
    all_goals first
      | (exfalso; omega)
      | exact absurd ‹_› hlt
      | exact absurd hgt ‹_›
      | (refine JX.round fun w'' hS' => ⟨⟨P ++ R, Bq, A, S, ln2, by rw [List.length_append]; omega, by omega, by omega, by rw [← hT]; simp, by rw [List.append_assoc]; exact hr2, ⟨rfl, rfl, rfl, rfl, by rw [hA]; rfl, trivial⟩, by simpa using hS'⟩, ?_⟩
         show (Bq.length : Int).toNat + (R.length : Int).toNat < ((A ++ Bq).length : Int).toNat + (R.length : Int).toNat
         rw [List.length_append]; omega)

end Go.Proofs.Ytnapfiheholhiaa
