/-
  The walk of slices.SortStableFunc over pledges: rows of at most 39. Conditions: none.
-/
import Derived.Test.YtnapfiheholhiaaSymD
set_option linter.unusedVariables false
set_option linter.unusedSimpArgs false
namespace Go.Proofs.Ytnapfiheholhiaa
open Go Go.RowKit Go.Proofs.YtnapfiheholhiaaSym

/-- Rows of so many are sorted by the walk below. -/
def sortMost : Nat := 39

theorem Own.sym {v : Value} {A D : List Pledge} {ln : List (Nat × Obj)} {k n : Nat} (w : World) (ho : Own 6 encPledge 37 v (A ++ D) ln) (hown : ∀ x ∈ ln, w.heap[x.1]? = some x.2) (hk : k = A.length) (hn : n = k + D.length) (hA : 0 < A.length) (hD : 0 < D.length)
    (hsA : SortedB passes A) (hsD : SortedB passes D) (hmax : n ≤ 4096) :
    Does Try.prog 59 [v, .int .i64 (0 : Nat), .int .i64 k, .int .i64 n, .func (.func 27) #[] #[]] w (RetO w ln fun u ln' => u = .tuple #[] ∧ Own 6 encPledge 37 v (mergeB passes A D) ln') := by
  have hlen : (A ++ D).length = n := by rw [List.length_append]; omega
  rcases ho with ⟨rfl, h0, rfl⟩ | ⟨B, cap, cur, rfl, ho, rfl⟩
  · rw [h0] at hlen; simp at hlen; omega
  · rw [hlen] at ho ⊢
    have hr : RowO B cap n ([] ++ (A ++ (D ++ []))) [(B, .cells cur 37 (0, 0))] := ⟨by simpa using hlen, cur, rfl, by simpa using ho⟩
    refine (sym_calls B cap n cap hmax (A.length + D.length + 1) [] A D [] _ 0 k n w (by omega) hr hown rfl (by simpa using hk) hn hA hD hsA hsD).mono ?_
    rintro e w' ⟨u, ln', rfl, ⟨rfl, hr'⟩, hS⟩
    obtain ⟨hl, cur', rfl, ho'⟩ := hr'
    have hm : (mergeB passes A D).length = n := by rw [mergeB_length]; omega
    refine ⟨_, _, rfl, ⟨rfl, .inr ⟨B, cap, cur', by rw [hm], by rw [hm]; simpa using ho', rfl⟩⟩, hS⟩

theorem isort_two {xs : List Pledge} (h : 20 ≤ xs.length) : isort 20 xs.length (isort 0 20 xs) = sortB passes (xs.take 20) ++ sortB passes (xs.drop 20) := by
  have e0 : isort 0 20 xs = sortB passes (xs.take 20) ++ xs.drop 20 := by simp [isort]
  have hl : (sortB passes (xs.take 20)).length = 20 := by rw [sortB_length, List.length_take]; omega
  rw [e0]
  generalize hA : sortB passes (xs.take 20) = A at hl
  have hD : (xs.drop 20).length = xs.length - 20 := List.length_drop
  generalize xs.drop 20 = D at hD
  have hall : xs.length = (A ++ D).length := by rw [List.length_append]; omega
  unfold isort
  rw [hall, List.take_length, ← hl, List.take_left, List.drop_left, List.drop_length, List.append_nil]

set_option maxHeartbeats 1000000 in
theorem stable_calls {v : Value} {xs : List Pledge} {ln : List (Nat × Obj)} (w : World) (ho : Own 6 encPledge 37 v xs ln) (hown : ∀ x ∈ ln, w.heap[x.1]? = some x.2) (hmax : xs.length ≤ sortMost) :
    Does Try.prog 49 [v, .int .i64 xs.length, .func (.func 27) #[] #[]] w (RetO w ln fun u ln' => u = .tuple #[] ∧ Own 6 encPledge 37 v (sortB passes xs) ln') := by
  unfold sortMost at hmax
  refine calls_J (ys := [v, .int .i64 xs.length, .func (.func 27) #[] #[]]) Try.func49 rfl Try.ntmps49 rfl ?_
  refine J.at_ ?_ (St.startO hown ho.nodup)
  repeat' (first
    | refine JE.pure rfl rfl (by conv => lhs; whnf) rfl ?_
    | with_reducible refine JE.sN ?_
    | with_reducible refine J.seq ?_
    | with_reducible refine J.region ?_
    | with_reducible refine J.block ?_)
  refine J.loop (fun f w' => ∃ (a : Nat) (ln' : List (Nat × Obj)), (a = 0 ∨ (a = 20 ∧ 20 ≤ xs.length)) ∧ Own 6 encPledge 37 v (isort 0 a xs) ln' ∧ Has f [(0, v), (1, .int .i64 xs.length), (2, .func (.func 27) #[] #[]), (6, .int .i64 20), (7, .int .i64 a), (8, .int .i64 ((a + 20 : Nat) : Int))] ∧ St w (ln.map (·.1)) ln' w')
    (fun f _ => 41 - (intOf (f 8)).toNat) (fun w' hS => ⟨0, ln, .inl rfl, by rw [isort_self]; exact ho, (by repeat' (first | exact trivial | refine And.intro (by rfl) ?_)), hS⟩) ?_
  rintro f w' ⟨a, ln', ha, ho', hf, hS⟩
  obtain ⟨g, rfl⟩ := hf.eq
  clear hf
  refine J.at_ ?_ hS
  have hal : a ≤ xs.length := by omega
  have hlen : (isort 0 a xs).length = xs.length := isort_length (Nat.zero_le _) hal
  rcases ha with rfl | ⟨rfl, h20⟩
  · rw [isort_self] at ho'
    have hlast : isort 0 xs.length xs = sortB passes xs := by simp [isort]
    by_cases h20 : 20 ≤ xs.length
    · have hc := fun w hw => Own.isort 0 20 w ho' hw (by omega) (by omega) (by omega)
      repeat' (first
        | refine JE.pure rfl rfl (by conv => lhs; whnf) rfl ?_
        | (refine JE.kBin ?_; (refine JE.int rfl rfl rfl rfl rfl rfl ?_; with_reducible refine JE.waysD (fun _ => ?_) (fun _ => ?_)))
        | (refine JE.kBin ?_; refine JE.int rfl rfl rfl rfl (by rw [i64_id (by omega)]) rfl ?_)
        | with_reducible refine JE.sN ?_
        | with_reducible refine JE.sX ?_
        | with_reducible refine J.seq ?_
        | with_reducible refine J.region ?_
        | refine J.condT rfl ?_
        | refine J.condF rfl ?_
        | with_reducible refine J.skip ?_
        | with_reducible refine J.exit ?_
        | with_reducible refine J.block ?_
        | with_reducible refine JX.thenN ?_
        | with_reducible refine JX.thenE ?_
        | with_reducible refine JX.blkS ?_
        | with_reducible refine JX.blkN ?_
        | (refine JE.isF 58 ?_; refine JE.call rfl rfl (by repeat (first | exact NfL.nil rfl | apply NfL.cons (by exact rfl) (by conv => lhs; whnf))) rfl ?_; refine CallG.obj (ln := ln') (G := _) (by repeat (first | exact Seg.head | exact Seg.all | exact Seg.one | apply Seg.tail | apply Seg.cons)) (fun w hS => hc w (hS.owns .all)) (fun _ _ _ _ => trivial) ?_; rintro _ ln2 ⟨rfl, ho2⟩))
      all_goals first
        | (exfalso; omega)
        | exact JX.round fun w'' hS' => ⟨⟨20, _, .inr ⟨rfl, h20⟩, ho2, (by repeat' (first | exact trivial | refine And.intro (by rfl) ?_)), by simpa using hS'⟩, by show 41 - 40 < 41 - 20; decide⟩
    · have hc := fun w hw => Own.isort 0 xs.length w ho' hw (by omega) (by omega) (by omega)
      rw [hlast] at hc
      repeat' (first
        | refine JE.pure rfl rfl (by conv => lhs; whnf) rfl ?_
        | (refine JE.kBin ?_; (refine JE.int rfl rfl rfl rfl rfl rfl ?_; with_reducible refine JE.waysD (fun _ => ?_) (fun _ => ?_)))
        | with_reducible refine JE.sN ?_
        | with_reducible refine J.seq ?_
        | with_reducible refine J.region ?_
        | refine J.condT rfl ?_
        | refine J.condF rfl ?_
        | with_reducible refine J.skip ?_
        | with_reducible refine J.exit ?_
        | with_reducible refine J.block ?_
        | with_reducible refine JX.thenN ?_
        | with_reducible refine JX.thenE ?_
        | with_reducible refine JX.blkS ?_
        | (refine JE.isF 58 ?_; refine JE.call rfl rfl (by repeat (first | exact NfL.nil rfl | apply NfL.cons (by exact rfl) (by conv => lhs; whnf))) rfl ?_; refine CallG.obj (ln := ln') (G := _) (by repeat (first | exact Seg.head | exact Seg.all | exact Seg.one | apply Seg.tail | apply Seg.cons)) (fun w hS => hc w (hS.owns .all)) (fun _ _ _ _ => trivial) ?_; rintro _ ln2 ⟨rfl, ho2⟩))
      · exfalso; omega
      · refine J.loop (fun f w' => Has f [(1, .int .i64 xs.length), (6, .int .i64 20)] ∧ St w (ln.map (·.1)) ln2 w') (fun _ _ => 0) (fun w' hS => ⟨(by repeat' (first | exact trivial | refine And.intro (by rfl) ?_)), by simpa using hS⟩) ?_
        rintro f w' ⟨hf, hS⟩
        obtain ⟨g, rfl⟩ := hf.eq
        clear hf
        refine J.at_ ?_ hS
        repeat' (first
          | refine JE.pure rfl rfl (by conv => lhs; whnf) rfl ?_
          | (refine JE.kBin ?_; (refine JE.int rfl rfl rfl rfl rfl rfl ?_; with_reducible refine JE.waysD (fun _ => ?_) (fun _ => ?_)))
          | (refine JE.kBin ?_; refine JE.int rfl rfl rfl rfl (by rw [i64_id (by omega)]) rfl ?_)
          | with_reducible refine JE.sN ?_
          | with_reducible refine J.seq ?_
          | with_reducible refine J.region ?_
          | refine J.condT rfl ?_
          | refine J.condF rfl ?_
          | with_reducible refine J.skip ?_
          | with_reducible refine J.exit ?_
          | with_reducible refine J.block ?_
          | with_reducible refine JX.thenN ?_
          | with_reducible refine JX.thenE ?_
          | with_reducible refine JX.blkS ?_)
        all_goals first
          | (exfalso; omega)
          | exact fnQ_none (.inr rfl) rfl fun w'' hS' => ⟨_, _, rfl, ⟨rfl, ho2⟩, hS'⟩
  · have hc := fun w hw => Own.isort 20 xs.length w ho' hw (by omega) (by omega) (by omega)
    rw [isort_two h20] at hc
    have hmg : mergeB passes (sortB passes (xs.take 20)) (sortB passes (xs.drop 20)) = sortB passes xs := by
      rw [← sortB_append passes_weak _ _ _ rfl, List.take_append_drop]
    have hsA := sortB_sorted passes_weak (xs.take 20)
    have hsD := sortB_sorted passes_weak (xs.drop 20)
    have hlA : (sortB passes (xs.take 20)).length = 20 := by rw [sortB_length, List.length_take]; omega
    have hlD : (sortB passes (xs.drop 20)).length = xs.length - 20 := by rw [sortB_length, List.length_drop]
    generalize sortB passes (xs.take 20) = A at hc hmg hsA hlA
    generalize sortB passes (xs.drop 20) = D at hc hmg hsD hlD
    have hm20 : Value.int .i64 (IntKind.i64.wrap (2 * 20)) = .int .i64 40 := rfl
    repeat' (first
      | refine JE.pure rfl rfl (by conv => lhs; whnf) rfl ?_
      | (refine JE.kBin ?_; (refine JE.int rfl rfl rfl rfl rfl rfl ?_; with_reducible refine JE.waysD (fun _ => ?_) (fun _ => ?_)))
      | with_reducible refine JE.sN ?_
      | with_reducible refine J.seq ?_
      | with_reducible refine J.region ?_
      | refine J.condT rfl ?_
      | refine J.condF rfl ?_
      | with_reducible refine J.skip ?_
      | with_reducible refine J.exit ?_
      | with_reducible refine J.block ?_
      | with_reducible refine JX.thenN ?_
      | with_reducible refine JX.thenE ?_
      | with_reducible refine JX.blkS ?_
      | (refine JE.isF 58 ?_; refine JE.call rfl rfl (by repeat (first | exact NfL.nil rfl | apply NfL.cons (by exact rfl) (by conv => lhs; whnf))) rfl ?_; refine CallG.obj (ln := ln') (G := _) (by repeat (first | exact Seg.head | exact Seg.all | exact Seg.one | apply Seg.tail | apply Seg.cons)) (fun w hS => hc w (hS.owns .all)) (fun _ _ _ _ => trivial) ?_; rintro _ ln2 ⟨rfl, ho2⟩))
    · exfalso; omega
    · refine J.loop (fun f w' => ∃ (bs : Nat) (l3 : List (Nat × Obj)), (bs = 20 ∧ Own 6 encPledge 37 v (A ++ D) l3 ∨ bs = 40 ∧ Own 6 encPledge 37 v (sortB passes xs) l3) ∧ Has f [(0, v), (1, .int .i64 xs.length), (2, .func (.func 27) #[] #[]), (6, .int .i64 bs)] ∧ St w (ln.map (·.1)) l3 w') (fun f _ => 41 - (intOf (f 6)).toNat) (fun w' hS => ⟨20, ln2, .inl ⟨rfl, ho2⟩, (by repeat' (first | exact trivial | refine And.intro (by rfl) ?_)), by simpa using hS⟩) ?_
      clear ho2 hc ho' hS
      rintro f w' ⟨bs, l3, hbs, hf, hS⟩
      obtain ⟨g, rfl⟩ := hf.eq
      clear hf
      refine J.at_ ?_ hS
      rcases hbs with ⟨rfl, ho3⟩ | ⟨rfl, ho3⟩
      · by_cases h1 : xs.length = 20
        · have hD0 : D = [] := List.eq_nil_of_length_eq_zero (by omega)
          rw [hD0, mergeB_nil] at hmg
          rw [hD0, List.append_nil, hmg] at ho3
          repeat' (first
            | refine JE.pure rfl rfl (by conv => lhs; whnf) rfl ?_
            | (refine JE.kBin ?_; (refine JE.int rfl rfl rfl rfl rfl rfl ?_; with_reducible refine JE.waysD (fun _ => ?_) (fun _ => ?_)))
            | (refine JE.kBin ?_; refine JE.int rfl rfl rfl rfl (by rw [i64_id (by omega)]) rfl ?_)
            | with_reducible refine JE.sN ?_
            | with_reducible refine J.seq ?_
            | with_reducible refine J.region ?_
            | refine J.condT rfl ?_
            | refine J.condF rfl ?_
            | with_reducible refine J.skip ?_
            | with_reducible refine J.exit ?_
            | with_reducible refine J.block ?_
            | with_reducible refine JX.thenN ?_
            | with_reducible refine JX.thenE ?_
            | with_reducible refine JX.blkS ?_)
          all_goals first
            | (exfalso; omega)
            | exact fnQ_none (.inr rfl) rfl fun w'' hS' => ⟨_, _, rfl, ⟨rfl, ho3⟩, hS'⟩
        · have hsy := fun w hw => Own.sym (k := 20) (n := xs.length) w ho3 hw hlA.symm (by omega) (by omega) (by omega) hsA hsD (by omega)
          rw [hmg] at hsy
          repeat' (first
            | refine JE.pure rfl rfl (by conv => lhs; whnf) rfl ?_
            | (refine JE.kBin ?_; (refine JE.int rfl rfl rfl rfl rfl rfl ?_; with_reducible refine JE.waysD (fun _ => ?_) (fun _ => ?_)))
            | (refine JE.kBin ?_; refine JE.int rfl rfl rfl rfl (by rw [i64_id (by omega)]) rfl ?_)
            | with_reducible refine JE.sN ?_
            | with_reducible refine J.seq ?_
            | with_reducible refine J.region ?_
            | refine J.condT rfl ?_
            | refine J.condF rfl ?_
            | with_reducible refine J.skip ?_
            | with_reducible refine J.exit ?_
            | with_reducible refine J.block ?_
            | with_reducible refine JX.thenN ?_
            | with_reducible refine JX.thenE ?_
            | with_reducible refine JX.blkS ?_)
          all_goals first
            | (exfalso; omega)
            | skip
          refine J.loop (fun f w' => Has f [(0, v), (1, .int .i64 xs.length), (2, .func (.func 27) #[] #[]), (6, .int .i64 20), (7, .int .i64 0), (8, .int .i64 40)] ∧ St w (ln.map (·.1)) l3 w') (fun _ _ => 0) (fun w' hS => ⟨(by repeat' (first | exact trivial | refine And.intro (by rfl) ?_)), by simpa using hS⟩) ?_
          rintro f w' ⟨hf, hS⟩
          obtain ⟨g, rfl⟩ := hf.eq
          clear hf
          refine J.at_ ?_ hS
          repeat' (first
            | refine JE.pure rfl rfl (by conv => lhs; whnf) rfl ?_
            | (refine JE.kBin ?_; (refine JE.int rfl rfl rfl rfl rfl rfl ?_; with_reducible refine JE.waysD (fun _ => ?_) (fun _ => ?_)))
            | (refine JE.kBin ?_; refine JE.int rfl rfl rfl rfl (by rw [i64_id (by omega)]) rfl ?_)
            | with_reducible refine JE.sN ?_
            | with_reducible refine JE.sX ?_
            | with_reducible refine J.seq ?_
            | with_reducible refine J.region ?_
            | refine J.condT rfl ?_
            | refine J.condF rfl ?_
            | with_reducible refine J.skip ?_
            | with_reducible refine J.exit ?_
            | with_reducible refine J.block ?_
            | with_reducible refine JX.thenN ?_
            | with_reducible refine JX.thenE ?_
            | with_reducible refine JX.blkS ?_
            | with_reducible refine JX.blkN ?_
            | (refine JE.isF 59 ?_; refine JE.call rfl rfl (by repeat (first | exact NfL.nil rfl | apply NfL.cons (by exact rfl) (by conv => lhs; whnf))) rfl ?_; refine CallG.obj (ln := l3) (G := _) (by repeat (first | exact Seg.head | exact Seg.all | exact Seg.one | apply Seg.tail | apply Seg.cons)) (fun w hS => hsy w (hS.owns .all)) (fun _ _ _ _ => trivial) ?_; rintro _ l4 ⟨rfl, ho4⟩))
          all_goals first
            | (exfalso; omega)
            | exact JX.round fun w'' hS' => ⟨⟨40, _, .inr ⟨rfl, ho4⟩, (by repeat' (first | exact trivial | refine And.intro (by rfl) ?_)), by simpa using hS'⟩, by show 41 - 40 < 41 - 20; decide⟩
      · skip
        repeat' (first
          | refine JE.pure rfl rfl (by conv => lhs; whnf) rfl ?_
          | (refine JE.kBin ?_; (refine JE.int rfl rfl rfl rfl rfl rfl ?_; with_reducible refine JE.waysD (fun _ => ?_) (fun _ => ?_)))
          | (refine JE.kBin ?_; refine JE.int rfl rfl rfl rfl (by rw [i64_id (by omega)]) rfl ?_)
          | with_reducible refine JE.sN ?_
          | with_reducible refine J.seq ?_
          | with_reducible refine J.region ?_
          | refine J.condT rfl ?_
          | refine J.condF rfl ?_
          | with_reducible refine J.skip ?_
          | with_reducible refine J.exit ?_
          | with_reducible refine J.block ?_
          | with_reducible refine JX.thenN ?_
          | with_reducible refine JX.thenE ?_
          | with_reducible refine JX.blkS ?_)
        all_goals first
          | (exfalso; omega)
          | exact fnQ_none (.inr rfl) rfl fun w'' hS' => ⟨_, _, rfl, ⟨rfl, ho3⟩, hS'⟩

theorem sort_calls {v : Value} {xs : List Pledge} {ln : List (Nat × Obj)} (w : World) (ho : Own 6 encPledge 37 v xs ln) (hown : ∀ x ∈ ln, w.heap[x.1]? = some x.2) (hmax : xs.length ≤ sortMost) :
    Does Try.prog 26 [v, .func (.func 27) #[] #[]] w (RetO w ln fun u ln' => u = .tuple #[] ∧ Own 6 encPledge 37 v (sortB passes xs) ln') := by
  have hc := fun w hw => stable_calls w ho hw hmax
  obtain ⟨a, c, rfl, _⟩ := ho.shape
  refine calls_J (ys := [.slice a xs.length c, .func (.func 27) #[] #[]]) Try.func26 rfl Try.ntmps26 rfl ?_
  refine J.at_ ?_ (St.startO hown ho.nodup)
  repeat' (first
    | refine JE.pure rfl rfl (by conv => lhs; whnf) rfl ?_
    | (refine JE.kBuiltin ?_; refine JE.lenSl rfl rfl rfl ?_)
    | with_reducible refine JE.sX ?_
    | with_reducible refine J.region ?_
    | (refine JE.isF 49 ?_; refine JE.call rfl rfl (by repeat (first | exact NfL.nil rfl | apply NfL.cons (by exact rfl) (by conv => lhs; whnf))) rfl ?_; refine CallG.obj (ln := ln) (G := _) (by repeat (first | exact Seg.head | exact Seg.all | exact Seg.one | apply Seg.tail | apply Seg.cons)) (fun w hS => hc w (hS.owns .all)) (fun _ _ _ _ => trivial) ?_; rintro _ ln2 ⟨rfl, ho2⟩))
  exact fnQ_none (.inr rfl) rfl fun w'' hS' => ⟨_, _, rfl, ⟨rfl, ho2⟩, by simpa using hS'⟩

end Go.Proofs.Ytnapfiheholhiaa
