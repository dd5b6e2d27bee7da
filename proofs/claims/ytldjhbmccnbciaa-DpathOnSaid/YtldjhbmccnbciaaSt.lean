/- the whole stable sort; clones; flow.New -/
import Derived.Test.YtldjhbmccnbciaaSy
namespace Go.Proofs.Ytldjhbmccnbciaa
open Go
set_option linter.unusedSimpArgs false
set_option linter.unusedVariables false
/-- runs of n, each sorted: X in pieces, M the pieces sorted -/
inductive Runs (n : Nat) : List Ent → List Ent → Prop
  | last {X M : List Ent} (h : St X M) (hl : X.length ≤ n) : Runs n X M
  | more {X M Y K : List Ent} (h : St X M) (hl : X.length = n) (hr : Runs n Y K) : Runs n (X ++ Y) (M ++ K)
/-- whole runs of n -/
inductive Full (n : Nat) : List Ent → List Ent → Prop
  | nil : Full n [] []
  | snoc {X M Y K : List Ent} (hr : Full n X M) (h : St Y K) (hl : Y.length = n) : Full n (X ++ Y) (M ++ K)
theorem Runs.len {n : Nat} {X M : List Ent} (h : Runs n X M) : M.length = X.length := by
  induction h with
  | last h _ => exact h.len
  | more h _ _ ih => simp [h.len, ih]
theorem Full.len {n : Nat} {X M : List Ent} (h : Full n X M) : M.length = X.length := by
  induction h with
  | nil => rfl
  | snoc _ h _ ih => simp [h.len, ih]
theorem Full.runs {n : Nat} {X M : List Ent} (h : Full n X M) : ∀ {Y K : List Ent}, Runs n Y K → Runs n (X ++ Y) (M ++ K) := by
  induction h with
  | nil => intro Y K hr; exact hr
  | snoc _ h hl ih => intro Y K hr; simp only [List.append_assoc]; exact ih (.more h hl hr)
theorem St.trans {X Y Z : List Ent} (h : St X Y) (k : St Y Z) : St X Z := ⟨k.len.trans h.len, k.srt, fun p => (k.fil p).trans (h.fil p)⟩
theorem St.app {X M Y K Z : List Ent} (h : St X M) (k : St Y K) (hz : St (M ++ K) Z) : St (X ++ Y) Z :=
  ⟨by have := hz.len; simp [h.len, k.len] at this ⊢; exact this, hz.srt, fun p => by rw [hz.fil, List.filter_append, List.filter_append, h.fil, k.fil]⟩
theorem Runs.split {n : Nat} {X M : List Ent} (h : Runs n X M) (hl : n ≤ X.length) : ∃ X1 M1 X2 M2, X = X1 ++ X2 ∧ M = M1 ++ M2 ∧ St X1 M1 ∧ X1.length = n ∧ Runs n X2 M2 := by
  cases h with
  | last h hle => exact ⟨X, M, [], [], by simp, by simp, h, by omega, .last St.nil (by simp)⟩
  | more h hl' hr => exact ⟨_, _, _, _, rfl, rfl, h, hl', hr⟩
theorem Runs.short {n : Nat} {X M : List Ent} (h : Runs n X M) (hl : X.length ≤ n) : St X M := by
  cases h with
  | last h _ => exact h
  | more h hle hr =>
    rename_i X M Y K
    have hY : Y = [] := by
      have : (X ++ Y).length = X.length + Y.length := List.length_append
      exact List.eq_nil_of_length_eq_zero (by omega)
    subst hY
    have hK : K = [] := List.eq_nil_of_length_eq_zero (by simpa using hr.len)
    subst hK
    simpa using h
theorem slices_stableCmpFunc_flow_Entry.c (X : List Ent) (w : World) (g c N : Nat) (hI : In entC g w X) (hN : X.length = N) (hl : N ≤ 100000) :
    Calls Try.prog slices_stableCmpFunc_flow_Entry.id #[.slice (some ⟨g, 0, none⟩) N c, .int .i64 N, .func (.func flow_New_1.id) #[] #[]] w (retP fun _ w' => (∃ M, St X M ∧ In entC g w' M) ∧ Only g w w') := by
  apply slices_stableCmpFunc_flow_Entry.sound
  unfold slices_stableCmpFunc_flow_Entry.sh
  simp -dsimp (disch := first | omega | assumption | ((simp only [World.size_alloc, size_setRow, List.size_toArray, List.length_cons, List.length_nil, cells_agg, len_enc, cells_int, cells_bool, cells_slice, cells_ptr, cells_string]) <;> omega) | ((repeat (first | with_reducible exact Ext.refl _ | with_reducible assumption | with_reducible apply Ext.alloc | with_reducible apply Ext.drew | (with_reducible refine Ext.setRow ?_ (by (try simp only [World.size_alloc]); omega) _) | (with_reducible refine Ext.tr ?_ (by assumption)))); done) | fail) only [go_sem, Nat.reduceAdd, Nat.reduceLeDiff, Nat.reduceMul, Int.reduceToNat, Nat.reduceEqDiff, Nat.reduceLT, Int.reduceBEq, Int.reduceBNe, Int.reduceLT, Int.reduceLE, Int.reduceAdd, Int.reduceSub, Int.reduceMul, Int.reduceDiv, Int.reduceMod, Int.reduceNeg, hN]
  refine loop_g (γ := List Ent × List Ent × List Ent) (fun (X1, M1, X2) s w' => s = [.int .i64 (X1.length : Int), .int .i64 ((X1.length + 20 : Nat) : Int)] ∧ X = X1 ++ X2 ∧ Full 20 X1 M1 ∧ Only g w w' ∧ In entC g w' (M1 ++ X2)) (fun (X1, M1, X2) => X2.length) ([], [], X) ⟨rfl, rfl, .nil, .refl _ _, by simpa using hI⟩ ?_
  rintro ⟨X1, M1, X2⟩ s w1 next ⟨rfl, rfl, hF, ho, hI1⟩ hn
  have hXX : (X1 ++ X2).length = X1.length + X2.length := List.length_append
  have hFl := hF.len
  by_cases hc : X1.length + 20 ≤ N
  · have c1 : ((X1.length + 20 : Nat) : Int) ≤ (N : Int) := by omega
    obtain ⟨Y, Z, rfl, hY⟩ : ∃ Y Z, X2 = Y ++ Z ∧ Y.length = 20 := ⟨X2.take 20, X2.drop 20, by simp, by simp; omega⟩
    have f1 : ((X1.length + 20 : Nat) : Int) + 20 = (((X1 ++ Y).length + 20 : Nat) : Int) := by simp [hY]
    have f2 : ((X1.length + 20 : Nat) : Int) = ((X1 ++ Y).length : Int) := by simp [hY]
    simp -dsimp (disch := first | omega | assumption | ((simp only [World.size_alloc, size_setRow, List.size_toArray, List.length_cons, List.length_nil, cells_agg, len_enc, cells_int, cells_bool, cells_slice, cells_ptr, cells_string]) <;> omega) | ((repeat (first | with_reducible exact Ext.refl _ | with_reducible assumption | with_reducible apply Ext.alloc | with_reducible apply Ext.drew | (with_reducible refine Ext.setRow ?_ (by (try simp only [World.size_alloc]); omega) _) | (with_reducible refine Ext.tr ?_ (by assumption)))); done) | fail) only [go_sem, Nat.reduceAdd, Nat.reduceLeDiff, Nat.reduceMul, Int.reduceToNat, Nat.reduceEqDiff, Nat.reduceLT, Int.reduceBEq, Int.reduceBNe, Int.reduceLT, Int.reduceLE, Int.reduceAdd, Int.reduceSub, Int.reduceMul, Int.reduceDiv, Int.reduceMod, Int.reduceNeg, c1]
    refine callM (slices_insertionSortCmpFunc_flow_Entry.c M1 Y Z w1 g c N X1.length (X1.length + 20) hFl (by omega) (by simpa using hI1) (by simp at hN ⊢; omega) (by omega)) ?_
    rintro _ w2 ⟨⟨K, hK, hI2⟩, ho2⟩
    have f3 : (X1 ++ Y).length = X1.length + 20 := by simp [hY]
    have next' := hn (X1 ++ Y, M1 ++ K, Z) [.int .i64 ((X1 ++ Y).length : Int), .int .i64 (((X1 ++ Y).length + 20 : Nat) : Int)] w2 ⟨rfl, by simp, .snoc hF hK hY, ho.tr ho2, by simpa using hI2⟩ (by simp; omega)
    rw [f3] at next'
    rw [f3] at f1
    simp -dsimp (disch := first | omega | assumption | ((simp only [World.size_alloc, size_setRow, List.size_toArray, List.length_cons, List.length_nil, cells_agg, len_enc, cells_int, cells_bool, cells_slice, cells_ptr, cells_string]) <;> omega) | ((repeat (first | with_reducible exact Ext.refl _ | with_reducible assumption | with_reducible apply Ext.alloc | with_reducible apply Ext.drew | (with_reducible refine Ext.setRow ?_ (by (try simp only [World.size_alloc]); omega) _) | (with_reducible refine Ext.tr ?_ (by assumption)))); done) | fail) only [go_sem, Nat.reduceAdd, Nat.reduceLeDiff, Nat.reduceMul, Int.reduceToNat, Nat.reduceEqDiff, Nat.reduceLT, Int.reduceBEq, Int.reduceBNe, Int.reduceLT, Int.reduceLE, Int.reduceAdd, Int.reduceSub, Int.reduceMul, Int.reduceDiv, Int.reduceMod, Int.reduceNeg, f1]
    exact next'
  · have c1 : ¬ ((X1.length + 20 : Nat) : Int) ≤ (N : Int) := by omega
    simp -dsimp (disch := first | omega | assumption | ((simp only [World.size_alloc, size_setRow, List.size_toArray, List.length_cons, List.length_nil, cells_agg, len_enc, cells_int, cells_bool, cells_slice, cells_ptr, cells_string]) <;> omega) | ((repeat (first | with_reducible exact Ext.refl _ | with_reducible assumption | with_reducible apply Ext.alloc | with_reducible apply Ext.drew | (with_reducible refine Ext.setRow ?_ (by (try simp only [World.size_alloc]); omega) _) | (with_reducible refine Ext.tr ?_ (by assumption)))); done) | fail) only [go_sem, Nat.reduceAdd, Nat.reduceLeDiff, Nat.reduceMul, Int.reduceToNat, Nat.reduceEqDiff, Nat.reduceLT, Int.reduceBEq, Int.reduceBNe, Int.reduceLT, Int.reduceLE, Int.reduceAdd, Int.reduceSub, Int.reduceMul, Int.reduceDiv, Int.reduceMod, Int.reduceNeg, c1]
    refine callM (slices_insertionSortCmpFunc_flow_Entry.c M1 X2 [] w1 g c N X1.length N hFl (by omega) (by simpa using hI1) (by simp at hN ⊢; omega) (by omega)) ?_
    rintro _ w2 ⟨⟨K, hK, hI2⟩, ho2⟩
    have hR := hF.runs (.last hK (by omega) : Runs 20 X2 K)
    rw [List.append_nil] at hI2
    have hO2 := ho.tr ho2
    clear hn hK hF hFl hI1 ho
    generalize hX : X1 ++ X2 = X at hN hR hXX
    refine loop_g (γ := Nat × List Ent) (fun (n, M) s w' => s = [.int .i64 (n : Int)] ∧ 0 < n ∧ n ≤ 1000000 ∧ Runs n X M ∧ Only g w w' ∧ In entC g w' M) (fun (n, M) => 1000001 - n) (20, M1 ++ K) ⟨rfl, by omega, by omega, hR, hO2, hI2⟩ ?_
    rintro ⟨n, M⟩ s w3 next ⟨rfl, hn0, hnl, hR3, ho3, hI3⟩ hn
    by_cases c2 : (n : Int) < (N : Int)
    · have f0 : (2 : Int) * (n : Int) = ((2 * n : Nat) : Int) := by omega
      simp -dsimp (disch := first | omega | assumption | ((simp only [World.size_alloc, size_setRow, List.size_toArray, List.length_cons, List.length_nil, cells_agg, len_enc, cells_int, cells_bool, cells_slice, cells_ptr, cells_string]) <;> omega) | ((repeat (first | with_reducible exact Ext.refl _ | with_reducible assumption | with_reducible apply Ext.alloc | with_reducible apply Ext.drew | (with_reducible refine Ext.setRow ?_ (by (try simp only [World.size_alloc]); omega) _) | (with_reducible refine Ext.tr ?_ (by assumption)))); done) | fail) only [go_sem, Nat.reduceAdd, Nat.reduceLeDiff, Nat.reduceMul, Int.reduceToNat, Nat.reduceEqDiff, Nat.reduceLT, Int.reduceBEq, Int.reduceBNe, Int.reduceLT, Int.reduceLE, Int.reduceAdd, Int.reduceSub, Int.reduceMul, Int.reduceDiv, Int.reduceMod, Int.reduceNeg, c2, f0]
      refine loop_g (γ := List Ent × List Ent × List Ent × List Ent) (fun (X1, M1, X2, M2) s w' => s = [.int .i64 (X1.length : Int), .int .i64 ((X1.length + 2 * n : Nat) : Int)] ∧ X = X1 ++ X2 ∧ Full (2 * n) X1 M1 ∧ Runs n X2 M2 ∧ Only g w w' ∧ In entC g w' (M1 ++ M2)) (fun (X1, M1, X2, M2) => X2.length) ([], [], X, M) ⟨by simp, by simp, .nil, hR3, ho3, by simpa using hI3⟩ ?_
      rintro ⟨Y1, K1, Y2, K2⟩ s w4 next4 ⟨rfl, rfl, hF4, hR4, ho4, hI4⟩ hn4
      have hl4 := hF4.len
      have hYY : (Y1 ++ Y2).length = Y1.length + Y2.length := List.length_append
      have f3 : ((Y1.length : Nat) : Int) + (n : Int) = ((Y1.length + n : Nat) : Int) := by omega
      by_cases c3 : ((Y1.length + 2 * n : Nat) : Int) ≤ (N : Int)
      · obtain ⟨P, P', Z, Z', rfl, rfl, hP, hPl, hR5⟩ := hR4.split (by omega)
        have hPZ : (P ++ Z).length = P.length + Z.length := List.length_append
        obtain ⟨Q, Q', Z, Z', rfl, rfl, hQ, hQl, hR6⟩ := hR5.split (by omega)
        have hQZ : (Q ++ Z).length = Q.length + Z.length := List.length_append
        have e1 := hP.len
        have e2 := hQ.len
        have e3 := hR6.len
        have f4 : ((Y1.length + 2 * n : Nat) : Int) + ((2 * n : Nat) : Int) = ((Y1.length + 2 * n + 2 * n : Nat) : Int) := by omega
        simp -dsimp (disch := first | omega | assumption | ((simp only [World.size_alloc, size_setRow, List.size_toArray, List.length_cons, List.length_nil, cells_agg, len_enc, cells_int, cells_bool, cells_slice, cells_ptr, cells_string]) <;> omega) | ((repeat (first | with_reducible exact Ext.refl _ | with_reducible assumption | with_reducible apply Ext.alloc | with_reducible apply Ext.drew | (with_reducible refine Ext.setRow ?_ (by (try simp only [World.size_alloc]); omega) _) | (with_reducible refine Ext.tr ?_ (by assumption)))); done) | fail) only [go_sem, Nat.reduceAdd, Nat.reduceLeDiff, Nat.reduceMul, Int.reduceToNat, Nat.reduceEqDiff, Nat.reduceLT, Int.reduceBEq, Int.reduceBNe, Int.reduceLT, Int.reduceLE, Int.reduceAdd, Int.reduceSub, Int.reduceMul, Int.reduceDiv, Int.reduceMod, Int.reduceNeg, c3, f0, f3]
        refine callM (slices_symMergeCmpFunc_flow_Entry.c g c N (by omega) (2 * n) K1 P' Q' Z' w4 Y1.length (Y1.length + n) (Y1.length + 2 * n) (by omega) hl4 (by omega) (by omega) (by omega) (by omega) hP.srt hQ.srt (by simpa using hI4) (by simp; omega)) ?_
        rintro _ w5 ⟨⟨W, hW, hI5⟩, ho5⟩
        have e4 := hW.len
        simp only [List.length_append] at e4
        have f5 : (Y1 ++ (P ++ Q)).length = Y1.length + 2 * n := by simp; omega
        have next' := hn4 (Y1 ++ (P ++ Q), K1 ++ W, Z, Z') [.int .i64 ((Y1.length + 2 * n : Nat) : Int), .int .i64 ((Y1.length + 2 * n + 2 * n : Nat) : Int)] w5 ⟨by rw [f5], by simp, .snoc hF4 (hP.app hQ hW) (by simp; omega), hR6, ho4.tr ho5, by simpa using hI5⟩ (by simp; omega)
        simp -dsimp (disch := first | omega | assumption | ((simp only [World.size_alloc, size_setRow, List.size_toArray, List.length_cons, List.length_nil, cells_agg, len_enc, cells_int, cells_bool, cells_slice, cells_ptr, cells_string]) <;> omega) | ((repeat (first | with_reducible exact Ext.refl _ | with_reducible assumption | with_reducible apply Ext.alloc | with_reducible apply Ext.drew | (with_reducible refine Ext.setRow ?_ (by (try simp only [World.size_alloc]); omega) _) | (with_reducible refine Ext.tr ?_ (by assumption)))); done) | fail) only [go_sem, Nat.reduceAdd, Nat.reduceLeDiff, Nat.reduceMul, Int.reduceToNat, Nat.reduceEqDiff, Nat.reduceLT, Int.reduceBEq, Int.reduceBNe, Int.reduceLT, Int.reduceLE, Int.reduceAdd, Int.reduceSub, Int.reduceMul, Int.reduceDiv, Int.reduceMod, Int.reduceNeg, f0, f4]
        exact next'
      · have f6 : (n : Int) * 2 = ((2 * n : Nat) : Int) := by omega
        have fin : ∀ w6 W, Runs (2 * n) (Y1 ++ Y2) W → Only g w w6 → In entC g w6 W → next [.int .i64 ((2 * n : Nat) : Int)] w6 := fun w6 W h1 h2 h3 => hn (2 * n, W) _ _ ⟨rfl, by omega, by omega, h1, h2, h3⟩ (by simp only []; omega)
        by_cases c4 : ((Y1.length + n : Nat) : Int) < (N : Int)
        · obtain ⟨P, P', Z, Z', rfl, rfl, hP, hPl, hR5⟩ := hR4.split (by omega)
          have hPZ : (P ++ Z).length = P.length + Z.length := List.length_append
          have hZ := hR5.short (by omega)
          have e1 := hP.len
          have e2 := hZ.len
          simp -dsimp (disch := first | omega | assumption | ((simp only [World.size_alloc, size_setRow, List.size_toArray, List.length_cons, List.length_nil, cells_agg, len_enc, cells_int, cells_bool, cells_slice, cells_ptr, cells_string]) <;> omega) | ((repeat (first | with_reducible exact Ext.refl _ | with_reducible assumption | with_reducible apply Ext.alloc | with_reducible apply Ext.drew | (with_reducible refine Ext.setRow ?_ (by (try simp only [World.size_alloc]); omega) _) | (with_reducible refine Ext.tr ?_ (by assumption)))); done) | fail) only [go_sem, jn_r, Nat.reduceAdd, Nat.reduceLeDiff, Nat.reduceMul, Int.reduceToNat, Nat.reduceEqDiff, Nat.reduceLT, Int.reduceBEq, Int.reduceBNe, Int.reduceLT, Int.reduceLE, Int.reduceAdd, Int.reduceSub, Int.reduceMul, Int.reduceDiv, Int.reduceMod, Int.reduceNeg, c3, f0, f3, c4]
          refine callM (slices_symMergeCmpFunc_flow_Entry.c g c N (by omega) (2 * n) K1 P' Z' [] w4 Y1.length (Y1.length + n) N (by omega) hl4 (by omega) (by omega) (by omega) (by omega) hP.srt hZ.srt (by simpa using hI4) (by simp; omega)) ?_
          rintro _ w5 ⟨⟨W, hW, hI5⟩, ho5⟩
          simp -dsimp (disch := first | omega | assumption | ((simp only [World.size_alloc, size_setRow, List.size_toArray, List.length_cons, List.length_nil, cells_agg, len_enc, cells_int, cells_bool, cells_slice, cells_ptr, cells_string]) <;> omega) | ((repeat (first | with_reducible exact Ext.refl _ | with_reducible assumption | with_reducible apply Ext.alloc | with_reducible apply Ext.drew | (with_reducible refine Ext.setRow ?_ (by (try simp only [World.size_alloc]); omega) _) | (with_reducible refine Ext.tr ?_ (by assumption)))); done) | fail) only [go_sem, jn_r, Nat.reduceAdd, Nat.reduceLeDiff, Nat.reduceMul, Int.reduceToNat, Nat.reduceEqDiff, Nat.reduceLT, Int.reduceBEq, Int.reduceBNe, Int.reduceLT, Int.reduceLE, Int.reduceAdd, Int.reduceSub, Int.reduceMul, Int.reduceDiv, Int.reduceMod, Int.reduceNeg, f6]
          exact fin w5 (K1 ++ W) (hF4.runs (.last (hP.app hZ hW) (by omega))) (ho4.tr ho5) (by simpa using hI5)
        · have hZ := hR4.short (by omega)
          simp -dsimp (disch := first | omega | assumption | ((simp only [World.size_alloc, size_setRow, List.size_toArray, List.length_cons, List.length_nil, cells_agg, len_enc, cells_int, cells_bool, cells_slice, cells_ptr, cells_string]) <;> omega) | ((repeat (first | with_reducible exact Ext.refl _ | with_reducible assumption | with_reducible apply Ext.alloc | with_reducible apply Ext.drew | (with_reducible refine Ext.setRow ?_ (by (try simp only [World.size_alloc]); omega) _) | (with_reducible refine Ext.tr ?_ (by assumption)))); done) | fail) only [go_sem, jn_r, Nat.reduceAdd, Nat.reduceLeDiff, Nat.reduceMul, Int.reduceToNat, Nat.reduceEqDiff, Nat.reduceLT, Int.reduceBEq, Int.reduceBNe, Int.reduceLT, Int.reduceLE, Int.reduceAdd, Int.reduceSub, Int.reduceMul, Int.reduceDiv, Int.reduceMod, Int.reduceNeg, c3, f0, f3, c4, f6]
          exact fin w4 (K1 ++ K2) (hF4.runs (.last hZ (by omega))) ho4 hI4
    · simp -dsimp (disch := first | omega | assumption | ((simp only [World.size_alloc, size_setRow, List.size_toArray, List.length_cons, List.length_nil, cells_agg, len_enc, cells_int, cells_bool, cells_slice, cells_ptr, cells_string]) <;> omega) | ((repeat (first | with_reducible exact Ext.refl _ | with_reducible assumption | with_reducible apply Ext.alloc | with_reducible apply Ext.drew | (with_reducible refine Ext.setRow ?_ (by (try simp only [World.size_alloc]); omega) _) | (with_reducible refine Ext.tr ?_ (by assumption)))); done) | fail) only [go_sem, Nat.reduceAdd, Nat.reduceLeDiff, Nat.reduceMul, Int.reduceToNat, Nat.reduceEqDiff, Nat.reduceLT, Int.reduceBEq, Int.reduceBNe, Int.reduceLT, Int.reduceLE, Int.reduceAdd, Int.reduceSub, Int.reduceMul, Int.reduceDiv, Int.reduceMod, Int.reduceNeg, c2]
      exact ⟨⟨M, hR3.short (by omega), hI3⟩, ho3⟩
theorem slices_SortStableFunc_flow_Entry.c (X : List Ent) (w : World) (g c N : Nat) (hI : In entC g w X) (hN : X.length = N) (hl : N ≤ 100000) :
    Calls Try.prog slices_SortStableFunc_flow_Entry.id #[.slice (some ⟨g, 0, none⟩) N c, .func (.func flow_New_1.id) #[] #[]] w (retP fun _ w' => (∃ M, St X M ∧ In entC g w' M) ∧ Only g w w') := by
  apply slices_SortStableFunc_flow_Entry.sound
  unfold slices_SortStableFunc_flow_Entry.sh
  simp -dsimp (disch := first | omega | assumption | ((simp only [World.size_alloc, size_setRow, List.size_toArray, List.length_cons, List.length_nil, cells_agg, len_enc, cells_int, cells_bool, cells_slice, cells_ptr, cells_string]) <;> omega) | ((repeat (first | with_reducible exact Ext.refl _ | with_reducible assumption | with_reducible apply Ext.alloc | with_reducible apply Ext.drew | (with_reducible refine Ext.setRow ?_ (by (try simp only [World.size_alloc]); omega) _) | (with_reducible refine Ext.tr ?_ (by assumption)))); done) | fail) only [go_sem, jn_r, Nat.reduceAdd, Nat.reduceLeDiff, Nat.reduceMul, Int.reduceToNat, Nat.reduceEqDiff, Nat.reduceLT, Int.reduceBEq, Int.reduceBNe, Int.reduceLT, Int.reduceLE, Int.reduceAdd, Int.reduceSub, Int.reduceMul, Int.reduceDiv, Int.reduceMod, Int.reduceNeg]
  exact callM (slices_stableCmpFunc_flow_Entry.c X w g c N hI hN hl) fun _ _ h => h
end Go.Proofs.Ytldjhbmccnbciaa
