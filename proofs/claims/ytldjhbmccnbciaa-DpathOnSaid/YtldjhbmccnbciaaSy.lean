/- the merge of two sorted runs in place -/
import Derived.Test.YtldjhbmccnbciaaSo
namespace Go.Proofs.Ytldjhbmccnbciaa
open Go
set_option linter.unusedSimpArgs false
set_option linter.unusedVariables false
theorem mid_u (i j : Nat) (h : i + j ≤ 4000000) : IntKind.i64.wrap (((i : Int) + (j : Int)) / 2 ^ min 1 64) = (((i + j) / 2 : Nat) : Int) := by
  have e : (2 : Int) ^ min 1 64 = 2 := rfl
  rw [e, wrap_64 (by omega) (by omega)]
  omega
theorem In.two {g : Nat} {w : World} {l : List Ent} (h : In entC g w l) {i j : Nat} {x y : Ent} (hi : l[i]? = some x) (hj : l[j]? = some y) : ∃ cs rest, blk0 w g = some cs ∧ blk w g = some cs ∧ cs.toList = l.flatMap entC.enc ++ rest ∧ i * 11 + 11 ≤ cs.size ∧ agx cs (i * 11) 11 = .agg (entC.enc x).toArray ∧ j * 11 + 11 ≤ cs.size ∧ agx cs (j * 11) 11 = .agg (entC.enc y).toArray := by
  obtain ⟨cs, rest, h1, h2, h3, h4, h5⟩ := h.get hi
  exact ⟨cs, rest, h1, h2, h3, h4, h5, (In.el h3 hj).1, (In.el h3 hj).2⟩
/-- one element ahead of a run -/
theorem slices_symMergeCmpFunc_flow_Entry.c1 (L B R : List Ent) (x : Ent) (w : World) (g c N : Nat) (a m b : Nat) (ha : L.length = a) (hm : a + 1 = m) (hb : m + B.length = b) (hB : Desc B) (hI : In entC g w (L ++ [x] ++ B ++ R)) (hN : (L ++ [x] ++ B ++ R).length = N) (hl : N ≤ 1000000) :
    Calls Try.prog slices_symMergeCmpFunc_flow_Entry.id #[.slice (some ⟨g, 0, none⟩) N c, .int .i64 a, .int .i64 m, .int .i64 b, .func (.func flow_New_1.id) #[] #[]] w (retP fun _ w' => (∃ M, St ([x] ++ B) M ∧ In entC g w' (L ++ M ++ R)) ∧ Only g w w') := by
  simp only [List.length_append, List.length_cons, List.length_nil] at hN
  apply slices_symMergeCmpFunc_flow_Entry.sound
  unfold slices_symMergeCmpFunc_flow_Entry.sh
  have e1 : (m : Int) - (a : Int) = 1 := by omega
  simp -dsimp (disch := first | omega | assumption | ((simp only [World.size_alloc, size_setRow, List.size_toArray, List.length_cons, List.length_nil, cells_agg, len_enc, cells_int, cells_bool, cells_slice, cells_ptr, cells_string]) <;> omega) | ((repeat (first | with_reducible exact Ext.refl _ | with_reducible assumption | with_reducible apply Ext.alloc | with_reducible apply Ext.drew | (with_reducible refine Ext.setRow ?_ (by (try simp only [World.size_alloc]); omega) _) | (with_reducible refine Ext.tr ?_ (by assumption)))); done) | fail) only [go_sem, jn_r, Nat.reduceAdd, Nat.reduceLeDiff, Nat.reduceMul, Int.reduceToNat, Nat.reduceEqDiff, Nat.reduceLT, Int.reduceBEq, Int.reduceBNe, Int.reduceLT, Int.reduceLE, Int.reduceAdd, Int.reduceSub, Int.reduceMul, Int.reduceDiv, Int.reduceMod, Int.reduceNeg, e1]
  refine loop_g (γ := Nat × Nat) (fun (i, j) s w' => s = [.int .i64 ((m + i : Nat) : Int), .int .i64 ((m + j : Nat) : Int)] ∧ i ≤ j ∧ j ≤ B.length ∧ Only g w w' ∧ In entC g w' (L ++ [x] ++ B ++ R) ∧ (∀ y, 0 < i → B[i - 1]? = some y → x.prio < y.prio) ∧ (∀ y, B[j]? = some y → y.prio ≤ x.prio)) (fun (i, j) => j - i) (0, B.length) ⟨by rw [hb]; rfl, Nat.zero_le _, Nat.le_refl _, .refl _ _, hI, fun y h => absurd h (by omega), fun y h => by simp at h⟩ ?_
  rintro ⟨i, j⟩ s w1 next ⟨rfl, hij, hj, ho, hI1, hlo, hhi⟩ hn
  by_cases hc : i < j
  · have c1 : ((m + i : Nat) : Int) < ((m + j : Nat) : Int) := by omega
    have hu := mid_u (m + i) (m + j) (by omega)
    have hh : ∃ h, (m + i + (m + j)) / 2 = m + h ∧ i ≤ h ∧ h < j := ⟨(m + i + (m + j)) / 2 - m, by omega, by omega, by omega⟩
    obtain ⟨h, hh1, hh2, hh3⟩ := hh
    rw [hh1] at hu
    obtain ⟨y, hy⟩ : ∃ y, B[h]? = some y := ⟨_, List.getElem?_eq_getElem (by omega)⟩
    have x1 : (L ++ [x] ++ B ++ R)[m + h]? = some y := by
      rw [List.append_assoc, List.getElem?_append_right (by simp; omega), List.getElem?_append_left (by simp; omega)]
      rw [← hy]
      congr 1
      simp
      omega
    have x2 : (L ++ [x] ++ B ++ R)[a]? = some x := mid_get (P := L) (Q := B ++ R) (by simp) ha
    obtain ⟨cs, rest, hb0, hb1, hcs, s1, g1, s2, g2⟩ := hI1.two x1 x2
    have b0 : (0 : Int) ≤ ((m + h : Nat) : Int) := by omega
    have b1 : (0 : Int) ≤ (a : Int) := by omega
    have b2 : ((m + h : Nat) : Int) < (N : Int) := by omega
    have b3 : (a : Int) < (N : Int) := by omega
    simp -dsimp (disch := first | omega | assumption | ((simp only [World.size_alloc, size_setRow, List.size_toArray, List.length_cons, List.length_nil, cells_agg, len_enc, cells_int, cells_bool, cells_slice, cells_ptr, cells_string]) <;> omega) | ((repeat (first | with_reducible exact Ext.refl _ | with_reducible assumption | with_reducible apply Ext.alloc | with_reducible apply Ext.drew | (with_reducible refine Ext.setRow ?_ (by (try simp only [World.size_alloc]); omega) _) | (with_reducible refine Ext.tr ?_ (by assumption)))); done) | fail) only [go_sem, jn_r, Nat.reduceAdd, Nat.reduceLeDiff, Nat.reduceMul, Int.reduceToNat, Nat.reduceEqDiff, Nat.reduceLT, Int.reduceBEq, Int.reduceBNe, Int.reduceLT, Int.reduceLE, Int.reduceAdd, Int.reduceSub, Int.reduceMul, Int.reduceDiv, Int.reduceMod, Int.reduceNeg, c1, hu, b0, b1, b2, b3, hb0, hb1, s1, g1, s2, g2, Int.toNat_natCast]
    refine vcM (by kernel_rfl) (by simp [entC_v]) (flow_New_1.c y x _) ?_
    rintro _ w3 ⟨⟨n, rfl, hn0⟩, hx3⟩
    have hx3 := hx3.ofDrew
    have f1 : ((m + h : Nat) : Int) + 1 = ((m + (h + 1) : Nat) : Int) := by omega
    simp -dsimp (disch := first | omega | assumption | ((simp only [World.size_alloc, size_setRow, List.size_toArray, List.length_cons, List.length_nil, cells_agg, len_enc, cells_int, cells_bool, cells_slice, cells_ptr, cells_string]) <;> omega) | ((repeat (first | with_reducible exact Ext.refl _ | with_reducible assumption | with_reducible apply Ext.alloc | with_reducible apply Ext.drew | (with_reducible refine Ext.setRow ?_ (by (try simp only [World.size_alloc]); omega) _) | (with_reducible refine Ext.tr ?_ (by assumption)))); done) | fail) only [go_sem, jn_r, Nat.reduceAdd, Nat.reduceLeDiff, Nat.reduceMul, Int.reduceToNat, Nat.reduceEqDiff, Nat.reduceLT, Int.reduceBEq, Int.reduceBNe, Int.reduceLT, Int.reduceLE, Int.reduceAdd, Int.reduceSub, Int.reduceMul, Int.reduceDiv, Int.reduceMod, Int.reduceNeg]
    refine cnd_i (fun hd => ?_) (fun hd => ?_)
    · simp at hd
      simp -dsimp (disch := first | omega | assumption | ((simp only [World.size_alloc, size_setRow, List.size_toArray, List.length_cons, List.length_nil, cells_agg, len_enc, cells_int, cells_bool, cells_slice, cells_ptr, cells_string]) <;> omega) | ((repeat (first | with_reducible exact Ext.refl _ | with_reducible assumption | with_reducible apply Ext.alloc | with_reducible apply Ext.drew | (with_reducible refine Ext.setRow ?_ (by (try simp only [World.size_alloc]); omega) _) | (with_reducible refine Ext.tr ?_ (by assumption)))); done) | fail) only [go_sem, jn_r, Nat.reduceAdd, Nat.reduceLeDiff, Nat.reduceMul, Int.reduceToNat, Nat.reduceEqDiff, Nat.reduceLT, Int.reduceBEq, Int.reduceBNe, Int.reduceLT, Int.reduceLE, Int.reduceAdd, Int.reduceSub, Int.reduceMul, Int.reduceDiv, Int.reduceMod, Int.reduceNeg, hu, f1]
      exact hn (h + 1, j) [.int .i64 ((m + (h + 1) : Nat) : Int), .int .i64 ((m + j : Nat) : Int)] _ ⟨rfl, by omega, hj, ho.ext hx3, hI1.ext hx3, fun z _ hz => by
        rw [Nat.add_sub_cancel, hy] at hz; cases hz; exact hn0.1 hd, hhi⟩ (by simp; omega)
    · simp at hd
      simp -dsimp (disch := first | omega | assumption | ((simp only [World.size_alloc, size_setRow, List.size_toArray, List.length_cons, List.length_nil, cells_agg, len_enc, cells_int, cells_bool, cells_slice, cells_ptr, cells_string]) <;> omega) | ((repeat (first | with_reducible exact Ext.refl _ | with_reducible assumption | with_reducible apply Ext.alloc | with_reducible apply Ext.drew | (with_reducible refine Ext.setRow ?_ (by (try simp only [World.size_alloc]); omega) _) | (with_reducible refine Ext.tr ?_ (by assumption)))); done) | fail) only [go_sem, jn_r, Nat.reduceAdd, Nat.reduceLeDiff, Nat.reduceMul, Int.reduceToNat, Nat.reduceEqDiff, Nat.reduceLT, Int.reduceBEq, Int.reduceBNe, Int.reduceLT, Int.reduceLE, Int.reduceAdd, Int.reduceSub, Int.reduceMul, Int.reduceDiv, Int.reduceMod, Int.reduceNeg, hu]
      exact hn (i, h) [.int .i64 ((m + i : Nat) : Int), .int .i64 ((m + h : Nat) : Int)] _ ⟨rfl, by omega, by omega, ho.ext hx3, hI1.ext hx3, hlo, fun z hz => by
        rw [hy] at hz; cases hz; have := mt hn0.2; omega⟩ (by simp; omega)
  · have : i = j := by omega
    subst this
    have c1 : ¬ ((m + i : Nat) : Int) < ((m + i : Nat) : Int) := by omega
    simp -dsimp (disch := first | omega | assumption | ((simp only [World.size_alloc, size_setRow, List.size_toArray, List.length_cons, List.length_nil, cells_agg, len_enc, cells_int, cells_bool, cells_slice, cells_ptr, cells_string]) <;> omega) | ((repeat (first | with_reducible exact Ext.refl _ | with_reducible assumption | with_reducible apply Ext.alloc | with_reducible apply Ext.drew | (with_reducible refine Ext.setRow ?_ (by (try simp only [World.size_alloc]); omega) _) | (with_reducible refine Ext.tr ?_ (by assumption)))); done) | fail) only [go_sem, jn_r, Nat.reduceAdd, Nat.reduceLeDiff, Nat.reduceMul, Int.reduceToNat, Nat.reduceEqDiff, Nat.reduceLT, Int.reduceBEq, Int.reduceBNe, Int.reduceLT, Int.reduceLE, Int.reduceAdd, Int.reduceSub, Int.reduceMul, Int.reduceDiv, Int.reduceMod, Int.reduceNeg, c1]
    obtain ⟨B1, B2, rfl, hB1⟩ : ∃ B1 B2, B = B1 ++ B2 ∧ B1.length = i := ⟨B.take i, B.drop i, by simp, by simp; omega⟩
    have hBB : (B1 ++ B2).length = B1.length + B2.length := List.length_append
    have q1 : ∀ y ∈ B1, x.prio < y.prio := by
      intro y hy
      rcases snoc_cases B1 with rfl | ⟨S, z, rfl⟩
      · simp at hy
      · have hz := hlo z (by simp at hB1; omega) (by rw [List.getElem?_append_left (by simp at hB1 ⊢; omega)]; simp at hB1; simp [← hB1])
        rw [Desc, List.pairwise_append] at hB
        have := last_le (x := z) hB.1 (Int.le_refl _) y hy
        omega
    have q2 : ∀ y ∈ B2, y.prio ≤ x.prio := by
      intro y hy
      rcases B2 with _ | ⟨z, S⟩
      · simp at hy
      · have hz := hhi z (by rw [← hB1]; simp)
        rw [Desc, List.pairwise_append] at hB
        rcases List.mem_cons.1 hy with rfl | hy
        · exact hz
        · exact Int.le_trans ((List.pairwise_cons.1 hB.2.1).1 y hy) hz
    have hst := St.front hB q1 q2
    refine loop_g (γ := List Ent × List Ent) (fun (S, T) s w' => s = [.int .i64 ((a + S.length : Nat) : Int)] ∧ B1 = S ++ T ∧ Only g w w' ∧ In entC g w' (L ++ S ++ [x] ++ T ++ B2 ++ R)) (fun (S, T) => T.length) ([], B1) ⟨rfl, rfl, ho, by simpa using hI1⟩ ?_
    rintro ⟨S, T⟩ s2 w2 next2 ⟨rfl, rfl, ho2, hI2⟩ hn2
    rcases T with _ | ⟨y, T⟩
    · have c2 : ¬ (((a + S.length : Nat) : Int) < ((m + i : Nat) : Int) - 1) := by simp at hB1; omega
      simp -dsimp (disch := first | omega | assumption | ((simp only [World.size_alloc, size_setRow, List.size_toArray, List.length_cons, List.length_nil, cells_agg, len_enc, cells_int, cells_bool, cells_slice, cells_ptr, cells_string]) <;> omega) | ((repeat (first | with_reducible exact Ext.refl _ | with_reducible assumption | with_reducible apply Ext.alloc | with_reducible apply Ext.drew | (with_reducible refine Ext.setRow ?_ (by (try simp only [World.size_alloc]); omega) _) | (with_reducible refine Ext.tr ?_ (by assumption)))); done) | fail) only [go_sem, jn_r, Nat.reduceAdd, Nat.reduceLeDiff, Nat.reduceMul, Int.reduceToNat, Nat.reduceEqDiff, Nat.reduceLT, Int.reduceBEq, Int.reduceBNe, Int.reduceLT, Int.reduceLE, Int.reduceAdd, Int.reduceSub, Int.reduceMul, Int.reduceDiv, Int.reduceMod, Int.reduceNeg, c2]
      exact ⟨⟨_, hst, by simpa using hI2⟩, ho2⟩
    · have hST : (S ++ y :: T).length = S.length + (T.length + 1) := by simp
      have c2 : (((a + S.length : Nat) : Int) < ((m + i : Nat) : Int) - 1) := by omega
      have x1 := mid_get (X := L ++ S ++ [x] ++ y :: T ++ B2 ++ R) (P := L ++ S ++ [x]) (x := y) (Q := T ++ B2 ++ R) (i := a + S.length + 1) (by simp) (by simp; omega)
      have x2 := mid_get (X := L ++ S ++ [x] ++ y :: T ++ B2 ++ R) (P := L ++ S) (x := x) (Q := y :: T ++ B2 ++ R) (i := a + S.length) (by simp) (by simp; omega)
      obtain ⟨cs, rest, hb0, hb1, hcs, s1, g1, s2, g2⟩ := hI2.two x1 x2
      have d1 : ((a + S.length : Nat) : Int) + 1 = ((a + S.length + 1 : Nat) : Int) := by omega
      have b0 : (0 : Int) ≤ ((a + S.length : Nat) : Int) := by omega
      have b1 : (0 : Int) ≤ ((a + S.length + 1 : Nat) : Int) := by omega
      have b2 : ((a + S.length : Nat) : Int) < (N : Int) := by omega
      have b3 : ((a + S.length + 1 : Nat) : Int) < (N : Int) := by omega
      simp -dsimp (disch := first | omega | assumption | ((simp only [World.size_alloc, size_setRow, List.size_toArray, List.length_cons, List.length_nil, cells_agg, len_enc, cells_int, cells_bool, cells_slice, cells_ptr, cells_string]) <;> omega) | ((repeat (first | with_reducible exact Ext.refl _ | with_reducible assumption | with_reducible apply Ext.alloc | with_reducible apply Ext.drew | (with_reducible refine Ext.setRow ?_ (by (try simp only [World.size_alloc]); omega) _) | (with_reducible refine Ext.tr ?_ (by assumption)))); done) | fail) only [go_sem, jn_r, Nat.reduceAdd, Nat.reduceLeDiff, Nat.reduceMul, Int.reduceToNat, Nat.reduceEqDiff, Nat.reduceLT, Int.reduceBEq, Int.reduceBNe, Int.reduceLT, Int.reduceLE, Int.reduceAdd, Int.reduceSub, Int.reduceMul, Int.reduceDiv, Int.reduceMod, Int.reduceNeg, c2, d1, b0, b1, b2, b3, hb0, hb1, s1, g1, s2, g2, Int.toNat_natCast]
      have h9 := In.swap (C := entC) (i := a + S.length) (j := a + S.length + 1) y x hb0 hcs (by simp; omega) (by simp; omega)
      rw [mid_set (P := L ++ S) (x := x) (Q := y :: T ++ B2 ++ R) y (by simp) (by simp; omega),
        mid_set (P := L ++ S ++ [y]) (x := y) (Q := T ++ B2 ++ R) x (by simp) (by simp; omega)] at h9
      exact hn2 (S ++ [y], T) [.int .i64 ((a + S.length + 1 : Nat) : Int)] _ ⟨by simp; omega, by simp, (ho2.setRow _).drew, by simpa using h9.drew⟩ (by simp)
/-- one element behind a run -/
theorem slices_symMergeCmpFunc_flow_Entry.c2 (L A R : List Ent) (x : Ent) (w : World) (g c N : Nat) (a m b : Nat) (ha : L.length = a) (hm : a + A.length = m) (hb : m + 1 = b) (h1 : 1 < A.length) (hA : Desc A) (hI : In entC g w (L ++ A ++ [x] ++ R)) (hN : (L ++ A ++ [x] ++ R).length = N) (hl : N ≤ 1000000) :
    Calls Try.prog slices_symMergeCmpFunc_flow_Entry.id #[.slice (some ⟨g, 0, none⟩) N c, .int .i64 a, .int .i64 m, .int .i64 b, .func (.func flow_New_1.id) #[] #[]] w (retP fun _ w' => (∃ M, St (A ++ [x]) M ∧ In entC g w' (L ++ M ++ R)) ∧ Only g w w') := by
  simp only [List.length_append, List.length_cons, List.length_nil] at hN
  apply slices_symMergeCmpFunc_flow_Entry.sound
  unfold slices_symMergeCmpFunc_flow_Entry.sh
  have e1 : ((m : Int) - (a : Int) == 1) = false := by simp; omega
  have e2 : (b : Int) - (m : Int) = 1 := by omega
  simp -dsimp (disch := first | omega | assumption | ((simp only [World.size_alloc, size_setRow, List.size_toArray, List.length_cons, List.length_nil, cells_agg, len_enc, cells_int, cells_bool, cells_slice, cells_ptr, cells_string]) <;> omega) | ((repeat (first | with_reducible exact Ext.refl _ | with_reducible assumption | with_reducible apply Ext.alloc | with_reducible apply Ext.drew | (with_reducible refine Ext.setRow ?_ (by (try simp only [World.size_alloc]); omega) _) | (with_reducible refine Ext.tr ?_ (by assumption)))); done) | fail) only [go_sem, jn_r, Nat.reduceAdd, Nat.reduceLeDiff, Nat.reduceMul, Int.reduceToNat, Nat.reduceEqDiff, Nat.reduceLT, Int.reduceBEq, Int.reduceBNe, Int.reduceLT, Int.reduceLE, Int.reduceAdd, Int.reduceSub, Int.reduceMul, Int.reduceDiv, Int.reduceMod, Int.reduceNeg, e1, e2]
  refine loop_g (γ := Nat × Nat) (fun (i, j) s w' => s = [.int .i64 ((a + i : Nat) : Int), .int .i64 ((a + j : Nat) : Int)] ∧ i ≤ j ∧ j ≤ A.length ∧ Only g w w' ∧ In entC g w' (L ++ A ++ [x] ++ R) ∧ (∀ y, 0 < i → A[i - 1]? = some y → x.prio ≤ y.prio) ∧ (∀ y, A[j]? = some y → y.prio < x.prio)) (fun (i, j) => j - i) (0, A.length) ⟨by rw [hm]; rfl, Nat.zero_le _, Nat.le_refl _, .refl _ _, hI, fun y h => absurd h (by omega), fun y h => by simp at h⟩ ?_
  rintro ⟨i, j⟩ s w1 next ⟨rfl, hij, hj, ho, hI1, hlo, hhi⟩ hn
  by_cases hc : i < j
  · have c1 : ((a + i : Nat) : Int) < ((a + j : Nat) : Int) := by omega
    have hu := mid_u (a + i) (a + j) (by omega)
    have hh : ∃ h, (a + i + (a + j)) / 2 = a + h ∧ i ≤ h ∧ h < j := ⟨(a + i + (a + j)) / 2 - a, by omega, by omega, by omega⟩
    obtain ⟨h, hh1, hh2, hh3⟩ := hh
    rw [hh1] at hu
    obtain ⟨y, hy⟩ : ∃ y, A[h]? = some y := ⟨_, List.getElem?_eq_getElem (by omega)⟩
    have x1 : (L ++ A ++ [x] ++ R)[a + h]? = some y := by
      rw [List.append_assoc, List.getElem?_append_left (by simp; omega), List.getElem?_append_right (by omega)]
      rw [← hy]
      congr 1
      omega
    have x2 : (L ++ A ++ [x] ++ R)[m]? = some x := mid_get (P := L ++ A) (Q := R) (by simp) (by simp; omega)
    obtain ⟨cs, rest, hb0, hb1, hcs, s1, g1, s2, g2⟩ := hI1.two x1 x2
    have b0 : (0 : Int) ≤ ((a + h : Nat) : Int) := by omega
    have b1 : (0 : Int) ≤ (m : Int) := by omega
    have b2 : ((a + h : Nat) : Int) < (N : Int) := by omega
    have b3 : (m : Int) < (N : Int) := by omega
    simp -dsimp (disch := first | omega | assumption | ((simp only [World.size_alloc, size_setRow, List.size_toArray, List.length_cons, List.length_nil, cells_agg, len_enc, cells_int, cells_bool, cells_slice, cells_ptr, cells_string]) <;> omega) | ((repeat (first | with_reducible exact Ext.refl _ | with_reducible assumption | with_reducible apply Ext.alloc | with_reducible apply Ext.drew | (with_reducible refine Ext.setRow ?_ (by (try simp only [World.size_alloc]); omega) _) | (with_reducible refine Ext.tr ?_ (by assumption)))); done) | fail) only [go_sem, jn_r, Nat.reduceAdd, Nat.reduceLeDiff, Nat.reduceMul, Int.reduceToNat, Nat.reduceEqDiff, Nat.reduceLT, Int.reduceBEq, Int.reduceBNe, Int.reduceLT, Int.reduceLE, Int.reduceAdd, Int.reduceSub, Int.reduceMul, Int.reduceDiv, Int.reduceMod, Int.reduceNeg, c1, hu, b0, b1, b2, b3, hb0, hb1, s1, g1, s2, g2, Int.toNat_natCast]
    refine vcM (by kernel_rfl) (by simp [entC_v]) (flow_New_1.c x y _) ?_
    rintro _ w3 ⟨⟨n, rfl, hn0⟩, hx3⟩
    have hx3 := hx3.ofDrew
    have f1 : ((a + h : Nat) : Int) + 1 = ((a + (h + 1) : Nat) : Int) := by omega
    simp -dsimp (disch := first | omega | assumption | ((simp only [World.size_alloc, size_setRow, List.size_toArray, List.length_cons, List.length_nil, cells_agg, len_enc, cells_int, cells_bool, cells_slice, cells_ptr, cells_string]) <;> omega) | ((repeat (first | with_reducible exact Ext.refl _ | with_reducible assumption | with_reducible apply Ext.alloc | with_reducible apply Ext.drew | (with_reducible refine Ext.setRow ?_ (by (try simp only [World.size_alloc]); omega) _) | (with_reducible refine Ext.tr ?_ (by assumption)))); done) | fail) only [go_sem, jn_r, Nat.reduceAdd, Nat.reduceLeDiff, Nat.reduceMul, Int.reduceToNat, Nat.reduceEqDiff, Nat.reduceLT, Int.reduceBEq, Int.reduceBNe, Int.reduceLT, Int.reduceLE, Int.reduceAdd, Int.reduceSub, Int.reduceMul, Int.reduceDiv, Int.reduceMod, Int.reduceNeg, hu]
    refine cnd_i (fun hd => ?_) (fun hd => ?_)
    · simp at hd
      simp -dsimp (disch := first | omega | assumption | ((simp only [World.size_alloc, size_setRow, List.size_toArray, List.length_cons, List.length_nil, cells_agg, len_enc, cells_int, cells_bool, cells_slice, cells_ptr, cells_string]) <;> omega) | ((repeat (first | with_reducible exact Ext.refl _ | with_reducible assumption | with_reducible apply Ext.alloc | with_reducible apply Ext.drew | (with_reducible refine Ext.setRow ?_ (by (try simp only [World.size_alloc]); omega) _) | (with_reducible refine Ext.tr ?_ (by assumption)))); done) | fail) only [go_sem, jn_r, Nat.reduceAdd, Nat.reduceLeDiff, Nat.reduceMul, Int.reduceToNat, Nat.reduceEqDiff, Nat.reduceLT, Int.reduceBEq, Int.reduceBNe, Int.reduceLT, Int.reduceLE, Int.reduceAdd, Int.reduceSub, Int.reduceMul, Int.reduceDiv, Int.reduceMod, Int.reduceNeg, hu, f1]
      exact hn (h + 1, j) [.int .i64 ((a + (h + 1) : Nat) : Int), .int .i64 ((a + j : Nat) : Int)] _ ⟨rfl, by omega, hj, ho.ext hx3, hI1.ext hx3, fun z _ hz => by
        rw [Nat.add_sub_cancel, hy] at hz; cases hz; have := mt hn0.2; omega, hhi⟩ (by simp; omega)
    · simp at hd
      simp -dsimp (disch := first | omega | assumption | ((simp only [World.size_alloc, size_setRow, List.size_toArray, List.length_cons, List.length_nil, cells_agg, len_enc, cells_int, cells_bool, cells_slice, cells_ptr, cells_string]) <;> omega) | ((repeat (first | with_reducible exact Ext.refl _ | with_reducible assumption | with_reducible apply Ext.alloc | with_reducible apply Ext.drew | (with_reducible refine Ext.setRow ?_ (by (try simp only [World.size_alloc]); omega) _) | (with_reducible refine Ext.tr ?_ (by assumption)))); done) | fail) only [go_sem, jn_r, Nat.reduceAdd, Nat.reduceLeDiff, Nat.reduceMul, Int.reduceToNat, Nat.reduceEqDiff, Nat.reduceLT, Int.reduceBEq, Int.reduceBNe, Int.reduceLT, Int.reduceLE, Int.reduceAdd, Int.reduceSub, Int.reduceMul, Int.reduceDiv, Int.reduceMod, Int.reduceNeg, hu]
      exact hn (i, h) [.int .i64 ((a + i : Nat) : Int), .int .i64 ((a + h : Nat) : Int)] _ ⟨rfl, by omega, by omega, ho.ext hx3, hI1.ext hx3, hlo, fun z hz => by
        rw [hy] at hz; cases hz; exact hn0.1 hd⟩ (by simp; omega)
  · have : i = j := by omega
    subst this
    have c1 : ¬ ((a + i : Nat) : Int) < ((a + i : Nat) : Int) := by omega
    simp -dsimp (disch := first | omega | assumption | ((simp only [World.size_alloc, size_setRow, List.size_toArray, List.length_cons, List.length_nil, cells_agg, len_enc, cells_int, cells_bool, cells_slice, cells_ptr, cells_string]) <;> omega) | ((repeat (first | with_reducible exact Ext.refl _ | with_reducible assumption | with_reducible apply Ext.alloc | with_reducible apply Ext.drew | (with_reducible refine Ext.setRow ?_ (by (try simp only [World.size_alloc]); omega) _) | (with_reducible refine Ext.tr ?_ (by assumption)))); done) | fail) only [go_sem, jn_r, Nat.reduceAdd, Nat.reduceLeDiff, Nat.reduceMul, Int.reduceToNat, Nat.reduceEqDiff, Nat.reduceLT, Int.reduceBEq, Int.reduceBNe, Int.reduceLT, Int.reduceLE, Int.reduceAdd, Int.reduceSub, Int.reduceMul, Int.reduceDiv, Int.reduceMod, Int.reduceNeg, c1]
    obtain ⟨A1, A2, rfl, hA1⟩ : ∃ A1 A2, A = A1 ++ A2 ∧ A1.length = i := ⟨A.take i, A.drop i, by simp, by simp; omega⟩
    have hAA : (A1 ++ A2).length = A1.length + A2.length := List.length_append
    have q1 : ∀ y ∈ A1, x.prio ≤ y.prio := by
      intro y hy
      rcases snoc_cases A1 with rfl | ⟨S, z, rfl⟩
      · simp at hy
      · have hz := hlo z (by simp at hA1; omega) (by rw [List.getElem?_append_left (by simp at hA1 ⊢; omega)]; simp at hA1; simp [← hA1])
        rw [Desc, List.pairwise_append] at hA
        exact last_le hA.1 hz y hy
    have q2 : ∀ y ∈ A2, y.prio < x.prio := by
      intro y hy
      rcases A2 with _ | ⟨z, S⟩
      · simp at hy
      · have hz := hhi z (by rw [← hA1]; simp)
        rw [Desc, List.pairwise_append] at hA
        rcases List.mem_cons.1 hy with rfl | hy
        · exact hz
        · have := (List.pairwise_cons.1 hA.2.1).1 y hy; omega
    have hst := St.ins (St.self hA) q2 q1
    refine loop_g (γ := List Ent × List Ent) (fun (S, T) s w' => s = [.int .i64 ((a + A1.length + S.length : Nat) : Int)] ∧ A2 = S ++ T ∧ Only g w w' ∧ In entC g w' (L ++ A1 ++ S ++ [x] ++ T ++ R)) (fun (S, T) => S.length) (A2, []) ⟨by rw [← hm, hAA, Nat.add_assoc], by simp, ho, by simpa using hI1⟩ ?_
    rintro ⟨S, T⟩ s2 w2 next2 ⟨rfl, rfl, ho2, hI2⟩ hn2
    rcases snoc_cases S with rfl | ⟨S, y, rfl⟩
    · have c2 : ¬ (((a + i : Nat) : Int) < ((a + A1.length : Nat) : Int)) := by omega
      simp -dsimp (disch := first | omega | assumption | ((simp only [World.size_alloc, size_setRow, List.size_toArray, List.length_cons, List.length_nil, cells_agg, len_enc, cells_int, cells_bool, cells_slice, cells_ptr, cells_string]) <;> omega) | ((repeat (first | with_reducible exact Ext.refl _ | with_reducible assumption | with_reducible apply Ext.alloc | with_reducible apply Ext.drew | (with_reducible refine Ext.setRow ?_ (by (try simp only [World.size_alloc]); omega) _) | (with_reducible refine Ext.tr ?_ (by assumption)))); done) | fail) only [go_sem, jn_r, Nat.reduceAdd, Nat.reduceLeDiff, Nat.reduceMul, Int.reduceToNat, Nat.reduceEqDiff, Nat.reduceLT, Int.reduceBEq, Int.reduceBNe, Int.reduceLT, Int.reduceLE, Int.reduceAdd, Int.reduceSub, Int.reduceMul, Int.reduceDiv, Int.reduceMod, Int.reduceNeg, c2]
      exact ⟨⟨_, hst, by simpa using hI2⟩, ho2⟩
    · have hSy : (S ++ [y]).length = S.length + 1 := by simp
      have hST : (S ++ [y] ++ T).length = (S ++ [y]).length + T.length := List.length_append
      have c2 : (((a + i : Nat) : Int) < ((a + A1.length + (S ++ [y]).length : Nat) : Int)) := by omega
      have x1 := mid_get (X := L ++ A1 ++ (S ++ [y]) ++ [x] ++ T ++ R) (P := L ++ A1 ++ S) (x := y) (Q := x :: T ++ R) (i := a + A1.length + S.length) (by simp) (by simp; omega)
      have x2 := mid_get (X := L ++ A1 ++ (S ++ [y]) ++ [x] ++ T ++ R) (P := L ++ A1 ++ (S ++ [y])) (x := x) (Q := T ++ R) (i := a + A1.length + (S ++ [y]).length) (by simp) (by simp; omega)
      obtain ⟨cs, rest, hb0, hb1, hcs, s1, g1, s2, g2⟩ := hI2.two x1 x2
      have d1 : ((a + A1.length + (S ++ [y]).length : Nat) : Int) - 1 = ((a + A1.length + S.length : Nat) : Int) := by omega
      have b0 : (0 : Int) ≤ ((a + A1.length + S.length : Nat) : Int) := by omega
      have b1 : (0 : Int) ≤ ((a + A1.length + (S ++ [y]).length : Nat) : Int) := by omega
      have b2 : ((a + A1.length + S.length : Nat) : Int) < (N : Int) := by omega
      have b3 : ((a + A1.length + (S ++ [y]).length : Nat) : Int) < (N : Int) := by omega
      simp -dsimp (disch := first | omega | assumption | ((simp only [World.size_alloc, size_setRow, List.size_toArray, List.length_cons, List.length_nil, cells_agg, len_enc, cells_int, cells_bool, cells_slice, cells_ptr, cells_string]) <;> omega) | ((repeat (first | with_reducible exact Ext.refl _ | with_reducible assumption | with_reducible apply Ext.alloc | with_reducible apply Ext.drew | (with_reducible refine Ext.setRow ?_ (by (try simp only [World.size_alloc]); omega) _) | (with_reducible refine Ext.tr ?_ (by assumption)))); done) | fail) only [go_sem, jn_r, Nat.reduceAdd, Nat.reduceLeDiff, Nat.reduceMul, Int.reduceToNat, Nat.reduceEqDiff, Nat.reduceLT, Int.reduceBEq, Int.reduceBNe, Int.reduceLT, Int.reduceLE, Int.reduceAdd, Int.reduceSub, Int.reduceMul, Int.reduceDiv, Int.reduceMod, Int.reduceNeg, c2, d1, b0, b1, b2, b3, hb0, hb1, s1, g1, s2, g2, Int.toNat_natCast]
      have h9 := In.swap (C := entC) (i := a + A1.length + (S ++ [y]).length) (j := a + A1.length + S.length) y x hb0 hcs (by simp; omega) (by simp; omega)
      rw [mid_set (P := L ++ A1 ++ (S ++ [y])) (x := x) (Q := T ++ R) y (by simp) (by simp; omega),
        mid_set (P := L ++ A1 ++ S) (x := y) (Q := y :: T ++ R) x (by simp) (by simp; omega)] at h9
      exact hn2 (S, y :: T) [.int .i64 ((a + A1.length + S.length : Nat) : Int)] _ ⟨rfl, by simp, (ho2.setRow _).drew, by simpa using h9.drew⟩ (by simp)
theorem slices_symMergeCmpFunc_flow_Entry.c (g c N : Nat) (hl : N ≤ 1000000) : ∀ (n : Nat) (L A B R : List Ent) (w : World) (a m b : Nat) (_ : A.length + B.length ≤ n) (ha : L.length = a) (hm : a + A.length = m) (hb : m + B.length = b) (h0 : 0 < A.length) (h1 : 0 < B.length) (hA : Desc A) (hB : Desc B) (hI : In entC g w (L ++ A ++ B ++ R)) (hN : (L ++ A ++ B ++ R).length = N),
    Calls Try.prog slices_symMergeCmpFunc_flow_Entry.id #[.slice (some ⟨g, 0, none⟩) N c, .int .i64 a, .int .i64 m, .int .i64 b, .func (.func flow_New_1.id) #[] #[]] w (retP fun _ w' => (∃ M, St (A ++ B) M ∧ In entC g w' (L ++ M ++ R)) ∧ Only g w w') := by
  intro n
  induction n with
  | zero => intros; omega
  | succ n ih =>
  intro L A B R w a m b hn0 ha hm hb h0 h1 hA hB hI hN
  by_cases hA1 : A.length = 1
  · obtain ⟨x, rfl⟩ := List.length_eq_one_iff.1 hA1
    exact slices_symMergeCmpFunc_flow_Entry.c1 L B R x w g c N a m b ha hm hb hB hI hN hl
  by_cases hB1 : B.length = 1
  · obtain ⟨x, rfl⟩ := List.length_eq_one_iff.1 hB1
    exact slices_symMergeCmpFunc_flow_Entry.c2 L A R x w g c N a m b ha hm hb (by omega) hA hI hN hl
  simp only [List.length_append] at hN
  apply slices_symMergeCmpFunc_flow_Entry.sound
  unfold slices_symMergeCmpFunc_flow_Entry.sh
  have e1 : ((m : Int) - (a : Int) == 1) = false := by simp; omega
  have e2 : ((b : Int) - (m : Int) == 1) = false := by simp; omega
  have hu := mid_u a b (by omega)
  obtain ⟨mid, hmid⟩ : ∃ mid, (a + b) / 2 = mid := ⟨_, rfl⟩
  rw [hmid] at hu
  have q0 : (mid : Int) + (m : Int) = ((mid + m : Nat) : Int) := by omega
  simp -dsimp (disch := first | omega | assumption | ((simp only [World.size_alloc, size_setRow, List.size_toArray, List.length_cons, List.length_nil, cells_agg, len_enc, cells_int, cells_bool, cells_slice, cells_ptr, cells_string]) <;> omega) | ((repeat (first | with_reducible exact Ext.refl _ | with_reducible assumption | with_reducible apply Ext.alloc | with_reducible apply Ext.drew | (with_reducible refine Ext.setRow ?_ (by (try simp only [World.size_alloc]); omega) _) | (with_reducible refine Ext.tr ?_ (by assumption)))); done) | fail) only [go_sem, Nat.reduceAdd, Nat.reduceLeDiff, Nat.reduceMul, Int.reduceToNat, Nat.reduceEqDiff, Nat.reduceLT, Int.reduceBEq, Int.reduceBNe, Int.reduceLT, Int.reduceLE, Int.reduceAdd, Int.reduceSub, Int.reduceMul, Int.reduceDiv, Int.reduceMod, Int.reduceNeg, e1, e2, hu, q0]
  refine jn_e (fun s w' => w' = w ∧ ∃ s0 r0, s = [.int .i64 ((s0 : Nat) : Int), .int .i64 ((r0 : Nat) : Int)] ∧ a ≤ s0 ∧ s0 ≤ r0 ∧ r0 ≤ m ∧ r0 ≤ mid ∧ mid + m ≤ s0 + b ∧ (s0 = a ∨ mid + m = s0 + b) ∧ (r0 = m ∨ r0 = mid)) ?_ ?_
  · rintro _ w0 ⟨hw, s0, r0, rfl, k1, k2, k3, k4, k5, k6, k7⟩
    subst hw
    have q1 : ((mid + m : Nat) : Int) - 1 = ((mid + m - 1 : Nat) : Int) := by omega
    simp -dsimp (disch := first | omega | assumption | ((simp only [World.size_alloc, size_setRow, List.size_toArray, List.length_cons, List.length_nil, cells_agg, len_enc, cells_int, cells_bool, cells_slice, cells_ptr, cells_string]) <;> omega) | ((repeat (first | with_reducible exact Ext.refl _ | with_reducible assumption | with_reducible apply Ext.alloc | with_reducible apply Ext.drew | (with_reducible refine Ext.setRow ?_ (by (try simp only [World.size_alloc]); omega) _) | (with_reducible refine Ext.tr ?_ (by assumption)))); done) | fail) only [go_sem, Nat.reduceAdd, Nat.reduceLeDiff, Nat.reduceMul, Int.reduceToNat, Nat.reduceEqDiff, Nat.reduceLT, Int.reduceBEq, Int.reduceBNe, Int.reduceLT, Int.reduceLE, Int.reduceAdd, Int.reduceSub, Int.reduceMul, Int.reduceDiv, Int.reduceMod, Int.reduceNeg, q1, q0]
    refine loop_g (γ := Nat × Nat) (fun (i, j) s w' => s = [.int .i64 (i : Int), .int .i64 (j : Int)] ∧ s0 ≤ i ∧ i ≤ j ∧ j ≤ r0 ∧ Only g w0 w' ∧ In entC g w' (L ++ A ++ B ++ R) ∧ (∀ x y, s0 < i → A[i - 1 - a]? = some x → B[mid - i]? = some y → y.prio ≤ x.prio) ∧ (∀ x y, j < r0 → A[j - a]? = some x → B[mid - 1 - j]? = some y → x.prio < y.prio)) (fun (i, j) => j - i) (s0, r0) ⟨rfl, Nat.le_refl _, k2, Nat.le_refl _, .refl _ _, hI, fun x y h => absurd h (by omega), fun x y h => absurd h (by omega)⟩ ?_
    rintro ⟨i, j⟩ s w1 next ⟨rfl, hs0, hij, hj, ho, hI1, hlo, hhi⟩ hn
    by_cases hc : i < j
    · have c1 : (i : Int) < (j : Int) := by omega
      have hu2 := mid_u i j (by omega)
      obtain ⟨h, hh⟩ : ∃ h, (i + j) / 2 = h := ⟨_, rfl⟩
      have hh2 : i ≤ h := by omega
      have hh3 : h < j := by omega
      rw [hh] at hu2
      obtain ⟨x, hx⟩ : ∃ x, A[h - a]? = some x := ⟨_, List.getElem?_eq_getElem (by omega)⟩
      obtain ⟨y, hy⟩ : ∃ y, B[mid - 1 - h]? = some y := ⟨_, List.getElem?_eq_getElem (by omega)⟩
      have x1 : (L ++ A ++ B ++ R)[h]? = some x := by
        rw [List.append_assoc, List.getElem?_append_left (by simp; omega), List.getElem?_append_right (by omega), ha]
        exact hx
      have x2 : (L ++ A ++ B ++ R)[mid + m - 1 - h]? = some y := by
        rw [List.getElem?_append_left (by simp; omega), List.getElem?_append_right (by simp; omega), ← hy]
        congr 1
        simp
        omega
      obtain ⟨cs, rest, hb0, hb1, hcs, s1, g1, s2, g2⟩ := hI1.two x1 x2
      have d1 : ((mid + m - 1 : Nat) : Int) - (h : Int) = ((mid + m - 1 - h : Nat) : Int) := by omega
      have b0 : (0 : Int) ≤ (h : Int) := by omega
      have b1 : (0 : Int) ≤ ((mid + m - 1 - h : Nat) : Int) := by omega
      have b2 : (h : Int) < (N : Int) := by omega
      have b3 : ((mid + m - 1 - h : Nat) : Int) < (N : Int) := by omega
      simp -dsimp (disch := first | omega | assumption | ((simp only [World.size_alloc, size_setRow, List.size_toArray, List.length_cons, List.length_nil, cells_agg, len_enc, cells_int, cells_bool, cells_slice, cells_ptr, cells_string]) <;> omega) | ((repeat (first | with_reducible exact Ext.refl _ | with_reducible assumption | with_reducible apply Ext.alloc | with_reducible apply Ext.drew | (with_reducible refine Ext.setRow ?_ (by (try simp only [World.size_alloc]); omega) _) | (with_reducible refine Ext.tr ?_ (by assumption)))); done) | fail) only [go_sem, Nat.reduceAdd, Nat.reduceLeDiff, Nat.reduceMul, Int.reduceToNat, Nat.reduceEqDiff, Nat.reduceLT, Int.reduceBEq, Int.reduceBNe, Int.reduceLT, Int.reduceLE, Int.reduceAdd, Int.reduceSub, Int.reduceMul, Int.reduceDiv, Int.reduceMod, Int.reduceNeg, c1, hu2, q1, d1, b0, b1, b2, b3, hb0, hb1, s1, g1, s2, g2, Int.toNat_natCast]
      refine vcM (by kernel_rfl) (by simp [entC_v]) (flow_New_1.c y x _) ?_
      rintro _ w3 ⟨⟨n1, rfl, hn0⟩, hx3⟩
      have hx3 := hx3.ofDrew
      have f1 : (h : Int) + 1 = ((h + 1 : Nat) : Int) := by omega
      simp -dsimp (disch := first | omega | assumption | ((simp only [World.size_alloc, size_setRow, List.size_toArray, List.length_cons, List.length_nil, cells_agg, len_enc, cells_int, cells_bool, cells_slice, cells_ptr, cells_string]) <;> omega) | ((repeat (first | with_reducible exact Ext.refl _ | with_reducible assumption | with_reducible apply Ext.alloc | with_reducible apply Ext.drew | (with_reducible refine Ext.setRow ?_ (by (try simp only [World.size_alloc]); omega) _) | (with_reducible refine Ext.tr ?_ (by assumption)))); done) | fail) only [go_sem, Nat.reduceAdd, Nat.reduceLeDiff, Nat.reduceMul, Int.reduceToNat, Nat.reduceEqDiff, Nat.reduceLT, Int.reduceBEq, Int.reduceBNe, Int.reduceLT, Int.reduceLE, Int.reduceAdd, Int.reduceSub, Int.reduceMul, Int.reduceDiv, Int.reduceMod, Int.reduceNeg, hu2]
      refine cnd_i (fun hd => ?_) (fun hd => ?_)
      · simp at hd
        simp -dsimp (disch := first | omega | assumption | ((simp only [World.size_alloc, size_setRow, List.size_toArray, List.length_cons, List.length_nil, cells_agg, len_enc, cells_int, cells_bool, cells_slice, cells_ptr, cells_string]) <;> omega) | ((repeat (first | with_reducible exact Ext.refl _ | with_reducible assumption | with_reducible apply Ext.alloc | with_reducible apply Ext.drew | (with_reducible refine Ext.setRow ?_ (by (try simp only [World.size_alloc]); omega) _) | (with_reducible refine Ext.tr ?_ (by assumption)))); done) | fail) only [go_sem, Nat.reduceAdd, Nat.reduceLeDiff, Nat.reduceMul, Int.reduceToNat, Nat.reduceEqDiff, Nat.reduceLT, Int.reduceBEq, Int.reduceBNe, Int.reduceLT, Int.reduceLE, Int.reduceAdd, Int.reduceSub, Int.reduceMul, Int.reduceDiv, Int.reduceMod, Int.reduceNeg, hu2, f1]
        exact hn (h + 1, j) [.int .i64 ((h + 1 : Nat) : Int), .int .i64 (j : Int)] _ ⟨rfl, by omega, by omega, hj, ho.ext hx3, hI1.ext hx3, fun x' y' _ hx' hy' => by
          rw [Nat.add_sub_cancel, hx] at hx'; cases hx'
          rw [show mid - (h + 1) = mid - 1 - h by omega, hy] at hy'; cases hy'
          have := mt hn0.2; omega, hhi⟩ (by simp; omega)
      · simp at hd
        simp -dsimp (disch := first | omega | assumption | ((simp only [World.size_alloc, size_setRow, List.size_toArray, List.length_cons, List.length_nil, cells_agg, len_enc, cells_int, cells_bool, cells_slice, cells_ptr, cells_string]) <;> omega) | ((repeat (first | with_reducible exact Ext.refl _ | with_reducible assumption | with_reducible apply Ext.alloc | with_reducible apply Ext.drew | (with_reducible refine Ext.setRow ?_ (by (try simp only [World.size_alloc]); omega) _) | (with_reducible refine Ext.tr ?_ (by assumption)))); done) | fail) only [go_sem, Nat.reduceAdd, Nat.reduceLeDiff, Nat.reduceMul, Int.reduceToNat, Nat.reduceEqDiff, Nat.reduceLT, Int.reduceBEq, Int.reduceBNe, Int.reduceLT, Int.reduceLE, Int.reduceAdd, Int.reduceSub, Int.reduceMul, Int.reduceDiv, Int.reduceMod, Int.reduceNeg, hu2]
        exact hn (i, h) [.int .i64 (i : Int), .int .i64 (h : Int)] _ ⟨rfl, hs0, by omega, by omega, ho.ext hx3, hI1.ext hx3, hlo, fun x' y' _ hx' hy' => by
          rw [hx] at hx'; cases hx'
          rw [hy] at hy'; cases hy'
          exact hn0.1 hd⟩ (by simp; omega)
    · have : i = j := by omega
      subst this
      have c1 : ¬ (i : Int) < (i : Int) := by omega
      have q2 : ((mid + m : Nat) : Int) - (i : Int) = ((mid + m - i : Nat) : Int) := by omega
      simp -dsimp (disch := first | omega | assumption | ((simp only [World.size_alloc, size_setRow, List.size_toArray, List.length_cons, List.length_nil, cells_agg, len_enc, cells_int, cells_bool, cells_slice, cells_ptr, cells_string]) <;> omega) | ((repeat (first | with_reducible exact Ext.refl _ | with_reducible assumption | with_reducible apply Ext.alloc | with_reducible apply Ext.drew | (with_reducible refine Ext.setRow ?_ (by (try simp only [World.size_alloc]); omega) _) | (with_reducible refine Ext.tr ?_ (by assumption)))); done) | fail) only [go_sem, Nat.reduceAdd, Nat.reduceLeDiff, Nat.reduceMul, Int.reduceToNat, Nat.reduceEqDiff, Nat.reduceLT, Int.reduceBEq, Int.reduceBNe, Int.reduceLT, Int.reduceLE, Int.reduceAdd, Int.reduceSub, Int.reduceMul, Int.reduceDiv, Int.reduceMod, Int.reduceNeg, c1, q0, q2]
      obtain ⟨A1, A2, rfl, hA1l⟩ : ∃ A1 A2, A = A1 ++ A2 ∧ A1.length = i - a := ⟨A.take (i - a), A.drop (i - a), by simp, by simp; omega⟩
      obtain ⟨B1, B2, rfl, hB1l⟩ : ∃ B1 B2, B = B1 ++ B2 ∧ B1.length = mid - i := ⟨B.take (mid - i), B.drop (mid - i), by simp, by simp; omega⟩
      have hAA : (A1 ++ A2).length = A1.length + A2.length := List.length_append
      have hBB : (B1 ++ B2).length = B1.length + B2.length := List.length_append
      have hA' := hA
      have hB' := hB
      rw [Desc, List.pairwise_append] at hA' hB'
      have hs : ∀ x ∈ A2, ∀ y ∈ B1, x.prio < y.prio := by
        intro x hx y hy
        rcases A2 with _ | ⟨x0, A2⟩
        · simp at hx
        rcases snoc_cases B1 with rfl | ⟨B0, y0, rfl⟩
        · simp at hy
        have u1 : (x0 :: A2).length = A2.length + 1 := List.length_cons
        have u2 : (B0 ++ [y0]).length = B0.length + 1 := by simp
        have h5 := hhi x0 y0 (by omega) (by rw [← hA1l]; simp) (by rw [List.getElem?_append_left (by simp; omega), List.getElem?_append_right (by omega), show mid - 1 - i - B0.length = 0 by omega]; rfl)
        have h6 : x.prio ≤ x0.prio := by
          rcases List.mem_cons.1 hx with rfl | hx
          · exact Int.le_refl _
          · exact (List.pairwise_cons.1 hA'.2.1).1 x hx
        have h7 := last_le (x := y0) hB'.1 (Int.le_refl _) y hy
        omega
      have hw : ∀ x ∈ A1, ∀ y ∈ B2, y.prio ≤ x.prio := by
        intro x hx y hy
        rcases B2 with _ | ⟨y0, B2⟩
        · simp at hy
        rcases snoc_cases A1 with rfl | ⟨A0, x0, rfl⟩
        · simp at hx
        have u1 : (y0 :: B2).length = B2.length + 1 := List.length_cons
        have u2 : (A0 ++ [x0]).length = A0.length + 1 := by simp
        have h5 := hlo x0 y0 (by omega) (by rw [List.getElem?_append_left (by simp; omega), List.getElem?_append_right (by omega), show i - 1 - a - A0.length = 0 by omega]; rfl) (by rw [← hB1l]; simp)
        have h6 : y.prio ≤ y0.prio := by
          rcases List.mem_cons.1 hy with rfl | hy
          · exact Int.le_refl _
          · exact (List.pairwise_cons.1 hB'.2.1).1 y hy
        have h7 := last_le (x := x0) hA'.1 (Int.le_refl _) x hx
        omega
      refine jn_e (fun _ w' => Only g w0 w' ∧ In entC g w' (L ++ A1 ++ B1 ++ A2 ++ B2 ++ R)) ?_ ?_
      · rintro _ w2 ⟨ho2, hI2⟩
        refine jn_e (fun _ w' => Only g w0 w' ∧ ∃ M1, St (A1 ++ B1) M1 ∧ In entC g w' (L ++ M1 ++ A2 ++ B2 ++ R)) ?_ ?_
        · rintro _ w3 ⟨ho3, M1, hM1, hI3⟩
          have hM1l := hM1.len
          simp only [List.length_append] at hM1l
          by_cases hc2 : mid < mid + m - i ∧ mid + m - i < b
          · have d1 : (mid : Int) < ((mid + m - i : Nat) : Int) := by omega
            have d2 : ((mid + m - i : Nat) : Int) < (b : Int) := by omega
            simp -dsimp (disch := first | omega | assumption | ((simp only [World.size_alloc, size_setRow, List.size_toArray, List.length_cons, List.length_nil, cells_agg, len_enc, cells_int, cells_bool, cells_slice, cells_ptr, cells_string]) <;> omega) | ((repeat (first | with_reducible exact Ext.refl _ | with_reducible assumption | with_reducible apply Ext.alloc | with_reducible apply Ext.drew | (with_reducible refine Ext.setRow ?_ (by (try simp only [World.size_alloc]); omega) _) | (with_reducible refine Ext.tr ?_ (by assumption)))); done) | fail) only [go_sem, Nat.reduceAdd, Nat.reduceLeDiff, Nat.reduceMul, Int.reduceToNat, Nat.reduceEqDiff, Nat.reduceLT, Int.reduceBEq, Int.reduceBNe, Int.reduceLT, Int.reduceLE, Int.reduceAdd, Int.reduceSub, Int.reduceMul, Int.reduceDiv, Int.reduceMod, Int.reduceNeg, d1, d2, q2, hu, q0]
            refine callM (ih (L ++ M1) A2 B2 R w3 mid (mid + m - i) b (by omega) (by simp; omega) (by omega) (by omega) (by omega) (by omega) hA'.2.1 hB'.2.1 (by simpa using hI3) (by simp; omega)) ?_
            rintro _ w4 ⟨⟨M2, hM2, hI4⟩, ho4⟩
            exact ⟨⟨M1 ++ M2, St.join hA hB hs hw hM1 hM2, by simpa using hI4⟩, ho3.tr ho4⟩
          · have hM2 : St (A2 ++ B2) (A2 ++ B2) := St.self (by
              rcases A2 with _ | ⟨_, _⟩
              · exact hB'.2.1
              rcases B2 with _ | ⟨_, _⟩
              · simpa using hA'.2.1
              simp only [List.length_cons] at hAA hBB
              omega)
            have fin : (∃ M, St (A1 ++ A2 ++ (B1 ++ B2)) M ∧ In entC g w3 (L ++ M ++ R)) ∧ Only g w0 w3 := ⟨⟨M1 ++ (A2 ++ B2), St.join hA hB hs hw hM1 hM2, by simpa using hI3⟩, ho3⟩
            by_cases d1 : (mid : Int) < ((mid + m - i : Nat) : Int)
            · have d2 : ¬ ((mid + m - i : Nat) : Int) < (b : Int) := by omega
              simp -dsimp (disch := first | omega | assumption | ((simp only [World.size_alloc, size_setRow, List.size_toArray, List.length_cons, List.length_nil, cells_agg, len_enc, cells_int, cells_bool, cells_slice, cells_ptr, cells_string]) <;> omega) | ((repeat (first | with_reducible exact Ext.refl _ | with_reducible assumption | with_reducible apply Ext.alloc | with_reducible apply Ext.drew | (with_reducible refine Ext.setRow ?_ (by (try simp only [World.size_alloc]); omega) _) | (with_reducible refine Ext.tr ?_ (by assumption)))); done) | fail) only [go_sem, Nat.reduceAdd, Nat.reduceLeDiff, Nat.reduceMul, Int.reduceToNat, Nat.reduceEqDiff, Nat.reduceLT, Int.reduceBEq, Int.reduceBNe, Int.reduceLT, Int.reduceLE, Int.reduceAdd, Int.reduceSub, Int.reduceMul, Int.reduceDiv, Int.reduceMod, Int.reduceNeg, d1, d2, q2, hu, q0]
              exact fin
            · simp -dsimp (disch := first | omega | assumption | ((simp only [World.size_alloc, size_setRow, List.size_toArray, List.length_cons, List.length_nil, cells_agg, len_enc, cells_int, cells_bool, cells_slice, cells_ptr, cells_string]) <;> omega) | ((repeat (first | with_reducible exact Ext.refl _ | with_reducible assumption | with_reducible apply Ext.alloc | with_reducible apply Ext.drew | (with_reducible refine Ext.setRow ?_ (by (try simp only [World.size_alloc]); omega) _) | (with_reducible refine Ext.tr ?_ (by assumption)))); done) | fail) only [go_sem, Nat.reduceAdd, Nat.reduceLeDiff, Nat.reduceMul, Int.reduceToNat, Nat.reduceEqDiff, Nat.reduceLT, Int.reduceBEq, Int.reduceBNe, Int.reduceLT, Int.reduceLE, Int.reduceAdd, Int.reduceSub, Int.reduceMul, Int.reduceDiv, Int.reduceMod, Int.reduceNeg, d1, q2, hu, q0]
              exact fin
        · intro k hk
          by_cases hc2 : a < i ∧ i < mid
          · have d1 : (a : Int) < (i : Int) := by omega
            have d2 : (i : Int) < (mid : Int) := by omega
            simp -dsimp (disch := first | omega | assumption | ((simp only [World.size_alloc, size_setRow, List.size_toArray, List.length_cons, List.length_nil, cells_agg, len_enc, cells_int, cells_bool, cells_slice, cells_ptr, cells_string]) <;> omega) | ((repeat (first | with_reducible exact Ext.refl _ | with_reducible assumption | with_reducible apply Ext.alloc | with_reducible apply Ext.drew | (with_reducible refine Ext.setRow ?_ (by (try simp only [World.size_alloc]); omega) _) | (with_reducible refine Ext.tr ?_ (by assumption)))); done) | fail) only [go_sem, Nat.reduceAdd, Nat.reduceLeDiff, Nat.reduceMul, Int.reduceToNat, Nat.reduceEqDiff, Nat.reduceLT, Int.reduceBEq, Int.reduceBNe, Int.reduceLT, Int.reduceLE, Int.reduceAdd, Int.reduceSub, Int.reduceMul, Int.reduceDiv, Int.reduceMod, Int.reduceNeg, d1, d2, q2, hu, q0]
            refine callM (ih L A1 B1 (A2 ++ B2 ++ R) w2 a i mid (by omega) ha (by omega) (by omega) (by omega) (by omega) hA'.1 hB'.1 (by simpa using hI2) (by simp; omega)) ?_
            rintro _ w4 ⟨⟨M1, hM1, hI4⟩, ho4⟩
            exact hk _ _ ⟨ho2.tr ho4, M1, hM1, by simpa using hI4⟩
          · have hM1 : St (A1 ++ B1) (A1 ++ B1) := St.self (by
              rcases A1 with _ | ⟨_, _⟩
              · exact hB'.1
              rcases B1 with _ | ⟨_, _⟩
              · simpa using hA'.1
              simp only [List.length_cons] at hA1l hB1l
              omega)
            have fin := hk [] w2 ⟨ho2, A1 ++ B1, hM1, by simpa using hI2⟩
            by_cases d1 : (a : Int) < (i : Int)
            · have d2 : ¬ (i : Int) < (mid : Int) := by omega
              simp -dsimp (disch := first | omega | assumption | ((simp only [World.size_alloc, size_setRow, List.size_toArray, List.length_cons, List.length_nil, cells_agg, len_enc, cells_int, cells_bool, cells_slice, cells_ptr, cells_string]) <;> omega) | ((repeat (first | with_reducible exact Ext.refl _ | with_reducible assumption | with_reducible apply Ext.alloc | with_reducible apply Ext.drew | (with_reducible refine Ext.setRow ?_ (by (try simp only [World.size_alloc]); omega) _) | (with_reducible refine Ext.tr ?_ (by assumption)))); done) | fail) only [go_sem, Nat.reduceAdd, Nat.reduceLeDiff, Nat.reduceMul, Int.reduceToNat, Nat.reduceEqDiff, Nat.reduceLT, Int.reduceBEq, Int.reduceBNe, Int.reduceLT, Int.reduceLE, Int.reduceAdd, Int.reduceSub, Int.reduceMul, Int.reduceDiv, Int.reduceMod, Int.reduceNeg, d1, d2, q2, hu, q0]
              exact fin
            · simp -dsimp (disch := first | omega | assumption | ((simp only [World.size_alloc, size_setRow, List.size_toArray, List.length_cons, List.length_nil, cells_agg, len_enc, cells_int, cells_bool, cells_slice, cells_ptr, cells_string]) <;> omega) | ((repeat (first | with_reducible exact Ext.refl _ | with_reducible assumption | with_reducible apply Ext.alloc | with_reducible apply Ext.drew | (with_reducible refine Ext.setRow ?_ (by (try simp only [World.size_alloc]); omega) _) | (with_reducible refine Ext.tr ?_ (by assumption)))); done) | fail) only [go_sem, Nat.reduceAdd, Nat.reduceLeDiff, Nat.reduceMul, Int.reduceToNat, Nat.reduceEqDiff, Nat.reduceLT, Int.reduceBEq, Int.reduceBNe, Int.reduceLT, Int.reduceLE, Int.reduceAdd, Int.reduceSub, Int.reduceMul, Int.reduceDiv, Int.reduceMod, Int.reduceNeg, d1, q2, hu, q0]
              exact fin
      · intro k hk
        by_cases hc2 : i < m ∧ m < mid + m - i
        · have d1 : (i : Int) < (m : Int) := by omega
          have d2 : (m : Int) < ((mid + m - i : Nat) : Int) := by omega
          simp -dsimp (disch := first | omega | assumption | ((simp only [World.size_alloc, size_setRow, List.size_toArray, List.length_cons, List.length_nil, cells_agg, len_enc, cells_int, cells_bool, cells_slice, cells_ptr, cells_string]) <;> omega) | ((repeat (first | with_reducible exact Ext.refl _ | with_reducible assumption | with_reducible apply Ext.alloc | with_reducible apply Ext.drew | (with_reducible refine Ext.setRow ?_ (by (try simp only [World.size_alloc]); omega) _) | (with_reducible refine Ext.tr ?_ (by assumption)))); done) | fail) only [go_sem, Nat.reduceAdd, Nat.reduceLeDiff, Nat.reduceMul, Int.reduceToNat, Nat.reduceEqDiff, Nat.reduceLT, Int.reduceBEq, Int.reduceBNe, Int.reduceLT, Int.reduceLE, Int.reduceAdd, Int.reduceSub, Int.reduceMul, Int.reduceDiv, Int.reduceMod, Int.reduceNeg, d1, d2, q2, hu, q0]
          refine callM (slices_rotateCmpFunc_flow_Entry.c (L ++ A1) A2 B1 (B2 ++ R) w1 g c N _ i m (mid + m - i) (by simp; omega) (by omega) (by omega) (by omega) (by omega) (by simpa using hI1) (by simp; omega) hl) ?_
          rintro _ w4 ⟨hI4, ho4⟩
          exact hk _ _ ⟨ho.tr ho4, by simpa using hI4⟩
        · have hz : A2 = [] ∨ B1 = [] := by
            rcases A2 with _ | ⟨_, _⟩
            · exact .inl rfl
            rcases B1 with _ | ⟨_, _⟩
            · exact .inr rfl
            simp only [List.length_cons] at hAA hB1l
            omega
          have fin := hk [] w1 ⟨ho, by rcases hz with rfl | rfl <;> simpa using hI1⟩
          by_cases d1 : (i : Int) < (m : Int)
          · have d2 : ¬ (m : Int) < ((mid + m - i : Nat) : Int) := by omega
            simp -dsimp (disch := first | omega | assumption | ((simp only [World.size_alloc, size_setRow, List.size_toArray, List.length_cons, List.length_nil, cells_agg, len_enc, cells_int, cells_bool, cells_slice, cells_ptr, cells_string]) <;> omega) | ((repeat (first | with_reducible exact Ext.refl _ | with_reducible assumption | with_reducible apply Ext.alloc | with_reducible apply Ext.drew | (with_reducible refine Ext.setRow ?_ (by (try simp only [World.size_alloc]); omega) _) | (with_reducible refine Ext.tr ?_ (by assumption)))); done) | fail) only [go_sem, Nat.reduceAdd, Nat.reduceLeDiff, Nat.reduceMul, Int.reduceToNat, Nat.reduceEqDiff, Nat.reduceLT, Int.reduceBEq, Int.reduceBNe, Int.reduceLT, Int.reduceLE, Int.reduceAdd, Int.reduceSub, Int.reduceMul, Int.reduceDiv, Int.reduceMod, Int.reduceNeg, d1, d2, q2, hu, q0]
            exact fin
          · simp -dsimp (disch := first | omega | assumption | ((simp only [World.size_alloc, size_setRow, List.size_toArray, List.length_cons, List.length_nil, cells_agg, len_enc, cells_int, cells_bool, cells_slice, cells_ptr, cells_string]) <;> omega) | ((repeat (first | with_reducible exact Ext.refl _ | with_reducible assumption | with_reducible apply Ext.alloc | with_reducible apply Ext.drew | (with_reducible refine Ext.setRow ?_ (by (try simp only [World.size_alloc]); omega) _) | (with_reducible refine Ext.tr ?_ (by assumption)))); done) | fail) only [go_sem, Nat.reduceAdd, Nat.reduceLeDiff, Nat.reduceMul, Int.reduceToNat, Nat.reduceEqDiff, Nat.reduceLT, Int.reduceBEq, Int.reduceBNe, Int.reduceLT, Int.reduceLE, Int.reduceAdd, Int.reduceSub, Int.reduceMul, Int.reduceDiv, Int.reduceMod, Int.reduceNeg, d1, q2, hu, q0]
            exact fin
  · intro k hk
    by_cases hmm : mid < m
    · have c1 : (mid : Int) < (m : Int) := by omega
      have c2 : ((mid + m : Nat) : Int) - (b : Int) = ((mid + m - b : Nat) : Int) := by omega
      simp -dsimp (disch := first | omega | assumption | ((simp only [World.size_alloc, size_setRow, List.size_toArray, List.length_cons, List.length_nil, cells_agg, len_enc, cells_int, cells_bool, cells_slice, cells_ptr, cells_string]) <;> omega) | ((repeat (first | with_reducible exact Ext.refl _ | with_reducible assumption | with_reducible apply Ext.alloc | with_reducible apply Ext.drew | (with_reducible refine Ext.setRow ?_ (by (try simp only [World.size_alloc]); omega) _) | (with_reducible refine Ext.tr ?_ (by assumption)))); done) | fail) only [go_sem, Nat.reduceAdd, Nat.reduceLeDiff, Nat.reduceMul, Int.reduceToNat, Nat.reduceEqDiff, Nat.reduceLT, Int.reduceBEq, Int.reduceBNe, Int.reduceLT, Int.reduceLE, Int.reduceAdd, Int.reduceSub, Int.reduceMul, Int.reduceDiv, Int.reduceMod, Int.reduceNeg, c1, c2, q0, hu]
      exact hk _ _ ⟨rfl, mid + m - b, mid, rfl, by omega, by omega, by omega, by omega, by omega, by omega, by omega⟩
    · have c1 : ¬ (mid : Int) < (m : Int) := by omega
      simp -dsimp (disch := first | omega | assumption | ((simp only [World.size_alloc, size_setRow, List.size_toArray, List.length_cons, List.length_nil, cells_agg, len_enc, cells_int, cells_bool, cells_slice, cells_ptr, cells_string]) <;> omega) | ((repeat (first | with_reducible exact Ext.refl _ | with_reducible assumption | with_reducible apply Ext.alloc | with_reducible apply Ext.drew | (with_reducible refine Ext.setRow ?_ (by (try simp only [World.size_alloc]); omega) _) | (with_reducible refine Ext.tr ?_ (by assumption)))); done) | fail) only [go_sem, Nat.reduceAdd, Nat.reduceLeDiff, Nat.reduceMul, Int.reduceToNat, Nat.reduceEqDiff, Nat.reduceLT, Int.reduceBEq, Int.reduceBNe, Int.reduceLT, Int.reduceLE, Int.reduceAdd, Int.reduceSub, Int.reduceMul, Int.reduceDiv, Int.reduceMod, Int.reduceNeg, c1, q0, hu]
      exact hk _ _ ⟨rfl, a, m, rfl, by omega, by omega, by omega, by omega, by omega, by omega, by omega⟩
end Go.Proofs.Ytldjhbmccnbciaa
