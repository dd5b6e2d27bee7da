/- the laws of the database: the live question. -/
import Derived.Test.YtbkgijnmckchbaaLsc
namespace Go.Proofs.Ytbkgijnmckchbaa
open Go
set_option linter.unusedSimpArgs false
set_option linter.unusedVariables false
theorem Vw.add_err {V : Vw} {k : Int} (h : (V.add k).2 ≠ 0) : (V.add k).1 = V := by
  unfold Vw.add at h ⊢
  split
  · rfl
  split
  · rfl
  · rename_i h1 h2
    rw [if_neg h1, if_neg h2] at h
    exact absurd rfl h
theorem Vw.remove_err {V : Vw} {k : Int} (h : (V.remove k).2 ≠ 0) : (V.remove k).1 = V := by
  unfold Vw.remove at h ⊢
  split
  · rfl
  split
  · rfl
  · rename_i h1 h2
    rw [if_neg h1, if_neg h2] at h
    exact absurd rfl h
theorem Vw.apply_err {V : Vw} {l : List (Rw × Int)} (h : (V.apply l).2 ≠ 0) : (V.apply l).1 = V := by
  unfold Vw.apply at h ⊢
  split
  · rename_i h1
    rw [if_pos h1] at h
    exact absurd h1 h
  · rfl
def rowA : Rw := ⟨4, 7, 1, -1, -1, 1, 0, 1, 0⟩
def vA1 : Vw := (Vw.new.add 1).1
def vA2 : Vw := (vA1.apply [(rowA, 0)]).1
theorem vA1_ok : vA1.Ok := Vw.add_ok Vw.new_ok 1
theorem vA2_ok : vA2.Ok := Vw.apply_ok vA1_ok _
theorem aA : (Vw.new.add 1).2 = 0 := by decide
theorem bA : (vA1.add 1).2 = 5 := by decide
theorem cA : (vA1.apply [(rowA, 0)]).2 = 0 := by kernel_rfl
theorem dA : (vA2.apply [(rowA, 0)]).2 = 7 := by kernel_rfl
theorem eA : (vA2.remove 1).2 = 11 := by kernel_rfl
theorem fA : vA2.find 7 = some rowA := by kernel_rfl
theorem gA : vA2.rows = [rowA] := by kernel_rfl
theorem hA1 : vA2.c 1 = true := by kernel_rfl
theorem hA2 : vA2.c 2 = false := by kernel_rfl
theorem lA : vA2.late 99 0 = [] := by kernel_rfl
section
set_option maxHeartbeats 2000000 in
theorem rutterlaw10_alive.c (w : World) : Calls Try.prog rutterlaw10_alive.id #[] w (retP fun r w' => r = .bool true ∧ Ext w w') := by
  apply rutterlaw10_alive.sound
  unfold rutterlaw10_alive.sh
  simp -dsimp (disch := first | omega | assumption | ((simp only [World.size_alloc, size_setRow, List.size_toArray, List.length_cons, List.length_nil, cells_agg, len_enc, cells_int, cells_bool, cells_slice, cells_ptr, cells_string]) <;> omega) | ((repeat (first | with_reducible exact Ext.refl _ | with_reducible assumption | with_reducible apply Ext.alloc | with_reducible apply Ext.drew | (with_reducible refine Ext.setRow ?_ (by (try simp only [World.size_alloc]); omega) _) | (with_reducible refine Ext.tr ?_ (by assumption)))); done) | fail) only [go_sem, jn_r, Nat.reduceAdd, Nat.reduceLeDiff, Nat.reduceMul, Int.reduceToNat, Nat.reduceEqDiff, Nat.reduceLT, Int.reduceBEq, Int.reduceBNe, Int.reduceLT, Int.reduceLE, Int.reduceAdd, Int.reduceSub, Int.reduceMul, Int.reduceDiv, Int.reduceMod, Int.reduceNeg]
  refine callM (store_New.c w) ?_
  rintro _ w1 ⟨p, B, rfl, h1, x1, hB⟩
  have hlo : ∀ b ∈ B, w.heap.size ≤ b := fun b hb => (hB b hb).1
  refine callM (store_Store_Add.c Vw.new_ok h1 1) ?_
  rintro _ w2 ⟨rfl, h2, x2⟩
  have y2 : Ext w w2 := x1.then x2 hlo
  rw [aA]
  refine callM (store_Store_Add.c vA1_ok h2 1) ?_
  rintro _ w3 ⟨rfl, h3, x3⟩
  have y3 : Ext w w3 := y2.then x3 hlo
  rw [bA]
  have h3' : StAt w3 p B vA1 := by
    have : (vA1.add 1).1 = vA1 := Vw.add_err (by rw [bA]; decide)
    rw [← this]
    exact h3

  have hB1 : ∀ b ∈ B, b < w3.heap.size := fun b hb => by have := (hB b hb).2; have := x2.size; have := x3.size; omega
  obtain ⟨wa, hwa⟩ : ∃ wa, (w3.alloc (.cells #[.int .i64 4, .int .u64 7, .int .i64 1, .int .i64 (-1), .int .i64 (-1), .int .i64 1, .int .i64 0, .int .i64 1, .int .i64 0] 33)).alloc (.cells #[.int .i64 4, .int .u64 7, .int .i64 1, .int .i64 (-1), .int .i64 (-1), .int .i64 1, .int .i64 0, .int .i64 1, .int .i64 0, .int .i64 0] 59) = wa := ⟨_, rfl⟩
  have xa : Ext w3 wa := by rw [← hwa]; exact ((Ext.refl w3).alloc _).alloc _
  have za : wa.heap.size = w3.heap.size + 2 := by rw [← hwa]; simp only [World.size_alloc]
  have ka : blk wa w3.heap.size = some #[.int .i64 4, .int .u64 7, .int .i64 1, .int .i64 (-1), .int .i64 (-1), .int .i64 1, .int .i64 0, .int .i64 1, .int .i64 0] := by rw [← hwa]; simp -dsimp (disch := first | omega | assumption | ((simp only [World.size_alloc, size_setRow, List.size_toArray, List.length_cons, List.length_nil, cells_agg, len_enc, cells_int, cells_bool, cells_slice, cells_ptr, cells_string]) <;> omega) | ((repeat (first | with_reducible exact Ext.refl _ | with_reducible assumption | with_reducible apply Ext.alloc | with_reducible apply Ext.drew | (with_reducible refine Ext.setRow ?_ (by (try simp only [World.size_alloc]); omega) _) | (with_reducible refine Ext.tr ?_ (by assumption)))); done) | fail) only [go_sem, jn_r, Nat.reduceAdd, Nat.reduceLeDiff, Nat.reduceMul, Int.reduceToNat, Nat.reduceEqDiff, Nat.reduceLT, Int.reduceBEq, Int.reduceBNe, Int.reduceLT, Int.reduceLE, Int.reduceAdd, Int.reduceSub, Int.reduceMul, Int.reduceDiv, Int.reduceMod, Int.reduceNeg]
  have sa : Sl chgC wa (.slice (some ⟨w3.heap.size + 1, 0, none⟩) 1 1) [(rowA, 0)] := by
    rw [← hwa]
    exact Sl.lit (C := chgC) (l := [(rowA, 0)]) (blk_new (by simp only [World.size_alloc])) rfl (by simp; rfl)
  rw [hwa]
  refine callM (store_Store_Apply.c vA1_ok (h3'.chg (xa.chg (S := [])) (by simp)) sa (by simp)) ?_
  rintro _ w4 ⟨rfl, B4, h4, x4, hB4⟩
  rw [cA]
  have h4' : StAt w4 p B4 vA2 := h4
  have z4 := x4.size
  have hlo4 : ∀ b ∈ B4, w.heap.size ≤ b ∧ b ≠ w3.heap.size ∧ b < w4.heap.size := fun b hb => by
    have := y3.size
    rcases hB4 b hb with h | ⟨h, h2⟩
    · have := hlo b h
      have := hB1 b h
      exact ⟨by omega, by omega, by omega⟩
    · exact ⟨by omega, by omega, h2⟩
  have y4 : Ext w w4 := (y3.tr xa).then x4 hlo
  have k4 := x4.blkS ka (fun h => by have := hB1 _ h; omega)
  have g4 := blk_lt k4
  simp -dsimp (disch := first | omega | assumption | ((simp only [World.size_alloc, size_setRow, List.size_toArray, List.length_cons, List.length_nil, cells_agg, len_enc, cells_int, cells_bool, cells_slice, cells_ptr, cells_string]) <;> omega) | ((repeat (first | with_reducible exact Ext.refl _ | with_reducible assumption | with_reducible apply Ext.alloc | with_reducible apply Ext.drew | (with_reducible refine Ext.setRow ?_ (by (try simp only [World.size_alloc]); omega) _) | (with_reducible refine Ext.tr ?_ (by assumption)))); done) | fail) only [go_sem, jn_r, Nat.reduceAdd, Nat.reduceLeDiff, Nat.reduceMul, Int.reduceToNat, Nat.reduceEqDiff, Nat.reduceLT, Int.reduceBEq, Int.reduceBNe, Int.reduceLT, Int.reduceLE, Int.reduceAdd, Int.reduceSub, Int.reduceMul, Int.reduceDiv, Int.reduceMod, Int.reduceNeg, k4]
  obtain ⟨wb, hwb⟩ : ∃ wb, w4.alloc (.cells #[.int .i64 4, .int .u64 7, .int .i64 1, .int .i64 (-1), .int .i64 (-1), .int .i64 1, .int .i64 0, .int .i64 1, .int .i64 0, .int .i64 0] 59) = wb := ⟨_, rfl⟩
  have xb : Ext w4 wb := by rw [← hwb]; exact (Ext.refl w4).alloc _
  have zb : wb.heap.size = w4.heap.size + 1 := by rw [← hwb]; simp only [World.size_alloc]
  have sb : Sl chgC wb (.slice (some ⟨w4.heap.size, 0, none⟩) 1 1) [(rowA, 0)] := by
    rw [← hwb]
    exact Sl.lit (C := chgC) (l := [(rowA, 0)]) (blk_new rfl) rfl (by simp; rfl)
  rw [hwb]
  refine callM (store_Store_Apply.c vA2_ok (h4'.chg (xb.chg (S := [])) (by simp)) sb (by simp)) ?_
  rintro _ w5 ⟨rfl, B5, h5, x5, hB5⟩
  rw [dA]
  have h5' : StAt w5 p B5 vA2 := by
    have : (vA2.apply [(rowA, 0)]).1 = vA2 := Vw.apply_err (by rw [dA]; decide)
    rw [← this]
    exact h5
  have z5 := x5.size
  have hlo5 : ∀ b ∈ B5, w.heap.size ≤ b ∧ b ≠ w3.heap.size := fun b hb => by
    have := y4.size
    rcases hB5 b hb with h | ⟨h, h2⟩
    · exact ⟨(hlo4 b h).1, (hlo4 b h).2.1⟩
    · exact ⟨by omega, by omega⟩
  have y5 : Ext w w5 := (y4.tr xb).then x5 (fun b hb => (hlo4 b hb).1)
  have k5 := x5.blkS (xb.blkS k4) (fun h => (hlo4 _ h).2.1 rfl)
  refine callM (store_Store_Remove.c vA2_ok h5' 1) ?_
  rintro _ w6 ⟨rfl, h6, x6⟩
  rw [eA]
  have h6' : StAt w6 p B5 vA2 := by
    have : (vA2.remove 1).1 = vA2 := Vw.remove_err (by rw [eA]; decide)
    rw [← this]
    exact h6
  have y6 : Ext w w6 := y5.then x6 (fun b hb => (hlo5 b hb).1)
  have k6 := x6.blkS k5 (fun h => (hlo5 _ h).2 rfl)
  refine callM (store_Store_Find.c vA2_ok h6' 7) ?_
  rintro _ w7 ⟨rfl, x7⟩
  have y7 := y6.tr x7
  have k7 := x7.blkS k6
  have g7 := blk_lt k7
  rw [fA]
  have hro : rowO (some rowA) = .tuple #[.agg #[.int .i64 4, .int .u64 7, .int .i64 1, .int .i64 (-1), .int .i64 (-1), .int .i64 1, .int .i64 0, .int .i64 1, .int .i64 0], .bool true] := rfl
  rw [hro]
  have er : ∀ (K : Value → Prop), pv (be .eql 33 false (.agg #[.int .i64 4, .int .u64 7, .int .i64 1, .int .i64 (-1), .int .i64 (-1), .int .i64 1, .int .i64 0, .int .i64 1, .int .i64 0]) (.agg #[.int .i64 4, .int .u64 7, .int .i64 1, .int .i64 (-1), .int .i64 (-1), .int .i64 1, .int .i64 0, .int .i64 1, .int .i64 0])) K = K (.bool true) := fun K => (be_row (r := rowA) (s := rowA)).trans (by simp)
  simp -dsimp (disch := first | omega | assumption | ((simp only [World.size_alloc, size_setRow, List.size_toArray, List.length_cons, List.length_nil, cells_agg, len_enc, cells_int, cells_bool, cells_slice, cells_ptr, cells_string]) <;> omega) | ((repeat (first | with_reducible exact Ext.refl _ | with_reducible assumption | with_reducible apply Ext.alloc | with_reducible apply Ext.drew | (with_reducible refine Ext.setRow ?_ (by (try simp only [World.size_alloc]); omega) _) | (with_reducible refine Ext.tr ?_ (by assumption)))); done) | fail) only [go_sem, jn_r, Nat.reduceAdd, Nat.reduceLeDiff, Nat.reduceMul, Int.reduceToNat, Nat.reduceEqDiff, Nat.reduceLT, Int.reduceBEq, Int.reduceBNe, Int.reduceLT, Int.reduceLE, Int.reduceAdd, Int.reduceSub, Int.reduceMul, Int.reduceDiv, Int.reduceMod, Int.reduceNeg, k7, er]
  have hxd : ∀ ob, Ext w7 (w7.alloc ob).drew := fun ob => ((Ext.refl w7).alloc ob).drew
  have hrowA : rowA.v = .agg #[.int .i64 4, .int .u64 7, .int .i64 1, .int .i64 (-1), .int .i64 (-1), .int .i64 1, .int .i64 0, .int .i64 1, .int .i64 0] := rfl
  refine ⟨?_, ?_⟩
  · generalize hw8 : (w7.alloc _).drew = w8
    have x8 : Ext w7 w8 := by rw [← hw8]; exact hxd _
    refine callM (store_Store_Rows.c vA2_ok (h6'.chg ((x7.tr x8).chg (S := [])) (by simp))) ?_
    rintro u9 w9 ⟨o9, x9⟩
    have k9 := x9.blkS (x8.blkS k7)
    simp -dsimp (disch := first | omega | assumption | ((simp only [World.size_alloc, size_setRow, List.size_toArray, List.length_cons, List.length_nil, cells_agg, len_enc, cells_int, cells_bool, cells_slice, cells_ptr, cells_string]) <;> omega) | ((repeat (first | with_reducible exact Ext.refl _ | with_reducible assumption | with_reducible apply Ext.alloc | with_reducible apply Ext.drew | (with_reducible refine Ext.setRow ?_ (by (try simp only [World.size_alloc]); omega) _) | (with_reducible refine Ext.tr ?_ (by assumption)))); done) | fail) only [go_sem, jn_r, Nat.reduceAdd, Nat.reduceLeDiff, Nat.reduceMul, Int.reduceToNat, Nat.reduceEqDiff, Nat.reduceLT, Int.reduceBEq, Int.reduceBNe, Int.reduceLT, Int.reduceLE, Int.reduceAdd, Int.reduceSub, Int.reduceMul, Int.reduceDiv, Int.reduceMod, Int.reduceNeg, k9]
    have yc : Ext w (w9.alloc (.cells #[.int .i64 4, .int .u64 7, .int .i64 1, .int .i64 (-1), .int .i64 (-1), .int .i64 1, .int .i64 0, .int .i64 1, .int .i64 0] 33)) := (((y7.tr x8).tr x9).alloc _)
    have X0 : Ext w6 (w9.alloc (.cells #[.int .i64 4, .int .u64 7, .int .i64 1, .int .i64 (-1), .int .i64 (-1), .int .i64 1, .int .i64 0, .int .i64 1, .int .i64 0] 33)) := (((x7.tr x8).tr x9).alloc _)
    refine callM (rutterref10_Same.c (l := vA2.rows) (m := [rowA]) (o9.sl.ext ((Ext.refl w9).alloc _)) (Sl.lit (C := rowC) (l := [rowA]) (blk_new rfl) rfl (by simp; rfl)) (by have := vA2.rows_len; omega)) ?_
    rintro _ wd ⟨rfl, xd⟩
    have yd := yc.tr xd
    have e1 : decide (vA2.rows = [rowA]) = true := decide_eq_true gA
    simp -dsimp (disch := first | omega | assumption | ((simp only [World.size_alloc, size_setRow, List.size_toArray, List.length_cons, List.length_nil, cells_agg, len_enc, cells_int, cells_bool, cells_slice, cells_ptr, cells_string]) <;> omega) | ((repeat (first | with_reducible exact Ext.refl _ | with_reducible assumption | with_reducible apply Ext.alloc | with_reducible apply Ext.drew | (with_reducible refine Ext.setRow ?_ (by (try simp only [World.size_alloc]); omega) _) | (with_reducible refine Ext.tr ?_ (by assumption)))); done) | fail) only [go_sem, jn_r, Nat.reduceAdd, Nat.reduceLeDiff, Nat.reduceMul, Int.reduceToNat, Nat.reduceEqDiff, Nat.reduceLT, Int.reduceBEq, Int.reduceBNe, Int.reduceLT, Int.reduceLE, Int.reduceAdd, Int.reduceSub, Int.reduceMul, Int.reduceDiv, Int.reduceMod, Int.reduceNeg, e1]
    refine callM (store_Store_Has.c vA2_ok (h6'.chg ((X0.tr xd).chg (S := [])) (by simp)) 1) ?_
    rintro _ we ⟨rfl, rfl⟩
    simp -dsimp (disch := first | omega | assumption | ((simp only [World.size_alloc, size_setRow, List.size_toArray, List.length_cons, List.length_nil, cells_agg, len_enc, cells_int, cells_bool, cells_slice, cells_ptr, cells_string]) <;> omega) | ((repeat (first | with_reducible exact Ext.refl _ | with_reducible assumption | with_reducible apply Ext.alloc | with_reducible apply Ext.drew | (with_reducible refine Ext.setRow ?_ (by (try simp only [World.size_alloc]); omega) _) | (with_reducible refine Ext.tr ?_ (by assumption)))); done) | fail) only [go_sem, jn_r, Nat.reduceAdd, Nat.reduceLeDiff, Nat.reduceMul, Int.reduceToNat, Nat.reduceEqDiff, Nat.reduceLT, Int.reduceBEq, Int.reduceBNe, Int.reduceLT, Int.reduceLE, Int.reduceAdd, Int.reduceSub, Int.reduceMul, Int.reduceDiv, Int.reduceMod, Int.reduceNeg, hA1]
    refine callM (store_Store_Has.c vA2_ok (h6'.chg ((X0.tr xd).chg (S := [])) (by simp)) 2) ?_
    rintro _ wf ⟨rfl, rfl⟩
    simp -dsimp (disch := first | omega | assumption | ((simp only [World.size_alloc, size_setRow, List.size_toArray, List.length_cons, List.length_nil, cells_agg, len_enc, cells_int, cells_bool, cells_slice, cells_ptr, cells_string]) <;> omega) | ((repeat (first | with_reducible exact Ext.refl _ | with_reducible assumption | with_reducible apply Ext.alloc | with_reducible apply Ext.drew | (with_reducible refine Ext.setRow ?_ (by (try simp only [World.size_alloc]); omega) _) | (with_reducible refine Ext.tr ?_ (by assumption)))); done) | fail) only [go_sem, jn_r, Nat.reduceAdd, Nat.reduceLeDiff, Nat.reduceMul, Int.reduceToNat, Nat.reduceEqDiff, Nat.reduceLT, Int.reduceBEq, Int.reduceBNe, Int.reduceLT, Int.reduceLE, Int.reduceAdd, Int.reduceSub, Int.reduceMul, Int.reduceDiv, Int.reduceMod, Int.reduceNeg, hA1, hA2]
    refine callM (store_Store_Late.c vA2_ok (h6'.chg ((X0.tr xd).chg (S := [])) (by simp)) 99 0 (by omega)) ?_
    rintro vg wg ⟨og, xg⟩
    rw [lA] at og
    obtain ⟨ag, cg, rfl⟩ := og.sl.form
    have e2 : ((([] : List (Rw × Int)).length : Int) == 0) = true := rfl
    simp -dsimp (disch := first | omega | assumption | ((simp only [World.size_alloc, size_setRow, List.size_toArray, List.length_cons, List.length_nil, cells_agg, len_enc, cells_int, cells_bool, cells_slice, cells_ptr, cells_string]) <;> omega) | ((repeat (first | with_reducible exact Ext.refl _ | with_reducible assumption | with_reducible apply Ext.alloc | with_reducible apply Ext.drew | (with_reducible refine Ext.setRow ?_ (by (try simp only [World.size_alloc]); omega) _) | (with_reducible refine Ext.tr ?_ (by assumption)))); done) | fail) only [go_sem, jn_r, Nat.reduceAdd, Nat.reduceLeDiff, Nat.reduceMul, Int.reduceToNat, Nat.reduceEqDiff, Nat.reduceLT, Int.reduceBEq, Int.reduceBNe, Int.reduceLT, Int.reduceLE, Int.reduceAdd, Int.reduceSub, Int.reduceMul, Int.reduceDiv, Int.reduceMod, Int.reduceNeg, e2]
    exact ⟨rfl, yd.tr xg⟩
  · generalize hw8 : (w7.alloc _) = w8
    have x8 : Ext w7 w8 := by rw [← hw8]; exact (Ext.refl w7).alloc _
    obtain ⟨w9, hw9⟩ : ∃ w9, (w8.alloc (.cells #[.int .i64 4, .int .u64 7, .int .i64 1, .int .i64 (-1), .int .i64 (-1), .int .i64 1, .int .i64 0, .int .i64 1, .int .i64 0] 33)).drew = w9 := ⟨_, rfl⟩
    have x9 : Ext w8 w9 := by rw [← hw9]; exact ((Ext.refl w8).alloc _).drew
    rw [hw9]
    have s9 : Sl rowC w9 (.slice (some ⟨w8.heap.size, 0, none⟩) 1 1) [rowA] := by
      rw [← hw9]
      exact Sl.lit (C := rowC) (l := [rowA]) (blk_new rfl) rfl (by simp; rfl)
    refine callM (store_Store_Rows.c vA2_ok (h6'.chg (((x7.tr x8).tr x9).chg (S := [])) (by simp))) ?_
    rintro u10 wc ⟨o10, x10⟩
    have yc : Ext w wc := ((y7.tr x8).tr x9).tr x10
    have X0 : Ext w6 wc := ((x7.tr x8).tr x9).tr x10
    have hz8 : w8.drew.heap.size = w8.heap.size := rfl
    refine callM (rutterref10_Same.c (l := vA2.rows) (m := [rowA]) o10.sl (s9.ext x10) (by have := vA2.rows_len; omega)) ?_
    rintro _ wd ⟨rfl, xd⟩
    have yd := yc.tr xd
    have e1 : decide (vA2.rows = [rowA]) = true := decide_eq_true gA
    simp -dsimp (disch := first | omega | assumption | ((simp only [World.size_alloc, size_setRow, List.size_toArray, List.length_cons, List.length_nil, cells_agg, len_enc, cells_int, cells_bool, cells_slice, cells_ptr, cells_string]) <;> omega) | ((repeat (first | with_reducible exact Ext.refl _ | with_reducible assumption | with_reducible apply Ext.alloc | with_reducible apply Ext.drew | (with_reducible refine Ext.setRow ?_ (by (try simp only [World.size_alloc]); omega) _) | (with_reducible refine Ext.tr ?_ (by assumption)))); done) | fail) only [go_sem, jn_r, Nat.reduceAdd, Nat.reduceLeDiff, Nat.reduceMul, Int.reduceToNat, Nat.reduceEqDiff, Nat.reduceLT, Int.reduceBEq, Int.reduceBNe, Int.reduceLT, Int.reduceLE, Int.reduceAdd, Int.reduceSub, Int.reduceMul, Int.reduceDiv, Int.reduceMod, Int.reduceNeg, e1]
    refine callM (store_Store_Has.c vA2_ok (h6'.chg ((X0.tr xd).chg (S := [])) (by simp)) 1) ?_
    rintro _ we ⟨rfl, rfl⟩
    simp -dsimp (disch := first | omega | assumption | ((simp only [World.size_alloc, size_setRow, List.size_toArray, List.length_cons, List.length_nil, cells_agg, len_enc, cells_int, cells_bool, cells_slice, cells_ptr, cells_string]) <;> omega) | ((repeat (first | with_reducible exact Ext.refl _ | with_reducible assumption | with_reducible apply Ext.alloc | with_reducible apply Ext.drew | (with_reducible refine Ext.setRow ?_ (by (try simp only [World.size_alloc]); omega) _) | (with_reducible refine Ext.tr ?_ (by assumption)))); done) | fail) only [go_sem, jn_r, Nat.reduceAdd, Nat.reduceLeDiff, Nat.reduceMul, Int.reduceToNat, Nat.reduceEqDiff, Nat.reduceLT, Int.reduceBEq, Int.reduceBNe, Int.reduceLT, Int.reduceLE, Int.reduceAdd, Int.reduceSub, Int.reduceMul, Int.reduceDiv, Int.reduceMod, Int.reduceNeg, hA1]
    refine callM (store_Store_Has.c vA2_ok (h6'.chg ((X0.tr xd).chg (S := [])) (by simp)) 2) ?_
    rintro _ wf ⟨rfl, rfl⟩
    simp -dsimp (disch := first | omega | assumption | ((simp only [World.size_alloc, size_setRow, List.size_toArray, List.length_cons, List.length_nil, cells_agg, len_enc, cells_int, cells_bool, cells_slice, cells_ptr, cells_string]) <;> omega) | ((repeat (first | with_reducible exact Ext.refl _ | with_reducible assumption | with_reducible apply Ext.alloc | with_reducible apply Ext.drew | (with_reducible refine Ext.setRow ?_ (by (try simp only [World.size_alloc]); omega) _) | (with_reducible refine Ext.tr ?_ (by assumption)))); done) | fail) only [go_sem, jn_r, Nat.reduceAdd, Nat.reduceLeDiff, Nat.reduceMul, Int.reduceToNat, Nat.reduceEqDiff, Nat.reduceLT, Int.reduceBEq, Int.reduceBNe, Int.reduceLT, Int.reduceLE, Int.reduceAdd, Int.reduceSub, Int.reduceMul, Int.reduceDiv, Int.reduceMod, Int.reduceNeg, hA1, hA2]
    refine callM (store_Store_Late.c vA2_ok (h6'.chg ((X0.tr xd).chg (S := [])) (by simp)) 99 0 (by omega)) ?_
    rintro vg wg ⟨og, xg⟩
    rw [lA] at og
    obtain ⟨ag, cg, rfl⟩ := og.sl.form
    have e2 : ((([] : List (Rw × Int)).length : Int) == 0) = true := rfl
    simp -dsimp (disch := first | omega | assumption | ((simp only [World.size_alloc, size_setRow, List.size_toArray, List.length_cons, List.length_nil, cells_agg, len_enc, cells_int, cells_bool, cells_slice, cells_ptr, cells_string]) <;> omega) | ((repeat (first | with_reducible exact Ext.refl _ | with_reducible assumption | with_reducible apply Ext.alloc | with_reducible apply Ext.drew | (with_reducible refine Ext.setRow ?_ (by (try simp only [World.size_alloc]); omega) _) | (with_reducible refine Ext.tr ?_ (by assumption)))); done) | fail) only [go_sem, jn_r, Nat.reduceAdd, Nat.reduceLeDiff, Nat.reduceMul, Int.reduceToNat, Nat.reduceEqDiff, Nat.reduceLT, Int.reduceBEq, Int.reduceBNe, Int.reduceLT, Int.reduceLE, Int.reduceAdd, Int.reduceSub, Int.reduceMul, Int.reduceDiv, Int.reduceMod, Int.reduceNeg, e2]
    exact ⟨rfl, yd.tr xg⟩
end
end Go.Proofs.Ytbkgijnmckchbaa
