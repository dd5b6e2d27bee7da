/- the database of the document: what it lists. -/
import Derived.Test.YtbkgijnmckchbaaRtd
namespace Go.Proofs.Ytbkgijnmckchbaa
open Go
set_option linter.unusedSimpArgs false
set_option linter.unusedVariables false
section
variable {w : World} {q : Nat} {V : Vw}
theorem upTo_len {n : Nat} : (upTo n).length = n := by simp [upTo]
theorem rows_step {i : Nat} (hi : i < 32) {β : Type} {f : Int → Option β} : ((upTo 32).take (i + 1)).filterMap f = ((upTo 32).take i).filterMap f ++ (f (i : Int)).toList := by
  rw [take_next (upTo_get hi), List.filterMap_append]
  cases h : f (i : Int) <;> simp [h]
theorem rows_short {i : Nat} {β : Type} {f : Int → Option β} : (((upTo 32).take i).filterMap f).length ≤ 32 := by
  refine Nat.le_trans (List.length_filterMap_le _ _) ?_
  rw [List.length_take, upTo_len]
  omega
set_option maxHeartbeats 1000000 in
theorem rutterref10_Store_Rows.c (hV : V.Ok) (h : RefAt w q V) : Calls Try.prog rutterref10_Store_Rows.id #[.pointer (some ⟨q, 0, none⟩)] w (retP fun v w' => Ow rowC 33 w.heap.size w' v V.rows ∧ Ext w w') := by
  apply rutterref10_Store_Rows.sound
  unfold rutterref10_Store_Rows.sh Vw.rows
  have h' := blk_of0 h
  refine loop_g (γ := Nat × Value) (fun g st w' => st = [g.2, .int .i64 (g.1 : Int)] ∧ Ext w w' ∧ Ow rowC 33 w.heap.size w' g.2 (((upTo 32).take g.1).filterMap V.r)) (fun g => 32 - g.1) (0, .slice none 0 0) ⟨rfl, .refl _, Ow.nil⟩ ?_
  rintro ⟨i, out⟩ st w2 next ⟨rfl, hE, hO⟩ hn
  simp only at hO
  have h2 := hE.blkS h'
  by_cases hi : i < 32
  · have d0 : ((i : Int) < 32) := by omega
    have d00 : ((i : Int) < ((32 : Nat) : Int)) := by omega
    have d1 : (0 : Int) ≤ (i : Int) := by omega
    have ew : IntKind.i64.wrap ((i : Int) + 1) = ((i + 1 : Nat) : Int) := by rw [wrap_64 (by omega) (by omega)]; simp
    have e3 : 16 + i * 9 + 9 ≤ 304 := by omega
    have r4 := (rowcells (V := V) hi).2.2.2
    have hst := rows_step hi (f := V.r)
    rcases Vw.at_cases hV i with ⟨g1, g2⟩ | ⟨x, g1, g2, g3, g4, g5⟩
    · rw [g2] at r4
      have r4' : (refArr V)[16 + i * 9 + 7]? = some (.int .i64 0) := r4
      have e5 : ¬ (0 : Int) < 0 := by omega
      simp -dsimp (disch := first | omega | assumption | ((simp only [World.size_alloc, size_setRow, List.size_toArray, List.length_cons, List.length_nil, cells_agg, len_enc, cells_int, cells_bool, cells_slice, cells_ptr, cells_string]) <;> omega) | ((repeat (first | with_reducible exact Ext.refl _ | with_reducible assumption | with_reducible apply Ext.alloc | with_reducible apply Ext.drew | (with_reducible refine Ext.setRow ?_ (by (try simp only [World.size_alloc]); omega) _) | (with_reducible refine Ext.tr ?_ (by assumption)))); done) | fail) only [go_sem, jn_r, Nat.reduceAdd, Nat.reduceLeDiff, Nat.reduceMul, Int.reduceToNat, Nat.reduceEqDiff, Nat.reduceLT, Int.reduceBEq, Int.reduceBNe, Int.reduceLT, Int.reduceLE, Int.reduceAdd, Int.reduceSub, Int.reduceMul, Int.reduceDiv, Int.reduceMod, Int.reduceNeg, d0, d00, d1, h2, r4', Int.toNat_natCast, ew, e5]
      refine hn (i + 1, out) _ _ ⟨rfl, hE, ?_⟩ (by simp; omega)
      simp only
      rw [hst, g1, Option.toList_none, List.append_nil]
      exact hO
    · rw [g2] at r4
      have hrow : agx (refArr V) (16 + i * 9) 9 = .agg (rowC.enc x).toArray := by rw [refArr_row hi, g2]; rfl
      have e5 : 0 < x.ver := by omega
      simp -dsimp (disch := first | omega | assumption | ((simp only [World.size_alloc, size_setRow, List.size_toArray, List.length_cons, List.length_nil, cells_agg, len_enc, cells_int, cells_bool, cells_slice, cells_ptr, cells_string]) <;> omega) | ((repeat (first | with_reducible exact Ext.refl _ | with_reducible assumption | with_reducible apply Ext.alloc | with_reducible apply Ext.drew | (with_reducible refine Ext.setRow ?_ (by (try simp only [World.size_alloc]); omega) _) | (with_reducible refine Ext.tr ?_ (by assumption)))); done) | fail) only [go_sem, jn_r, Nat.reduceAdd, Nat.reduceLeDiff, Nat.reduceMul, Int.reduceToNat, Nat.reduceEqDiff, Nat.reduceLT, Int.reduceBEq, Int.reduceBNe, Int.reduceLT, Int.reduceLE, Int.reduceAdd, Int.reduceSub, Int.reduceMul, Int.reduceDiv, Int.reduceMod, Int.reduceNeg, d0, d00, d1, h2, r4, Int.toNat_natCast, e5, e3, hrow]
      refine ap_ow (m := [x]) (hO.ext (by (repeat (first | with_reducible exact Ext.refl _ | with_reducible assumption | with_reducible apply Ext.alloc | with_reducible apply Ext.drew | (with_reducible refine Ext.setRow ?_ (by (try simp only [World.size_alloc]); omega) _) | (with_reducible refine Ext.tr ?_ (by assumption)))))) (Sl.lit (C := rowC) (l := [x]) (by simp -dsimp (disch := first | omega | assumption | ((simp only [World.size_alloc, size_setRow, List.size_toArray, List.length_cons, List.length_nil, cells_agg, len_enc, cells_int, cells_bool, cells_slice, cells_ptr, cells_string]) <;> omega) | ((repeat (first | with_reducible exact Ext.refl _ | with_reducible assumption | with_reducible apply Ext.alloc | with_reducible apply Ext.drew | (with_reducible refine Ext.setRow ?_ (by (try simp only [World.size_alloc]); omega) _) | (with_reducible refine Ext.tr ?_ (by assumption)))); done) | fail) only [go_sem, jn_r, Nat.reduceAdd, Nat.reduceLeDiff, Nat.reduceMul, Int.reduceToNat, Nat.reduceEqDiff, Nat.reduceLT, Int.reduceBEq, Int.reduceBNe, Int.reduceLT, Int.reduceLE, Int.reduceAdd, Int.reduceSub, Int.reduceMul, Int.reduceDiv, Int.reduceMod, Int.reduceNeg]; rfl) rfl (by simp)).from (w0 := w) (by (repeat (first | with_reducible exact Ext.refl _ | with_reducible assumption | with_reducible apply Ext.alloc | with_reducible apply Ext.drew | (with_reducible refine Ext.setRow ?_ (by (try simp only [World.size_alloc]); omega) _) | (with_reducible refine Ext.tr ?_ (by assumption))))) rfl (by have := rows_short (i := i) (f := V.r); simp; omega) ?_
      intro v' w' k1 k2 _ _
      simp -dsimp (disch := first | omega | assumption | ((simp only [World.size_alloc, size_setRow, List.size_toArray, List.length_cons, List.length_nil, cells_agg, len_enc, cells_int, cells_bool, cells_slice, cells_ptr, cells_string]) <;> omega) | ((repeat (first | with_reducible exact Ext.refl _ | with_reducible assumption | with_reducible apply Ext.alloc | with_reducible apply Ext.drew | (with_reducible refine Ext.setRow ?_ (by (try simp only [World.size_alloc]); omega) _) | (with_reducible refine Ext.tr ?_ (by assumption)))); done) | fail) only [go_sem, jn_r, Nat.reduceAdd, Nat.reduceLeDiff, Nat.reduceMul, Int.reduceToNat, Nat.reduceEqDiff, Nat.reduceLT, Int.reduceBEq, Int.reduceBNe, Int.reduceLT, Int.reduceLE, Int.reduceAdd, Int.reduceSub, Int.reduceMul, Int.reduceDiv, Int.reduceMod, Int.reduceNeg, ew]
      refine hn (i + 1, v') _ _ ⟨rfl, k2, ?_⟩ (by simp; omega)
      simp only
      rw [hst, g1]
      exact k1
  · have d0 : ¬ ((i : Int) < 32) := by omega
    rw [List.take_of_length_le (by rw [upTo_len]; omega)] at hO
    simp -dsimp (disch := first | omega | assumption | ((simp only [World.size_alloc, size_setRow, List.size_toArray, List.length_cons, List.length_nil, cells_agg, len_enc, cells_int, cells_bool, cells_slice, cells_ptr, cells_string]) <;> omega) | ((repeat (first | with_reducible exact Ext.refl _ | with_reducible assumption | with_reducible apply Ext.alloc | with_reducible apply Ext.drew | (with_reducible refine Ext.setRow ?_ (by (try simp only [World.size_alloc]); omega) _) | (with_reducible refine Ext.tr ?_ (by assumption)))); done) | fail) only [go_sem, jn_r, Nat.reduceAdd, Nat.reduceLeDiff, Nat.reduceMul, Int.reduceToNat, Nat.reduceEqDiff, Nat.reduceLT, Int.reduceBEq, Int.reduceBNe, Int.reduceLT, Int.reduceLE, Int.reduceAdd, Int.reduceSub, Int.reduceMul, Int.reduceDiv, Int.reduceMod, Int.reduceNeg, d0]
    exact ⟨hO, hE⟩
theorem chas_step {i : Nat} (hi : i < 16) {f : Int → Bool} : ((upTo 16).take (i + 1)).filter f = ((upTo 16).take i).filter f ++ (if f (i : Int) then [(i : Int)] else []) := by
  rw [take_next (upTo_get hi), List.filter_append]
  cases h : f (i : Int) <;> simp [h]
set_option maxHeartbeats 1000000 in
theorem rutterref10_Store_Chassis.c (hV : V.Ok) (h : RefAt w q V) : Calls Try.prog rutterref10_Store_Chassis.id #[.pointer (some ⟨q, 0, none⟩)] w (retP fun v w' => Sl (intC .i64) w' v V.chassis ∧ Ext w w') := by
  apply rutterref10_Store_Chassis.sound
  unfold rutterref10_Store_Chassis.sh Vw.chassis
  have h' := blk_of0 h
  refine loop_g (γ := Nat × Value) (fun g st w' => st = [g.2, .int .i64 (g.1 : Int)] ∧ Ext w w' ∧ Ow (intC .i64) 3 w.heap.size w' g.2 (((upTo 16).take g.1).filter V.c)) (fun g => 16 - g.1) (0, .slice none 0 0) ⟨rfl, .refl _, Ow.nil⟩ ?_
  rintro ⟨i, out⟩ st w2 next ⟨rfl, hE, hO⟩ hn
  simp only at hO
  have h2 := hE.blkS h'
  by_cases hi : i < 16
  · have d0 : ((i : Int) < 16) := by omega
    have d00 : ((i : Int) < ((16 : Nat) : Int)) := by omega
    have d1 : (0 : Int) ≤ (i : Int) := by omega
    have ew : IntKind.i64.wrap ((i : Int) + 1) = ((i + 1 : Nat) : Int) := by rw [wrap_64 (by omega) (by omega)]; simp
    have r4 := refArr_flag (V := V) hi
    have hst := chas_step hi (f := V.c)
    have hlen : (((upTo 16).take i).filter V.c).length ≤ 16 := by
      refine Nat.le_trans (List.length_filter_le _ _) ?_
      rw [List.length_take, upTo_len]
      omega
    cases hc : V.c (i : Int) with
    | false =>
      rw [hc] at r4
      simp -dsimp (disch := first | omega | assumption | ((simp only [World.size_alloc, size_setRow, List.size_toArray, List.length_cons, List.length_nil, cells_agg, len_enc, cells_int, cells_bool, cells_slice, cells_ptr, cells_string]) <;> omega) | ((repeat (first | with_reducible exact Ext.refl _ | with_reducible assumption | with_reducible apply Ext.alloc | with_reducible apply Ext.drew | (with_reducible refine Ext.setRow ?_ (by (try simp only [World.size_alloc]); omega) _) | (with_reducible refine Ext.tr ?_ (by assumption)))); done) | fail) only [go_sem, jn_r, Nat.reduceAdd, Nat.reduceLeDiff, Nat.reduceMul, Int.reduceToNat, Nat.reduceEqDiff, Nat.reduceLT, Int.reduceBEq, Int.reduceBNe, Int.reduceLT, Int.reduceLE, Int.reduceAdd, Int.reduceSub, Int.reduceMul, Int.reduceDiv, Int.reduceMod, Int.reduceNeg, d0, d00, d1, h2, r4, Int.toNat_natCast, ew, Nat.mul_one]
      refine hn (i + 1, out) _ _ ⟨rfl, hE, ?_⟩ (by simp; omega)
      simp only
      rw [hst, hc, if_neg (by decide), List.append_nil]
      exact hO
    | true =>
      rw [hc] at r4
      simp -dsimp (disch := first | omega | assumption | ((simp only [World.size_alloc, size_setRow, List.size_toArray, List.length_cons, List.length_nil, cells_agg, len_enc, cells_int, cells_bool, cells_slice, cells_ptr, cells_string]) <;> omega) | ((repeat (first | with_reducible exact Ext.refl _ | with_reducible assumption | with_reducible apply Ext.alloc | with_reducible apply Ext.drew | (with_reducible refine Ext.setRow ?_ (by (try simp only [World.size_alloc]); omega) _) | (with_reducible refine Ext.tr ?_ (by assumption)))); done) | fail) only [go_sem, jn_r, Nat.reduceAdd, Nat.reduceLeDiff, Nat.reduceMul, Int.reduceToNat, Nat.reduceEqDiff, Nat.reduceLT, Int.reduceBEq, Int.reduceBNe, Int.reduceLT, Int.reduceLE, Int.reduceAdd, Int.reduceSub, Int.reduceMul, Int.reduceDiv, Int.reduceMod, Int.reduceNeg, d0, d00, d1, h2, r4, Int.toNat_natCast, Nat.mul_one]
      refine ap_ow (m := [(i : Int)]) (hO.ext (by (repeat (first | with_reducible exact Ext.refl _ | with_reducible assumption | with_reducible apply Ext.alloc | with_reducible apply Ext.drew | (with_reducible refine Ext.setRow ?_ (by (try simp only [World.size_alloc]); omega) _) | (with_reducible refine Ext.tr ?_ (by assumption)))))) (Sl.lit (C := intC .i64) (l := [(i : Int)]) (by simp -dsimp (disch := first | omega | assumption | ((simp only [World.size_alloc, size_setRow, List.size_toArray, List.length_cons, List.length_nil, cells_agg, len_enc, cells_int, cells_bool, cells_slice, cells_ptr, cells_string]) <;> omega) | ((repeat (first | with_reducible exact Ext.refl _ | with_reducible assumption | with_reducible apply Ext.alloc | with_reducible apply Ext.drew | (with_reducible refine Ext.setRow ?_ (by (try simp only [World.size_alloc]); omega) _) | (with_reducible refine Ext.tr ?_ (by assumption)))); done) | fail) only [go_sem, jn_r, Nat.reduceAdd, Nat.reduceLeDiff, Nat.reduceMul, Int.reduceToNat, Nat.reduceEqDiff, Nat.reduceLT, Int.reduceBEq, Int.reduceBNe, Int.reduceLT, Int.reduceLE, Int.reduceAdd, Int.reduceSub, Int.reduceMul, Int.reduceDiv, Int.reduceMod, Int.reduceNeg]; rfl) rfl (by simp; rfl)).from (w0 := w) (by (repeat (first | with_reducible exact Ext.refl _ | with_reducible assumption | with_reducible apply Ext.alloc | with_reducible apply Ext.drew | (with_reducible refine Ext.setRow ?_ (by (try simp only [World.size_alloc]); omega) _) | (with_reducible refine Ext.tr ?_ (by assumption))))) rfl (by simp; omega) ?_
      intro v' w' k1 k2 _ _
      simp -dsimp (disch := first | omega | assumption | ((simp only [World.size_alloc, size_setRow, List.size_toArray, List.length_cons, List.length_nil, cells_agg, len_enc, cells_int, cells_bool, cells_slice, cells_ptr, cells_string]) <;> omega) | ((repeat (first | with_reducible exact Ext.refl _ | with_reducible assumption | with_reducible apply Ext.alloc | with_reducible apply Ext.drew | (with_reducible refine Ext.setRow ?_ (by (try simp only [World.size_alloc]); omega) _) | (with_reducible refine Ext.tr ?_ (by assumption)))); done) | fail) only [go_sem, jn_r, Nat.reduceAdd, Nat.reduceLeDiff, Nat.reduceMul, Int.reduceToNat, Nat.reduceEqDiff, Nat.reduceLT, Int.reduceBEq, Int.reduceBNe, Int.reduceLT, Int.reduceLE, Int.reduceAdd, Int.reduceSub, Int.reduceMul, Int.reduceDiv, Int.reduceMod, Int.reduceNeg, ew]
      refine hn (i + 1, v') _ _ ⟨rfl, k2, ?_⟩ (by simp; omega)
      simp only
      rw [hst, hc, if_pos rfl]
      exact k1
  · have d0 : ¬ ((i : Int) < 16) := by omega
    rw [List.take_of_length_le (by rw [upTo_len]; omega)] at hO
    simp -dsimp (disch := first | omega | assumption | ((simp only [World.size_alloc, size_setRow, List.size_toArray, List.length_cons, List.length_nil, cells_agg, len_enc, cells_int, cells_bool, cells_slice, cells_ptr, cells_string]) <;> omega) | ((repeat (first | with_reducible exact Ext.refl _ | with_reducible assumption | with_reducible apply Ext.alloc | with_reducible apply Ext.drew | (with_reducible refine Ext.setRow ?_ (by (try simp only [World.size_alloc]); omega) _) | (with_reducible refine Ext.tr ?_ (by assumption)))); done) | fail) only [go_sem, jn_r, Nat.reduceAdd, Nat.reduceLeDiff, Nat.reduceMul, Int.reduceToNat, Nat.reduceEqDiff, Nat.reduceLT, Int.reduceBEq, Int.reduceBNe, Int.reduceLT, Int.reduceLE, Int.reduceAdd, Int.reduceSub, Int.reduceMul, Int.reduceDiv, Int.reduceMod, Int.reduceNeg, d0]
    exact ⟨hO.sl, hE⟩
end
end Go.Proofs.Ytbkgijnmckchbaa
