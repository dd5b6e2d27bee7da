/- the database of the program: changes; a database that isn't there. -/
import Derived.Test.YtbkgijnmckchbaaStp
namespace Go.Proofs.Ytbkgijnmckchbaa
open Go
set_option linter.unusedSimpArgs false
set_option linter.unusedVariables false
theorem Vw.goOn_c : ∀ (V : Vw) (l : List (Rw × Int)), (V.goOn l).1.c = V.c
  | V, [] => rfl
  | V, (x, was) :: l => by
    unfold Vw.goOn
    split
    · rfl
    · exact goOn_c (V.put x) l
theorem Vw.apply_go {V : Vw} {l : List (Rw × Int)} {U : Vw} {e : Int} (h : V.goOn l = (U, e)) : V.apply l = if e = 0 then (U, 0) else (V, e) := by
  unfold Vw.apply
  rw [h]
  simp only
  split
  · rename_i h0; rw [h0]
  · rfl
section
variable {w : World} {p : Nat} {B : List Nat} {V : Vw}
set_option maxHeartbeats 1000000 in
theorem store_Store_Apply.c (hV : V.Ok) (h : StAt w p B V) {a1 : Value} {l : List (Rw × Int)} (hs : Sl chgC w a1 l) (hll : l.length ≤ 1000000) :
    Calls Try.prog store_Store_Apply.id #[.pointer (some ⟨p, 0, none⟩), a1] w (retP fun v w' => v = .int .i64 (V.apply l).2 ∧ ∃ B', StAt w' p B' (V.apply l).1 ∧ Chg B w w' ∧ ∀ b ∈ B', b ∈ B ∨ (w.heap.size ≤ b ∧ b < w'.heap.size)) := by
  have h' := h
  obtain ⟨a, c, rfl⟩ := hs.form
  obtain ⟨bc, br, cm, rm, rfl, h1, h2, h3, h4, h5, h6, h7, h8⟩ := h
  have h4' := blk_of0 h4
  have hp := blk_lt h4'
  have hbc := h5.lt
  apply store_Store_Apply.sound
  unfold store_Store_Apply.sh
  simp -dsimp (disch := first | omega | assumption | ((simp only [World.size_alloc, size_setRow, List.size_toArray, List.length_cons, List.length_nil, cells_agg, len_enc, cells_int, cells_bool, cells_slice, cells_ptr, cells_string]) <;> omega) | ((repeat (first | with_reducible exact Ext.refl _ | with_reducible assumption | with_reducible apply Ext.alloc | with_reducible apply Ext.drew | (with_reducible refine Ext.setRow ?_ (by (try simp only [World.size_alloc]); omega) _) | (with_reducible refine Ext.tr ?_ (by assumption)))); done) | fail) only [go_sem, jn_r, Nat.reduceAdd, Nat.reduceLeDiff, Nat.reduceMul, Int.reduceToNat, Nat.reduceEqDiff, Nat.reduceLT, Int.reduceBEq, Int.reduceBNe, Int.reduceLT, Int.reduceLE, Int.reduceAdd, Int.reduceSub, Int.reduceMul, Int.reduceDiv, Int.reduceMod, Int.reduceNeg, h4']
  refine callM (cloneB.c h6) ?_
  rintro _ w1 ⟨rfl, hm, hx⟩
  have hbn := hm.lt
  refine loop_g (γ := Nat × Vw) (fun g st w' => st = [.int .i64 (g.1 : Int)] ∧ Ext w w' ∧ w.heap.size < w'.heap.size ∧ g.2.Ok ∧ g.2.c = V.c ∧ V.goOn l = g.2.goOn (l.drop g.1) ∧ ∃ nm, MpAt Rw.v w' w.heap.size nm ∧ ∀ k, look nm k = g.2.r k) (fun g => l.length - g.1) (0, V) ⟨rfl, hx, hbn, hV, rfl, rfl, rm, hm, h8⟩ ?_
  rintro ⟨i, U⟩ st w2 next ⟨rfl, hE, hz, hU, hc, hgo, nm, hm2, hN⟩ hn
  simp only at hU hc hgo hN
  have hst : StAt w2 p [p, bc, br] V := h'.chg (Ext.chg (S := []) hE) (by simp)
  by_cases hi : i < l.length
  · have d0 : ((i : Int) < (l.length : Int)) := by omega
    have d1 : (0 : Int) ≤ (i : Int) := by omega
    have ew : IntKind.i64.wrap ((i : Int) + 1) = ((i + 1 : Nat) : Int) := by rw [wrap_64 (by omega) (by omega)]; simp
    obtain ⟨⟨x, was⟩, hx1⟩ : ∃ x, l[i]? = some x := ⟨_, List.getElem?_eq_getElem hi⟩
    obtain ⟨b', off, c', cs, hsx, hb', hsz, hag, hj⟩ := (hs.ext hE).at hx1
    cases hsx
    have hag' : agx cs (off + i * 10) 10 = .agg #[.int .i64 x.port, .int .u64 x.mac, .int .i64 x.owner, .int .i64 x.target, .int .i64 x.old, .int .i64 x.gen, .int .i64 x.phase, .int .i64 x.ver, .int .i64 x.since, .int .i64 was] := hag
    have hdrop : l.drop i = (x, was) :: l.drop (i + 1) := by
      rw [List.drop_eq_getElem_cons hi]
      rw [List.getElem?_eq_getElem hi] at hx1
      rw [Option.some.inj hx1]
    rw [hdrop, show U.goOn ((x, was) :: l.drop (i + 1)) = if U.wrong x was ≠ 0 then (U, U.wrong x was) else (U.put x).goOn (l.drop (i + 1)) from rfl] at hgo
    simp -dsimp (disch := first | omega | assumption | ((simp only [World.size_alloc, size_setRow, List.size_toArray, List.length_cons, List.length_nil, cells_agg, len_enc, cells_int, cells_bool, cells_slice, cells_ptr, cells_string]) <;> omega) | ((repeat (first | with_reducible exact Ext.refl _ | with_reducible assumption | with_reducible apply Ext.alloc | with_reducible apply Ext.drew | (with_reducible refine Ext.setRow ?_ (by (try simp only [World.size_alloc]); omega) _) | (with_reducible refine Ext.tr ?_ (by assumption)))); done) | fail) only [go_sem, jn_r, Nat.reduceAdd, Nat.reduceLeDiff, Nat.reduceMul, Int.reduceToNat, Nat.reduceEqDiff, Nat.reduceLT, Int.reduceBEq, Int.reduceBNe, Int.reduceLT, Int.reduceLE, Int.reduceAdd, Int.reduceSub, Int.reduceMul, Int.reduceDiv, Int.reduceMod, Int.reduceNeg, d0, d1, hb', hsz, hag', Int.toNat_natCast]
    refine callM (store_Store_wrong.c hU (hst.chg (Ext.chg (S := []) (by (repeat (first | with_reducible exact Ext.refl _ | with_reducible assumption | with_reducible apply Ext.alloc | with_reducible apply Ext.drew | (with_reducible refine Ext.setRow ?_ (by (try simp only [World.size_alloc]); omega) _) | (with_reducible refine Ext.tr ?_ (by assumption)))))) (by simp)) hc (hm2.ext (by (repeat (first | with_reducible exact Ext.refl _ | with_reducible assumption | with_reducible apply Ext.alloc | with_reducible apply Ext.drew | (with_reducible refine Ext.setRow ?_ (by (try simp only [World.size_alloc]); omega) _) | (with_reducible refine Ext.tr ?_ (by assumption)))))) hN x was) ?_
    rintro _ w3 ⟨rfl, hx3⟩
    have hs3 := hx3.size
    simp only [World.size_alloc] at hs3
    have hE3 : Ext w2 w3 := Ext.tr (by (repeat (first | with_reducible exact Ext.refl _ | with_reducible assumption | with_reducible apply Ext.alloc | with_reducible apply Ext.drew | (with_reducible refine Ext.setRow ?_ (by (try simp only [World.size_alloc]); omega) _) | (with_reducible refine Ext.tr ?_ (by assumption))))) hx3
    have k0 : blk w3 w2.heap.size = some #[.int .i64 x.port, .int .u64 x.mac, .int .i64 x.owner, .int .i64 x.target, .int .i64 x.old, .int .i64 x.gen, .int .i64 x.phase, .int .i64 x.ver, .int .i64 x.since, .int .i64 was] := by simp -dsimp (disch := first | omega | assumption | ((simp only [World.size_alloc, size_setRow, List.size_toArray, List.length_cons, List.length_nil, cells_agg, len_enc, cells_int, cells_bool, cells_slice, cells_ptr, cells_string]) <;> omega) | ((repeat (first | with_reducible exact Ext.refl _ | with_reducible assumption | with_reducible apply Ext.alloc | with_reducible apply Ext.drew | (with_reducible refine Ext.setRow ?_ (by (try simp only [World.size_alloc]); omega) _) | (with_reducible refine Ext.tr ?_ (by assumption)))); done) | fail) only [go_sem, jn_r, Nat.reduceAdd, Nat.reduceLeDiff, Nat.reduceMul, Int.reduceToNat, Nat.reduceEqDiff, Nat.reduceLT, Int.reduceBEq, Int.reduceBNe, Int.reduceLT, Int.reduceLE, Int.reduceAdd, Int.reduceSub, Int.reduceMul, Int.reduceDiv, Int.reduceMod, Int.reduceNeg, hx3.blk]
    by_cases hw : U.wrong x was = 0
    · have e1 : (U.wrong x was != 0) = false := by simp [hw]
      rw [if_neg (not_not_intro hw)] at hgo
      have hm3 := hm2.ext hE3
      have hv0 : x.v = .agg #[.int .i64 x.port, .int .u64 x.mac, .int .i64 x.owner, .int .i64 x.target, .int .i64 x.old, .int .i64 x.gen, .int .i64 x.phase, .int .i64 x.ver, .int .i64 x.since] := rfl
      simp -dsimp (disch := first | omega | assumption | ((simp only [World.size_alloc, size_setRow, List.size_toArray, List.length_cons, List.length_nil, cells_agg, len_enc, cells_int, cells_bool, cells_slice, cells_ptr, cells_string]) <;> omega) | ((repeat (first | with_reducible exact Ext.refl _ | with_reducible assumption | with_reducible apply Ext.alloc | with_reducible apply Ext.drew | (with_reducible refine Ext.setRow ?_ (by (try simp only [World.size_alloc]); omega) _) | (with_reducible refine Ext.tr ?_ (by assumption)))); done) | fail) only [go_sem, jn_r, Nat.reduceAdd, Nat.reduceLeDiff, Nat.reduceMul, Int.reduceToNat, Nat.reduceEqDiff, Nat.reduceLT, Int.reduceBEq, Int.reduceBNe, Int.reduceLT, Int.reduceLE, Int.reduceAdd, Int.reduceSub, Int.reduceMul, Int.reduceDiv, Int.reduceMod, Int.reduceNeg, e1, k0]
      rw [← hv0]
      refine mu_r hm3 fun w4 hm4 hC4 => ?_
      simp -dsimp (disch := first | omega | assumption | ((simp only [World.size_alloc, size_setRow, List.size_toArray, List.length_cons, List.length_nil, cells_agg, len_enc, cells_int, cells_bool, cells_slice, cells_ptr, cells_string]) <;> omega) | ((repeat (first | with_reducible exact Ext.refl _ | with_reducible assumption | with_reducible apply Ext.alloc | with_reducible apply Ext.drew | (with_reducible refine Ext.setRow ?_ (by (try simp only [World.size_alloc]); omega) _) | (with_reducible refine Ext.tr ?_ (by assumption)))); done) | fail) only [go_sem, jn_r, Nat.reduceAdd, Nat.reduceLeDiff, Nat.reduceMul, Int.reduceToNat, Nat.reduceEqDiff, Nat.reduceLT, Int.reduceBEq, Int.reduceBNe, Int.reduceLT, Int.reduceLE, Int.reduceAdd, Int.reduceSub, Int.reduceMul, Int.reduceDiv, Int.reduceMod, Int.reduceNeg, ew]
      refine hn (i + 1, U.put x) _ _ ⟨rfl, (hE.tr hE3).then hC4 (by simp), by have := hC4.size; omega, Vw.put_ok hU (Vw.wrong_ok hw), hc, hgo, _, hm4, fun k => ?_⟩ (by simp; omega)
      rw [look_mset hm2.nd, hN]
      rfl
    · have e1 : (U.wrong x was != 0) = true := by simp [hw]
      rw [if_pos hw] at hgo
      rw [Vw.apply_go hgo, if_neg hw]
      simp -dsimp (disch := first | omega | assumption | ((simp only [World.size_alloc, size_setRow, List.size_toArray, List.length_cons, List.length_nil, cells_agg, len_enc, cells_int, cells_bool, cells_slice, cells_ptr, cells_string]) <;> omega) | ((repeat (first | with_reducible exact Ext.refl _ | with_reducible assumption | with_reducible apply Ext.alloc | with_reducible apply Ext.drew | (with_reducible refine Ext.setRow ?_ (by (try simp only [World.size_alloc]); omega) _) | (with_reducible refine Ext.tr ?_ (by assumption)))); done) | fail) only [go_sem, jn_r, Nat.reduceAdd, Nat.reduceLeDiff, Nat.reduceMul, Int.reduceToNat, Nat.reduceEqDiff, Nat.reduceLT, Int.reduceBEq, Int.reduceBNe, Int.reduceLT, Int.reduceLE, Int.reduceAdd, Int.reduceSub, Int.reduceMul, Int.reduceDiv, Int.reduceMod, Int.reduceNeg, e1]
      exact ⟨_, hst.chg (Ext.chg (S := []) hE3) (by simp), (hE.tr hE3).chg, fun b hb => .inl hb⟩
  · have d0 : ¬ ((i : Int) < (l.length : Int)) := by omega
    rw [List.drop_eq_nil_of_le (by omega), show U.goOn [] = (U, 0) from rfl] at hgo
    rw [Vw.apply_go hgo, if_pos rfl]
    have k4 : blk0 w2 p = some _ := (hE.blk0 hp).trans h4
    simp -dsimp (disch := first | omega | assumption | ((simp only [World.size_alloc, size_setRow, List.size_toArray, List.length_cons, List.length_nil, cells_agg, len_enc, cells_int, cells_bool, cells_slice, cells_ptr, cells_string]) <;> omega) | ((repeat (first | with_reducible exact Ext.refl _ | with_reducible assumption | with_reducible apply Ext.alloc | with_reducible apply Ext.drew | (with_reducible refine Ext.setRow ?_ (by (try simp only [World.size_alloc]); omega) _) | (with_reducible refine Ext.tr ?_ (by assumption)))); done) | fail) only [go_sem, jn_r, Nat.reduceAdd, Nat.reduceLeDiff, Nat.reduceMul, Int.reduceToNat, Nat.reduceEqDiff, Nat.reduceLT, Int.reduceBEq, Int.reduceBNe, Int.reduceLT, Int.reduceLE, Int.reduceAdd, Int.reduceSub, Int.reduceMul, Int.reduceDiv, Int.reduceMod, Int.reduceNeg, d0, k4]
    have hC : Chg [p] w2 (w2.setRow p #[.map (some bc), .map (some w.heap.size)]) := (Chg.refl [p] w2).setRow (.inl (List.mem_singleton.2 rfl)) _
    refine ⟨_, ⟨bc, w.heap.size, cm, nm, rfl, h1, by omega, by omega, ?_, (h5.ext hE).chg hC (by simpa using h1.symm), hm2.chg hC (by simp; omega), fun k => ?_, hN⟩, ?_, ?_⟩
    · simp -dsimp (disch := first | omega | assumption | ((simp only [World.size_alloc, size_setRow, List.size_toArray, List.length_cons, List.length_nil, cells_agg, len_enc, cells_int, cells_bool, cells_slice, cells_ptr, cells_string]) <;> omega) | ((repeat (first | with_reducible exact Ext.refl _ | with_reducible assumption | with_reducible apply Ext.alloc | with_reducible apply Ext.drew | (with_reducible refine Ext.setRow ?_ (by (try simp only [World.size_alloc]); omega) _) | (with_reducible refine Ext.tr ?_ (by assumption)))); done) | fail) only [go_sem, jn_r, Nat.reduceAdd, Nat.reduceLeDiff, Nat.reduceMul, Int.reduceToNat, Nat.reduceEqDiff, Nat.reduceLT, Int.reduceBEq, Int.reduceBNe, Int.reduceLT, Int.reduceLE, Int.reduceAdd, Int.reduceSub, Int.reduceMul, Int.reduceDiv, Int.reduceMod, Int.reduceNeg, k4]
    · rw [hc]; exact h7 k
    · exact (hE.chg (S := [p, bc, br])).tr hC (by simp)
    · intro b hb
      simp only [List.mem_cons, List.not_mem_nil, or_false] at hb
      rcases hb with rfl | rfl | rfl
      · exact .inl (by simp)
      · exact .inl (by simp)
      · refine .inr ⟨Nat.le_refl _, ?_⟩
        omega
end
/- ### no store -/
section
variable (w : World)
theorem store_Store_Add.n (k : Int) : Calls Try.prog store_Store_Add.id #[.pointer none, .int .i64 k] w (retP fun v w' => v = .int .i64 1 ∧ w' = w) := by
  apply store_Store_Add.sound
  unfold store_Store_Add.sh
  simp -dsimp (disch := first | omega | assumption | ((simp only [World.size_alloc, size_setRow, List.size_toArray, List.length_cons, List.length_nil, cells_agg, len_enc, cells_int, cells_bool, cells_slice, cells_ptr, cells_string]) <;> omega) | ((repeat (first | with_reducible exact Ext.refl _ | with_reducible assumption | with_reducible apply Ext.alloc | with_reducible apply Ext.drew | (with_reducible refine Ext.setRow ?_ (by (try simp only [World.size_alloc]); omega) _) | (with_reducible refine Ext.tr ?_ (by assumption)))); done) | fail) only [go_sem, jn_r, Nat.reduceAdd, Nat.reduceLeDiff, Nat.reduceMul, Int.reduceToNat, Nat.reduceEqDiff, Nat.reduceLT, Int.reduceBEq, Int.reduceBNe, Int.reduceLT, Int.reduceLE, Int.reduceAdd, Int.reduceSub, Int.reduceMul, Int.reduceDiv, Int.reduceMod, Int.reduceNeg]
theorem store_Store_Remove.n (k : Int) : Calls Try.prog store_Store_Remove.id #[.pointer none, .int .i64 k] w (retP fun v w' => v = .int .i64 1 ∧ w' = w) := by
  apply store_Store_Remove.sound
  unfold store_Store_Remove.sh
  simp -dsimp (disch := first | omega | assumption | ((simp only [World.size_alloc, size_setRow, List.size_toArray, List.length_cons, List.length_nil, cells_agg, len_enc, cells_int, cells_bool, cells_slice, cells_ptr, cells_string]) <;> omega) | ((repeat (first | with_reducible exact Ext.refl _ | with_reducible assumption | with_reducible apply Ext.alloc | with_reducible apply Ext.drew | (with_reducible refine Ext.setRow ?_ (by (try simp only [World.size_alloc]); omega) _) | (with_reducible refine Ext.tr ?_ (by assumption)))); done) | fail) only [go_sem, jn_r, Nat.reduceAdd, Nat.reduceLeDiff, Nat.reduceMul, Int.reduceToNat, Nat.reduceEqDiff, Nat.reduceLT, Int.reduceBEq, Int.reduceBNe, Int.reduceLT, Int.reduceLE, Int.reduceAdd, Int.reduceSub, Int.reduceMul, Int.reduceDiv, Int.reduceMod, Int.reduceNeg]
theorem store_Store_Apply.n (x : Value) : Calls Try.prog store_Store_Apply.id #[.pointer none, x] w (retP fun v w' => v = .int .i64 1 ∧ w' = w) := by
  apply store_Store_Apply.sound
  unfold store_Store_Apply.sh
  simp -dsimp (disch := first | omega | assumption | ((simp only [World.size_alloc, size_setRow, List.size_toArray, List.length_cons, List.length_nil, cells_agg, len_enc, cells_int, cells_bool, cells_slice, cells_ptr, cells_string]) <;> omega) | ((repeat (first | with_reducible exact Ext.refl _ | with_reducible assumption | with_reducible apply Ext.alloc | with_reducible apply Ext.drew | (with_reducible refine Ext.setRow ?_ (by (try simp only [World.size_alloc]); omega) _) | (with_reducible refine Ext.tr ?_ (by assumption)))); done) | fail) only [go_sem, jn_r, Nat.reduceAdd, Nat.reduceLeDiff, Nat.reduceMul, Int.reduceToNat, Nat.reduceEqDiff, Nat.reduceLT, Int.reduceBEq, Int.reduceBNe, Int.reduceLT, Int.reduceLE, Int.reduceAdd, Int.reduceSub, Int.reduceMul, Int.reduceDiv, Int.reduceMod, Int.reduceNeg]
theorem store_Store_Has.n (k : Int) : Calls Try.prog store_Store_Has.id #[.pointer none, .int .i64 k] w (retP fun v w' => v = .bool false ∧ w' = w) := by
  apply store_Store_Has.sound
  unfold store_Store_Has.sh
  simp -dsimp (disch := first | omega | assumption | ((simp only [World.size_alloc, size_setRow, List.size_toArray, List.length_cons, List.length_nil, cells_agg, len_enc, cells_int, cells_bool, cells_slice, cells_ptr, cells_string]) <;> omega) | ((repeat (first | with_reducible exact Ext.refl _ | with_reducible assumption | with_reducible apply Ext.alloc | with_reducible apply Ext.drew | (with_reducible refine Ext.setRow ?_ (by (try simp only [World.size_alloc]); omega) _) | (with_reducible refine Ext.tr ?_ (by assumption)))); done) | fail) only [go_sem, jn_r, Nat.reduceAdd, Nat.reduceLeDiff, Nat.reduceMul, Int.reduceToNat, Nat.reduceEqDiff, Nat.reduceLT, Int.reduceBEq, Int.reduceBNe, Int.reduceLT, Int.reduceLE, Int.reduceAdd, Int.reduceSub, Int.reduceMul, Int.reduceDiv, Int.reduceMod, Int.reduceNeg]
theorem store_Store_Chassis.n : Calls Try.prog store_Store_Chassis.id #[.pointer none] w (retP fun v w' => v = .slice none 0 0 ∧ w' = w) := by
  apply store_Store_Chassis.sound
  unfold store_Store_Chassis.sh
  simp -dsimp (disch := first | omega | assumption | ((simp only [World.size_alloc, size_setRow, List.size_toArray, List.length_cons, List.length_nil, cells_agg, len_enc, cells_int, cells_bool, cells_slice, cells_ptr, cells_string]) <;> omega) | ((repeat (first | with_reducible exact Ext.refl _ | with_reducible assumption | with_reducible apply Ext.alloc | with_reducible apply Ext.drew | (with_reducible refine Ext.setRow ?_ (by (try simp only [World.size_alloc]); omega) _) | (with_reducible refine Ext.tr ?_ (by assumption)))); done) | fail) only [go_sem, jn_r, Nat.reduceAdd, Nat.reduceLeDiff, Nat.reduceMul, Int.reduceToNat, Nat.reduceEqDiff, Nat.reduceLT, Int.reduceBEq, Int.reduceBNe, Int.reduceLT, Int.reduceLE, Int.reduceAdd, Int.reduceSub, Int.reduceMul, Int.reduceDiv, Int.reduceMod, Int.reduceNeg]
theorem store_Store_Rows.n : Calls Try.prog store_Store_Rows.id #[.pointer none] w (retP fun v w' => v = .slice none 0 0 ∧ w' = w) := by
  apply store_Store_Rows.sound
  unfold store_Store_Rows.sh
  simp -dsimp (disch := first | omega | assumption | ((simp only [World.size_alloc, size_setRow, List.size_toArray, List.length_cons, List.length_nil, cells_agg, len_enc, cells_int, cells_bool, cells_slice, cells_ptr, cells_string]) <;> omega) | ((repeat (first | with_reducible exact Ext.refl _ | with_reducible assumption | with_reducible apply Ext.alloc | with_reducible apply Ext.drew | (with_reducible refine Ext.setRow ?_ (by (try simp only [World.size_alloc]); omega) _) | (with_reducible refine Ext.tr ?_ (by assumption)))); done) | fail) only [go_sem, jn_r, Nat.reduceAdd, Nat.reduceLeDiff, Nat.reduceMul, Int.reduceToNat, Nat.reduceEqDiff, Nat.reduceLT, Int.reduceBEq, Int.reduceBNe, Int.reduceLT, Int.reduceLE, Int.reduceAdd, Int.reduceSub, Int.reduceMul, Int.reduceDiv, Int.reduceMod, Int.reduceNeg]
theorem store_Store_Row.n (k : Int) : Calls Try.prog store_Store_Row.id #[.pointer none, .int .i64 k] w (retP fun v w' => v = .tuple #[Rw.zero.v, .bool false] ∧ Ext w w') := by
  apply store_Store_Row.sound
  unfold store_Store_Row.sh
  simp -dsimp (disch := first | omega | assumption | ((simp only [World.size_alloc, size_setRow, List.size_toArray, List.length_cons, List.length_nil, cells_agg, len_enc, cells_int, cells_bool, cells_slice, cells_ptr, cells_string]) <;> omega) | ((repeat (first | with_reducible exact Ext.refl _ | with_reducible assumption | with_reducible apply Ext.alloc | with_reducible apply Ext.drew | (with_reducible refine Ext.setRow ?_ (by (try simp only [World.size_alloc]); omega) _) | (with_reducible refine Ext.tr ?_ (by assumption)))); done) | fail) only [go_sem, jn_r, Nat.reduceAdd, Nat.reduceLeDiff, Nat.reduceMul, Int.reduceToNat, Nat.reduceEqDiff, Nat.reduceLT, Int.reduceBEq, Int.reduceBNe, Int.reduceLT, Int.reduceLE, Int.reduceAdd, Int.reduceSub, Int.reduceMul, Int.reduceDiv, Int.reduceMod, Int.reduceNeg]
  exact ⟨rfl, by (repeat (first | with_reducible exact Ext.refl _ | with_reducible assumption | with_reducible apply Ext.alloc | with_reducible apply Ext.drew | (with_reducible refine Ext.setRow ?_ (by (try simp only [World.size_alloc]); omega) _) | (with_reducible refine Ext.tr ?_ (by assumption))))⟩
theorem store_Store_Find.n (mac : Int) : Calls Try.prog store_Store_Find.id #[.pointer none, .int .u64 mac] w (retP fun v w' => v = .tuple #[Rw.zero.v, .bool false] ∧ Ext w w') := by
  apply store_Store_Find.sound
  unfold store_Store_Find.sh
  simp -dsimp (disch := first | omega | assumption | ((simp only [World.size_alloc, size_setRow, List.size_toArray, List.length_cons, List.length_nil, cells_agg, len_enc, cells_int, cells_bool, cells_slice, cells_ptr, cells_string]) <;> omega) | ((repeat (first | with_reducible exact Ext.refl _ | with_reducible assumption | with_reducible apply Ext.alloc | with_reducible apply Ext.drew | (with_reducible refine Ext.setRow ?_ (by (try simp only [World.size_alloc]); omega) _) | (with_reducible refine Ext.tr ?_ (by assumption)))); done) | fail) only [go_sem, jn_r, Nat.reduceAdd, Nat.reduceLeDiff, Nat.reduceMul, Int.reduceToNat, Nat.reduceEqDiff, Nat.reduceLT, Int.reduceBEq, Int.reduceBNe, Int.reduceLT, Int.reduceLE, Int.reduceAdd, Int.reduceSub, Int.reduceMul, Int.reduceDiv, Int.reduceMod, Int.reduceNeg]
  refine callM (store_Store_Rows.n _) ?_
  rintro _ w1 ⟨rfl, rfl⟩
  simp -dsimp (disch := first | omega | assumption | ((simp only [World.size_alloc, size_setRow, List.size_toArray, List.length_cons, List.length_nil, cells_agg, len_enc, cells_int, cells_bool, cells_slice, cells_ptr, cells_string]) <;> omega) | ((repeat (first | with_reducible exact Ext.refl _ | with_reducible assumption | with_reducible apply Ext.alloc | with_reducible apply Ext.drew | (with_reducible refine Ext.setRow ?_ (by (try simp only [World.size_alloc]); omega) _) | (with_reducible refine Ext.tr ?_ (by assumption)))); done) | fail) only [go_sem, jn_r, Nat.reduceAdd, Nat.reduceLeDiff, Nat.reduceMul, Int.reduceToNat, Nat.reduceEqDiff, Nat.reduceLT, Int.reduceBEq, Int.reduceBNe, Int.reduceLT, Int.reduceLE, Int.reduceAdd, Int.reduceSub, Int.reduceMul, Int.reduceDiv, Int.reduceMod, Int.reduceNeg]
  refine loop_g (γ := Unit) (fun _ st w' => st = [.int .i64 0] ∧ w' = w.alloc (.cells #[(.int .i64 0), (.int .u64 0), (.int .i64 0), (.int .i64 0), (.int .i64 0), (.int .i64 0), (.int .i64 0), (.int .i64 0), (.int .i64 0)] 33)) (fun _ => 0) () ⟨rfl, rfl⟩ ?_
  rintro _ st w1 next ⟨rfl, rfl⟩ hn
  have d0 : ¬ ((0 : Int) < ((0 : Nat) : Int)) := by omega
  simp -dsimp (disch := first | omega | assumption | ((simp only [World.size_alloc, size_setRow, List.size_toArray, List.length_cons, List.length_nil, cells_agg, len_enc, cells_int, cells_bool, cells_slice, cells_ptr, cells_string]) <;> omega) | ((repeat (first | with_reducible exact Ext.refl _ | with_reducible assumption | with_reducible apply Ext.alloc | with_reducible apply Ext.drew | (with_reducible refine Ext.setRow ?_ (by (try simp only [World.size_alloc]); omega) _) | (with_reducible refine Ext.tr ?_ (by assumption)))); done) | fail) only [go_sem, jn_r, Nat.reduceAdd, Nat.reduceLeDiff, Nat.reduceMul, Int.reduceToNat, Nat.reduceEqDiff, Nat.reduceLT, Int.reduceBEq, Int.reduceBNe, Int.reduceLT, Int.reduceLE, Int.reduceAdd, Int.reduceSub, Int.reduceMul, Int.reduceDiv, Int.reduceMod, Int.reduceNeg, d0]
  exact ⟨rfl, by (repeat (first | with_reducible exact Ext.refl _ | with_reducible assumption | with_reducible apply Ext.alloc | with_reducible apply Ext.drew | (with_reducible refine Ext.setRow ?_ (by (try simp only [World.size_alloc]); omega) _) | (with_reducible refine Ext.tr ?_ (by assumption))))⟩
theorem store_Store_Late.n (x y : Int) : Calls Try.prog store_Store_Late.id #[.pointer none, .int .i64 x, .int .i64 y] w (retP fun v w' => v = .slice none 0 0 ∧ w' = w) := by
  apply store_Store_Late.sound
  unfold store_Store_Late.sh
  simp -dsimp (disch := first | omega | assumption | ((simp only [World.size_alloc, size_setRow, List.size_toArray, List.length_cons, List.length_nil, cells_agg, len_enc, cells_int, cells_bool, cells_slice, cells_ptr, cells_string]) <;> omega) | ((repeat (first | with_reducible exact Ext.refl _ | with_reducible assumption | with_reducible apply Ext.alloc | with_reducible apply Ext.drew | (with_reducible refine Ext.setRow ?_ (by (try simp only [World.size_alloc]); omega) _) | (with_reducible refine Ext.tr ?_ (by assumption)))); done) | fail) only [go_sem, jn_r, Nat.reduceAdd, Nat.reduceLeDiff, Nat.reduceMul, Int.reduceToNat, Nat.reduceEqDiff, Nat.reduceLT, Int.reduceBEq, Int.reduceBNe, Int.reduceLT, Int.reduceLE, Int.reduceAdd, Int.reduceSub, Int.reduceMul, Int.reduceDiv, Int.reduceMod, Int.reduceNeg]
  refine callM (store_Store_Rows.n _) ?_
  rintro _ w1 ⟨rfl, rfl⟩
  simp -dsimp (disch := first | omega | assumption | ((simp only [World.size_alloc, size_setRow, List.size_toArray, List.length_cons, List.length_nil, cells_agg, len_enc, cells_int, cells_bool, cells_slice, cells_ptr, cells_string]) <;> omega) | ((repeat (first | with_reducible exact Ext.refl _ | with_reducible assumption | with_reducible apply Ext.alloc | with_reducible apply Ext.drew | (with_reducible refine Ext.setRow ?_ (by (try simp only [World.size_alloc]); omega) _) | (with_reducible refine Ext.tr ?_ (by assumption)))); done) | fail) only [go_sem, jn_r, Nat.reduceAdd, Nat.reduceLeDiff, Nat.reduceMul, Int.reduceToNat, Nat.reduceEqDiff, Nat.reduceLT, Int.reduceBEq, Int.reduceBNe, Int.reduceLT, Int.reduceLE, Int.reduceAdd, Int.reduceSub, Int.reduceMul, Int.reduceDiv, Int.reduceMod, Int.reduceNeg]
  refine loop_g (γ := Unit) (fun _ st w' => st = [.slice none 0 0, .int .i64 0] ∧ w' = w1) (fun _ => 0) () ⟨rfl, rfl⟩ ?_
  rintro _ st w2 next ⟨rfl, rfl⟩ hn
  have d0 : ¬ ((0 : Int) < ((0 : Nat) : Int)) := by omega
  simp -dsimp (disch := first | omega | assumption | ((simp only [World.size_alloc, size_setRow, List.size_toArray, List.length_cons, List.length_nil, cells_agg, len_enc, cells_int, cells_bool, cells_slice, cells_ptr, cells_string]) <;> omega) | ((repeat (first | with_reducible exact Ext.refl _ | with_reducible assumption | with_reducible apply Ext.alloc | with_reducible apply Ext.drew | (with_reducible refine Ext.setRow ?_ (by (try simp only [World.size_alloc]); omega) _) | (with_reducible refine Ext.tr ?_ (by assumption)))); done) | fail) only [go_sem, jn_r, Nat.reduceAdd, Nat.reduceLeDiff, Nat.reduceMul, Int.reduceToNat, Nat.reduceEqDiff, Nat.reduceLT, Int.reduceBEq, Int.reduceBNe, Int.reduceLT, Int.reduceLE, Int.reduceAdd, Int.reduceSub, Int.reduceMul, Int.reduceDiv, Int.reduceMod, Int.reduceNeg, d0]
end
end Go.Proofs.Ytbkgijnmckchbaa
