/- the database of the document: what it tells and does. -/
import Derived.Test.YtbkgijnmckchbaaRtb
namespace Go.Proofs.Ytbkgijnmckchbaa
open Go
set_option linter.unusedSimpArgs false
set_option linter.unusedVariables false
def RefAt (w : World) (q : Nat) (V : Vw) : Prop := blk0 w q = some (refArr V)
theorem RefAt.chg {w w' : World} {q : Nat} {S : List Nat} {V : Vw} (h : RefAt w q V) (hc : Chg S w w') (hn : q ∉ S) : RefAt w' q V := hc.blk0S h hn
theorem RefAt.ext {w w' : World} {q : Nat} {V : Vw} (h : RefAt w q V) (hc : Ext w w') : RefAt w' q V := h.chg (hc.chg (S := [])) (by simp)
theorem Vw.at_cases {V : Vw} (hV : V.Ok) (n : Nat) : (V.r (n : Int) = none ∧ V.at n = Rw.zero) ∨ ∃ x, V.r (n : Int) = some x ∧ V.at n = x ∧ 1 ≤ x.ver ∧ x.Ok ∧ x.port = n := by
  cases h : V.r (n : Int) with
  | none => exact .inl ⟨rfl, by unfold Vw.at; rw [h]; rfl⟩
  | some x =>
    obtain ⟨h1, h2⟩ := hV.r _ x h
    have := h2.bnd
    exact .inr ⟨x, rfl, by unfold Vw.at; rw [h]; rfl, by omega, h2, h1⟩
section
variable {w : World} {q : Nat} {V : Vw}
theorem refArr_c {k : Int} (h : 0 ≤ k ∧ k ≤ 15) : (refArr V)[k.toNat]? = some (.bool (V.c k)) := by
  rw [refArr_flag (by omega)]
  congr 3
  omega
theorem rutterref10_Store_Has.c (hV : V.Ok) (h : RefAt w q V) (k : Int) : Calls Try.prog rutterref10_Store_Has.id #[.pointer (some ⟨q, 0, none⟩), .int .i64 k] w (retP fun v w' => v = .bool (V.c k) ∧ w' = w) := by
  apply rutterref10_Store_Has.sound
  unfold rutterref10_Store_Has.sh
  have h' := blk_of0 h
  by_cases hk : 0 ≤ k ∧ k ≤ 15
  · have e1 : k < 16 := by omega
    have e2 : k < ((16 : Nat) : Int) := by omega
    simp -dsimp (disch := first | omega | assumption | ((simp only [World.size_alloc, size_setRow, List.size_toArray, List.length_cons, List.length_nil, cells_agg, len_enc, cells_int, cells_bool, cells_slice, cells_ptr, cells_string]) <;> omega) | ((repeat (first | with_reducible exact Ext.refl _ | with_reducible assumption | with_reducible apply Ext.alloc | with_reducible apply Ext.drew | (with_reducible refine Ext.setRow ?_ (by (try simp only [World.size_alloc]); omega) _) | (with_reducible refine Ext.tr ?_ (by assumption)))); done) | fail) only [go_sem, jn_r, Nat.reduceAdd, Nat.reduceLeDiff, Nat.reduceMul, Int.reduceToNat, Nat.reduceEqDiff, Nat.reduceLT, Int.reduceBEq, Int.reduceBNe, Int.reduceLT, Int.reduceLE, Int.reduceAdd, Int.reduceSub, Int.reduceMul, Int.reduceDiv, Int.reduceMod, Int.reduceNeg, e1, e2, hk.1, h', refArr_c hk, Nat.mul_one]
  · have e1 : (decide (0 ≤ k) && decide (k < 16)) = false := by simp; omega
    have e2 : V.c k = false := by cases hc : V.c k with | false => rfl | true => exact absurd (hV.c k hc) hk
    simp -dsimp (disch := first | omega | assumption | ((simp only [World.size_alloc, size_setRow, List.size_toArray, List.length_cons, List.length_nil, cells_agg, len_enc, cells_int, cells_bool, cells_slice, cells_ptr, cells_string]) <;> omega) | ((repeat (first | with_reducible exact Ext.refl _ | with_reducible assumption | with_reducible apply Ext.alloc | with_reducible apply Ext.drew | (with_reducible refine Ext.setRow ?_ (by (try simp only [World.size_alloc]); omega) _) | (with_reducible refine Ext.tr ?_ (by assumption)))); done) | fail) only [go_sem, jn_r, Nat.reduceAdd, Nat.reduceLeDiff, Nat.reduceMul, Int.reduceToNat, Nat.reduceEqDiff, Nat.reduceLT, Int.reduceBEq, Int.reduceBNe, Int.reduceLT, Int.reduceLE, Int.reduceAdd, Int.reduceSub, Int.reduceMul, Int.reduceDiv, Int.reduceMod, Int.reduceNeg, e1, e2]
theorem rutterref10_Store_Add.c (hV : V.Ok) (h : RefAt w q V) (k : Int) : Calls Try.prog rutterref10_Store_Add.id #[.pointer (some ⟨q, 0, none⟩), .int .i64 k] w (retP fun v w' => v = .int .i64 (V.add k).2 ∧ RefAt w' q (V.add k).1 ∧ Chg [q] w w') := by
  apply rutterref10_Store_Add.sound
  unfold rutterref10_Store_Add.sh
  have h' := blk_of0 h
  unfold Vw.add
  by_cases hk : 0 ≤ k ∧ k ≤ 15
  · rw [if_neg (not_not_intro hk)]
    have e1 : (decide (k < 0) || decide (15 < k)) = false := by simp; omega
    have e2 : k < ((16 : Nat) : Int) := by omega
    have h0 : blk0 w q = some (refArr V) := h
    have e3 : k.toNat < 304 := by omega
    cases hc : V.c k with
    | true =>
      rw [if_pos rfl]
      simp -dsimp (disch := first | omega | assumption | ((simp only [World.size_alloc, size_setRow, List.size_toArray, List.length_cons, List.length_nil, cells_agg, len_enc, cells_int, cells_bool, cells_slice, cells_ptr, cells_string]) <;> omega) | ((repeat (first | with_reducible exact Ext.refl _ | with_reducible assumption | with_reducible apply Ext.alloc | with_reducible apply Ext.drew | (with_reducible refine Ext.setRow ?_ (by (try simp only [World.size_alloc]); omega) _) | (with_reducible refine Ext.tr ?_ (by assumption)))); done) | fail) only [go_sem, jn_r, Nat.reduceAdd, Nat.reduceLeDiff, Nat.reduceMul, Int.reduceToNat, Nat.reduceEqDiff, Nat.reduceLT, Int.reduceBEq, Int.reduceBNe, Int.reduceLT, Int.reduceLE, Int.reduceAdd, Int.reduceSub, Int.reduceMul, Int.reduceDiv, Int.reduceMod, Int.reduceNeg, e1, e2, hk.1, h', refArr_c hk, Nat.mul_one, hc]
      exact ⟨h, .refl _ _⟩
    | false =>
      rw [if_neg (by decide)]
      simp -dsimp (disch := first | omega | assumption | ((simp only [World.size_alloc, size_setRow, List.size_toArray, List.length_cons, List.length_nil, cells_agg, len_enc, cells_int, cells_bool, cells_slice, cells_ptr, cells_string]) <;> omega) | ((repeat (first | with_reducible exact Ext.refl _ | with_reducible assumption | with_reducible apply Ext.alloc | with_reducible apply Ext.drew | (with_reducible refine Ext.setRow ?_ (by (try simp only [World.size_alloc]); omega) _) | (with_reducible refine Ext.tr ?_ (by assumption)))); done) | fail) only [go_sem, jn_r, Nat.reduceAdd, Nat.reduceLeDiff, Nat.reduceMul, Int.reduceToNat, Nat.reduceEqDiff, Nat.reduceLT, Int.reduceBEq, Int.reduceBNe, Int.reduceLT, Int.reduceLE, Int.reduceAdd, Int.reduceSub, Int.reduceMul, Int.reduceDiv, Int.reduceMod, Int.reduceNeg, e1, e2, hk.1, h', h0, refArr_c hk, Nat.mul_one, hc, refArr_setC hk, e3]
      refine ⟨?_, (Chg.refl [q] w).setRow (.inl (List.mem_singleton.2 rfl)) _⟩
      unfold RefAt
      simp -dsimp (disch := first | omega | assumption | ((simp only [World.size_alloc, size_setRow, List.size_toArray, List.length_cons, List.length_nil, cells_agg, len_enc, cells_int, cells_bool, cells_slice, cells_ptr, cells_string]) <;> omega) | ((repeat (first | with_reducible exact Ext.refl _ | with_reducible assumption | with_reducible apply Ext.alloc | with_reducible apply Ext.drew | (with_reducible refine Ext.setRow ?_ (by (try simp only [World.size_alloc]); omega) _) | (with_reducible refine Ext.tr ?_ (by assumption)))); done) | fail) only [go_sem, jn_r, Nat.reduceAdd, Nat.reduceLeDiff, Nat.reduceMul, Int.reduceToNat, Nat.reduceEqDiff, Nat.reduceLT, Int.reduceBEq, Int.reduceBNe, Int.reduceLT, Int.reduceLE, Int.reduceAdd, Int.reduceSub, Int.reduceMul, Int.reduceDiv, Int.reduceMod, Int.reduceNeg, h0]
      rfl
  · rw [if_pos hk]
    have e1 : (decide (k < 0) || decide (15 < k)) = true := by simp; omega
    simp -dsimp (disch := first | omega | assumption | ((simp only [World.size_alloc, size_setRow, List.size_toArray, List.length_cons, List.length_nil, cells_agg, len_enc, cells_int, cells_bool, cells_slice, cells_ptr, cells_string]) <;> omega) | ((repeat (first | with_reducible exact Ext.refl _ | with_reducible assumption | with_reducible apply Ext.alloc | with_reducible apply Ext.drew | (with_reducible refine Ext.setRow ?_ (by (try simp only [World.size_alloc]); omega) _) | (with_reducible refine Ext.tr ?_ (by assumption)))); done) | fail) only [go_sem, jn_r, Nat.reduceAdd, Nat.reduceLeDiff, Nat.reduceMul, Int.reduceToNat, Nat.reduceEqDiff, Nat.reduceLT, Int.reduceBEq, Int.reduceBNe, Int.reduceLT, Int.reduceLE, Int.reduceAdd, Int.reduceSub, Int.reduceMul, Int.reduceDiv, Int.reduceMod, Int.reduceNeg, e1]
    exact ⟨h, .refl _ _⟩
theorem rutterref10_used.c (w : World) (x : Rw) (k : Int) : Calls Try.prog rutterref10_used.id #[x.v, .int .i64 k] w (retP fun v w' => v = .bool (decide (0 < x.ver) && (x.owner == k || x.target == k || x.old == k)) ∧ Ext w w') := by
  apply rutterref10_used.sound
  unfold rutterref10_used.sh Rw.v
  cases hv : decide (0 < x.ver) with
  | true =>
    simp -dsimp (disch := first | omega | assumption | ((simp only [World.size_alloc, size_setRow, List.size_toArray, List.length_cons, List.length_nil, cells_agg, len_enc, cells_int, cells_bool, cells_slice, cells_ptr, cells_string]) <;> omega) | ((repeat (first | with_reducible exact Ext.refl _ | with_reducible assumption | with_reducible apply Ext.alloc | with_reducible apply Ext.drew | (with_reducible refine Ext.setRow ?_ (by (try simp only [World.size_alloc]); omega) _) | (with_reducible refine Ext.tr ?_ (by assumption)))); done) | fail) only [go_sem, jn_r, Nat.reduceAdd, Nat.reduceLeDiff, Nat.reduceMul, Int.reduceToNat, Nat.reduceEqDiff, Nat.reduceLT, Int.reduceBEq, Int.reduceBNe, Int.reduceLT, Int.reduceLE, Int.reduceAdd, Int.reduceSub, Int.reduceMul, Int.reduceDiv, Int.reduceMod, Int.reduceNeg, hv]
    (repeat (first | with_reducible exact Ext.refl _ | with_reducible assumption | with_reducible apply Ext.alloc | with_reducible apply Ext.drew | (with_reducible refine Ext.setRow ?_ (by (try simp only [World.size_alloc]); omega) _) | (with_reducible refine Ext.tr ?_ (by assumption))))
  | false =>
    simp -dsimp (disch := first | omega | assumption | ((simp only [World.size_alloc, size_setRow, List.size_toArray, List.length_cons, List.length_nil, cells_agg, len_enc, cells_int, cells_bool, cells_slice, cells_ptr, cells_string]) <;> omega) | ((repeat (first | with_reducible exact Ext.refl _ | with_reducible assumption | with_reducible apply Ext.alloc | with_reducible apply Ext.drew | (with_reducible refine Ext.setRow ?_ (by (try simp only [World.size_alloc]); omega) _) | (with_reducible refine Ext.tr ?_ (by assumption)))); done) | fail) only [go_sem, jn_r, Nat.reduceAdd, Nat.reduceLeDiff, Nat.reduceMul, Int.reduceToNat, Nat.reduceEqDiff, Nat.reduceLT, Int.reduceBEq, Int.reduceBNe, Int.reduceLT, Int.reduceLE, Int.reduceAdd, Int.reduceSub, Int.reduceMul, Int.reduceDiv, Int.reduceMod, Int.reduceNeg, hv]
    (repeat (first | with_reducible exact Ext.refl _ | with_reducible assumption | with_reducible apply Ext.alloc | with_reducible apply Ext.drew | (with_reducible refine Ext.setRow ?_ (by (try simp only [World.size_alloc]); omega) _) | (with_reducible refine Ext.tr ?_ (by assumption))))
theorem names_contains {x : Rw} {k : Int} (hk : 0 ≤ k) : x.names.contains k = (x.owner == k || x.target == k || x.old == k) := by
  rw [Bool.eq_iff_iff]
  unfold Rw.names
  simp only [List.contains_iff_mem, List.mem_filter, List.mem_cons, List.not_mem_nil, or_false, Bool.or_eq_true, beq_iff_eq, bne_iff_ne]
  omega
theorem rows_any_true {f : Rw → Bool} (hV : V.Ok) {i : Nat} (h : (decide (0 < (V.at i).ver) && f (V.at i)) = true) : V.rows.any f = true := by
  rw [Bool.and_eq_true] at h
  rcases Vw.at_cases hV i with ⟨-, h2⟩ | ⟨x, h1, h2, h3, h4, h5⟩
  · rw [h2] at h
    exact absurd h.1 (by decide)
  · rw [h2] at h
    exact List.any_eq_true.2 ⟨x, (Vw.mem_rows hV).2 (by rw [h5]; exact h1), h.2⟩
theorem rows_any_false {f : Rw → Bool} (hV : V.Ok) (h : ∀ i, i < 32 → (decide (0 < (V.at i).ver) && f (V.at i)) = false) : V.rows.any f = false := by
  rw [List.any_eq_false]
  intro x hx
  have h1 := (Vw.mem_rows hV).1 hx
  have h2 := hV.port h1
  have h3 := (hV.r _ _ h1).2.bnd
  have h4 := h x.port.toNat (by omega)
  have h5 : V.at x.port.toNat = x := by
    unfold Vw.at
    rw [show ((x.port.toNat : Nat) : Int) = x.port by omega, h1]
    rfl
  rw [h5] at h4
  have h6 : decide (0 < x.ver) = true := by simp; omega
  rw [h6, Bool.true_and] at h4
  rw [h4]
  decide
theorem rowcells {i : Nat} (hi : i < 32) : agx (refArr V) (16 + i * 9) 9 = (V.at i).v ∧ (refArr V)[16 + i * 9 + 1]? = some (.int .u64 (V.at i).mac) ∧ (refArr V)[16 + i * 9 + 6]? = some (.int .i64 (V.at i).phase) ∧ (refArr V)[16 + i * 9 + 7]? = some (.int .i64 (V.at i).ver) :=
  ⟨refArr_row hi, refArr_cell hi rfl, refArr_cell hi rfl, refArr_cell hi rfl⟩
theorem rutterref10_Store_Remove.c (hV : V.Ok) (h : RefAt w q V) (k : Int) : Calls Try.prog rutterref10_Store_Remove.id #[.pointer (some ⟨q, 0, none⟩), .int .i64 k] w (retP fun v w' => v = .int .i64 (V.remove k).2 ∧ RefAt w' q (V.remove k).1 ∧ Chg [q] w w') := by
  apply rutterref10_Store_Remove.sound
  unfold rutterref10_Store_Remove.sh
  have h' := blk_of0 h
  unfold Vw.remove
  simp -dsimp (disch := first | omega | assumption | ((simp only [World.size_alloc, size_setRow, List.size_toArray, List.length_cons, List.length_nil, cells_agg, len_enc, cells_int, cells_bool, cells_slice, cells_ptr, cells_string]) <;> omega) | ((repeat (first | with_reducible exact Ext.refl _ | with_reducible assumption | with_reducible apply Ext.alloc | with_reducible apply Ext.drew | (with_reducible refine Ext.setRow ?_ (by (try simp only [World.size_alloc]); omega) _) | (with_reducible refine Ext.tr ?_ (by assumption)))); done) | fail) only [go_sem, jn_r, Nat.reduceAdd, Nat.reduceLeDiff, Nat.reduceMul, Int.reduceToNat, Nat.reduceEqDiff, Nat.reduceLT, Int.reduceBEq, Int.reduceBNe, Int.reduceLT, Int.reduceLE, Int.reduceAdd, Int.reduceSub, Int.reduceMul, Int.reduceDiv, Int.reduceMod, Int.reduceNeg]
  refine callM (rutterref10_Store_Has.c hV h k) ?_
  rintro _ w1 ⟨rfl, rfl⟩
  cases hc : V.c k with
  | false =>
    rw [if_pos (by decide)]
    simp -dsimp (disch := first | omega | assumption | ((simp only [World.size_alloc, size_setRow, List.size_toArray, List.length_cons, List.length_nil, cells_agg, len_enc, cells_int, cells_bool, cells_slice, cells_ptr, cells_string]) <;> omega) | ((repeat (first | with_reducible exact Ext.refl _ | with_reducible assumption | with_reducible apply Ext.alloc | with_reducible apply Ext.drew | (with_reducible refine Ext.setRow ?_ (by (try simp only [World.size_alloc]); omega) _) | (with_reducible refine Ext.tr ?_ (by assumption)))); done) | fail) only [go_sem, jn_r, Nat.reduceAdd, Nat.reduceLeDiff, Nat.reduceMul, Int.reduceToNat, Nat.reduceEqDiff, Nat.reduceLT, Int.reduceBEq, Int.reduceBNe, Int.reduceLT, Int.reduceLE, Int.reduceAdd, Int.reduceSub, Int.reduceMul, Int.reduceDiv, Int.reduceMod, Int.reduceNeg]
    exact ⟨h, .refl _ _⟩
  | true =>
    have hk := hV.c k hc
    rw [if_neg (by decide)]
    simp -dsimp (disch := first | omega | assumption | ((simp only [World.size_alloc, size_setRow, List.size_toArray, List.length_cons, List.length_nil, cells_agg, len_enc, cells_int, cells_bool, cells_slice, cells_ptr, cells_string]) <;> omega) | ((repeat (first | with_reducible exact Ext.refl _ | with_reducible assumption | with_reducible apply Ext.alloc | with_reducible apply Ext.drew | (with_reducible refine Ext.setRow ?_ (by (try simp only [World.size_alloc]); omega) _) | (with_reducible refine Ext.tr ?_ (by assumption)))); done) | fail) only [go_sem, jn_r, Nat.reduceAdd, Nat.reduceLeDiff, Nat.reduceMul, Int.reduceToNat, Nat.reduceEqDiff, Nat.reduceLT, Int.reduceBEq, Int.reduceBNe, Int.reduceLT, Int.reduceLE, Int.reduceAdd, Int.reduceSub, Int.reduceMul, Int.reduceDiv, Int.reduceMod, Int.reduceNeg]
    refine loop_g (γ := Nat) (fun i st w' => st = [.int .i64 (i : Int)] ∧ Ext w1 w' ∧ ∀ j, j < i → (decide (0 < (V.at j).ver) && (V.at j).names.contains k) = false) (fun i => 32 - i) 0 ⟨rfl, .refl _, by omega⟩ ?_
    rintro i st w2 next ⟨rfl, hE, hq⟩ hn
    have h2' := hE.blkS h'
    by_cases hi : i < 32
    · have d0 : ((i : Int) < 32) := by omega
      have d00 : ((i : Int) < ((32 : Nat) : Int)) := by omega
      have d1 : (0 : Int) ≤ (i : Int) := by omega
      have ew : IntKind.i64.wrap ((i : Int) + 1) = ((i + 1 : Nat) : Int) := by rw [wrap_64 (by omega) (by omega)]; simp
      have e3 : 16 + i * 9 + 9 ≤ 304 := by omega
      simp -dsimp (disch := first | omega | assumption | ((simp only [World.size_alloc, size_setRow, List.size_toArray, List.length_cons, List.length_nil, cells_agg, len_enc, cells_int, cells_bool, cells_slice, cells_ptr, cells_string]) <;> omega) | ((repeat (first | with_reducible exact Ext.refl _ | with_reducible assumption | with_reducible apply Ext.alloc | with_reducible apply Ext.drew | (with_reducible refine Ext.setRow ?_ (by (try simp only [World.size_alloc]); omega) _) | (with_reducible refine Ext.tr ?_ (by assumption)))); done) | fail) only [go_sem, jn_r, Nat.reduceAdd, Nat.reduceLeDiff, Nat.reduceMul, Int.reduceToNat, Nat.reduceEqDiff, Nat.reduceLT, Int.reduceBEq, Int.reduceBNe, Int.reduceLT, Int.reduceLE, Int.reduceAdd, Int.reduceSub, Int.reduceMul, Int.reduceDiv, Int.reduceMod, Int.reduceNeg, d0, d00, d1, h2', Int.toNat_natCast, (rowcells (V := V) hi).1, e3]
      refine callM (rutterref10_used.c _ _ _) ?_
      rintro _ w3 ⟨rfl, hx3⟩
      rw [← names_contains hk.1]
      cases hu : (decide (0 < (V.at i).ver) && (V.at i).names.contains k) with
      | true =>
        rw [if_pos (rows_any_true hV hu)]
        simp -dsimp (disch := first | omega | assumption | ((simp only [World.size_alloc, size_setRow, List.size_toArray, List.length_cons, List.length_nil, cells_agg, len_enc, cells_int, cells_bool, cells_slice, cells_ptr, cells_string]) <;> omega) | ((repeat (first | with_reducible exact Ext.refl _ | with_reducible assumption | with_reducible apply Ext.alloc | with_reducible apply Ext.drew | (with_reducible refine Ext.setRow ?_ (by (try simp only [World.size_alloc]); omega) _) | (with_reducible refine Ext.tr ?_ (by assumption)))); done) | fail) only [go_sem, jn_r, Nat.reduceAdd, Nat.reduceLeDiff, Nat.reduceMul, Int.reduceToNat, Nat.reduceEqDiff, Nat.reduceLT, Int.reduceBEq, Int.reduceBNe, Int.reduceLT, Int.reduceLE, Int.reduceAdd, Int.reduceSub, Int.reduceMul, Int.reduceDiv, Int.reduceMod, Int.reduceNeg]
        exact ⟨h.ext (hE.tr hx3), (hE.tr hx3).chg⟩
      | false =>
        simp -dsimp (disch := first | omega | assumption | ((simp only [World.size_alloc, size_setRow, List.size_toArray, List.length_cons, List.length_nil, cells_agg, len_enc, cells_int, cells_bool, cells_slice, cells_ptr, cells_string]) <;> omega) | ((repeat (first | with_reducible exact Ext.refl _ | with_reducible assumption | with_reducible apply Ext.alloc | with_reducible apply Ext.drew | (with_reducible refine Ext.setRow ?_ (by (try simp only [World.size_alloc]); omega) _) | (with_reducible refine Ext.tr ?_ (by assumption)))); done) | fail) only [go_sem, jn_r, Nat.reduceAdd, Nat.reduceLeDiff, Nat.reduceMul, Int.reduceToNat, Nat.reduceEqDiff, Nat.reduceLT, Int.reduceBEq, Int.reduceBNe, Int.reduceLT, Int.reduceLE, Int.reduceAdd, Int.reduceSub, Int.reduceMul, Int.reduceDiv, Int.reduceMod, Int.reduceNeg, ew]
        refine hn (i + 1) _ _ ⟨rfl, hE.tr hx3, fun j hj => ?_⟩ (by omega)
        by_cases e : j = i
        · rw [e]; exact hu
        · exact hq j (by omega)
    · have d0 : ¬ ((i : Int) < 32) := by omega
      have h20 : blk0 w2 q = some (refArr V) := (hE.blk0 (blk_lt h')).trans h
      have e2 : k < ((16 : Nat) : Int) := by omega
      have e3 : k.toNat < 304 := by omega
      rw [if_neg (by rw [rows_any_false hV fun j hj => hq j (by omega)]; decide)]
      simp -dsimp (disch := first | omega | assumption | ((simp only [World.size_alloc, size_setRow, List.size_toArray, List.length_cons, List.length_nil, cells_agg, len_enc, cells_int, cells_bool, cells_slice, cells_ptr, cells_string]) <;> omega) | ((repeat (first | with_reducible exact Ext.refl _ | with_reducible assumption | with_reducible apply Ext.alloc | with_reducible apply Ext.drew | (with_reducible refine Ext.setRow ?_ (by (try simp only [World.size_alloc]); omega) _) | (with_reducible refine Ext.tr ?_ (by assumption)))); done) | fail) only [go_sem, jn_r, Nat.reduceAdd, Nat.reduceLeDiff, Nat.reduceMul, Int.reduceToNat, Nat.reduceEqDiff, Nat.reduceLT, Int.reduceBEq, Int.reduceBNe, Int.reduceLT, Int.reduceLE, Int.reduceAdd, Int.reduceSub, Int.reduceMul, Int.reduceDiv, Int.reduceMod, Int.reduceNeg, d0, h20, e2, hk.1, Nat.mul_one, refArr_setC hk, e3]
      refine ⟨?_, hE.chg.tr ((Chg.refl [q] w2).setRow (.inl (List.mem_singleton.2 rfl)) _) (by simp)⟩
      unfold RefAt
      simp -dsimp (disch := first | omega | assumption | ((simp only [World.size_alloc, size_setRow, List.size_toArray, List.length_cons, List.length_nil, cells_agg, len_enc, cells_int, cells_bool, cells_slice, cells_ptr, cells_string]) <;> omega) | ((repeat (first | with_reducible exact Ext.refl _ | with_reducible assumption | with_reducible apply Ext.alloc | with_reducible apply Ext.drew | (with_reducible refine Ext.setRow ?_ (by (try simp only [World.size_alloc]); omega) _) | (with_reducible refine Ext.tr ?_ (by assumption)))); done) | fail) only [go_sem, jn_r, Nat.reduceAdd, Nat.reduceLeDiff, Nat.reduceMul, Int.reduceToNat, Nat.reduceEqDiff, Nat.reduceLT, Int.reduceBEq, Int.reduceBNe, Int.reduceLT, Int.reduceLE, Int.reduceAdd, Int.reduceSub, Int.reduceMul, Int.reduceDiv, Int.reduceMod, Int.reduceNeg, h20]
      rfl
theorem names_any {x : Rw} (hx : x.Ok) {f : Int → Bool} : (!x.names.any (fun c => !f c)) = ((decide (x.owner < 0) || f x.owner) && (decide (x.target < 0) || f x.target) && (decide (x.old < 0) || f x.old)) := by
  have hb := hx.bnd
  have key : ∀ y : Int, -1 ≤ y → (decide (y < 0) || f y) = !((if y != -1 then [y] else []).any fun c => !f c) := by
    intro y hy
    by_cases e : y = -1
    · subst e; simp
    · have : ¬ y < 0 := by omega
      simp [e, this]
  rw [key _ hb.2.1.1, key _ hb.2.2.1.1, key _ hb.2.2.2.1.1]
  have hn : x.names = (if x.owner != -1 then [x.owner] else []) ++ ((if x.target != -1 then [x.target] else []) ++ (if x.old != -1 then [x.old] else [])) := by
    unfold Rw.names
    simp only [List.filter_cons, List.filter_nil]
    split <;> split <;> split <;> rfl
  rw [hn, List.any_append, List.any_append]
  simp only [Bool.not_or, Bool.and_assoc]
theorem rutterref10_Store_named.c (hV : V.Ok) (h : RefAt w q V) (x : Rw) (hx : x.Ok) : Calls Try.prog rutterref10_Store_named.id #[.pointer (some ⟨q, 0, none⟩), x.v] w (retP fun v w' => v = .bool (!x.names.any (fun c => !V.c c)) ∧ Ext w w') := by
  apply rutterref10_Store_named.sound
  unfold rutterref10_Store_named.sh Rw.v
  simp -dsimp (disch := first | omega | assumption | ((simp only [World.size_alloc, size_setRow, List.size_toArray, List.length_cons, List.length_nil, cells_agg, len_enc, cells_int, cells_bool, cells_slice, cells_ptr, cells_string]) <;> omega) | ((repeat (first | with_reducible exact Ext.refl _ | with_reducible assumption | with_reducible apply Ext.alloc | with_reducible apply Ext.drew | (with_reducible refine Ext.setRow ?_ (by (try simp only [World.size_alloc]); omega) _) | (with_reducible refine Ext.tr ?_ (by assumption)))); done) | fail) only [go_sem, jn_r, Nat.reduceAdd, Nat.reduceLeDiff, Nat.reduceMul, Int.reduceToNat, Nat.reduceEqDiff, Nat.reduceLT, Int.reduceBEq, Int.reduceBNe, Int.reduceLT, Int.reduceLE, Int.reduceAdd, Int.reduceSub, Int.reduceMul, Int.reduceDiv, Int.reduceMod, Int.reduceNeg]
  refine callM (rutterref10_Store_Has.c hV (h.ext (by (repeat (first | with_reducible exact Ext.refl _ | with_reducible assumption | with_reducible apply Ext.alloc | with_reducible apply Ext.drew | (with_reducible refine Ext.setRow ?_ (by (try simp only [World.size_alloc]); omega) _) | (with_reducible refine Ext.tr ?_ (by assumption)))))) _) ?_
  rintro _ w1 ⟨rfl, rfl⟩
  simp -dsimp (disch := first | omega | assumption | ((simp only [World.size_alloc, size_setRow, List.size_toArray, List.length_cons, List.length_nil, cells_agg, len_enc, cells_int, cells_bool, cells_slice, cells_ptr, cells_string]) <;> omega) | ((repeat (first | with_reducible exact Ext.refl _ | with_reducible assumption | with_reducible apply Ext.alloc | with_reducible apply Ext.drew | (with_reducible refine Ext.setRow ?_ (by (try simp only [World.size_alloc]); omega) _) | (with_reducible refine Ext.tr ?_ (by assumption)))); done) | fail) only [go_sem, jn_r, Nat.reduceAdd, Nat.reduceLeDiff, Nat.reduceMul, Int.reduceToNat, Nat.reduceEqDiff, Nat.reduceLT, Int.reduceBEq, Int.reduceBNe, Int.reduceLT, Int.reduceLE, Int.reduceAdd, Int.reduceSub, Int.reduceMul, Int.reduceDiv, Int.reduceMod, Int.reduceNeg]
  refine callM (rutterref10_Store_Has.c hV (h.ext (by (repeat (first | with_reducible exact Ext.refl _ | with_reducible assumption | with_reducible apply Ext.alloc | with_reducible apply Ext.drew | (with_reducible refine Ext.setRow ?_ (by (try simp only [World.size_alloc]); omega) _) | (with_reducible refine Ext.tr ?_ (by assumption)))))) _) ?_
  rintro _ w1 ⟨rfl, rfl⟩
  simp -dsimp (disch := first | omega | assumption | ((simp only [World.size_alloc, size_setRow, List.size_toArray, List.length_cons, List.length_nil, cells_agg, len_enc, cells_int, cells_bool, cells_slice, cells_ptr, cells_string]) <;> omega) | ((repeat (first | with_reducible exact Ext.refl _ | with_reducible assumption | with_reducible apply Ext.alloc | with_reducible apply Ext.drew | (with_reducible refine Ext.setRow ?_ (by (try simp only [World.size_alloc]); omega) _) | (with_reducible refine Ext.tr ?_ (by assumption)))); done) | fail) only [go_sem, jn_r, Nat.reduceAdd, Nat.reduceLeDiff, Nat.reduceMul, Int.reduceToNat, Nat.reduceEqDiff, Nat.reduceLT, Int.reduceBEq, Int.reduceBNe, Int.reduceLT, Int.reduceLE, Int.reduceAdd, Int.reduceSub, Int.reduceMul, Int.reduceDiv, Int.reduceMod, Int.reduceNeg]
  refine callM (rutterref10_Store_Has.c hV (h.ext (by (repeat (first | with_reducible exact Ext.refl _ | with_reducible assumption | with_reducible apply Ext.alloc | with_reducible apply Ext.drew | (with_reducible refine Ext.setRow ?_ (by (try simp only [World.size_alloc]); omega) _) | (with_reducible refine Ext.tr ?_ (by assumption)))))) _) ?_
  rintro _ w1 ⟨rfl, rfl⟩
  rw [names_any hx]
  cases o1 : (decide (x.owner < 0) || V.c x.owner) with
  | false =>
    simp -dsimp (disch := first | omega | assumption | ((simp only [World.size_alloc, size_setRow, List.size_toArray, List.length_cons, List.length_nil, cells_agg, len_enc, cells_int, cells_bool, cells_slice, cells_ptr, cells_string]) <;> omega) | ((repeat (first | with_reducible exact Ext.refl _ | with_reducible assumption | with_reducible apply Ext.alloc | with_reducible apply Ext.drew | (with_reducible refine Ext.setRow ?_ (by (try simp only [World.size_alloc]); omega) _) | (with_reducible refine Ext.tr ?_ (by assumption)))); done) | fail) only [go_sem, jn_r, Nat.reduceAdd, Nat.reduceLeDiff, Nat.reduceMul, Int.reduceToNat, Nat.reduceEqDiff, Nat.reduceLT, Int.reduceBEq, Int.reduceBNe, Int.reduceLT, Int.reduceLE, Int.reduceAdd, Int.reduceSub, Int.reduceMul, Int.reduceDiv, Int.reduceMod, Int.reduceNeg, o1]
    (repeat (first | with_reducible exact Ext.refl _ | with_reducible assumption | with_reducible apply Ext.alloc | with_reducible apply Ext.drew | (with_reducible refine Ext.setRow ?_ (by (try simp only [World.size_alloc]); omega) _) | (with_reducible refine Ext.tr ?_ (by assumption))))
  | true =>
    cases o2 : (decide (x.target < 0) || V.c x.target) with
    | false =>
      simp -dsimp (disch := first | omega | assumption | ((simp only [World.size_alloc, size_setRow, List.size_toArray, List.length_cons, List.length_nil, cells_agg, len_enc, cells_int, cells_bool, cells_slice, cells_ptr, cells_string]) <;> omega) | ((repeat (first | with_reducible exact Ext.refl _ | with_reducible assumption | with_reducible apply Ext.alloc | with_reducible apply Ext.drew | (with_reducible refine Ext.setRow ?_ (by (try simp only [World.size_alloc]); omega) _) | (with_reducible refine Ext.tr ?_ (by assumption)))); done) | fail) only [go_sem, jn_r, Nat.reduceAdd, Nat.reduceLeDiff, Nat.reduceMul, Int.reduceToNat, Nat.reduceEqDiff, Nat.reduceLT, Int.reduceBEq, Int.reduceBNe, Int.reduceLT, Int.reduceLE, Int.reduceAdd, Int.reduceSub, Int.reduceMul, Int.reduceDiv, Int.reduceMod, Int.reduceNeg, o1, o2]
      (repeat (first | with_reducible exact Ext.refl _ | with_reducible assumption | with_reducible apply Ext.alloc | with_reducible apply Ext.drew | (with_reducible refine Ext.setRow ?_ (by (try simp only [World.size_alloc]); omega) _) | (with_reducible refine Ext.tr ?_ (by assumption))))
    | true =>
      simp -dsimp (disch := first | omega | assumption | ((simp only [World.size_alloc, size_setRow, List.size_toArray, List.length_cons, List.length_nil, cells_agg, len_enc, cells_int, cells_bool, cells_slice, cells_ptr, cells_string]) <;> omega) | ((repeat (first | with_reducible exact Ext.refl _ | with_reducible assumption | with_reducible apply Ext.alloc | with_reducible apply Ext.drew | (with_reducible refine Ext.setRow ?_ (by (try simp only [World.size_alloc]); omega) _) | (with_reducible refine Ext.tr ?_ (by assumption)))); done) | fail) only [go_sem, jn_r, Nat.reduceAdd, Nat.reduceLeDiff, Nat.reduceMul, Int.reduceToNat, Nat.reduceEqDiff, Nat.reduceLT, Int.reduceBEq, Int.reduceBNe, Int.reduceLT, Int.reduceLE, Int.reduceAdd, Int.reduceSub, Int.reduceMul, Int.reduceDiv, Int.reduceMod, Int.reduceNeg, o1, o2]
      (repeat (first | with_reducible exact Ext.refl _ | with_reducible assumption | with_reducible apply Ext.alloc | with_reducible apply Ext.drew | (with_reducible refine Ext.setRow ?_ (by (try simp only [World.size_alloc]); omega) _) | (with_reducible refine Ext.tr ?_ (by assumption))))
set_option maxHeartbeats 1000000 in
theorem rutterref10_Store_wrong.c (hV : V.Ok) (h : RefAt w q V) (x : Rw) (was : Int) :
    Calls Try.prog rutterref10_Store_wrong.id #[.pointer (some ⟨q, 0, none⟩), .agg (chgC.enc (x, was)).toArray] w (retP fun v w' => v = .int .i64 (V.wrong x was) ∧ Ext w w') := by
  apply rutterref10_Store_wrong.sound
  unfold rutterref10_Store_wrong.sh
  have hx0 : Value.agg (chgC.enc (x, was)).toArray = .agg #[.int .i64 x.port, .int .u64 x.mac, .int .i64 x.owner, .int .i64 x.target, .int .i64 x.old, .int .i64 x.gen, .int .i64 x.phase, .int .i64 x.ver, .int .i64 x.since, .int .i64 was] := rfl
  have hv0 : x.v = .agg #[.int .i64 x.port, .int .u64 x.mac, .int .i64 x.owner, .int .i64 x.target, .int .i64 x.old, .int .i64 x.gen, .int .i64 x.phase, .int .i64 x.ver, .int .i64 x.since] := rfl
  rw [hx0]
  simp -dsimp (disch := first | omega | assumption | ((simp only [World.size_alloc, size_setRow, List.size_toArray, List.length_cons, List.length_nil, cells_agg, len_enc, cells_int, cells_bool, cells_slice, cells_ptr, cells_string]) <;> omega) | ((repeat (first | with_reducible exact Ext.refl _ | with_reducible assumption | with_reducible apply Ext.alloc | with_reducible apply Ext.drew | (with_reducible refine Ext.setRow ?_ (by (try simp only [World.size_alloc]); omega) _) | (with_reducible refine Ext.tr ?_ (by assumption)))); done) | fail) only [go_sem, jn_r, Nat.reduceAdd, Nat.reduceLeDiff, Nat.reduceMul, Int.reduceToNat, Nat.reduceEqDiff, Nat.reduceLT, Int.reduceBEq, Int.reduceBNe, Int.reduceLT, Int.reduceLE, Int.reduceAdd, Int.reduceSub, Int.reduceMul, Int.reduceDiv, Int.reduceMod, Int.reduceNeg]
  rw [← hv0]
  refine callM (rutterref06_Row.c _ x) ?_
  rintro _ w1 ⟨rfl, hx⟩
  have hx1 : Ext w w1 := Ext.tr (by (repeat (first | with_reducible exact Ext.refl _ | with_reducible assumption | with_reducible apply Ext.alloc | with_reducible apply Ext.drew | (with_reducible refine Ext.setRow ?_ (by (try simp only [World.size_alloc]); omega) _) | (with_reducible refine Ext.tr ?_ (by assumption))))) hx
  have hs1 := hx.size
  simp only [World.size_alloc] at hs1
  unfold Vw.wrong
  have k2 : blk w1 w.heap.size = some #[.int .i64 x.port, .int .u64 x.mac, .int .i64 x.owner, .int .i64 x.target, .int .i64 x.old, .int .i64 x.gen, .int .i64 x.phase, .int .i64 x.ver, .int .i64 x.since, .int .i64 was] := by simp -dsimp (disch := first | omega | assumption | ((simp only [World.size_alloc, size_setRow, List.size_toArray, List.length_cons, List.length_nil, cells_agg, len_enc, cells_int, cells_bool, cells_slice, cells_ptr, cells_string]) <;> omega) | ((repeat (first | with_reducible exact Ext.refl _ | with_reducible assumption | with_reducible apply Ext.alloc | with_reducible apply Ext.drew | (with_reducible refine Ext.setRow ?_ (by (try simp only [World.size_alloc]); omega) _) | (with_reducible refine Ext.tr ?_ (by assumption)))); done) | fail) only [go_sem, jn_r, Nat.reduceAdd, Nat.reduceLeDiff, Nat.reduceMul, Int.reduceToNat, Nat.reduceEqDiff, Nat.reduceLT, Int.reduceBEq, Int.reduceBNe, Int.reduceLT, Int.reduceLE, Int.reduceAdd, Int.reduceSub, Int.reduceMul, Int.reduceDiv, Int.reduceMod, Int.reduceNeg, hx.blk]
  by_cases hok : x.Ok
  · have e0 : decide x.Ok = true := decide_eq_true hok
    have hbn := hok.bnd
    by_cases hvr : x.ver ≤ was
    · rw [if_pos (.inr hvr)]
      simp -dsimp (disch := first | omega | assumption | ((simp only [World.size_alloc, size_setRow, List.size_toArray, List.length_cons, List.length_nil, cells_agg, len_enc, cells_int, cells_bool, cells_slice, cells_ptr, cells_string]) <;> omega) | ((repeat (first | with_reducible exact Ext.refl _ | with_reducible assumption | with_reducible apply Ext.alloc | with_reducible apply Ext.drew | (with_reducible refine Ext.setRow ?_ (by (try simp only [World.size_alloc]); omega) _) | (with_reducible refine Ext.tr ?_ (by assumption)))); done) | fail) only [go_sem, jn_r, Nat.reduceAdd, Nat.reduceLeDiff, Nat.reduceMul, Int.reduceToNat, Nat.reduceEqDiff, Nat.reduceLT, Int.reduceBEq, Int.reduceBNe, Int.reduceLT, Int.reduceLE, Int.reduceAdd, Int.reduceSub, Int.reduceMul, Int.reduceDiv, Int.reduceMod, Int.reduceNeg, e0, hvr, k2]
      exact hx1
    · rw [if_neg (by rintro (h | h); exact h hok; exact hvr h)]
      simp -dsimp (disch := first | omega | assumption | ((simp only [World.size_alloc, size_setRow, List.size_toArray, List.length_cons, List.length_nil, cells_agg, len_enc, cells_int, cells_bool, cells_slice, cells_ptr, cells_string]) <;> omega) | ((repeat (first | with_reducible exact Ext.refl _ | with_reducible assumption | with_reducible apply Ext.alloc | with_reducible apply Ext.drew | (with_reducible refine Ext.setRow ?_ (by (try simp only [World.size_alloc]); omega) _) | (with_reducible refine Ext.tr ?_ (by assumption)))); done) | fail) only [go_sem, jn_r, Nat.reduceAdd, Nat.reduceLeDiff, Nat.reduceMul, Int.reduceToNat, Nat.reduceEqDiff, Nat.reduceLT, Int.reduceBEq, Int.reduceBNe, Int.reduceLT, Int.reduceLE, Int.reduceAdd, Int.reduceSub, Int.reduceMul, Int.reduceDiv, Int.reduceMod, Int.reduceNeg, e0, hvr, k2]
      rw [← hv0]
      refine callM (rutterref10_Store_named.c hV (h.ext hx1) x hok) ?_
      rintro _ w2 ⟨rfl, hx2⟩
      have hx3 := hx1.tr hx2
      have k2' := hx2.blkS k2
      have hs2 := hx2.size
      have hq2 : blk w2 q = some (refArr V) := hx3.blkS (blk_of0 h)
      cases hany : x.names.any (fun c => !V.c c) with
      | true =>
        rw [if_pos rfl]
        simp -dsimp (disch := first | omega | assumption | ((simp only [World.size_alloc, size_setRow, List.size_toArray, List.length_cons, List.length_nil, cells_agg, len_enc, cells_int, cells_bool, cells_slice, cells_ptr, cells_string]) <;> omega) | ((repeat (first | with_reducible exact Ext.refl _ | with_reducible assumption | with_reducible apply Ext.alloc | with_reducible apply Ext.drew | (with_reducible refine Ext.setRow ?_ (by (try simp only [World.size_alloc]); omega) _) | (with_reducible refine Ext.tr ?_ (by assumption)))); done) | fail) only [go_sem, jn_r, Nat.reduceAdd, Nat.reduceLeDiff, Nat.reduceMul, Int.reduceToNat, Nat.reduceEqDiff, Nat.reduceLT, Int.reduceBEq, Int.reduceBNe, Int.reduceLT, Int.reduceLE, Int.reduceAdd, Int.reduceSub, Int.reduceMul, Int.reduceDiv, Int.reduceMod, Int.reduceNeg]
        exact hx3
      | false =>
        rw [if_neg (by decide)]
        have hp : x.port.toNat < 32 := by omega
        have d0 : x.port < ((32 : Nat) : Int) := by omega
        obtain ⟨r1, r2, r3, r4⟩ := rowcells (V := V) hp
        have hat : V.at x.port.toNat = (V.r x.port).getD Rw.zero := by unfold Vw.at; rw [show ((x.port.toNat : Nat) : Int) = x.port by omega]
        have hvo : verO (V.r x.port) = (V.at x.port.toNat).ver := by unfold verO; rw [hat]
        rw [hvo]
        by_cases hve : (V.at x.port.toNat).ver = was
        · have e1 : ((V.at x.port.toNat).ver != was) = false := by simp [hve]
          rw [if_neg (not_not_intro hve)]
          simp -dsimp (disch := first | omega | assumption | ((simp only [World.size_alloc, size_setRow, List.size_toArray, List.length_cons, List.length_nil, cells_agg, len_enc, cells_int, cells_bool, cells_slice, cells_ptr, cells_string]) <;> omega) | ((repeat (first | with_reducible exact Ext.refl _ | with_reducible assumption | with_reducible apply Ext.alloc | with_reducible apply Ext.drew | (with_reducible refine Ext.setRow ?_ (by (try simp only [World.size_alloc]); omega) _) | (with_reducible refine Ext.tr ?_ (by assumption)))); done) | fail) only [go_sem, jn_r, Nat.reduceAdd, Nat.reduceLeDiff, Nat.reduceMul, Int.reduceToNat, Nat.reduceEqDiff, Nat.reduceLT, Int.reduceBEq, Int.reduceBNe, Int.reduceLT, Int.reduceLE, Int.reduceAdd, Int.reduceSub, Int.reduceMul, Int.reduceDiv, Int.reduceMod, Int.reduceNeg, k2', hq2, d0, hbn.1.1, r4, e1]
          refine loop_g (γ := Nat) (fun i st w' => st = [.int .i64 (i : Int)] ∧ Ext w2 w' ∧ ∀ j, j < i → (decide (0 < (V.at j).ver) && clash x (V.at j)) = false) (fun i => 32 - i) 0 ⟨rfl, (Ext.refl w2).drew, by omega⟩ ?_
          rintro i st w3 next ⟨rfl, hE, hq⟩ hn
          have hE3 := hx3.tr hE
          have hq3 := hE.blkS hq2
          have k3 := hE.blkS k2'
          have hs3 := hE.size
          by_cases hi : i < 32
          · have d0 : ((i : Int) < 32) := by omega
            have d00 : ((i : Int) < ((32 : Nat) : Int)) := by omega
            have d1 : (0 : Int) ≤ (i : Int) := by omega
            have ew : IntKind.i64.wrap ((i : Int) + 1) = ((i + 1 : Nat) : Int) := by rw [wrap_64 (by omega) (by omega)]; simp
            have e3 : 16 + i * 9 + 9 ≤ 304 := by omega
            obtain ⟨y, hy⟩ : ∃ y, V.at i = y := ⟨_, rfl⟩
            have hrow : agx (refArr V) (16 + i * 9) 9 = .agg #[.int .i64 y.port, .int .u64 y.mac, .int .i64 y.owner, .int .i64 y.target, .int .i64 y.old, .int .i64 y.gen, .int .i64 y.phase, .int .i64 y.ver, .int .i64 y.since] := by rw [refArr_row hi, hy]; rfl
            have hcl : (decide (0 < y.ver) && clash x y) = (((i : Int) != x.port) && decide (0 < y.ver) && (y.phase != 3) && (x.phase != 3) && (y.mac == x.mac)) := by
              rcases Vw.at_cases hV i with ⟨-, h2⟩ | ⟨z, h1, h2, h3, h4, h5⟩
              · rw [hy] at h2
                rw [h2]
                simp [Rw.zero]
              · rw [hy] at h2
                subst h2
                unfold clash
                rw [h5]
                generalize ((i : Int) != x.port) = a
                generalize decide (0 < y.ver) = b
                cases a <;> cases b <;> rfl
            cases hu : (decide (0 < y.ver) && clash x y) with
            | true =>
              rw [if_pos (rows_any_true hV (i := i) (by rw [hy]; exact hu))]
              rw [hu] at hcl
              simp -dsimp (disch := first | omega | assumption | ((simp only [World.size_alloc, size_setRow, List.size_toArray, List.length_cons, List.length_nil, cells_agg, len_enc, cells_int, cells_bool, cells_slice, cells_ptr, cells_string]) <;> omega) | ((repeat (first | with_reducible exact Ext.refl _ | with_reducible assumption | with_reducible apply Ext.alloc | with_reducible apply Ext.drew | (with_reducible refine Ext.setRow ?_ (by (try simp only [World.size_alloc]); omega) _) | (with_reducible refine Ext.tr ?_ (by assumption)))); done) | fail) only [go_sem, jn_r, Nat.reduceAdd, Nat.reduceLeDiff, Nat.reduceMul, Int.reduceToNat, Nat.reduceEqDiff, Nat.reduceLT, Int.reduceBEq, Int.reduceBNe, Int.reduceLT, Int.reduceLE, Int.reduceAdd, Int.reduceSub, Int.reduceMul, Int.reduceDiv, Int.reduceMod, Int.reduceNeg, d0, d00, d1, hq3, Int.toNat_natCast, hrow, e3, k3, hcl.symm]
              exact hE3.alloc _
            | false =>
              have hu' := hu
              rw [hcl] at hu
              simp -dsimp (disch := first | omega | assumption | ((simp only [World.size_alloc, size_setRow, List.size_toArray, List.length_cons, List.length_nil, cells_agg, len_enc, cells_int, cells_bool, cells_slice, cells_ptr, cells_string]) <;> omega) | ((repeat (first | with_reducible exact Ext.refl _ | with_reducible assumption | with_reducible apply Ext.alloc | with_reducible apply Ext.drew | (with_reducible refine Ext.setRow ?_ (by (try simp only [World.size_alloc]); omega) _) | (with_reducible refine Ext.tr ?_ (by assumption)))); done) | fail) only [go_sem, jn_r, Nat.reduceAdd, Nat.reduceLeDiff, Nat.reduceMul, Int.reduceToNat, Nat.reduceEqDiff, Nat.reduceLT, Int.reduceBEq, Int.reduceBNe, Int.reduceLT, Int.reduceLE, Int.reduceAdd, Int.reduceSub, Int.reduceMul, Int.reduceDiv, Int.reduceMod, Int.reduceNeg, d0, d00, d1, hq3, Int.toNat_natCast, hrow, e3, k3, hu, ew]
              refine hn (i + 1) _ _ ⟨rfl, hE.alloc _, fun j hj => ?_⟩ (by omega)
              by_cases e : j = i
              · rw [e, hy]; exact hu'
              · exact hq j (by omega)
          · have d0 : ¬ ((i : Int) < 32) := by omega
            rw [if_neg (by rw [rows_any_false hV fun j hj => hq j (by omega)]; decide)]
            simp -dsimp (disch := first | omega | assumption | ((simp only [World.size_alloc, size_setRow, List.size_toArray, List.length_cons, List.length_nil, cells_agg, len_enc, cells_int, cells_bool, cells_slice, cells_ptr, cells_string]) <;> omega) | ((repeat (first | with_reducible exact Ext.refl _ | with_reducible assumption | with_reducible apply Ext.alloc | with_reducible apply Ext.drew | (with_reducible refine Ext.setRow ?_ (by (try simp only [World.size_alloc]); omega) _) | (with_reducible refine Ext.tr ?_ (by assumption)))); done) | fail) only [go_sem, jn_r, Nat.reduceAdd, Nat.reduceLeDiff, Nat.reduceMul, Int.reduceToNat, Nat.reduceEqDiff, Nat.reduceLT, Int.reduceBEq, Int.reduceBNe, Int.reduceLT, Int.reduceLE, Int.reduceAdd, Int.reduceSub, Int.reduceMul, Int.reduceDiv, Int.reduceMod, Int.reduceNeg, d0]
            exact hE3
        · have e1 : ((V.at x.port.toNat).ver != was) = true := by simp [hve]
          rw [if_pos hve]
          simp -dsimp (disch := first | omega | assumption | ((simp only [World.size_alloc, size_setRow, List.size_toArray, List.length_cons, List.length_nil, cells_agg, len_enc, cells_int, cells_bool, cells_slice, cells_ptr, cells_string]) <;> omega) | ((repeat (first | with_reducible exact Ext.refl _ | with_reducible assumption | with_reducible apply Ext.alloc | with_reducible apply Ext.drew | (with_reducible refine Ext.setRow ?_ (by (try simp only [World.size_alloc]); omega) _) | (with_reducible refine Ext.tr ?_ (by assumption)))); done) | fail) only [go_sem, jn_r, Nat.reduceAdd, Nat.reduceLeDiff, Nat.reduceMul, Int.reduceToNat, Nat.reduceEqDiff, Nat.reduceLT, Int.reduceBEq, Int.reduceBNe, Int.reduceLT, Int.reduceLE, Int.reduceAdd, Int.reduceSub, Int.reduceMul, Int.reduceDiv, Int.reduceMod, Int.reduceNeg, k2', hq2, d0, hbn.1.1, r4, e1]
          exact hx3.drew
  · rw [if_pos (.inl hok)]
    have e0 : decide x.Ok = false := decide_eq_false hok
    simp -dsimp (disch := first | omega | assumption | ((simp only [World.size_alloc, size_setRow, List.size_toArray, List.length_cons, List.length_nil, cells_agg, len_enc, cells_int, cells_bool, cells_slice, cells_ptr, cells_string]) <;> omega) | ((repeat (first | with_reducible exact Ext.refl _ | with_reducible assumption | with_reducible apply Ext.alloc | with_reducible apply Ext.drew | (with_reducible refine Ext.setRow ?_ (by (try simp only [World.size_alloc]); omega) _) | (with_reducible refine Ext.tr ?_ (by assumption)))); done) | fail) only [go_sem, jn_r, Nat.reduceAdd, Nat.reduceLeDiff, Nat.reduceMul, Int.reduceToNat, Nat.reduceEqDiff, Nat.reduceLT, Int.reduceBEq, Int.reduceBNe, Int.reduceLT, Int.reduceLE, Int.reduceAdd, Int.reduceSub, Int.reduceMul, Int.reduceDiv, Int.reduceMod, Int.reduceNeg, e0, k2]
    exact hx1
end
end Go.Proofs.Ytbkgijnmckchbaa
