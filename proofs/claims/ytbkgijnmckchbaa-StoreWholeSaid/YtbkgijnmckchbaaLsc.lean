/- the laws of the database: two that are the same tell the same. -/
import Derived.Test.YtbkgijnmckchbaaLsb
namespace Go.Proofs.Ytbkgijnmckchbaa
open Go
set_option linter.unusedSimpArgs false
set_option linter.unusedVariables false
section
variable {w : World}
theorem Vw.late_len (V : Vw) (now span : Int) : (V.late now span).length ≤ 32 := by
  unfold Vw.late
  exact Nat.le_trans (List.length_filterMap_le _ _) V.rows_len
set_option maxHeartbeats 2000000 in
theorem rutterlaw10_same.c {V : Vw} (hV : V.Ok) {p q : Nat} {B : List Nat} (hp : StAt w p B V) (hq : RefAt w q V) (l0 l1 mac : Int) (hl1 : -9223372036854775808 ≤ l1 ∧ l1 ≤ 9223372036854775807) :
    Calls Try.prog rutterlaw10_same.id #[.pointer (some ⟨p, 0, none⟩), .pointer (some ⟨q, 0, none⟩), .agg #[.int .i64 l0, .int .i64 l1], .int .u64 mac] w (retP fun r w' => r = .bool true ∧ Ext w w') := by
  have hpE : ∀ {w'}, Ext w w' → StAt w' p B V := fun hx => hp.chg (hx.chg (S := [])) (by simp)
  apply rutterlaw10_same.sound
  unfold rutterlaw10_same.sh
  simp -dsimp (disch := first | omega | assumption | ((simp only [World.size_alloc, size_setRow, List.size_toArray, List.length_cons, List.length_nil, cells_agg, len_enc, cells_int, cells_bool, cells_slice, cells_ptr, cells_string]) <;> omega) | ((repeat (first | with_reducible exact Ext.refl _ | with_reducible assumption | with_reducible apply Ext.alloc | with_reducible apply Ext.drew | (with_reducible refine Ext.setRow ?_ (by (try simp only [World.size_alloc]); omega) _) | (with_reducible refine Ext.tr ?_ (by assumption)))); done) | fail) only [go_sem, jn_r, Nat.reduceAdd, Nat.reduceLeDiff, Nat.reduceMul, Int.reduceToNat, Nat.reduceEqDiff, Nat.reduceLT, Int.reduceBEq, Int.reduceBNe, Int.reduceLT, Int.reduceLE, Int.reduceAdd, Int.reduceSub, Int.reduceMul, Int.reduceDiv, Int.reduceMod, Int.reduceNeg]
  have x0 : Ext w (w.alloc (.cells #[.int .i64 l0, .int .i64 l1] 23)) := (Ext.refl w).alloc _
  refine callM (store_Store_Rows.c hV (hpE x0)) ?_
  rintro u1 w1 ⟨o1, x1⟩
  have y1 := x0.tr x1
  have z1 := x1.size
  simp only [World.size_alloc] at z1
  have k1 : blk w1 w.heap.size = some #[.int .i64 l0, .int .i64 l1] := by simp -dsimp (disch := first | omega | assumption | ((simp only [World.size_alloc, size_setRow, List.size_toArray, List.length_cons, List.length_nil, cells_agg, len_enc, cells_int, cells_bool, cells_slice, cells_ptr, cells_string]) <;> omega) | ((repeat (first | with_reducible exact Ext.refl _ | with_reducible assumption | with_reducible apply Ext.alloc | with_reducible apply Ext.drew | (with_reducible refine Ext.setRow ?_ (by (try simp only [World.size_alloc]); omega) _) | (with_reducible refine Ext.tr ?_ (by assumption)))); done) | fail) only [go_sem, jn_r, Nat.reduceAdd, Nat.reduceLeDiff, Nat.reduceMul, Int.reduceToNat, Nat.reduceEqDiff, Nat.reduceLT, Int.reduceBEq, Int.reduceBNe, Int.reduceLT, Int.reduceLE, Int.reduceAdd, Int.reduceSub, Int.reduceMul, Int.reduceDiv, Int.reduceMod, Int.reduceNeg, x1.blk]
  refine callM (rutterref10_Store_Rows.c hV (hq.ext y1)) ?_
  rintro u2 w2 ⟨o2, x2⟩
  have y2 := y1.tr x2
  refine callM (rutterref10_Same.c (o1.sl.ext x2) o2.sl (by have := V.rows_len; omega)) ?_
  rintro _ w3 ⟨rfl, x3⟩
  have y3 := y2.tr x3
  have e3 : decide (V.rows = V.rows) = true := by simp

  refine callM (store_Store_Chassis.c hV (hpE y3)) ?_
  rintro u4 w4 ⟨o4, x4⟩
  have y4 := y3.tr x4
  refine callM (rutterref10_Store_Chassis.c hV (hq.ext y4)) ?_
  rintro u5 w5 ⟨o5, x5⟩
  have y5 := y4.tr x5
  refine callM (rutterref10_Ints.c (o4.ext x5) o5 (by have := V.chassis_len; omega)) ?_
  rintro _ w6 ⟨rfl, x6⟩
  have y6 := y5.tr x6
  have e6 : decide (V.chassis = V.chassis) = true := by simp
  have x16 : Ext w1 w6 := (((((x2.tr x3).tr x4).tr x5)).tr x6)
  have k6 := x16.blkS k1
  have i0 : (0 : Int) < ((2 : Nat) : Int) := by omega
  have i1 : (1 : Int) < ((2 : Nat) : Int) := by omega
  have i2 : (0 : Int) ≤ 0 := by omega
  have i3 : (0 : Int) ≤ 1 := by omega
  have i4 : (0 : Int).toNat = 0 := rfl
  have i5 : (1 : Int).toNat = 1 := rfl
  simp -dsimp (disch := first | omega | assumption | ((simp only [World.size_alloc, size_setRow, List.size_toArray, List.length_cons, List.length_nil, cells_agg, len_enc, cells_int, cells_bool, cells_slice, cells_ptr, cells_string]) <;> omega) | ((repeat (first | with_reducible exact Ext.refl _ | with_reducible assumption | with_reducible apply Ext.alloc | with_reducible apply Ext.drew | (with_reducible refine Ext.setRow ?_ (by (try simp only [World.size_alloc]); omega) _) | (with_reducible refine Ext.tr ?_ (by assumption)))); done) | fail) only [go_sem, jn_r, Nat.reduceAdd, Nat.reduceLeDiff, Nat.reduceMul, Int.reduceToNat, Nat.reduceEqDiff, Nat.reduceLT, Int.reduceBEq, Int.reduceBNe, Int.reduceLT, Int.reduceLE, Int.reduceAdd, Int.reduceSub, Int.reduceMul, Int.reduceDiv, Int.reduceMod, Int.reduceNeg, e6, k6, i0, i2, i4, Nat.mul_one]
  refine callM (store_Store_Row.c (hpE y6) l0) ?_
  rintro _ w7 ⟨rfl, x7⟩
  have y7 := y6.tr x7
  have k7 := x7.blkS k6
  obtain ⟨r, hr⟩ : ∃ r, (V.r l0).getD Rw.zero = r := ⟨_, rfl⟩
  obtain ⟨f, hf⟩ : ∃ f, (V.find mac).getD Rw.zero = f := ⟨_, rfl⟩
  rw [hr]
  unfold Rw.v
  have g7 := blk_lt k7
  simp -dsimp (disch := first | omega | assumption | ((simp only [World.size_alloc, size_setRow, List.size_toArray, List.length_cons, List.length_nil, cells_agg, len_enc, cells_int, cells_bool, cells_slice, cells_ptr, cells_string]) <;> omega) | ((repeat (first | with_reducible exact Ext.refl _ | with_reducible assumption | with_reducible apply Ext.alloc | with_reducible apply Ext.drew | (with_reducible refine Ext.setRow ?_ (by (try simp only [World.size_alloc]); omega) _) | (with_reducible refine Ext.tr ?_ (by assumption)))); done) | fail) only [go_sem, jn_r, Nat.reduceAdd, Nat.reduceLeDiff, Nat.reduceMul, Int.reduceToNat, Nat.reduceEqDiff, Nat.reduceLT, Int.reduceBEq, Int.reduceBNe, Int.reduceLT, Int.reduceLE, Int.reduceAdd, Int.reduceSub, Int.reduceMul, Int.reduceDiv, Int.reduceMod, Int.reduceNeg, k7, i0, i2, i4, Nat.mul_one]
  refine callM (rutterref10_Store_Row.c hV ((hq.ext y7).ext (by (repeat (first | with_reducible exact Ext.refl _ | with_reducible assumption | with_reducible apply Ext.alloc | with_reducible apply Ext.drew | (with_reducible refine Ext.setRow ?_ (by (try simp only [World.size_alloc]); omega) _) | (with_reducible refine Ext.tr ?_ (by assumption)))))) l0) ?_
  rintro _ w8 ⟨rfl, x8⟩
  have y8 : Ext w w8 := Ext.tr (y7.alloc _) x8
  have z8 := x8.size
  simp only [World.size_alloc] at z8
  have a8 : blk w8 w7.heap.size = some #[.int .i64 r.port, .int .u64 r.mac, .int .i64 r.owner, .int .i64 r.target, .int .i64 r.old, .int .i64 r.gen, .int .i64 r.phase, .int .i64 r.ver, .int .i64 r.since] := by simp -dsimp (disch := first | omega | assumption | ((simp only [World.size_alloc, size_setRow, List.size_toArray, List.length_cons, List.length_nil, cells_agg, len_enc, cells_int, cells_bool, cells_slice, cells_ptr, cells_string]) <;> omega) | ((repeat (first | with_reducible exact Ext.refl _ | with_reducible assumption | with_reducible apply Ext.alloc | with_reducible apply Ext.drew | (with_reducible refine Ext.setRow ?_ (by (try simp only [World.size_alloc]); omega) _) | (with_reducible refine Ext.tr ?_ (by assumption)))); done) | fail) only [go_sem, jn_r, Nat.reduceAdd, Nat.reduceLeDiff, Nat.reduceMul, Int.reduceToNat, Nat.reduceEqDiff, Nat.reduceLT, Int.reduceBEq, Int.reduceBNe, Int.reduceLT, Int.reduceLE, Int.reduceAdd, Int.reduceSub, Int.reduceMul, Int.reduceDiv, Int.reduceMod, Int.reduceNeg, x8.blk]
  have k8 : blk w8 w.heap.size = some #[.int .i64 l0, .int .i64 l1] := by simp -dsimp (disch := first | omega | assumption | ((simp only [World.size_alloc, size_setRow, List.size_toArray, List.length_cons, List.length_nil, cells_agg, len_enc, cells_int, cells_bool, cells_slice, cells_ptr, cells_string]) <;> omega) | ((repeat (first | with_reducible exact Ext.refl _ | with_reducible assumption | with_reducible apply Ext.alloc | with_reducible apply Ext.drew | (with_reducible refine Ext.setRow ?_ (by (try simp only [World.size_alloc]); omega) _) | (with_reducible refine Ext.tr ?_ (by assumption)))); done) | fail) only [go_sem, jn_r, Nat.reduceAdd, Nat.reduceLeDiff, Nat.reduceMul, Int.reduceToNat, Nat.reduceEqDiff, Nat.reduceLT, Int.reduceBEq, Int.reduceBNe, Int.reduceLT, Int.reduceLE, Int.reduceAdd, Int.reduceSub, Int.reduceMul, Int.reduceDiv, Int.reduceMod, Int.reduceNeg, x8.blk, k7]
  unfold rowO
  rw [hr]
  unfold Rw.v
  simp -dsimp (disch := first | omega | assumption | ((simp only [World.size_alloc, size_setRow, List.size_toArray, List.length_cons, List.length_nil, cells_agg, len_enc, cells_int, cells_bool, cells_slice, cells_ptr, cells_string]) <;> omega) | ((repeat (first | with_reducible exact Ext.refl _ | with_reducible assumption | with_reducible apply Ext.alloc | with_reducible apply Ext.drew | (with_reducible refine Ext.setRow ?_ (by (try simp only [World.size_alloc]); omega) _) | (with_reducible refine Ext.tr ?_ (by assumption)))); done) | fail) only [go_sem, jn_r, Nat.reduceAdd, Nat.reduceLeDiff, Nat.reduceMul, Int.reduceToNat, Nat.reduceEqDiff, Nat.reduceLT, Int.reduceBEq, Int.reduceBNe, Int.reduceLT, Int.reduceLE, Int.reduceAdd, Int.reduceSub, Int.reduceMul, Int.reduceDiv, Int.reduceMod, Int.reduceNeg]
  refine callM (store_Store_Find.c hV (hpE (y8.alloc _)) mac) ?_
  rintro _ w9 ⟨rfl, x9⟩
  have y9 : Ext w w9 := Ext.tr (y8.alloc _) x9
  have z9 := x9.size
  simp only [World.size_alloc] at z9
  have b9 : blk w9 w8.heap.size = some #[.int .i64 r.port, .int .u64 r.mac, .int .i64 r.owner, .int .i64 r.target, .int .i64 r.old, .int .i64 r.gen, .int .i64 r.phase, .int .i64 r.ver, .int .i64 r.since] := by simp -dsimp (disch := first | omega | assumption | ((simp only [World.size_alloc, size_setRow, List.size_toArray, List.length_cons, List.length_nil, cells_agg, len_enc, cells_int, cells_bool, cells_slice, cells_ptr, cells_string]) <;> omega) | ((repeat (first | with_reducible exact Ext.refl _ | with_reducible assumption | with_reducible apply Ext.alloc | with_reducible apply Ext.drew | (with_reducible refine Ext.setRow ?_ (by (try simp only [World.size_alloc]); omega) _) | (with_reducible refine Ext.tr ?_ (by assumption)))); done) | fail) only [go_sem, jn_r, Nat.reduceAdd, Nat.reduceLeDiff, Nat.reduceMul, Int.reduceToNat, Nat.reduceEqDiff, Nat.reduceLT, Int.reduceBEq, Int.reduceBNe, Int.reduceLT, Int.reduceLE, Int.reduceAdd, Int.reduceSub, Int.reduceMul, Int.reduceDiv, Int.reduceMod, Int.reduceNeg, x9.blk]
  have a9 : blk w9 w7.heap.size = some #[.int .i64 r.port, .int .u64 r.mac, .int .i64 r.owner, .int .i64 r.target, .int .i64 r.old, .int .i64 r.gen, .int .i64 r.phase, .int .i64 r.ver, .int .i64 r.since] := by simp -dsimp (disch := first | omega | assumption | ((simp only [World.size_alloc, size_setRow, List.size_toArray, List.length_cons, List.length_nil, cells_agg, len_enc, cells_int, cells_bool, cells_slice, cells_ptr, cells_string]) <;> omega) | ((repeat (first | with_reducible exact Ext.refl _ | with_reducible assumption | with_reducible apply Ext.alloc | with_reducible apply Ext.drew | (with_reducible refine Ext.setRow ?_ (by (try simp only [World.size_alloc]); omega) _) | (with_reducible refine Ext.tr ?_ (by assumption)))); done) | fail) only [go_sem, jn_r, Nat.reduceAdd, Nat.reduceLeDiff, Nat.reduceMul, Int.reduceToNat, Nat.reduceEqDiff, Nat.reduceLT, Int.reduceBEq, Int.reduceBNe, Int.reduceLT, Int.reduceLE, Int.reduceAdd, Int.reduceSub, Int.reduceMul, Int.reduceDiv, Int.reduceMod, Int.reduceNeg, x9.blk, a8]
  have k9 : blk w9 w.heap.size = some #[.int .i64 l0, .int .i64 l1] := by simp -dsimp (disch := first | omega | assumption | ((simp only [World.size_alloc, size_setRow, List.size_toArray, List.length_cons, List.length_nil, cells_agg, len_enc, cells_int, cells_bool, cells_slice, cells_ptr, cells_string]) <;> omega) | ((repeat (first | with_reducible exact Ext.refl _ | with_reducible assumption | with_reducible apply Ext.alloc | with_reducible apply Ext.drew | (with_reducible refine Ext.setRow ?_ (by (try simp only [World.size_alloc]); omega) _) | (with_reducible refine Ext.tr ?_ (by assumption)))); done) | fail) only [go_sem, jn_r, Nat.reduceAdd, Nat.reduceLeDiff, Nat.reduceMul, Int.reduceToNat, Nat.reduceEqDiff, Nat.reduceLT, Int.reduceBEq, Int.reduceBNe, Int.reduceLT, Int.reduceLE, Int.reduceAdd, Int.reduceSub, Int.reduceMul, Int.reduceDiv, Int.reduceMod, Int.reduceNeg, x9.blk, k8]
  unfold rowO
  rw [hf]
  unfold Rw.v
  simp -dsimp (disch := first | omega | assumption | ((simp only [World.size_alloc, size_setRow, List.size_toArray, List.length_cons, List.length_nil, cells_agg, len_enc, cells_int, cells_bool, cells_slice, cells_ptr, cells_string]) <;> omega) | ((repeat (first | with_reducible exact Ext.refl _ | with_reducible assumption | with_reducible apply Ext.alloc | with_reducible apply Ext.drew | (with_reducible refine Ext.setRow ?_ (by (try simp only [World.size_alloc]); omega) _) | (with_reducible refine Ext.tr ?_ (by assumption)))); done) | fail) only [go_sem, jn_r, Nat.reduceAdd, Nat.reduceLeDiff, Nat.reduceMul, Int.reduceToNat, Nat.reduceEqDiff, Nat.reduceLT, Int.reduceBEq, Int.reduceBNe, Int.reduceLT, Int.reduceLE, Int.reduceAdd, Int.reduceSub, Int.reduceMul, Int.reduceDiv, Int.reduceMod, Int.reduceNeg]
  refine callM (rutterref10_Store_Find.c hV (hq.ext (y9.alloc _)) mac) ?_
  rintro _ w10 ⟨rfl, x10⟩
  have y10 : Ext w w10 := Ext.tr (y9.alloc _) x10
  have z10 := x10.size
  simp only [World.size_alloc] at z10
  have c10 : blk w10 w9.heap.size = some #[.int .i64 f.port, .int .u64 f.mac, .int .i64 f.owner, .int .i64 f.target, .int .i64 f.old, .int .i64 f.gen, .int .i64 f.phase, .int .i64 f.ver, .int .i64 f.since] := by simp -dsimp (disch := first | omega | assumption | ((simp only [World.size_alloc, size_setRow, List.size_toArray, List.length_cons, List.length_nil, cells_agg, len_enc, cells_int, cells_bool, cells_slice, cells_ptr, cells_string]) <;> omega) | ((repeat (first | with_reducible exact Ext.refl _ | with_reducible assumption | with_reducible apply Ext.alloc | with_reducible apply Ext.drew | (with_reducible refine Ext.setRow ?_ (by (try simp only [World.size_alloc]); omega) _) | (with_reducible refine Ext.tr ?_ (by assumption)))); done) | fail) only [go_sem, jn_r, Nat.reduceAdd, Nat.reduceLeDiff, Nat.reduceMul, Int.reduceToNat, Nat.reduceEqDiff, Nat.reduceLT, Int.reduceBEq, Int.reduceBNe, Int.reduceLT, Int.reduceLE, Int.reduceAdd, Int.reduceSub, Int.reduceMul, Int.reduceDiv, Int.reduceMod, Int.reduceNeg, x10.blk]
  have b10 : blk w10 w8.heap.size = some #[.int .i64 r.port, .int .u64 r.mac, .int .i64 r.owner, .int .i64 r.target, .int .i64 r.old, .int .i64 r.gen, .int .i64 r.phase, .int .i64 r.ver, .int .i64 r.since] := by simp -dsimp (disch := first | omega | assumption | ((simp only [World.size_alloc, size_setRow, List.size_toArray, List.length_cons, List.length_nil, cells_agg, len_enc, cells_int, cells_bool, cells_slice, cells_ptr, cells_string]) <;> omega) | ((repeat (first | with_reducible exact Ext.refl _ | with_reducible assumption | with_reducible apply Ext.alloc | with_reducible apply Ext.drew | (with_reducible refine Ext.setRow ?_ (by (try simp only [World.size_alloc]); omega) _) | (with_reducible refine Ext.tr ?_ (by assumption)))); done) | fail) only [go_sem, jn_r, Nat.reduceAdd, Nat.reduceLeDiff, Nat.reduceMul, Int.reduceToNat, Nat.reduceEqDiff, Nat.reduceLT, Int.reduceBEq, Int.reduceBNe, Int.reduceLT, Int.reduceLE, Int.reduceAdd, Int.reduceSub, Int.reduceMul, Int.reduceDiv, Int.reduceMod, Int.reduceNeg, x10.blk, b9]
  have a10 : blk w10 w7.heap.size = some #[.int .i64 r.port, .int .u64 r.mac, .int .i64 r.owner, .int .i64 r.target, .int .i64 r.old, .int .i64 r.gen, .int .i64 r.phase, .int .i64 r.ver, .int .i64 r.since] := by simp -dsimp (disch := first | omega | assumption | ((simp only [World.size_alloc, size_setRow, List.size_toArray, List.length_cons, List.length_nil, cells_agg, len_enc, cells_int, cells_bool, cells_slice, cells_ptr, cells_string]) <;> omega) | ((repeat (first | with_reducible exact Ext.refl _ | with_reducible assumption | with_reducible apply Ext.alloc | with_reducible apply Ext.drew | (with_reducible refine Ext.setRow ?_ (by (try simp only [World.size_alloc]); omega) _) | (with_reducible refine Ext.tr ?_ (by assumption)))); done) | fail) only [go_sem, jn_r, Nat.reduceAdd, Nat.reduceLeDiff, Nat.reduceMul, Int.reduceToNat, Nat.reduceEqDiff, Nat.reduceLT, Int.reduceBEq, Int.reduceBNe, Int.reduceLT, Int.reduceLE, Int.reduceAdd, Int.reduceSub, Int.reduceMul, Int.reduceDiv, Int.reduceMod, Int.reduceNeg, x10.blk, a9]
  have k10 : blk w10 w.heap.size = some #[.int .i64 l0, .int .i64 l1] := by simp -dsimp (disch := first | omega | assumption | ((simp only [World.size_alloc, size_setRow, List.size_toArray, List.length_cons, List.length_nil, cells_agg, len_enc, cells_int, cells_bool, cells_slice, cells_ptr, cells_string]) <;> omega) | ((repeat (first | with_reducible exact Ext.refl _ | with_reducible assumption | with_reducible apply Ext.alloc | with_reducible apply Ext.drew | (with_reducible refine Ext.setRow ?_ (by (try simp only [World.size_alloc]); omega) _) | (with_reducible refine Ext.tr ?_ (by assumption)))); done) | fail) only [go_sem, jn_r, Nat.reduceAdd, Nat.reduceLeDiff, Nat.reduceMul, Int.reduceToNat, Nat.reduceEqDiff, Nat.reduceLT, Int.reduceBEq, Int.reduceBNe, Int.reduceLT, Int.reduceLE, Int.reduceAdd, Int.reduceSub, Int.reduceMul, Int.reduceDiv, Int.reduceMod, Int.reduceNeg, x10.blk, k9]
  unfold rowO
  rw [hf]
  unfold Rw.v
  have er : ∀ (K : Value → Prop), pv (be .neq 33 false (.agg #[.int .i64 r.port, .int .u64 r.mac, .int .i64 r.owner, .int .i64 r.target, .int .i64 r.old, .int .i64 r.gen, .int .i64 r.phase, .int .i64 r.ver, .int .i64 r.since]) (.agg #[.int .i64 r.port, .int .u64 r.mac, .int .i64 r.owner, .int .i64 r.target, .int .i64 r.old, .int .i64 r.gen, .int .i64 r.phase, .int .i64 r.ver, .int .i64 r.since])) K = K (.bool false) := fun K => (ne_row (r := r) (s := r)).trans (by simp)
  have ef : ∀ (K : Value → Prop), pv (be .neq 33 false (.agg #[.int .i64 f.port, .int .u64 f.mac, .int .i64 f.owner, .int .i64 f.target, .int .i64 f.old, .int .i64 f.gen, .int .i64 f.phase, .int .i64 f.ver, .int .i64 f.since]) (.agg #[.int .i64 f.port, .int .u64 f.mac, .int .i64 f.owner, .int .i64 f.target, .int .i64 f.old, .int .i64 f.gen, .int .i64 f.phase, .int .i64 f.ver, .int .i64 f.since])) K = K (.bool false) := fun K => (ne_row (r := f) (s := f)).trans (by simp)
  have g1 : ((V.r l0).isSome == (V.r l0).isSome) = true := by simp
  have g2 : ((V.find mac).isSome == (V.find mac).isSome) = true := by simp
  simp -dsimp (disch := first | omega | assumption | ((simp only [World.size_alloc, size_setRow, List.size_toArray, List.length_cons, List.length_nil, cells_agg, len_enc, cells_int, cells_bool, cells_slice, cells_ptr, cells_string]) <;> omega) | ((repeat (first | with_reducible exact Ext.refl _ | with_reducible assumption | with_reducible apply Ext.alloc | with_reducible apply Ext.drew | (with_reducible refine Ext.setRow ?_ (by (try simp only [World.size_alloc]); omega) _) | (with_reducible refine Ext.tr ?_ (by assumption)))); done) | fail) only [go_sem, jn_r, Nat.reduceAdd, Nat.reduceLeDiff, Nat.reduceMul, Int.reduceToNat, Nat.reduceEqDiff, Nat.reduceLT, Int.reduceBEq, Int.reduceBNe, Int.reduceLT, Int.reduceLE, Int.reduceAdd, Int.reduceSub, Int.reduceMul, Int.reduceDiv, Int.reduceMod, Int.reduceNeg, e3, e6, a10, b10, c10, k10, er, ef, g1, g2, i0, i2, i4, Nat.mul_one]
  have hz : ∀ v : World, v.drew.heap.size = v.heap.size := fun _ => rfl
  generalize hw11 : (w10.alloc _).drew = w11
  have x11 : Ext w10 w11 := by rw [← hw11]; exact ((Ext.refl w10).alloc _).drew
  have y11 := y10.tr x11
  have k11 := x11.blkS k10
  refine callM (store_Store_Has.c hV (hpE y11) l0) ?_
  rintro _ w12 ⟨rfl, rfl⟩
  simp -dsimp (disch := first | omega | assumption | ((simp only [World.size_alloc, size_setRow, List.size_toArray, List.length_cons, List.length_nil, cells_agg, len_enc, cells_int, cells_bool, cells_slice, cells_ptr, cells_string]) <;> omega) | ((repeat (first | with_reducible exact Ext.refl _ | with_reducible assumption | with_reducible apply Ext.alloc | with_reducible apply Ext.drew | (with_reducible refine Ext.setRow ?_ (by (try simp only [World.size_alloc]); omega) _) | (with_reducible refine Ext.tr ?_ (by assumption)))); done) | fail) only [go_sem, jn_r, Nat.reduceAdd, Nat.reduceLeDiff, Nat.reduceMul, Int.reduceToNat, Nat.reduceEqDiff, Nat.reduceLT, Int.reduceBEq, Int.reduceBNe, Int.reduceLT, Int.reduceLE, Int.reduceAdd, Int.reduceSub, Int.reduceMul, Int.reduceDiv, Int.reduceMod, Int.reduceNeg, k11, i0, i2, i4, Nat.mul_one]
  refine callM (rutterref10_Store_Has.c hV (hq.ext y11) l0) ?_
  rintro _ w13 ⟨rfl, rfl⟩
  have g3 : (V.c l0 == V.c l0) = true := by simp
  simp -dsimp (disch := first | omega | assumption | ((simp only [World.size_alloc, size_setRow, List.size_toArray, List.length_cons, List.length_nil, cells_agg, len_enc, cells_int, cells_bool, cells_slice, cells_ptr, cells_string]) <;> omega) | ((repeat (first | with_reducible exact Ext.refl _ | with_reducible assumption | with_reducible apply Ext.alloc | with_reducible apply Ext.drew | (with_reducible refine Ext.setRow ?_ (by (try simp only [World.size_alloc]); omega) _) | (with_reducible refine Ext.tr ?_ (by assumption)))); done) | fail) only [go_sem, jn_r, Nat.reduceAdd, Nat.reduceLeDiff, Nat.reduceMul, Int.reduceToNat, Nat.reduceEqDiff, Nat.reduceLT, Int.reduceBEq, Int.reduceBNe, Int.reduceLT, Int.reduceLE, Int.reduceAdd, Int.reduceSub, Int.reduceMul, Int.reduceDiv, Int.reduceMod, Int.reduceNeg, k11, i0, i1, i2, i3, i4, i5, Nat.mul_one, g3]
  refine callM (store_Store_Late.c hV (hpE y11) l1 l0 hl1) ?_
  rintro v14 w14 ⟨o14, x14⟩
  have hll := V.late_len l1 l0
  refine callM (rutterlaw10_of.c o14.sl (by omega)) ?_
  rintro v15 w15 ⟨o15, x15⟩
  have k15 := (x14.tr x15).blkS k11
  simp -dsimp (disch := first | omega | assumption | ((simp only [World.size_alloc, size_setRow, List.size_toArray, List.length_cons, List.length_nil, cells_agg, len_enc, cells_int, cells_bool, cells_slice, cells_ptr, cells_string]) <;> omega) | ((repeat (first | with_reducible exact Ext.refl _ | with_reducible assumption | with_reducible apply Ext.alloc | with_reducible apply Ext.drew | (with_reducible refine Ext.setRow ?_ (by (try simp only [World.size_alloc]); omega) _) | (with_reducible refine Ext.tr ?_ (by assumption)))); done) | fail) only [go_sem, jn_r, Nat.reduceAdd, Nat.reduceLeDiff, Nat.reduceMul, Int.reduceToNat, Nat.reduceEqDiff, Nat.reduceLT, Int.reduceBEq, Int.reduceBNe, Int.reduceLT, Int.reduceLE, Int.reduceAdd, Int.reduceSub, Int.reduceMul, Int.reduceDiv, Int.reduceMod, Int.reduceNeg, k15, i0, i1, i2, i3, i4, i5, Nat.mul_one]
  refine callM (rutterref10_Store_Late.c hV (hq.ext ((y11.tr x14).tr x15)) l1 l0 hl1) ?_
  rintro v16 w16 ⟨o16, x16'⟩
  have y16 := ((y11.tr x14).tr x15).tr x16'
  have s15 := o15.sl.ext x16'
  have s16 := o16.sl
  obtain ⟨a15, c15, rfl⟩ := s15.form
  obtain ⟨a16, c16, rfl⟩ := s16.form
  refine loop_g (γ := Nat) (fun i st w' => st = [.int .i64 (i : Int)] ∧ Ext w16 w') (fun i => (V.late l1 l0).length - i) 0 ⟨rfl, .refl _⟩ ?_
  rintro i st w17 next ⟨rfl, hE⟩ hn
  by_cases hi : i < (V.late l1 l0).length
  · have d0 : ((i : Int) < ((V.late l1 l0).length : Int)) := by omega
    have d1 : (0 : Int) ≤ (i : Int) := by omega
    have ew : IntKind.i64.wrap ((i : Int) + 1) = ((i + 1 : Nat) : Int) := by rw [wrap_64 (by omega) (by omega)]; simp
    obtain ⟨x, hx⟩ : ∃ x, (V.late l1 l0)[i]? = some x := ⟨_, List.getElem?_eq_getElem hi⟩
    obtain ⟨b1, o1, c1, cs1, hs1, hb1, hz1, ha1, -⟩ := (s15.ext hE).at hx
    cases hs1
    obtain ⟨b2, o2, c2, cs2, hs2, hb2, hz2, ha2, -⟩ := (s16.ext hE).at hx
    cases hs2
    have e' : decide (x = x) = true := by simp
    have hne : ∀ K : Value → Prop, pv (be .neq 68 false (.agg (chgC.enc x).toArray) (.agg (chgC.enc x).toArray)) K = K (.bool !(decide (x = x))) := fun K => ne_chg
    simp -dsimp (disch := first | omega | assumption | ((simp only [World.size_alloc, size_setRow, List.size_toArray, List.length_cons, List.length_nil, cells_agg, len_enc, cells_int, cells_bool, cells_slice, cells_ptr, cells_string]) <;> omega) | ((repeat (first | with_reducible exact Ext.refl _ | with_reducible assumption | with_reducible apply Ext.alloc | with_reducible apply Ext.drew | (with_reducible refine Ext.setRow ?_ (by (try simp only [World.size_alloc]); omega) _) | (with_reducible refine Ext.tr ?_ (by assumption)))); done) | fail) only [go_sem, jn_r, Nat.reduceAdd, Nat.reduceLeDiff, Nat.reduceMul, Int.reduceToNat, Nat.reduceEqDiff, Nat.reduceLT, Int.reduceBEq, Int.reduceBNe, Int.reduceLT, Int.reduceLE, Int.reduceAdd, Int.reduceSub, Int.reduceMul, Int.reduceDiv, Int.reduceMod, Int.reduceNeg, d0, d1, hb1, hb2, hz1, hz2, ha1, ha2, Int.toNat_natCast, hne, e', ew]
    exact hn (i + 1) _ _ ⟨rfl, hE.drew⟩ (by omega)
  · have d0 : ¬ ((i : Int) < ((V.late l1 l0).length : Int)) := by omega
    have g4 : (((V.late l1 l0).length : Int) == ((V.late l1 l0).length : Int)) = true := by simp
    simp -dsimp (disch := first | omega | assumption | ((simp only [World.size_alloc, size_setRow, List.size_toArray, List.length_cons, List.length_nil, cells_agg, len_enc, cells_int, cells_bool, cells_slice, cells_ptr, cells_string]) <;> omega) | ((repeat (first | with_reducible exact Ext.refl _ | with_reducible assumption | with_reducible apply Ext.alloc | with_reducible apply Ext.drew | (with_reducible refine Ext.setRow ?_ (by (try simp only [World.size_alloc]); omega) _) | (with_reducible refine Ext.tr ?_ (by assumption)))); done) | fail) only [go_sem, jn_r, Nat.reduceAdd, Nat.reduceLeDiff, Nat.reduceMul, Int.reduceToNat, Nat.reduceEqDiff, Nat.reduceLT, Int.reduceBEq, Int.reduceBNe, Int.reduceLT, Int.reduceLE, Int.reduceAdd, Int.reduceSub, Int.reduceMul, Int.reduceDiv, Int.reduceMod, Int.reduceNeg, d0, g4]
    exact y16.tr hE
end
end Go.Proofs.Ytbkgijnmckchbaa
