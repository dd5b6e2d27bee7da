/- alive: the live question of layer 15. -/
import Derived.Test.YtldjhbmccnbciaaFs
import Derived.Laws.OwnMore
namespace Go.Proofs.Ytldjhbmccnbciaa
open Go
set_option linter.unusedSimpArgs false
set_option linter.unusedVariables false
theorem made_bytes (n : Nat) : (madeCells (Value.int .u8 0).cells (n * 1)).toList = (List.replicate n (0 : UInt8)).flatMap bytC.enc := by
  unfold madeCells
  rw [Nat.mul_one]
  apply List.ext_getElem
  · rw [flat_len]; simp
  · intro i h1 h2
    have h3 : (List.replicate n (0 : UInt8))[i]? = some 0 := by
      have : i < n := by simpa using h1
      simp [this]
    have h4 := flat_get (C := bytC) _ h3 (j := 0) (u := .int .u8 0) rfl
    rw [Nat.mul_one, Nat.add_zero] at h4
    rw [(List.getElem_eq_iff h2).2 h4]
    simp [cells_int, Nat.mod_one]
theorem ms_bytes {s e : Nat} [S : SlT s e 1] {w : World} {L : Value → World → Prop} (hz : ((Try.prog.info? e).bind fun i => i.zero) = some (.int .u8 0)) (n : Nat) (hn : n ≤ 1000000)
    (h : ∀ w', Ow bytC e w.heap.size w' (.slice (some ⟨w.heap.size, 0, none⟩) n n) (List.replicate n 0) → Ext w w' → L (.slice (some ⟨w.heap.size, 0, none⟩) n n) w') : o (ms s (.int .i64 n) (.int .i64 n)) w L := by
  obtain ⟨i, z, hi, hk, hby, hz', hzs⟩ := S.i
  rw [hi] at hz
  simp [hz'] at hz
  subst hz
  obtain ⟨w', h1, h2, h3⟩ := run_makeSlice_full (P := Try.prog) w w.heap.size s e i _ 1 S.u hi hz' hk .i64 .i64 n (by omega) (by have := Nat.mul_le_mul hby hn; omega) (by simp only [maxLen]; omega) (Nat.le_refl _)
  rw [o_of (v := .slice (some ⟨w.heap.size, 0, none⟩) n n) (w' := w') (by simp only [ms, vN, Sem.run_bind, h1, Result.andThen_ok, Sem.run_pure])]
  refine h w' ?_ ((Ext.refl w).grown h3 (by simp))
  unfold Ow
  rw [made_bytes] at h2
  simpa using h2
def rowA : Rw := ⟨3, 7, 2, -1, 1, 5, 2, 9, 0⟩
theorem Rw.v_def (r : Rw) : (.agg #[.int .i64 r.port, .int .u64 r.mac, .int .i64 r.owner, .int .i64 r.target, .int .i64 r.old, .int .i64 r.gen, .int .i64 r.phase, .int .i64 r.ver, .int .i64 r.since] : Value) = r.v := rfl
def frA : List UInt8 := frB 7 0 0 []
def pkA : Pk := ⟨1, 0, 0, 2, 3, 5, 4, frA⟩
def pkB : Pk := ⟨1, 0, 0, 1, 3, 4, 4, List.replicate 14 0⟩
def pkC : Pk := ⟨2, 0, 1, 2, 3, 5, 4, List.replicate 14 0⟩
theorem gA : guestOk 0 7 0 0 ([] : List UInt8).length 4 = true := by decide
theorem aA : guestAct (bestA ([rowA].flatMap (rowE 0)) ⟨0, 7, 0, 0, -1⟩) 0 (frB 7 0 0 []) 4 = { Oc.zero with kind := 2, pk := pkA } := by
  have h1 : bestA ([rowA].flatMap (rowE 0)) ⟨0, 7, 0, 0, -1⟩ = ⟨2, 3, 2, 5⟩ := by decide
  have h2 : pkA.Rt := by decide
  rw [h1]
  unfold guestAct sendO
  simp only [show ¬ ((2 : Int) = 1) by decide, if_false, if_true]
  exact if_pos h2
theorem tB : tunOk pkB 1 = true := by decide
theorem aB : tunnelAct (bestA ([rowA].flatMap (rowE 1)) ⟨1, 0, 3, 4, 0⟩) pkB = { Oc.zero with kind := 2, pk := pkC } := by
  have h1 : bestA ([rowA].flatMap (rowE 1)) ⟨1, 0, 3, 4, 0⟩ = ⟨2, 3, 2, 5⟩ := by decide
  have h2 : pkB.Rt := by decide
  have h3 : pkC.Rt := by decide
  have h4 : againP pkB 2 5 = (pkC, 0) := by
    unfold againP
    rw [if_pos h2, if_pos (by rfl)]
    exact if_pos h3
  rw [h1]
  unfold tunnelAct
  simp only [show ¬ ((2 : Int) = 1) by decide, if_false, if_true, h4]
  unfold sendO
  exact if_pos h3
theorem tC : tunOk pkC 2 = true := by decide
theorem aC : tunnelAct (bestA ([rowA].flatMap (rowE 2)) ⟨2, 0, 3, 5, 0⟩) pkC = ⟨1, 3, 5, 5, List.replicate 14 0, .zero⟩ := by
  have h1 : bestA ([rowA].flatMap (rowE 2)) ⟨2, 0, 3, 5, 0⟩ = ⟨1, 3, 2, 5⟩ := by decide
  rw [h1]
  rfl
theorem tD : tunOk pkB 2 = false := by decide
theorem rutterlaw15_alive.c (w : World) : Calls Try.prog rutterlaw15_alive.id #[] w (retP fun r w' => r = .bool true ∧ Ext w w') := by
  apply rutterlaw15_alive.sound
  unfold rutterlaw15_alive.sh
  simp -dsimp (disch := first | omega | assumption | ((simp only [World.size_alloc, size_setRow, List.size_toArray, List.length_cons, List.length_nil, cells_agg, len_enc, cells_int, cells_bool, cells_slice, cells_ptr, cells_string]) <;> omega) | ((repeat (first | with_reducible exact Ext.refl _ | with_reducible assumption | with_reducible apply Ext.alloc | with_reducible apply Ext.drew | (with_reducible refine Ext.setRow ?_ (by (try simp only [World.size_alloc]); omega) _) | (with_reducible refine Ext.tr ?_ (by assumption)))); done) | fail) only [go_sem, jn_r, Nat.reduceAdd, Nat.reduceLeDiff, Nat.reduceMul, Int.reduceToNat, Nat.reduceEqDiff, Nat.reduceLT, Int.reduceBEq, Int.reduceBNe, Int.reduceLT, Int.reduceLE, Int.reduceAdd, Int.reduceSub, Int.reduceMul, Int.reduceDiv, Int.reduceMod, Int.reduceNeg]
  refine callM (bind_Table.c _ 0 _ [rowA] (Sl.lit (blk_new (by simp)) rfl rfl) (by simp)) ?_
  rintro _ w1 ⟨tv1, M1, rfl, hM1, hT1, hx1⟩
  have hz1 := hx1.size
  simp only [World.size_alloc] at hz1
  have hE1 : Ext w w1 := Ext.tr (by (repeat (first | with_reducible exact Ext.refl _ | with_reducible assumption | with_reducible apply Ext.alloc | with_reducible apply Ext.drew | (with_reducible refine Ext.setRow ?_ (by (try simp only [World.size_alloc]); omega) _) | (with_reducible refine Ext.tr ?_ (by assumption))))) hx1
  simp -dsimp (disch := first | omega | assumption | ((simp only [World.size_alloc, size_setRow, List.size_toArray, List.length_cons, List.length_nil, cells_agg, len_enc, cells_int, cells_bool, cells_slice, cells_ptr, cells_string]) <;> omega) | ((repeat (first | with_reducible exact Ext.refl _ | with_reducible assumption | with_reducible apply Ext.alloc | with_reducible apply Ext.drew | (with_reducible refine Ext.setRow ?_ (by (try simp only [World.size_alloc]); omega) _) | (with_reducible refine Ext.tr ?_ (by assumption)))); done) | fail) only [go_sem, jn_r, Nat.reduceAdd, Nat.reduceLeDiff, Nat.reduceMul, Int.reduceToNat, Nat.reduceEqDiff, Nat.reduceLT, Int.reduceBEq, Int.reduceBNe, Int.reduceLT, Int.reduceLE, Int.reduceAdd, Int.reduceSub, Int.reduceMul, Int.reduceDiv, Int.reduceMod, Int.reduceNeg, hx1.blk, hx1.blk0]
  refine callM (bind_Table.c _ 1 _ [rowA] (Sl.lit (blk_new (by simp)) rfl rfl) (by simp)) ?_
  rintro _ w2 ⟨tv2, M2, rfl, hM2, hT2, hx2⟩
  have hz2 := hx2.size
  simp only [World.size_alloc] at hz2
  have hE2 : Ext w w2 := Ext.tr (by (repeat (first | with_reducible exact Ext.refl _ | with_reducible assumption | with_reducible apply Ext.alloc | with_reducible apply Ext.drew | (with_reducible refine Ext.setRow ?_ (by (try simp only [World.size_alloc]); omega) _) | (with_reducible refine Ext.tr ?_ (by assumption))))) hx2
  have hE12 : Ext w1 w2 := Ext.tr (by (repeat (first | with_reducible exact Ext.refl _ | with_reducible assumption | with_reducible apply Ext.alloc | with_reducible apply Ext.drew | (with_reducible refine Ext.setRow ?_ (by (try simp only [World.size_alloc]); omega) _) | (with_reducible refine Ext.tr ?_ (by assumption))))) hx2
  simp -dsimp (disch := first | omega | assumption | ((simp only [World.size_alloc, size_setRow, List.size_toArray, List.length_cons, List.length_nil, cells_agg, len_enc, cells_int, cells_bool, cells_slice, cells_ptr, cells_string]) <;> omega) | ((repeat (first | with_reducible exact Ext.refl _ | with_reducible assumption | with_reducible apply Ext.alloc | with_reducible apply Ext.drew | (with_reducible refine Ext.setRow ?_ (by (try simp only [World.size_alloc]); omega) _) | (with_reducible refine Ext.tr ?_ (by assumption)))); done) | fail) only [go_sem, jn_r, Nat.reduceAdd, Nat.reduceLeDiff, Nat.reduceMul, Int.reduceToNat, Nat.reduceEqDiff, Nat.reduceLT, Int.reduceBEq, Int.reduceBNe, Int.reduceLT, Int.reduceLE, Int.reduceAdd, Int.reduceSub, Int.reduceMul, Int.reduceDiv, Int.reduceMod, Int.reduceNeg, hx2.blk, hx2.blk0, hx1.blk, hx1.blk0]
  refine callM (bind_Table.c _ 2 _ [rowA] (Sl.lit (blk_new (by simp)) rfl rfl) (by simp)) ?_
  rintro _ w3 ⟨tv3, M3, rfl, hM3, hT3, hx3⟩
  have hz3 := hx3.size
  simp only [World.size_alloc] at hz3
  have hE3 : Ext w w3 := Ext.tr (by (repeat (first | with_reducible exact Ext.refl _ | with_reducible assumption | with_reducible apply Ext.alloc | with_reducible apply Ext.drew | (with_reducible refine Ext.setRow ?_ (by (try simp only [World.size_alloc]); omega) _) | (with_reducible refine Ext.tr ?_ (by assumption))))) hx3
  have hE23 : Ext w2 w3 := Ext.tr (by (repeat (first | with_reducible exact Ext.refl _ | with_reducible assumption | with_reducible apply Ext.alloc | with_reducible apply Ext.drew | (with_reducible refine Ext.setRow ?_ (by (try simp only [World.size_alloc]); omega) _) | (with_reducible refine Ext.tr ?_ (by assumption))))) hx3
  simp -dsimp (disch := first | omega | assumption | ((simp only [World.size_alloc, size_setRow, List.size_toArray, List.length_cons, List.length_nil, cells_agg, len_enc, cells_int, cells_bool, cells_slice, cells_ptr, cells_string]) <;> omega) | ((repeat (first | with_reducible exact Ext.refl _ | with_reducible assumption | with_reducible apply Ext.alloc | with_reducible apply Ext.drew | (with_reducible refine Ext.setRow ?_ (by (try simp only [World.size_alloc]); omega) _) | (with_reducible refine Ext.tr ?_ (by assumption)))); done) | fail) only [go_sem, jn_r, Nat.reduceAdd, Nat.reduceLeDiff, Nat.reduceMul, Int.reduceToNat, Nat.reduceEqDiff, Nat.reduceLT, Int.reduceBEq, Int.reduceBNe, Int.reduceLT, Int.reduceLE, Int.reduceAdd, Int.reduceSub, Int.reduceMul, Int.reduceDiv, Int.reduceMod, Int.reduceNeg]
  refine callM (dpath_Guest.c w3 tv1 M1 0 7 0 0 4 (.slice none 0 0) [] (hT1.ext (hE12.tr hE23)) .nil (by decide) (by decide) (by decide) (by decide)) ?_
  rintro _ w4 ⟨⟨v4, rfl, hO4⟩, hx4⟩
  rw [gA] at hO4 ⊢
  simp only [if_true] at hO4 ⊢
  rw [hM1.look, aA] at hO4
  have hz4 := hx4.size
  have hE4 : Ext w w4 := hE3.tr hx4
  obtain ⟨a1, c1, a2, c2, rfl, hs1, hs2, -⟩ := hO4
  unfold Oc.v
  simp -dsimp (disch := first | omega | assumption | ((simp only [World.size_alloc, size_setRow, List.size_toArray, List.length_cons, List.length_nil, cells_agg, len_enc, cells_int, cells_bool, cells_slice, cells_ptr, cells_string]) <;> omega) | ((repeat (first | with_reducible exact Ext.refl _ | with_reducible assumption | with_reducible apply Ext.alloc | with_reducible apply Ext.drew | (with_reducible refine Ext.setRow ?_ (by (try simp only [World.size_alloc]); omega) _) | (with_reducible refine Ext.tr ?_ (by assumption)))); done) | fail) only [go_sem, jn_r, Nat.reduceAdd, Nat.reduceLeDiff, Nat.reduceMul, Int.reduceToNat, Nat.reduceEqDiff, Nat.reduceLT, Int.reduceBEq, Int.reduceBNe, Int.reduceLT, Int.reduceLE, Int.reduceAdd, Int.reduceSub, Int.reduceMul, Int.reduceDiv, Int.reduceMod, Int.reduceNeg]
  refine ms_bytes (by kernel_rfl) 14 (by omega) fun w5 hO5 hx5 => ?_
  have hz5 := hx5.size
  simp only [World.size_alloc] at hz5
  have hE5 : Ext w w5 := Ext.tr (by (repeat (first | with_reducible exact Ext.refl _ | with_reducible assumption | with_reducible apply Ext.alloc | with_reducible apply Ext.drew | (with_reducible refine Ext.setRow ?_ (by (try simp only [World.size_alloc]); omega) _) | (with_reducible refine Ext.tr ?_ (by assumption))))) hx5
  have hE45 : Ext w4 w5 := Ext.tr (by (repeat (first | with_reducible exact Ext.refl _ | with_reducible assumption | with_reducible apply Ext.alloc | with_reducible apply Ext.drew | (with_reducible refine Ext.setRow ?_ (by (try simp only [World.size_alloc]); omega) _) | (with_reducible refine Ext.tr ?_ (by assumption))))) hx5
  simp only [World.size_alloc] at hO5
  simp -dsimp (disch := first | omega | assumption | ((simp only [World.size_alloc, size_setRow, List.size_toArray, List.length_cons, List.length_nil, cells_agg, len_enc, cells_int, cells_bool, cells_slice, cells_ptr, cells_string]) <;> omega) | ((repeat (first | with_reducible exact Ext.refl _ | with_reducible assumption | with_reducible apply Ext.alloc | with_reducible apply Ext.drew | (with_reducible refine Ext.setRow ?_ (by (try simp only [World.size_alloc]); omega) _) | (with_reducible refine Ext.tr ?_ (by assumption)))); done) | fail) only [go_sem, jn_r, Nat.reduceAdd, Nat.reduceLeDiff, Nat.reduceMul, Int.reduceToNat, Nat.reduceEqDiff, Nat.reduceLT, Int.reduceBEq, Int.reduceBNe, Int.reduceLT, Int.reduceLE, Int.reduceAdd, Int.reduceSub, Int.reduceMul, Int.reduceDiv, Int.reduceMod, Int.reduceNeg]
  refine callM (dpath_Tunnel.c (lo := 0) _ tv2 _ M2 1 pkB (hT2.ext (Ext.tr (hE23.tr (hx4.tr hE45)) (by (repeat (first | with_reducible exact Ext.refl _ | with_reducible assumption | with_reducible apply Ext.alloc | with_reducible apply Ext.drew | (with_reducible refine Ext.setRow ?_ (by (try simp only [World.size_alloc]); omega) _) | (with_reducible refine Ext.tr ?_ (by assumption))))))) ⟨_, _, rfl, hO5.sl.ext (by (repeat (first | with_reducible exact Ext.refl _ | with_reducible assumption | with_reducible apply Ext.alloc | with_reducible apply Ext.drew | (with_reducible refine Ext.setRow ?_ (by (try simp only [World.size_alloc]); omega) _) | (with_reducible refine Ext.tr ?_ (by assumption))))), by simp⟩) ?_
  rintro _ w6 ⟨⟨v6, rfl, hO6⟩, hx6⟩
  rw [tB] at hO6 ⊢
  simp only [if_true] at hO6 ⊢
  rw [hM2.look] at hO6
  have hO6' : OcV 0 w6 v6 { Oc.zero with kind := 2, pk := pkC } := by rw [← aB]; exact hO6.mono (Nat.zero_le _)
  have hz6 := hx6.size
  simp only [World.size_alloc] at hz6
  have hE6 : Ext w w6 := Ext.tr (by (repeat (first | with_reducible exact Ext.refl _ | with_reducible assumption | with_reducible apply Ext.alloc | with_reducible apply Ext.drew | (with_reducible refine Ext.setRow ?_ (by (try simp only [World.size_alloc]); omega) _) | (with_reducible refine Ext.tr ?_ (by assumption))))) hx6
  obtain ⟨a3, c3, a4, c4, rfl, hs3, hs4, -⟩ := hO6'
  unfold Oc.v
  simp -dsimp (disch := first | omega | assumption | ((simp only [World.size_alloc, size_setRow, List.size_toArray, List.length_cons, List.length_nil, cells_agg, len_enc, cells_int, cells_bool, cells_slice, cells_ptr, cells_string]) <;> omega) | ((repeat (first | with_reducible exact Ext.refl _ | with_reducible assumption | with_reducible apply Ext.alloc | with_reducible apply Ext.drew | (with_reducible refine Ext.setRow ?_ (by (try simp only [World.size_alloc]); omega) _) | (with_reducible refine Ext.tr ?_ (by assumption)))); done) | fail) only [go_sem, jn_r, Nat.reduceAdd, Nat.reduceLeDiff, Nat.reduceMul, Int.reduceToNat, Nat.reduceEqDiff, Nat.reduceLT, Int.reduceBEq, Int.reduceBNe, Int.reduceLT, Int.reduceLE, Int.reduceAdd, Int.reduceSub, Int.reduceMul, Int.reduceDiv, Int.reduceMod, Int.reduceNeg]
  refine callM (dpath_Tunnel.c (lo := 0) _ tv3 _ M3 2 pkC (hT3.ext (Ext.tr (hx4.tr hE45) (Ext.tr (by (repeat (first | with_reducible exact Ext.refl _ | with_reducible assumption | with_reducible apply Ext.alloc | with_reducible apply Ext.drew | (with_reducible refine Ext.setRow ?_ (by (try simp only [World.size_alloc]); omega) _) | (with_reducible refine Ext.tr ?_ (by assumption))))) (Ext.tr hx6 (by (repeat (first | with_reducible exact Ext.refl _ | with_reducible assumption | with_reducible apply Ext.alloc | with_reducible apply Ext.drew | (with_reducible refine Ext.setRow ?_ (by (try simp only [World.size_alloc]); omega) _) | (with_reducible refine Ext.tr ?_ (by assumption))))))))) ⟨_, _, rfl, hs4.ext (by (repeat (first | with_reducible exact Ext.refl _ | with_reducible assumption | with_reducible apply Ext.alloc | with_reducible apply Ext.drew | (with_reducible refine Ext.setRow ?_ (by (try simp only [World.size_alloc]); omega) _) | (with_reducible refine Ext.tr ?_ (by assumption))))), by simp⟩) ?_
  rintro _ w7 ⟨⟨v7, rfl, hO7⟩, hx7⟩
  rw [tC] at hO7 ⊢
  simp only [if_true] at hO7 ⊢
  rw [hM3.look] at hO7
  have hO7' : OcV 0 w7 v7 ⟨1, 3, 5, 5, List.replicate 14 0, .zero⟩ := by rw [← aC]; exact hO7.mono (Nat.zero_le _)
  have hz7 := hx7.size
  simp only [World.size_alloc] at hz7
  have hE7 : Ext w w7 := Ext.tr (by (repeat (first | with_reducible exact Ext.refl _ | with_reducible assumption | with_reducible apply Ext.alloc | with_reducible apply Ext.drew | (with_reducible refine Ext.setRow ?_ (by (try simp only [World.size_alloc]); omega) _) | (with_reducible refine Ext.tr ?_ (by assumption))))) hx7
  obtain ⟨a5, c5, a6, c6, rfl, hs5, hs6, -⟩ := hO7'
  unfold Oc.v
  have k1 : blk w7 (w5.heap.size) = some #[.int .i64 1, .int .i64 0, .int .i64 0, .int .i64 1, .int .i64 3, .int .i64 4, .int .i64 4, .slice (some ⟨w4.heap.size + 1, 0, none⟩) 14 14] := (hx7.blk (by simp; omega)).trans ((blk_old (by omega)).trans ((hx6.blk (by simp)).trans (by simp -dsimp (disch := first | omega | assumption | ((simp only [World.size_alloc, size_setRow, List.size_toArray, List.length_cons, List.length_nil, cells_agg, len_enc, cells_int, cells_bool, cells_slice, cells_ptr, cells_string]) <;> omega) | ((repeat (first | with_reducible exact Ext.refl _ | with_reducible assumption | with_reducible apply Ext.alloc | with_reducible apply Ext.drew | (with_reducible refine Ext.setRow ?_ (by (try simp only [World.size_alloc]); omega) _) | (with_reducible refine Ext.tr ?_ (by assumption)))); done) | fail) only [go_sem, jn_r, Nat.reduceAdd, Nat.reduceLeDiff, Nat.reduceMul, Int.reduceToNat, Nat.reduceEqDiff, Nat.reduceLT, Int.reduceBEq, Int.reduceBNe, Int.reduceLT, Int.reduceLE, Int.reduceAdd, Int.reduceSub, Int.reduceMul, Int.reduceDiv, Int.reduceMod, Int.reduceNeg])))
  simp -dsimp (disch := first | omega | assumption | ((simp only [World.size_alloc, size_setRow, List.size_toArray, List.length_cons, List.length_nil, cells_agg, len_enc, cells_int, cells_bool, cells_slice, cells_ptr, cells_string]) <;> omega) | ((repeat (first | with_reducible exact Ext.refl _ | with_reducible assumption | with_reducible apply Ext.alloc | with_reducible apply Ext.drew | (with_reducible refine Ext.setRow ?_ (by (try simp only [World.size_alloc]); omega) _) | (with_reducible refine Ext.tr ?_ (by assumption)))); done) | fail) only [go_sem, jn_r, Nat.reduceAdd, Nat.reduceLeDiff, Nat.reduceMul, Int.reduceToNat, Nat.reduceEqDiff, Nat.reduceLT, Int.reduceBEq, Int.reduceBNe, Int.reduceLT, Int.reduceLE, Int.reduceAdd, Int.reduceSub, Int.reduceMul, Int.reduceDiv, Int.reduceMod, Int.reduceNeg, k1]
  refine callM (dpath_Tunnel.c (lo := 0) _ tv3 _ M3 2 pkB (hT3.ext (Ext.tr (hx4.tr hE45) (Ext.tr (by (repeat (first | with_reducible exact Ext.refl _ | with_reducible assumption | with_reducible apply Ext.alloc | with_reducible apply Ext.drew | (with_reducible refine Ext.setRow ?_ (by (try simp only [World.size_alloc]); omega) _) | (with_reducible refine Ext.tr ?_ (by assumption))))) (Ext.tr hx6 (Ext.tr (by (repeat (first | with_reducible exact Ext.refl _ | with_reducible assumption | with_reducible apply Ext.alloc | with_reducible apply Ext.drew | (with_reducible refine Ext.setRow ?_ (by (try simp only [World.size_alloc]); omega) _) | (with_reducible refine Ext.tr ?_ (by assumption))))) (Ext.tr hx7 (by (repeat (first | with_reducible exact Ext.refl _ | with_reducible assumption | with_reducible apply Ext.alloc | with_reducible apply Ext.drew | (with_reducible refine Ext.setRow ?_ (by (try simp only [World.size_alloc]); omega) _) | (with_reducible refine Ext.tr ?_ (by assumption))))))))))) ⟨_, _, rfl, hO5.sl.ext (Ext.tr (by (repeat (first | with_reducible exact Ext.refl _ | with_reducible assumption | with_reducible apply Ext.alloc | with_reducible apply Ext.drew | (with_reducible refine Ext.setRow ?_ (by (try simp only [World.size_alloc]); omega) _) | (with_reducible refine Ext.tr ?_ (by assumption))))) (Ext.tr hx6 (Ext.tr (by (repeat (first | with_reducible exact Ext.refl _ | with_reducible assumption | with_reducible apply Ext.alloc | with_reducible apply Ext.drew | (with_reducible refine Ext.setRow ?_ (by (try simp only [World.size_alloc]); omega) _) | (with_reducible refine Ext.tr ?_ (by assumption))))) (Ext.tr hx7 (by (repeat (first | with_reducible exact Ext.refl _ | with_reducible assumption | with_reducible apply Ext.alloc | with_reducible apply Ext.drew | (with_reducible refine Ext.setRow ?_ (by (try simp only [World.size_alloc]); omega) _) | (with_reducible refine Ext.tr ?_ (by assumption))))))))), by simp⟩) ?_
  rintro _ w8 ⟨⟨v8, rfl, hO8⟩, hx8⟩
  rw [tD] at hO8 ⊢
  simp only [if_false, Bool.false_eq_true] at hO8 ⊢
  have hz8 := hx8.size
  simp only [World.size_alloc] at hz8
  have hE8 : Ext w w8 := Ext.tr (by (repeat (first | with_reducible exact Ext.refl _ | with_reducible assumption | with_reducible apply Ext.alloc | with_reducible apply Ext.drew | (with_reducible refine Ext.setRow ?_ (by (try simp only [World.size_alloc]); omega) _) | (with_reducible refine Ext.tr ?_ (by assumption))))) hx8
  obtain ⟨a7, c7, a8, c8, rfl, hs7, hs8, -⟩ := hO8
  unfold Oc.v
  have E78 : Ext w7 w8 := Ext.tr (by (repeat (first | with_reducible exact Ext.refl _ | with_reducible assumption | with_reducible apply Ext.alloc | with_reducible apply Ext.drew | (with_reducible refine Ext.setRow ?_ (by (try simp only [World.size_alloc]); omega) _) | (with_reducible refine Ext.tr ?_ (by assumption))))) hx8
  have E68 : Ext w6 w8 := Ext.tr (by (repeat (first | with_reducible exact Ext.refl _ | with_reducible assumption | with_reducible apply Ext.alloc | with_reducible apply Ext.drew | (with_reducible refine Ext.setRow ?_ (by (try simp only [World.size_alloc]); omega) _) | (with_reducible refine Ext.tr ?_ (by assumption))))) (hx7.tr E78)
  have m1 : blk w8 w7.heap.size = _ := (hx8.blk (by simp)).trans (blk_new rfl)
  have m2 : blk w8 w6.heap.size = _ := (E78.blk (by omega)).trans ((hx7.blk (by simp)).trans (blk_new rfl))
  have m3 : blk w8 w4.heap.size = _ := (E68.blk (by omega)).trans ((hx6.blk (by simp; omega)).trans ((blk_old (by omega)).trans ((hx5.blk (by simp)).trans (blk_new rfl))))
  simp -dsimp (disch := first | omega | assumption | ((simp only [World.size_alloc, size_setRow, List.size_toArray, List.length_cons, List.length_nil, cells_agg, len_enc, cells_int, cells_bool, cells_slice, cells_ptr, cells_string]) <;> omega) | ((repeat (first | with_reducible exact Ext.refl _ | with_reducible assumption | with_reducible apply Ext.alloc | with_reducible apply Ext.drew | (with_reducible refine Ext.setRow ?_ (by (try simp only [World.size_alloc]); omega) _) | (with_reducible refine Ext.tr ?_ (by assumption)))); done) | fail) only [go_sem, jn_r, Nat.reduceAdd, Nat.reduceLeDiff, Nat.reduceMul, Int.reduceToNat, Nat.reduceEqDiff, Nat.reduceLT, Int.reduceBEq, Int.reduceBNe, Int.reduceLT, Int.reduceLE, Int.reduceAdd, Int.reduceSub, Int.reduceMul, Int.reduceDiv, Int.reduceMod, Int.reduceNeg, m1, m2, m3]
  exact ⟨by simp [pkA, pkC], by (repeat (first | with_reducible exact Ext.refl _ | with_reducible assumption | with_reducible apply Ext.alloc | with_reducible apply Ext.drew | (with_reducible refine Ext.setRow ?_ (by (try simp only [World.size_alloc]); omega) _) | (with_reducible refine Ext.tr ?_ (by assumption))))⟩
end Go.Proofs.Ytldjhbmccnbciaa
