/- the law StoreWhole. -/
import Derived.Test.YtbkgijnmckchbaaLsf
namespace Go.Proofs.Ytbkgijnmckchbaa
open Go
set_option linter.unusedSimpArgs false
set_option linter.unusedVariables false
section
variable {w : World} {p : Nat} {B : List Nat} {V : Vw}
theorem store_Store_Chassis.o (hV : V.Ok) (h : StAt w p B V) : Calls Try.prog store_Store_Chassis.id #[.pointer (some ⟨p, 0, none⟩)] w (retP fun v w' => Ow (intC .i64) 3 w.heap.size w' v V.chassis ∧ Ext w w') := by
  obtain ⟨bc, br, cm, rm, rfl, h1, h2, h3, h4, h5, h6, h7, h8⟩ := h
  apply store_Store_Chassis.sound
  unfold store_Store_Chassis.sh
  have h4' := blk_of0 h4
  have hk : ∀ p ∈ cm, 0 ≤ p.1 ∧ p.1 ≤ 15 := fun p hp => by
    have := look_of_mem h5.nd (k := p.1) (x := p.2) hp
    rw [h7] at this
    cases hc : V.c p.1 with
    | true => exact hV.c _ hc
    | false => rw [hc] at this; cases this
  have ha := V.asc_chassis hV h5.nd h7
  have hl : cm.length ≤ 16 := by
    have := congrArg List.length ha
    unfold asc at this
    rw [List.length_mergeSort, List.length_map] at this
    have := V.chassis_len
    omega
  simp -dsimp (disch := first | omega | assumption | ((simp only [World.size_alloc, size_setRow, List.size_toArray, List.length_cons, List.length_nil, cells_agg, len_enc, cells_int, cells_bool, cells_slice, cells_ptr, cells_string]) <;> omega) | ((repeat (first | with_reducible exact Ext.refl _ | with_reducible assumption | with_reducible apply Ext.alloc | with_reducible apply Ext.drew | (with_reducible refine Ext.setRow ?_ (by (try simp only [World.size_alloc]); omega) _) | (with_reducible refine Ext.tr ?_ (by assumption)))); done) | fail) only [go_sem, jn_r, Nat.reduceAdd, Nat.reduceLeDiff, Nat.reduceMul, Int.reduceToNat, Nat.reduceEqDiff, Nat.reduceLT, Int.reduceBEq, Int.reduceBNe, Int.reduceLT, Int.reduceLE, Int.reduceAdd, Int.reduceSub, Int.reduceMul, Int.reduceDiv, Int.reduceMod, Int.reduceNeg, h4']
  refine callM (keysA.c _ _) ?_
  rintro _ w1 ⟨rfl, rfl⟩
  refine callM (sortedA.c h5 (fun p hp => by have := hk p hp; omega) (by omega)) ?_
  rintro v w2 ⟨h, hx⟩
  rw [ha] at h
  exact ⟨h, hx⟩
set_option maxHeartbeats 4000000 in
theorem rutterlaw10_StoreWhole.c {v : Value} {l : List ActR} (h : ActsAt w v l) :
    Calls Try.prog rutterlaw10_StoreWhole.id #[v] w (retP fun r w' => r = .bool true ∧ Ext w w') := by
  obtain ⟨a, c, rfl⟩ := h.1.form
  apply rutterlaw10_StoreWhole.sound
  unfold rutterlaw10_StoreWhole.sh
  simp -dsimp (disch := first | omega | assumption | ((simp only [World.size_alloc, size_setRow, List.size_toArray, List.length_cons, List.length_nil, cells_agg, len_enc, cells_int, cells_bool, cells_slice, cells_ptr, cells_string]) <;> omega) | ((repeat (first | with_reducible exact Ext.refl _ | with_reducible assumption | with_reducible apply Ext.alloc | with_reducible apply Ext.drew | (with_reducible refine Ext.setRow ?_ (by (try simp only [World.size_alloc]); omega) _) | (with_reducible refine Ext.tr ?_ (by assumption)))); done) | fail) only [go_sem, Nat.reduceAdd, Nat.reduceLeDiff, Nat.reduceMul, Int.reduceToNat, Nat.reduceEqDiff, Nat.reduceLT, Int.reduceBEq, Int.reduceBNe, Int.reduceLT, Int.reduceLE, Int.reduceAdd, Int.reduceSub, Int.reduceMul, Int.reduceDiv, Int.reduceMod, Int.reduceNeg]
  refine callM (rutterlaw10_Fits.c h) ?_
  rintro _ w1 ⟨⟨b, rfl, hfit⟩, x1⟩
  cases b with
  | false =>
    simp -dsimp (disch := first | omega | assumption | ((simp only [World.size_alloc, size_setRow, List.size_toArray, List.length_cons, List.length_nil, cells_agg, len_enc, cells_int, cells_bool, cells_slice, cells_ptr, cells_string]) <;> omega) | ((repeat (first | with_reducible exact Ext.refl _ | with_reducible assumption | with_reducible apply Ext.alloc | with_reducible apply Ext.drew | (with_reducible refine Ext.setRow ?_ (by (try simp only [World.size_alloc]); omega) _) | (with_reducible refine Ext.tr ?_ (by assumption)))); done) | fail) only [go_sem, Nat.reduceAdd, Nat.reduceLeDiff, Nat.reduceMul, Int.reduceToNat, Nat.reduceEqDiff, Nat.reduceLT, Int.reduceBEq, Int.reduceBNe, Int.reduceLT, Int.reduceLE, Int.reduceAdd, Int.reduceSub, Int.reduceMul, Int.reduceDiv, Int.reduceMod, Int.reduceNeg]
    refine callM (rutterlaw10_alive.c w1) ?_
    rintro _ w2 ⟨rfl, x2⟩
    exact ⟨rfl, x1.tr x2⟩
  | true =>
    obtain ⟨hlen, hsml⟩ := hfit rfl
    simp -dsimp (disch := first | omega | assumption | ((simp only [World.size_alloc, size_setRow, List.size_toArray, List.length_cons, List.length_nil, cells_agg, len_enc, cells_int, cells_bool, cells_slice, cells_ptr, cells_string]) <;> omega) | ((repeat (first | with_reducible exact Ext.refl _ | with_reducible assumption | with_reducible apply Ext.alloc | with_reducible apply Ext.drew | (with_reducible refine Ext.setRow ?_ (by (try simp only [World.size_alloc]); omega) _) | (with_reducible refine Ext.tr ?_ (by assumption)))); done) | fail) only [go_sem, Nat.reduceAdd, Nat.reduceLeDiff, Nat.reduceMul, Int.reduceToNat, Nat.reduceEqDiff, Nat.reduceLT, Int.reduceBEq, Int.reduceBNe, Int.reduceLT, Int.reduceLE, Int.reduceAdd, Int.reduceSub, Int.reduceMul, Int.reduceDiv, Int.reduceMod, Int.reduceNeg]
    refine callM (store_New.c w1) ?_
    rintro _ w2 ⟨p, B, rfl, hp, x2, hB⟩
    refine loop_g (γ := Nat × Vw × List Nat) (fun g st w' => st = [.int .i64 (g.1 : Int)] ∧ Ext w1 w' ∧ g.2.1.Fine ∧ StAt w' p g.2.2 g.2.1 ∧ (∀ b ∈ g.2.2, w1.heap.size ≤ b ∧ b < w'.heap.size)) (fun g => l.length - g.1) (0, Vw.new, B) ⟨rfl, x2, Vw.new_fine, hp, hB⟩ ?_
    rintro ⟨i, V, B'⟩ st w3 next ⟨rfl, hE, hF, hp3, hB'⟩ hn
    simp only at hF hp3 hB'
    have hV := hF.ok
    have y3 := x1.tr hE
    by_cases hi : i < l.length
    · have d0 : ((i : Int) < (l.length : Int)) := by omega
      have d1 : (0 : Int) ≤ (i : Int) := by omega
      have ew : IntKind.i64.wrap ((i : Int) + 1) = ((i + 1 : Nat) : Int) := by rw [wrap_64 (by omega) (by omega)]; simp
      obtain ⟨x, hx⟩ : ∃ x, l[i]? = some x := ⟨_, List.getElem?_eq_getElem hi⟩
      have hmem := List.mem_of_getElem? hx
      simp -dsimp (disch := first | omega | assumption | ((simp only [World.size_alloc, size_setRow, List.size_toArray, List.length_cons, List.length_nil, cells_agg, len_enc, cells_int, cells_bool, cells_slice, cells_ptr, cells_string]) <;> omega) | ((repeat (first | with_reducible exact Ext.refl _ | with_reducible assumption | with_reducible apply Ext.alloc | with_reducible apply Ext.drew | (with_reducible refine Ext.setRow ?_ (by (try simp only [World.size_alloc]); omega) _) | (with_reducible refine Ext.tr ?_ (by assumption)))); done) | fail) only [go_sem, Nat.reduceAdd, Nat.reduceLeDiff, Nat.reduceMul, Int.reduceToNat, Nat.reduceEqDiff, Nat.reduceLT, Int.reduceBEq, Int.reduceBNe, Int.reduceLT, Int.reduceLE, Int.reduceAdd, Int.reduceSub, Int.reduceMul, Int.reduceDiv, Int.reduceMod, Int.reduceNeg, d0]
      refine callM (store_Store_Rows.c hV hp3) ?_
      rintro u4 w4 ⟨o4, x4⟩
      have hp4 := hp3.chg (x4.chg (S := [])) (by simp)
      refine callM (store_Store_Chassis.o hV hp4) ?_
      rintro u5 w5 ⟨o5, x5⟩
      have hp5 := hp4.chg (x5.chg (S := [])) (by simp)
      have z4 := x4.size
      have z5 := x5.size
      have s4 := o4.sl.ext x5
      have s5 := o5.sl
      have n4 : ∀ b, u4.ownBlock = some b → b ∉ B' := fun b hb hm => by have := (hB' b hm).2; have := (o4.lt hb).1; omega
      have n5 : ∀ b, u5.ownBlock = some b → b ∉ B' := fun b hb hm => by have := (hB' b hm).2; have := (o5.lt hb).1; omega
      have y5 := (y3.tr x4).tr x5
      have e5 : Ext w1 w5 := (hE.tr x4).tr x5
      obtain ⟨b1, o1, c1, cs1, hs1', hb1, hz1, ha1, hj⟩ := (h.1.ext y5).at hx
      cases hs1'
      have q0 : cs1[o1 + i * 3]? = some (.int .u8 x.kind) := by have := hj 0 _ rfl; simpa using this
      have q1 : cs1[o1 + i * 3 + 1]? = some (.int .i64 x.who) := hj 1 _ rfl
      have q2 : cs1[o1 + i * 3 + 2]? = some (.slice x.a x.n x.c) := hj 2 _ rfl
      have r8 : ∀ {K : Value → Prop}, pv (bn .rem 5 (.int .u8 x.kind) (.int .u8 8)) K = K (.int .u8 (x.kind.tmod 8)) := rem_r (by decide)
      have hlB : ∀ b ∈ B', w1.heap.size ≤ b := fun b hb => (hB' b hb).1
      simp -dsimp (disch := first | omega | assumption | ((simp only [World.size_alloc, size_setRow, List.size_toArray, List.length_cons, List.length_nil, cells_agg, len_enc, cells_int, cells_bool, cells_slice, cells_ptr, cells_string]) <;> omega) | ((repeat (first | with_reducible exact Ext.refl _ | with_reducible assumption | with_reducible apply Ext.alloc | with_reducible apply Ext.drew | (with_reducible refine Ext.setRow ?_ (by (try simp only [World.size_alloc]); omega) _) | (with_reducible refine Ext.tr ?_ (by assumption)))); done) | fail) only [go_sem, Nat.reduceAdd, Nat.reduceLeDiff, Nat.reduceMul, Int.reduceToNat, Nat.reduceEqDiff, Nat.reduceLT, Int.reduceBEq, Int.reduceBNe, Int.reduceLT, Int.reduceLE, Int.reduceAdd, Int.reduceSub, Int.reduceMul, Int.reduceDiv, Int.reduceMod, Int.reduceNeg]
      refine jn_e (fun st w' => st = [.int .i64 (V.act x).2] ∧ Ext w1 w' ∧ Chg B' w5 w' ∧ ∃ B2, StAt w' p B2 (V.act x).1 ∧ (∀ b ∈ B2, w1.heap.size ≤ b ∧ b < w'.heap.size)) ?_ ?_
      · rintro st w6 ⟨rfl, e6, c6, B2, hp6, hB2⟩
        have hFa := Vw.act_fine hF x
        have hV6 := hFa.1.ok
        have s46 := s4.chg c6 n4
        have s56 := s5.chg c6 n5
        refine callM (store_Store_Rows.c hV6 hp6) ?_
        rintro u7 w7 ⟨o7, x7⟩
        have hp7 := hp6.chg (x7.chg (S := [])) (by simp)
        refine callM (rutterref10_Same.c o7.sl (s46.ext x7) (by have := (V.act x).1.rows_len; omega)) ?_
        rintro _ w8 ⟨rfl, x8⟩
        have hp8 := hp7.chg (x8.chg (S := [])) (by simp)
        refine callM (store_Store_Chassis.c hV6 hp8) ?_
        rintro u9 w9 ⟨o9, x9⟩
        have hp9 := hp8.chg (x9.chg (S := [])) (by simp)
        refine callM (rutterref10_Ints.c o9 (s56.ext ((x7.tr x8).tr x9)) (by have := (V.act x).1.chassis_len; omega)) ?_
        rintro _ w10 ⟨rfl, x10⟩
        have hp10 := hp9.chg (x10.chg (S := [])) (by simp)
        refine callM (rutterlaw10_sound.c hFa.1 hp10) ?_
        rintro _ w11 ⟨rfl, x11⟩
        have hp11 := hp10.chg (x11.chg (S := [])) (by simp)
        have x611 : Ext w6 w11 := (((x7.tr x8).tr x9).tr x10).tr x11
        have s411 := s46.ext x611
        have hg : ((V.act x).2 != 0 && (!decide ((V.act x).1.rows = V.rows) || !decide ((V.act x).1.chassis = V.chassis))) = false := by
          by_cases he : (V.act x).2 = 0
          · simp [he]
          · rw [Vw.act_err he]; simp
        have hg2 : (V.act x).2 ≠ 0 → decide ((V.act x).1.rows = V.rows) = true ∧ decide ((V.act x).1.chassis = V.chassis) = true := fun he => by
          rw [Vw.act_err he]; simp
        obtain ⟨a4, c4, rfl⟩ := s411.form
        by_cases he : (V.act x).2 = 0
        · have e1 : ((V.act x).2 != 0) = false := by simp [he]
          simp -dsimp (disch := first | omega | assumption | ((simp only [World.size_alloc, size_setRow, List.size_toArray, List.length_cons, List.length_nil, cells_agg, len_enc, cells_int, cells_bool, cells_slice, cells_ptr, cells_string]) <;> omega) | ((repeat (first | with_reducible exact Ext.refl _ | with_reducible assumption | with_reducible apply Ext.alloc | with_reducible apply Ext.drew | (with_reducible refine Ext.setRow ?_ (by (try simp only [World.size_alloc]); omega) _) | (with_reducible refine Ext.tr ?_ (by assumption)))); done) | fail) only [go_sem, jn_r, Nat.reduceAdd, Nat.reduceLeDiff, Nat.reduceMul, Int.reduceToNat, Nat.reduceEqDiff, Nat.reduceLT, Int.reduceBEq, Int.reduceBNe, Int.reduceLT, Int.reduceLE, Int.reduceAdd, Int.reduceSub, Int.reduceMul, Int.reduceDiv, Int.reduceMod, Int.reduceNeg, e1]
          refine loop_g (γ := Nat) (fun k st w' => st = [.int .i64 (k : Int)] ∧ Ext w11 w') (fun k => V.rows.length - k) 0 ⟨rfl, .refl _⟩ ?_
          rintro k st w12 next2 ⟨rfl, hE12⟩ hn2
          have hp12 := hp11.chg (hE12.chg (S := [])) (by simp)
          by_cases hk : k < V.rows.length
          · have f0 : ((k : Int) < (V.rows.length : Int)) := by omega
            have f1 : (0 : Int) ≤ (k : Int) := by omega
            have hll := V.rows_len
            have ewk : IntKind.i64.wrap ((k : Int) + 1) = ((k + 1 : Nat) : Int) := by rw [wrap_64 (by omega) (by omega)]; simp
            obtain ⟨y, hyk⟩ : ∃ y, V.rows[k]? = some y := ⟨_, List.getElem?_eq_getElem hk⟩
            have hyr := (Vw.mem_rows hV).1 (List.mem_of_getElem? hyk)
            obtain ⟨z, hz, hle⟩ := hFa.2 _ _ hyr
            obtain ⟨b4, off4, c4', cs4, hsx4, hb4, -, -, hj4⟩ := (s411.ext hE12).at hyk
            cases hsx4
            have q0 : cs4[off4 + k * 9]? = some (.int .i64 y.port) := by have := hj4 0 (.int .i64 y.port) rfl; simpa using this
            have q7 : cs4[off4 + k * 9 + 7]? = some (.int .i64 y.ver) := hj4 7 _ rfl
            simp -dsimp (disch := first | omega | assumption | ((simp only [World.size_alloc, size_setRow, List.size_toArray, List.length_cons, List.length_nil, cells_agg, len_enc, cells_int, cells_bool, cells_slice, cells_ptr, cells_string]) <;> omega) | ((repeat (first | with_reducible exact Ext.refl _ | with_reducible assumption | with_reducible apply Ext.alloc | with_reducible apply Ext.drew | (with_reducible refine Ext.setRow ?_ (by (try simp only [World.size_alloc]); omega) _) | (with_reducible refine Ext.tr ?_ (by assumption)))); done) | fail) only [go_sem, jn_r, Nat.reduceAdd, Nat.reduceLeDiff, Nat.reduceMul, Int.reduceToNat, Nat.reduceEqDiff, Nat.reduceLT, Int.reduceBEq, Int.reduceBNe, Int.reduceLT, Int.reduceLE, Int.reduceAdd, Int.reduceSub, Int.reduceMul, Int.reduceDiv, Int.reduceMod, Int.reduceNeg, f0, f1, hb4, q0, Int.toNat_natCast]
            refine callM (store_Store_Row.c hp12 y.port) ?_
            rintro _ w13 ⟨rfl, x13⟩
            have hb5 := x13.blkS hb4
            have g5 := blk_lt hb5
            have hgz : ((V.act x).1.r y.port).getD Rw.zero = z := by rw [hz]; rfl
            have hgs : ((V.act x).1.r y.port).isSome = true := by rw [hz]; rfl
            rw [hgz, hgs]
            unfold Rw.v
            have hnl : ¬ z.ver < y.ver := by omega
            simp -dsimp (disch := first | omega | assumption | ((simp only [World.size_alloc, size_setRow, List.size_toArray, List.length_cons, List.length_nil, cells_agg, len_enc, cells_int, cells_bool, cells_slice, cells_ptr, cells_string]) <;> omega) | ((repeat (first | with_reducible exact Ext.refl _ | with_reducible assumption | with_reducible apply Ext.alloc | with_reducible apply Ext.drew | (with_reducible refine Ext.setRow ?_ (by (try simp only [World.size_alloc]); omega) _) | (with_reducible refine Ext.tr ?_ (by assumption)))); done) | fail) only [go_sem, jn_r, Nat.reduceAdd, Nat.reduceLeDiff, Nat.reduceMul, Int.reduceToNat, Nat.reduceEqDiff, Nat.reduceLT, Int.reduceBEq, Int.reduceBNe, Int.reduceLT, Int.reduceLE, Int.reduceAdd, Int.reduceSub, Int.reduceMul, Int.reduceDiv, Int.reduceMod, Int.reduceNeg, f0, f1, hb5, q7, Int.toNat_natCast, hnl, ewk]
            exact hn2 (k + 1) _ _ ⟨rfl, ((hE12.tr x13).alloc _).drew⟩ (by omega)
          · have f0 : ¬ ((k : Int) < (V.rows.length : Int)) := by omega
            simp -dsimp (disch := first | omega | assumption | ((simp only [World.size_alloc, size_setRow, List.size_toArray, List.length_cons, List.length_nil, cells_agg, len_enc, cells_int, cells_bool, cells_slice, cells_ptr, cells_string]) <;> omega) | ((repeat (first | with_reducible exact Ext.refl _ | with_reducible assumption | with_reducible apply Ext.alloc | with_reducible apply Ext.drew | (with_reducible refine Ext.setRow ?_ (by (try simp only [World.size_alloc]); omega) _) | (with_reducible refine Ext.tr ?_ (by assumption)))); done) | fail) only [go_sem, jn_r, Nat.reduceAdd, Nat.reduceLeDiff, Nat.reduceMul, Int.reduceToNat, Nat.reduceEqDiff, Nat.reduceLT, Int.reduceBEq, Int.reduceBNe, Int.reduceLT, Int.reduceLE, Int.reduceAdd, Int.reduceSub, Int.reduceMul, Int.reduceDiv, Int.reduceMod, Int.reduceNeg, f0, ew]
            refine hn (i + 1, (V.act x).1, B2) _ _ ⟨rfl, (e6.tr x611).tr hE12, hFa.1, hp12, fun b hb => ⟨(hB2 b hb).1, by have := (hB2 b hb).2; have := x611.size; have := hE12.size; omega⟩⟩ (by simp; omega)
        · have e1 : ((V.act x).2 != 0) = true := by simp [he]
          have e2 := (hg2 he).1
          have e3 := (hg2 he).2
          simp -dsimp (disch := first | omega | assumption | ((simp only [World.size_alloc, size_setRow, List.size_toArray, List.length_cons, List.length_nil, cells_agg, len_enc, cells_int, cells_bool, cells_slice, cells_ptr, cells_string]) <;> omega) | ((repeat (first | with_reducible exact Ext.refl _ | with_reducible assumption | with_reducible apply Ext.alloc | with_reducible apply Ext.drew | (with_reducible refine Ext.setRow ?_ (by (try simp only [World.size_alloc]); omega) _) | (with_reducible refine Ext.tr ?_ (by assumption)))); done) | fail) only [go_sem, jn_r, Nat.reduceAdd, Nat.reduceLeDiff, Nat.reduceMul, Int.reduceToNat, Nat.reduceEqDiff, Nat.reduceLT, Int.reduceBEq, Int.reduceBNe, Int.reduceLT, Int.reduceLE, Int.reduceAdd, Int.reduceSub, Int.reduceMul, Int.reduceDiv, Int.reduceMod, Int.reduceNeg, e1, e2, e3]
          refine loop_g (γ := Nat) (fun k st w' => st = [.int .i64 (k : Int)] ∧ Ext w11 w') (fun k => V.rows.length - k) 0 ⟨rfl, .refl _⟩ ?_
          rintro k st w12 next2 ⟨rfl, hE12⟩ hn2
          have hp12 := hp11.chg (hE12.chg (S := [])) (by simp)
          by_cases hk : k < V.rows.length
          · have f0 : ((k : Int) < (V.rows.length : Int)) := by omega
            have f1 : (0 : Int) ≤ (k : Int) := by omega
            have hll := V.rows_len
            have ewk : IntKind.i64.wrap ((k : Int) + 1) = ((k + 1 : Nat) : Int) := by rw [wrap_64 (by omega) (by omega)]; simp
            obtain ⟨y, hyk⟩ : ∃ y, V.rows[k]? = some y := ⟨_, List.getElem?_eq_getElem hk⟩
            have hyr := (Vw.mem_rows hV).1 (List.mem_of_getElem? hyk)
            obtain ⟨z, hz, hle⟩ := hFa.2 _ _ hyr
            obtain ⟨b4, off4, c4', cs4, hsx4, hb4, -, -, hj4⟩ := (s411.ext hE12).at hyk
            cases hsx4
            have q0 : cs4[off4 + k * 9]? = some (.int .i64 y.port) := by have := hj4 0 (.int .i64 y.port) rfl; simpa using this
            have q7 : cs4[off4 + k * 9 + 7]? = some (.int .i64 y.ver) := hj4 7 _ rfl
            simp -dsimp (disch := first | omega | assumption | ((simp only [World.size_alloc, size_setRow, List.size_toArray, List.length_cons, List.length_nil, cells_agg, len_enc, cells_int, cells_bool, cells_slice, cells_ptr, cells_string]) <;> omega) | ((repeat (first | with_reducible exact Ext.refl _ | with_reducible assumption | with_reducible apply Ext.alloc | with_reducible apply Ext.drew | (with_reducible refine Ext.setRow ?_ (by (try simp only [World.size_alloc]); omega) _) | (with_reducible refine Ext.tr ?_ (by assumption)))); done) | fail) only [go_sem, jn_r, Nat.reduceAdd, Nat.reduceLeDiff, Nat.reduceMul, Int.reduceToNat, Nat.reduceEqDiff, Nat.reduceLT, Int.reduceBEq, Int.reduceBNe, Int.reduceLT, Int.reduceLE, Int.reduceAdd, Int.reduceSub, Int.reduceMul, Int.reduceDiv, Int.reduceMod, Int.reduceNeg, f0, f1, hb4, q0, Int.toNat_natCast]
            refine callM (store_Store_Row.c hp12 y.port) ?_
            rintro _ w13 ⟨rfl, x13⟩
            have hb5 := x13.blkS hb4
            have g5 := blk_lt hb5
            have hgz : ((V.act x).1.r y.port).getD Rw.zero = z := by rw [hz]; rfl
            have hgs : ((V.act x).1.r y.port).isSome = true := by rw [hz]; rfl
            rw [hgz, hgs]
            unfold Rw.v
            have hnl : ¬ z.ver < y.ver := by omega
            simp -dsimp (disch := first | omega | assumption | ((simp only [World.size_alloc, size_setRow, List.size_toArray, List.length_cons, List.length_nil, cells_agg, len_enc, cells_int, cells_bool, cells_slice, cells_ptr, cells_string]) <;> omega) | ((repeat (first | with_reducible exact Ext.refl _ | with_reducible assumption | with_reducible apply Ext.alloc | with_reducible apply Ext.drew | (with_reducible refine Ext.setRow ?_ (by (try simp only [World.size_alloc]); omega) _) | (with_reducible refine Ext.tr ?_ (by assumption)))); done) | fail) only [go_sem, jn_r, Nat.reduceAdd, Nat.reduceLeDiff, Nat.reduceMul, Int.reduceToNat, Nat.reduceEqDiff, Nat.reduceLT, Int.reduceBEq, Int.reduceBNe, Int.reduceLT, Int.reduceLE, Int.reduceAdd, Int.reduceSub, Int.reduceMul, Int.reduceDiv, Int.reduceMod, Int.reduceNeg, f0, f1, hb5, q7, Int.toNat_natCast, hnl, ewk]
            exact hn2 (k + 1) _ _ ⟨rfl, ((hE12.tr x13).alloc _).drew⟩ (by omega)
          · have f0 : ¬ ((k : Int) < (V.rows.length : Int)) := by omega
            simp -dsimp (disch := first | omega | assumption | ((simp only [World.size_alloc, size_setRow, List.size_toArray, List.length_cons, List.length_nil, cells_agg, len_enc, cells_int, cells_bool, cells_slice, cells_ptr, cells_string]) <;> omega) | ((repeat (first | with_reducible exact Ext.refl _ | with_reducible assumption | with_reducible apply Ext.alloc | with_reducible apply Ext.drew | (with_reducible refine Ext.setRow ?_ (by (try simp only [World.size_alloc]); omega) _) | (with_reducible refine Ext.tr ?_ (by assumption)))); done) | fail) only [go_sem, jn_r, Nat.reduceAdd, Nat.reduceLeDiff, Nat.reduceMul, Int.reduceToNat, Nat.reduceEqDiff, Nat.reduceLT, Int.reduceBEq, Int.reduceBNe, Int.reduceLT, Int.reduceLE, Int.reduceAdd, Int.reduceSub, Int.reduceMul, Int.reduceDiv, Int.reduceMod, Int.reduceNeg, f0, ew]
            refine hn (i + 1, (V.act x).1, B2) _ _ ⟨rfl, (e6.tr x611).tr hE12, hFa.1, hp12, fun b hb => ⟨(hB2 b hb).1, by have := (hB2 b hb).2; have := x611.size; have := hE12.size; omega⟩⟩ (by simp; omega)
      · intro k hk
        have hact : V.act x = if x.kind.tmod 8 < 2 then V.add x.who else if x.kind.tmod 8 = 2 then V.remove x.who else V.apply x.l := rfl
        by_cases c1 : x.kind.tmod 8 < 2
        · rw [if_pos c1] at hact
          simp -dsimp (disch := first | omega | assumption | ((simp only [World.size_alloc, size_setRow, List.size_toArray, List.length_cons, List.length_nil, cells_agg, len_enc, cells_int, cells_bool, cells_slice, cells_ptr, cells_string]) <;> omega) | ((repeat (first | with_reducible exact Ext.refl _ | with_reducible assumption | with_reducible apply Ext.alloc | with_reducible apply Ext.drew | (with_reducible refine Ext.setRow ?_ (by (try simp only [World.size_alloc]); omega) _) | (with_reducible refine Ext.tr ?_ (by assumption)))); done) | fail) only [go_sem, jn_r, Nat.reduceAdd, Nat.reduceLeDiff, Nat.reduceMul, Int.reduceToNat, Nat.reduceEqDiff, Nat.reduceLT, Int.reduceBEq, Int.reduceBNe, Int.reduceLT, Int.reduceLE, Int.reduceAdd, Int.reduceSub, Int.reduceMul, Int.reduceDiv, Int.reduceMod, Int.reduceNeg, d0, d1, hb1, q0, q1, q2, r8, c1, Int.toNat_natCast]
          refine callM (store_Store_Add.c hV hp5 x.who) ?_
          rintro _ w6 ⟨rfl, hp6, hC6⟩
          rw [← hact] at hp6 ⊢
          exact hk _ _ ⟨rfl, e5.then hC6 hlB, hC6, B', hp6, fun b hb => ⟨hlB b hb, by have := (hB' b hb).2; have := hC6.size; omega⟩⟩
        · rw [if_neg c1] at hact
          by_cases c2 : x.kind.tmod 8 = 2
          · have c2' : (x.kind.tmod 8 == 2) = true := by simp [c2]
            rw [if_pos c2] at hact
            simp -dsimp (disch := first | omega | assumption | ((simp only [World.size_alloc, size_setRow, List.size_toArray, List.length_cons, List.length_nil, cells_agg, len_enc, cells_int, cells_bool, cells_slice, cells_ptr, cells_string]) <;> omega) | ((repeat (first | with_reducible exact Ext.refl _ | with_reducible assumption | with_reducible apply Ext.alloc | with_reducible apply Ext.drew | (with_reducible refine Ext.setRow ?_ (by (try simp only [World.size_alloc]); omega) _) | (with_reducible refine Ext.tr ?_ (by assumption)))); done) | fail) only [go_sem, jn_r, Nat.reduceAdd, Nat.reduceLeDiff, Nat.reduceMul, Int.reduceToNat, Nat.reduceEqDiff, Nat.reduceLT, Int.reduceBEq, Int.reduceBNe, Int.reduceLT, Int.reduceLE, Int.reduceAdd, Int.reduceSub, Int.reduceMul, Int.reduceDiv, Int.reduceMod, Int.reduceNeg, d0, d1, hb1, q0, q1, q2, r8, c1, c2', Int.toNat_natCast]
            refine callM (store_Store_Remove.c hV hp5 x.who) ?_
            rintro _ w6 ⟨rfl, hp6, hC6⟩
            rw [← hact] at hp6 ⊢
            exact hk _ _ ⟨rfl, e5.then hC6 hlB, hC6, B', hp6, fun b hb => ⟨hlB b hb, by have := (hB' b hb).2; have := hC6.size; omega⟩⟩
          · have c2' : (x.kind.tmod 8 == 2) = false := by simp [c2]
            rw [if_neg c2] at hact
            simp -dsimp (disch := first | omega | assumption | ((simp only [World.size_alloc, size_setRow, List.size_toArray, List.length_cons, List.length_nil, cells_agg, len_enc, cells_int, cells_bool, cells_slice, cells_ptr, cells_string]) <;> omega) | ((repeat (first | with_reducible exact Ext.refl _ | with_reducible assumption | with_reducible apply Ext.alloc | with_reducible apply Ext.drew | (with_reducible refine Ext.setRow ?_ (by (try simp only [World.size_alloc]); omega) _) | (with_reducible refine Ext.tr ?_ (by assumption)))); done) | fail) only [go_sem, jn_r, Nat.reduceAdd, Nat.reduceLeDiff, Nat.reduceMul, Int.reduceToNat, Nat.reduceEqDiff, Nat.reduceLT, Int.reduceBEq, Int.reduceBNe, Int.reduceLT, Int.reduceLE, Int.reduceAdd, Int.reduceSub, Int.reduceMul, Int.reduceDiv, Int.reduceMod, Int.reduceNeg, d0, d1, hb1, q0, q1, q2, r8, c1, c2', Int.toNat_natCast]
            refine callM (store_Store_Apply.c hV hp5 ((h.2 x hmem).ext y5) (by have := hsml x hmem; omega)) ?_
            rintro _ w6 ⟨rfl, B2, hp6, hC6, hB2⟩
            rw [← hact] at hp6 ⊢
            refine hk _ _ ⟨rfl, e5.then hC6 hlB, hC6, B2, hp6, fun b hb => ?_⟩
            have := hC6.size
            have := e5.size
            rcases hB2 b hb with h | ⟨h, h2⟩
            · exact ⟨hlB b h, by have := (hB' b h).2; omega⟩
            · exact ⟨by omega, h2⟩
    · have d0 : ¬ ((i : Int) < (l.length : Int)) := by omega
      simp -dsimp (disch := first | omega | assumption | ((simp only [World.size_alloc, size_setRow, List.size_toArray, List.length_cons, List.length_nil, cells_agg, len_enc, cells_int, cells_bool, cells_slice, cells_ptr, cells_string]) <;> omega) | ((repeat (first | with_reducible exact Ext.refl _ | with_reducible assumption | with_reducible apply Ext.alloc | with_reducible apply Ext.drew | (with_reducible refine Ext.setRow ?_ (by (try simp only [World.size_alloc]); omega) _) | (with_reducible refine Ext.tr ?_ (by assumption)))); done) | fail) only [go_sem, Nat.reduceAdd, Nat.reduceLeDiff, Nat.reduceMul, Int.reduceToNat, Nat.reduceEqDiff, Nat.reduceLT, Int.reduceBEq, Int.reduceBNe, Int.reduceLT, Int.reduceLE, Int.reduceAdd, Int.reduceSub, Int.reduceMul, Int.reduceDiv, Int.reduceMod, Int.reduceNeg, d0]
      refine callM (rutterlaw10_alive.c _) ?_
      rintro _ w4 ⟨rfl, x4⟩
      exact ⟨rfl, y3.tr x4⟩
end
end Go.Proofs.Ytbkgijnmckchbaa
