/- the database of the document: changes, rows. -/
import Derived.Test.YtbkgijnmckchbaaRtc
namespace Go.Proofs.Ytbkgijnmckchbaa
open Go
set_option linter.unusedSimpArgs false
set_option linter.unusedVariables false
section
variable {w : World} {q : Nat} {V : Vw}
theorem rutterref10_Store_Row.c (hV : V.Ok) (h : RefAt w q V) (k : Int) : Calls Try.prog rutterref10_Store_Row.id #[.pointer (some ⟨q, 0, none⟩), .int .i64 k] w (retP fun v w' => v = rowO (V.r k) ∧ Ext w w') := by
  apply rutterref10_Store_Row.sound
  unfold rutterref10_Store_Row.sh
  have h' := blk_of0 h
  have hlt := blk_lt h'
  by_cases hk : 0 ≤ k ∧ k ≤ 31
  · have e1 : (decide (k < 0) || decide (31 < k)) = false := by simp; omega
    have e2 : k < ((32 : Nat) : Int) := by omega
    have hn : k.toNat < 32 := by omega
    have e3 : 16 + k.toNat * 9 + 9 ≤ 304 := by omega
    obtain ⟨r1, r2, r3, r4⟩ := rowcells (V := V) hn
    have hkk : ((k.toNat : Nat) : Int) = k := by omega
    rcases Vw.at_cases hV k.toNat with ⟨h1, h2⟩ | ⟨x, h1, h2, h3, h4, h5⟩
    · rw [hkk] at h1
      rw [h2] at r4
      have r4' : (refArr V)[16 + k.toNat * 9 + 7]? = some (.int .i64 0) := r4
      rw [h1]
      simp -dsimp (disch := first | omega | assumption | ((simp only [World.size_alloc, size_setRow, List.size_toArray, List.length_cons, List.length_nil, cells_agg, len_enc, cells_int, cells_bool, cells_slice, cells_ptr, cells_string]) <;> omega) | ((repeat (first | with_reducible exact Ext.refl _ | with_reducible assumption | with_reducible apply Ext.alloc | with_reducible apply Ext.drew | (with_reducible refine Ext.setRow ?_ (by (try simp only [World.size_alloc]); omega) _) | (with_reducible refine Ext.tr ?_ (by assumption)))); done) | fail) only [go_sem, jn_r, Nat.reduceAdd, Nat.reduceLeDiff, Nat.reduceMul, Int.reduceToNat, Nat.reduceEqDiff, Nat.reduceLT, Int.reduceBEq, Int.reduceBNe, Int.reduceLT, Int.reduceLE, Int.reduceAdd, Int.reduceSub, Int.reduceMul, Int.reduceDiv, Int.reduceMod, Int.reduceNeg, e1, e2, hk.1, h', r4']
      exact ⟨rfl, by (repeat (first | with_reducible exact Ext.refl _ | with_reducible assumption | with_reducible apply Ext.alloc | with_reducible apply Ext.drew | (with_reducible refine Ext.setRow ?_ (by (try simp only [World.size_alloc]); omega) _) | (with_reducible refine Ext.tr ?_ (by assumption))))⟩
    · rw [hkk] at h1
      rw [h2] at r4
      have hrow : agx (refArr V) (16 + k.toNat * 9) 9 = .agg #[.int .i64 x.port, .int .u64 x.mac, .int .i64 x.owner, .int .i64 x.target, .int .i64 x.old, .int .i64 x.gen, .int .i64 x.phase, .int .i64 x.ver, .int .i64 x.since] := by rw [refArr_row hn, h2]; rfl
      rw [h1]
      have e4 : (x.ver == 0) = false := by simp; omega
      simp -dsimp (disch := first | omega | assumption | ((simp only [World.size_alloc, size_setRow, List.size_toArray, List.length_cons, List.length_nil, cells_agg, len_enc, cells_int, cells_bool, cells_slice, cells_ptr, cells_string]) <;> omega) | ((repeat (first | with_reducible exact Ext.refl _ | with_reducible assumption | with_reducible apply Ext.alloc | with_reducible apply Ext.drew | (with_reducible refine Ext.setRow ?_ (by (try simp only [World.size_alloc]); omega) _) | (with_reducible refine Ext.tr ?_ (by assumption)))); done) | fail) only [go_sem, jn_r, Nat.reduceAdd, Nat.reduceLeDiff, Nat.reduceMul, Int.reduceToNat, Nat.reduceEqDiff, Nat.reduceLT, Int.reduceBEq, Int.reduceBNe, Int.reduceLT, Int.reduceLE, Int.reduceAdd, Int.reduceSub, Int.reduceMul, Int.reduceDiv, Int.reduceMod, Int.reduceNeg, e1, e2, hk.1, h', r4, e4, hrow, e3]
      exact ⟨rfl, by (repeat (first | with_reducible exact Ext.refl _ | with_reducible assumption | with_reducible apply Ext.alloc | with_reducible apply Ext.drew | (with_reducible refine Ext.setRow ?_ (by (try simp only [World.size_alloc]); omega) _) | (with_reducible refine Ext.tr ?_ (by assumption))))⟩
  · have e1 : (decide (k < 0) || decide (31 < k)) = true := by simp; omega
    have hn : V.r k = none := by
      cases hr : V.r k with
      | none => rfl
      | some x => exact absurd (hV.port hr) hk
    rw [hn]
    simp -dsimp (disch := first | omega | assumption | ((simp only [World.size_alloc, size_setRow, List.size_toArray, List.length_cons, List.length_nil, cells_agg, len_enc, cells_int, cells_bool, cells_slice, cells_ptr, cells_string]) <;> omega) | ((repeat (first | with_reducible exact Ext.refl _ | with_reducible assumption | with_reducible apply Ext.alloc | with_reducible apply Ext.drew | (with_reducible refine Ext.setRow ?_ (by (try simp only [World.size_alloc]); omega) _) | (with_reducible refine Ext.tr ?_ (by assumption)))); done) | fail) only [go_sem, jn_r, Nat.reduceAdd, Nat.reduceLeDiff, Nat.reduceMul, Int.reduceToNat, Nat.reduceEqDiff, Nat.reduceLT, Int.reduceBEq, Int.reduceBNe, Int.reduceLT, Int.reduceLE, Int.reduceAdd, Int.reduceSub, Int.reduceMul, Int.reduceDiv, Int.reduceMod, Int.reduceNeg, e1]
    exact ⟨rfl, by (repeat (first | with_reducible exact Ext.refl _ | with_reducible assumption | with_reducible apply Ext.alloc | with_reducible apply Ext.drew | (with_reducible refine Ext.setRow ?_ (by (try simp only [World.size_alloc]); omega) _) | (with_reducible refine Ext.tr ?_ (by assumption))))⟩
set_option maxHeartbeats 1000000 in
theorem rutterref10_Store_Apply.c (hV : V.Ok) (h : RefAt w q V) {a1 : Value} {l : List (Rw × Int)} (hs : Sl chgC w a1 l) (hll : l.length ≤ 1000000) :
    Calls Try.prog rutterref10_Store_Apply.id #[.pointer (some ⟨q, 0, none⟩), a1] w (retP fun v w' => v = .int .i64 (V.apply l).2 ∧ RefAt w' q (V.apply l).1 ∧ Chg [q] w w') := by
  obtain ⟨a, c, rfl⟩ := hs.form
  have h' := blk_of0 h
  have hq := blk_lt h'
  have e3 : (0 : Nat) + 16 ≤ 304 := by omega
  have e4 : 16 + 288 ≤ 304 := by omega
  apply rutterref10_Store_Apply.sound
  unfold rutterref10_Store_Apply.sh
  have hbd : ∀ K : Value → Prop, pv (bd 36 #[(0, agx (refArr V) 0 16), (1, agx (refArr V) 16 288)]) K = K (.agg (refArr V)) := fun K => bd_ref
  have hz0 : w.drew.heap.size = w.heap.size := rfl
  simp -dsimp (disch := first | omega | assumption | ((simp only [World.size_alloc, size_setRow, List.size_toArray, List.length_cons, List.length_nil, cells_agg, len_enc, cells_int, cells_bool, cells_slice, cells_ptr, cells_string]) <;> omega) | ((repeat (first | with_reducible exact Ext.refl _ | with_reducible assumption | with_reducible apply Ext.alloc | with_reducible apply Ext.drew | (with_reducible refine Ext.setRow ?_ (by (try simp only [World.size_alloc]); omega) _) | (with_reducible refine Ext.tr ?_ (by assumption)))); done) | fail) only [go_sem, jn_r, Nat.reduceAdd, Nat.reduceLeDiff, Nat.reduceMul, Int.reduceToNat, Nat.reduceEqDiff, Nat.reduceLT, Int.reduceBEq, Int.reduceBNe, Int.reduceLT, Int.reduceLE, Int.reduceAdd, Int.reduceSub, Int.reduceMul, Int.reduceDiv, Int.reduceMod, Int.reduceNeg, h', e3, e4, hbd, hz0]
  refine loop_g (γ := Nat × Vw) (fun g st w' => st = [.int .i64 (g.1 : Int)] ∧ Ext w w' ∧ w.heap.size < w'.heap.size ∧ g.2.Ok ∧ g.2.c = V.c ∧ V.goOn l = g.2.goOn (l.drop g.1) ∧ RefAt w' w.heap.size g.2) (fun g => l.length - g.1) (0, V) ⟨rfl, by (repeat (first | with_reducible exact Ext.refl _ | with_reducible assumption | with_reducible apply Ext.alloc | with_reducible apply Ext.drew | (with_reducible refine Ext.setRow ?_ (by (try simp only [World.size_alloc]); omega) _) | (with_reducible refine Ext.tr ?_ (by assumption)))), by first | omega | (simp only [World.size_alloc]; omega) | (show w.heap.size < (w.heap.push _).size; simp), hV, rfl, rfl, ?_⟩ ?_
  · exact blk0_new rfl
  rintro ⟨i, U⟩ st w2 next ⟨rfl, hE, hz, hU, hc, hgo, hR⟩ hn
  simp only at hU hc hgo hR
  by_cases hi : i < l.length
  · have d0 : ((i : Int) < (l.length : Int)) := by omega
    have d1 : (0 : Int) ≤ (i : Int) := by omega
    have ew : IntKind.i64.wrap ((i : Int) + 1) = ((i + 1 : Nat) : Int) := by rw [wrap_64 (by omega) (by omega)]; simp
    obtain ⟨⟨x, was⟩, hx1⟩ : ∃ x, l[i]? = some x := ⟨_, List.getElem?_eq_getElem hi⟩
    obtain ⟨b', off, c', cs, hsx, hb', hsz, hag, hj⟩ := (hs.ext hE).at hx1
    cases hsx
    have hdrop : l.drop i = (x, was) :: l.drop (i + 1) := by
      rw [List.drop_eq_getElem_cons hi]
      rw [List.getElem?_eq_getElem hi] at hx1
      rw [Option.some.inj hx1]
    rw [hdrop, show U.goOn ((x, was) :: l.drop (i + 1)) = if U.wrong x was ≠ 0 then (U, U.wrong x was) else (U.put x).goOn (l.drop (i + 1)) from rfl] at hgo
    simp -dsimp (disch := first | omega | assumption | ((simp only [World.size_alloc, size_setRow, List.size_toArray, List.length_cons, List.length_nil, cells_agg, len_enc, cells_int, cells_bool, cells_slice, cells_ptr, cells_string]) <;> omega) | ((repeat (first | with_reducible exact Ext.refl _ | with_reducible assumption | with_reducible apply Ext.alloc | with_reducible apply Ext.drew | (with_reducible refine Ext.setRow ?_ (by (try simp only [World.size_alloc]); omega) _) | (with_reducible refine Ext.tr ?_ (by assumption)))); done) | fail) only [go_sem, jn_r, Nat.reduceAdd, Nat.reduceLeDiff, Nat.reduceMul, Int.reduceToNat, Nat.reduceEqDiff, Nat.reduceLT, Int.reduceBEq, Int.reduceBNe, Int.reduceLT, Int.reduceLE, Int.reduceAdd, Int.reduceSub, Int.reduceMul, Int.reduceDiv, Int.reduceMod, Int.reduceNeg, d0, d1, hb', hsz, hag, Int.toNat_natCast]
    refine callM (rutterref10_Store_wrong.c hU hR x was) ?_
    rintro _ w3 ⟨rfl, hx3⟩
    by_cases hw : U.wrong x was = 0
    · have e1 : (U.wrong x was != 0) = false := by simp [hw]
      rw [if_neg (not_not_intro hw)] at hgo
      have hok := Vw.wrong_ok hw
      have hbn := hok.bnd
      have hb3 := hx3.blkS hb'
      have hR3 : blk0 w3 w.heap.size = some (refArr U) := hR.ext hx3
      have p0 : cs[off + i * 10]? = some (.int .i64 x.port) := by have := hj 0 _ rfl; simpa using this
      have p1 : agx cs (off + i * 10) 9 = .agg #[.int .i64 x.port, .int .u64 x.mac, .int .i64 x.owner, .int .i64 x.target, .int .i64 x.old, .int .i64 x.gen, .int .i64 x.phase, .int .i64 x.ver, .int .i64 x.since] := by
        have := agx_sub (l := chgC.enc (x, was)) (cs := cs) (o := off + i * 10) (d := 0) (m := 9) hj (by simp [chgC, Rw.enc])
        rw [Nat.add_zero] at this
        rw [this]
        rfl
      have d2 : x.port < ((32 : Nat) : Int) := by omega
      have d3 : 16 + x.port.toNat * 9 + 9 ≤ 304 := by omega
      have d4 : off + i * 10 + 9 ≤ cs.size := by omega
      have ep := refArr_put (V := U) hbn.1
      unfold Rw.arr at ep
      simp -dsimp (disch := first | omega | assumption | ((simp only [World.size_alloc, size_setRow, List.size_toArray, List.length_cons, List.length_nil, cells_agg, len_enc, cells_int, cells_bool, cells_slice, cells_ptr, cells_string]) <;> omega) | ((repeat (first | with_reducible exact Ext.refl _ | with_reducible assumption | with_reducible apply Ext.alloc | with_reducible apply Ext.drew | (with_reducible refine Ext.setRow ?_ (by (try simp only [World.size_alloc]); omega) _) | (with_reducible refine Ext.tr ?_ (by assumption)))); done) | fail) only [go_sem, jn_r, Nat.reduceAdd, Nat.reduceLeDiff, Nat.reduceMul, Int.reduceToNat, Nat.reduceEqDiff, Nat.reduceLT, Int.reduceBEq, Int.reduceBNe, Int.reduceLT, Int.reduceLE, Int.reduceAdd, Int.reduceSub, Int.reduceMul, Int.reduceDiv, Int.reduceMod, Int.reduceNeg, hz0, e1, d0, d1, hb3, hR3, p0, p1, d2, d3, d4, hbn.1.1, Int.toNat_natCast, ep, ew]
      have hC : Chg [w.heap.size] w3 (w3.drew.setRow w.heap.size (refArr (U.put x))) := (Chg.refl _ w3).drew.setRow (.inl (List.mem_singleton.2 rfl)) _
      refine hn (i + 1, U.put x) _ _ ⟨rfl, (hE.tr hx3).then hC (by simp), Nat.lt_of_lt_of_le hz (Nat.le_trans hx3.size hC.size), Vw.put_ok hU hok, hc, hgo, ?_⟩ (by simp; omega)
      unfold RefAt
      simp only
      simp -dsimp (disch := first | omega | assumption | ((simp only [World.size_alloc, size_setRow, List.size_toArray, List.length_cons, List.length_nil, cells_agg, len_enc, cells_int, cells_bool, cells_slice, cells_ptr, cells_string]) <;> omega) | ((repeat (first | with_reducible exact Ext.refl _ | with_reducible assumption | with_reducible apply Ext.alloc | with_reducible apply Ext.drew | (with_reducible refine Ext.setRow ?_ (by (try simp only [World.size_alloc]); omega) _) | (with_reducible refine Ext.tr ?_ (by assumption)))); done) | fail) only [go_sem, jn_r, Nat.reduceAdd, Nat.reduceLeDiff, Nat.reduceMul, Int.reduceToNat, Nat.reduceEqDiff, Nat.reduceLT, Int.reduceBEq, Int.reduceBNe, Int.reduceLT, Int.reduceLE, Int.reduceAdd, Int.reduceSub, Int.reduceMul, Int.reduceDiv, Int.reduceMod, Int.reduceNeg, hR3]
    · have e1 : (U.wrong x was != 0) = true := by simp [hw]
      rw [if_pos hw] at hgo
      rw [Vw.apply_go hgo, if_neg hw]
      simp -dsimp (disch := first | omega | assumption | ((simp only [World.size_alloc, size_setRow, List.size_toArray, List.length_cons, List.length_nil, cells_agg, len_enc, cells_int, cells_bool, cells_slice, cells_ptr, cells_string]) <;> omega) | ((repeat (first | with_reducible exact Ext.refl _ | with_reducible assumption | with_reducible apply Ext.alloc | with_reducible apply Ext.drew | (with_reducible refine Ext.setRow ?_ (by (try simp only [World.size_alloc]); omega) _) | (with_reducible refine Ext.tr ?_ (by assumption)))); done) | fail) only [go_sem, jn_r, Nat.reduceAdd, Nat.reduceLeDiff, Nat.reduceMul, Int.reduceToNat, Nat.reduceEqDiff, Nat.reduceLT, Int.reduceBEq, Int.reduceBNe, Int.reduceLT, Int.reduceLE, Int.reduceAdd, Int.reduceSub, Int.reduceMul, Int.reduceDiv, Int.reduceMod, Int.reduceNeg, e1]
      exact ⟨h.ext (hE.tr hx3), (hE.tr hx3).chg⟩
  · have d0 : ¬ ((i : Int) < (l.length : Int)) := by omega
    rw [List.drop_eq_nil_of_le (by omega), show U.goOn [] = (U, 0) from rfl] at hgo
    rw [Vw.apply_go hgo, if_pos rfl]
    have k4 : blk0 w2 q = some _ := (hE.blk0 hq).trans h
    have k5 := blk_of0 hR
    have ec : ∀ o n, (agx (refArr U) o n).cells = (refArr U).extract o (o + n) := fun _ _ => rfl
    simp -dsimp (disch := first | omega | assumption | ((simp only [World.size_alloc, size_setRow, List.size_toArray, List.length_cons, List.length_nil, cells_agg, len_enc, cells_int, cells_bool, cells_slice, cells_ptr, cells_string]) <;> omega) | ((repeat (first | with_reducible exact Ext.refl _ | with_reducible assumption | with_reducible apply Ext.alloc | with_reducible apply Ext.drew | (with_reducible refine Ext.setRow ?_ (by (try simp only [World.size_alloc]); omega) _) | (with_reducible refine Ext.tr ?_ (by assumption)))); done) | fail) only [go_sem, jn_r, Nat.reduceAdd, Nat.reduceLeDiff, Nat.reduceMul, Int.reduceToNat, Nat.reduceEqDiff, Nat.reduceLT, Int.reduceBEq, Int.reduceBNe, Int.reduceLT, Int.reduceLE, Int.reduceAdd, Int.reduceSub, Int.reduceMul, Int.reduceDiv, Int.reduceMod, Int.reduceNeg, hz0, d0, k4, k5, e4, refArr_fit, ec, refArr_rows hc]
    refine ⟨?_, hE.chg.tr ((Chg.refl [q] w2).setRow (.inl (List.mem_singleton.2 rfl)) _) (by simp)⟩
    unfold RefAt
    simp -dsimp (disch := first | omega | assumption | ((simp only [World.size_alloc, size_setRow, List.size_toArray, List.length_cons, List.length_nil, cells_agg, len_enc, cells_int, cells_bool, cells_slice, cells_ptr, cells_string]) <;> omega) | ((repeat (first | with_reducible exact Ext.refl _ | with_reducible assumption | with_reducible apply Ext.alloc | with_reducible apply Ext.drew | (with_reducible refine Ext.setRow ?_ (by (try simp only [World.size_alloc]); omega) _) | (with_reducible refine Ext.tr ?_ (by assumption)))); done) | fail) only [go_sem, jn_r, Nat.reduceAdd, Nat.reduceLeDiff, Nat.reduceMul, Int.reduceToNat, Nat.reduceEqDiff, Nat.reduceLT, Int.reduceBEq, Int.reduceBNe, Int.reduceLT, Int.reduceLE, Int.reduceAdd, Int.reduceSub, Int.reduceMul, Int.reduceDiv, Int.reduceMod, Int.reduceNeg, k4]
    show some (spl (refArr V) 16 ((refArr U).extract 16 (16 + 288))) = _
    rw [refArr_rows hc]
end
end Go.Proofs.Ytbkgijnmckchbaa
