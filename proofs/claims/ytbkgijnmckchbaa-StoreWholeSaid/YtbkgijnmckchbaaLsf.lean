/- the law StoreWhole: sound. -/
import Derived.Test.YtbkgijnmckchbaaVs
namespace Go.Proofs.Ytbkgijnmckchbaa
open Go
set_option linter.unusedSimpArgs false
set_option linter.unusedVariables false
section
variable {w : World} {p : Nat} {B : List Nat} {V : Vw}
theorem ge_has (hV : V.Ok) (h : StAt w p B V) {c : Bool} {k : Int} {K : Value → World → Prop} (hk : K (sel c (.bool (V.c k)) undef) w) :
    ge (.bool c) true (fun K => Calls Try.prog store_Store_Has.id #[sel c (.pointer (some ⟨p, 0, none⟩)) undef, sel c (.int .i64 k) undef] w (retP K)) w K := by
  cases c with
  | true =>
    rw [ge_tt]
    refine callM (store_Store_Has.c hV h k) ?_
    rintro _ w' ⟨rfl, rfl⟩
    exact hk
  | false => rw [ge_ft]; exact hk
theorem names_has (hF : V.Fine) {k : Int} {x : Rw} (hx : V.r k = some x) {c : Int} (hc : c ∈ [x.owner, x.target, x.old]) : (decide (0 ≤ c) && !V.c c) = false := by
  by_cases h : 0 ≤ c
  · have : c ∈ x.names := by
      unfold Rw.names
      rw [List.mem_filter]
      exact ⟨hc, by simp; omega⟩
    rw [hF.named k x hx c this]
    simp
  · simp [h]
set_option maxHeartbeats 2000000 in
theorem rutterlaw10_sound.c (hF : V.Fine) (h : StAt w p B V) : Calls Try.prog rutterlaw10_sound.id #[.pointer (some ⟨p, 0, none⟩)] w (retP fun v w' => v = .bool true ∧ Ext w w') := by
  have hV := hF.ok
  apply rutterlaw10_sound.sound
  unfold rutterlaw10_sound.sh
  simp -dsimp (disch := first | omega | assumption | ((simp only [World.size_alloc, size_setRow, List.size_toArray, List.length_cons, List.length_nil, cells_agg, len_enc, cells_int, cells_bool, cells_slice, cells_ptr, cells_string]) <;> omega) | ((repeat (first | with_reducible exact Ext.refl _ | with_reducible assumption | with_reducible apply Ext.alloc | with_reducible apply Ext.drew | (with_reducible refine Ext.setRow ?_ (by (try simp only [World.size_alloc]); omega) _) | (with_reducible refine Ext.tr ?_ (by assumption)))); done) | fail) only [go_sem, jn_r, Nat.reduceAdd, Nat.reduceLeDiff, Nat.reduceMul, Int.reduceToNat, Nat.reduceEqDiff, Nat.reduceLT, Int.reduceBEq, Int.reduceBNe, Int.reduceLT, Int.reduceLE, Int.reduceAdd, Int.reduceSub, Int.reduceMul, Int.reduceDiv, Int.reduceMod, Int.reduceNeg]
  refine callM (store_Store_Rows.c hV h) ?_
  rintro v w1 ⟨hO, hx⟩
  have hsl := hO.sl
  obtain ⟨a, c, rfl⟩ := hsl.form
  have hll := V.rows_len
  refine loop_g (γ := Nat) (fun i st w' => st = [.int .i64 (i : Int)] ∧ Ext w1 w') (fun i => V.rows.length - i) 0 ⟨rfl, .refl _⟩ ?_
  rintro i st w2 next ⟨rfl, hE⟩ hn
  have hE1 := hx.tr hE
  by_cases hi : i < V.rows.length
  · have d0 : ((i : Int) < (V.rows.length : Int)) := by omega
    have d1 : (0 : Int) ≤ (i : Int) := by omega
    have ew : IntKind.i64.wrap ((i : Int) + 1) = ((i + 1 : Nat) : Int) := by rw [wrap_64 (by omega) (by omega)]; simp
    obtain ⟨x, hxi⟩ : ∃ x, V.rows[i]? = some x := ⟨_, List.getElem?_eq_getElem hi⟩
    have hxr := (Vw.mem_rows hV).1 (List.mem_of_getElem? hxi)
    obtain ⟨b', off, c', cs, hsx, hb', hsz, hag, hj⟩ := (hsl.ext hE).at hxi
    cases hsx
    have hag' : agx cs (off + i * 9) 9 = .agg #[.int .i64 x.port, .int .u64 x.mac, .int .i64 x.owner, .int .i64 x.target, .int .i64 x.old, .int .i64 x.gen, .int .i64 x.phase, .int .i64 x.ver, .int .i64 x.since] := hag
    have n1 := names_has hF hxr (c := x.owner) (by simp)
    have n2 := names_has hF hxr (c := x.target) (by simp)
    have n3 := names_has hF hxr (c := x.old) (by simp)
    have hst : StAt (w2.alloc (.cells #[.int .i64 x.port, .int .u64 x.mac, .int .i64 x.owner, .int .i64 x.target, .int .i64 x.old, .int .i64 x.gen, .int .i64 x.phase, .int .i64 x.ver, .int .i64 x.since] 33)) p B V := h.chg ((hE1.alloc _).chg (S := [])) (by simp)
    simp -dsimp (disch := first | omega | assumption | ((simp only [World.size_alloc, size_setRow, List.size_toArray, List.length_cons, List.length_nil, cells_agg, len_enc, cells_int, cells_bool, cells_slice, cells_ptr, cells_string]) <;> omega) | ((repeat (first | with_reducible exact Ext.refl _ | with_reducible assumption | with_reducible apply Ext.alloc | with_reducible apply Ext.drew | (with_reducible refine Ext.setRow ?_ (by (try simp only [World.size_alloc]); omega) _) | (with_reducible refine Ext.tr ?_ (by assumption)))); done) | fail) only [go_sem, jn_r, Nat.reduceAdd, Nat.reduceLeDiff, Nat.reduceMul, Int.reduceToNat, Nat.reduceEqDiff, Nat.reduceLT, Int.reduceBEq, Int.reduceBNe, Int.reduceLT, Int.reduceLE, Int.reduceAdd, Int.reduceSub, Int.reduceMul, Int.reduceDiv, Int.reduceMod, Int.reduceNeg, d0, d1, hb', hsz, hag', Int.toNat_natCast]
    refine ge_has hV hst ?_
    simp -dsimp (disch := first | omega | assumption | ((simp only [World.size_alloc, size_setRow, List.size_toArray, List.length_cons, List.length_nil, cells_agg, len_enc, cells_int, cells_bool, cells_slice, cells_ptr, cells_string]) <;> omega) | ((repeat (first | with_reducible exact Ext.refl _ | with_reducible assumption | with_reducible apply Ext.alloc | with_reducible apply Ext.drew | (with_reducible refine Ext.setRow ?_ (by (try simp only [World.size_alloc]); omega) _) | (with_reducible refine Ext.tr ?_ (by assumption)))); done) | fail) only [go_sem, jn_r, Nat.reduceAdd, Nat.reduceLeDiff, Nat.reduceMul, Int.reduceToNat, Nat.reduceEqDiff, Nat.reduceLT, Int.reduceBEq, Int.reduceBNe, Int.reduceLT, Int.reduceLE, Int.reduceAdd, Int.reduceSub, Int.reduceMul, Int.reduceDiv, Int.reduceMod, Int.reduceNeg, n1]
    refine ge_has hV hst ?_
    simp -dsimp (disch := first | omega | assumption | ((simp only [World.size_alloc, size_setRow, List.size_toArray, List.length_cons, List.length_nil, cells_agg, len_enc, cells_int, cells_bool, cells_slice, cells_ptr, cells_string]) <;> omega) | ((repeat (first | with_reducible exact Ext.refl _ | with_reducible assumption | with_reducible apply Ext.alloc | with_reducible apply Ext.drew | (with_reducible refine Ext.setRow ?_ (by (try simp only [World.size_alloc]); omega) _) | (with_reducible refine Ext.tr ?_ (by assumption)))); done) | fail) only [go_sem, jn_r, Nat.reduceAdd, Nat.reduceLeDiff, Nat.reduceMul, Int.reduceToNat, Nat.reduceEqDiff, Nat.reduceLT, Int.reduceBEq, Int.reduceBNe, Int.reduceLT, Int.reduceLE, Int.reduceAdd, Int.reduceSub, Int.reduceMul, Int.reduceDiv, Int.reduceMod, Int.reduceNeg, n1, n2]
    refine ge_has hV hst ?_
    simp -dsimp (disch := first | omega | assumption | ((simp only [World.size_alloc, size_setRow, List.size_toArray, List.length_cons, List.length_nil, cells_agg, len_enc, cells_int, cells_bool, cells_slice, cells_ptr, cells_string]) <;> omega) | ((repeat (first | with_reducible exact Ext.refl _ | with_reducible assumption | with_reducible apply Ext.alloc | with_reducible apply Ext.drew | (with_reducible refine Ext.setRow ?_ (by (try simp only [World.size_alloc]); omega) _) | (with_reducible refine Ext.tr ?_ (by assumption)))); done) | fail) only [go_sem, jn_r, Nat.reduceAdd, Nat.reduceLeDiff, Nat.reduceMul, Int.reduceToNat, Nat.reduceEqDiff, Nat.reduceLT, Int.reduceBEq, Int.reduceBNe, Int.reduceLT, Int.reduceLE, Int.reduceAdd, Int.reduceSub, Int.reduceMul, Int.reduceDiv, Int.reduceMod, Int.reduceNeg, n1, n2, n3]
    refine loop_g (γ := Nat) (fun k st w' => st = [.int .i64 (k : Int)] ∧ Ext (w2.alloc (.cells #[.int .i64 x.port, .int .u64 x.mac, .int .i64 x.owner, .int .i64 x.target, .int .i64 x.old, .int .i64 x.gen, .int .i64 x.phase, .int .i64 x.ver, .int .i64 x.since] 33)) w' ∧ k ≤ i) (fun k => i - k) 0 ⟨rfl, .refl _, by omega⟩ ?_
    rintro k st w3 next2 ⟨rfl, hE3, hk⟩ hn2
    have hE4 : Ext w2 w3 := Ext.tr ((Ext.refl w2).alloc _) hE3
    have kx : blk w3 w2.heap.size = some #[.int .i64 x.port, .int .u64 x.mac, .int .i64 x.owner, .int .i64 x.target, .int .i64 x.old, .int .i64 x.gen, .int .i64 x.phase, .int .i64 x.ver, .int .i64 x.since] := hE3.blkS (blk_new rfl)
    by_cases hk2 : k < i
    · have f0 : ((k : Int) < (i : Int)) := by omega
      have f1 : (0 : Int) ≤ (k : Int) := by omega
      have f2 : ((k : Int) < (V.rows.length : Int)) := by omega
      have ewk : IntKind.i64.wrap ((k : Int) + 1) = ((k + 1 : Nat) : Int) := by rw [wrap_64 (by omega) (by omega)]; simp
      obtain ⟨y, hyk⟩ : ∃ y, V.rows[k]? = some y := ⟨_, List.getElem?_eq_getElem (by omega)⟩
      have hyr := (Vw.mem_rows hV).1 (List.mem_of_getElem? hyk)
      have hb3 := hE4.blkS hb'
      obtain ⟨b4, off4, c4, cs4, hsx4, hb4, -, -, hj4⟩ := (hsl.ext (hE.tr hE4)).at hyk
      cases hsx4
      rw [hb3] at hb4
      cases hb4
      have q0 : cs[off + k * 9]? = some (.int .i64 y.port) := by have := hj4 0 (.int .i64 y.port) rfl; simpa using this
      have q1 : cs[off + k * 9 + 1]? = some (.int .u64 y.mac) := hj4 1 _ rfl
      have q6 : cs[off + k * 9 + 6]? = some (.int .i64 y.phase) := hj4 6 _ rfl
      have hlt : y.port < x.port := by
        have hpw := List.pairwise_iff_getElem.1 (Vw.rows_pw hV) k i (by omega) hi hk2
        rw [List.getElem?_eq_getElem (by omega)] at hyk hxi
        rw [Option.some.inj hyk, Option.some.inj hxi] at hpw
        exact hpw
      have g3 : ¬ x.port ≤ y.port := by omega
      have gm : x.phase ≠ 3 → y.phase ≠ 3 → (x.mac == y.mac) = false := fun p1 p2 => by
        have := hF.one x.port y.port x y hxr hyr (by omega) p1 p2
        simp [this]
      by_cases p1 : x.phase = 3
      · have e1 : (x.phase != 3) = false := by simp [p1]
        simp -dsimp (disch := first | omega | assumption | ((simp only [World.size_alloc, size_setRow, List.size_toArray, List.length_cons, List.length_nil, cells_agg, len_enc, cells_int, cells_bool, cells_slice, cells_ptr, cells_string]) <;> omega) | ((repeat (first | with_reducible exact Ext.refl _ | with_reducible assumption | with_reducible apply Ext.alloc | with_reducible apply Ext.drew | (with_reducible refine Ext.setRow ?_ (by (try simp only [World.size_alloc]); omega) _) | (with_reducible refine Ext.tr ?_ (by assumption)))); done) | fail) only [go_sem, jn_r, Nat.reduceAdd, Nat.reduceLeDiff, Nat.reduceMul, Int.reduceToNat, Nat.reduceEqDiff, Nat.reduceLT, Int.reduceBEq, Int.reduceBNe, Int.reduceLT, Int.reduceLE, Int.reduceAdd, Int.reduceSub, Int.reduceMul, Int.reduceDiv, Int.reduceMod, Int.reduceNeg, f0, f1, f2, hb3, q0, q1, q6, kx, Int.toNat_natCast, e1, g3, ewk]
        exact hn2 (k + 1) _ _ ⟨rfl, hE3.drew, by omega⟩ (by omega)
      · have e1 : (x.phase != 3) = true := by simp [p1]
        by_cases p2 : y.phase = 3
        · have e2 : (y.phase != 3) = false := by simp [p2]
          simp -dsimp (disch := first | omega | assumption | ((simp only [World.size_alloc, size_setRow, List.size_toArray, List.length_cons, List.length_nil, cells_agg, len_enc, cells_int, cells_bool, cells_slice, cells_ptr, cells_string]) <;> omega) | ((repeat (first | with_reducible exact Ext.refl _ | with_reducible assumption | with_reducible apply Ext.alloc | with_reducible apply Ext.drew | (with_reducible refine Ext.setRow ?_ (by (try simp only [World.size_alloc]); omega) _) | (with_reducible refine Ext.tr ?_ (by assumption)))); done) | fail) only [go_sem, jn_r, Nat.reduceAdd, Nat.reduceLeDiff, Nat.reduceMul, Int.reduceToNat, Nat.reduceEqDiff, Nat.reduceLT, Int.reduceBEq, Int.reduceBNe, Int.reduceLT, Int.reduceLE, Int.reduceAdd, Int.reduceSub, Int.reduceMul, Int.reduceDiv, Int.reduceMod, Int.reduceNeg, f0, f1, f2, hb3, q0, q1, q6, kx, Int.toNat_natCast, e1, e2, g3, ewk]
          exact hn2 (k + 1) _ _ ⟨rfl, hE3.drew, by omega⟩ (by omega)
        · have e2 : (y.phase != 3) = true := by simp [p2]
          simp -dsimp (disch := first | omega | assumption | ((simp only [World.size_alloc, size_setRow, List.size_toArray, List.length_cons, List.length_nil, cells_agg, len_enc, cells_int, cells_bool, cells_slice, cells_ptr, cells_string]) <;> omega) | ((repeat (first | with_reducible exact Ext.refl _ | with_reducible assumption | with_reducible apply Ext.alloc | with_reducible apply Ext.drew | (with_reducible refine Ext.setRow ?_ (by (try simp only [World.size_alloc]); omega) _) | (with_reducible refine Ext.tr ?_ (by assumption)))); done) | fail) only [go_sem, jn_r, Nat.reduceAdd, Nat.reduceLeDiff, Nat.reduceMul, Int.reduceToNat, Nat.reduceEqDiff, Nat.reduceLT, Int.reduceBEq, Int.reduceBNe, Int.reduceLT, Int.reduceLE, Int.reduceAdd, Int.reduceSub, Int.reduceMul, Int.reduceDiv, Int.reduceMod, Int.reduceNeg, f0, f1, f2, hb3, q0, q1, q6, kx, Int.toNat_natCast, e1, e2, gm p1 p2, g3, ewk]
          exact hn2 (k + 1) _ _ ⟨rfl, hE3.drew, by omega⟩ (by omega)
    · have f0 : ¬ ((k : Int) < (i : Int)) := by omega
      simp -dsimp (disch := first | omega | assumption | ((simp only [World.size_alloc, size_setRow, List.size_toArray, List.length_cons, List.length_nil, cells_agg, len_enc, cells_int, cells_bool, cells_slice, cells_ptr, cells_string]) <;> omega) | ((repeat (first | with_reducible exact Ext.refl _ | with_reducible assumption | with_reducible apply Ext.alloc | with_reducible apply Ext.drew | (with_reducible refine Ext.setRow ?_ (by (try simp only [World.size_alloc]); omega) _) | (with_reducible refine Ext.tr ?_ (by assumption)))); done) | fail) only [go_sem, jn_r, Nat.reduceAdd, Nat.reduceLeDiff, Nat.reduceMul, Int.reduceToNat, Nat.reduceEqDiff, Nat.reduceLT, Int.reduceBEq, Int.reduceBNe, Int.reduceLT, Int.reduceLE, Int.reduceAdd, Int.reduceSub, Int.reduceMul, Int.reduceDiv, Int.reduceMod, Int.reduceNeg, f0, ew]
      exact hn (i + 1) _ _ ⟨rfl, hE.tr hE4⟩ (by omega)
  · have d0 : ¬ ((i : Int) < (V.rows.length : Int)) := by omega
    simp -dsimp (disch := first | omega | assumption | ((simp only [World.size_alloc, size_setRow, List.size_toArray, List.length_cons, List.length_nil, cells_agg, len_enc, cells_int, cells_bool, cells_slice, cells_ptr, cells_string]) <;> omega) | ((repeat (first | with_reducible exact Ext.refl _ | with_reducible assumption | with_reducible apply Ext.alloc | with_reducible apply Ext.drew | (with_reducible refine Ext.setRow ?_ (by (try simp only [World.size_alloc]); omega) _) | (with_reducible refine Ext.tr ?_ (by assumption)))); done) | fail) only [go_sem, jn_r, Nat.reduceAdd, Nat.reduceLeDiff, Nat.reduceMul, Int.reduceToNat, Nat.reduceEqDiff, Nat.reduceLT, Int.reduceBEq, Int.reduceBNe, Int.reduceLT, Int.reduceLE, Int.reduceAdd, Int.reduceSub, Int.reduceMul, Int.reduceDiv, Int.reduceMod, Int.reduceNeg, d0]
    exact hE1
end
end Go.Proofs.Ytbkgijnmckchbaa
