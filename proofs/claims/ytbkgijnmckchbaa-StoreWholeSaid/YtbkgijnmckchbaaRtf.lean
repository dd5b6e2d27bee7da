/- the database of the document: what it finds, what is late. -/
import Derived.Test.YtbkgijnmckchbaaRte
namespace Go.Proofs.Ytbkgijnmckchbaa
open Go
set_option linter.unusedSimpArgs false
set_option linter.unusedVariables false
section
variable {w : World} {q : Nat} {V : Vw}
theorem rows_find {p : Rw → Bool} {i : Nat} {x : Rw} (hi : i < 32) (hx : V.r (i : Int) = some x) (hp : p x = true) (hq : ∀ y ∈ ((upTo 32).take i).filterMap V.r, p y = false) : V.rows.find? p = some x := by
  unfold Vw.rows
  have e : upTo 32 = (upTo 32).take i ++ (i : Int) :: (upTo 32).drop (i + 1) := by
    have h1 := upTo_get hi
    have h2 : i < (upTo 32).length := by rw [upTo_len]; omega
    rw [List.getElem?_eq_getElem h2] at h1
    rw [← Option.some.inj h1, ← List.drop_eq_getElem_cons h2, List.take_append_drop]
  rw [e, List.filterMap_append, List.filterMap_cons_some hx, List.find?_append, find_no hq, Option.none_or, List.find?_cons, hp]
theorem rutterref10_Store_Find.c (hV : V.Ok) (h : RefAt w q V) (mac : Int) : Calls Try.prog rutterref10_Store_Find.id #[.pointer (some ⟨q, 0, none⟩), .int .u64 mac] w (retP fun v w' => v = rowO (V.find mac) ∧ Ext w w') := by
  apply rutterref10_Store_Find.sound
  unfold rutterref10_Store_Find.sh Vw.find
  have h' := blk_of0 h
  have hlt := blk_lt h'
  simp -dsimp (disch := first | omega | assumption | ((simp only [World.size_alloc, size_setRow, List.size_toArray, List.length_cons, List.length_nil, cells_agg, len_enc, cells_int, cells_bool, cells_slice, cells_ptr, cells_string]) <;> omega) | ((repeat (first | with_reducible exact Ext.refl _ | with_reducible assumption | with_reducible apply Ext.alloc | with_reducible apply Ext.drew | (with_reducible refine Ext.setRow ?_ (by (try simp only [World.size_alloc]); omega) _) | (with_reducible refine Ext.tr ?_ (by assumption)))); done) | fail) only [go_sem, jn_r, Nat.reduceAdd, Nat.reduceLeDiff, Nat.reduceMul, Int.reduceToNat, Nat.reduceEqDiff, Nat.reduceLT, Int.reduceBEq, Int.reduceBNe, Int.reduceLT, Int.reduceLE, Int.reduceAdd, Int.reduceSub, Int.reduceMul, Int.reduceDiv, Int.reduceMod, Int.reduceNeg]
  refine loop_g (γ := Nat) (fun i st w' => st = [.int .i64 (i : Int)] ∧ w' = w.alloc (.cells #[.int .i64 0, .int .u64 0, .int .i64 0, .int .i64 0, .int .i64 0, .int .i64 0, .int .i64 0, .int .i64 0, .int .i64 0] 33) ∧ ∀ y ∈ ((upTo 32).take i).filterMap V.r, (y.phase != 3 && y.mac == mac) = false) (fun i => 32 - i) 0 ⟨rfl, rfl, by simp⟩ ?_
  rintro i st w2 next ⟨rfl, rfl, hq⟩ hn
  by_cases hi : i < 32
  · have d0 : ((i : Int) < 32) := by omega
    have d00 : ((i : Int) < ((32 : Nat) : Int)) := by omega
    have d1 : (0 : Int) ≤ (i : Int) := by omega
    have ew : IntKind.i64.wrap ((i : Int) + 1) = ((i + 1 : Nat) : Int) := by rw [wrap_64 (by omega) (by omega)]; simp
    have e3 : 16 + i * 9 + 9 ≤ 304 := by omega
    obtain ⟨r1, r2, r3, r4⟩ := rowcells (V := V) hi
    have hst := rows_step hi (f := V.r)
    rcases Vw.at_cases hV i with ⟨g1, g2⟩ | ⟨x, g1, g2, g3, g4, g5⟩
    · rw [g2] at r4
      have r4' : (refArr V)[16 + i * 9 + 7]? = some (.int .i64 0) := r4
      have e5 : ¬ (0 : Int) < 0 := by omega
      simp -dsimp (disch := first | omega | assumption | ((simp only [World.size_alloc, size_setRow, List.size_toArray, List.length_cons, List.length_nil, cells_agg, len_enc, cells_int, cells_bool, cells_slice, cells_ptr, cells_string]) <;> omega) | ((repeat (first | with_reducible exact Ext.refl _ | with_reducible assumption | with_reducible apply Ext.alloc | with_reducible apply Ext.drew | (with_reducible refine Ext.setRow ?_ (by (try simp only [World.size_alloc]); omega) _) | (with_reducible refine Ext.tr ?_ (by assumption)))); done) | fail) only [go_sem, jn_r, Nat.reduceAdd, Nat.reduceLeDiff, Nat.reduceMul, Int.reduceToNat, Nat.reduceEqDiff, Nat.reduceLT, Int.reduceBEq, Int.reduceBNe, Int.reduceLT, Int.reduceLE, Int.reduceAdd, Int.reduceSub, Int.reduceMul, Int.reduceDiv, Int.reduceMod, Int.reduceNeg, d0, d00, d1, h', r4', Int.toNat_natCast, ew, e5]
      refine hn (i + 1) _ _ ⟨rfl, rfl, ?_⟩ (by omega)
      rw [hst, g1, Option.toList_none, List.append_nil]
      exact hq
    · rw [g2] at r2 r3 r4
      have hrow : agx (refArr V) (16 + i * 9) 9 = .agg #[.int .i64 x.port, .int .u64 x.mac, .int .i64 x.owner, .int .i64 x.target, .int .i64 x.old, .int .i64 x.gen, .int .i64 x.phase, .int .i64 x.ver, .int .i64 x.since] := by rw [refArr_row hi, g2]; rfl
      have e5 : 0 < x.ver := by omega
      cases hp : (x.phase != 3 && x.mac == mac) with
      | true =>
        rw [rows_find (p := fun x : Rw => x.phase != 3 && x.mac == mac) hi g1 hp hq]
        rw [Bool.and_eq_true] at hp
        simp -dsimp (disch := first | omega | assumption | ((simp only [World.size_alloc, size_setRow, List.size_toArray, List.length_cons, List.length_nil, cells_agg, len_enc, cells_int, cells_bool, cells_slice, cells_ptr, cells_string]) <;> omega) | ((repeat (first | with_reducible exact Ext.refl _ | with_reducible assumption | with_reducible apply Ext.alloc | with_reducible apply Ext.drew | (with_reducible refine Ext.setRow ?_ (by (try simp only [World.size_alloc]); omega) _) | (with_reducible refine Ext.tr ?_ (by assumption)))); done) | fail) only [go_sem, jn_r, Nat.reduceAdd, Nat.reduceLeDiff, Nat.reduceMul, Int.reduceToNat, Nat.reduceEqDiff, Nat.reduceLT, Int.reduceBEq, Int.reduceBNe, Int.reduceLT, Int.reduceLE, Int.reduceAdd, Int.reduceSub, Int.reduceMul, Int.reduceDiv, Int.reduceMod, Int.reduceNeg, d0, d00, d1, h', r4, r3, r2, Int.toNat_natCast, e5, e3, hrow, hp.1, hp.2]
        exact ⟨rfl, by (repeat (first | with_reducible exact Ext.refl _ | with_reducible assumption | with_reducible apply Ext.alloc | with_reducible apply Ext.drew | (with_reducible refine Ext.setRow ?_ (by (try simp only [World.size_alloc]); omega) _) | (with_reducible refine Ext.tr ?_ (by assumption))))⟩
      | false =>
        have hp' := hp
        cases hp3 : (x.phase != 3) with
        | false =>
          simp -dsimp (disch := first | omega | assumption | ((simp only [World.size_alloc, size_setRow, List.size_toArray, List.length_cons, List.length_nil, cells_agg, len_enc, cells_int, cells_bool, cells_slice, cells_ptr, cells_string]) <;> omega) | ((repeat (first | with_reducible exact Ext.refl _ | with_reducible assumption | with_reducible apply Ext.alloc | with_reducible apply Ext.drew | (with_reducible refine Ext.setRow ?_ (by (try simp only [World.size_alloc]); omega) _) | (with_reducible refine Ext.tr ?_ (by assumption)))); done) | fail) only [go_sem, jn_r, Nat.reduceAdd, Nat.reduceLeDiff, Nat.reduceMul, Int.reduceToNat, Nat.reduceEqDiff, Nat.reduceLT, Int.reduceBEq, Int.reduceBNe, Int.reduceLT, Int.reduceLE, Int.reduceAdd, Int.reduceSub, Int.reduceMul, Int.reduceDiv, Int.reduceMod, Int.reduceNeg, d0, d00, d1, h', r4, r3, r2, Int.toNat_natCast, e5, hp3, ew]
          refine hn (i + 1) _ _ ⟨rfl, rfl, ?_⟩ (by omega)
          rw [hst, g1]
          intro y hy
          rcases List.mem_append.1 hy with h | h
          · exact hq y h
          · simp at h; subst h; exact hp'
        | true =>
          rw [hp3, Bool.true_and] at hp
          simp -dsimp (disch := first | omega | assumption | ((simp only [World.size_alloc, size_setRow, List.size_toArray, List.length_cons, List.length_nil, cells_agg, len_enc, cells_int, cells_bool, cells_slice, cells_ptr, cells_string]) <;> omega) | ((repeat (first | with_reducible exact Ext.refl _ | with_reducible assumption | with_reducible apply Ext.alloc | with_reducible apply Ext.drew | (with_reducible refine Ext.setRow ?_ (by (try simp only [World.size_alloc]); omega) _) | (with_reducible refine Ext.tr ?_ (by assumption)))); done) | fail) only [go_sem, jn_r, Nat.reduceAdd, Nat.reduceLeDiff, Nat.reduceMul, Int.reduceToNat, Nat.reduceEqDiff, Nat.reduceLT, Int.reduceBEq, Int.reduceBNe, Int.reduceLT, Int.reduceLE, Int.reduceAdd, Int.reduceSub, Int.reduceMul, Int.reduceDiv, Int.reduceMod, Int.reduceNeg, d0, d00, d1, h', r4, r3, r2, Int.toNat_natCast, e5, hp3, hp, ew]
          refine hn (i + 1) _ _ ⟨rfl, rfl, ?_⟩ (by omega)
          rw [hst, g1]
          intro y hy
          rcases List.mem_append.1 hy with h | h
          · exact hq y h
          · simp at h; subst h; exact hp'
  · have d0 : ¬ ((i : Int) < 32) := by omega
    rw [List.take_of_length_le (by rw [upTo_len]; omega)] at hq
    rw [find_no (p := fun x : Rw => x.phase != 3 && x.mac == mac) (l := V.rows) hq]
    simp -dsimp (disch := first | omega | assumption | ((simp only [World.size_alloc, size_setRow, List.size_toArray, List.length_cons, List.length_nil, cells_agg, len_enc, cells_int, cells_bool, cells_slice, cells_ptr, cells_string]) <;> omega) | ((repeat (first | with_reducible exact Ext.refl _ | with_reducible assumption | with_reducible apply Ext.alloc | with_reducible apply Ext.drew | (with_reducible refine Ext.setRow ?_ (by (try simp only [World.size_alloc]); omega) _) | (with_reducible refine Ext.tr ?_ (by assumption)))); done) | fail) only [go_sem, jn_r, Nat.reduceAdd, Nat.reduceLeDiff, Nat.reduceMul, Int.reduceToNat, Nat.reduceEqDiff, Nat.reduceLT, Int.reduceBEq, Int.reduceBNe, Int.reduceLT, Int.reduceLE, Int.reduceAdd, Int.reduceSub, Int.reduceMul, Int.reduceDiv, Int.reduceMod, Int.reduceNeg, d0]
    exact ⟨rfl, by (repeat (first | with_reducible exact Ext.refl _ | with_reducible assumption | with_reducible apply Ext.alloc | with_reducible apply Ext.drew | (with_reducible refine Ext.setRow ?_ (by (try simp only [World.size_alloc]); omega) _) | (with_reducible refine Ext.tr ?_ (by assumption))))⟩
def lateO (now span : Int) (x : Rw) : Option (Rw × Int) := if (lateR x now span).2 then some ((lateR x now span).1, x.ver) else none
theorem late_eq (V : Vw) (now span : Int) : V.late now span = (upTo 32).filterMap fun k => (V.r k).bind (lateO now span) := by
  unfold Vw.late Vw.rows
  rw [List.filterMap_filterMap]
  rfl
set_option maxHeartbeats 1000000 in
theorem rutterref10_Store_Late.c (hV : V.Ok) (h : RefAt w q V) (now span : Int) (hnow : -9223372036854775808 ≤ now ∧ now ≤ 9223372036854775807) : Calls Try.prog rutterref10_Store_Late.id #[.pointer (some ⟨q, 0, none⟩), .int .i64 now, .int .i64 span] w (retP fun v w' => Ow chgC 68 w.heap.size w' v (V.late now span) ∧ Ext w w') := by
  apply rutterref10_Store_Late.sound
  unfold rutterref10_Store_Late.sh
  rw [late_eq]
  have h' := blk_of0 h
  refine loop_g (γ := Nat × Value) (fun g st w' => st = [g.2, .int .i64 (g.1 : Int)] ∧ Ext w w' ∧ Ow chgC 68 w.heap.size w' g.2 (((upTo 32).take g.1).filterMap fun k => (V.r k).bind (lateO now span))) (fun g => 32 - g.1) (0, .slice none 0 0) ⟨rfl, .refl _, Ow.nil⟩ ?_
  rintro ⟨i, out⟩ st w2 next ⟨rfl, hE, hO⟩ hn
  simp only at hO
  have h2 := hE.blkS h'
  by_cases hi : i < 32
  · have d0 : ((i : Int) < 32) := by omega
    have d00 : ((i : Int) < ((32 : Nat) : Int)) := by omega
    have d1 : (0 : Int) ≤ (i : Int) := by omega
    have ew : IntKind.i64.wrap ((i : Int) + 1) = ((i + 1 : Nat) : Int) := by rw [wrap_64 (by omega) (by omega)]; simp
    have e3 : 16 + i * 9 + 9 ≤ 304 := by omega
    have r4 := (rowcells (V := V) hi).2.2.2
    have hst := rows_step hi (f := fun k => (V.r k).bind (lateO now span))
    rcases Vw.at_cases hV i with ⟨g1, g2⟩ | ⟨x, g1, g2, g3, g4, g5⟩
    · rw [g2] at r4
      have r4' : (refArr V)[16 + i * 9 + 7]? = some (.int .i64 0) := r4
      simp -dsimp (disch := first | omega | assumption | ((simp only [World.size_alloc, size_setRow, List.size_toArray, List.length_cons, List.length_nil, cells_agg, len_enc, cells_int, cells_bool, cells_slice, cells_ptr, cells_string]) <;> omega) | ((repeat (first | with_reducible exact Ext.refl _ | with_reducible assumption | with_reducible apply Ext.alloc | with_reducible apply Ext.drew | (with_reducible refine Ext.setRow ?_ (by (try simp only [World.size_alloc]); omega) _) | (with_reducible refine Ext.tr ?_ (by assumption)))); done) | fail) only [go_sem, jn_r, Nat.reduceAdd, Nat.reduceLeDiff, Nat.reduceMul, Int.reduceToNat, Nat.reduceEqDiff, Nat.reduceLT, Int.reduceBEq, Int.reduceBNe, Int.reduceLT, Int.reduceLE, Int.reduceAdd, Int.reduceSub, Int.reduceMul, Int.reduceDiv, Int.reduceMod, Int.reduceNeg, d0, d00, d1, h2, r4', Int.toNat_natCast, ew]
      refine hn (i + 1, out) _ _ ⟨rfl, hE, ?_⟩ (by simp; omega)
      simp only
      rw [hst, g1]
      simpa using hO
    · rw [g2] at r4
      have hrow : agx (refArr V) (16 + i * 9) 9 = x.v := by rw [refArr_row hi, g2]
      have e5 : (x.ver == 0) = false := by simp; omega
      simp -dsimp (disch := first | omega | assumption | ((simp only [World.size_alloc, size_setRow, List.size_toArray, List.length_cons, List.length_nil, cells_agg, len_enc, cells_int, cells_bool, cells_slice, cells_ptr, cells_string]) <;> omega) | ((repeat (first | with_reducible exact Ext.refl _ | with_reducible assumption | with_reducible apply Ext.alloc | with_reducible apply Ext.drew | (with_reducible refine Ext.setRow ?_ (by (try simp only [World.size_alloc]); omega) _) | (with_reducible refine Ext.tr ?_ (by assumption)))); done) | fail) only [go_sem, jn_r, Nat.reduceAdd, Nat.reduceLeDiff, Nat.reduceMul, Int.reduceToNat, Nat.reduceEqDiff, Nat.reduceLT, Int.reduceBEq, Int.reduceBNe, Int.reduceLT, Int.reduceLE, Int.reduceAdd, Int.reduceSub, Int.reduceMul, Int.reduceDiv, Int.reduceMod, Int.reduceNeg, d0, d00, d1, h2, r4, Int.toNat_natCast, e5, e3, hrow]
      refine callM (rutterref09_Late.c _ x now span g4 hnow) ?_
      rintro _ w3 ⟨rfl, hx3⟩
      have h3 := hx3.blkS h2
      have hq3 := blk_lt h3
      have hO3 := hO.ext hx3
      have hE3 := hE.tr hx3
      have hlO : lateO now span x = if (lateR x now span).2 then some ((lateR x now span).1, x.ver) else none := rfl
      obtain ⟨y, hy⟩ : ∃ y, (lateR x now span).1 = y := ⟨_, rfl⟩
      rw [hy] at hlO ⊢
      rw [g1] at hst
      cases hl : (lateR x now span).2 with
      | true =>
        rw [hl, if_pos rfl] at hlO
        unfold Rw.v
        simp -dsimp (disch := first | omega | assumption | ((simp only [World.size_alloc, size_setRow, List.size_toArray, List.length_cons, List.length_nil, cells_agg, len_enc, cells_int, cells_bool, cells_slice, cells_ptr, cells_string]) <;> omega) | ((repeat (first | with_reducible exact Ext.refl _ | with_reducible assumption | with_reducible apply Ext.alloc | with_reducible apply Ext.drew | (with_reducible refine Ext.setRow ?_ (by (try simp only [World.size_alloc]); omega) _) | (with_reducible refine Ext.tr ?_ (by assumption)))); done) | fail) only [go_sem, jn_r, Nat.reduceAdd, Nat.reduceLeDiff, Nat.reduceMul, Int.reduceToNat, Nat.reduceEqDiff, Nat.reduceLT, Int.reduceBEq, Int.reduceBNe, Int.reduceLT, Int.reduceLE, Int.reduceAdd, Int.reduceSub, Int.reduceMul, Int.reduceDiv, Int.reduceMod, Int.reduceNeg, d00, d1, h3, r4, Int.toNat_natCast, bd_68_0_1]
        refine ap_ow (m := [(y, x.ver)]) (hO3.ext (by (repeat (first | with_reducible exact Ext.refl _ | with_reducible assumption | with_reducible apply Ext.alloc | with_reducible apply Ext.drew | (with_reducible refine Ext.setRow ?_ (by (try simp only [World.size_alloc]); omega) _) | (with_reducible refine Ext.tr ?_ (by assumption)))))) (Sl.lit (C := chgC) (l := [(y, x.ver)]) (by simp -dsimp (disch := first | omega | assumption | ((simp only [World.size_alloc, size_setRow, List.size_toArray, List.length_cons, List.length_nil, cells_agg, len_enc, cells_int, cells_bool, cells_slice, cells_ptr, cells_string]) <;> omega) | ((repeat (first | with_reducible exact Ext.refl _ | with_reducible assumption | with_reducible apply Ext.alloc | with_reducible apply Ext.drew | (with_reducible refine Ext.setRow ?_ (by (try simp only [World.size_alloc]); omega) _) | (with_reducible refine Ext.tr ?_ (by assumption)))); done) | fail) only [go_sem, jn_r, Nat.reduceAdd, Nat.reduceLeDiff, Nat.reduceMul, Int.reduceToNat, Nat.reduceEqDiff, Nat.reduceLT, Int.reduceBEq, Int.reduceBNe, Int.reduceLT, Int.reduceLE, Int.reduceAdd, Int.reduceSub, Int.reduceMul, Int.reduceDiv, Int.reduceMod, Int.reduceNeg]; exact blk_new rfl) rfl (by simp; rfl)).from (w0 := w) (by (repeat (first | with_reducible exact Ext.refl _ | with_reducible assumption | with_reducible apply Ext.alloc | with_reducible apply Ext.drew | (with_reducible refine Ext.setRow ?_ (by (try simp only [World.size_alloc]); omega) _) | (with_reducible refine Ext.tr ?_ (by assumption))))) rfl (by have := rows_short (i := i) (f := fun k => (V.r k).bind (lateO now span)); simp; omega) ?_
        intro v' w' k1 k2 _ _
        simp -dsimp (disch := first | omega | assumption | ((simp only [World.size_alloc, size_setRow, List.size_toArray, List.length_cons, List.length_nil, cells_agg, len_enc, cells_int, cells_bool, cells_slice, cells_ptr, cells_string]) <;> omega) | ((repeat (first | with_reducible exact Ext.refl _ | with_reducible assumption | with_reducible apply Ext.alloc | with_reducible apply Ext.drew | (with_reducible refine Ext.setRow ?_ (by (try simp only [World.size_alloc]); omega) _) | (with_reducible refine Ext.tr ?_ (by assumption)))); done) | fail) only [go_sem, jn_r, Nat.reduceAdd, Nat.reduceLeDiff, Nat.reduceMul, Int.reduceToNat, Nat.reduceEqDiff, Nat.reduceLT, Int.reduceBEq, Int.reduceBNe, Int.reduceLT, Int.reduceLE, Int.reduceAdd, Int.reduceSub, Int.reduceMul, Int.reduceDiv, Int.reduceMod, Int.reduceNeg, ew]
        refine hn (i + 1, v') _ _ ⟨rfl, k2, ?_⟩ (by simp; omega)
        simp only
        rw [hst]
        simp only [Option.bind_some, hlO]
        exact k1
      | false =>
        rw [hl, if_neg (by decide)] at hlO
        unfold Rw.v
        simp -dsimp (disch := first | omega | assumption | ((simp only [World.size_alloc, size_setRow, List.size_toArray, List.length_cons, List.length_nil, cells_agg, len_enc, cells_int, cells_bool, cells_slice, cells_ptr, cells_string]) <;> omega) | ((repeat (first | with_reducible exact Ext.refl _ | with_reducible assumption | with_reducible apply Ext.alloc | with_reducible apply Ext.drew | (with_reducible refine Ext.setRow ?_ (by (try simp only [World.size_alloc]); omega) _) | (with_reducible refine Ext.tr ?_ (by assumption)))); done) | fail) only [go_sem, jn_r, Nat.reduceAdd, Nat.reduceLeDiff, Nat.reduceMul, Int.reduceToNat, Nat.reduceEqDiff, Nat.reduceLT, Int.reduceBEq, Int.reduceBNe, Int.reduceLT, Int.reduceLE, Int.reduceAdd, Int.reduceSub, Int.reduceMul, Int.reduceDiv, Int.reduceMod, Int.reduceNeg, ew]
        refine hn (i + 1, out) _ _ ⟨rfl, by (repeat (first | with_reducible exact Ext.refl _ | with_reducible assumption | with_reducible apply Ext.alloc | with_reducible apply Ext.drew | (with_reducible refine Ext.setRow ?_ (by (try simp only [World.size_alloc]); omega) _) | (with_reducible refine Ext.tr ?_ (by assumption)))), ?_⟩ (by simp; omega)
        simp only
        rw [hst]
        simp only [Option.bind_some, hlO, Option.toList_none, List.append_nil]
        exact hO3.ext (by (repeat (first | with_reducible exact Ext.refl _ | with_reducible assumption | with_reducible apply Ext.alloc | with_reducible apply Ext.drew | (with_reducible refine Ext.setRow ?_ (by (try simp only [World.size_alloc]); omega) _) | (with_reducible refine Ext.tr ?_ (by assumption)))))
  · have d0 : ¬ ((i : Int) < 32) := by omega
    rw [List.take_of_length_le (by rw [upTo_len]; omega)] at hO
    simp -dsimp (disch := first | omega | assumption | ((simp only [World.size_alloc, size_setRow, List.size_toArray, List.length_cons, List.length_nil, cells_agg, len_enc, cells_int, cells_bool, cells_slice, cells_ptr, cells_string]) <;> omega) | ((repeat (first | with_reducible exact Ext.refl _ | with_reducible assumption | with_reducible apply Ext.alloc | with_reducible apply Ext.drew | (with_reducible refine Ext.setRow ?_ (by (try simp only [World.size_alloc]); omega) _) | (with_reducible refine Ext.tr ?_ (by assumption)))); done) | fail) only [go_sem, jn_r, Nat.reduceAdd, Nat.reduceLeDiff, Nat.reduceMul, Int.reduceToNat, Nat.reduceEqDiff, Nat.reduceLT, Int.reduceBEq, Int.reduceBNe, Int.reduceLT, Int.reduceLE, Int.reduceAdd, Int.reduceSub, Int.reduceMul, Int.reduceDiv, Int.reduceMod, Int.reduceNeg, d0]
    exact ⟨hO, hE⟩
end
end Go.Proofs.Ytbkgijnmckchbaa
