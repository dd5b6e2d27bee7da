/- rows; what they are compiled to; which may stand. -/
import Derived.Test.YtldjhbmccnbciaaFq
namespace Go.Proofs.Ytldjhbmccnbciaa
open Go
set_option linter.unusedSimpArgs false
set_option linter.unusedVariables false
structure Rw where
  port : Int
  mac : Int
  owner : Int
  target : Int
  old : Int
  gen : Int
  phase : Int
  ver : Int
  since : Int
deriving DecidableEq
def Rw.enc (r : Rw) : List Value := [.int .i64 r.port, .int .u64 r.mac, .int .i64 r.owner, .int .i64 r.target, .int .i64 r.old, .int .i64 r.gen, .int .i64 r.phase, .int .i64 r.ver, .int .i64 r.since]
def rowC : Cdc Rw 9 := ⟨Rw.enc, fun _ => rfl, fun e u hu => by simp only [Rw.enc, List.mem_cons, List.not_mem_nil, or_false] at hu; rcases hu with rfl | rfl | rfl | rfl | rfl | rfl | rfl | rfl | rfl <;> rfl, by decide⟩
def Rw.v (r : Rw) : Value := .agg #[.int .i64 r.port, .int .u64 r.mac, .int .i64 r.owner, .int .i64 r.target, .int .i64 r.old, .int .i64 r.gen, .int .i64 r.phase, .int .i64 r.ver, .int .i64 r.since]
def Rw.ent (r : Rw) (ins nt kind : Int) : Ent := ⟨1, ins, r.mac, r.port, 0, r.gen, nt, kind, r.port, r.owner, r.gen⟩
theorem bind_entry.c (w : World) (r : Rw) (ins nt kind : Int) : Calls Try.prog bind_entry.id #[r.v, .int .i64 ins, .int .i64 nt, .int .i64 kind] w (retP fun v w' => v = (r.ent ins nt kind).v ∧ Ext w w') := by
  apply bind_entry.sound
  unfold bind_entry.sh Rw.v
  simp -dsimp (disch := first | omega | assumption | ((simp only [World.size_alloc, size_setRow, List.size_toArray, List.length_cons, List.length_nil, cells_agg, len_enc, cells_int, cells_bool, cells_slice, cells_ptr, cells_string]) <;> omega) | ((repeat (first | with_reducible exact Ext.refl _ | with_reducible assumption | with_reducible apply Ext.alloc | with_reducible apply Ext.drew | (with_reducible refine Ext.setRow ?_ (by (try simp only [World.size_alloc]); omega) _) | (with_reducible refine Ext.tr ?_ (by assumption)))); done) | fail) only [go_sem, jn_r, Nat.reduceAdd, Nat.reduceLeDiff, Nat.reduceMul, Int.reduceToNat, Nat.reduceEqDiff, Nat.reduceLT, Int.reduceBEq, Int.reduceBNe, Int.reduceLT, Int.reduceLE, Int.reduceAdd, Int.reduceSub, Int.reduceMul, Int.reduceDiv, Int.reduceMod, Int.reduceNeg]
  exact ⟨rfl, by (repeat (first | with_reducible exact Ext.refl _ | with_reducible assumption | with_reducible apply Ext.alloc | with_reducible apply Ext.drew | (with_reducible refine Ext.setRow ?_ (by (try simp only [World.size_alloc]); omega) _) | (with_reducible refine Ext.tr ?_ (by assumption))))⟩
/-- what a row is compiled to, at a chassis -/
def rowE (c : Int) (r : Rw) : List Ent := if r.phase = 3 then [] else if r.owner = c then [r.ent 7 (-2) 1] else r.ent 1 (-2) 2 :: (if r.phase = 2 ∧ r.old = c then [r.ent 2 r.owner 2] else [])
theorem rowE_len (c : Int) (r : Rw) : (rowE c r).length ≤ 2 := by
  unfold rowE
  repeat' split
  all_goals simp
theorem compile_len (c : Int) (l : List Rw) : (l.flatMap (rowE c)).length ≤ 2 * l.length := by
  induction l with
  | nil => simp
  | cons r l ih => have := rowE_len c r; simp at ih ⊢; omega
theorem rowC_v (r : Rw) : Value.agg (rowC.enc r).toArray = r.v := rfl
theorem entC_enc (e : Ent) : entC.enc e = e.enc := rfl
theorem bind_Compile.c (w : World) (c : Int) (v : Value) (l : List Rw) (hs : Sl rowC w v l) (hl : l.length ≤ 10000) :
    Calls Try.prog bind_Compile.id #[.int .i64 c, v] w (retP fun r w' => Ow entC 70 w.heap.size w' r (l.flatMap (rowE c)) ∧ Ext w w') := by
  apply bind_Compile.sound
  unfold bind_Compile.sh
  obtain ⟨a, cc, rfl⟩ := hs.form
  simp -dsimp (disch := first | omega | assumption | ((simp only [World.size_alloc, size_setRow, List.size_toArray, List.length_cons, List.length_nil, cells_agg, len_enc, cells_int, cells_bool, cells_slice, cells_ptr, cells_string]) <;> omega) | ((repeat (first | with_reducible exact Ext.refl _ | with_reducible assumption | with_reducible apply Ext.alloc | with_reducible apply Ext.drew | (with_reducible refine Ext.setRow ?_ (by (try simp only [World.size_alloc]); omega) _) | (with_reducible refine Ext.tr ?_ (by assumption)))); done) | fail) only [go_sem, jn_r, Nat.reduceAdd, Nat.reduceLeDiff, Nat.reduceMul, Int.reduceToNat, Nat.reduceEqDiff, Nat.reduceLT, Int.reduceBEq, Int.reduceBNe, Int.reduceLT, Int.reduceLE, Int.reduceAdd, Int.reduceSub, Int.reduceMul, Int.reduceDiv, Int.reduceMod, Int.reduceNeg]
  refine loop_g (γ := List Rw × List Rw × Value) (fun (X, Y, u) st w' => st = [u, .int .i64 (X.length : Int)] ∧ l = X ++ Y ∧ Ow entC 70 w.heap.size w' u (X.flatMap (rowE c)) ∧ Ext w w') (fun (X, Y, u) => Y.length) ([], l, .slice none 0 0) ⟨rfl, rfl, Ow.nil, .refl _⟩ ?_
  rintro ⟨X, Y, u⟩ st w1 next ⟨rfl, hXY, hO, hE⟩ hn
  have hXl : l.length = X.length + Y.length := by rw [hXY, List.length_append]
  have hcl := compile_len c X
  have hz1 := hE.size
  rcases Y with _ | ⟨x, Y⟩
  · have d0 : ¬ ((X.length : Int) < (l.length : Int)) := by simp at hXl; omega
    simp -dsimp (disch := first | omega | assumption | ((simp only [World.size_alloc, size_setRow, List.size_toArray, List.length_cons, List.length_nil, cells_agg, len_enc, cells_int, cells_bool, cells_slice, cells_ptr, cells_string]) <;> omega) | ((repeat (first | with_reducible exact Ext.refl _ | with_reducible assumption | with_reducible apply Ext.alloc | with_reducible apply Ext.drew | (with_reducible refine Ext.setRow ?_ (by (try simp only [World.size_alloc]); omega) _) | (with_reducible refine Ext.tr ?_ (by assumption)))); done) | fail) only [go_sem, jn_r, Nat.reduceAdd, Nat.reduceLeDiff, Nat.reduceMul, Int.reduceToNat, Nat.reduceEqDiff, Nat.reduceLT, Int.reduceBEq, Int.reduceBNe, Int.reduceLT, Int.reduceLE, Int.reduceAdd, Int.reduceSub, Int.reduceMul, Int.reduceDiv, Int.reduceMod, Int.reduceNeg, d0]
    simp at hXY
    subst hXY
    exact ⟨hO, hE⟩
  simp only [List.length_cons] at hXl
  have d0 : ((X.length : Int) < (l.length : Int)) := by omega
  have d1 : (0 : Int) ≤ (X.length : Int) := by omega
  obtain ⟨b', off, c', cs, hsx, hb', hsz, hag, hj⟩ := (hs.ext hE).at (i := X.length) (x := x) (by rw [hXY]; simp)
  cases hsx
  rw [rowC_v] at hag
  unfold Rw.v at hag
  have next' : ∀ w2 u2, Ow entC 70 w.heap.size w2 u2 (X.flatMap (rowE c) ++ rowE c x) → Ext w w2 → next [u2, .int .i64 ((X.length : Int) + 1)] w2 := fun w2 u2 h1 h2 =>
    hn (X ++ [x], Y, u2) _ _ ⟨by simp, by rw [hXY]; simp, by simpa using h1, h2⟩ (by simp)
  have one : ∀ (w2 w0 : World) (u2 : Value) (L : List Ent) (e : Ent) (K : Value → World → Prop), Ow entC 70 w.heap.size w2 u2 L → Ext w w2 → L.length ≤ 100000 → (∀ v' w', Ow entC 70 w.heap.size w' v' (L ++ [e]) → Ext w w' → w2.grownBy w' u2.ownBlock → K v' w') →
      o (bs 22 1 #[(0, e.v)]) w2 fun t18 w => o (ap #[22, 22] 22 #[false, false] u2 t18) w K := by
    intro w2 w0 u2 L e K h1 h2 h3 h4
    unfold Ent.v
    simp -dsimp (disch := first | omega | assumption | ((simp only [World.size_alloc, size_setRow, List.size_toArray, List.length_cons, List.length_nil, cells_agg, len_enc, cells_int, cells_bool, cells_slice, cells_ptr, cells_string]) <;> omega) | ((repeat (first | with_reducible exact Ext.refl _ | with_reducible assumption | with_reducible apply Ext.alloc | with_reducible apply Ext.drew | (with_reducible refine Ext.setRow ?_ (by (try simp only [World.size_alloc]); omega) _) | (with_reducible refine Ext.tr ?_ (by assumption)))); done) | fail) only [go_sem, jn_r, Nat.reduceAdd, Nat.reduceLeDiff, Nat.reduceMul, Int.reduceToNat, Nat.reduceEqDiff, Nat.reduceLT, Int.reduceBEq, Int.reduceBNe, Int.reduceLT, Int.reduceLE, Int.reduceAdd, Int.reduceSub, Int.reduceMul, Int.reduceDiv, Int.reduceMod, Int.reduceNeg]
    refine ap_at (l := L) (m := [e]) (h1.ext (by (repeat (first | with_reducible exact Ext.refl _ | with_reducible assumption | with_reducible apply Ext.alloc | with_reducible apply Ext.drew | (with_reducible refine Ext.setRow ?_ (by (try simp only [World.size_alloc]); omega) _) | (with_reducible refine Ext.tr ?_ (by assumption)))))) (one_from (by rw [entC_enc]; exact blk_new rfl)) (by have := h2.size; simp; omega) (by simp; omega) fun v' w' g1 g2 _ _ => ?_
    refine h4 v' w' g1 (Ext.grown (Ext.tr (by (repeat (first | with_reducible exact Ext.refl _ | with_reducible assumption | with_reducible apply Ext.alloc | with_reducible apply Ext.drew | (with_reducible refine Ext.setRow ?_ (by (try simp only [World.size_alloc]); omega) _) | (with_reducible refine Ext.tr ?_ (by assumption))))) (Ext.alloc (Ext.refl w2) _)) g2 fun b hb => (h1.lt hb).1) ?_
    exact ⟨g2.os, g2.tape, g2.output, Nat.le_trans (by simp) g2.size, fun b hb hne => (g2.block b (by simp; omega) hne).trans (heap_alloc_old w2 _ hb)⟩
  by_cases hp : x.phase = 3
  · have e1 : (x.phase == 3) = true := by simp [hp]
    simp -dsimp (disch := first | omega | assumption | ((simp only [World.size_alloc, size_setRow, List.size_toArray, List.length_cons, List.length_nil, cells_agg, len_enc, cells_int, cells_bool, cells_slice, cells_ptr, cells_string]) <;> omega) | ((repeat (first | with_reducible exact Ext.refl _ | with_reducible assumption | with_reducible apply Ext.alloc | with_reducible apply Ext.drew | (with_reducible refine Ext.setRow ?_ (by (try simp only [World.size_alloc]); omega) _) | (with_reducible refine Ext.tr ?_ (by assumption)))); done) | fail) only [go_sem, jn_r, Nat.reduceAdd, Nat.reduceLeDiff, Nat.reduceMul, Int.reduceToNat, Nat.reduceEqDiff, Nat.reduceLT, Int.reduceBEq, Int.reduceBNe, Int.reduceLT, Int.reduceLE, Int.reduceAdd, Int.reduceSub, Int.reduceMul, Int.reduceDiv, Int.reduceMod, Int.reduceNeg, d0, d1, hb', hsz, hag, Int.toNat_natCast, e1]
    exact next' _ _ (by simpa [rowE, hp] using hO.ext (by (repeat (first | with_reducible exact Ext.refl _ | with_reducible assumption | with_reducible apply Ext.alloc | with_reducible apply Ext.drew | (with_reducible refine Ext.setRow ?_ (by (try simp only [World.size_alloc]); omega) _) | (with_reducible refine Ext.tr ?_ (by assumption)))))) (by (repeat (first | with_reducible exact Ext.refl _ | with_reducible assumption | with_reducible apply Ext.alloc | with_reducible apply Ext.drew | (with_reducible refine Ext.setRow ?_ (by (try simp only [World.size_alloc]); omega) _) | (with_reducible refine Ext.tr ?_ (by assumption)))))
  have e1 : (x.phase == 3) = false := by simp [hp]
  by_cases ho : x.owner = c
  · have e2 : (x.owner == c) = true := by simp [ho]
    simp -dsimp (disch := first | omega | assumption | ((simp only [World.size_alloc, size_setRow, List.size_toArray, List.length_cons, List.length_nil, cells_agg, len_enc, cells_int, cells_bool, cells_slice, cells_ptr, cells_string]) <;> omega) | ((repeat (first | with_reducible exact Ext.refl _ | with_reducible assumption | with_reducible apply Ext.alloc | with_reducible apply Ext.drew | (with_reducible refine Ext.setRow ?_ (by (try simp only [World.size_alloc]); omega) _) | (with_reducible refine Ext.tr ?_ (by assumption)))); done) | fail) only [go_sem, jn_r, Nat.reduceAdd, Nat.reduceLeDiff, Nat.reduceMul, Int.reduceToNat, Nat.reduceEqDiff, Nat.reduceLT, Int.reduceBEq, Int.reduceBNe, Int.reduceLT, Int.reduceLE, Int.reduceAdd, Int.reduceSub, Int.reduceMul, Int.reduceDiv, Int.reduceMod, Int.reduceNeg, d0, d1, hb', hsz, hag, Int.toNat_natCast, e1, e2]
    refine callM (bind_entry.c _ x 7 (-2) 1) ?_
    rintro _ w2 ⟨rfl, hx2⟩
    have hE2 : Ext w w2 := Ext.tr (by (repeat (first | with_reducible exact Ext.refl _ | with_reducible assumption | with_reducible apply Ext.alloc | with_reducible apply Ext.drew | (with_reducible refine Ext.setRow ?_ (by (try simp only [World.size_alloc]); omega) _) | (with_reducible refine Ext.tr ?_ (by assumption))))) hx2
    refine one w2 w u _ _ _ (hO.ext (Ext.tr (by (repeat (first | with_reducible exact Ext.refl _ | with_reducible assumption | with_reducible apply Ext.alloc | with_reducible apply Ext.drew | (with_reducible refine Ext.setRow ?_ (by (try simp only [World.size_alloc]); omega) _) | (with_reducible refine Ext.tr ?_ (by assumption))))) hx2)) hE2 (by omega) fun v' w' g1 g2 _ => ?_
    simp -dsimp (disch := first | omega | assumption | ((simp only [World.size_alloc, size_setRow, List.size_toArray, List.length_cons, List.length_nil, cells_agg, len_enc, cells_int, cells_bool, cells_slice, cells_ptr, cells_string]) <;> omega) | ((repeat (first | with_reducible exact Ext.refl _ | with_reducible assumption | with_reducible apply Ext.alloc | with_reducible apply Ext.drew | (with_reducible refine Ext.setRow ?_ (by (try simp only [World.size_alloc]); omega) _) | (with_reducible refine Ext.tr ?_ (by assumption)))); done) | fail) only [go_sem, jn_r, Nat.reduceAdd, Nat.reduceLeDiff, Nat.reduceMul, Int.reduceToNat, Nat.reduceEqDiff, Nat.reduceLT, Int.reduceBEq, Int.reduceBNe, Int.reduceLT, Int.reduceLE, Int.reduceAdd, Int.reduceSub, Int.reduceMul, Int.reduceDiv, Int.reduceMod, Int.reduceNeg]
    exact next' _ _ (by simpa [rowE, hp, ho] using g1) g2
  · have e2 : (x.owner == c) = false := by simp [ho]
    simp -dsimp (disch := first | omega | assumption | ((simp only [World.size_alloc, size_setRow, List.size_toArray, List.length_cons, List.length_nil, cells_agg, len_enc, cells_int, cells_bool, cells_slice, cells_ptr, cells_string]) <;> omega) | ((repeat (first | with_reducible exact Ext.refl _ | with_reducible assumption | with_reducible apply Ext.alloc | with_reducible apply Ext.drew | (with_reducible refine Ext.setRow ?_ (by (try simp only [World.size_alloc]); omega) _) | (with_reducible refine Ext.tr ?_ (by assumption)))); done) | fail) only [go_sem, jn_r, Nat.reduceAdd, Nat.reduceLeDiff, Nat.reduceMul, Int.reduceToNat, Nat.reduceEqDiff, Nat.reduceLT, Int.reduceBEq, Int.reduceBNe, Int.reduceLT, Int.reduceLE, Int.reduceAdd, Int.reduceSub, Int.reduceMul, Int.reduceDiv, Int.reduceMod, Int.reduceNeg, d0, d1, hb', hsz, hag, Int.toNat_natCast, e1, e2]
    refine callM (bind_entry.c _ x 1 (-2) 2) ?_
    rintro _ w2 ⟨rfl, hx2⟩
    have hz2 := hx2.size
    simp only [World.size_alloc, size_setRow] at hz2
    have hE2 : Ext w w2 := Ext.tr (by (repeat (first | with_reducible exact Ext.refl _ | with_reducible assumption | with_reducible apply Ext.alloc | with_reducible apply Ext.drew | (with_reducible refine Ext.setRow ?_ (by (try simp only [World.size_alloc]); omega) _) | (with_reducible refine Ext.tr ?_ (by assumption))))) hx2
    have b2 : blk w2 w1.heap.size = some #[.int .i64 x.port, .int .u64 x.mac, .int .i64 x.owner, .int .i64 x.target, .int .i64 x.old, .int .i64 x.gen, .int .i64 x.phase, .int .i64 x.ver, .int .i64 x.since] := hx2.blkS (by simp -dsimp (disch := first | omega | assumption | ((simp only [World.size_alloc, size_setRow, List.size_toArray, List.length_cons, List.length_nil, cells_agg, len_enc, cells_int, cells_bool, cells_slice, cells_ptr, cells_string]) <;> omega) | ((repeat (first | with_reducible exact Ext.refl _ | with_reducible assumption | with_reducible apply Ext.alloc | with_reducible apply Ext.drew | (with_reducible refine Ext.setRow ?_ (by (try simp only [World.size_alloc]); omega) _) | (with_reducible refine Ext.tr ?_ (by assumption)))); done) | fail) only [go_sem, jn_r, Nat.reduceAdd, Nat.reduceLeDiff, Nat.reduceMul, Int.reduceToNat, Nat.reduceEqDiff, Nat.reduceLT, Int.reduceBEq, Int.reduceBNe, Int.reduceLT, Int.reduceLE, Int.reduceAdd, Int.reduceSub, Int.reduceMul, Int.reduceDiv, Int.reduceMod, Int.reduceNeg])
    refine one w2 w u _ _ _ (hO.ext (Ext.tr (by (repeat (first | with_reducible exact Ext.refl _ | with_reducible assumption | with_reducible apply Ext.alloc | with_reducible apply Ext.drew | (with_reducible refine Ext.setRow ?_ (by (try simp only [World.size_alloc]); omega) _) | (with_reducible refine Ext.tr ?_ (by assumption))))) hx2)) hE2 (by omega) fun v3 w3 g1 g2 g3 => ?_
    have b3 : blk w3 w1.heap.size = _ := grown_blk g3 b2 (fun h => by have := (hO.lt h).2; omega)
    by_cases hm : x.phase = 2
    · have e3 : (x.phase == 2) = true := by simp [hm]
      by_cases hold : x.old = c
      · have e4 : (x.old == c) = true := by simp [hold]
        simp -dsimp (disch := first | omega | assumption | ((simp only [World.size_alloc, size_setRow, List.size_toArray, List.length_cons, List.length_nil, cells_agg, len_enc, cells_int, cells_bool, cells_slice, cells_ptr, cells_string]) <;> omega) | ((repeat (first | with_reducible exact Ext.refl _ | with_reducible assumption | with_reducible apply Ext.alloc | with_reducible apply Ext.drew | (with_reducible refine Ext.setRow ?_ (by (try simp only [World.size_alloc]); omega) _) | (with_reducible refine Ext.tr ?_ (by assumption)))); done) | fail) only [go_sem, jn_r, Nat.reduceAdd, Nat.reduceLeDiff, Nat.reduceMul, Int.reduceToNat, Nat.reduceEqDiff, Nat.reduceLT, Int.reduceBEq, Int.reduceBNe, Int.reduceLT, Int.reduceLE, Int.reduceAdd, Int.reduceSub, Int.reduceMul, Int.reduceDiv, Int.reduceMod, Int.reduceNeg, b3, e3, e4]
        refine callM (bind_entry.c _ x 2 x.owner 2) ?_
        rintro _ w4 ⟨rfl, hx4⟩
        refine one w4 w v3 _ _ _ (g1.ext hx4) (g2.tr hx4) (by rw [List.length_append, List.length_singleton]; omega) fun v5 w5 g4 g5 _ => ?_
        simp -dsimp (disch := first | omega | assumption | ((simp only [World.size_alloc, size_setRow, List.size_toArray, List.length_cons, List.length_nil, cells_agg, len_enc, cells_int, cells_bool, cells_slice, cells_ptr, cells_string]) <;> omega) | ((repeat (first | with_reducible exact Ext.refl _ | with_reducible assumption | with_reducible apply Ext.alloc | with_reducible apply Ext.drew | (with_reducible refine Ext.setRow ?_ (by (try simp only [World.size_alloc]); omega) _) | (with_reducible refine Ext.tr ?_ (by assumption)))); done) | fail) only [go_sem, jn_r, Nat.reduceAdd, Nat.reduceLeDiff, Nat.reduceMul, Int.reduceToNat, Nat.reduceEqDiff, Nat.reduceLT, Int.reduceBEq, Int.reduceBNe, Int.reduceLT, Int.reduceLE, Int.reduceAdd, Int.reduceSub, Int.reduceMul, Int.reduceDiv, Int.reduceMod, Int.reduceNeg]
        exact next' _ _ (by simpa [rowE, hm, ho, hold] using g4) g5
      · have e4 : (x.old == c) = false := by simp [hold]
        simp -dsimp (disch := first | omega | assumption | ((simp only [World.size_alloc, size_setRow, List.size_toArray, List.length_cons, List.length_nil, cells_agg, len_enc, cells_int, cells_bool, cells_slice, cells_ptr, cells_string]) <;> omega) | ((repeat (first | with_reducible exact Ext.refl _ | with_reducible assumption | with_reducible apply Ext.alloc | with_reducible apply Ext.drew | (with_reducible refine Ext.setRow ?_ (by (try simp only [World.size_alloc]); omega) _) | (with_reducible refine Ext.tr ?_ (by assumption)))); done) | fail) only [go_sem, jn_r, Nat.reduceAdd, Nat.reduceLeDiff, Nat.reduceMul, Int.reduceToNat, Nat.reduceEqDiff, Nat.reduceLT, Int.reduceBEq, Int.reduceBNe, Int.reduceLT, Int.reduceLE, Int.reduceAdd, Int.reduceSub, Int.reduceMul, Int.reduceDiv, Int.reduceMod, Int.reduceNeg, b3, e3, e4]
        exact next' _ _ (by simpa [rowE, hm, ho, hold] using g1) g2
    · have e3 : (x.phase == 2) = false := by simp [hm]
      simp -dsimp (disch := first | omega | assumption | ((simp only [World.size_alloc, size_setRow, List.size_toArray, List.length_cons, List.length_nil, cells_agg, len_enc, cells_int, cells_bool, cells_slice, cells_ptr, cells_string]) <;> omega) | ((repeat (first | with_reducible exact Ext.refl _ | with_reducible assumption | with_reducible apply Ext.alloc | with_reducible apply Ext.drew | (with_reducible refine Ext.setRow ?_ (by (try simp only [World.size_alloc]); omega) _) | (with_reducible refine Ext.tr ?_ (by assumption)))); done) | fail) only [go_sem, jn_r, Nat.reduceAdd, Nat.reduceLeDiff, Nat.reduceMul, Int.reduceToNat, Nat.reduceEqDiff, Nat.reduceLT, Int.reduceBEq, Int.reduceBNe, Int.reduceLT, Int.reduceLE, Int.reduceAdd, Int.reduceSub, Int.reduceMul, Int.reduceDiv, Int.reduceMod, Int.reduceNeg, b3, e3]
      exact next' _ _ (by simpa [rowE, hp, hm, ho] using g1) g2
theorem bind_Table.c (w : World) (c : Int) (v : Value) (l : List Rw) (hs : Sl rowC w v l) (hl : l.length ≤ 128) :
    Calls Try.prog bind_Table.id #[.int .i64 c, v] w (retP fun r w' => ∃ tv M, r = .tuple #[tv, .int .i64 0] ∧ St (l.flatMap (rowE c)) M ∧ TbV w' tv M ∧ Ext w w') := by
  apply bind_Table.sound
  unfold bind_Table.sh
  simp -dsimp (disch := first | omega | assumption | ((simp only [World.size_alloc, size_setRow, List.size_toArray, List.length_cons, List.length_nil, cells_agg, len_enc, cells_int, cells_bool, cells_slice, cells_ptr, cells_string]) <;> omega) | ((repeat (first | with_reducible exact Ext.refl _ | with_reducible assumption | with_reducible apply Ext.alloc | with_reducible apply Ext.drew | (with_reducible refine Ext.setRow ?_ (by (try simp only [World.size_alloc]); omega) _) | (with_reducible refine Ext.tr ?_ (by assumption)))); done) | fail) only [go_sem, jn_r, Nat.reduceAdd, Nat.reduceLeDiff, Nat.reduceMul, Int.reduceToNat, Nat.reduceEqDiff, Nat.reduceLT, Int.reduceBEq, Int.reduceBNe, Int.reduceLT, Int.reduceLE, Int.reduceAdd, Int.reduceSub, Int.reduceMul, Int.reduceDiv, Int.reduceMod, Int.reduceNeg]
  refine callM (bind_Compile.c w c v l hs (by omega)) ?_
  rintro v1 w1 ⟨hO, hx1⟩
  refine callM (flow_New.c w1 v1 _ hO.sl (by have := compile_len c l; omega)) ?_
  rintro _ w2 ⟨tv, M, rfl, h1, h2, hx2⟩
  simp -dsimp (disch := first | omega | assumption | ((simp only [World.size_alloc, size_setRow, List.size_toArray, List.length_cons, List.length_nil, cells_agg, len_enc, cells_int, cells_bool, cells_slice, cells_ptr, cells_string]) <;> omega) | ((repeat (first | with_reducible exact Ext.refl _ | with_reducible assumption | with_reducible apply Ext.alloc | with_reducible apply Ext.drew | (with_reducible refine Ext.setRow ?_ (by (try simp only [World.size_alloc]); omega) _) | (with_reducible refine Ext.tr ?_ (by assumption)))); done) | fail) only [go_sem, jn_r, Nat.reduceAdd, Nat.reduceLeDiff, Nat.reduceMul, Int.reduceToNat, Nat.reduceEqDiff, Nat.reduceLT, Int.reduceBEq, Int.reduceBNe, Int.reduceLT, Int.reduceLE, Int.reduceAdd, Int.reduceSub, Int.reduceMul, Int.reduceDiv, Int.reduceMod, Int.reduceNeg]
  exact ⟨tv, M, rfl, h1, h2, hx1.tr hx2⟩
end Go.Proofs.Ytldjhbmccnbciaa
