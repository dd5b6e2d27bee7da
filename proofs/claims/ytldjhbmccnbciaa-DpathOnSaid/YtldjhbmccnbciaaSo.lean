/- the stable sort of entries by rank -/
import Derived.Test.YtldjhbmccnbciaaFr
namespace Go.Proofs.Ytldjhbmccnbciaa
open Go
set_option linter.unusedSimpArgs false
set_option linter.unusedVariables false
theorem cmp_isNaN_int.c (x : Int) (w : World) : Calls Try.prog cmp_isNaN_int.id #[.int .i64 x] w (retP fun v w' => v = .bool false ∧ w' = w) := by
  apply cmp_isNaN_int.sound
  unfold cmp_isNaN_int.sh
  simp -dsimp (disch := first | omega | assumption | ((simp only [World.size_alloc, size_setRow, List.size_toArray, List.length_cons, List.length_nil, cells_agg, len_enc, cells_int, cells_bool, cells_slice, cells_ptr, cells_string]) <;> omega) | ((repeat (first | with_reducible exact Ext.refl _ | with_reducible assumption | with_reducible apply Ext.alloc | with_reducible apply Ext.drew | (with_reducible refine Ext.setRow ?_ (by (try simp only [World.size_alloc]); omega) _) | (with_reducible refine Ext.tr ?_ (by assumption)))); done) | fail) only [go_sem, jn_r, Nat.reduceAdd, Nat.reduceLeDiff, Nat.reduceMul, Int.reduceToNat, Nat.reduceEqDiff, Nat.reduceLT, Int.reduceBEq, Int.reduceBNe, Int.reduceLT, Int.reduceLE, Int.reduceAdd, Int.reduceSub, Int.reduceMul, Int.reduceDiv, Int.reduceMod, Int.reduceNeg]
  simp
theorem cmp_Compare_int.c (x y : Int) (w : World) : Calls Try.prog cmp_Compare_int.id #[.int .i64 x, .int .i64 y] w (retP fun v w' => v = .int .i64 (if x < y then -1 else if y < x then 1 else 0) ∧ w' = w) := by
  apply cmp_Compare_int.sound
  unfold cmp_Compare_int.sh
  simp -dsimp (disch := first | omega | assumption | ((simp only [World.size_alloc, size_setRow, List.size_toArray, List.length_cons, List.length_nil, cells_agg, len_enc, cells_int, cells_bool, cells_slice, cells_ptr, cells_string]) <;> omega) | ((repeat (first | with_reducible exact Ext.refl _ | with_reducible assumption | with_reducible apply Ext.alloc | with_reducible apply Ext.drew | (with_reducible refine Ext.setRow ?_ (by (try simp only [World.size_alloc]); omega) _) | (with_reducible refine Ext.tr ?_ (by assumption)))); done) | fail) only [go_sem, jn_r, Nat.reduceAdd, Nat.reduceLeDiff, Nat.reduceMul, Int.reduceToNat, Nat.reduceEqDiff, Nat.reduceLT, Int.reduceBEq, Int.reduceBNe, Int.reduceLT, Int.reduceLE, Int.reduceAdd, Int.reduceSub, Int.reduceMul, Int.reduceDiv, Int.reduceMod, Int.reduceNeg]
  refine callM (cmp_isNaN_int.c x w) ?_
  rintro _ w1 ⟨rfl, rfl⟩
  simp -dsimp (disch := first | omega | assumption | ((simp only [World.size_alloc, size_setRow, List.size_toArray, List.length_cons, List.length_nil, cells_agg, len_enc, cells_int, cells_bool, cells_slice, cells_ptr, cells_string]) <;> omega) | ((repeat (first | with_reducible exact Ext.refl _ | with_reducible assumption | with_reducible apply Ext.alloc | with_reducible apply Ext.drew | (with_reducible refine Ext.setRow ?_ (by (try simp only [World.size_alloc]); omega) _) | (with_reducible refine Ext.tr ?_ (by assumption)))); done) | fail) only [go_sem, jn_r, Nat.reduceAdd, Nat.reduceLeDiff, Nat.reduceMul, Int.reduceToNat, Nat.reduceEqDiff, Nat.reduceLT, Int.reduceBEq, Int.reduceBNe, Int.reduceLT, Int.reduceLE, Int.reduceAdd, Int.reduceSub, Int.reduceMul, Int.reduceDiv, Int.reduceMod, Int.reduceNeg]
  refine callM (cmp_isNaN_int.c y w1) ?_
  rintro _ w2 ⟨rfl, rfl⟩
  simp -dsimp (disch := first | omega | assumption | ((simp only [World.size_alloc, size_setRow, List.size_toArray, List.length_cons, List.length_nil, cells_agg, len_enc, cells_int, cells_bool, cells_slice, cells_ptr, cells_string]) <;> omega) | ((repeat (first | with_reducible exact Ext.refl _ | with_reducible assumption | with_reducible apply Ext.alloc | with_reducible apply Ext.drew | (with_reducible refine Ext.setRow ?_ (by (try simp only [World.size_alloc]); omega) _) | (with_reducible refine Ext.tr ?_ (by assumption)))); done) | fail) only [go_sem, jn_r, Nat.reduceAdd, Nat.reduceLeDiff, Nat.reduceMul, Int.reduceToNat, Nat.reduceEqDiff, Nat.reduceLT, Int.reduceBEq, Int.reduceBNe, Int.reduceLT, Int.reduceLE, Int.reduceAdd, Int.reduceSub, Int.reduceMul, Int.reduceDiv, Int.reduceMod, Int.reduceNeg]
  refine cnd_i (fun h => ?_) (fun h => ?_)
  · simp at h
    simp [h]
  · simp at h
    simp -dsimp (disch := first | omega | assumption | ((simp only [World.size_alloc, size_setRow, List.size_toArray, List.length_cons, List.length_nil, cells_agg, len_enc, cells_int, cells_bool, cells_slice, cells_ptr, cells_string]) <;> omega) | ((repeat (first | with_reducible exact Ext.refl _ | with_reducible assumption | with_reducible apply Ext.alloc | with_reducible apply Ext.drew | (with_reducible refine Ext.setRow ?_ (by (try simp only [World.size_alloc]); omega) _) | (with_reducible refine Ext.tr ?_ (by assumption)))); done) | fail) only [go_sem, jn_r, Nat.reduceAdd, Nat.reduceLeDiff, Nat.reduceMul, Int.reduceToNat, Nat.reduceEqDiff, Nat.reduceLT, Int.reduceBEq, Int.reduceBNe, Int.reduceLT, Int.reduceLE, Int.reduceAdd, Int.reduceSub, Int.reduceMul, Int.reduceDiv, Int.reduceMod, Int.reduceNeg]
    refine cnd_i (fun h' => ?_) (fun h' => ?_)
    · simp at h'
      simp [h', Int.not_lt.2 h]
    · simp at h'
      simp [Int.not_lt.2 h, Int.not_lt.2 h']
/-- the order by falling rank, as the sort asks for it -/
theorem flow_New_1.c (a b : Ent) (w : World) : Calls Try.prog flow_New_1.id #[a.v, b.v] w (retP fun v w' => (∃ n : Int, v = .int .i64 n ∧ (n < 0 ↔ a.prio > b.prio)) ∧ Ext w w') := by
  apply flow_New_1.sound
  unfold flow_New_1.sh Ent.v
  simp -dsimp (disch := first | omega | assumption | ((simp only [World.size_alloc, size_setRow, List.size_toArray, List.length_cons, List.length_nil, cells_agg, len_enc, cells_int, cells_bool, cells_slice, cells_ptr, cells_string]) <;> omega) | ((repeat (first | with_reducible exact Ext.refl _ | with_reducible assumption | with_reducible apply Ext.alloc | with_reducible apply Ext.drew | (with_reducible refine Ext.setRow ?_ (by (try simp only [World.size_alloc]); omega) _) | (with_reducible refine Ext.tr ?_ (by assumption)))); done) | fail) only [go_sem, jn_r, Nat.reduceAdd, Nat.reduceLeDiff, Nat.reduceMul, Int.reduceToNat, Nat.reduceEqDiff, Nat.reduceLT, Int.reduceBEq, Int.reduceBNe, Int.reduceLT, Int.reduceLE, Int.reduceAdd, Int.reduceSub, Int.reduceMul, Int.reduceDiv, Int.reduceMod, Int.reduceNeg]
  refine callM (cmp_Compare_int.c b.prio a.prio _) ?_
  rintro _ w1 ⟨rfl, rfl⟩
  refine ⟨⟨_, rfl, ?_⟩, by (repeat (first | with_reducible exact Ext.refl _ | with_reducible assumption | with_reducible apply Ext.alloc | with_reducible apply Ext.drew | (with_reducible refine Ext.setRow ?_ (by (try simp only [World.size_alloc]); omega) _) | (with_reducible refine Ext.tr ?_ (by assumption))))⟩
  split
  · simp; omega
  · split <;> simp <;> omega
/-- a list, in a block of its own that may be written -/
def In {α : Type} {k : Nat} (C : Cdc α k) (g : Nat) (w : World) (l : List α) : Prop := ∃ cs rest, blk0 w g = some cs ∧ cs.toList = l.flatMap C.enc ++ rest
section inn
variable {α : Type} {k : Nat} {C : Cdc α k} {g : Nat} {w w' : World} {l : List α}
theorem spl_flat {cs : Array Value} {rest : List Value} {i : Nat} {x : α} (hc : cs.toList = l.flatMap C.enc ++ rest) (hi : i < l.length) : (spl cs (i * k) (C.enc x).toArray).toList = (l.set i x).flatMap C.enc ++ rest := by
  have e1 : l = l.take i ++ l[i] :: l.drop (i + 1) := by rw [← List.drop_eq_getElem_cons hi, List.take_append_drop]
  have hA : ((l.take i).flatMap C.enc).length = i * k := by rw [flat_len, List.length_take]; congr 1; omega
  have hx := C.len x
  have hy := C.len l[i]
  rw [List.set_eq_take_append_cons_drop, if_pos hi]
  unfold spl
  rw [hc]
  show (List.take (i * k) (l.flatMap C.enc ++ rest) ++ (C.enc x) ++ List.drop (i * k + (C.enc x).length) (l.flatMap C.enc ++ rest)) = _
  have e2 : l.flatMap C.enc = (l.take i).flatMap C.enc ++ (C.enc l[i] ++ (l.drop (i + 1)).flatMap C.enc) := by
    conv => lhs; rw [e1]
    rw [List.flatMap_append, List.flatMap_cons]
  rw [e2, List.append_assoc ((l.take i).flatMap C.enc), ← hA, List.take_left, ← List.drop_drop, List.drop_left, List.flatMap_append, List.flatMap_cons, List.append_assoc (C.enc l[i]), hx]
  have e3 := List.drop_left (l₁ := C.enc l[i]) (l₂ := (l.drop (i + 1)).flatMap C.enc ++ rest)
  rw [hy] at e3
  rw [e3]
  simp only [List.append_assoc]
theorem In.at (h : In C g w l) : ∃ cs rest, blk0 w g = some cs ∧ blk w g = some cs ∧ cs.toList = l.flatMap C.enc ++ rest := by
  obtain ⟨cs, rest, h1, h2⟩ := h
  exact ⟨cs, rest, h1, blk_of0 h1, h2⟩
theorem In.el {cs : Array Value} {rest : List Value} {i : Nat} {x : α} (hc : cs.toList = l.flatMap C.enc ++ rest) (hi : l[i]? = some x) : i * k + k ≤ cs.size ∧ agx cs (i * k) k = .agg (C.enc x).toArray := by
  have hj : ∀ (j : Nat) (u : Value), (C.enc x)[j]? = some u → cs[i * k + j]? = some u := fun j u hu => by
    have := flat_get (C := C) l hi hu
    rw [← Array.getElem?_toList, hc, List.getElem?_append_left (List.getElem?_eq_some_iff.1 this).1]
    exact this
  have hl := C.len x
  have hp := C.pos
  constructor
  · have h5 : k - 1 < (C.enc x).length := by omega
    have := (Array.getElem?_eq_some_iff.1 (hj (k - 1) _ (List.getElem?_eq_getElem h5))).1
    omega
  · have := agx_sub (l := C.enc x) (d := 0) (m := k) hj (by omega)
    rw [Nat.add_zero] at this
    rw [this, List.drop_zero, List.take_of_length_le (by omega)]
theorem In.set {cs : Array Value} {rest : List Value} {i : Nat} (x : α) (hb : blk0 w g = some cs) (hc : cs.toList = l.flatMap C.enc ++ rest) (hi : i < l.length) : In C g (w.setRow g (spl cs (i * k) (C.enc x).toArray)) (l.set i x) :=
  ⟨_, rest, by rw [blk0_setS, hb]; rfl, spl_flat hc hi⟩
end inn
/-- nothing but block g is turned -/
abbrev Only (g : Nat) (w w' : World) : Prop := w.grownBy w' (some g)
theorem Only.refl (g : Nat) (w : World) : Only g w w := ⟨rfl, rfl, rfl, Nat.le_refl _, fun _ _ _ => rfl⟩
theorem Only.tr {g : Nat} {w w1 w2 : World} (h : Only g w w1) (k : Only g w1 w2) : Only g w w2 :=
  ⟨k.os.trans h.os, k.tape.trans h.tape, k.output.trans h.output, Nat.le_trans h.size k.size, fun b hb hn => (k.block b (Nat.lt_of_lt_of_le hb h.size) hn).trans (h.block b hb hn)⟩
theorem Only.drew {g : Nat} {w w1 : World} (h : Only g w w1) : Only g w w1.drew := ⟨h.os, h.tape, h.output, h.size, h.block⟩
theorem Only.setRow {g : Nat} {w w1 : World} (h : Only g w w1) (cs : Array Value) : Only g w (w1.setRow g cs) :=
  h.tr ⟨rfl, rfl, rfl, by simp, fun b _ hn => by
    simp only [World.setRow, Array.getElem?_modify]
    rw [if_neg (fun e => hn (by rw [e]))]⟩
theorem Only.ext {g : Nat} {w w1 w2 : World} (h : Only g w w1) (k : Ext w1 w2) : Only g w w2 :=
  h.tr ⟨k.os, k.tape, k.output, k.size, fun b hb _ => k.block b hb⟩
theorem In.ext {α : Type} {k : Nat} {C : Cdc α k} {g : Nat} {w w' : World} {l : List α} (h : In C g w l) (hx : Ext w w') : In C g w' l := by
  obtain ⟨cs, rest, h1, h2⟩ := h
  exact ⟨cs, rest, by rw [hx.blk0 (blk0_lt h1)]; exact h1, h2⟩
theorem In.drew {α : Type} {k : Nat} {C : Cdc α k} {g : Nat} {w : World} {l : List α} (h : In C g w l) : In C g w.drew l := h
theorem In.get {α : Type} {k : Nat} {C : Cdc α k} {g : Nat} {w : World} {l : List α} (h : In C g w l) {i : Nat} {x : α} (hi : l[i]? = some x) : ∃ cs rest, blk0 w g = some cs ∧ blk w g = some cs ∧ cs.toList = l.flatMap C.enc ++ rest ∧ i * k + k ≤ cs.size ∧ agx cs (i * k) k = .agg (C.enc x).toArray := by
  obtain ⟨cs, rest, h1, h2, h3⟩ := h.at
  exact ⟨cs, rest, h1, h2, h3, (In.el h3 hi).1, (In.el h3 hi).2⟩
/-- two elements change places -/
theorem In.swap {α : Type} {k : Nat} {C : Cdc α k} {g : Nat} {w : World} {l : List α} {cs : Array Value} {rest : List Value} {i j : Nat} (x y : α) (h1 : blk0 w g = some cs) (h3 : cs.toList = l.flatMap C.enc ++ rest) (hi : i < l.length) (hj : j < l.length) :
    In C g (w.setRow g (spl (spl cs (i * k) (C.enc x).toArray) (j * k) (C.enc y).toArray)) ((l.set i x).set j y) := by
  rw [← setRow_twice (x := spl cs (i * k) (C.enc x).toArray)]
  exact In.set y (by rw [blk0_setS, h1]; rfl) (spl_flat h3 hi) (by simpa using hj)
theorem slices_swapRangeCmpFunc_flow_Entry.c (L A M B R : List Ent) (w : World) (g c N : Nat) (f : Value) (a b n : Nat) (hA : A.length = n) (hB : B.length = n) (ha : L.length = a) (hb : a + n + M.length = b) (hI : In entC g w (L ++ A ++ M ++ B ++ R)) (hN : (L ++ A ++ M ++ B ++ R).length = N) (hl : N ≤ 1000000) :
    Calls Try.prog slices_swapRangeCmpFunc_flow_Entry.id #[.slice (some ⟨g, 0, none⟩) N c, .int .i64 a, .int .i64 b, .int .i64 n, f] w (retP fun _ w' => In entC g w' (L ++ B ++ M ++ A ++ R) ∧ Only g w w') := by
  simp only [List.length_append] at hN
  apply slices_swapRangeCmpFunc_flow_Entry.sound
  unfold slices_swapRangeCmpFunc_flow_Entry.sh
  simp -dsimp (disch := first | omega | assumption | ((simp only [World.size_alloc, size_setRow, List.size_toArray, List.length_cons, List.length_nil, cells_agg, len_enc, cells_int, cells_bool, cells_slice, cells_ptr, cells_string]) <;> omega) | ((repeat (first | with_reducible exact Ext.refl _ | with_reducible assumption | with_reducible apply Ext.alloc | with_reducible apply Ext.drew | (with_reducible refine Ext.setRow ?_ (by (try simp only [World.size_alloc]); omega) _) | (with_reducible refine Ext.tr ?_ (by assumption)))); done) | fail) only [go_sem, jn_r, Nat.reduceAdd, Nat.reduceLeDiff, Nat.reduceMul, Int.reduceToNat, Nat.reduceEqDiff, Nat.reduceLT, Int.reduceBEq, Int.reduceBNe, Int.reduceLT, Int.reduceLE, Int.reduceAdd, Int.reduceSub, Int.reduceMul, Int.reduceDiv, Int.reduceMod, Int.reduceNeg]
  refine loop_g (γ := List Ent × List Ent × List Ent × List Ent) (fun (A1, A2, B1, B2) s w' => s = [.int .i64 A1.length] ∧ A = A1 ++ A2 ∧ B = B1 ++ B2 ∧ A1.length = B1.length ∧ Only g w w' ∧ In entC g w' (L ++ (B1 ++ A2) ++ M ++ (A1 ++ B2) ++ R)) (fun (A1, A2, B1, B2) => A2.length) ([], A, [], B) ⟨rfl, rfl, rfl, rfl, .refl _ _, by simpa using hI⟩ ?_
  rintro ⟨A1, A2, B1, B2⟩ s w1 next ⟨rfl, rfl, rfl, hi, ho, hI1⟩ hn
  simp only [List.length_append] at hA hB hN
  rcases A2 with _ | ⟨x, A2⟩
  · have hB2 : B2 = [] := List.eq_nil_of_length_eq_zero (by simp at hA; omega)
    subst hB2
    have hc' : ¬ (A1.length : Int) < (n : Int) := by simp at hA; omega
    simp -dsimp (disch := first | omega | assumption | ((simp only [World.size_alloc, size_setRow, List.size_toArray, List.length_cons, List.length_nil, cells_agg, len_enc, cells_int, cells_bool, cells_slice, cells_ptr, cells_string]) <;> omega) | ((repeat (first | with_reducible exact Ext.refl _ | with_reducible assumption | with_reducible apply Ext.alloc | with_reducible apply Ext.drew | (with_reducible refine Ext.setRow ?_ (by (try simp only [World.size_alloc]); omega) _) | (with_reducible refine Ext.tr ?_ (by assumption)))); done) | fail) only [go_sem, jn_r, Nat.reduceAdd, Nat.reduceLeDiff, Nat.reduceMul, Int.reduceToNat, Nat.reduceEqDiff, Nat.reduceLT, Int.reduceBEq, Int.reduceBNe, Int.reduceLT, Int.reduceLE, Int.reduceAdd, Int.reduceSub, Int.reduceMul, Int.reduceDiv, Int.reduceMod, Int.reduceNeg, hc']
    exact ⟨by simpa using hI1, ho⟩
  · rcases B2 with _ | ⟨y, B2⟩
    · simp at hA hB; omega
    simp only [List.length_cons] at hA hB hN
    have x1 := mid_get (X := L ++ (B1 ++ x :: A2) ++ M ++ (A1 ++ y :: B2) ++ R) (P := L ++ B1) (x := x) (Q := A2 ++ M ++ (A1 ++ y :: B2) ++ R) (i := a + A1.length) (by simp) (by simp; omega)
    have x2 := mid_get (X := L ++ (B1 ++ x :: A2) ++ M ++ (A1 ++ y :: B2) ++ R) (P := L ++ (B1 ++ x :: A2) ++ M ++ A1) (x := y) (Q := B2 ++ R) (i := b + A1.length) (by simp) (by simp; omega)
    obtain ⟨cs, rest, hb0, hb1, hcs, s1, g1⟩ := hI1.get x1
    obtain ⟨s2, g2⟩ := In.el hcs x2
    have t1 : ((a : Int) + (A1.length : Int)).toNat = a + A1.length := by omega
    have t2 : ((b : Int) + (A1.length : Int)).toNat = b + A1.length := by omega
    have l1 : (0 : Int) ≤ (a : Int) + (A1.length : Int) := by omega
    have l2 : (0 : Int) ≤ (b : Int) + (A1.length : Int) := by omega
    have l3 : (a : Int) + (A1.length : Int) < (N : Int) := by omega
    have l4 : (b : Int) + (A1.length : Int) < (N : Int) := by omega
    have hc' : (A1.length : Int) < (n : Int) := by omega
    simp -dsimp (disch := first | omega | assumption | ((simp only [World.size_alloc, size_setRow, List.size_toArray, List.length_cons, List.length_nil, cells_agg, len_enc, cells_int, cells_bool, cells_slice, cells_ptr, cells_string]) <;> omega) | ((repeat (first | with_reducible exact Ext.refl _ | with_reducible assumption | with_reducible apply Ext.alloc | with_reducible apply Ext.drew | (with_reducible refine Ext.setRow ?_ (by (try simp only [World.size_alloc]); omega) _) | (with_reducible refine Ext.tr ?_ (by assumption)))); done) | fail) only [go_sem, jn_r, Nat.reduceAdd, Nat.reduceLeDiff, Nat.reduceMul, Int.reduceToNat, Nat.reduceEqDiff, Nat.reduceLT, Int.reduceBEq, Int.reduceBNe, Int.reduceLT, Int.reduceLE, Int.reduceAdd, Int.reduceSub, Int.reduceMul, Int.reduceDiv, Int.reduceMod, Int.reduceNeg, hc', t1, t2, l1, l2, l3, l4, hb0, hb1, s1, s2, g1, g2]
    refine hn (A1 ++ [x], A2, B1 ++ [y], B2) [.int .i64 ((A1.length : Int) + 1)] _ ⟨by simp, by simp, by simp, by simp [hi], (ho.setRow _).drew, ?_⟩ (by simp)
    have h9 := In.swap (C := entC) (i := a + A1.length) (j := b + A1.length) y x hb0 hcs (by simp; omega) (by simp; omega)
    rw [mid_set (P := L ++ B1) (x := x) (Q := A2 ++ M ++ (A1 ++ y :: B2) ++ R) y (by simp) (by simp; omega),
      mid_set (P := L ++ B1 ++ y :: A2 ++ M ++ A1) (x := y) (Q := B2 ++ R) x (by simp) (by simp; omega)] at h9
    simpa using h9.drew
theorem slices_rotateCmpFunc_flow_Entry.c (L A B R : List Ent) (w : World) (g c N : Nat) (f : Value) (a m b : Nat) (ha : L.length = a) (hm : a + A.length = m) (hb : m + B.length = b) (h0 : 0 < A.length) (h1 : 0 < B.length) (hI : In entC g w (L ++ A ++ B ++ R)) (hN : (L ++ A ++ B ++ R).length = N) (hl : N ≤ 1000000) :
    Calls Try.prog slices_rotateCmpFunc_flow_Entry.id #[.slice (some ⟨g, 0, none⟩) N c, .int .i64 a, .int .i64 m, .int .i64 b, f] w (retP fun _ w' => In entC g w' (L ++ B ++ A ++ R) ∧ Only g w w') := by
  simp only [List.length_append] at hN
  apply slices_rotateCmpFunc_flow_Entry.sound
  unfold slices_rotateCmpFunc_flow_Entry.sh
  have e1 : (m : Int) - (a : Int) = (A.length : Int) := by omega
  have e2 : (b : Int) - (m : Int) = (B.length : Int) := by omega
  simp -dsimp (disch := first | omega | assumption | ((simp only [World.size_alloc, size_setRow, List.size_toArray, List.length_cons, List.length_nil, cells_agg, len_enc, cells_int, cells_bool, cells_slice, cells_ptr, cells_string]) <;> omega) | ((repeat (first | with_reducible exact Ext.refl _ | with_reducible assumption | with_reducible apply Ext.alloc | with_reducible apply Ext.drew | (with_reducible refine Ext.setRow ?_ (by (try simp only [World.size_alloc]); omega) _) | (with_reducible refine Ext.tr ?_ (by assumption)))); done) | fail) only [go_sem, jn_r, Nat.reduceAdd, Nat.reduceLeDiff, Nat.reduceMul, Int.reduceToNat, Nat.reduceEqDiff, Nat.reduceLT, Int.reduceBEq, Int.reduceBNe, Int.reduceLT, Int.reduceLE, Int.reduceAdd, Int.reduceSub, Int.reduceMul, Int.reduceDiv, Int.reduceMod, Int.reduceNeg, e1, e2]
  refine loop_g (γ := List Ent × List Ent × List Ent × List Ent) (fun (L1, A1, B1, R1) s w' => s = [.int .i64 A1.length, .int .i64 B1.length] ∧ L1.length + A1.length = m ∧ L1.length + A1.length + B1.length + R1.length = N ∧ 0 < A1.length ∧ 0 < B1.length ∧ L ++ B ++ A ++ R = L1 ++ B1 ++ A1 ++ R1 ∧ Only g w w' ∧ In entC g w' (L1 ++ A1 ++ B1 ++ R1)) (fun (L1, A1, B1, R1) => A1.length + B1.length) (L, A, B, R) ⟨rfl, by omega, by omega, h0, h1, rfl, .refl _ _, hI⟩ ?_
  rintro ⟨L1, A1, B1, R1⟩ s w1 next ⟨rfl, hm1, hN1, hA1, hB1, he, ho, hI1⟩ hn
  rcases Nat.lt_trichotomy A1.length B1.length with hlt | heq | hgt
  · have c1 : ((A1.length : Int) != (B1.length : Int)) = true := by simp; omega
    have c2 : ¬ ((B1.length : Int) < (A1.length : Int)) := by omega
    obtain ⟨X, Y, rfl, hX⟩ : ∃ X Y, B1 = X ++ Y ∧ Y.length = A1.length := ⟨B1.take (B1.length - A1.length), B1.drop (B1.length - A1.length), by simp, by simp; omega⟩
    have hXY : (X ++ Y).length = X.length + Y.length := List.length_append
    have d1 : (m : Int) - (A1.length : Int) = (L1.length : Int) := by omega
    have d2 : (m : Int) + ((X ++ Y).length : Int) - (A1.length : Int) = ((m + X.length : Nat) : Int) := by omega
    have d3 : ((X ++ Y).length : Int) - (A1.length : Int) = (X.length : Int) := by omega
    simp -dsimp (disch := first | omega | assumption | ((simp only [World.size_alloc, size_setRow, List.size_toArray, List.length_cons, List.length_nil, cells_agg, len_enc, cells_int, cells_bool, cells_slice, cells_ptr, cells_string]) <;> omega) | ((repeat (first | with_reducible exact Ext.refl _ | with_reducible assumption | with_reducible apply Ext.alloc | with_reducible apply Ext.drew | (with_reducible refine Ext.setRow ?_ (by (try simp only [World.size_alloc]); omega) _) | (with_reducible refine Ext.tr ?_ (by assumption)))); done) | fail) only [go_sem, jn_r, Nat.reduceAdd, Nat.reduceLeDiff, Nat.reduceMul, Int.reduceToNat, Nat.reduceEqDiff, Nat.reduceLT, Int.reduceBEq, Int.reduceBNe, Int.reduceLT, Int.reduceLE, Int.reduceAdd, Int.reduceSub, Int.reduceMul, Int.reduceDiv, Int.reduceMod, Int.reduceNeg, c1, c2, d1, d2, d3]
    refine callM (slices_swapRangeCmpFunc_flow_Entry.c L1 A1 X Y R1 w1 g c N f L1.length (m + X.length) A1.length rfl hX rfl (by omega) (by simpa using hI1) (by simp; omega) hl) ?_
    rintro _ w2 ⟨hI2, ho2⟩
    exact hn (L1, Y, X, A1 ++ R1) [.int .i64 A1.length, .int .i64 X.length] _ ⟨by simp [hX], by omega, by simp; omega, by omega, by omega, by rw [he]; simp, ho.tr ho2, by simpa using hI2⟩ (by simp; omega)
  · have c1 : ((A1.length : Int) != (B1.length : Int)) = false := by simp [heq]
    have d1 : (m : Int) - (A1.length : Int) = (L1.length : Int) := by omega
    simp -dsimp (disch := first | omega | assumption | ((simp only [World.size_alloc, size_setRow, List.size_toArray, List.length_cons, List.length_nil, cells_agg, len_enc, cells_int, cells_bool, cells_slice, cells_ptr, cells_string]) <;> omega) | ((repeat (first | with_reducible exact Ext.refl _ | with_reducible assumption | with_reducible apply Ext.alloc | with_reducible apply Ext.drew | (with_reducible refine Ext.setRow ?_ (by (try simp only [World.size_alloc]); omega) _) | (with_reducible refine Ext.tr ?_ (by assumption)))); done) | fail) only [go_sem, jn_r, Nat.reduceAdd, Nat.reduceLeDiff, Nat.reduceMul, Int.reduceToNat, Nat.reduceEqDiff, Nat.reduceLT, Int.reduceBEq, Int.reduceBNe, Int.reduceLT, Int.reduceLE, Int.reduceAdd, Int.reduceSub, Int.reduceMul, Int.reduceDiv, Int.reduceMod, Int.reduceNeg, c1, d1]
    refine callM (slices_swapRangeCmpFunc_flow_Entry.c L1 A1 [] B1 R1 w1 g c N f L1.length m A1.length rfl heq.symm rfl (by simp; omega) (by simpa using hI1) (by simp; omega) hl) ?_
    rintro _ w2 ⟨hI2, ho2⟩
    rw [he]
    exact ⟨by simpa using hI2, ho.tr ho2⟩
  · have c1 : ((A1.length : Int) != (B1.length : Int)) = true := by simp; omega
    have c2 : ((B1.length : Int) < (A1.length : Int)) := by omega
    obtain ⟨X, Y, rfl, hX⟩ : ∃ X Y, A1 = X ++ Y ∧ X.length = B1.length := ⟨A1.take B1.length, A1.drop B1.length, by simp, by simp; omega⟩
    have hXY : (X ++ Y).length = X.length + Y.length := List.length_append
    have d1 : (m : Int) - ((X ++ Y).length : Int) = (L1.length : Int) := by omega
    have d3 : ((X ++ Y).length : Int) - (B1.length : Int) = (Y.length : Int) := by omega
    simp -dsimp (disch := first | omega | assumption | ((simp only [World.size_alloc, size_setRow, List.size_toArray, List.length_cons, List.length_nil, cells_agg, len_enc, cells_int, cells_bool, cells_slice, cells_ptr, cells_string]) <;> omega) | ((repeat (first | with_reducible exact Ext.refl _ | with_reducible assumption | with_reducible apply Ext.alloc | with_reducible apply Ext.drew | (with_reducible refine Ext.setRow ?_ (by (try simp only [World.size_alloc]); omega) _) | (with_reducible refine Ext.tr ?_ (by assumption)))); done) | fail) only [go_sem, jn_r, Nat.reduceAdd, Nat.reduceLeDiff, Nat.reduceMul, Int.reduceToNat, Nat.reduceEqDiff, Nat.reduceLT, Int.reduceBEq, Int.reduceBNe, Int.reduceLT, Int.reduceLE, Int.reduceAdd, Int.reduceSub, Int.reduceMul, Int.reduceDiv, Int.reduceMod, Int.reduceNeg, c1, c2, d1, d3]
    refine callM (slices_swapRangeCmpFunc_flow_Entry.c L1 X Y B1 R1 w1 g c N f L1.length m B1.length hX rfl rfl (by omega) (by simpa using hI1) (by simp; omega) hl) ?_
    rintro _ w2 ⟨hI2, ho2⟩
    exact hn (L1 ++ B1, Y, X, R1) [.int .i64 Y.length, .int .i64 B1.length] _ ⟨by simp [hX], by simp; omega, by simp; omega, by omega, by omega, by rw [he]; simp, ho.tr ho2, by simpa using hI2⟩ (by simp; omega)
/-- M is X, sorted by falling rank, equals in their order -/
structure St (X M : List Ent) : Prop where
  len : M.length = X.length
  srt : M.Pairwise (fun x y => y.prio ≤ x.prio)
  fil : ∀ p, M.filter (fun x => x.prio == p) = X.filter (fun x => x.prio == p)
theorem St.one (x : Ent) : St [x] [x] := ⟨rfl, by simp, fun _ => rfl⟩
theorem St.nil : St [] [] := ⟨rfl, by simp, fun _ => rfl⟩
theorem filter_none {S : List Ent} {p : Int} (h : ∀ y ∈ S, y.prio ≠ p) : S.filter (fun x => x.prio == p) = [] := by
  rw [List.filter_eq_nil_iff]
  intro y hy
  simpa using h y hy
theorem St.ins {P S1 S2 : List Ent} {x : Ent} (h : St P (S1 ++ S2)) (h2 : ∀ y ∈ S2, y.prio < x.prio) (h1 : ∀ y ∈ S1, x.prio ≤ y.prio) : St (P ++ [x]) (S1 ++ x :: S2) := by
  refine ⟨?_, ?_, fun p => ?_⟩
  · have := h.len
    simp at this ⊢
    omega
  · have := h.srt
    rw [List.pairwise_append] at this ⊢
    refine ⟨this.1, ?_, ?_⟩
    · rw [List.pairwise_cons]
      exact ⟨fun y hy => Int.le_of_lt (h2 y hy), this.2.1⟩
    · intro u hu v hv
      rcases List.mem_cons.1 hv with rfl | hv
      · exact h1 u hu
      · exact this.2.2 u hu v hv
  · have := h.fil p
    rw [List.filter_append] at this ⊢
    rw [List.filter_append, ← this, List.filter_cons]
    by_cases hp : x.prio = p
    · have e := filter_none (S := S2) (p := p) fun y hy => by have := h2 y hy; omega
      simp [hp, e]
    · simp [hp]
theorem last_le {S1 : List Ent} {y x : Ent} (h : (S1 ++ [y]).Pairwise (fun x y => y.prio ≤ x.prio)) (hy : x.prio ≤ y.prio) : ∀ u ∈ S1 ++ [y], x.prio ≤ u.prio := by
  intro u hu
  rw [List.pairwise_append] at h
  rcases List.mem_append.1 hu with hu | hu
  · exact Int.le_trans hy (h.2.2 u hu y (by simp))
  · simp at hu; subst hu; exact hy
theorem entC_v (x : Ent) : Value.agg (entC.enc x).toArray = x.v := rfl
theorem snoc_cases {α : Type} (l : List α) : l = [] ∨ ∃ s x, l = s ++ [x] := by
  rcases List.eq_nil_or_concat l with h | ⟨s, x, h⟩
  · exact .inl h
  · exact .inr ⟨s, x, by rw [h, List.concat_eq_append]⟩
theorem slices_insertionSortCmpFunc_flow_Entry.c (L A R : List Ent) (w : World) (g c N : Nat) (a b : Nat) (ha : L.length = a) (hb : a + A.length = b) (hI : In entC g w (L ++ A ++ R)) (hN : (L ++ A ++ R).length = N) (hl : N ≤ 1000000) :
    Calls Try.prog slices_insertionSortCmpFunc_flow_Entry.id #[.slice (some ⟨g, 0, none⟩) N c, .int .i64 a, .int .i64 b, .func (.func flow_New_1.id) #[] #[]] w (retP fun _ w' => (∃ A', St A A' ∧ In entC g w' (L ++ A' ++ R)) ∧ Only g w w') := by
  simp only [List.length_append] at hN
  apply slices_insertionSortCmpFunc_flow_Entry.sound
  unfold slices_insertionSortCmpFunc_flow_Entry.sh
  have e1 : (a : Int) + 1 = ((a + 1 : Nat) : Int) := by omega
  simp -dsimp (disch := first | omega | assumption | ((simp only [World.size_alloc, size_setRow, List.size_toArray, List.length_cons, List.length_nil, cells_agg, len_enc, cells_int, cells_bool, cells_slice, cells_ptr, cells_string]) <;> omega) | ((repeat (first | with_reducible exact Ext.refl _ | with_reducible assumption | with_reducible apply Ext.alloc | with_reducible apply Ext.drew | (with_reducible refine Ext.setRow ?_ (by (try simp only [World.size_alloc]); omega) _) | (with_reducible refine Ext.tr ?_ (by assumption)))); done) | fail) only [go_sem, jn_r, Nat.reduceAdd, Nat.reduceLeDiff, Nat.reduceMul, Int.reduceToNat, Nat.reduceEqDiff, Nat.reduceLT, Int.reduceBEq, Int.reduceBNe, Int.reduceLT, Int.reduceLE, Int.reduceAdd, Int.reduceSub, Int.reduceMul, Int.reduceDiv, Int.reduceMod, Int.reduceNeg, e1]
  rcases A with _ | ⟨x0, A⟩
  · refine loop_g (γ := Unit) (fun _ s w' => s = [.int .i64 ((a + 1 : Nat) : Int)] ∧ w' = w) (fun _ => 0) () ⟨rfl, rfl⟩ ?_
    rintro _ s w1 next ⟨rfl, rfl⟩ hn
    have c1 : ¬ (((a + 1 : Nat) : Int) < (b : Int)) := by simp at hb; omega
    simp -dsimp (disch := first | omega | assumption | ((simp only [World.size_alloc, size_setRow, List.size_toArray, List.length_cons, List.length_nil, cells_agg, len_enc, cells_int, cells_bool, cells_slice, cells_ptr, cells_string]) <;> omega) | ((repeat (first | with_reducible exact Ext.refl _ | with_reducible assumption | with_reducible apply Ext.alloc | with_reducible apply Ext.drew | (with_reducible refine Ext.setRow ?_ (by (try simp only [World.size_alloc]); omega) _) | (with_reducible refine Ext.tr ?_ (by assumption)))); done) | fail) only [go_sem, jn_r, Nat.reduceAdd, Nat.reduceLeDiff, Nat.reduceMul, Int.reduceToNat, Nat.reduceEqDiff, Nat.reduceLT, Int.reduceBEq, Int.reduceBNe, Int.reduceLT, Int.reduceLE, Int.reduceAdd, Int.reduceSub, Int.reduceMul, Int.reduceDiv, Int.reduceMod, Int.reduceNeg, c1]
    exact ⟨⟨[], St.nil, hI⟩, .refl _ _⟩
  simp only [List.length_cons] at hb hN
  refine loop_g (γ := List Ent × List Ent × List Ent) (fun (P, S, Q) s w' => s = [.int .i64 ((a + P.length : Nat) : Int)] ∧ x0 :: A = P ++ Q ∧ P.length + Q.length = A.length + 1 ∧ 0 < P.length ∧ St P S ∧ Only g w w' ∧ In entC g w' (L ++ S ++ Q ++ R)) (fun (P, S, Q) => Q.length) ([x0], [x0], A) ⟨rfl, rfl, by simp; omega, by simp, St.one _, .refl _ _, by simpa using hI⟩ ?_
  rintro ⟨P, S, Q⟩ s w1 next ⟨rfl, hP, hPl, hP0, hS, ho, hI1⟩ hn
  rcases Q with _ | ⟨x, Q⟩
  · have c1 : ¬ (((a + P.length : Nat) : Int) < (b : Int)) := by simp at hPl; omega
    simp -dsimp (disch := first | omega | assumption | ((simp only [World.size_alloc, size_setRow, List.size_toArray, List.length_cons, List.length_nil, cells_agg, len_enc, cells_int, cells_bool, cells_slice, cells_ptr, cells_string]) <;> omega) | ((repeat (first | with_reducible exact Ext.refl _ | with_reducible assumption | with_reducible apply Ext.alloc | with_reducible apply Ext.drew | (with_reducible refine Ext.setRow ?_ (by (try simp only [World.size_alloc]); omega) _) | (with_reducible refine Ext.tr ?_ (by assumption)))); done) | fail) only [go_sem, jn_r, Nat.reduceAdd, Nat.reduceLeDiff, Nat.reduceMul, Int.reduceToNat, Nat.reduceEqDiff, Nat.reduceLT, Int.reduceBEq, Int.reduceBNe, Int.reduceLT, Int.reduceLE, Int.reduceAdd, Int.reduceSub, Int.reduceMul, Int.reduceDiv, Int.reduceMod, Int.reduceNeg, c1]
    refine ⟨⟨S, ?_, by simpa using hI1⟩, ho⟩
    rw [hP, List.append_nil]
    exact hS
  simp only [List.length_cons] at hPl
  have c1 : (((a + P.length : Nat) : Int) < (b : Int)) := by omega
  have hSl := hS.len
  simp -dsimp (disch := first | omega | assumption | ((simp only [World.size_alloc, size_setRow, List.size_toArray, List.length_cons, List.length_nil, cells_agg, len_enc, cells_int, cells_bool, cells_slice, cells_ptr, cells_string]) <;> omega) | ((repeat (first | with_reducible exact Ext.refl _ | with_reducible assumption | with_reducible apply Ext.alloc | with_reducible apply Ext.drew | (with_reducible refine Ext.setRow ?_ (by (try simp only [World.size_alloc]); omega) _) | (with_reducible refine Ext.tr ?_ (by assumption)))); done) | fail) only [go_sem, jn_r, Nat.reduceAdd, Nat.reduceLeDiff, Nat.reduceMul, Int.reduceToNat, Nat.reduceEqDiff, Nat.reduceLT, Int.reduceBEq, Int.reduceBNe, Int.reduceLT, Int.reduceLE, Int.reduceAdd, Int.reduceSub, Int.reduceMul, Int.reduceDiv, Int.reduceMod, Int.reduceNeg, c1]
  refine loop_g (γ := List Ent × List Ent) (fun (S1, S2) s w' => s = [.int .i64 ((a + S1.length : Nat) : Int)] ∧ S = S1 ++ S2 ∧ (∀ y ∈ S2, y.prio < x.prio) ∧ Only g w w' ∧ In entC g w' (L ++ S1 ++ [x] ++ S2 ++ Q ++ R)) (fun (S1, S2) => S1.length) (S, []) ⟨by rw [hSl], by simp, by simp, ho, by simpa using hI1⟩ ?_
  rintro ⟨S1, S2⟩ s2 w2 next2 ⟨rfl, rfl, hS2, ho2, hI2⟩ hn2
  have hS12 : (S1 ++ S2).length = S1.length + S2.length := List.length_append
  have fin : ∀ w3, Ext w2 w3 → (∀ y ∈ S1, x.prio ≤ y.prio) → next [.int .i64 (((a + P.length : Nat) : Int) + 1)] w3 := fun w3 h3 h4 =>
    hn (P ++ [x], S1 ++ x :: S2, Q) [.int .i64 (((a + P.length : Nat) : Int) + 1)] _ ⟨by simp; omega, by rw [hP]; simp, by simp; omega, by simp, hS.ins hS2 h4, ho2.ext h3, by simpa using hI2.ext h3⟩ (by simp)
  rcases snoc_cases S1 with rfl | ⟨S0, y, rfl⟩
  · have c2 : ¬ ((a : Int) < (a : Int)) := by omega
    simp -dsimp (disch := first | omega | assumption | ((simp only [World.size_alloc, size_setRow, List.size_toArray, List.length_cons, List.length_nil, cells_agg, len_enc, cells_int, cells_bool, cells_slice, cells_ptr, cells_string]) <;> omega) | ((repeat (first | with_reducible exact Ext.refl _ | with_reducible assumption | with_reducible apply Ext.alloc | with_reducible apply Ext.drew | (with_reducible refine Ext.setRow ?_ (by (try simp only [World.size_alloc]); omega) _) | (with_reducible refine Ext.tr ?_ (by assumption)))); done) | fail) only [go_sem, jn_r, Nat.reduceAdd, Nat.reduceLeDiff, Nat.reduceMul, Int.reduceToNat, Nat.reduceEqDiff, Nat.reduceLT, Int.reduceBEq, Int.reduceBNe, Int.reduceLT, Int.reduceLE, Int.reduceAdd, Int.reduceSub, Int.reduceMul, Int.reduceDiv, Int.reduceMod, Int.reduceNeg, c2]
    exact fin _ (by (repeat (first | with_reducible exact Ext.refl _ | with_reducible assumption | with_reducible apply Ext.alloc | with_reducible apply Ext.drew | (with_reducible refine Ext.setRow ?_ (by (try simp only [World.size_alloc]); omega) _) | (with_reducible refine Ext.tr ?_ (by assumption))))) (by simp)
  · have hj : (S0 ++ [y]).length = S0.length + 1 := by simp
    have d0 : (a : Int) < ((a + (S0 ++ [y]).length : Nat) : Int) := by omega
    have d1 : ((a + (S0 ++ [y]).length : Nat) : Int) - 1 = ((a + S0.length : Nat) : Int) := by omega
    have b0 : (0 : Int) ≤ ((a + (S0 ++ [y]).length : Nat) : Int) := by omega
    have b1 : (0 : Int) ≤ ((a + S0.length : Nat) : Int) := by omega
    have b2 : ((a + (S0 ++ [y]).length : Nat) : Int) < (N : Int) := by omega
    have b3 : ((a + S0.length : Nat) : Int) < (N : Int) := by omega
    have x1 := mid_get (X := L ++ (S0 ++ [y]) ++ [x] ++ S2 ++ Q ++ R) (P := L ++ (S0 ++ [y])) (x := x) (Q := S2 ++ Q ++ R) (i := a + (S0 ++ [y]).length) (by simp) (by simp; omega)
    have x2 := mid_get (X := L ++ (S0 ++ [y]) ++ [x] ++ S2 ++ Q ++ R) (P := L ++ S0) (x := y) (Q := x :: S2 ++ Q ++ R) (i := a + S0.length) (by simp) (by simp; omega)
    obtain ⟨cs, rest, hb0, hb1, hcs, s1, g1⟩ := hI2.get x1
    obtain ⟨sz2, g2⟩ := In.el hcs x2
    simp -dsimp (disch := first | omega | assumption | ((simp only [World.size_alloc, size_setRow, List.size_toArray, List.length_cons, List.length_nil, cells_agg, len_enc, cells_int, cells_bool, cells_slice, cells_ptr, cells_string]) <;> omega) | ((repeat (first | with_reducible exact Ext.refl _ | with_reducible assumption | with_reducible apply Ext.alloc | with_reducible apply Ext.drew | (with_reducible refine Ext.setRow ?_ (by (try simp only [World.size_alloc]); omega) _) | (with_reducible refine Ext.tr ?_ (by assumption)))); done) | fail) only [go_sem, jn_r, Nat.reduceAdd, Nat.reduceLeDiff, Nat.reduceMul, Int.reduceToNat, Nat.reduceEqDiff, Nat.reduceLT, Int.reduceBEq, Int.reduceBNe, Int.reduceLT, Int.reduceLE, Int.reduceAdd, Int.reduceSub, Int.reduceMul, Int.reduceDiv, Int.reduceMod, Int.reduceNeg, d0, d1, b0, b1, b2, b3, hb0, hb1, s1, g1, sz2, g2, Int.toNat_natCast]
    refine vcM (by kernel_rfl) (by simp [entC_v]) (flow_New_1.c x y _) ?_
    rintro _ w3 ⟨⟨n, rfl, hn0⟩, hx3⟩
    have hx3 := hx3.ofDrew
    have bg := blk_lt hb1
    simp -dsimp (disch := first | omega | assumption | ((simp only [World.size_alloc, size_setRow, List.size_toArray, List.length_cons, List.length_nil, cells_agg, len_enc, cells_int, cells_bool, cells_slice, cells_ptr, cells_string]) <;> omega) | ((repeat (first | with_reducible exact Ext.refl _ | with_reducible assumption | with_reducible apply Ext.alloc | with_reducible apply Ext.drew | (with_reducible refine Ext.setRow ?_ (by (try simp only [World.size_alloc]); omega) _) | (with_reducible refine Ext.tr ?_ (by assumption)))); done) | fail) only [go_sem, jn_r, Nat.reduceAdd, Nat.reduceLeDiff, Nat.reduceMul, Int.reduceToNat, Nat.reduceEqDiff, Nat.reduceLT, Int.reduceBEq, Int.reduceBNe, Int.reduceLT, Int.reduceLE, Int.reduceAdd, Int.reduceSub, Int.reduceMul, Int.reduceDiv, Int.reduceMod, Int.reduceNeg]
    refine cnd_i (fun hd => ?_) (fun hd => ?_)
    · simp at hd
      simp -dsimp (disch := first | omega | assumption | ((simp only [World.size_alloc, size_setRow, List.size_toArray, List.length_cons, List.length_nil, cells_agg, len_enc, cells_int, cells_bool, cells_slice, cells_ptr, cells_string]) <;> omega) | ((repeat (first | with_reducible exact Ext.refl _ | with_reducible assumption | with_reducible apply Ext.alloc | with_reducible apply Ext.drew | (with_reducible refine Ext.setRow ?_ (by (try simp only [World.size_alloc]); omega) _) | (with_reducible refine Ext.tr ?_ (by assumption)))); done) | fail) only [go_sem, jn_r, Nat.reduceAdd, Nat.reduceLeDiff, Nat.reduceMul, Int.reduceToNat, Nat.reduceEqDiff, Nat.reduceLT, Int.reduceBEq, Int.reduceBNe, Int.reduceLT, Int.reduceLE, Int.reduceAdd, Int.reduceSub, Int.reduceMul, Int.reduceDiv, Int.reduceMod, Int.reduceNeg, d0, d1, b0, b1, b2, b3, hx3.blk, hx3.blk0, hb0, hb1, s1, g1, sz2, g2, Int.toNat_natCast]
      have hb3 : blk0 w3 g = some cs := by rw [hx3.blk0 bg]; exact hb0
      have h9 := In.swap (C := entC) (i := a + (S0 ++ [y]).length) (j := a + S0.length) y x hb3 hcs (by simp; omega) (by simp; omega)
      rw [mid_set (P := L ++ (S0 ++ [y])) (x := x) (Q := S2 ++ Q ++ R) y (by simp) (by simp; omega),
        mid_set (P := L ++ S0) (x := y) (Q := y :: S2 ++ Q ++ R) x (by simp) (by simp; omega)] at h9
      exact hn2 (S0, y :: S2) [.int .i64 ((a + S0.length : Nat) : Int)] _ ⟨rfl, by simp, fun u hu => by
        rcases List.mem_cons.1 hu with rfl | hu
        · have := hn0.1 hd.2; omega
        · exact hS2 u hu, ((ho2.ext hx3).setRow _).drew, by simpa using h9.drew⟩ (by simp)
    · simp at hd
      simp -dsimp (disch := first | omega | assumption | ((simp only [World.size_alloc, size_setRow, List.size_toArray, List.length_cons, List.length_nil, cells_agg, len_enc, cells_int, cells_bool, cells_slice, cells_ptr, cells_string]) <;> omega) | ((repeat (first | with_reducible exact Ext.refl _ | with_reducible assumption | with_reducible apply Ext.alloc | with_reducible apply Ext.drew | (with_reducible refine Ext.setRow ?_ (by (try simp only [World.size_alloc]); omega) _) | (with_reducible refine Ext.tr ?_ (by assumption)))); done) | fail) only [go_sem, jn_r, Nat.reduceAdd, Nat.reduceLeDiff, Nat.reduceMul, Int.reduceToNat, Nat.reduceEqDiff, Nat.reduceLT, Int.reduceBEq, Int.reduceBNe, Int.reduceLT, Int.reduceLE, Int.reduceAdd, Int.reduceSub, Int.reduceMul, Int.reduceDiv, Int.reduceMod, Int.reduceNeg]
      exact fin _ (by (repeat (first | with_reducible exact Ext.refl _ | with_reducible assumption | with_reducible apply Ext.alloc | with_reducible apply Ext.drew | (with_reducible refine Ext.setRow ?_ (by (try simp only [World.size_alloc]); omega) _) | (with_reducible refine Ext.tr ?_ (by assumption))))) (last_le (by have := hS.srt; rw [List.pairwise_append] at this; exact this.1) (by have := mt hn0.2; omega))
abbrev Desc (l : List Ent) : Prop := l.Pairwise (fun x y => y.prio ≤ x.prio)
theorem St.self {X : List Ent} (h : Desc X) : St X X := ⟨rfl, h, fun _ => rfl⟩
theorem St.mem {X M : List Ent} (h : St X M) {x : Ent} (hx : x ∈ M) : x ∈ X := by
  have : x ∈ M.filter (fun y => y.prio == x.prio) := List.mem_filter.2 ⟨hx, by simp⟩
  rw [h.fil] at this
  exact (List.mem_filter.1 this).1
/-- two sorted lists, cut in two each: the halves are put together for themselves -/
theorem St.join {A1 A2 B1 B2 M1 M2 : List Ent} (hA : Desc (A1 ++ A2)) (hB : Desc (B1 ++ B2)) (hs : ∀ x ∈ A2, ∀ y ∈ B1, x.prio < y.prio) (hw : ∀ x ∈ A1, ∀ y ∈ B2, y.prio ≤ x.prio)
    (h1 : St (A1 ++ B1) M1) (h2 : St (A2 ++ B2) M2) : St ((A1 ++ A2) ++ (B1 ++ B2)) (M1 ++ M2) := by
  rw [Desc, List.pairwise_append] at hA hB
  refine ⟨?_, ?_, fun p => ?_⟩
  · have e1 := h1.len
    have e2 := h2.len
    simp at e1 e2 ⊢
    omega
  · rw [List.pairwise_append]
    refine ⟨h1.srt, h2.srt, fun x hx y hy => ?_⟩
    rcases List.mem_append.1 (h1.mem hx) with hx | hx <;> rcases List.mem_append.1 (h2.mem hy) with hy | hy
    · exact hA.2.2 x hx y hy
    · exact hw x hx y hy
    · exact Int.le_of_lt (hs y hy x hx)
    · exact hB.2.2 x hx y hy
  · rw [List.filter_append, h1.fil, h2.fil]
    simp only [List.filter_append, List.append_assoc]
    congr 1
    by_cases hp : ∃ y ∈ B1, y.prio = p
    · obtain ⟨y, hy, rfl⟩ := hp
      rw [filter_none (S := A2) fun x hx => by have := hs x hx y hy; omega]
      simp
    · rw [filter_none (S := B1) fun y hy e => hp ⟨y, hy, e⟩]
      simp
/-- one element ahead of a sorted list goes to its place -/
theorem St.front {B1 B2 : List Ent} {x : Ent} (hB : Desc (B1 ++ B2)) (h1 : ∀ y ∈ B1, x.prio < y.prio) (h2 : ∀ y ∈ B2, y.prio ≤ x.prio) : St ([x] ++ (B1 ++ B2)) (B1 ++ x :: B2) := by
  have := St.join (A1 := []) (A2 := [x]) (B1 := B1) (B2 := B2) (M1 := B1) (M2 := x :: B2) (by simp) hB (by simpa using h1) (by simp)
    (by rw [Desc, List.pairwise_append] at hB; exact St.self hB.1)
    (by rw [Desc, List.pairwise_append] at hB; exact St.self (List.pairwise_cons.2 ⟨h2, hB.2.1⟩))
  simpa using this
theorem Desc.get {X : List Ent} (h : Desc X) {i j : Nat} (hij : i < j) {x y : Ent} (hx : X[i]? = some x) (hy : X[j]? = some y) : y.prio ≤ x.prio := by
  obtain ⟨hi, rfl⟩ := List.getElem?_eq_some_iff.1 hx
  obtain ⟨hj, rfl⟩ := List.getElem?_eq_some_iff.1 hy
  exact List.pairwise_iff_getElem.1 h i j hi hj hij
end Go.Proofs.Ytldjhbmccnbciaa
