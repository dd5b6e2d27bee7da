/- lists of numbers: who is there, who goes. -/
import Derived.Test.YtbkgijnmckchbaaSh
import Derived.Test.YtbkgijnmckchbaaSx
namespace Go.Proofs.Ytbkgijnmckchbaa
open Go
set_option linter.unusedSimpArgs false
set_option linter.unusedVariables false
theorem ZTy.of {e : Nat} {z : Value} (h : (Try.prog.info? e).bind (fun i => i.zero) = some z) : ZTy e z := ⟨fun w => by
  cases hi : Try.prog.info? e with
  | none => simp [hi] at h
  | some i => simp [hi] at h; simp [zeroValue, typeInfo, hi, h]⟩
instance : ZTy 3 (.int .i64 0) := .of (by kernel_rfl)
theorem blk_0 {w : World} {b : Nat} {cs : Array Value} (h : blk0 w b = some cs) : blk w b = some cs := by
  unfold blk0 at h
  unfold blk
  split at h
  · rename_i hh; rw [hh]; exact h
  · cases h
def ints (l : List Int) : Array Value := (l.map (Value.int .i64)).toArray
theorem flat_ints (l : List Int) : l.flatMap (intC .i64).enc = l.map (Value.int .i64) := by
  induction l with
  | nil => rfl
  | cons x l ih => rw [List.flatMap_cons, ih]; rfl
/-- the first place where it holds, or -1 -/
def fidx (p : Int → Bool) : List Int → Int
  | [] => -1
  | x :: l => if p x then 0 else let k := fidx p l; if k < 0 then -1 else k + 1
theorem fidx_none {p : Int → Bool} : ∀ {l : List Int}, (∀ x ∈ l, p x = false) → fidx p l = -1
  | [], _ => rfl
  | x :: l, h => by
    have := fidx_none (p := p) (l := l) fun y hy => h y (by simp [hy])
    unfold fidx
    rw [h x (by simp)]
    simp [this]
theorem fidx_at {p : Int → Bool} : ∀ {l : List Int} {i : Nat} {x : Int}, l[i]? = some x → p x = true → (∀ y ∈ l.take i, p y = false) → fidx p l = i
  | [], i, x, h, _, _ => by simp at h
  | y :: l, 0, x, h, hp, _ => by simp at h; subst h; unfold fidx; simp [hp]
  | y :: l, i + 1, x, h, hp, hq => by
    have := fidx_at (p := p) (l := l) (i := i) (by simpa using h) hp fun z hz => hq z (by simp [hz])
    unfold fidx
    rw [hq y (by simp)]
    simp only [this]
    simp
    omega
theorem fidx_ge {p : Int → Bool} : ∀ {l : List Int}, decide (0 ≤ fidx p l) = l.any p
  | [] => rfl
  | x :: l => by
    have ih := fidx_ge (p := p) (l := l)
    unfold fidx
    rw [List.any_cons]
    cases hp : p x with
    | true => simp
    | false =>
      rw [← ih]
      simp only [Bool.false_eq_true, if_false, Bool.false_or]
      split <;> simp <;> omega
section
variable {w : World} {v : Value} {l : List Int} {p : Int → Bool}
theorem slices_IndexFunc_int.c (hs : Sl (intC .i64) w v l) (hl : l.length ≤ 1000000) (f : Nat) (cap : Array Value) (hb : bodyOk Try.prog f = true)
    (hf : ∀ w1 x, Ext w w1 → Calls Try.prog f (#[.int .i64 x] ++ cap) w1 (retP fun u w2 => u = .bool (p x) ∧ Ext w1 w2)) :
    Calls Try.prog slices_IndexFunc_int.id #[v, .func (.func f) #[] cap] w (retP fun u w' => u = .int .i64 (fidx p l) ∧ Ext w w') := by
  obtain ⟨a, c, rfl⟩ := hs.form
  apply slices_IndexFunc_int.sound
  unfold slices_IndexFunc_int.sh
  simp -dsimp (disch := first | omega | assumption | ((simp only [World.size_alloc, size_setRow, List.size_toArray, List.length_cons, List.length_nil, cells_agg, len_enc, cells_int, cells_bool, cells_slice, cells_ptr, cells_string]) <;> omega) | ((repeat (first | with_reducible exact Ext.refl _ | with_reducible assumption | with_reducible apply Ext.alloc | with_reducible apply Ext.drew | (with_reducible refine Ext.setRow ?_ (by (try simp only [World.size_alloc]); omega) _) | (with_reducible refine Ext.tr ?_ (by assumption)))); done) | fail) only [go_sem, jn_r, Nat.reduceAdd, Nat.reduceLeDiff, Nat.reduceMul, Int.reduceToNat, Nat.reduceEqDiff, Nat.reduceLT, Int.reduceBEq, Int.reduceBNe, Int.reduceLT, Int.reduceLE, Int.reduceAdd, Int.reduceSub, Int.reduceMul, Int.reduceDiv, Int.reduceMod, Int.reduceNeg]
  refine loop_g (γ := Nat) (fun i st w' => st = [.int .i64 (i : Int)] ∧ Ext w w' ∧ ∀ y ∈ l.take i, p y = false) (fun i => l.length - i) 0 ⟨rfl, .refl _, by simp⟩ ?_
  rintro i st w1 next ⟨rfl, hE, hp⟩ hn
  by_cases hi : i < l.length
  · have d0 : ((i : Int) < (l.length : Int)) := by omega
    have d1 : (0 : Int) ≤ (i : Int) := by omega
    have ew : IntKind.i64.wrap ((i : Int) + 1) = ((i + 1 : Nat) : Int) := by rw [wrap_64 (by omega) (by omega)]; simp
    obtain ⟨x, hx⟩ : ∃ x, l[i]? = some x := ⟨_, List.getElem?_eq_getElem hi⟩
    obtain ⟨b', off, c', cs, hsx, hb', hsz, hag, hj⟩ := (hs.ext hE).at hx
    cases hsx
    have hc := hj 0 (.int .i64 x) rfl
    simp only [Nat.mul_one, Nat.add_zero] at hc
    simp -dsimp (disch := first | omega | assumption | ((simp only [World.size_alloc, size_setRow, List.size_toArray, List.length_cons, List.length_nil, cells_agg, len_enc, cells_int, cells_bool, cells_slice, cells_ptr, cells_string]) <;> omega) | ((repeat (first | with_reducible exact Ext.refl _ | with_reducible assumption | with_reducible apply Ext.alloc | with_reducible apply Ext.drew | (with_reducible refine Ext.setRow ?_ (by (try simp only [World.size_alloc]); omega) _) | (with_reducible refine Ext.tr ?_ (by assumption)))); done) | fail) only [go_sem, jn_r, Nat.reduceAdd, Nat.reduceLeDiff, Nat.reduceMul, Int.reduceToNat, Nat.reduceEqDiff, Nat.reduceLT, Int.reduceBEq, Int.reduceBNe, Int.reduceLT, Int.reduceLE, Int.reduceAdd, Int.reduceSub, Int.reduceMul, Int.reduceDiv, Int.reduceMod, Int.reduceNeg, d0, d1, hb', hc, Int.toNat_natCast, Nat.mul_one]
    refine vcM hb rfl (hf w1 x hE) ?_
    rintro _ w2 ⟨rfl, hx2⟩
    cases hpx : p x with
    | true =>
      simp -dsimp (disch := first | omega | assumption | ((simp only [World.size_alloc, size_setRow, List.size_toArray, List.length_cons, List.length_nil, cells_agg, len_enc, cells_int, cells_bool, cells_slice, cells_ptr, cells_string]) <;> omega) | ((repeat (first | with_reducible exact Ext.refl _ | with_reducible assumption | with_reducible apply Ext.alloc | with_reducible apply Ext.drew | (with_reducible refine Ext.setRow ?_ (by (try simp only [World.size_alloc]); omega) _) | (with_reducible refine Ext.tr ?_ (by assumption)))); done) | fail) only [go_sem, jn_r, Nat.reduceAdd, Nat.reduceLeDiff, Nat.reduceMul, Int.reduceToNat, Nat.reduceEqDiff, Nat.reduceLT, Int.reduceBEq, Int.reduceBNe, Int.reduceLT, Int.reduceLE, Int.reduceAdd, Int.reduceSub, Int.reduceMul, Int.reduceDiv, Int.reduceMod, Int.reduceNeg]
      exact ⟨by rw [fidx_at hx hpx hp], hE.tr hx2⟩
    | false =>
      simp -dsimp (disch := first | omega | assumption | ((simp only [World.size_alloc, size_setRow, List.size_toArray, List.length_cons, List.length_nil, cells_agg, len_enc, cells_int, cells_bool, cells_slice, cells_ptr, cells_string]) <;> omega) | ((repeat (first | with_reducible exact Ext.refl _ | with_reducible assumption | with_reducible apply Ext.alloc | with_reducible apply Ext.drew | (with_reducible refine Ext.setRow ?_ (by (try simp only [World.size_alloc]); omega) _) | (with_reducible refine Ext.tr ?_ (by assumption)))); done) | fail) only [go_sem, jn_r, Nat.reduceAdd, Nat.reduceLeDiff, Nat.reduceMul, Int.reduceToNat, Nat.reduceEqDiff, Nat.reduceLT, Int.reduceBEq, Int.reduceBNe, Int.reduceLT, Int.reduceLE, Int.reduceAdd, Int.reduceSub, Int.reduceMul, Int.reduceDiv, Int.reduceMod, Int.reduceNeg, ew]
      refine hn (i + 1) _ _ ⟨rfl, hE.tr hx2, ?_⟩ (by omega)
      intro y hy
      rw [take_next hx] at hy
      rcases List.mem_append.1 hy with h | h
      · exact hp y h
      · simp at h; subst h; exact hpx
  · have d0 : ¬ ((i : Int) < (l.length : Int)) := by omega
    simp -dsimp (disch := first | omega | assumption | ((simp only [World.size_alloc, size_setRow, List.size_toArray, List.length_cons, List.length_nil, cells_agg, len_enc, cells_int, cells_bool, cells_slice, cells_ptr, cells_string]) <;> omega) | ((repeat (first | with_reducible exact Ext.refl _ | with_reducible assumption | with_reducible apply Ext.alloc | with_reducible apply Ext.drew | (with_reducible refine Ext.setRow ?_ (by (try simp only [World.size_alloc]); omega) _) | (with_reducible refine Ext.tr ?_ (by assumption)))); done) | fail) only [go_sem, jn_r, Nat.reduceAdd, Nat.reduceLeDiff, Nat.reduceMul, Int.reduceToNat, Nat.reduceEqDiff, Nat.reduceLT, Int.reduceBEq, Int.reduceBNe, Int.reduceLT, Int.reduceLE, Int.reduceAdd, Int.reduceSub, Int.reduceMul, Int.reduceDiv, Int.reduceMod, Int.reduceNeg, d0]
    refine ⟨?_, hE⟩
    rw [fidx_none]
    rw [List.take_of_length_le (by omega)] at hp
    exact hp
theorem slices_Index_int.c (hs : Sl (intC .i64) w v l) (hl : l.length ≤ 1000000) (z : Int) :
    Calls Try.prog slices_Index_int.id #[v, .int .i64 z] w (retP fun u w' => u = .int .i64 (fidx (z == ·) l) ∧ Ext w w') := by
  obtain ⟨a, c, rfl⟩ := hs.form
  apply slices_Index_int.sound
  unfold slices_Index_int.sh
  simp -dsimp (disch := first | omega | assumption | ((simp only [World.size_alloc, size_setRow, List.size_toArray, List.length_cons, List.length_nil, cells_agg, len_enc, cells_int, cells_bool, cells_slice, cells_ptr, cells_string]) <;> omega) | ((repeat (first | with_reducible exact Ext.refl _ | with_reducible assumption | with_reducible apply Ext.alloc | with_reducible apply Ext.drew | (with_reducible refine Ext.setRow ?_ (by (try simp only [World.size_alloc]); omega) _) | (with_reducible refine Ext.tr ?_ (by assumption)))); done) | fail) only [go_sem, jn_r, Nat.reduceAdd, Nat.reduceLeDiff, Nat.reduceMul, Int.reduceToNat, Nat.reduceEqDiff, Nat.reduceLT, Int.reduceBEq, Int.reduceBNe, Int.reduceLT, Int.reduceLE, Int.reduceAdd, Int.reduceSub, Int.reduceMul, Int.reduceDiv, Int.reduceMod, Int.reduceNeg]
  refine loop_g (γ := Nat) (fun i st w' => st = [.int .i64 (i : Int)] ∧ Ext w w' ∧ ∀ y ∈ l.take i, (z == y) = false) (fun i => l.length - i) 0 ⟨rfl, .refl _, by simp⟩ ?_
  rintro i st w1 next ⟨rfl, hE, hp⟩ hn
  by_cases hi : i < l.length
  · have d0 : ((i : Int) < (l.length : Int)) := by omega
    have d1 : (0 : Int) ≤ (i : Int) := by omega
    have ew : IntKind.i64.wrap ((i : Int) + 1) = ((i + 1 : Nat) : Int) := by rw [wrap_64 (by omega) (by omega)]; simp
    obtain ⟨x, hx⟩ : ∃ x, l[i]? = some x := ⟨_, List.getElem?_eq_getElem hi⟩
    obtain ⟨b', off, c', cs, hsx, hb', hsz, hag, hj⟩ := (hs.ext hE).at hx
    cases hsx
    have hc := hj 0 (.int .i64 x) rfl
    simp only [Nat.mul_one, Nat.add_zero] at hc
    cases hpx : (z == x) with
    | true =>
      simp -dsimp (disch := first | omega | assumption | ((simp only [World.size_alloc, size_setRow, List.size_toArray, List.length_cons, List.length_nil, cells_agg, len_enc, cells_int, cells_bool, cells_slice, cells_ptr, cells_string]) <;> omega) | ((repeat (first | with_reducible exact Ext.refl _ | with_reducible assumption | with_reducible apply Ext.alloc | with_reducible apply Ext.drew | (with_reducible refine Ext.setRow ?_ (by (try simp only [World.size_alloc]); omega) _) | (with_reducible refine Ext.tr ?_ (by assumption)))); done) | fail) only [go_sem, jn_r, Nat.reduceAdd, Nat.reduceLeDiff, Nat.reduceMul, Int.reduceToNat, Nat.reduceEqDiff, Nat.reduceLT, Int.reduceBEq, Int.reduceBNe, Int.reduceLT, Int.reduceLE, Int.reduceAdd, Int.reduceSub, Int.reduceMul, Int.reduceDiv, Int.reduceMod, Int.reduceNeg, d0, d1, hb', hc, Int.toNat_natCast, Nat.mul_one, hpx]
      exact ⟨by rw [fidx_at hx hpx hp], hE⟩
    | false =>
      simp -dsimp (disch := first | omega | assumption | ((simp only [World.size_alloc, size_setRow, List.size_toArray, List.length_cons, List.length_nil, cells_agg, len_enc, cells_int, cells_bool, cells_slice, cells_ptr, cells_string]) <;> omega) | ((repeat (first | with_reducible exact Ext.refl _ | with_reducible assumption | with_reducible apply Ext.alloc | with_reducible apply Ext.drew | (with_reducible refine Ext.setRow ?_ (by (try simp only [World.size_alloc]); omega) _) | (with_reducible refine Ext.tr ?_ (by assumption)))); done) | fail) only [go_sem, jn_r, Nat.reduceAdd, Nat.reduceLeDiff, Nat.reduceMul, Int.reduceToNat, Nat.reduceEqDiff, Nat.reduceLT, Int.reduceBEq, Int.reduceBNe, Int.reduceLT, Int.reduceLE, Int.reduceAdd, Int.reduceSub, Int.reduceMul, Int.reduceDiv, Int.reduceMod, Int.reduceNeg, d0, d1, hb', hc, Int.toNat_natCast, Nat.mul_one, hpx, ew]
      refine hn (i + 1) _ _ ⟨rfl, hE, ?_⟩ (by omega)
      intro y hy
      rw [take_next hx] at hy
      rcases List.mem_append.1 hy with h | h
      · exact hp y h
      · simp at h; subst h; exact hpx
  · have d0 : ¬ ((i : Int) < (l.length : Int)) := by omega
    simp -dsimp (disch := first | omega | assumption | ((simp only [World.size_alloc, size_setRow, List.size_toArray, List.length_cons, List.length_nil, cells_agg, len_enc, cells_int, cells_bool, cells_slice, cells_ptr, cells_string]) <;> omega) | ((repeat (first | with_reducible exact Ext.refl _ | with_reducible assumption | with_reducible apply Ext.alloc | with_reducible apply Ext.drew | (with_reducible refine Ext.setRow ?_ (by (try simp only [World.size_alloc]); omega) _) | (with_reducible refine Ext.tr ?_ (by assumption)))); done) | fail) only [go_sem, jn_r, Nat.reduceAdd, Nat.reduceLeDiff, Nat.reduceMul, Int.reduceToNat, Nat.reduceEqDiff, Nat.reduceLT, Int.reduceBEq, Int.reduceBNe, Int.reduceLT, Int.reduceLE, Int.reduceAdd, Int.reduceSub, Int.reduceMul, Int.reduceDiv, Int.reduceMod, Int.reduceNeg, d0]
    refine ⟨?_, hE⟩
    rw [fidx_none]
    rw [List.take_of_length_le (by omega)] at hp
    exact hp
theorem slices_Contains_int.c (hs : Sl (intC .i64) w v l) (hl : l.length ≤ 1000000) (z : Int) :
    Calls Try.prog slices_Contains_int.id #[v, .int .i64 z] w (retP fun u w' => u = .bool (l.contains z) ∧ Ext w w') := by
  apply slices_Contains_int.sound
  unfold slices_Contains_int.sh
  simp -dsimp (disch := first | omega | assumption | ((simp only [World.size_alloc, size_setRow, List.size_toArray, List.length_cons, List.length_nil, cells_agg, len_enc, cells_int, cells_bool, cells_slice, cells_ptr, cells_string]) <;> omega) | ((repeat (first | with_reducible exact Ext.refl _ | with_reducible assumption | with_reducible apply Ext.alloc | with_reducible apply Ext.drew | (with_reducible refine Ext.setRow ?_ (by (try simp only [World.size_alloc]); omega) _) | (with_reducible refine Ext.tr ?_ (by assumption)))); done) | fail) only [go_sem, jn_r, Nat.reduceAdd, Nat.reduceLeDiff, Nat.reduceMul, Int.reduceToNat, Nat.reduceEqDiff, Nat.reduceLT, Int.reduceBEq, Int.reduceBNe, Int.reduceLT, Int.reduceLE, Int.reduceAdd, Int.reduceSub, Int.reduceMul, Int.reduceDiv, Int.reduceMod, Int.reduceNeg]
  refine callM (slices_Index_int.c hs hl z) ?_
  rintro _ w1 ⟨rfl, hx⟩
  simp -dsimp (disch := first | omega | assumption | ((simp only [World.size_alloc, size_setRow, List.size_toArray, List.length_cons, List.length_nil, cells_agg, len_enc, cells_int, cells_bool, cells_slice, cells_ptr, cells_string]) <;> omega) | ((repeat (first | with_reducible exact Ext.refl _ | with_reducible assumption | with_reducible apply Ext.alloc | with_reducible apply Ext.drew | (with_reducible refine Ext.setRow ?_ (by (try simp only [World.size_alloc]); omega) _) | (with_reducible refine Ext.tr ?_ (by assumption)))); done) | fail) only [go_sem, jn_r, Nat.reduceAdd, Nat.reduceLeDiff, Nat.reduceMul, Int.reduceToNat, Nat.reduceEqDiff, Nat.reduceLT, Int.reduceBEq, Int.reduceBNe, Int.reduceLT, Int.reduceLE, Int.reduceAdd, Int.reduceSub, Int.reduceMul, Int.reduceDiv, Int.reduceMod, Int.reduceNeg]
  refine ⟨?_, hx⟩
  rw [fidx_ge]
  rw [List.contains_eq_any_beq]
theorem slices_ContainsFunc_int.c (hs : Sl (intC .i64) w v l) (hl : l.length ≤ 1000000) (f : Nat) (cap : Array Value) (hb : bodyOk Try.prog f = true)
    (hf : ∀ w1 x, Ext w w1 → Calls Try.prog f (#[.int .i64 x] ++ cap) w1 (retP fun u w2 => u = .bool (p x) ∧ Ext w1 w2)) :
    Calls Try.prog slices_ContainsFunc_int.id #[v, .func (.func f) #[] cap] w (retP fun u w' => u = .bool (l.any p) ∧ Ext w w') := by
  apply slices_ContainsFunc_int.sound
  unfold slices_ContainsFunc_int.sh
  simp -dsimp (disch := first | omega | assumption | ((simp only [World.size_alloc, size_setRow, List.size_toArray, List.length_cons, List.length_nil, cells_agg, len_enc, cells_int, cells_bool, cells_slice, cells_ptr, cells_string]) <;> omega) | ((repeat (first | with_reducible exact Ext.refl _ | with_reducible assumption | with_reducible apply Ext.alloc | with_reducible apply Ext.drew | (with_reducible refine Ext.setRow ?_ (by (try simp only [World.size_alloc]); omega) _) | (with_reducible refine Ext.tr ?_ (by assumption)))); done) | fail) only [go_sem, jn_r, Nat.reduceAdd, Nat.reduceLeDiff, Nat.reduceMul, Int.reduceToNat, Nat.reduceEqDiff, Nat.reduceLT, Int.reduceBEq, Int.reduceBNe, Int.reduceLT, Int.reduceLE, Int.reduceAdd, Int.reduceSub, Int.reduceMul, Int.reduceDiv, Int.reduceMod, Int.reduceNeg]
  refine callM (slices_IndexFunc_int.c hs hl f cap hb hf) ?_
  rintro _ w1 ⟨rfl, hx⟩
  simp -dsimp (disch := first | omega | assumption | ((simp only [World.size_alloc, size_setRow, List.size_toArray, List.length_cons, List.length_nil, cells_agg, len_enc, cells_int, cells_bool, cells_slice, cells_ptr, cells_string]) <;> omega) | ((repeat (first | with_reducible exact Ext.refl _ | with_reducible assumption | with_reducible apply Ext.alloc | with_reducible apply Ext.drew | (with_reducible refine Ext.setRow ?_ (by (try simp only [World.size_alloc]); omega) _) | (with_reducible refine Ext.tr ?_ (by assumption)))); done) | fail) only [go_sem, jn_r, Nat.reduceAdd, Nat.reduceLeDiff, Nat.reduceMul, Int.reduceToNat, Nat.reduceEqDiff, Nat.reduceLT, Int.reduceBEq, Int.reduceBNe, Int.reduceLT, Int.reduceLE, Int.reduceAdd, Int.reduceSub, Int.reduceMul, Int.reduceDiv, Int.reduceMod, Int.reduceNeg]
  refine ⟨?_, hx⟩
  rw [fidx_ge]
theorem Sl.ints {b off n c : Nat} {cs : Array Value} (h : blk w b = some cs) (hn : l.length = n) (hc : ∀ i x, l[i]? = some x → cs[off + i]? = some (.int .i64 x)) : Sl (intC .i64) w (.slice (some ⟨b, off, none⟩) n c) l := by
  subst hn
  refine .inr ⟨b, off, c, cs, rfl, h, fun i x j u hi hu => ?_⟩
  have : j = 0 := by
    have := (List.getElem?_eq_some_iff.1 hu).1
    simp [intC] at this
    exact this
  subst this
  simp [intC] at hu
  subst hu
  simpa using hc i x hi
theorem fidx_cases (p : Int → Bool) (l : List Int) : (fidx p l = -1 ∧ ∀ x ∈ l, p x = false) ∨ ∃ i x, fidx p l = (i : Nat) ∧ l[i]? = some x ∧ p x = true ∧ ∀ y ∈ l.take i, p y = false := by
  induction l with
  | nil => exact .inl ⟨rfl, by simp⟩
  | cons a l ih =>
    cases ha : p a with
    | true => exact .inr ⟨0, a, by unfold fidx; simp [ha], rfl, ha, by simp⟩
    | false =>
      rcases ih with ⟨h1, h2⟩ | ⟨i, x, h1, h2, h3, h4⟩
      · refine .inl ⟨by unfold fidx; simp [ha, h1], ?_⟩
        intro x hx
        rcases List.mem_cons.1 hx with rfl | hx
        · exact ha
        · exact h2 x hx
      · refine .inr ⟨i + 1, x, by unfold fidx; simp only [ha, h1]; simp; omega, by simpa using h2, h3, ?_⟩
        intro y hy
        simp at hy
        rcases hy with rfl | hy
        · exact ha
        · exact h4 y hy
theorem slices_DeleteFunc_int.c {b c : Nat} (h0 : blk0 w b = some (ints l)) (h1 : blk w b = some (ints l)) (hl : l.length ≤ 1000000) (hc : l.length ≤ c) (f : Nat) (cap : Array Value) (hb : bodyOk Try.prog f = true)
    (hf : ∀ w1 x, Chg [b] w w1 → Calls Try.prog f (#[.int .i64 x] ++ cap) w1 (retP fun u w2 => u = .bool (p x) ∧ Ext w1 w2)) :
    Calls Try.prog slices_DeleteFunc_int.id #[.slice (some ⟨b, 0, none⟩) l.length c, .func (.func f) #[] cap] w (retP fun u w' => Sl (intC .i64) w' u (l.filter fun x => !p x) ∧ Chg [b] w w') := by
  have hs : Sl (intC .i64) w (.slice (some ⟨b, 0, none⟩) l.length c) l := .ints h1 rfl fun i x hi => by simp [ints, hi]
  apply slices_DeleteFunc_int.sound
  unfold slices_DeleteFunc_int.sh
  simp -dsimp (disch := first | omega | assumption | ((simp only [World.size_alloc, size_setRow, List.size_toArray, List.length_cons, List.length_nil, cells_agg, len_enc, cells_int, cells_bool, cells_slice, cells_ptr, cells_string]) <;> omega) | ((repeat (first | with_reducible exact Ext.refl _ | with_reducible assumption | with_reducible apply Ext.alloc | with_reducible apply Ext.drew | (with_reducible refine Ext.setRow ?_ (by (try simp only [World.size_alloc]); omega) _) | (with_reducible refine Ext.tr ?_ (by assumption)))); done) | fail) only [go_sem, jn_r, Nat.reduceAdd, Nat.reduceLeDiff, Nat.reduceMul, Int.reduceToNat, Nat.reduceEqDiff, Nat.reduceLT, Int.reduceBEq, Int.reduceBNe, Int.reduceLT, Int.reduceLE, Int.reduceAdd, Int.reduceSub, Int.reduceMul, Int.reduceDiv, Int.reduceMod, Int.reduceNeg]
  refine callM (slices_IndexFunc_int.c (p := p) hs hl f cap hb fun w1 x hx => hf w1 x hx.chg) ?_
  rintro _ w1 ⟨rfl, hx⟩
  rcases fidx_cases p l with ⟨e, hno⟩ | ⟨i0, x0, e, hx0, hp0, hq0⟩
  · rw [e]
    simp -dsimp (disch := first | omega | assumption | ((simp only [World.size_alloc, size_setRow, List.size_toArray, List.length_cons, List.length_nil, cells_agg, len_enc, cells_int, cells_bool, cells_slice, cells_ptr, cells_string]) <;> omega) | ((repeat (first | with_reducible exact Ext.refl _ | with_reducible assumption | with_reducible apply Ext.alloc | with_reducible apply Ext.drew | (with_reducible refine Ext.setRow ?_ (by (try simp only [World.size_alloc]); omega) _) | (with_reducible refine Ext.tr ?_ (by assumption)))); done) | fail) only [go_sem, jn_r, Nat.reduceAdd, Nat.reduceLeDiff, Nat.reduceMul, Int.reduceToNat, Nat.reduceEqDiff, Nat.reduceLT, Int.reduceBEq, Int.reduceBNe, Int.reduceLT, Int.reduceLE, Int.reduceAdd, Int.reduceSub, Int.reduceMul, Int.reduceDiv, Int.reduceMod, Int.reduceNeg]
    refine ⟨?_, hx.chg⟩
    rw [List.filter_eq_self.2 fun x hx' => by rw [hno x hx']; rfl]
    exact hs.ext hx
  · have hi0 : i0 < l.length := (List.getElem?_eq_some_iff.1 hx0).1
    rw [e]
    have e1 : ((i0 : Int) == -1) = false := by simp <;> omega
    have ew : IntKind.i64.wrap ((i0 : Int) + 1) = ((i0 + 1 : Nat) : Int) := by rw [wrap_64 (by omega) (by omega)]; simp
    simp -dsimp (disch := first | omega | assumption | ((simp only [World.size_alloc, size_setRow, List.size_toArray, List.length_cons, List.length_nil, cells_agg, len_enc, cells_int, cells_bool, cells_slice, cells_ptr, cells_string]) <;> omega) | ((repeat (first | with_reducible exact Ext.refl _ | with_reducible assumption | with_reducible apply Ext.alloc | with_reducible apply Ext.drew | (with_reducible refine Ext.setRow ?_ (by (try simp only [World.size_alloc]); omega) _) | (with_reducible refine Ext.tr ?_ (by assumption)))); done) | fail) only [go_sem, jn_r, Nat.reduceAdd, Nat.reduceLeDiff, Nat.reduceMul, Int.reduceToNat, Nat.reduceEqDiff, Nat.reduceLT, Int.reduceBEq, Int.reduceBNe, Int.reduceLT, Int.reduceLE, Int.reduceAdd, Int.reduceSub, Int.reduceMul, Int.reduceDiv, Int.reduceMod, Int.reduceNeg, e1, ew]
    refine loop_g (γ := Nat × Nat × List Int) (fun g st w' => st = [.int .i64 (g.1 : Int), .int .i64 (g.2.1 : Int)] ∧ Chg [b] w w' ∧ g.1 < g.2.1 ∧ g.2.1 ≤ l.length ∧ g.2.2.length = l.length ∧ blk0 w' b = some (ints g.2.2) ∧ blk w' b = some (ints g.2.2) ∧ g.2.2.take g.1 = (l.take g.2.1).filter (fun x => !p x) ∧ g.2.2.drop g.2.1 = l.drop g.2.1) (fun g => l.length - g.2.1) (i0, i0 + 1, l) ⟨rfl, hx.chg, by simp, by simp; omega, rfl, by rw [hx.blk0 (blk0_lt h0)]; exact h0, hx.blkS h1, ?_, rfl⟩ ?_
    · rw [take_next hx0, List.filter_append, List.filter_eq_self.2 fun x hx' => by rw [hq0 x hx']; rfl]
      simp [hp0]
    rintro ⟨i, j, M⟩ st w2 next ⟨rfl, hC, hij, hjl, hM, g0, g1, hT, hD⟩ hn
    simp only at hij hjl hM g0 g1 hT hD
    have sz : (ints M).size = l.length := by simp [ints, hM]
    by_cases hj : j < l.length
    · have d0 : ((j : Int) < (l.length : Int)) := by omega
      have d1 : (0 : Int) ≤ (j : Int) := by omega
      have ewj : IntKind.i64.wrap ((j : Int) + 1) = ((j + 1 : Nat) : Int) := by rw [wrap_64 (by omega) (by omega)]; simp
      obtain ⟨x, hx⟩ : ∃ x, l[j]? = some x := ⟨_, List.getElem?_eq_getElem hj⟩
      have hMx : M[j]? = some x := by
        have := congrArg (fun q => q[0]?) hD
        simpa [hx] using this
      have hcx : (ints M)[j]? = some (.int .i64 x) := by simp [ints, hMx]
      simp -dsimp (disch := first | omega | assumption | ((simp only [World.size_alloc, size_setRow, List.size_toArray, List.length_cons, List.length_nil, cells_agg, len_enc, cells_int, cells_bool, cells_slice, cells_ptr, cells_string]) <;> omega) | ((repeat (first | with_reducible exact Ext.refl _ | with_reducible assumption | with_reducible apply Ext.alloc | with_reducible apply Ext.drew | (with_reducible refine Ext.setRow ?_ (by (try simp only [World.size_alloc]); omega) _) | (with_reducible refine Ext.tr ?_ (by assumption)))); done) | fail) only [go_sem, jn_r, Nat.reduceAdd, Nat.reduceLeDiff, Nat.reduceMul, Int.reduceToNat, Nat.reduceEqDiff, Nat.reduceLT, Int.reduceBEq, Int.reduceBNe, Int.reduceLT, Int.reduceLE, Int.reduceAdd, Int.reduceSub, Int.reduceMul, Int.reduceDiv, Int.reduceMod, Int.reduceNeg, d0, d1, g1, hcx, Int.toNat_natCast, Nat.mul_one]
      refine vcM hb rfl (hf w2 x hC) ?_
      rintro _ w3 ⟨rfl, hx3⟩
      have k0 := hx3.blk0 (blk0_lt g0)
      rw [g0] at k0
      have k1 := hx3.blkS g1
      cases hpx : p x with
      | true =>
        simp -dsimp (disch := first | omega | assumption | ((simp only [World.size_alloc, size_setRow, List.size_toArray, List.length_cons, List.length_nil, cells_agg, len_enc, cells_int, cells_bool, cells_slice, cells_ptr, cells_string]) <;> omega) | ((repeat (first | with_reducible exact Ext.refl _ | with_reducible assumption | with_reducible apply Ext.alloc | with_reducible apply Ext.drew | (with_reducible refine Ext.setRow ?_ (by (try simp only [World.size_alloc]); omega) _) | (with_reducible refine Ext.tr ?_ (by assumption)))); done) | fail) only [go_sem, jn_r, Nat.reduceAdd, Nat.reduceLeDiff, Nat.reduceMul, Int.reduceToNat, Nat.reduceEqDiff, Nat.reduceLT, Int.reduceBEq, Int.reduceBNe, Int.reduceLT, Int.reduceLE, Int.reduceAdd, Int.reduceSub, Int.reduceMul, Int.reduceDiv, Int.reduceMod, Int.reduceNeg, ewj]
        refine hn (i, j + 1, M) _ _ ⟨rfl, hC.ext hx3, by simp; omega, by simp; omega, hM, k0, k1, ?_, ?_⟩ (by simp; omega)
        · simp only
          rw [take_next hx, List.filter_append, hT]
          simp [hpx]
        · simp only
          rw [← List.drop_drop, ← List.drop_drop, hD]
      | false =>
        have d2 : ((i : Int) < (l.length : Int)) := by omega
        have d3 : (0 : Int) ≤ (i : Int) := by omega
        have ewi : IntKind.i64.wrap ((i : Int) + 1) = ((i + 1 : Nat) : Int) := by rw [wrap_64 (by omega) (by omega)]; simp
        have es : (ints M).setIfInBounds i (.int .i64 x) = ints (M.set i x) := by
          unfold ints
          rw [List.map_set]
          simp
        have sz' : i < (ints M).size := by omega
        simp -dsimp (disch := first | omega | assumption | ((simp only [World.size_alloc, size_setRow, List.size_toArray, List.length_cons, List.length_nil, cells_agg, len_enc, cells_int, cells_bool, cells_slice, cells_ptr, cells_string]) <;> omega) | ((repeat (first | with_reducible exact Ext.refl _ | with_reducible assumption | with_reducible apply Ext.alloc | with_reducible apply Ext.drew | (with_reducible refine Ext.setRow ?_ (by (try simp only [World.size_alloc]); omega) _) | (with_reducible refine Ext.tr ?_ (by assumption)))); done) | fail) only [go_sem, jn_r, Nat.reduceAdd, Nat.reduceLeDiff, Nat.reduceMul, Int.reduceToNat, Nat.reduceEqDiff, Nat.reduceLT, Int.reduceBEq, Int.reduceBNe, Int.reduceLT, Int.reduceLE, Int.reduceAdd, Int.reduceSub, Int.reduceMul, Int.reduceDiv, Int.reduceMod, Int.reduceNeg, ewj, ewi, d2, d3, k0, k1, Int.toNat_natCast, Nat.mul_one, es, sz']
        refine hn (i + 1, j + 1, M.set i x) _ _ ⟨rfl, (hC.ext hx3).setRow (.inl (List.mem_singleton.2 rfl)) _, by simp; omega, by simp; omega, by simp [hM], by simp -dsimp (disch := first | omega | assumption | ((simp only [World.size_alloc, size_setRow, List.size_toArray, List.length_cons, List.length_nil, cells_agg, len_enc, cells_int, cells_bool, cells_slice, cells_ptr, cells_string]) <;> omega) | ((repeat (first | with_reducible exact Ext.refl _ | with_reducible assumption | with_reducible apply Ext.alloc | with_reducible apply Ext.drew | (with_reducible refine Ext.setRow ?_ (by (try simp only [World.size_alloc]); omega) _) | (with_reducible refine Ext.tr ?_ (by assumption)))); done) | fail) only [go_sem, jn_r, Nat.reduceAdd, Nat.reduceLeDiff, Nat.reduceMul, Int.reduceToNat, Nat.reduceEqDiff, Nat.reduceLT, Int.reduceBEq, Int.reduceBNe, Int.reduceLT, Int.reduceLE, Int.reduceAdd, Int.reduceSub, Int.reduceMul, Int.reduceDiv, Int.reduceMod, Int.reduceNeg, k0], by simp -dsimp (disch := first | omega | assumption | ((simp only [World.size_alloc, size_setRow, List.size_toArray, List.length_cons, List.length_nil, cells_agg, len_enc, cells_int, cells_bool, cells_slice, cells_ptr, cells_string]) <;> omega) | ((repeat (first | with_reducible exact Ext.refl _ | with_reducible assumption | with_reducible apply Ext.alloc | with_reducible apply Ext.drew | (with_reducible refine Ext.setRow ?_ (by (try simp only [World.size_alloc]); omega) _) | (with_reducible refine Ext.tr ?_ (by assumption)))); done) | fail) only [go_sem, jn_r, Nat.reduceAdd, Nat.reduceLeDiff, Nat.reduceMul, Int.reduceToNat, Nat.reduceEqDiff, Nat.reduceLT, Int.reduceBEq, Int.reduceBNe, Int.reduceLT, Int.reduceLE, Int.reduceAdd, Int.reduceSub, Int.reduceMul, Int.reduceDiv, Int.reduceMod, Int.reduceNeg, k1], ?_, ?_⟩ (by simp; omega)
        · simp only
          rw [take_next hx, List.filter_append, ← hT]
          have : (M.set i x)[i]? = some x := List.getElem?_set_self (by omega)
          rw [take_next this]
          simp only [List.take_set]
          rw [List.set_eq_of_length_le (by simp; omega)]
          simp [hpx]
        · simp only
          rw [List.drop_set_of_lt (by omega), ← List.drop_drop, ← List.drop_drop, hD]
    · have d0 : ¬ ((j : Int) < (l.length : Int)) := by omega
      have d3 : (0 : Int) ≤ (i : Int) := by omega
      have hjj : j = l.length := by omega
      subst hjj
      rw [List.take_length] at hT
      simp -dsimp (disch := first | omega | assumption | ((simp only [World.size_alloc, size_setRow, List.size_toArray, List.length_cons, List.length_nil, cells_agg, len_enc, cells_int, cells_bool, cells_slice, cells_ptr, cells_string]) <;> omega) | ((repeat (first | with_reducible exact Ext.refl _ | with_reducible assumption | with_reducible apply Ext.alloc | with_reducible apply Ext.drew | (with_reducible refine Ext.setRow ?_ (by (try simp only [World.size_alloc]); omega) _) | (with_reducible refine Ext.tr ?_ (by assumption)))); done) | fail) only [go_sem, jn_r, Nat.reduceAdd, Nat.reduceLeDiff, Nat.reduceMul, Int.reduceToNat, Nat.reduceEqDiff, Nat.reduceLT, Int.reduceBEq, Int.reduceBNe, Int.reduceLT, Int.reduceLE, Int.reduceAdd, Int.reduceSub, Int.reduceMul, Int.reduceDiv, Int.reduceMod, Int.reduceNeg, d0, sl_l, d3, (by omega : (i : Int) ≤ (l.length : Int)), Int.toNat_natCast, (by omega : ¬ c = i)]
      rw [if_neg (by omega : ¬ c = i), Nat.mul_one]
      refine clear_r (z := .int .i64 0) rfl rfl g0 (by omega) fun w3 cs3 h3 h4 hC3 => ?_
      simp -dsimp (disch := first | omega | assumption | ((simp only [World.size_alloc, size_setRow, List.size_toArray, List.length_cons, List.length_nil, cells_agg, len_enc, cells_int, cells_bool, cells_slice, cells_ptr, cells_string]) <;> omega) | ((repeat (first | with_reducible exact Ext.refl _ | with_reducible assumption | with_reducible apply Ext.alloc | with_reducible apply Ext.drew | (with_reducible refine Ext.setRow ?_ (by (try simp only [World.size_alloc]); omega) _) | (with_reducible refine Ext.tr ?_ (by assumption)))); done) | fail) only [go_sem, jn_r, Nat.reduceAdd, Nat.reduceLeDiff, Nat.reduceMul, Int.reduceToNat, Nat.reduceEqDiff, Nat.reduceLT, Int.reduceBEq, Int.reduceBNe, Int.reduceLT, Int.reduceLE, Int.reduceAdd, Int.reduceSub, Int.reduceMul, Int.reduceDiv, Int.reduceMod, Int.reduceNeg, sl_h, d3, (by omega : (i : Int) ≤ (c : Int)), Int.toNat_natCast]
      refine ⟨?_, hC.tr hC3 (by simp)⟩
      rw [← hT]
      refine .ints (blk_0 h3) (by simp; omega) fun k x hk => ?_
      have hki : k < i := by
        have := (List.getElem?_eq_some_iff.1 hk).1
        simp at this
        omega
      rw [Nat.zero_add, h4 k hki]
      rw [List.getElem?_take_of_lt hki] at hk
      simp [ints, hk]
end
end Go.Proofs.Ytbkgijnmckchbaa
