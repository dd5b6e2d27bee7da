/- frames: may one be, its bytes; as the program and as the document has it. -/
import Derived.Test.YtldjhbmccnbciaaFw
namespace Go.Proofs.Ytldjhbmccnbciaa
open Go
set_option linter.unusedSimpArgs false
set_option linter.unusedVariables false
theorem buf_Writer_Done.c (w : World) (p : Nat) (s : Value) (l : List UInt8) (wrong : Bool) (hW : WrAt w p s l wrong) (hl : l.length ≤ 1000000000) :
    Calls Try.prog buf_Writer_Done.id #[.pointer (some ⟨p, 0, none⟩)] w (retP fun r w' => (wrong = true → r = .tuple #[.slice none 0 0, .int .i64 1]) ∧ (wrong = false → ∃ v, r = .tuple #[v, .int .i64 0] ∧ Ow bytC 5 w.heap.size w' v l) ∧ Ext w w') := by
  apply buf_Writer_Done.sound
  unfold buf_Writer_Done.sh
  have hb := blk_of0 hW.b
  cases wrong with
  | true =>
    simp -dsimp (disch := first | omega | assumption | ((simp only [World.size_alloc, size_setRow, List.size_toArray, List.length_cons, List.length_nil, cells_agg, len_enc, cells_int, cells_bool, cells_slice, cells_ptr, cells_string]) <;> omega) | ((repeat (first | with_reducible exact Ext.refl _ | with_reducible assumption | with_reducible apply Ext.alloc | with_reducible apply Ext.drew | (with_reducible refine Ext.setRow ?_ (by (try simp only [World.size_alloc]); omega) _) | (with_reducible refine Ext.tr ?_ (by assumption)))); done) | fail) only [go_sem, jn_r, Nat.reduceAdd, Nat.reduceLeDiff, Nat.reduceMul, Int.reduceToNat, Nat.reduceEqDiff, Nat.reduceLT, Int.reduceBEq, Int.reduceBNe, Int.reduceLT, Int.reduceLE, Int.reduceAdd, Int.reduceSub, Int.reduceMul, Int.reduceDiv, Int.reduceMod, Int.reduceNeg, Option.isNone, hb]
    exact ⟨by simp, by simp, Ext.refl _⟩
  | false =>
    simp -dsimp (disch := first | omega | assumption | ((simp only [World.size_alloc, size_setRow, List.size_toArray, List.length_cons, List.length_nil, cells_agg, len_enc, cells_int, cells_bool, cells_slice, cells_ptr, cells_string]) <;> omega) | ((repeat (first | with_reducible exact Ext.refl _ | with_reducible assumption | with_reducible apply Ext.alloc | with_reducible apply Ext.drew | (with_reducible refine Ext.setRow ?_ (by (try simp only [World.size_alloc]); omega) _) | (with_reducible refine Ext.tr ?_ (by assumption)))); done) | fail) only [go_sem, jn_r, Nat.reduceAdd, Nat.reduceLeDiff, Nat.reduceMul, Int.reduceToNat, Nat.reduceEqDiff, Nat.reduceLT, Int.reduceBEq, Int.reduceBNe, Int.reduceLT, Int.reduceLE, Int.reduceAdd, Int.reduceSub, Int.reduceMul, Int.reduceDiv, Int.reduceMod, Int.reduceNeg, Option.isNone, hb]
    refine callM (slices_Clone_byte.c w s l hW.ow.sl hl) ?_
    rintro v w1 ⟨h1, h2⟩
    exact ⟨by simp, fun _ => ⟨v, rfl, h1⟩, h2⟩
theorem ether_upto.c (w : World) (m : Int) (v : Value) (l : List Int) (hs : Sl (intC .u64) w v l) (hl : l.length ≤ 1000) :
    Calls Try.prog ether_upto.id #[.int .u64 m, v] w (retP fun r w' => r = .bool (l.all fun x => decide (x ≤ m)) ∧ Ext w w') := by
  apply ether_upto.sound
  unfold ether_upto.sh
  obtain ⟨a, c, rfl⟩ := hs.form
  simp -dsimp (disch := first | omega | assumption | ((simp only [World.size_alloc, size_setRow, List.size_toArray, List.length_cons, List.length_nil, cells_agg, len_enc, cells_int, cells_bool, cells_slice, cells_ptr, cells_string]) <;> omega) | ((repeat (first | with_reducible exact Ext.refl _ | with_reducible assumption | with_reducible apply Ext.alloc | with_reducible apply Ext.drew | (with_reducible refine Ext.setRow ?_ (by (try simp only [World.size_alloc]); omega) _) | (with_reducible refine Ext.tr ?_ (by assumption)))); done) | fail) only [go_sem, jn_r, Nat.reduceAdd, Nat.reduceLeDiff, Nat.reduceMul, Int.reduceToNat, Nat.reduceEqDiff, Nat.reduceLT, Int.reduceBEq, Int.reduceBNe, Int.reduceLT, Int.reduceLE, Int.reduceAdd, Int.reduceSub, Int.reduceMul, Int.reduceDiv, Int.reduceMod, Int.reduceNeg]
  refine loop_g (γ := List Int × List Int) (fun (X, Y) st w' => st = [.int .i64 (X.length : Int)] ∧ l = X ++ Y ∧ (X.all fun x => decide (x ≤ m)) = true ∧ w' = w) (fun (X, Y) => Y.length) ([], l) ⟨rfl, rfl, rfl, rfl⟩ ?_
  rintro ⟨X, Y⟩ st w1 next ⟨rfl, hXY, hA, rfl⟩ hn
  have hXl : l.length = X.length + Y.length := by rw [hXY, List.length_append]
  rcases Y with _ | ⟨x, Y⟩
  · have d0 : ¬ ((X.length : Int) < (l.length : Int)) := by simp at hXl; omega
    simp -dsimp (disch := first | omega | assumption | ((simp only [World.size_alloc, size_setRow, List.size_toArray, List.length_cons, List.length_nil, cells_agg, len_enc, cells_int, cells_bool, cells_slice, cells_ptr, cells_string]) <;> omega) | ((repeat (first | with_reducible exact Ext.refl _ | with_reducible assumption | with_reducible apply Ext.alloc | with_reducible apply Ext.drew | (with_reducible refine Ext.setRow ?_ (by (try simp only [World.size_alloc]); omega) _) | (with_reducible refine Ext.tr ?_ (by assumption)))); done) | fail) only [go_sem, jn_r, Nat.reduceAdd, Nat.reduceLeDiff, Nat.reduceMul, Int.reduceToNat, Nat.reduceEqDiff, Nat.reduceLT, Int.reduceBEq, Int.reduceBNe, Int.reduceLT, Int.reduceLE, Int.reduceAdd, Int.reduceSub, Int.reduceMul, Int.reduceDiv, Int.reduceMod, Int.reduceNeg, d0]
    simp at hXY
    subst hXY
    exact ⟨by rw [hA], .refl _⟩
  simp only [List.length_cons] at hXl
  have d0 : ((X.length : Int) < (l.length : Int)) := by omega
  obtain ⟨b', off, c', cs, hsx, hb', -, -, hj⟩ := hs.at (i := X.length) (x := x) (by rw [hXY]; simp)
  cases hsx
  have hj0 : cs[off + X.length]? = some (.int .u64 x) := by have := hj 0 (.int .u64 x) rfl; simpa using this
  have d1 : (0 : Int) ≤ (X.length : Int) := by omega
  by_cases hx : m < x
  · simp -dsimp (disch := first | omega | assumption | ((simp only [World.size_alloc, size_setRow, List.size_toArray, List.length_cons, List.length_nil, cells_agg, len_enc, cells_int, cells_bool, cells_slice, cells_ptr, cells_string]) <;> omega) | ((repeat (first | with_reducible exact Ext.refl _ | with_reducible assumption | with_reducible apply Ext.alloc | with_reducible apply Ext.drew | (with_reducible refine Ext.setRow ?_ (by (try simp only [World.size_alloc]); omega) _) | (with_reducible refine Ext.tr ?_ (by assumption)))); done) | fail) only [go_sem, jn_r, Nat.reduceAdd, Nat.reduceLeDiff, Nat.reduceMul, Int.reduceToNat, Nat.reduceEqDiff, Nat.reduceLT, Int.reduceBEq, Int.reduceBNe, Int.reduceLT, Int.reduceLE, Int.reduceAdd, Int.reduceSub, Int.reduceMul, Int.reduceDiv, Int.reduceMod, Int.reduceNeg, d0, d1, hb', hj0, Int.toNat_natCast, Nat.mul_one, hx]
    refine ⟨?_, .refl _⟩
    rw [hXY]
    simp
    intro _ _
    omega
  · simp -dsimp (disch := first | omega | assumption | ((simp only [World.size_alloc, size_setRow, List.size_toArray, List.length_cons, List.length_nil, cells_agg, len_enc, cells_int, cells_bool, cells_slice, cells_ptr, cells_string]) <;> omega) | ((repeat (first | with_reducible exact Ext.refl _ | with_reducible assumption | with_reducible apply Ext.alloc | with_reducible apply Ext.drew | (with_reducible refine Ext.setRow ?_ (by (try simp only [World.size_alloc]); omega) _) | (with_reducible refine Ext.tr ?_ (by assumption)))); done) | fail) only [go_sem, jn_r, Nat.reduceAdd, Nat.reduceLeDiff, Nat.reduceMul, Int.reduceToNat, Nat.reduceEqDiff, Nat.reduceLT, Int.reduceBEq, Int.reduceBNe, Int.reduceLT, Int.reduceLE, Int.reduceAdd, Int.reduceSub, Int.reduceMul, Int.reduceDiv, Int.reduceMod, Int.reduceNeg, d0, d1, hb', hj0, Int.toNat_natCast, Nat.mul_one, hx]
    exact hn (X ++ [x], Y) _ _ ⟨by simp, by rw [hXY]; simp, by simp at hA ⊢; exact ⟨hA, by omega⟩, rfl⟩ (by simp)
/-- may a frame be? -/
def frRight (dst src typ : Int) (n : Nat) : Bool := decide (dst ≤ 281474976710655) && decide (src ≤ 281474976710655) && decide (0 ≤ typ) && decide (typ ≤ 65535) && decide ((n : Int) ≤ 1500)
theorem u64_one (x y : Int) : (intC .u64).enc x ++ (intC .u64).enc y = [.int .u64 x, .int .u64 y] := rfl
theorem ether_Right.c (w : World) (dst src typ : Int) (a : Option Addr) (n c : Nat) (h1 : -9223372036854775808 ≤ typ) (h2 : typ ≤ 9223372036854775807) :
    Calls Try.prog ether_Right.id #[.agg #[.int .u64 dst, .int .u64 src, .int .i64 typ, .slice a n c]] w (retP fun r w' => r = .bool (frRight dst src typ n) ∧ Ext w w') := by
  apply ether_Right.sound
  unfold ether_Right.sh
  simp -dsimp (disch := first | omega | assumption | ((simp only [World.size_alloc, size_setRow, List.size_toArray, List.length_cons, List.length_nil, cells_agg, len_enc, cells_int, cells_bool, cells_slice, cells_ptr, cells_string]) <;> omega) | ((repeat (first | with_reducible exact Ext.refl _ | with_reducible assumption | with_reducible apply Ext.alloc | with_reducible apply Ext.drew | (with_reducible refine Ext.setRow ?_ (by (try simp only [World.size_alloc]); omega) _) | (with_reducible refine Ext.tr ?_ (by assumption)))); done) | fail) only [go_sem, jn_r, Nat.reduceAdd, Nat.reduceLeDiff, Nat.reduceMul, Int.reduceToNat, Nat.reduceEqDiff, Nat.reduceLT, Int.reduceBEq, Int.reduceBNe, Int.reduceLT, Int.reduceLE, Int.reduceAdd, Int.reduceSub, Int.reduceMul, Int.reduceDiv, Int.reduceMod, Int.reduceNeg]
  refine callM (ether_upto.c _ 281474976710655 _ [dst, src] (Sl.lit (blk_new (by simp only [World.size_alloc])) rfl rfl) (by simp)) ?_
  rintro _ w1 ⟨rfl, hx⟩
  have hz := hx.size
  simp only [World.size_alloc] at hz
  have hx1 : Ext w w1 := Ext.tr (by (repeat (first | with_reducible exact Ext.refl _ | with_reducible assumption | with_reducible apply Ext.alloc | with_reducible apply Ext.drew | (with_reducible refine Ext.setRow ?_ (by (try simp only [World.size_alloc]); omega) _) | (with_reducible refine Ext.tr ?_ (by assumption))))) hx
  by_cases hc : (dst ≤ 281474976710655) ∧ (src ≤ 281474976710655)
  · have hc' : ([dst, src].all fun x => decide (x ≤ 281474976710655)) = true := by simp [hc]
    simp -dsimp (disch := first | omega | assumption | ((simp only [World.size_alloc, size_setRow, List.size_toArray, List.length_cons, List.length_nil, cells_agg, len_enc, cells_int, cells_bool, cells_slice, cells_ptr, cells_string]) <;> omega) | ((repeat (first | with_reducible exact Ext.refl _ | with_reducible assumption | with_reducible apply Ext.alloc | with_reducible apply Ext.drew | (with_reducible refine Ext.setRow ?_ (by (try simp only [World.size_alloc]); omega) _) | (with_reducible refine Ext.tr ?_ (by assumption)))); done) | fail) only [go_sem, jn_r, Nat.reduceAdd, Nat.reduceLeDiff, Nat.reduceMul, Int.reduceToNat, Nat.reduceEqDiff, Nat.reduceLT, Int.reduceBEq, Int.reduceBNe, Int.reduceLT, Int.reduceLE, Int.reduceAdd, Int.reduceSub, Int.reduceMul, Int.reduceDiv, Int.reduceMod, Int.reduceNeg, hc', hx.blk]
    refine callM (ether_upto.c _ 65535 _ [IntKind.u64.wrap typ] (Sl.lit (blk_new (by simp only [World.size_alloc])) rfl rfl) (by simp)) ?_
    rintro _ w2 ⟨rfl, hx2⟩
    have hz2 := hx2.size
    simp only [World.size_alloc] at hz2
    have hw : ([IntKind.u64.wrap typ].all fun x => decide (x ≤ 65535)) = (decide (0 ≤ typ) && decide (typ ≤ 65535)) := by
      simp only [List.all_cons, List.all_nil, Bool.and_true, IntKind.wrap, IntKind.bits, IntKind.signed]
      rw [Bool.eq_iff_iff]
      simp
      omega
    cases hq : (decide (0 ≤ typ) && decide (typ ≤ 65535)) with
    | false =>
      simp -dsimp (disch := first | omega | assumption | ((simp only [World.size_alloc, size_setRow, List.size_toArray, List.length_cons, List.length_nil, cells_agg, len_enc, cells_int, cells_bool, cells_slice, cells_ptr, cells_string]) <;> omega) | ((repeat (first | with_reducible exact Ext.refl _ | with_reducible assumption | with_reducible apply Ext.alloc | with_reducible apply Ext.drew | (with_reducible refine Ext.setRow ?_ (by (try simp only [World.size_alloc]); omega) _) | (with_reducible refine Ext.tr ?_ (by assumption)))); done) | fail) only [go_sem, jn_r, Nat.reduceAdd, Nat.reduceLeDiff, Nat.reduceMul, Int.reduceToNat, Nat.reduceEqDiff, Nat.reduceLT, Int.reduceBEq, Int.reduceBNe, Int.reduceLT, Int.reduceLE, Int.reduceAdd, Int.reduceSub, Int.reduceMul, Int.reduceDiv, Int.reduceMod, Int.reduceNeg, hw, hq]
      exact ⟨by simp only [frRight, Bool.and_assoc]; rw [← Bool.and_assoc (decide (0 ≤ typ)), hq]; simp, Ext.tr (by (repeat (first | with_reducible exact Ext.refl _ | with_reducible assumption | with_reducible apply Ext.alloc | with_reducible apply Ext.drew | (with_reducible refine Ext.setRow ?_ (by (try simp only [World.size_alloc]); omega) _) | (with_reducible refine Ext.tr ?_ (by assumption))))) hx2⟩
    | true =>
      simp -dsimp (disch := first | omega | assumption | ((simp only [World.size_alloc, size_setRow, List.size_toArray, List.length_cons, List.length_nil, cells_agg, len_enc, cells_int, cells_bool, cells_slice, cells_ptr, cells_string]) <;> omega) | ((repeat (first | with_reducible exact Ext.refl _ | with_reducible assumption | with_reducible apply Ext.alloc | with_reducible apply Ext.drew | (with_reducible refine Ext.setRow ?_ (by (try simp only [World.size_alloc]); omega) _) | (with_reducible refine Ext.tr ?_ (by assumption)))); done) | fail) only [go_sem, jn_r, Nat.reduceAdd, Nat.reduceLeDiff, Nat.reduceMul, Int.reduceToNat, Nat.reduceEqDiff, Nat.reduceLT, Int.reduceBEq, Int.reduceBNe, Int.reduceLT, Int.reduceLE, Int.reduceAdd, Int.reduceSub, Int.reduceMul, Int.reduceDiv, Int.reduceMod, Int.reduceNeg, hw, hq, hx2.blk, hx.blk]
      refine ⟨?_, Ext.tr (by (repeat (first | with_reducible exact Ext.refl _ | with_reducible assumption | with_reducible apply Ext.alloc | with_reducible apply Ext.drew | (with_reducible refine Ext.setRow ?_ (by (try simp only [World.size_alloc]); omega) _) | (with_reducible refine Ext.tr ?_ (by assumption))))) hx2⟩
      simp only [frRight, Bool.and_assoc]
      rw [← Bool.and_assoc (decide (0 ≤ typ)), hq]
      simp [hc]
  · have hc' : ([dst, src].all fun x => decide (x ≤ 281474976710655)) = false := by simp; omega
    simp -dsimp (disch := first | omega | assumption | ((simp only [World.size_alloc, size_setRow, List.size_toArray, List.length_cons, List.length_nil, cells_agg, len_enc, cells_int, cells_bool, cells_slice, cells_ptr, cells_string]) <;> omega) | ((repeat (first | with_reducible exact Ext.refl _ | with_reducible assumption | with_reducible apply Ext.alloc | with_reducible apply Ext.drew | (with_reducible refine Ext.setRow ?_ (by (try simp only [World.size_alloc]); omega) _) | (with_reducible refine Ext.tr ?_ (by assumption)))); done) | fail) only [go_sem, jn_r, Nat.reduceAdd, Nat.reduceLeDiff, Nat.reduceMul, Int.reduceToNat, Nat.reduceEqDiff, Nat.reduceLT, Int.reduceBEq, Int.reduceBNe, Int.reduceLT, Int.reduceLE, Int.reduceAdd, Int.reduceSub, Int.reduceMul, Int.reduceDiv, Int.reduceMod, Int.reduceNeg, hc']
    refine ⟨?_, hx1⟩
    have : (decide (dst ≤ 281474976710655) && decide (src ≤ 281474976710655)) = false := by simp; omega
    simp [frRight, this]
theorem rutterref02_Right.c (w : World) (dst src typ : Int) (a : Option Addr) (n c : Nat) :
    Calls Try.prog rutterref02_Right.id #[.agg #[.int .u64 dst, .int .u64 src, .int .i64 typ, .slice a n c]] w (retP fun r w' => r = .bool (frRight dst src typ n) ∧ Ext w w') := by
  apply rutterref02_Right.sound
  unfold rutterref02_Right.sh
  cases h1 : decide (dst ≤ 281474976710655) <;> cases h2 : decide (src ≤ 281474976710655) <;> cases h3 : decide (0 ≤ typ) <;> cases h4 : decide (typ ≤ 65535)
  all_goals
    simp -dsimp (disch := first | omega | assumption | ((simp only [World.size_alloc, size_setRow, List.size_toArray, List.length_cons, List.length_nil, cells_agg, len_enc, cells_int, cells_bool, cells_slice, cells_ptr, cells_string]) <;> omega) | ((repeat (first | with_reducible exact Ext.refl _ | with_reducible assumption | with_reducible apply Ext.alloc | with_reducible apply Ext.drew | (with_reducible refine Ext.setRow ?_ (by (try simp only [World.size_alloc]); omega) _) | (with_reducible refine Ext.tr ?_ (by assumption)))); done) | fail) only [go_sem, jn_r, Nat.reduceAdd, Nat.reduceLeDiff, Nat.reduceMul, Int.reduceToNat, Nat.reduceEqDiff, Nat.reduceLT, Int.reduceBEq, Int.reduceBNe, Int.reduceLT, Int.reduceLE, Int.reduceAdd, Int.reduceSub, Int.reduceMul, Int.reduceDiv, Int.reduceMod, Int.reduceNeg, h1, h2, h3, h4]
    exact ⟨by simp only [frRight, h1, h2, h3, h4, Bool.and_true, Bool.true_and, Bool.false_and, Bool.and_false], by (repeat (first | with_reducible exact Ext.refl _ | with_reducible assumption | with_reducible apply Ext.alloc | with_reducible apply Ext.drew | (with_reducible refine Ext.setRow ?_ (by (try simp only [World.size_alloc]); omega) _) | (with_reducible refine Ext.tr ?_ (by assumption))))⟩
theorem rutterlaw02_Fits.c (w : World) (dst src typ : Int) (a : Option Addr) (n c : Nat) :
    Calls Try.prog rutterlaw02_Fits.id #[.agg #[.int .u64 dst, .int .u64 src, .int .i64 typ, .slice a n c]] w (retP fun r w' => r = .bool (decide ((n : Int) ≤ 3000)) ∧ Ext w w') := by
  apply rutterlaw02_Fits.sound
  unfold rutterlaw02_Fits.sh
  simp -dsimp (disch := first | omega | assumption | ((simp only [World.size_alloc, size_setRow, List.size_toArray, List.length_cons, List.length_nil, cells_agg, len_enc, cells_int, cells_bool, cells_slice, cells_ptr, cells_string]) <;> omega) | ((repeat (first | with_reducible exact Ext.refl _ | with_reducible assumption | with_reducible apply Ext.alloc | with_reducible apply Ext.drew | (with_reducible refine Ext.setRow ?_ (by (try simp only [World.size_alloc]); omega) _) | (with_reducible refine Ext.tr ?_ (by assumption)))); done) | fail) only [go_sem, jn_r, Nat.reduceAdd, Nat.reduceLeDiff, Nat.reduceMul, Int.reduceToNat, Nat.reduceEqDiff, Nat.reduceLT, Int.reduceBEq, Int.reduceBNe, Int.reduceLT, Int.reduceLE, Int.reduceAdd, Int.reduceSub, Int.reduceMul, Int.reduceDiv, Int.reduceMod, Int.reduceNeg]
  (repeat (first | with_reducible exact Ext.refl _ | with_reducible assumption | with_reducible apply Ext.alloc | with_reducible apply Ext.drew | (with_reducible refine Ext.setRow ?_ (by (try simp only [World.size_alloc]); omega) _) | (with_reducible refine Ext.tr ?_ (by assumption))))
/-- a frame's bytes -/
def frB (dst src typ : Int) (load : List UInt8) : List UInt8 := numB dst 6 ++ numB src 6 ++ numB typ 2 ++ load
theorem rutterref02_Bytes.c (w : World) (dst src typ : Int) (s : Value) (load : List UInt8) (hs : Sl bytC w s load) (hd : 0 ≤ dst) (hsr : 0 ≤ src) (hr : frRight dst src typ load.length = true) :
    Calls Try.prog rutterref02_Bytes.id #[.agg #[.int .u64 dst, .int .u64 src, .int .i64 typ, s]] w (retP fun r w' => Ow bytC 5 w.heap.size w' r (frB dst src typ load) ∧ Ext w w') := by
  simp [frRight] at hr
  apply rutterref02_Bytes.sound
  unfold rutterref02_Bytes.sh
  simp -dsimp (disch := first | omega | assumption | ((simp only [World.size_alloc, size_setRow, List.size_toArray, List.length_cons, List.length_nil, cells_agg, len_enc, cells_int, cells_bool, cells_slice, cells_ptr, cells_string]) <;> omega) | ((repeat (first | with_reducible exact Ext.refl _ | with_reducible assumption | with_reducible apply Ext.alloc | with_reducible apply Ext.drew | (with_reducible refine Ext.setRow ?_ (by (try simp only [World.size_alloc]); omega) _) | (with_reducible refine Ext.tr ?_ (by assumption)))); done) | fail) only [go_sem, jn_r, Nat.reduceAdd, Nat.reduceLeDiff, Nat.reduceMul, Int.reduceToNat, Nat.reduceEqDiff, Nat.reduceLT, Int.reduceBEq, Int.reduceBNe, Int.reduceLT, Int.reduceLE, Int.reduceAdd, Int.reduceSub, Int.reduceMul, Int.reduceDiv, Int.reduceMod, Int.reduceNeg]
  refine callM (rutterref01_One.c _ 6 dst (by omega) (by omega) hd (by omega)) ?_
  rintro v1 w1 ⟨hO1, hx1⟩
  have hz1 := hx1.size
  simp only [World.size_alloc] at hz1
  have hE1 : Ext w w1 := Ext.tr (by (repeat (first | with_reducible exact Ext.refl _ | with_reducible assumption | with_reducible apply Ext.alloc | with_reducible apply Ext.drew | (with_reducible refine Ext.setRow ?_ (by (try simp only [World.size_alloc]); omega) _) | (with_reducible refine Ext.tr ?_ (by assumption))))) hx1
  simp -dsimp (disch := first | omega | assumption | ((simp only [World.size_alloc, size_setRow, List.size_toArray, List.length_cons, List.length_nil, cells_agg, len_enc, cells_int, cells_bool, cells_slice, cells_ptr, cells_string]) <;> omega) | ((repeat (first | with_reducible exact Ext.refl _ | with_reducible assumption | with_reducible apply Ext.alloc | with_reducible apply Ext.drew | (with_reducible refine Ext.setRow ?_ (by (try simp only [World.size_alloc]); omega) _) | (with_reducible refine Ext.tr ?_ (by assumption)))); done) | fail) only [go_sem, jn_r, Nat.reduceAdd, Nat.reduceLeDiff, Nat.reduceMul, Int.reduceToNat, Nat.reduceEqDiff, Nat.reduceLT, Int.reduceBEq, Int.reduceBNe, Int.reduceLT, Int.reduceLE, Int.reduceAdd, Int.reduceSub, Int.reduceMul, Int.reduceDiv, Int.reduceMod, Int.reduceNeg, hx1.blk]
  refine callM (rutterref01_One.c w1 6 src (by omega) (by omega) hsr (by omega)) ?_
  rintro v2 w2 ⟨hO2, hx2⟩
  have hz2 := hx2.size
  have hE2 : Ext w w2 := Ext.tr hE1 hx2
  refine ap_at (l := numB dst 6) (m := numB src 6) (hO1.ext hx2) hO2.sl.from (by simp only [World.size_alloc]; omega) (by simp [numB_len]) fun v3 w3 hO3 hg3 _ _ => ?_
  have hE3 : Ext w w3 := hE2.grown hg3 fun g hg => Nat.le_trans (by simp) (hO1.lt hg).1
  have hz3 := hg3.size
  have hb3 : blk w3 w.heap.size = some #[.int .u64 dst, .int .u64 src, .int .i64 typ, s] := grown_blk hg3 (hx2.blkS (hx1.blkS (blk_new rfl))) (hO1.ne (by simp))
  simp -dsimp (disch := first | omega | assumption | ((simp only [World.size_alloc, size_setRow, List.size_toArray, List.length_cons, List.length_nil, cells_agg, len_enc, cells_int, cells_bool, cells_slice, cells_ptr, cells_string]) <;> omega) | ((repeat (first | with_reducible exact Ext.refl _ | with_reducible assumption | with_reducible apply Ext.alloc | with_reducible apply Ext.drew | (with_reducible refine Ext.setRow ?_ (by (try simp only [World.size_alloc]); omega) _) | (with_reducible refine Ext.tr ?_ (by assumption)))); done) | fail) only [go_sem, jn_r, Nat.reduceAdd, Nat.reduceLeDiff, Nat.reduceMul, Int.reduceToNat, Nat.reduceEqDiff, Nat.reduceLT, Int.reduceBEq, Int.reduceBNe, Int.reduceLT, Int.reduceLE, Int.reduceAdd, Int.reduceSub, Int.reduceMul, Int.reduceDiv, Int.reduceMod, Int.reduceNeg, hb3]
  refine callM (rutterref01_One.c w3 2 typ (by omega) (by omega) (by omega) (by omega)) ?_
  rintro v4 w4 ⟨hO4, hx4⟩
  have hE4 : Ext w w4 := Ext.tr hE3 hx4
  have hz4 := hx4.size
  refine ap_at (l := numB dst 6 ++ numB src 6) (m := numB typ 2) (hO3.ext hx4) hO4.sl.from (by simp only [World.size_alloc]; omega) (by simp [numB_len]) fun v5 w5 hO5 hg5 _ _ => ?_
  have hE5 : Ext w w5 := hE4.grown hg5 fun g hg => Nat.le_trans (by simp) (hO3.lt hg).1
  have hb5 : blk w5 w.heap.size = some #[.int .u64 dst, .int .u64 src, .int .i64 typ, s] := grown_blk hg5 (hx4.blkS hb3) (hO3.ne (by simp))
  simp -dsimp (disch := first | omega | assumption | ((simp only [World.size_alloc, size_setRow, List.size_toArray, List.length_cons, List.length_nil, cells_agg, len_enc, cells_int, cells_bool, cells_slice, cells_ptr, cells_string]) <;> omega) | ((repeat (first | with_reducible exact Ext.refl _ | with_reducible assumption | with_reducible apply Ext.alloc | with_reducible apply Ext.drew | (with_reducible refine Ext.setRow ?_ (by (try simp only [World.size_alloc]); omega) _) | (with_reducible refine Ext.tr ?_ (by assumption)))); done) | fail) only [go_sem, jn_r, Nat.reduceAdd, Nat.reduceLeDiff, Nat.reduceMul, Int.reduceToNat, Nat.reduceEqDiff, Nat.reduceLT, Int.reduceBEq, Int.reduceBNe, Int.reduceLT, Int.reduceLE, Int.reduceAdd, Int.reduceSub, Int.reduceMul, Int.reduceDiv, Int.reduceMod, Int.reduceNeg, hb5]
  refine ap_ow (l := numB dst 6 ++ numB src 6 ++ numB typ 2) (m := load) (lo := w.heap.size) (hO5.mono (by simp)) (hs.ext hE5).from hE5 rfl (by simp [numB_len]; omega) fun v6 w6 hO6 hE6 hg6 _ => ?_
  exact ⟨hO6, hE6⟩
theorem putB_two (x y : Int) (n : Nat) (l : List UInt8) (hx : okN n x = true) (hy : okN n y = true) : putB n [x, y] (l, false) = (l ++ numB x n ++ numB y n, false) := by simp [putB, hx, hy]
theorem putB_one (x : Int) (n : Nat) (l : List UInt8) (hx : okN n x = true) : putB n [x] (l, false) = (l ++ numB x n, false) := by simp [putB, hx]
theorem okN_le {n : Nat} {x : Int} (h0 : 0 ≤ x) (h : x < 2 ^ (8 * n)) : okN n x = true := by
  have : x / 2 ^ (8 * n) = 0 := Int.ediv_eq_zero_of_lt h0 h
  simp [okN, h0, this]
theorem ether_Encode.bad (w : World) (dst src typ : Int) (a : Option Addr) (n c : Nat) (h1 : -9223372036854775808 ≤ typ) (h2 : typ ≤ 9223372036854775807) (hr : frRight dst src typ n = false) :
    Calls Try.prog ether_Encode.id #[.agg #[.int .u64 dst, .int .u64 src, .int .i64 typ, .slice a n c]] w (retP fun r w' => r = .tuple #[.slice none 0 0, .int .i64 1] ∧ Ext w w') := by
  apply ether_Encode.sound
  unfold ether_Encode.sh
  simp -dsimp (disch := first | omega | assumption | ((simp only [World.size_alloc, size_setRow, List.size_toArray, List.length_cons, List.length_nil, cells_agg, len_enc, cells_int, cells_bool, cells_slice, cells_ptr, cells_string]) <;> omega) | ((repeat (first | with_reducible exact Ext.refl _ | with_reducible assumption | with_reducible apply Ext.alloc | with_reducible apply Ext.drew | (with_reducible refine Ext.setRow ?_ (by (try simp only [World.size_alloc]); omega) _) | (with_reducible refine Ext.tr ?_ (by assumption)))); done) | fail) only [go_sem, jn_r, Nat.reduceAdd, Nat.reduceLeDiff, Nat.reduceMul, Int.reduceToNat, Nat.reduceEqDiff, Nat.reduceLT, Int.reduceBEq, Int.reduceBNe, Int.reduceLT, Int.reduceLE, Int.reduceAdd, Int.reduceSub, Int.reduceMul, Int.reduceDiv, Int.reduceMod, Int.reduceNeg]
  refine callM (ether_Right.c _ dst src typ a n c h1 h2) ?_
  rintro _ w1 ⟨rfl, hx1⟩
  simp -dsimp (disch := first | omega | assumption | ((simp only [World.size_alloc, size_setRow, List.size_toArray, List.length_cons, List.length_nil, cells_agg, len_enc, cells_int, cells_bool, cells_slice, cells_ptr, cells_string]) <;> omega) | ((repeat (first | with_reducible exact Ext.refl _ | with_reducible assumption | with_reducible apply Ext.alloc | with_reducible apply Ext.drew | (with_reducible refine Ext.setRow ?_ (by (try simp only [World.size_alloc]); omega) _) | (with_reducible refine Ext.tr ?_ (by assumption)))); done) | fail) only [go_sem, jn_r, Nat.reduceAdd, Nat.reduceLeDiff, Nat.reduceMul, Int.reduceToNat, Nat.reduceEqDiff, Nat.reduceLT, Int.reduceBEq, Int.reduceBNe, Int.reduceLT, Int.reduceLE, Int.reduceAdd, Int.reduceSub, Int.reduceMul, Int.reduceDiv, Int.reduceMod, Int.reduceNeg, hr]
  exact Ext.tr (by (repeat (first | with_reducible exact Ext.refl _ | with_reducible assumption | with_reducible apply Ext.alloc | with_reducible apply Ext.drew | (with_reducible refine Ext.setRow ?_ (by (try simp only [World.size_alloc]); omega) _) | (with_reducible refine Ext.tr ?_ (by assumption))))) hx1
theorem ether_Encode.c (w : World) (dst src typ : Int) (s : Value) (load : List UInt8) (hs : Sl bytC w s load) (hd : 0 ≤ dst) (hsr : 0 ≤ src) (hr : frRight dst src typ load.length = true) :
    Calls Try.prog ether_Encode.id #[.agg #[.int .u64 dst, .int .u64 src, .int .i64 typ, s]] w (retP fun r w' => ∃ v, r = .tuple #[v, .int .i64 0] ∧ Ow bytC 5 w.heap.size w' v (frB dst src typ load) ∧ Ext w w') := by
  have hr' := hr
  simp [frRight] at hr'
  obtain ⟨a, c, rfl⟩ := hs.form
  apply ether_Encode.sound
  unfold ether_Encode.sh
  simp -dsimp (disch := first | omega | assumption | ((simp only [World.size_alloc, size_setRow, List.size_toArray, List.length_cons, List.length_nil, cells_agg, len_enc, cells_int, cells_bool, cells_slice, cells_ptr, cells_string]) <;> omega) | ((repeat (first | with_reducible exact Ext.refl _ | with_reducible assumption | with_reducible apply Ext.alloc | with_reducible apply Ext.drew | (with_reducible refine Ext.setRow ?_ (by (try simp only [World.size_alloc]); omega) _) | (with_reducible refine Ext.tr ?_ (by assumption)))); done) | fail) only [go_sem, jn_r, Nat.reduceAdd, Nat.reduceLeDiff, Nat.reduceMul, Int.reduceToNat, Nat.reduceEqDiff, Nat.reduceLT, Int.reduceBEq, Int.reduceBNe, Int.reduceLT, Int.reduceLE, Int.reduceAdd, Int.reduceSub, Int.reduceMul, Int.reduceDiv, Int.reduceMod, Int.reduceNeg]
  refine callM (ether_Right.c _ dst src typ a load.length c (by omega) (by omega)) ?_
  rintro _ w1 ⟨rfl, hx1⟩
  have hz1 := hx1.size
  simp only [World.size_alloc] at hz1
  have hE1 : Ext w w1 := Ext.tr (by (repeat (first | with_reducible exact Ext.refl _ | with_reducible assumption | with_reducible apply Ext.alloc | with_reducible apply Ext.drew | (with_reducible refine Ext.setRow ?_ (by (try simp only [World.size_alloc]); omega) _) | (with_reducible refine Ext.tr ?_ (by assumption))))) hx1
  have hb1 : blk w1 w.heap.size = some #[.int .u64 dst, .int .u64 src, .int .i64 typ, .slice a load.length c] := hx1.blkS (blk_new rfl)
  have q1 : IntKind.i64.wrap dst = dst := wrap_64 (by omega) (by omega)
  have q2 : IntKind.i64.wrap src = src := wrap_64 (by omega) (by omega)
  have o1 : okN 6 dst = true := okN_le hd (by simp; omega)
  have o2 : okN 6 src = true := okN_le hsr (by simp; omega)
  have o3 : okN 2 typ = true := okN_le (by omega) (by simp; omega)
  -- behind the second number
  have tail : ∀ (w2 : World) (p : Nat) (sv : Value), Ext w w2 → blk w2 w.heap.size = some #[.int .u64 dst, .int .u64 src, .int .i64 typ, .slice a load.length c] → WrAt w2 p sv (numB dst 6 ++ numB src 6 ++ numB typ 2) false → w.heap.size < p → (∀ b, sv.ownBlock = some b → w.heap.size < b) →
      Calls Try.prog buf_Writer_Done.id #[.pointer (some ⟨p, 0, none⟩)] w2 (retP fun t19 w3 => pv (ex t19 0) fun t20 => pv (ex t19 1) fun t21 => fx (.pointer (some ⟨w.heap.size, 0, none⟩)) 3 fun t22 => l1 t22 w3 fun t23 =>
        o (ap #[24, 24] 24 #[false, false] t20 t23) w3 fun t24 w4 => ∃ v, (.tuple #[t24, t21] : Value) = .tuple #[v, .int .i64 0] ∧ Ow bytC 5 w.heap.size w4 v (frB dst src typ load) ∧ Ext w w4) := by
    intro w2 p sv hE hb hW hp hsv
    refine callM (buf_Writer_Done.c w2 p sv _ false hW (by simp [numB_len])) ?_
    rintro r w3 ⟨-, h, hx3⟩
    obtain ⟨v, rfl, hO⟩ := h rfl
    have hb3 := hx3.blkS hb
    have hE3 := hE.tr hx3
    simp -dsimp (disch := first | omega | assumption | ((simp only [World.size_alloc, size_setRow, List.size_toArray, List.length_cons, List.length_nil, cells_agg, len_enc, cells_int, cells_bool, cells_slice, cells_ptr, cells_string]) <;> omega) | ((repeat (first | with_reducible exact Ext.refl _ | with_reducible assumption | with_reducible apply Ext.alloc | with_reducible apply Ext.drew | (with_reducible refine Ext.setRow ?_ (by (try simp only [World.size_alloc]); omega) _) | (with_reducible refine Ext.tr ?_ (by assumption)))); done) | fail) only [go_sem, jn_r, Nat.reduceAdd, Nat.reduceLeDiff, Nat.reduceMul, Int.reduceToNat, Nat.reduceEqDiff, Nat.reduceLT, Int.reduceBEq, Int.reduceBNe, Int.reduceLT, Int.reduceLE, Int.reduceAdd, Int.reduceSub, Int.reduceMul, Int.reduceDiv, Int.reduceMod, Int.reduceNeg, hb3]
    refine ap_ow (l := numB dst 6 ++ numB src 6 ++ numB typ 2) (m := load) (lo := w.heap.size) (hO.mono hE.size) (hs.ext hE3).from hE3 rfl (by simp [numB_len]; omega) fun v6 w6 hO6 hE6 hg6 _ => ?_
    exact ⟨v6, rfl, hO6, hE6⟩
  have hlt : w.heap.size < w1.heap.size := by omega
  have put1 : ∀ (w2 : World) (p b1 : Nat), w1.heap.size ≤ p → w1.heap.size ≤ b1 → p ≠ b1 → Ext w1 w2 → blk0 w2 p = some #[.slice none 0 0, .bool false] → blk w2 b1 = some #[.int .i64 dst, .int .i64 src] →
      Calls Try.prog buf_Writer_Put.id #[.pointer (some ⟨p, 0, none⟩), .int .i64 6, .slice (some ⟨b1, 0, none⟩) 2 2] w2 (retP fun r w3 => r = .pointer (some ⟨p, 0, none⟩) ∧ ∃ s', WrAt w3 p s' (numB dst 6 ++ numB src 6) false ∧ Ext w1 w3 ∧ Chg [p] w2 w3 ∧ ∀ b, s'.ownBlock = some b → w2.heap.size ≤ b) := by
    intro w2 p b1 hp hb1 hne hE hb0 hbx
    refine callM (buf_Writer_Put.c w2 p 6 (.slice none 0 0) (.slice (some ⟨b1, 0, none⟩) 2 2) [] false [dst, src] ⟨hb0, Ow.nil, by simp [Value.ownBlock]⟩ (Sl.lit hbx rfl rfl) (fun b hb => ?_) (by omega) (by omega) (by simp) (by simp)) ?_
    · simp [Value.ownBlock] at hb
      subst hb
      exact ⟨fun e => hne e.symm, by simp [Value.ownBlock], blk_lt hbx⟩
    · rintro r w3 ⟨rfl, s', h1, h2, h3⟩
      rw [putB_two _ _ _ _ o1 o2] at h1
      refine ⟨rfl, s', h1, hE.then h2 (by simpa [Value.ownBlock] using hp), by simpa [Value.ownBlock] using h2, fun b hb => ?_⟩
      rcases h3 with h3 | h3
      · rw [h3] at hb; simp [Value.ownBlock] at hb
      · exact h3 b hb
  have tail2 : ∀ (w3 : World) (p b2 : Nat) (s' : Value), w1.heap.size ≤ p → w1.heap.size ≤ b2 → p ≠ b2 → s'.ownBlock ≠ some b2 → (∀ b, s'.ownBlock = some b → w1.heap.size ≤ b) → Ext w1 w3 → WrAt w3 p s' (numB dst 6 ++ numB src 6) false → blk w3 b2 = some #[.int .i64 typ] →
      Calls Try.prog buf_Writer_Put.id #[.pointer (some ⟨p, 0, none⟩), .int .i64 2, .slice (some ⟨b2, 0, none⟩) 1 1] w3 (retP fun t18 w4 => Calls Try.prog buf_Writer_Done.id #[t18] w4 (retP fun t19 w3 => pv (ex t19 0) fun t20 => pv (ex t19 1) fun t21 => fx (.pointer (some ⟨w.heap.size, 0, none⟩)) 3 fun t22 => l1 t22 w3 fun t23 =>
        o (ap #[24, 24] 24 #[false, false] t20 t23) w3 fun t24 w4 => ∃ v, (.tuple #[t24, t21] : Value) = .tuple #[v, .int .i64 0] ∧ Ow bytC 5 w.heap.size w4 v (frB dst src typ load) ∧ Ext w w4)) := by
    intro w3 p b2 s' hp hb2 hne hsb hs hE hW hbx
    refine callM (buf_Writer_Put.c w3 p 2 s' (.slice (some ⟨b2, 0, none⟩) 1 1) _ false [typ] hW (Sl.lit hbx rfl rfl) (fun b hb => ?_) (by omega) (by omega) (by simp [numB_len]) (by simp)) ?_
    · simp [Value.ownBlock] at hb
      subst hb
      exact ⟨fun e => hne e.symm, hsb, blk_lt hbx⟩
    · rintro r w4 ⟨rfl, s2, h1, h2, h3⟩
      rw [putB_one _ _ _ o3] at h1
      have hS : ∀ b ∈ p :: s'.ownBlock.toList, w1.heap.size ≤ b := by
        intro b hb
        rcases List.mem_cons.1 hb with rfl | hb
        · exact hp
        · exact hs b (by simpa using hb)
      have hE4 : Ext w1 w4 := hE.then h2 hS
      refine tail w4 p s2 (hE1.tr hE4) (hE4.blkS hb1) h1 (by omega) fun b hb => ?_
      rcases h3 with h3 | h3
      · have := hs b (by rw [← h3]; exact hb); omega
      · have := h3 b hb; have := hE.size; omega
  have dsz : ∀ w : World, w.drew.heap.size = w.heap.size := fun _ => rfl
  simp -dsimp (disch := first | omega | assumption | ((simp only [World.size_alloc, size_setRow, List.size_toArray, List.length_cons, List.length_nil, cells_agg, len_enc, cells_int, cells_bool, cells_slice, cells_ptr, cells_string]) <;> omega) | ((repeat (first | with_reducible exact Ext.refl _ | with_reducible assumption | with_reducible apply Ext.alloc | with_reducible apply Ext.drew | (with_reducible refine Ext.setRow ?_ (by (try simp only [World.size_alloc]); omega) _) | (with_reducible refine Ext.tr ?_ (by assumption)))); done) | fail) only [go_sem, jn_r, Nat.reduceAdd, Nat.reduceLeDiff, Nat.reduceMul, Int.reduceToNat, Nat.reduceEqDiff, Nat.reduceLT, Int.reduceBEq, Int.reduceBNe, Int.reduceLT, Int.reduceLE, Int.reduceAdd, Int.reduceSub, Int.reduceMul, Int.reduceDiv, Int.reduceMod, Int.reduceNeg, hr, hb1, q1, q2]
  refine ⟨⟨⟨?_, ?_⟩, ?_⟩, ⟨⟨?_, ?_⟩, ?_⟩, ⟨?_, ?_⟩⟩
  all_goals refine callM (put1 _ _ _ ?_ ?_ ?_ ?_ ?_ ?_) ?_
  any_goals (first | (simp only [World.size_alloc, dsz] ; omega) | (simp only [dsz]; omega) | ((repeat (first | with_reducible exact Ext.refl _ | with_reducible assumption | with_reducible apply Ext.alloc | with_reducible apply Ext.drew | (with_reducible refine Ext.setRow ?_ (by (try simp only [World.size_alloc]); omega) _) | (with_reducible refine Ext.tr ?_ (by assumption)))); done) | (simp -dsimp (disch := first | omega | assumption | ((simp only [World.size_alloc, size_setRow, List.size_toArray, List.length_cons, List.length_nil, cells_agg, len_enc, cells_int, cells_bool, cells_slice, cells_ptr, cells_string]) <;> omega) | ((repeat (first | with_reducible exact Ext.refl _ | with_reducible assumption | with_reducible apply Ext.alloc | with_reducible apply Ext.drew | (with_reducible refine Ext.setRow ?_ (by (try simp only [World.size_alloc]); omega) _) | (with_reducible refine Ext.tr ?_ (by assumption)))); done) | fail) only [go_sem, jn_r, Nat.reduceAdd, Nat.reduceLeDiff, Nat.reduceMul, Int.reduceToNat, Nat.reduceEqDiff, Nat.reduceLT, Int.reduceBEq, Int.reduceBNe, Int.reduceLT, Int.reduceLE, Int.reduceAdd, Int.reduceSub, Int.reduceMul, Int.reduceDiv, Int.reduceMod, Int.reduceNeg, dsz]; done) | (simp -dsimp (disch := first | omega | assumption | ((simp only [World.size_alloc, size_setRow, List.size_toArray, List.length_cons, List.length_nil, cells_agg, len_enc, cells_int, cells_bool, cells_slice, cells_ptr, cells_string]) <;> omega) | ((repeat (first | with_reducible exact Ext.refl _ | with_reducible assumption | with_reducible apply Ext.alloc | with_reducible apply Ext.drew | (with_reducible refine Ext.setRow ?_ (by (try simp only [World.size_alloc]); omega) _) | (with_reducible refine Ext.tr ?_ (by assumption)))); done) | fail) only [go_sem, jn_r, Nat.reduceAdd, Nat.reduceLeDiff, Nat.reduceMul, Int.reduceToNat, Nat.reduceEqDiff, Nat.reduceLT, Int.reduceBEq, Int.reduceBNe, Int.reduceLT, Int.reduceLE, Int.reduceAdd, Int.reduceSub, Int.reduceMul, Int.reduceDiv, Int.reduceMod, Int.reduceNeg, dsz]; rfl))
  all_goals
    rintro _ w3 ⟨rfl, s', hW3, hE3, hC3, hs3⟩
    have hz3 := hE3.size
    simp only [World.size_alloc, dsz] at hs3
    have hb3 := hE3.blkS hb1
    have hzz := hC3.size
    simp only [World.size_alloc, dsz] at hzz
  any_goals
    have e9 := Ext.alloc (Ext.refl w3) (.cells #[.int .i64 typ] 3)
    simp -dsimp (disch := first | omega | assumption | ((simp only [World.size_alloc, size_setRow, List.size_toArray, List.length_cons, List.length_nil, cells_agg, len_enc, cells_int, cells_bool, cells_slice, cells_ptr, cells_string]) <;> omega) | ((repeat (first | with_reducible exact Ext.refl _ | with_reducible assumption | with_reducible apply Ext.alloc | with_reducible apply Ext.drew | (with_reducible refine Ext.setRow ?_ (by (try simp only [World.size_alloc]); omega) _) | (with_reducible refine Ext.tr ?_ (by assumption)))); done) | fail) only [go_sem, jn_r, Nat.reduceAdd, Nat.reduceLeDiff, Nat.reduceMul, Int.reduceToNat, Nat.reduceEqDiff, Nat.reduceLT, Int.reduceBEq, Int.reduceBNe, Int.reduceLT, Int.reduceLE, Int.reduceAdd, Int.reduceSub, Int.reduceMul, Int.reduceDiv, Int.reduceMod, Int.reduceNeg, hb3, rk_k]
    refine tail2 _ _ _ s' ?_ ?_ ?_ ?_ ?_ (hE3.tr e9) (hW3.ext e9) (blk_new rfl)
  any_goals refine tail2 _ _ _ s' ?_ ?_ ?_ ?_ ?_ hE3 hW3 (hC3.blkS ?_ ?_)
  any_goals (first | omega | (simp only [World.size_alloc, dsz]; omega) | (intro b hb; have := hs3 b hb; omega) | (intro h; have := (hW3.ow.lt h).2; omega) | (simp -dsimp (disch := first | omega | assumption | ((simp only [World.size_alloc, size_setRow, List.size_toArray, List.length_cons, List.length_nil, cells_agg, len_enc, cells_int, cells_bool, cells_slice, cells_ptr, cells_string]) <;> omega) | ((repeat (first | with_reducible exact Ext.refl _ | with_reducible assumption | with_reducible apply Ext.alloc | with_reducible apply Ext.drew | (with_reducible refine Ext.setRow ?_ (by (try simp only [World.size_alloc]); omega) _) | (with_reducible refine Ext.tr ?_ (by assumption)))); done) | fail) only [go_sem, jn_r, Nat.reduceAdd, Nat.reduceLeDiff, Nat.reduceMul, Int.reduceToNat, Nat.reduceEqDiff, Nat.reduceLT, Int.reduceBEq, Int.reduceBNe, Int.reduceLT, Int.reduceLE, Int.reduceAdd, Int.reduceSub, Int.reduceMul, Int.reduceDiv, Int.reduceMod, Int.reduceNeg, dsz]; done) | (simp only [List.mem_singleton, World.size_alloc, dsz]; omega) | (intro h; have := hs3 _ h; simp only [World.size_alloc, dsz] at this; omega))
end Go.Proofs.Ytldjhbmccnbciaa
