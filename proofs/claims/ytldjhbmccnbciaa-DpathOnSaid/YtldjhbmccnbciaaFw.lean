/- the writer of numbers and bytes -/
import Derived.Test.YtldjhbmccnbciaaFb
namespace Go.Proofs.Ytldjhbmccnbciaa
open Go
set_option linter.unusedSimpArgs false
set_option linter.unusedVariables false
/-- a writer lies at p: its bytes, whether something was wrong -/
structure WrAt (w : World) (p : Nat) (s : Value) (l : List UInt8) (wrong : Bool) : Prop where
  b : blk0 w p = some #[s, .bool wrong]
  ow : Ow bytC 5 0 w s l
  ne : s.ownBlock ≠ some p
/-- may a number be written in n bytes? -/
def okN (n : Nat) (x : Int) : Bool := decide (0 ≤ x) && (decide (8 ≤ n) || decide (x / 2 ^ (8 * n) ≤ 0))
/-- what is written, behind numbers -/
def putB (n : Nat) : List Int → List UInt8 × Bool → List UInt8 × Bool
  | [], r => r
  | x :: xs, (l, b) => putB n xs (if okN n x then (l ++ numB x n, b) else (l, true))
theorem putB_snoc {n : Nat} (x : Int) : ∀ (xs : List Int) (r : List UInt8 × Bool), putB n (xs ++ [x]) r = (if okN n x then ((putB n xs r).1 ++ numB x n, (putB n xs r).2) else ((putB n xs r).1, true))
  | [], (l, b) => rfl
  | y :: xs, (l, b) => putB_snoc x xs _
theorem putB_len {n : Nat} : ∀ (xs : List Int) (r : List UInt8 × Bool), (putB n xs r).1.length ≤ r.1.length + n * xs.length
  | [], (l, b) => by simp [putB]
  | y :: xs, (l, b) => by
    have h := putB_len (n := n) xs (if okN n y then (l ++ numB y n, b) else (l, true))
    unfold putB
    refine Nat.le_trans h ?_
    split <;> simp [numB_len, Nat.mul_add] <;> omega
/-- where a list of one's own lies now: as it was, or in what is new -/
def Fre (w : World) (s s' : Value) : Prop := s'.ownBlock = s.ownBlock ∨ ∀ b, s'.ownBlock = some b → w.heap.size ≤ b
theorem Fre.refl (w : World) (s : Value) : Fre w s s := .inl rfl
theorem Fre.tr {w w1 : World} {s s1 s2 : Value} (h : Fre w s s1) (hs : w.heap.size ≤ w1.heap.size) (k : Fre w1 s1 s2) : Fre w s s2 := by
  rcases k with k | k
  · rcases h with h | h
    · exact .inl (k.trans h)
    · exact .inr fun b hb => h b (by rw [← k]; exact hb)
  · exact .inr fun b hb => Nat.le_trans hs (k b hb)
theorem WrAt.chg {S : List Nat} {w w' : World} {p : Nat} {s : Value} {l : List UInt8} {wrong : Bool} (h : WrAt w p s l wrong) (hc : Chg S w w') (hp : p ∉ S) (hs : ∀ b, s.ownBlock = some b → b ∉ S) : WrAt w' p s l wrong :=
  ⟨hc.blk0S h.b hp, h.ow.chg hc hs, h.ne⟩
theorem WrAt.ext {w w' : World} {p : Nat} {s : Value} {l : List UInt8} {wrong : Bool} (h : WrAt w p s l wrong) (hc : Ext w w') : WrAt w' p s l wrong := h.chg (hc.chg (S := [])) (by simp) (by simp)
theorem buf_Writer_Put.c (w : World) (p n : Nat) (s sx : Value) (l : List UInt8) (wrong : Bool) (xs : List Int) (hW : WrAt w p s l wrong) (hx : Sl (intC .i64) w sx xs) (hd : ∀ b, sx.ownBlock = some b → b ≠ p ∧ s.ownBlock ≠ some b ∧ b < w.heap.size)
    (h1 : 1 ≤ n) (h8 : n ≤ 8) (hl : l.length + n * xs.length ≤ 100000000) (hxl : xs.length ≤ 1000) :
    Calls Try.prog buf_Writer_Put.id #[.pointer (some ⟨p, 0, none⟩), .int .i64 n, sx] w (retP fun r w' => r = .pointer (some ⟨p, 0, none⟩) ∧ ∃ s', WrAt w' p s' (putB n xs (l, wrong)).1 (putB n xs (l, wrong)).2 ∧ Chg (p :: s.ownBlock.toList) w w' ∧ Fre w s s') := by
  apply buf_Writer_Put.sound
  unfold buf_Writer_Put.sh
  obtain ⟨a, c, rfl⟩ := hx.form
  have c0 : ¬ ((n : Int) < 1) := by omega
  have c1 : ¬ ((8 : Int) < (n : Int)) := by omega
  simp -dsimp (disch := first | omega | assumption | ((simp only [World.size_alloc, size_setRow, List.size_toArray, List.length_cons, List.length_nil, cells_agg, len_enc, cells_int, cells_bool, cells_slice, cells_ptr, cells_string]) <;> omega) | ((repeat (first | with_reducible exact Ext.refl _ | with_reducible assumption | with_reducible apply Ext.alloc | with_reducible apply Ext.drew | (with_reducible refine Ext.setRow ?_ (by (try simp only [World.size_alloc]); omega) _) | (with_reducible refine Ext.tr ?_ (by assumption)))); done) | fail) only [go_sem, jn_r, Nat.reduceAdd, Nat.reduceLeDiff, Nat.reduceMul, Int.reduceToNat, Nat.reduceEqDiff, Nat.reduceLT, Int.reduceBEq, Int.reduceBNe, Int.reduceLT, Int.reduceLE, Int.reduceAdd, Int.reduceSub, Int.reduceMul, Int.reduceDiv, Int.reduceMod, Int.reduceNeg, Option.isNone, c0, c1]
  refine loop_g (γ := List Int × List Int × Value) (fun (X, Y, s') st w' => st = [.int .i64 (X.length : Int)] ∧ xs = X ++ Y ∧ WrAt w' p s' (putB n X (l, wrong)).1 (putB n X (l, wrong)).2 ∧ Chg (p :: s.ownBlock.toList) w w' ∧ Fre w s s') (fun (X, Y, s') => Y.length) ([], xs, s) ⟨rfl, rfl, hW, .refl _ _, .refl _ _⟩ ?_
  rintro ⟨X, Y, s1⟩ st w1 next ⟨rfl, hXY, hW1, hC1, hF1⟩ hn
  have hXl : xs.length = X.length + Y.length := by rw [hXY, List.length_append]
  have hpl := putB_len (n := n) X (l, wrong)
  rcases Y with _ | ⟨x, Y⟩
  · have d0 : ¬ ((X.length : Int) < (xs.length : Int)) := by simp at hXl; omega
    simp -dsimp (disch := first | omega | assumption | ((simp only [World.size_alloc, size_setRow, List.size_toArray, List.length_cons, List.length_nil, cells_agg, len_enc, cells_int, cells_bool, cells_slice, cells_ptr, cells_string]) <;> omega) | ((repeat (first | with_reducible exact Ext.refl _ | with_reducible assumption | with_reducible apply Ext.alloc | with_reducible apply Ext.drew | (with_reducible refine Ext.setRow ?_ (by (try simp only [World.size_alloc]); omega) _) | (with_reducible refine Ext.tr ?_ (by assumption)))); done) | fail) only [go_sem, jn_r, Nat.reduceAdd, Nat.reduceLeDiff, Nat.reduceMul, Int.reduceToNat, Nat.reduceEqDiff, Nat.reduceLT, Int.reduceBEq, Int.reduceBNe, Int.reduceLT, Int.reduceLE, Int.reduceAdd, Int.reduceSub, Int.reduceMul, Int.reduceDiv, Int.reduceMod, Int.reduceNeg, d0]
    simp at hXY
    subst hXY
    exact ⟨s1, hW1, hC1, hF1⟩
  simp only [List.length_cons] at hXl
  have hnm : n * X.length + n ≤ n * xs.length := by rw [hXl, Nat.mul_add, Nat.mul_add]; have := Nat.mul_le_mul (Nat.le_refl n) (Nat.le_add_left 1 Y.length); omega
  have d0 : ((X.length : Int) < (xs.length : Int)) := by omega
  have hsd : ∀ b, (Value.slice a xs.length c).ownBlock = some b → b ∉ p :: s.ownBlock.toList := fun b hb => by
    obtain ⟨h2, h3, -⟩ := hd b hb
    simp only [List.mem_cons, Option.mem_toList, not_or]
    exact ⟨h2, fun h => h3 (by simpa using h)⟩
  obtain ⟨b', off, c', cs, hsx, hb', -, -, hj⟩ := (hx.chg hC1 hsd).at (i := X.length) (x := x) (by rw [hXY]; simp)
  cases hsx
  have hj0 : cs[off + X.length]? = some (.int .i64 x) := by have := hj 0 (.int .i64 x) rfl; simpa using this
  have d1 : (0 : Int) ≤ (X.length : Int) := by omega
  have hbn : b' < w1.heap.size := blk_lt hb'
  have hpn : p < w1.heap.size := blk0_lt hW1.b
  have next' : ∀ w2 s2, WrAt w2 p s2 (if okN n x then ((putB n X (l, wrong)).1 ++ numB x n, (putB n X (l, wrong)).2) else ((putB n X (l, wrong)).1, true)).1 (if okN n x then ((putB n X (l, wrong)).1 ++ numB x n, (putB n X (l, wrong)).2) else ((putB n X (l, wrong)).1, true)).2 → Chg (p :: s.ownBlock.toList) w w2 → Fre w s s2 → next [.int .i64 ((X.length : Int) + 1)] w2 := fun w2 s2 h1 h2 h3 =>
    hn (X ++ [x], Y, s2) _ _ ⟨by simp, by rw [hXY]; simp, by rw [putB_snoc]; exact h1, h2, h3⟩ (by simp)
  have hmn : min (8 * n) 64 = 8 * n := by omega
  have e8 : (8 * (n : Int)).toNat = 8 * n := by omega
  have p8 : (0 : Int) ≤ 8 * (n : Int) := by omega
  have hP : p ∈ p :: s.ownBlock.toList := by simp
  have bad : okN n x = false → next [.int .i64 ((X.length : Int) + 1)] (w1.setRow p #[s1, .bool true]) := fun ok => by
    rw [ok] at next'
    refine next' _ s1 ⟨by rw [blk0_setS, hW1.b]; rfl, hW1.ow.chg ((Chg.refl [p] w1).setRow (by simp) _) (fun b hb h => ?_), hW1.ne⟩ (hC1.setRow (.inl hP) _) hF1
    simp at h
    subst h
    exact hW1.ne hb
  by_cases hx0 : x < 0
  · simp -dsimp (disch := first | omega | assumption | ((simp only [World.size_alloc, size_setRow, List.size_toArray, List.length_cons, List.length_nil, cells_agg, len_enc, cells_int, cells_bool, cells_slice, cells_ptr, cells_string]) <;> omega) | ((repeat (first | with_reducible exact Ext.refl _ | with_reducible assumption | with_reducible apply Ext.alloc | with_reducible apply Ext.drew | (with_reducible refine Ext.setRow ?_ (by (try simp only [World.size_alloc]); omega) _) | (with_reducible refine Ext.tr ?_ (by assumption)))); done) | fail) only [go_sem, jn_r, Nat.reduceAdd, Nat.reduceLeDiff, Nat.reduceMul, Int.reduceToNat, Nat.reduceEqDiff, Nat.reduceLT, Int.reduceBEq, Int.reduceBNe, Int.reduceLT, Int.reduceLE, Int.reduceAdd, Int.reduceSub, Int.reduceMul, Int.reduceDiv, Int.reduceMod, Int.reduceNeg, d0, d1, hb', hj0, Int.toNat_natCast, Nat.mul_one, hx0, hW1.b]
    exact bad (by simp [okN]; omega)
  have good : okN n x = true → ∀ F : List Value → World → (List Value → World → Prop) → Prop, (∀ (s : List Value) (w : World) (k : List Value → World → Prop), F s w k = (
      pv (bn .geq 3 (nth s 0) (.int .i64 0)) fun t32 =>
        cnd t32 (
          (fun w : World =>
            pv (nc (.pointer (some ⟨p, 0, none⟩))) fun t33 =>
            fx t33 0 fun t34 =>
            l1 t34 w fun t35 =>
            pv (bn .mul 3 (.int .i64 8) (nth s 0)) fun t36 =>
            pv (bn .shr 3 (.int .i64 x) t36) fun t37 =>
            wv (cv 3 5 t37) w fun t38 =>
            o (bs 24 1 #[(0, t38)]) w fun t39 w =>
            rk (l1 t34 w) t35 <|
            o (ap #[24, 24] 24 #[false, false] t35 t39) w fun t40 w =>
            pv (nc (.pointer (some ⟨p, 0, none⟩))) fun t41 =>
            fx t41 0 fun t42 =>
            sw t42 t40 w fun _ w =>
            pv (bn .sub 3 (nth s 0) (.int .i64 1)) fun t43 =>
            k [t43] w) w.drew) (next [.int .i64 ((X.length : Int) + 1)] w))) → LoopS F [.int .i64 ((n : Int) - 1)] w1 := fun ok F hF => by
    rw [ok] at next'
    simp only [if_pos] at next'
    generalize hL : (putB n X (l, wrong)).1 = L at next' hW1 hpl
    generalize hB : (putB n X (l, wrong)).2 = B at next' hW1
    simp only at hpl
    refine loop_g (γ := Nat × List UInt8 × Value) (fun (i, M, s2) st w' => st = [.int .i64 ((i : Int) - 1)] ∧ numB x n = M ++ numB x i ∧ WrAt w' p s2 (L ++ M) B ∧ Chg (p :: s.ownBlock.toList) w w' ∧ Fre w s s2 ∧ w1.heap.size ≤ w'.heap.size) (fun (i, M, s2) => i) (n, [], s1) ⟨rfl, by simp, by simpa using hW1, hC1, hF1, Nat.le_refl _⟩ ?_
    rintro ⟨i, M, s2⟩ st w2 next2 ⟨rfl, hM, hW2, hC2, hF2, hz2⟩ hn2
    rw [hF]
    have hMl : n = M.length + i := by have := congrArg List.length hM; simpa [numB_len] using this
    rcases i with _ | i
    · have q0 : ¬ ((0 : Int) ≤ ((0 : Nat) : Int) - 1) := by omega
      simp -dsimp (disch := first | omega | assumption | ((simp only [World.size_alloc, size_setRow, List.size_toArray, List.length_cons, List.length_nil, cells_agg, len_enc, cells_int, cells_bool, cells_slice, cells_ptr, cells_string]) <;> omega) | ((repeat (first | with_reducible exact Ext.refl _ | with_reducible assumption | with_reducible apply Ext.alloc | with_reducible apply Ext.drew | (with_reducible refine Ext.setRow ?_ (by (try simp only [World.size_alloc]); omega) _) | (with_reducible refine Ext.tr ?_ (by assumption)))); done) | fail) only [go_sem, jn_r, Nat.reduceAdd, Nat.reduceLeDiff, Nat.reduceMul, Int.reduceToNat, Nat.reduceEqDiff, Nat.reduceLT, Int.reduceBEq, Int.reduceBNe, Int.reduceLT, Int.reduceLE, Int.reduceAdd, Int.reduceSub, Int.reduceMul, Int.reduceDiv, Int.reduceMod, Int.reduceNeg, q0]
      simp [numB] at hM
      subst hM
      exact next' w2 s2 hW2 hC2 hF2
    · have q0 : ((i + 1 : Nat) : Int) - 1 = (i : Int) := by omega
      have q1 : (0 : Int) ≤ (i : Int) := by omega
      have q2 : min (8 * i) 64 = 8 * i := by omega
      have q3 : (8 * (i : Int)).toNat = 8 * i := by omega
      have q4 : (0 : Int) ≤ 8 * (i : Int) := by omega
      have hp2 := blk0_lt hW2.b
      have hb2 := blk_of0 hW2.b
      simp -dsimp (disch := first | omega | assumption | ((simp only [World.size_alloc, size_setRow, List.size_toArray, List.length_cons, List.length_nil, cells_agg, len_enc, cells_int, cells_bool, cells_slice, cells_ptr, cells_string]) <;> omega) | ((repeat (first | with_reducible exact Ext.refl _ | with_reducible assumption | with_reducible apply Ext.alloc | with_reducible apply Ext.drew | (with_reducible refine Ext.setRow ?_ (by (try simp only [World.size_alloc]); omega) _) | (with_reducible refine Ext.tr ?_ (by assumption)))); done) | fail) only [go_sem, jn_r, Nat.reduceAdd, Nat.reduceLeDiff, Nat.reduceMul, Int.reduceToNat, Nat.reduceEqDiff, Nat.reduceLT, Int.reduceBEq, Int.reduceBNe, Int.reduceLT, Int.reduceLE, Int.reduceAdd, Int.reduceSub, Int.reduceMul, Int.reduceDiv, Int.reduceMod, Int.reduceNeg, q0, q1, q2, q3, q4, hb2]
      generalize hw3 : (w2.alloc (.cells #[.int .u8 (x / 2 ^ (8 * i) % 256)] 5)).drew = w3
      have hx3 : Ext w2 w3 := by rw [← hw3]; (repeat (first | with_reducible exact Ext.refl _ | with_reducible assumption | with_reducible apply Ext.alloc | with_reducible apply Ext.drew | (with_reducible refine Ext.setRow ?_ (by (try simp only [World.size_alloc]); omega) _) | (with_reducible refine Ext.tr ?_ (by assumption))))
      have hW3 := hW2.ext hx3
      refine ap_at (l := L ++ M) (m := [byt x i]) hW3.ow (one_from (by rw [bytC_byt, ← hw3]; exact blk_new rfl)) (Nat.zero_le _) (by simp; omega) fun v' w4 g1 g2 _ g4 => ?_
      have hp4 : blk0 w4 p = some #[s2, .bool B] := by
        rw [← hW3.b]
        unfold blk0
        rw [g2.block p (blk0_lt hW3.b) (fun e => hW3.ne e.symm)]
      have hp4' := blk_of0 hp4
      simp -dsimp (disch := first | omega | assumption | ((simp only [World.size_alloc, size_setRow, List.size_toArray, List.length_cons, List.length_nil, cells_agg, len_enc, cells_int, cells_bool, cells_slice, cells_ptr, cells_string]) <;> omega) | ((repeat (first | with_reducible exact Ext.refl _ | with_reducible assumption | with_reducible apply Ext.alloc | with_reducible apply Ext.drew | (with_reducible refine Ext.setRow ?_ (by (try simp only [World.size_alloc]); omega) _) | (with_reducible refine Ext.tr ?_ (by assumption)))); done) | fail) only [go_sem, jn_r, Nat.reduceAdd, Nat.reduceLeDiff, Nat.reduceMul, Int.reduceToNat, Nat.reduceEqDiff, Nat.reduceLT, Int.reduceBEq, Int.reduceBNe, Int.reduceLT, Int.reduceLE, Int.reduceAdd, Int.reduceSub, Int.reduceMul, Int.reduceDiv, Int.reduceMod, Int.reduceNeg, hp4', hp4, q0, g1.one]
      have hF4 : Fre w s v' := hF2.tr hC2.size (by
        rcases g4 with g4 | g4
        · exact .inl g4
        · exact .inr fun b hb => by rw [g4] at hb; cases hb; exact hx3.size)
      have hC4 : Chg (p :: s.ownBlock.toList) w w4 := (hC2.ext hx3).grown g2 fun g hg => by
        rcases hF2 with hF2 | hF2
        · rw [hF2] at hg; left; simp [hg]
        · exact .inr (hF2 g hg)
      have hz4 : w1.heap.size ≤ w4.heap.size := Nat.le_trans hz2 (Nat.le_trans hx3.size g2.size)
      have hne : v'.ownBlock ≠ some p := by
        rcases g4 with g4 | g4
        · rw [g4]; exact hW2.ne
        · rw [g4]; intro h; have := hx3.size; simp at h; omega
      refine hn2 (i, M ++ [byt x i], v') _ _ ⟨rfl, by rw [hM]; simp [numB], ⟨by rw [blk0_setS, hp4]; rfl, ?_, hne⟩, hC4.setRow (.inl hP) _, hF4, by simpa using hz4⟩ (by simp)
      rw [List.append_assoc] at g1
      exact g1.chg ((Chg.refl [p] w4).setRow (by simp) _) (fun b hb h => by
        simp at h; subst h; exact hne hb)
  rcases Nat.lt_or_ge n 8 with hn8 | hn8
  · have g1 : (n : Int) < 8 := by omega
    by_cases hy : 0 < x / 2 ^ (8 * n)
    · simp -dsimp (disch := first | omega | assumption | ((simp only [World.size_alloc, size_setRow, List.size_toArray, List.length_cons, List.length_nil, cells_agg, len_enc, cells_int, cells_bool, cells_slice, cells_ptr, cells_string]) <;> omega) | ((repeat (first | with_reducible exact Ext.refl _ | with_reducible assumption | with_reducible apply Ext.alloc | with_reducible apply Ext.drew | (with_reducible refine Ext.setRow ?_ (by (try simp only [World.size_alloc]); omega) _) | (with_reducible refine Ext.tr ?_ (by assumption)))); done) | fail) only [go_sem, jn_r, Nat.reduceAdd, Nat.reduceLeDiff, Nat.reduceMul, Int.reduceToNat, Nat.reduceEqDiff, Nat.reduceLT, Int.reduceBEq, Int.reduceBNe, Int.reduceLT, Int.reduceLE, Int.reduceAdd, Int.reduceSub, Int.reduceMul, Int.reduceDiv, Int.reduceMod, Int.reduceNeg, d0, d1, hb', hj0, Int.toNat_natCast, Nat.mul_one, hx0, hW1.b, g1, e8, p8, hmn, hy]
      exact bad (by simp [okN, hx0]; omega)
    · simp -dsimp (disch := first | omega | assumption | ((simp only [World.size_alloc, size_setRow, List.size_toArray, List.length_cons, List.length_nil, cells_agg, len_enc, cells_int, cells_bool, cells_slice, cells_ptr, cells_string]) <;> omega) | ((repeat (first | with_reducible exact Ext.refl _ | with_reducible assumption | with_reducible apply Ext.alloc | with_reducible apply Ext.drew | (with_reducible refine Ext.setRow ?_ (by (try simp only [World.size_alloc]); omega) _) | (with_reducible refine Ext.tr ?_ (by assumption)))); done) | fail) only [go_sem, jn_r, Nat.reduceAdd, Nat.reduceLeDiff, Nat.reduceMul, Int.reduceToNat, Nat.reduceEqDiff, Nat.reduceLT, Int.reduceBEq, Int.reduceBNe, Int.reduceLT, Int.reduceLE, Int.reduceAdd, Int.reduceSub, Int.reduceMul, Int.reduceDiv, Int.reduceMod, Int.reduceNeg, d0, d1, hb', hj0, Int.toNat_natCast, Nat.mul_one, hx0, hW1.b, g1, e8, p8, hmn, hy]
      exact good (by simp [okN]; omega) _ (fun _ _ _ => rfl)
  · have g1 : ¬ ((n : Int) < 8) := by omega
    simp -dsimp (disch := first | omega | assumption | ((simp only [World.size_alloc, size_setRow, List.size_toArray, List.length_cons, List.length_nil, cells_agg, len_enc, cells_int, cells_bool, cells_slice, cells_ptr, cells_string]) <;> omega) | ((repeat (first | with_reducible exact Ext.refl _ | with_reducible assumption | with_reducible apply Ext.alloc | with_reducible apply Ext.drew | (with_reducible refine Ext.setRow ?_ (by (try simp only [World.size_alloc]); omega) _) | (with_reducible refine Ext.tr ?_ (by assumption)))); done) | fail) only [go_sem, jn_r, Nat.reduceAdd, Nat.reduceLeDiff, Nat.reduceMul, Int.reduceToNat, Nat.reduceEqDiff, Nat.reduceLT, Int.reduceBEq, Int.reduceBNe, Int.reduceLT, Int.reduceLE, Int.reduceAdd, Int.reduceSub, Int.reduceMul, Int.reduceDiv, Int.reduceMod, Int.reduceNeg, d0, d1, hb', hj0, Int.toNat_natCast, Nat.mul_one, hx0, hW1.b, g1]
    exact good (by simp [okN]; omega) _ (fun _ _ _ => rfl)
end Go.Proofs.Ytldjhbmccnbciaa
