/- packets: may one be, one forwarded; as the program and as the document has it. -/
import Derived.Test.YtldjhbmccnbciaaFe
namespace Go.Proofs.Ytldjhbmccnbciaa
open Go
set_option linter.unusedSimpArgs false
set_option linter.unusedVariables false
structure Pk where
  kind : Int
  origin : Int
  frm : Int
  to : Int
  port : Int
  gen : Int
  id : Int
  frame : List UInt8
def Pk.v (p : Pk) (s : Value) : Value := .agg #[.int .i64 p.kind, .int .i64 p.origin, .int .i64 p.frm, .int .i64 p.to, .int .i64 p.port, .int .i64 p.gen, .int .i64 p.id, s]
/-- may a packet be? -/
def Pk.Rt (p : Pk) : Prop :=
  (0 ≤ p.origin ∧ p.origin ≤ 15) ∧ (0 ≤ p.frm ∧ p.frm ≤ 15) ∧ (0 ≤ p.to ∧ p.to ≤ 15) ∧ p.frm ≠ p.to ∧ (0 ≤ p.port ∧ p.port ≤ 31) ∧ (1 ≤ p.gen ∧ p.gen ≤ 4294967296) ∧ (0 ≤ p.id ∧ p.id ≤ 1099511627776) ∧
    (14 ≤ p.frame.length ∧ p.frame.length ≤ 1514) ∧ ((p.kind = 1 ∧ p.frm = p.origin) ∨ (p.kind = 2 ∧ p.frm ≠ p.origin ∧ p.to ≠ p.origin))
instance (p : Pk) : Decidable p.Rt := by unfold Pk.Rt; infer_instance
/-- a call that is guarded, and only looks -/
theorem ge_call {c : Bool} {f : Nat} {a : Array Value} {w : World} {K : Value → World → Prop} {r : Value} (h : c = true → Calls Try.prog f a w (retP fun v w' => v = r ∧ Ext w w')) (hk : ∀ w', Ext w w' → K (sel c r undef) w') :
    ge (.bool c) true (fun K => Calls Try.prog f a w (retP K)) w K := by
  cases c with
  | true =>
    rw [ge_tt]
    refine callM (h rfl) ?_
    rintro _ w' ⟨rfl, hx⟩
    exact hk w' hx
  | false =>
    rw [ge_ft]
    exact hk w (.refl _)
theorem ge_callf {c : Bool} {f : Nat} {a : Array Value} {w : World} {K : Value → World → Prop} {r : Value} (h : c = false → Calls Try.prog f a w (retP fun v w' => v = r ∧ Ext w w')) (hk : ∀ w', Ext w w' → K (sel c undef r) w') :
    ge (.bool c) false (fun K => Calls Try.prog f a w (retP K)) w K := by
  cases c with
  | false =>
    rw [ge_ff]
    refine callM (h rfl) ?_
    rintro _ w' ⟨rfl, hx⟩
    exact hk w' hx
  | true =>
    rw [ge_tf]
    exact hk w (.refl _)
theorem tunnel_chassis.c (w : World) (v : Value) (l : List Int) (hs : Sl (intC .i64) w v l) (hl : l.length ≤ 1000) :
    Calls Try.prog tunnel_chassis.id #[v] w (retP fun r w' => r = .bool (l.all fun x => decide (0 ≤ x) && decide (x < 16)) ∧ Ext w w') := by
  apply tunnel_chassis.sound
  unfold tunnel_chassis.sh
  obtain ⟨a, c, rfl⟩ := hs.form
  simp -dsimp (disch := first | omega | assumption | ((simp only [World.size_alloc, size_setRow, List.size_toArray, List.length_cons, List.length_nil, cells_agg, len_enc, cells_int, cells_bool, cells_slice, cells_ptr, cells_string]) <;> omega) | ((repeat (first | with_reducible exact Ext.refl _ | with_reducible assumption | with_reducible apply Ext.alloc | with_reducible apply Ext.drew | (with_reducible refine Ext.setRow ?_ (by (try simp only [World.size_alloc]); omega) _) | (with_reducible refine Ext.tr ?_ (by assumption)))); done) | fail) only [go_sem, jn_r, Nat.reduceAdd, Nat.reduceLeDiff, Nat.reduceMul, Int.reduceToNat, Nat.reduceEqDiff, Nat.reduceLT, Int.reduceBEq, Int.reduceBNe, Int.reduceLT, Int.reduceLE, Int.reduceAdd, Int.reduceSub, Int.reduceMul, Int.reduceDiv, Int.reduceMod, Int.reduceNeg]
  refine loop_g (γ := List Int × List Int) (fun (X, Y) st w' => st = [.int .i64 (X.length : Int)] ∧ l = X ++ Y ∧ (X.all fun x => decide (0 ≤ x) && decide (x < 16)) = true ∧ w' = w) (fun (X, Y) => Y.length) ([], l) ⟨rfl, rfl, rfl, rfl⟩ ?_
  rintro ⟨X, Y⟩ st w1 next ⟨rfl, hXY, hA, rfl⟩ hn
  have hXl : l.length = X.length + Y.length := by rw [hXY, List.length_append]
  rcases Y with _ | ⟨x, Y⟩
  · have d0 : ¬ ((X.length : Int) < (l.length : Int)) := by simp at hXl; omega
    simp -dsimp (disch := first | omega | assumption | ((simp only [World.size_alloc, size_setRow, List.size_toArray, List.length_cons, List.length_nil, cells_agg, len_enc, cells_int, cells_bool, cells_slice, cells_ptr, cells_string]) <;> omega) | ((repeat (first | with_reducible exact Ext.refl _ | with_reducible assumption | with_reducible apply Ext.alloc | with_reducible apply Ext.drew | (with_reducible refine Ext.setRow ?_ (by (try simp only [World.size_alloc]); omega) _) | (with_reducible refine Ext.tr ?_ (by assumption)))); done) | fail) only [go_sem, jn_r, Nat.reduceAdd, Nat.reduceLeDiff, Nat.reduceMul, Int.reduceToNat, Nat.reduceEqDiff, Nat.reduceLT, Int.reduceBEq, Int.reduceBNe, Int.reduceLT, Int.reduceLE, Int.reduceAdd, Int.reduceSub, Int.reduceMul, Int.reduceDiv, Int.reduceMod, Int.reduceNeg, d0]
    simp at hXY
    subst hXY
    exact ⟨by rw [hA], .refl _⟩
  simp only [List.length_cons] at hXl
  have d0 : ((X.length : Int) < (l.length : Int)) := by omega
  obtain ⟨b', off, c', cs, hsx, hb', -, -, hj⟩ := hs.at (i := X.length) (x := x) (by rw [hXY]; simp)
  cases hsx
  have hj0 : cs[off + X.length]? = some (.int .i64 x) := by have := hj 0 (.int .i64 x) rfl; simpa using this
  have d1 : (0 : Int) ≤ (X.length : Int) := by omega
  cases hx : (decide (x < 0) || decide (16 ≤ x)) with
  | true =>
    simp -dsimp (disch := first | omega | assumption | ((simp only [World.size_alloc, size_setRow, List.size_toArray, List.length_cons, List.length_nil, cells_agg, len_enc, cells_int, cells_bool, cells_slice, cells_ptr, cells_string]) <;> omega) | ((repeat (first | with_reducible exact Ext.refl _ | with_reducible assumption | with_reducible apply Ext.alloc | with_reducible apply Ext.drew | (with_reducible refine Ext.setRow ?_ (by (try simp only [World.size_alloc]); omega) _) | (with_reducible refine Ext.tr ?_ (by assumption)))); done) | fail) only [go_sem, jn_r, Nat.reduceAdd, Nat.reduceLeDiff, Nat.reduceMul, Int.reduceToNat, Nat.reduceEqDiff, Nat.reduceLT, Int.reduceBEq, Int.reduceBNe, Int.reduceLT, Int.reduceLE, Int.reduceAdd, Int.reduceSub, Int.reduceMul, Int.reduceDiv, Int.reduceMod, Int.reduceNeg, d0, d1, hb', hj0, Int.toNat_natCast, Nat.mul_one, hx]
    refine ⟨?_, .refl _⟩
    rw [hXY]
    simp at hx ⊢
    intro _ _ _
    omega
  | false =>
    simp -dsimp (disch := first | omega | assumption | ((simp only [World.size_alloc, size_setRow, List.size_toArray, List.length_cons, List.length_nil, cells_agg, len_enc, cells_int, cells_bool, cells_slice, cells_ptr, cells_string]) <;> omega) | ((repeat (first | with_reducible exact Ext.refl _ | with_reducible assumption | with_reducible apply Ext.alloc | with_reducible apply Ext.drew | (with_reducible refine Ext.setRow ?_ (by (try simp only [World.size_alloc]); omega) _) | (with_reducible refine Ext.tr ?_ (by assumption)))); done) | fail) only [go_sem, jn_r, Nat.reduceAdd, Nat.reduceLeDiff, Nat.reduceMul, Int.reduceToNat, Nat.reduceEqDiff, Nat.reduceLT, Int.reduceBEq, Int.reduceBNe, Int.reduceLT, Int.reduceLE, Int.reduceAdd, Int.reduceSub, Int.reduceMul, Int.reduceDiv, Int.reduceMod, Int.reduceNeg, d0, d1, hb', hj0, Int.toNat_natCast, Nat.mul_one, hx]
    exact hn (X ++ [x], Y) _ _ ⟨by simp, by rw [hXY]; simp, by simp at hA hx ⊢; exact ⟨hA, by omega⟩, rfl⟩ (by simp)
def Pk.way (p : Pk) : Bool := if p.kind = 1 then p.frm == p.origin && p.to != p.frm else if p.kind = 2 then (p.frm != p.origin && p.to != p.origin) && p.to != p.frm else false
theorem tunnel_way.c (w : World) (p : Pk) (s : Value) : Calls Try.prog tunnel_way.id #[p.v s] w (retP fun r w' => r = .bool p.way ∧ Ext w w') := by
  apply tunnel_way.sound
  unfold tunnel_way.sh Pk.v
  by_cases h1 : p.kind = 1
  · have e1 : (p.kind == 1) = true := by simp [h1]
    simp -dsimp (disch := first | omega | assumption | ((simp only [World.size_alloc, size_setRow, List.size_toArray, List.length_cons, List.length_nil, cells_agg, len_enc, cells_int, cells_bool, cells_slice, cells_ptr, cells_string]) <;> omega) | ((repeat (first | with_reducible exact Ext.refl _ | with_reducible assumption | with_reducible apply Ext.alloc | with_reducible apply Ext.drew | (with_reducible refine Ext.setRow ?_ (by (try simp only [World.size_alloc]); omega) _) | (with_reducible refine Ext.tr ?_ (by assumption)))); done) | fail) only [go_sem, jn_r, Nat.reduceAdd, Nat.reduceLeDiff, Nat.reduceMul, Int.reduceToNat, Nat.reduceEqDiff, Nat.reduceLT, Int.reduceBEq, Int.reduceBNe, Int.reduceLT, Int.reduceLE, Int.reduceAdd, Int.reduceSub, Int.reduceMul, Int.reduceDiv, Int.reduceMod, Int.reduceNeg, e1]
    exact ⟨by simp [Pk.way, h1], by (repeat (first | with_reducible exact Ext.refl _ | with_reducible assumption | with_reducible apply Ext.alloc | with_reducible apply Ext.drew | (with_reducible refine Ext.setRow ?_ (by (try simp only [World.size_alloc]); omega) _) | (with_reducible refine Ext.tr ?_ (by assumption))))⟩
  have e1 : (p.kind == 1) = false := by simp [h1]
  by_cases h2 : p.kind = 2
  · have e2 : (p.kind == 2) = true := by simp [h2]
    simp -dsimp (disch := first | omega | assumption | ((simp only [World.size_alloc, size_setRow, List.size_toArray, List.length_cons, List.length_nil, cells_agg, len_enc, cells_int, cells_bool, cells_slice, cells_ptr, cells_string]) <;> omega) | ((repeat (first | with_reducible exact Ext.refl _ | with_reducible assumption | with_reducible apply Ext.alloc | with_reducible apply Ext.drew | (with_reducible refine Ext.setRow ?_ (by (try simp only [World.size_alloc]); omega) _) | (with_reducible refine Ext.tr ?_ (by assumption)))); done) | fail) only [go_sem, jn_r, Nat.reduceAdd, Nat.reduceLeDiff, Nat.reduceMul, Int.reduceToNat, Nat.reduceEqDiff, Nat.reduceLT, Int.reduceBEq, Int.reduceBNe, Int.reduceLT, Int.reduceLE, Int.reduceAdd, Int.reduceSub, Int.reduceMul, Int.reduceDiv, Int.reduceMod, Int.reduceNeg, e1, e2]
    exact ⟨by simp [Pk.way, h2], by (repeat (first | with_reducible exact Ext.refl _ | with_reducible assumption | with_reducible apply Ext.alloc | with_reducible apply Ext.drew | (with_reducible refine Ext.setRow ?_ (by (try simp only [World.size_alloc]); omega) _) | (with_reducible refine Ext.tr ?_ (by assumption))))⟩
  have e2 : (p.kind == 2) = false := by simp [h2]
  simp -dsimp (disch := first | omega | assumption | ((simp only [World.size_alloc, size_setRow, List.size_toArray, List.length_cons, List.length_nil, cells_agg, len_enc, cells_int, cells_bool, cells_slice, cells_ptr, cells_string]) <;> omega) | ((repeat (first | with_reducible exact Ext.refl _ | with_reducible assumption | with_reducible apply Ext.alloc | with_reducible apply Ext.drew | (with_reducible refine Ext.setRow ?_ (by (try simp only [World.size_alloc]); omega) _) | (with_reducible refine Ext.tr ?_ (by assumption)))); done) | fail) only [go_sem, jn_r, Nat.reduceAdd, Nat.reduceLeDiff, Nat.reduceMul, Int.reduceToNat, Nat.reduceEqDiff, Nat.reduceLT, Int.reduceBEq, Int.reduceBNe, Int.reduceLT, Int.reduceLE, Int.reduceAdd, Int.reduceSub, Int.reduceMul, Int.reduceDiv, Int.reduceMod, Int.reduceNeg, e1, e2]
  exact ⟨by simp [Pk.way, h1, h2], by (repeat (first | with_reducible exact Ext.refl _ | with_reducible assumption | with_reducible apply Ext.alloc | with_reducible apply Ext.drew | (with_reducible refine Ext.setRow ?_ (by (try simp only [World.size_alloc]); omega) _) | (with_reducible refine Ext.tr ?_ (by assumption))))⟩
theorem tunnel_Right.c (w : World) (p : Pk) (a : Option Addr) (c : Nat) : Calls Try.prog tunnel_Right.id #[p.v (.slice a p.frame.length c)] w (retP fun r w' => r = .bool (decide p.Rt) ∧ Ext w w') := by
  apply tunnel_Right.sound
  unfold tunnel_Right.sh Pk.v
  simp -dsimp (disch := first | omega | assumption | ((simp only [World.size_alloc, size_setRow, List.size_toArray, List.length_cons, List.length_nil, cells_agg, len_enc, cells_int, cells_bool, cells_slice, cells_ptr, cells_string]) <;> omega) | ((repeat (first | with_reducible exact Ext.refl _ | with_reducible assumption | with_reducible apply Ext.alloc | with_reducible apply Ext.drew | (with_reducible refine Ext.setRow ?_ (by (try simp only [World.size_alloc]); omega) _) | (with_reducible refine Ext.tr ?_ (by assumption)))); done) | fail) only [go_sem, jn_r, Nat.reduceAdd, Nat.reduceLeDiff, Nat.reduceMul, Int.reduceToNat, Nat.reduceEqDiff, Nat.reduceLT, Int.reduceBEq, Int.reduceBNe, Int.reduceLT, Int.reduceLE, Int.reduceAdd, Int.reduceSub, Int.reduceMul, Int.reduceDiv, Int.reduceMod, Int.reduceNeg]
  refine callM (tunnel_chassis.c _ _ [p.origin, p.frm, p.to] (Sl.lit (blk_new (by simp only [World.size_alloc])) rfl rfl) (by simp)) ?_
  rintro _ w1 ⟨rfl, hx⟩
  have hz := hx.size
  simp only [World.size_alloc] at hz
  have hx1 : Ext w w1 := Ext.tr (by (repeat (first | with_reducible exact Ext.refl _ | with_reducible assumption | with_reducible apply Ext.alloc | with_reducible apply Ext.drew | (with_reducible refine Ext.setRow ?_ (by (try simp only [World.size_alloc]); omega) _) | (with_reducible refine Ext.tr ?_ (by assumption))))) hx
  have hb1 : blk w1 w.heap.size = _ := hx.blkS (by rw [blk_old (by simp)]; exact blk_new rfl)
  generalize hA : ([p.origin, p.frm, p.to].all fun x => decide (0 ≤ x) && decide (x < 16)) = A
  cases A with
  | false =>
    simp -dsimp (disch := first | omega | assumption | ((simp only [World.size_alloc, size_setRow, List.size_toArray, List.length_cons, List.length_nil, cells_agg, len_enc, cells_int, cells_bool, cells_slice, cells_ptr, cells_string]) <;> omega) | ((repeat (first | with_reducible exact Ext.refl _ | with_reducible assumption | with_reducible apply Ext.alloc | with_reducible apply Ext.drew | (with_reducible refine Ext.setRow ?_ (by (try simp only [World.size_alloc]); omega) _) | (with_reducible refine Ext.tr ?_ (by assumption)))); done) | fail) only [go_sem, jn_r, Nat.reduceAdd, Nat.reduceLeDiff, Nat.reduceMul, Int.reduceToNat, Nat.reduceEqDiff, Nat.reduceLT, Int.reduceBEq, Int.reduceBNe, Int.reduceLT, Int.reduceLE, Int.reduceAdd, Int.reduceSub, Int.reduceMul, Int.reduceDiv, Int.reduceMod, Int.reduceNeg, hb1]
    refine ⟨?_, hx1⟩
    have : ¬ p.Rt := by
      simp at hA
      unfold Pk.Rt
      omega
    simp [this]
  | true =>
    simp -dsimp (disch := first | omega | assumption | ((simp only [World.size_alloc, size_setRow, List.size_toArray, List.length_cons, List.length_nil, cells_agg, len_enc, cells_int, cells_bool, cells_slice, cells_ptr, cells_string]) <;> omega) | ((repeat (first | with_reducible exact Ext.refl _ | with_reducible assumption | with_reducible apply Ext.alloc | with_reducible apply Ext.drew | (with_reducible refine Ext.setRow ?_ (by (try simp only [World.size_alloc]); omega) _) | (with_reducible refine Ext.tr ?_ (by assumption)))); done) | fail) only [go_sem, jn_r, Nat.reduceAdd, Nat.reduceLeDiff, Nat.reduceMul, Int.reduceToNat, Nat.reduceEqDiff, Nat.reduceLT, Int.reduceBEq, Int.reduceBNe, Int.reduceLT, Int.reduceLE, Int.reduceAdd, Int.reduceSub, Int.reduceMul, Int.reduceDiv, Int.reduceMod, Int.reduceNeg, hb1]
    refine callM (tunnel_way.c w1 p _) ?_
    rintro _ w2 ⟨rfl, hx2⟩
    have hb2 : blk w2 w.heap.size = _ := hx2.blkS hb1
    have hx3 := hx1.tr hx2
    cases hw : p.way with
    | false =>
      simp -dsimp (disch := first | omega | assumption | ((simp only [World.size_alloc, size_setRow, List.size_toArray, List.length_cons, List.length_nil, cells_agg, len_enc, cells_int, cells_bool, cells_slice, cells_ptr, cells_string]) <;> omega) | ((repeat (first | with_reducible exact Ext.refl _ | with_reducible assumption | with_reducible apply Ext.alloc | with_reducible apply Ext.drew | (with_reducible refine Ext.setRow ?_ (by (try simp only [World.size_alloc]); omega) _) | (with_reducible refine Ext.tr ?_ (by assumption)))); done) | fail) only [go_sem, jn_r, Nat.reduceAdd, Nat.reduceLeDiff, Nat.reduceMul, Int.reduceToNat, Nat.reduceEqDiff, Nat.reduceLT, Int.reduceBEq, Int.reduceBNe, Int.reduceLT, Int.reduceLE, Int.reduceAdd, Int.reduceSub, Int.reduceMul, Int.reduceDiv, Int.reduceMod, Int.reduceNeg, hb2, hw]
      refine ⟨?_, hx3⟩
      have : ¬ p.Rt := by
        unfold Pk.Rt
        unfold Pk.way at hw
        split at hw
        · simp at hw; omega
        · split at hw
          · simp at hw; omega
          · omega
      simp [this]
    | true =>
      simp -dsimp (disch := first | omega | assumption | ((simp only [World.size_alloc, size_setRow, List.size_toArray, List.length_cons, List.length_nil, cells_agg, len_enc, cells_int, cells_bool, cells_slice, cells_ptr, cells_string]) <;> omega) | ((repeat (first | with_reducible exact Ext.refl _ | with_reducible assumption | with_reducible apply Ext.alloc | with_reducible apply Ext.drew | (with_reducible refine Ext.setRow ?_ (by (try simp only [World.size_alloc]); omega) _) | (with_reducible refine Ext.tr ?_ (by assumption)))); done) | fail) only [go_sem, jn_r, Nat.reduceAdd, Nat.reduceLeDiff, Nat.reduceMul, Int.reduceToNat, Nat.reduceEqDiff, Nat.reduceLT, Int.reduceBEq, Int.reduceBNe, Int.reduceLT, Int.reduceLE, Int.reduceAdd, Int.reduceSub, Int.reduceMul, Int.reduceDiv, Int.reduceMod, Int.reduceNeg, hb2, hw]
      refine ⟨?_, hx3⟩
      congr 1
      rw [Bool.eq_iff_iff]
      simp at hA
      have hw' : p.frm ≠ p.to ∧ ((p.kind = 1 ∧ p.frm = p.origin) ∨ (p.kind = 2 ∧ p.frm ≠ p.origin ∧ p.to ≠ p.origin)) := by
        unfold Pk.way at hw
        split at hw
        · simp at hw; omega
        · split at hw
          · simp at hw; omega
          · cases hw
      rw [decide_eq_true_iff]
      unfold Pk.Rt
      simp
      omega
theorem rutterref05_In.c (w : World) (x lo hi : Int) : Calls Try.prog rutterref05_In.id #[.int .i64 x, .int .i64 lo, .int .i64 hi] w (retP fun r w' => r = .bool (decide (lo ≤ x) && decide (x ≤ hi)) ∧ w' = w) := by
  apply rutterref05_In.sound
  unfold rutterref05_In.sh
  simp -dsimp (disch := first | omega | assumption | ((simp only [World.size_alloc, size_setRow, List.size_toArray, List.length_cons, List.length_nil, cells_agg, len_enc, cells_int, cells_bool, cells_slice, cells_ptr, cells_string]) <;> omega) | ((repeat (first | with_reducible exact Ext.refl _ | with_reducible assumption | with_reducible apply Ext.alloc | with_reducible apply Ext.drew | (with_reducible refine Ext.setRow ?_ (by (try simp only [World.size_alloc]); omega) _) | (with_reducible refine Ext.tr ?_ (by assumption)))); done) | fail) only [go_sem, jn_r, Nat.reduceAdd, Nat.reduceLeDiff, Nat.reduceMul, Int.reduceToNat, Nat.reduceEqDiff, Nat.reduceLT, Int.reduceBEq, Int.reduceBNe, Int.reduceLT, Int.reduceLE, Int.reduceAdd, Int.reduceSub, Int.reduceMul, Int.reduceDiv, Int.reduceMod, Int.reduceNeg]
theorem ge_in {c : Bool} {x lo hi : Int} {w : World} {K : Value → World → Prop} (hk : K (sel c (.bool (decide (lo ≤ x) && decide (x ≤ hi))) undef) w) :
    ge (.bool c) true (fun K => Calls Try.prog rutterref05_In.id #[sel c (.int .i64 x) undef, .int .i64 lo, .int .i64 hi] w (retP K)) w K := by
  cases c with
  | true =>
    rw [ge_tt]
    refine callM (rutterref05_In.c w x lo hi) ?_
    rintro _ w' ⟨rfl, rfl⟩
    exact hk
  | false =>
    rw [ge_ft]
    exact hk
theorem rutterref05_Right.c (w : World) (p : Pk) (a : Option Addr) (c : Nat) : Calls Try.prog rutterref05_Right.id #[p.v (.slice a p.frame.length c)] w (retP fun r w' => r = .bool (decide p.Rt) ∧ Ext w w') := by
  apply rutterref05_Right.sound
  unfold rutterref05_Right.sh Pk.v
  simp -dsimp (disch := first | omega | assumption | ((simp only [World.size_alloc, size_setRow, List.size_toArray, List.length_cons, List.length_nil, cells_agg, len_enc, cells_int, cells_bool, cells_slice, cells_ptr, cells_string]) <;> omega) | ((repeat (first | with_reducible exact Ext.refl _ | with_reducible assumption | with_reducible apply Ext.alloc | with_reducible apply Ext.drew | (with_reducible refine Ext.setRow ?_ (by (try simp only [World.size_alloc]); omega) _) | (with_reducible refine Ext.tr ?_ (by assumption)))); done) | fail) only [go_sem, jn_r, Nat.reduceAdd, Nat.reduceLeDiff, Nat.reduceMul, Int.reduceToNat, Nat.reduceEqDiff, Nat.reduceLT, Int.reduceBEq, Int.reduceBNe, Int.reduceLT, Int.reduceLE, Int.reduceAdd, Int.reduceSub, Int.reduceMul, Int.reduceDiv, Int.reduceMod, Int.reduceNeg]
  refine callM (rutterref05_In.c _ p.origin 0 15) ?_
  rintro _ w1 ⟨rfl, rfl⟩
  simp -dsimp (disch := first | omega | assumption | ((simp only [World.size_alloc, size_setRow, List.size_toArray, List.length_cons, List.length_nil, cells_agg, len_enc, cells_int, cells_bool, cells_slice, cells_ptr, cells_string]) <;> omega) | ((repeat (first | with_reducible exact Ext.refl _ | with_reducible assumption | with_reducible apply Ext.alloc | with_reducible apply Ext.drew | (with_reducible refine Ext.setRow ?_ (by (try simp only [World.size_alloc]); omega) _) | (with_reducible refine Ext.tr ?_ (by assumption)))); done) | fail) only [go_sem, jn_r, Nat.reduceAdd, Nat.reduceLeDiff, Nat.reduceMul, Int.reduceToNat, Nat.reduceEqDiff, Nat.reduceLT, Int.reduceBEq, Int.reduceBNe, Int.reduceLT, Int.reduceLE, Int.reduceAdd, Int.reduceSub, Int.reduceMul, Int.reduceDiv, Int.reduceMod, Int.reduceNeg]
  refine ge_in ?_
  simp -dsimp (disch := first | omega | assumption | ((simp only [World.size_alloc, size_setRow, List.size_toArray, List.length_cons, List.length_nil, cells_agg, len_enc, cells_int, cells_bool, cells_slice, cells_ptr, cells_string]) <;> omega) | ((repeat (first | with_reducible exact Ext.refl _ | with_reducible assumption | with_reducible apply Ext.alloc | with_reducible apply Ext.drew | (with_reducible refine Ext.setRow ?_ (by (try simp only [World.size_alloc]); omega) _) | (with_reducible refine Ext.tr ?_ (by assumption)))); done) | fail) only [go_sem, jn_r, Nat.reduceAdd, Nat.reduceLeDiff, Nat.reduceMul, Int.reduceToNat, Nat.reduceEqDiff, Nat.reduceLT, Int.reduceBEq, Int.reduceBNe, Int.reduceLT, Int.reduceLE, Int.reduceAdd, Int.reduceSub, Int.reduceMul, Int.reduceDiv, Int.reduceMod, Int.reduceNeg]
  refine ge_in ?_
  simp -dsimp (disch := first | omega | assumption | ((simp only [World.size_alloc, size_setRow, List.size_toArray, List.length_cons, List.length_nil, cells_agg, len_enc, cells_int, cells_bool, cells_slice, cells_ptr, cells_string]) <;> omega) | ((repeat (first | with_reducible exact Ext.refl _ | with_reducible assumption | with_reducible apply Ext.alloc | with_reducible apply Ext.drew | (with_reducible refine Ext.setRow ?_ (by (try simp only [World.size_alloc]); omega) _) | (with_reducible refine Ext.tr ?_ (by assumption)))); done) | fail) only [go_sem, jn_r, Nat.reduceAdd, Nat.reduceLeDiff, Nat.reduceMul, Int.reduceToNat, Nat.reduceEqDiff, Nat.reduceLT, Int.reduceBEq, Int.reduceBNe, Int.reduceLT, Int.reduceLE, Int.reduceAdd, Int.reduceSub, Int.reduceMul, Int.reduceDiv, Int.reduceMod, Int.reduceNeg]
  refine callM (rutterref05_In.c _ p.port 0 31) ?_
  rintro _ w1 ⟨rfl, rfl⟩
  simp -dsimp (disch := first | omega | assumption | ((simp only [World.size_alloc, size_setRow, List.size_toArray, List.length_cons, List.length_nil, cells_agg, len_enc, cells_int, cells_bool, cells_slice, cells_ptr, cells_string]) <;> omega) | ((repeat (first | with_reducible exact Ext.refl _ | with_reducible assumption | with_reducible apply Ext.alloc | with_reducible apply Ext.drew | (with_reducible refine Ext.setRow ?_ (by (try simp only [World.size_alloc]); omega) _) | (with_reducible refine Ext.tr ?_ (by assumption)))); done) | fail) only [go_sem, jn_r, Nat.reduceAdd, Nat.reduceLeDiff, Nat.reduceMul, Int.reduceToNat, Nat.reduceEqDiff, Nat.reduceLT, Int.reduceBEq, Int.reduceBNe, Int.reduceLT, Int.reduceLE, Int.reduceAdd, Int.reduceSub, Int.reduceMul, Int.reduceDiv, Int.reduceMod, Int.reduceNeg]
  refine ge_in ?_
  simp -dsimp (disch := first | omega | assumption | ((simp only [World.size_alloc, size_setRow, List.size_toArray, List.length_cons, List.length_nil, cells_agg, len_enc, cells_int, cells_bool, cells_slice, cells_ptr, cells_string]) <;> omega) | ((repeat (first | with_reducible exact Ext.refl _ | with_reducible assumption | with_reducible apply Ext.alloc | with_reducible apply Ext.drew | (with_reducible refine Ext.setRow ?_ (by (try simp only [World.size_alloc]); omega) _) | (with_reducible refine Ext.tr ?_ (by assumption)))); done) | fail) only [go_sem, jn_r, Nat.reduceAdd, Nat.reduceLeDiff, Nat.reduceMul, Int.reduceToNat, Nat.reduceEqDiff, Nat.reduceLT, Int.reduceBEq, Int.reduceBNe, Int.reduceLT, Int.reduceLE, Int.reduceAdd, Int.reduceSub, Int.reduceMul, Int.reduceDiv, Int.reduceMod, Int.reduceNeg]
  refine ge_in ?_
  simp -dsimp (disch := first | omega | assumption | ((simp only [World.size_alloc, size_setRow, List.size_toArray, List.length_cons, List.length_nil, cells_agg, len_enc, cells_int, cells_bool, cells_slice, cells_ptr, cells_string]) <;> omega) | ((repeat (first | with_reducible exact Ext.refl _ | with_reducible assumption | with_reducible apply Ext.alloc | with_reducible apply Ext.drew | (with_reducible refine Ext.setRow ?_ (by (try simp only [World.size_alloc]); omega) _) | (with_reducible refine Ext.tr ?_ (by assumption)))); done) | fail) only [go_sem, jn_r, Nat.reduceAdd, Nat.reduceLeDiff, Nat.reduceMul, Int.reduceToNat, Nat.reduceEqDiff, Nat.reduceLT, Int.reduceBEq, Int.reduceBNe, Int.reduceLT, Int.reduceLE, Int.reduceAdd, Int.reduceSub, Int.reduceMul, Int.reduceDiv, Int.reduceMod, Int.reduceNeg]
  refine ge_in ?_
  by_cases h1 : p.kind = 1
  · have e1 : (p.kind == 1) = true := by simp [h1]
    have e2 : (p.kind == 2) = false := by simp [h1]
    cases e3 : (p.frm == p.origin) <;> simp -dsimp (disch := first | omega | assumption | ((simp only [World.size_alloc, size_setRow, List.size_toArray, List.length_cons, List.length_nil, cells_agg, len_enc, cells_int, cells_bool, cells_slice, cells_ptr, cells_string]) <;> omega) | ((repeat (first | with_reducible exact Ext.refl _ | with_reducible assumption | with_reducible apply Ext.alloc | with_reducible apply Ext.drew | (with_reducible refine Ext.setRow ?_ (by (try simp only [World.size_alloc]); omega) _) | (with_reducible refine Ext.tr ?_ (by assumption)))); done) | fail) only [go_sem, jn_r, Nat.reduceAdd, Nat.reduceLeDiff, Nat.reduceMul, Int.reduceToNat, Nat.reduceEqDiff, Nat.reduceLT, Int.reduceBEq, Int.reduceBNe, Int.reduceLT, Int.reduceLE, Int.reduceAdd, Int.reduceSub, Int.reduceMul, Int.reduceDiv, Int.reduceMod, Int.reduceNeg, e1, e2, e3] <;> refine ⟨?_, by (repeat (first | with_reducible exact Ext.refl _ | with_reducible assumption | with_reducible apply Ext.alloc | with_reducible apply Ext.drew | (with_reducible refine Ext.setRow ?_ (by (try simp only [World.size_alloc]); omega) _) | (with_reducible refine Ext.tr ?_ (by assumption))))⟩ <;> congr 1 <;> rw [Bool.eq_iff_iff] <;> simp at e3 <;> simp [Pk.Rt, h1] <;> omega
  have e1 : (p.kind == 1) = false := by simp [h1]
  by_cases h2 : p.kind = 2
  · have e2 : (p.kind == 2) = true := by simp [h2]
    cases e3 : (p.frm != p.origin) <;> simp -dsimp (disch := first | omega | assumption | ((simp only [World.size_alloc, size_setRow, List.size_toArray, List.length_cons, List.length_nil, cells_agg, len_enc, cells_int, cells_bool, cells_slice, cells_ptr, cells_string]) <;> omega) | ((repeat (first | with_reducible exact Ext.refl _ | with_reducible assumption | with_reducible apply Ext.alloc | with_reducible apply Ext.drew | (with_reducible refine Ext.setRow ?_ (by (try simp only [World.size_alloc]); omega) _) | (with_reducible refine Ext.tr ?_ (by assumption)))); done) | fail) only [go_sem, jn_r, Nat.reduceAdd, Nat.reduceLeDiff, Nat.reduceMul, Int.reduceToNat, Nat.reduceEqDiff, Nat.reduceLT, Int.reduceBEq, Int.reduceBNe, Int.reduceLT, Int.reduceLE, Int.reduceAdd, Int.reduceSub, Int.reduceMul, Int.reduceDiv, Int.reduceMod, Int.reduceNeg, e1, e2, e3] <;> refine ⟨?_, by (repeat (first | with_reducible exact Ext.refl _ | with_reducible assumption | with_reducible apply Ext.alloc | with_reducible apply Ext.drew | (with_reducible refine Ext.setRow ?_ (by (try simp only [World.size_alloc]); omega) _) | (with_reducible refine Ext.tr ?_ (by assumption))))⟩ <;> congr 1 <;> rw [Bool.eq_iff_iff] <;> simp at e3 <;> simp [Pk.Rt, h2] <;> omega
  have e2 : (p.kind == 2) = false := by simp [h2]
  simp -dsimp (disch := first | omega | assumption | ((simp only [World.size_alloc, size_setRow, List.size_toArray, List.length_cons, List.length_nil, cells_agg, len_enc, cells_int, cells_bool, cells_slice, cells_ptr, cells_string]) <;> omega) | ((repeat (first | with_reducible exact Ext.refl _ | with_reducible assumption | with_reducible apply Ext.alloc | with_reducible apply Ext.drew | (with_reducible refine Ext.setRow ?_ (by (try simp only [World.size_alloc]); omega) _) | (with_reducible refine Ext.tr ?_ (by assumption)))); done) | fail) only [go_sem, jn_r, Nat.reduceAdd, Nat.reduceLeDiff, Nat.reduceMul, Int.reduceToNat, Nat.reduceEqDiff, Nat.reduceLT, Int.reduceBEq, Int.reduceBNe, Int.reduceLT, Int.reduceLE, Int.reduceAdd, Int.reduceSub, Int.reduceMul, Int.reduceDiv, Int.reduceMod, Int.reduceNeg, e1, e2]
  refine ⟨?_, by (repeat (first | with_reducible exact Ext.refl _ | with_reducible assumption | with_reducible apply Ext.alloc | with_reducible apply Ext.drew | (with_reducible refine Ext.setRow ?_ (by (try simp only [World.size_alloc]); omega) _) | (with_reducible refine Ext.tr ?_ (by assumption))))⟩
  have : ¬ p.Rt := by unfold Pk.Rt; omega
  simp [this]
theorem rutterlaw05_Fits.c (w : World) (p : Pk) (a : Option Addr) (n c : Nat) :
    Calls Try.prog rutterlaw05_Fits.id #[p.v (.slice a n c)] w (retP fun r w' => r = .bool (decide ((n : Int) ≤ 3000)) ∧ Ext w w') := by
  apply rutterlaw05_Fits.sound
  unfold rutterlaw05_Fits.sh Pk.v
  simp -dsimp (disch := first | omega | assumption | ((simp only [World.size_alloc, size_setRow, List.size_toArray, List.length_cons, List.length_nil, cells_agg, len_enc, cells_int, cells_bool, cells_slice, cells_ptr, cells_string]) <;> omega) | ((repeat (first | with_reducible exact Ext.refl _ | with_reducible assumption | with_reducible apply Ext.alloc | with_reducible apply Ext.drew | (with_reducible refine Ext.setRow ?_ (by (try simp only [World.size_alloc]); omega) _) | (with_reducible refine Ext.tr ?_ (by assumption)))); done) | fail) only [go_sem, jn_r, Nat.reduceAdd, Nat.reduceLeDiff, Nat.reduceMul, Int.reduceToNat, Nat.reduceEqDiff, Nat.reduceLT, Int.reduceBEq, Int.reduceBNe, Int.reduceLT, Int.reduceLE, Int.reduceAdd, Int.reduceSub, Int.reduceMul, Int.reduceDiv, Int.reduceMod, Int.reduceNeg]
  (repeat (first | with_reducible exact Ext.refl _ | with_reducible assumption | with_reducible apply Ext.alloc | with_reducible apply Ext.drew | (with_reducible refine Ext.setRow ?_ (by (try simp only [World.size_alloc]); omega) _) | (with_reducible refine Ext.tr ?_ (by assumption))))
end Go.Proofs.Ytldjhbmccnbciaa
