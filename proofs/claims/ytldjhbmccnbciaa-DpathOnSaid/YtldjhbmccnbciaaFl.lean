/- flow: entries, keys; whether one fits, what is looked up. -/
import Derived.Test.YtldjhbmccnbciaaSh
namespace Go.Proofs.Ytldjhbmccnbciaa
open Go
set_option linter.unusedSimpArgs false
set_option linter.unusedVariables false
structure Ent where
  prio : Int
  ins : Int
  mac : Int
  port : Int
  frm : Int
  upto : Int
  nt : Int
  kind : Int
  aport : Int
  to : Int
  gen : Int
structure Key where
  inn : Int
  mac : Int
  port : Int
  stamp : Int
  origin : Int
structure Act4 where
  kind : Int
  port : Int
  to : Int
  gen : Int
deriving DecidableEq
def i64 (x : Int) : Value := .int .i64 x
def u64 (x : Int) : Value := .int .u64 x
def Ent.enc (e : Ent) : List Value := [.int .i64 e.prio, .int .i64 e.ins, .int .u64 e.mac, .int .i64 e.port, .int .i64 e.frm, .int .i64 e.upto, .int .i64 e.nt, .int .i64 e.kind, .int .i64 e.aport, .int .i64 e.to, .int .i64 e.gen]
def entC : Cdc Ent 11 := ⟨Ent.enc, fun _ => rfl, fun e u hu => by simp only [Ent.enc, List.mem_cons, List.not_mem_nil, or_false] at hu; rcases hu with rfl | rfl | rfl | rfl | rfl | rfl | rfl | rfl | rfl | rfl | rfl <;> rfl, by decide⟩
def Ent.v (e : Ent) : Value := .agg #[.int .i64 e.prio, .int .i64 e.ins, .int .u64 e.mac, .int .i64 e.port, .int .i64 e.frm, .int .i64 e.upto, .int .i64 e.nt, .int .i64 e.kind, .int .i64 e.aport, .int .i64 e.to, .int .i64 e.gen]
def Key.v (k : Key) : Value := .agg #[.int .i64 k.inn, .int .u64 k.mac, .int .i64 k.port, .int .i64 k.stamp, .int .i64 k.origin]
def Act4.v (a : Act4) : Value := .agg #[.int .i64 a.kind, .int .i64 a.port, .int .i64 a.to, .int .i64 a.gen]
def Ent.act (e : Ent) : Act4 := ⟨e.kind, e.aport, e.to, e.gen⟩
/-- does an entry fit a key? as flow.Fits has it -/
def Ent.fits (e : Ent) (k : Key) : Bool :=
  if k.inn < 0 ∨ 3 ≤ k.inn ∨ e.ins / 2 ^ k.inn.toNat % 2 = 0 then false
  else (if k.inn = 0 then e.mac == k.mac else e.port == k.port) && decide (e.frm ≤ k.stamp) && decide (k.stamp ≤ e.upto) && (k.origin != e.nt)
theorem nand_pow (x i : Nat) : x &&& 2 ^ i = (x / 2 ^ i % 2) * 2 ^ i := by
  have hb := Nat.testBit_eq_decide_div_mod_eq (x := x) (i := i)
  apply Nat.eq_of_testBit_eq
  intro j
  rw [Nat.testBit_and, Nat.testBit_two_pow]
  by_cases hj : i = j
  · subst hj
    rcases Nat.mod_two_eq_zero_or_one (x / 2 ^ i) with h | h <;> rw [h] at hb ⊢ <;> simp [hb]
  · rcases Nat.mod_two_eq_zero_or_one (x / 2 ^ i) with h | h <;> rw [h] <;> simp [hj]
theorem and_pow0 (n : Int) : bits .and .i64 n 1 = n % 2 := by
  have h1 : (BitVec.ofInt 64 1).toNat = 2 ^ 0 := by decide
  show IntKind.i64.wrap ((BitVec.ofInt 64 n &&& BitVec.ofInt 64 1).toNat : Nat) = n % 2
  rw [BitVec.toNat_and, BitVec.toNat_ofInt, h1, nand_pow, IntKind.wrap_i64]
  omega
theorem and_pow1 (n : Int) : bits .and .i64 n 2 = n / 2 % 2 * 2 := by
  have h1 : (BitVec.ofInt 64 2).toNat = 2 ^ 1 := by decide
  show IntKind.i64.wrap ((BitVec.ofInt 64 n &&& BitVec.ofInt 64 2).toNat : Nat) = n / 2 % 2 * 2
  rw [BitVec.toNat_and, BitVec.toNat_ofInt, h1, nand_pow, IntKind.wrap_i64]
  omega
theorem and_pow2 (n : Int) : bits .and .i64 n 4 = n / 4 % 2 * 4 := by
  have h1 : (BitVec.ofInt 64 4).toNat = 2 ^ 2 := by decide
  show IntKind.i64.wrap ((BitVec.ofInt 64 n &&& BitVec.ofInt 64 4).toNat : Nat) = n / 4 % 2 * 4
  rw [BitVec.toNat_and, BitVec.toNat_ofInt, h1, nand_pow, IntKind.wrap_i64]
  omega
theorem flow_Fits.c (e : Ent) (k : Key) (w : World) : Calls Try.prog flow_Fits.id #[e.v, k.v] w (retP fun v w' => v = .bool (e.fits k) ∧ Ext w w') := by
  apply flow_Fits.sound
  unfold flow_Fits.sh Ent.v Key.v
  by_cases h1 : k.inn < 0
  · simp -dsimp (disch := first | omega | assumption | ((simp only [World.size_alloc, size_setRow, List.size_toArray, List.length_cons, List.length_nil, cells_agg, len_enc, cells_int, cells_bool, cells_slice, cells_ptr, cells_string]) <;> omega) | ((repeat (first | with_reducible exact Ext.refl _ | with_reducible assumption | with_reducible apply Ext.alloc | with_reducible apply Ext.drew | (with_reducible refine Ext.setRow ?_ (by (try simp only [World.size_alloc]); omega) _) | (with_reducible refine Ext.tr ?_ (by assumption)))); done) | fail) only [go_sem, jn_r, Nat.reduceAdd, Nat.reduceLeDiff, Nat.reduceMul, Int.reduceToNat, Nat.reduceEqDiff, Nat.reduceLT, Int.reduceBEq, Int.reduceBNe, Int.reduceLT, Int.reduceLE, Int.reduceAdd, Int.reduceSub, Int.reduceMul, Int.reduceDiv, Int.reduceMod, Int.reduceNeg, h1]
    exact ⟨by simp [Ent.fits, h1], by (repeat (first | with_reducible exact Ext.refl _ | with_reducible assumption | with_reducible apply Ext.alloc | with_reducible apply Ext.drew | (with_reducible refine Ext.setRow ?_ (by (try simp only [World.size_alloc]); omega) _) | (with_reducible refine Ext.tr ?_ (by assumption))))⟩
  by_cases h2 : 3 ≤ k.inn
  · simp -dsimp (disch := first | omega | assumption | ((simp only [World.size_alloc, size_setRow, List.size_toArray, List.length_cons, List.length_nil, cells_agg, len_enc, cells_int, cells_bool, cells_slice, cells_ptr, cells_string]) <;> omega) | ((repeat (first | with_reducible exact Ext.refl _ | with_reducible assumption | with_reducible apply Ext.alloc | with_reducible apply Ext.drew | (with_reducible refine Ext.setRow ?_ (by (try simp only [World.size_alloc]); omega) _) | (with_reducible refine Ext.tr ?_ (by assumption)))); done) | fail) only [go_sem, jn_r, Nat.reduceAdd, Nat.reduceLeDiff, Nat.reduceMul, Int.reduceToNat, Nat.reduceEqDiff, Nat.reduceLT, Int.reduceBEq, Int.reduceBNe, Int.reduceLT, Int.reduceLE, Int.reduceAdd, Int.reduceSub, Int.reduceMul, Int.reduceDiv, Int.reduceMod, Int.reduceNeg, h1, h2]
    exact ⟨by simp [Ent.fits, h1, h2], by (repeat (first | with_reducible exact Ext.refl _ | with_reducible assumption | with_reducible apply Ext.alloc | with_reducible apply Ext.drew | (with_reducible refine Ext.setRow ?_ (by (try simp only [World.size_alloc]); omega) _) | (with_reducible refine Ext.tr ?_ (by assumption))))⟩
  have h3 : 0 ≤ k.inn := by omega
  have hm : min k.inn.toNat IntKind.i64.bits = k.inn.toNat := by simp only [IntKind.bits]; omega
  have hm' : min k.inn.toNat 64 = k.inn.toNat := by omega
  simp -dsimp (disch := first | omega | assumption | ((simp only [World.size_alloc, size_setRow, List.size_toArray, List.length_cons, List.length_nil, cells_agg, len_enc, cells_int, cells_bool, cells_slice, cells_ptr, cells_string]) <;> omega) | ((repeat (first | with_reducible exact Ext.refl _ | with_reducible assumption | with_reducible apply Ext.alloc | with_reducible apply Ext.drew | (with_reducible refine Ext.setRow ?_ (by (try simp only [World.size_alloc]); omega) _) | (with_reducible refine Ext.tr ?_ (by assumption)))); done) | fail) only [go_sem, jn_r, Nat.reduceAdd, Nat.reduceLeDiff, Nat.reduceMul, Int.reduceToNat, Nat.reduceEqDiff, Nat.reduceLT, Int.reduceBEq, Int.reduceBNe, Int.reduceLT, Int.reduceLE, Int.reduceAdd, Int.reduceSub, Int.reduceMul, Int.reduceDiv, Int.reduceMod, Int.reduceNeg, and_pow0, h1, h2, h3, hm, hm']
  refine cnd_i (fun hc => ?_) (fun hc => ?_)
  · simp -dsimp (disch := first | omega | assumption | ((simp only [World.size_alloc, size_setRow, List.size_toArray, List.length_cons, List.length_nil, cells_agg, len_enc, cells_int, cells_bool, cells_slice, cells_ptr, cells_string]) <;> omega) | ((repeat (first | with_reducible exact Ext.refl _ | with_reducible assumption | with_reducible apply Ext.alloc | with_reducible apply Ext.drew | (with_reducible refine Ext.setRow ?_ (by (try simp only [World.size_alloc]); omega) _) | (with_reducible refine Ext.tr ?_ (by assumption)))); done) | fail) only [go_sem, jn_r, Nat.reduceAdd, Nat.reduceLeDiff, Nat.reduceMul, Int.reduceToNat, Nat.reduceEqDiff, Nat.reduceLT, Int.reduceBEq, Int.reduceBNe, Int.reduceLT, Int.reduceLE, Int.reduceAdd, Int.reduceSub, Int.reduceMul, Int.reduceDiv, Int.reduceMod, Int.reduceNeg]
    exact ⟨by simp at hc; simp [Ent.fits, h1, h2, hc], by (repeat (first | with_reducible exact Ext.refl _ | with_reducible assumption | with_reducible apply Ext.alloc | with_reducible apply Ext.drew | (with_reducible refine Ext.setRow ?_ (by (try simp only [World.size_alloc]); omega) _) | (with_reducible refine Ext.tr ?_ (by assumption))))⟩
  have hc' : ¬ (e.ins / 2 ^ k.inn.toNat % 2 = 0) := by simpa using hc
  simp -dsimp (disch := first | omega | assumption | ((simp only [World.size_alloc, size_setRow, List.size_toArray, List.length_cons, List.length_nil, cells_agg, len_enc, cells_int, cells_bool, cells_slice, cells_ptr, cells_string]) <;> omega) | ((repeat (first | with_reducible exact Ext.refl _ | with_reducible assumption | with_reducible apply Ext.alloc | with_reducible apply Ext.drew | (with_reducible refine Ext.setRow ?_ (by (try simp only [World.size_alloc]); omega) _) | (with_reducible refine Ext.tr ?_ (by assumption)))); done) | fail) only [go_sem, jn_r, Nat.reduceAdd, Nat.reduceLeDiff, Nat.reduceMul, Int.reduceToNat, Nat.reduceEqDiff, Nat.reduceLT, Int.reduceBEq, Int.reduceBNe, Int.reduceLT, Int.reduceLE, Int.reduceAdd, Int.reduceSub, Int.reduceMul, Int.reduceDiv, Int.reduceMod, Int.reduceNeg]
  refine cnd_i (fun hd => ?_) (fun hd => ?_)
  · simp -dsimp (disch := first | omega | assumption | ((simp only [World.size_alloc, size_setRow, List.size_toArray, List.length_cons, List.length_nil, cells_agg, len_enc, cells_int, cells_bool, cells_slice, cells_ptr, cells_string]) <;> omega) | ((repeat (first | with_reducible exact Ext.refl _ | with_reducible assumption | with_reducible apply Ext.alloc | with_reducible apply Ext.drew | (with_reducible refine Ext.setRow ?_ (by (try simp only [World.size_alloc]); omega) _) | (with_reducible refine Ext.tr ?_ (by assumption)))); done) | fail) only [go_sem, jn_r, Nat.reduceAdd, Nat.reduceLeDiff, Nat.reduceMul, Int.reduceToNat, Nat.reduceEqDiff, Nat.reduceLT, Int.reduceBEq, Int.reduceBNe, Int.reduceLT, Int.reduceLE, Int.reduceAdd, Int.reduceSub, Int.reduceMul, Int.reduceDiv, Int.reduceMod, Int.reduceNeg]
    simp at hd
    exact ⟨by rw [hd] at hc'; simp at hc'; simp [Ent.fits, hc', hd], by (repeat (first | with_reducible exact Ext.refl _ | with_reducible assumption | with_reducible apply Ext.alloc | with_reducible apply Ext.drew | (with_reducible refine Ext.setRow ?_ (by (try simp only [World.size_alloc]); omega) _) | (with_reducible refine Ext.tr ?_ (by assumption))))⟩
  · simp -dsimp (disch := first | omega | assumption | ((simp only [World.size_alloc, size_setRow, List.size_toArray, List.length_cons, List.length_nil, cells_agg, len_enc, cells_int, cells_bool, cells_slice, cells_ptr, cells_string]) <;> omega) | ((repeat (first | with_reducible exact Ext.refl _ | with_reducible assumption | with_reducible apply Ext.alloc | with_reducible apply Ext.drew | (with_reducible refine Ext.setRow ?_ (by (try simp only [World.size_alloc]); omega) _) | (with_reducible refine Ext.tr ?_ (by assumption)))); done) | fail) only [go_sem, jn_r, Nat.reduceAdd, Nat.reduceLeDiff, Nat.reduceMul, Int.reduceToNat, Nat.reduceEqDiff, Nat.reduceLT, Int.reduceBEq, Int.reduceBNe, Int.reduceLT, Int.reduceLE, Int.reduceAdd, Int.reduceSub, Int.reduceMul, Int.reduceDiv, Int.reduceMod, Int.reduceNeg]
    simp at hd
    exact ⟨by simp [Ent.fits, h1, h2, hc', hd], by (repeat (first | with_reducible exact Ext.refl _ | with_reducible assumption | with_reducible apply Ext.alloc | with_reducible apply Ext.drew | (with_reducible refine Ext.setRow ?_ (by (try simp only [World.size_alloc]); omega) _) | (with_reducible refine Ext.tr ?_ (by assumption))))⟩
theorem bb (c : Bool) : c = true ∨ c = false := by cases c <;> simp
theorem rutterref13_Fits.c (e : Ent) (k : Key) (w : World) : Calls Try.prog rutterref13_Fits.id #[e.v, k.v] w (retP fun v w' => v = .bool (e.fits k) ∧ Ext w w') := by
  rcases bb (k.inn == 0) with h0 | h0
  · have e0 : k.inn = 0 := by simpa using h0
    have h1 : (k.inn == 1) = false := by simp [e0]
    have h2 : (k.inn == 2) = false := by simp [e0]
    have h0' : (k.inn != 0) = false := by simp [e0]
    rcases bb (e.ins % 2 != 0) with b0 | b0 <;> rcases bb (e.mac == k.mac) with c0 | c0
    all_goals
      apply rutterref13_Fits.sound
      unfold rutterref13_Fits.sh Ent.v Key.v
      simp -dsimp (disch := first | omega | assumption | ((simp only [World.size_alloc, size_setRow, List.size_toArray, List.length_cons, List.length_nil, cells_agg, len_enc, cells_int, cells_bool, cells_slice, cells_ptr, cells_string]) <;> omega) | ((repeat (first | with_reducible exact Ext.refl _ | with_reducible assumption | with_reducible apply Ext.alloc | with_reducible apply Ext.drew | (with_reducible refine Ext.setRow ?_ (by (try simp only [World.size_alloc]); omega) _) | (with_reducible refine Ext.tr ?_ (by assumption)))); done) | fail) only [go_sem, jn_r, Nat.reduceAdd, Nat.reduceLeDiff, Nat.reduceMul, Int.reduceToNat, Nat.reduceEqDiff, Nat.reduceLT, Int.reduceBEq, Int.reduceBNe, Int.reduceLT, Int.reduceLE, Int.reduceAdd, Int.reduceSub, Int.reduceMul, Int.reduceDiv, Int.reduceMod, Int.reduceNeg, and_pow0, and_pow1, and_pow2, h0, h1, h2, b0, c0, h0']
      simp at b0 c0
      exact ⟨by simp [Ent.fits, e0, b0, c0], by (repeat (first | with_reducible exact Ext.refl _ | with_reducible assumption | with_reducible apply Ext.alloc | with_reducible apply Ext.drew | (with_reducible refine Ext.setRow ?_ (by (try simp only [World.size_alloc]); omega) _) | (with_reducible refine Ext.tr ?_ (by assumption))))⟩
  · have e0 : ¬ k.inn = 0 := by simpa using h0
    have h0' : (k.inn != 0) = true := by simp [e0]
    rcases bb (k.inn == 1) with h1 | h1
    · have e1 : k.inn = 1 := by simpa using h1
      have h2 : (k.inn == 2) = false := by simp [e1]
      have b0' : (e.ins / 2 % 2 = 0) ∨ e.ins / 2 % 2 = 1 := by omega
      rcases b0' with b0' | b0'
      all_goals
        apply rutterref13_Fits.sound
        unfold rutterref13_Fits.sh Ent.v Key.v
        simp -dsimp (disch := first | omega | assumption | ((simp only [World.size_alloc, size_setRow, List.size_toArray, List.length_cons, List.length_nil, cells_agg, len_enc, cells_int, cells_bool, cells_slice, cells_ptr, cells_string]) <;> omega) | ((repeat (first | with_reducible exact Ext.refl _ | with_reducible assumption | with_reducible apply Ext.alloc | with_reducible apply Ext.drew | (with_reducible refine Ext.setRow ?_ (by (try simp only [World.size_alloc]); omega) _) | (with_reducible refine Ext.tr ?_ (by assumption)))); done) | fail) only [go_sem, jn_r, Nat.reduceAdd, Nat.reduceLeDiff, Nat.reduceMul, Int.reduceToNat, Nat.reduceEqDiff, Nat.reduceLT, Int.reduceBEq, Int.reduceBNe, Int.reduceLT, Int.reduceLE, Int.reduceAdd, Int.reduceSub, Int.reduceMul, Int.reduceDiv, Int.reduceMod, Int.reduceNeg, and_pow0, and_pow1, and_pow2, h0, h1, h2, b0', h0', Int.zero_mul, Int.one_mul]
        exact ⟨by simp [Ent.fits, e1, b0'], by (repeat (first | with_reducible exact Ext.refl _ | with_reducible assumption | with_reducible apply Ext.alloc | with_reducible apply Ext.drew | (with_reducible refine Ext.setRow ?_ (by (try simp only [World.size_alloc]); omega) _) | (with_reducible refine Ext.tr ?_ (by assumption))))⟩
    · have e1 : ¬ k.inn = 1 := by simpa using h1
      rcases bb (k.inn == 2) with h2 | h2
      · have e2 : k.inn = 2 := by simpa using h2
        have b0' : (e.ins / 4 % 2 = 0) ∨ e.ins / 4 % 2 = 1 := by omega
        rcases b0' with b0' | b0'
        all_goals
          apply rutterref13_Fits.sound
          unfold rutterref13_Fits.sh Ent.v Key.v
          simp -dsimp (disch := first | omega | assumption | ((simp only [World.size_alloc, size_setRow, List.size_toArray, List.length_cons, List.length_nil, cells_agg, len_enc, cells_int, cells_bool, cells_slice, cells_ptr, cells_string]) <;> omega) | ((repeat (first | with_reducible exact Ext.refl _ | with_reducible assumption | with_reducible apply Ext.alloc | with_reducible apply Ext.drew | (with_reducible refine Ext.setRow ?_ (by (try simp only [World.size_alloc]); omega) _) | (with_reducible refine Ext.tr ?_ (by assumption)))); done) | fail) only [go_sem, jn_r, Nat.reduceAdd, Nat.reduceLeDiff, Nat.reduceMul, Int.reduceToNat, Nat.reduceEqDiff, Nat.reduceLT, Int.reduceBEq, Int.reduceBNe, Int.reduceLT, Int.reduceLE, Int.reduceAdd, Int.reduceSub, Int.reduceMul, Int.reduceDiv, Int.reduceMod, Int.reduceNeg, and_pow0, and_pow1, and_pow2, h0, h1, h2, b0', h0', Int.zero_mul, Int.one_mul]
          exact ⟨by simp [Ent.fits, e2, b0'], by (repeat (first | with_reducible exact Ext.refl _ | with_reducible assumption | with_reducible apply Ext.alloc | with_reducible apply Ext.drew | (with_reducible refine Ext.setRow ?_ (by (try simp only [World.size_alloc]); omega) _) | (with_reducible refine Ext.tr ?_ (by assumption))))⟩
      · have e2 : ¬ k.inn = 2 := by simpa using h2
        apply rutterref13_Fits.sound
        unfold rutterref13_Fits.sh Ent.v Key.v
        simp -dsimp (disch := first | omega | assumption | ((simp only [World.size_alloc, size_setRow, List.size_toArray, List.length_cons, List.length_nil, cells_agg, len_enc, cells_int, cells_bool, cells_slice, cells_ptr, cells_string]) <;> omega) | ((repeat (first | with_reducible exact Ext.refl _ | with_reducible assumption | with_reducible apply Ext.alloc | with_reducible apply Ext.drew | (with_reducible refine Ext.setRow ?_ (by (try simp only [World.size_alloc]); omega) _) | (with_reducible refine Ext.tr ?_ (by assumption)))); done) | fail) only [go_sem, jn_r, Nat.reduceAdd, Nat.reduceLeDiff, Nat.reduceMul, Int.reduceToNat, Nat.reduceEqDiff, Nat.reduceLT, Int.reduceBEq, Int.reduceBNe, Int.reduceLT, Int.reduceLE, Int.reduceAdd, Int.reduceSub, Int.reduceMul, Int.reduceDiv, Int.reduceMod, Int.reduceNeg, and_pow0, and_pow1, and_pow2, h0, h1, h2, h0']
        have e3 : k.inn < 0 ∨ 3 ≤ k.inn := by omega
        exact ⟨by simp only [Ent.fits]; rw [if_pos (by rcases e3 with h | h; exact .inl h; exact .inr (.inl h))], by (repeat (first | with_reducible exact Ext.refl _ | with_reducible assumption | with_reducible apply Ext.alloc | with_reducible apply Ext.drew | (with_reducible refine Ext.setRow ?_ (by (try simp only [World.size_alloc]); omega) _) | (with_reducible refine Ext.tr ?_ (by assumption))))⟩
theorem flow_Table_Look_1.c (e : Ent) (k : Key) (w : World) (b : Nat) (hb : blk w b = some (#[.int .i64 k.inn, .int .u64 k.mac, .int .i64 k.port, .int .i64 k.stamp, .int .i64 k.origin])) : Calls Try.prog flow_Table_Look_1.id #[e.v, .pointer (some ⟨b, 0, none⟩)] w (retP fun v w' => v = .bool (e.fits k) ∧ Ext w w') := by
  apply flow_Table_Look_1.sound
  unfold flow_Table_Look_1.sh Ent.v
  have := blk_lt hb
  simp -dsimp (disch := first | omega | assumption | ((simp only [World.size_alloc, size_setRow, List.size_toArray, List.length_cons, List.length_nil, cells_agg, len_enc, cells_int, cells_bool, cells_slice, cells_ptr, cells_string]) <;> omega) | ((repeat (first | with_reducible exact Ext.refl _ | with_reducible assumption | with_reducible apply Ext.alloc | with_reducible apply Ext.drew | (with_reducible refine Ext.setRow ?_ (by (try simp only [World.size_alloc]); omega) _) | (with_reducible refine Ext.tr ?_ (by assumption)))); done) | fail) only [go_sem, jn_r, Nat.reduceAdd, Nat.reduceLeDiff, Nat.reduceMul, Int.reduceToNat, Nat.reduceEqDiff, Nat.reduceLT, Int.reduceBEq, Int.reduceBNe, Int.reduceLT, Int.reduceLE, Int.reduceAdd, Int.reduceSub, Int.reduceMul, Int.reduceDiv, Int.reduceMod, Int.reduceNeg, hb]
  refine callM (flow_Fits.c e k _) ?_
  rintro _ w1 ⟨rfl, hx⟩
  exact ⟨rfl, Ext.tr (by (repeat (first | with_reducible exact Ext.refl _ | with_reducible assumption | with_reducible apply Ext.alloc | with_reducible apply Ext.drew | (with_reducible refine Ext.setRow ?_ (by (try simp only [World.size_alloc]); omega) _) | (with_reducible refine Ext.tr ?_ (by assumption))))) hx⟩
/-- the first entry that fits, by its place -/
def firstAt (k : Key) : List Ent → Nat → Option (Nat × Ent)
  | [], _ => none
  | e :: l, i => if e.fits k then some (i, e) else firstAt k l (i + 1)
def firstIx (k : Key) (l : List Ent) : Int := match firstAt k l 0 with | some (i, _) => i | none => -1
theorem firstAt_drop {k : Key} {l : List Ent} {i : Nat} {e : Ent} (h : l[i]? = some e) : firstAt k (l.drop i) i = if e.fits k then some (i, e) else firstAt k (l.drop (i + 1)) (i + 1) := by
  obtain ⟨hl, he⟩ := List.getElem?_eq_some_iff.1 h
  rw [List.drop_eq_getElem_cons hl, he]
  rfl
theorem slices_IndexFunc_flow_Entry.c (l : List Ent) (k : Key) (w : World) (v : Value) (hs : Sl entC w v l) (b : Nat) (hb : blk w b = some (#[.int .i64 k.inn, .int .u64 k.mac, .int .i64 k.port, .int .i64 k.stamp, .int .i64 k.origin])) (hl : l.length ≤ 1000000000) :
    Calls Try.prog slices_IndexFunc_flow_Entry.id #[v, .func (.func flow_Table_Look_1.id) #[] #[.pointer (some ⟨b, 0, none⟩)]] w (retP fun v w' => v = .int .i64 (firstIx k l) ∧ Ext w w') := by
  apply slices_IndexFunc_flow_Entry.sound
  unfold slices_IndexFunc_flow_Entry.sh
  obtain ⟨a, c, hv⟩ := hs.form
  have hln : ∀ (w : World) (K : Value → Prop), ln 1 v w K = K (.int .i64 l.length) := fun w K => by rw [hv]; exact ln_sl
  simp -dsimp (disch := first | omega | assumption | ((simp only [World.size_alloc, size_setRow, List.size_toArray, List.length_cons, List.length_nil, cells_agg, len_enc, cells_int, cells_bool, cells_slice, cells_ptr, cells_string]) <;> omega) | ((repeat (first | with_reducible exact Ext.refl _ | with_reducible assumption | with_reducible apply Ext.alloc | with_reducible apply Ext.drew | (with_reducible refine Ext.setRow ?_ (by (try simp only [World.size_alloc]); omega) _) | (with_reducible refine Ext.tr ?_ (by assumption)))); done) | fail) only [go_sem, jn_r, Nat.reduceAdd, Nat.reduceLeDiff, Nat.reduceMul, Int.reduceToNat, Nat.reduceEqDiff, Nat.reduceLT, Int.reduceBEq, Int.reduceBNe, Int.reduceLT, Int.reduceLE, Int.reduceAdd, Int.reduceSub, Int.reduceMul, Int.reduceDiv, Int.reduceMod, Int.reduceNeg, hln]
  refine loop_g (γ := Nat) (fun i s w' => s = [.int .i64 i] ∧ Ext w w' ∧ i ≤ l.length ∧ firstAt k l 0 = firstAt k (l.drop i) i) (fun i => l.length - i) 0 ⟨rfl, .refl _, Nat.zero_le _, rfl⟩ ?_
  rintro i s w1 next ⟨rfl, hx, hi, hf⟩ hn
  simp -dsimp (disch := first | omega | assumption | ((simp only [World.size_alloc, size_setRow, List.size_toArray, List.length_cons, List.length_nil, cells_agg, len_enc, cells_int, cells_bool, cells_slice, cells_ptr, cells_string]) <;> omega) | ((repeat (first | with_reducible exact Ext.refl _ | with_reducible assumption | with_reducible apply Ext.alloc | with_reducible apply Ext.drew | (with_reducible refine Ext.setRow ?_ (by (try simp only [World.size_alloc]); omega) _) | (with_reducible refine Ext.tr ?_ (by assumption)))); done) | fail) only [go_sem, jn_r, Nat.reduceAdd, Nat.reduceLeDiff, Nat.reduceMul, Int.reduceToNat, Nat.reduceEqDiff, Nat.reduceLT, Int.reduceBEq, Int.reduceBNe, Int.reduceLT, Int.reduceLE, Int.reduceAdd, Int.reduceSub, Int.reduceMul, Int.reduceDiv, Int.reduceMod, Int.reduceNeg]
  refine cnd_i (fun hc => ?_) (fun hc => ?_)
  · simp at hc
    obtain ⟨e, he⟩ : ∃ e, l[i]? = some e := ⟨_, List.getElem?_eq_getElem (by omega)⟩
    obtain ⟨b', off, c', cs, rfl, hb', hsz, hag, -⟩ := (hs.ext hx).at he
    have hi2 : ((i : Int)).toNat = i := rfl
    have h0 : (0 : Int) ≤ (i : Int) := by omega
    have h1 : (i : Int) < (l.length : Int) := by omega
    simp -dsimp (disch := first | omega | assumption | ((simp only [World.size_alloc, size_setRow, List.size_toArray, List.length_cons, List.length_nil, cells_agg, len_enc, cells_int, cells_bool, cells_slice, cells_ptr, cells_string]) <;> omega) | ((repeat (first | with_reducible exact Ext.refl _ | with_reducible assumption | with_reducible apply Ext.alloc | with_reducible apply Ext.drew | (with_reducible refine Ext.setRow ?_ (by (try simp only [World.size_alloc]); omega) _) | (with_reducible refine Ext.tr ?_ (by assumption)))); done) | fail) only [go_sem, jn_r, Nat.reduceAdd, Nat.reduceLeDiff, Nat.reduceMul, Int.reduceToNat, Nat.reduceEqDiff, Nat.reduceLT, Int.reduceBEq, Int.reduceBNe, Int.reduceLT, Int.reduceLE, Int.reduceAdd, Int.reduceSub, Int.reduceMul, Int.reduceDiv, Int.reduceMod, Int.reduceNeg, hb', hi2, hsz, hag, h0, h1]
    refine vcM (by kernel_rfl) (by simp; rfl) (flow_Table_Look_1.c e k w1 b (hx.blkS hb)) ?_
    rintro _ w2 ⟨rfl, hx2⟩
    rw [firstAt_drop he] at hf
    refine cnd_i (fun hd => ?_) (fun hd => ?_)
    · rw [if_pos hd] at hf
      exact ⟨by simp [firstIx, hf, nth], hx.tr hx2⟩
    · rw [if_neg (by simp [hd])] at hf
      simp -dsimp (disch := first | omega | assumption | ((simp only [World.size_alloc, size_setRow, List.size_toArray, List.length_cons, List.length_nil, cells_agg, len_enc, cells_int, cells_bool, cells_slice, cells_ptr, cells_string]) <;> omega) | ((repeat (first | with_reducible exact Ext.refl _ | with_reducible assumption | with_reducible apply Ext.alloc | with_reducible apply Ext.drew | (with_reducible refine Ext.setRow ?_ (by (try simp only [World.size_alloc]); omega) _) | (with_reducible refine Ext.tr ?_ (by assumption)))); done) | fail) only [go_sem, jn_r, Nat.reduceAdd, Nat.reduceLeDiff, Nat.reduceMul, Int.reduceToNat, Nat.reduceEqDiff, Nat.reduceLT, Int.reduceBEq, Int.reduceBNe, Int.reduceLT, Int.reduceLE, Int.reduceAdd, Int.reduceSub, Int.reduceMul, Int.reduceDiv, Int.reduceMod, Int.reduceNeg]
      exact hn (i + 1) _ _ ⟨by simp, hx.tr hx2, by omega, hf⟩ (by omega)
  · simp at hc
    simp -dsimp (disch := first | omega | assumption | ((simp only [World.size_alloc, size_setRow, List.size_toArray, List.length_cons, List.length_nil, cells_agg, len_enc, cells_int, cells_bool, cells_slice, cells_ptr, cells_string]) <;> omega) | ((repeat (first | with_reducible exact Ext.refl _ | with_reducible assumption | with_reducible apply Ext.alloc | with_reducible apply Ext.drew | (with_reducible refine Ext.setRow ?_ (by (try simp only [World.size_alloc]); omega) _) | (with_reducible refine Ext.tr ?_ (by assumption)))); done) | fail) only [go_sem, jn_r, Nat.reduceAdd, Nat.reduceLeDiff, Nat.reduceMul, Int.reduceToNat, Nat.reduceEqDiff, Nat.reduceLT, Int.reduceBEq, Int.reduceBNe, Int.reduceLT, Int.reduceLE, Int.reduceAdd, Int.reduceSub, Int.reduceMul, Int.reduceDiv, Int.reduceMod, Int.reduceNeg]
    have : i = l.length := by omega
    subst this
    refine ⟨?_, hx⟩
    simp [firstIx, hf, firstAt]
/-- what a table tells -/
def lookup (l : List Ent) (k : Key) : Option Ent := (firstAt k l 0).map (·.2)
def lookV (l : List Ent) (k : Key) : Value := match lookup l k with | some e => .tuple #[e.act.v, .bool true] | none => .tuple #[(⟨0, 0, 0, 0⟩ : Act4).v, .bool false]
theorem firstAt_get {k : Key} : ∀ (l : List Ent) (i j : Nat) (e : Ent), firstAt k l i = some (j, e) → i ≤ j ∧ l[j - i]? = some e ∧ e.fits k = true
  | [], _, _, _, h => by simp [firstAt] at h
  | x :: l, i, j, e, h => by
    unfold firstAt at h
    split at h
    · rename_i hf
      simp at h
      obtain ⟨rfl, rfl⟩ := h
      simp [hf]
    · obtain ⟨h1, h2, h3⟩ := firstAt_get l (i + 1) j e h
      refine ⟨by omega, ?_, h3⟩
      rw [show j - i = (j - (i + 1)) + 1 by omega, List.getElem?_cons_succ]
      exact h2
theorem flow_Table_Look.nilc (k : Key) (w : World) : Calls Try.prog flow_Table_Look.id #[.pointer none, k.v] w (retP fun v w' => v = .tuple #[(⟨0, 0, 0, 0⟩ : Act4).v, .bool false] ∧ Ext w w') := by
  apply flow_Table_Look.sound
  unfold flow_Table_Look.sh Key.v
  simp -dsimp (disch := first | omega | assumption | ((simp only [World.size_alloc, size_setRow, List.size_toArray, List.length_cons, List.length_nil, cells_agg, len_enc, cells_int, cells_bool, cells_slice, cells_ptr, cells_string]) <;> omega) | ((repeat (first | with_reducible exact Ext.refl _ | with_reducible assumption | with_reducible apply Ext.alloc | with_reducible apply Ext.drew | (with_reducible refine Ext.setRow ?_ (by (try simp only [World.size_alloc]); omega) _) | (with_reducible refine Ext.tr ?_ (by assumption)))); done) | fail) only [go_sem, jn_r, Nat.reduceAdd, Nat.reduceLeDiff, Nat.reduceMul, Int.reduceToNat, Nat.reduceEqDiff, Nat.reduceLT, Int.reduceBEq, Int.reduceBNe, Int.reduceLT, Int.reduceLE, Int.reduceAdd, Int.reduceSub, Int.reduceMul, Int.reduceDiv, Int.reduceMod, Int.reduceNeg, Option.isNone]
  exact ⟨rfl, by (repeat (first | with_reducible exact Ext.refl _ | with_reducible assumption | with_reducible apply Ext.alloc | with_reducible apply Ext.drew | (with_reducible refine Ext.setRow ?_ (by (try simp only [World.size_alloc]); omega) _) | (with_reducible refine Ext.tr ?_ (by assumption))))⟩
theorem flow_Table_Look.c (l : List Ent) (k : Key) (w : World) (p : Nat) (u v : Value) (hp : blk w p = some #[u, v]) (hs : Sl entC w v l) (hl : l.length ≤ 1000000000) :
    Calls Try.prog flow_Table_Look.id #[.pointer (some ⟨p, 0, none⟩), k.v] w (retP fun r w' => r = lookV l k ∧ Ext w w') := by
  have hp' := blk_lt hp
  have hlk : firstAt k l 0 = none ∨ ∃ i e, firstAt k l 0 = some (i, e) := by cases h : firstAt k l 0 with
    | none => exact .inl rfl
    | some x => exact .inr ⟨x.1, x.2, rfl⟩
  rcases hlk with hf | ⟨i, e, hf⟩
  · have hv : lookV l k = .tuple #[.agg #[.int .i64 0, .int .i64 0, .int .i64 0, .int .i64 0], .bool false] := by simp [lookV, lookup, hf, Act4.v]
    have hi : firstIx k l = -1 := by simp [firstIx, hf]
    apply flow_Table_Look.sound
    unfold flow_Table_Look.sh Key.v
    simp -dsimp (disch := first | omega | assumption | ((simp only [World.size_alloc, size_setRow, List.size_toArray, List.length_cons, List.length_nil, cells_agg, len_enc, cells_int, cells_bool, cells_slice, cells_ptr, cells_string]) <;> omega) | ((repeat (first | with_reducible exact Ext.refl _ | with_reducible assumption | with_reducible apply Ext.alloc | with_reducible apply Ext.drew | (with_reducible refine Ext.setRow ?_ (by (try simp only [World.size_alloc]); omega) _) | (with_reducible refine Ext.tr ?_ (by assumption)))); done) | fail) only [go_sem, jn_r, Nat.reduceAdd, Nat.reduceLeDiff, Nat.reduceMul, Int.reduceToNat, Nat.reduceEqDiff, Nat.reduceLT, Int.reduceBEq, Int.reduceBNe, Int.reduceLT, Int.reduceLE, Int.reduceAdd, Int.reduceSub, Int.reduceMul, Int.reduceDiv, Int.reduceMod, Int.reduceNeg, Option.isNone, hp]
    refine callM (slices_IndexFunc_flow_Entry.c l k _ v (hs.ext (by (repeat (first | with_reducible exact Ext.refl _ | with_reducible assumption | with_reducible apply Ext.alloc | with_reducible apply Ext.drew | (with_reducible refine Ext.setRow ?_ (by (try simp only [World.size_alloc]); omega) _) | (with_reducible refine Ext.tr ?_ (by assumption)))))) w.heap.size (by simp -dsimp (disch := first | omega | assumption | ((simp only [World.size_alloc, size_setRow, List.size_toArray, List.length_cons, List.length_nil, cells_agg, len_enc, cells_int, cells_bool, cells_slice, cells_ptr, cells_string]) <;> omega) | ((repeat (first | with_reducible exact Ext.refl _ | with_reducible assumption | with_reducible apply Ext.alloc | with_reducible apply Ext.drew | (with_reducible refine Ext.setRow ?_ (by (try simp only [World.size_alloc]); omega) _) | (with_reducible refine Ext.tr ?_ (by assumption)))); done) | fail) only [go_sem, jn_r, Nat.reduceAdd, Nat.reduceLeDiff, Nat.reduceMul, Int.reduceToNat, Nat.reduceEqDiff, Nat.reduceLT, Int.reduceBEq, Int.reduceBNe, Int.reduceLT, Int.reduceLE, Int.reduceAdd, Int.reduceSub, Int.reduceMul, Int.reduceDiv, Int.reduceMod, Int.reduceNeg]) hl) ?_
    rintro _ w1 ⟨rfl, hx⟩
    have hz := hx.size
    simp -dsimp (disch := first | omega | assumption | ((simp only [World.size_alloc, size_setRow, List.size_toArray, List.length_cons, List.length_nil, cells_agg, len_enc, cells_int, cells_bool, cells_slice, cells_ptr, cells_string]) <;> omega) | ((repeat (first | with_reducible exact Ext.refl _ | with_reducible assumption | with_reducible apply Ext.alloc | with_reducible apply Ext.drew | (with_reducible refine Ext.setRow ?_ (by (try simp only [World.size_alloc]); omega) _) | (with_reducible refine Ext.tr ?_ (by assumption)))); done) | fail) only [go_sem, jn_r, Nat.reduceAdd, Nat.reduceLeDiff, Nat.reduceMul, Int.reduceToNat, Nat.reduceEqDiff, Nat.reduceLT, Int.reduceBEq, Int.reduceBNe, Int.reduceLT, Int.reduceLE, Int.reduceAdd, Int.reduceSub, Int.reduceMul, Int.reduceDiv, Int.reduceMod, Int.reduceNeg, hi, hx.blk, hx.blk0]
    exact ⟨hv.symm, by (repeat (first | with_reducible exact Ext.refl _ | with_reducible assumption | with_reducible apply Ext.alloc | with_reducible apply Ext.drew | (with_reducible refine Ext.setRow ?_ (by (try simp only [World.size_alloc]); omega) _) | (with_reducible refine Ext.tr ?_ (by assumption))))⟩
  · have hv : lookV l k = .tuple #[e.act.v, .bool true] := by simp [lookV, lookup, hf]
    have hi : firstIx k l = i := by simp [firstIx, hf]
    obtain ⟨-, h2, -⟩ := firstAt_get l 0 i e hf
    rw [Nat.sub_zero] at h2
    have hi0 : ¬ ((i : Int) < 0) := by omega
    have hi1 : (0 : Int) ≤ (i : Int) := by omega
    have hi2 : ((i : Int)).toNat = i := rfl
    obtain ⟨b', off, c', cs, rfl, hb', hsz, hag, hj⟩ := hs.at h2
    have hlt := (List.getElem?_eq_some_iff.1 h2).1
    have hbl := blk_lt hb'
    have h7 : agx cs (off + i * 11 + 7) 4 = .agg #[.int .i64 e.kind, .int .i64 e.aport, .int .i64 e.to, .int .i64 e.gen] := agx_sub (d := 7) (m := 4) hj (by rw [entC.len]; omega)
    have hs7 : off + i * 11 + 7 + 4 ≤ cs.size := by omega
    apply flow_Table_Look.sound
    unfold flow_Table_Look.sh Key.v
    simp -dsimp (disch := first | omega | assumption | ((simp only [World.size_alloc, size_setRow, List.size_toArray, List.length_cons, List.length_nil, cells_agg, len_enc, cells_int, cells_bool, cells_slice, cells_ptr, cells_string]) <;> omega) | ((repeat (first | with_reducible exact Ext.refl _ | with_reducible assumption | with_reducible apply Ext.alloc | with_reducible apply Ext.drew | (with_reducible refine Ext.setRow ?_ (by (try simp only [World.size_alloc]); omega) _) | (with_reducible refine Ext.tr ?_ (by assumption)))); done) | fail) only [go_sem, jn_r, Nat.reduceAdd, Nat.reduceLeDiff, Nat.reduceMul, Int.reduceToNat, Nat.reduceEqDiff, Nat.reduceLT, Int.reduceBEq, Int.reduceBNe, Int.reduceLT, Int.reduceLE, Int.reduceAdd, Int.reduceSub, Int.reduceMul, Int.reduceDiv, Int.reduceMod, Int.reduceNeg, Option.isNone, hp]
    refine callM (slices_IndexFunc_flow_Entry.c l k _ _ (hs.ext (by (repeat (first | with_reducible exact Ext.refl _ | with_reducible assumption | with_reducible apply Ext.alloc | with_reducible apply Ext.drew | (with_reducible refine Ext.setRow ?_ (by (try simp only [World.size_alloc]); omega) _) | (with_reducible refine Ext.tr ?_ (by assumption)))))) w.heap.size (by simp -dsimp (disch := first | omega | assumption | ((simp only [World.size_alloc, size_setRow, List.size_toArray, List.length_cons, List.length_nil, cells_agg, len_enc, cells_int, cells_bool, cells_slice, cells_ptr, cells_string]) <;> omega) | ((repeat (first | with_reducible exact Ext.refl _ | with_reducible assumption | with_reducible apply Ext.alloc | with_reducible apply Ext.drew | (with_reducible refine Ext.setRow ?_ (by (try simp only [World.size_alloc]); omega) _) | (with_reducible refine Ext.tr ?_ (by assumption)))); done) | fail) only [go_sem, jn_r, Nat.reduceAdd, Nat.reduceLeDiff, Nat.reduceMul, Int.reduceToNat, Nat.reduceEqDiff, Nat.reduceLT, Int.reduceBEq, Int.reduceBNe, Int.reduceLT, Int.reduceLE, Int.reduceAdd, Int.reduceSub, Int.reduceMul, Int.reduceDiv, Int.reduceMod, Int.reduceNeg]) hl) ?_
    rintro _ w1 ⟨rfl, hx⟩
    have hz := hx.size
    have hi3 : (i : Int) < (l.length : Int) := by omega
    simp -dsimp (disch := first | omega | assumption | ((simp only [World.size_alloc, size_setRow, List.size_toArray, List.length_cons, List.length_nil, cells_agg, len_enc, cells_int, cells_bool, cells_slice, cells_ptr, cells_string]) <;> omega) | ((repeat (first | with_reducible exact Ext.refl _ | with_reducible assumption | with_reducible apply Ext.alloc | with_reducible apply Ext.drew | (with_reducible refine Ext.setRow ?_ (by (try simp only [World.size_alloc]); omega) _) | (with_reducible refine Ext.tr ?_ (by assumption)))); done) | fail) only [go_sem, jn_r, Nat.reduceAdd, Nat.reduceLeDiff, Nat.reduceMul, Int.reduceToNat, Nat.reduceEqDiff, Nat.reduceLT, Int.reduceBEq, Int.reduceBNe, Int.reduceLT, Int.reduceLE, Int.reduceAdd, Int.reduceSub, Int.reduceMul, Int.reduceDiv, Int.reduceMod, Int.reduceNeg, hi, hx.blk, hx.blk0, hp, hb', hi0, hi1, hi2, hi3, h7, hs7]
    exact ⟨by rw [hv]; rfl, by (repeat (first | with_reducible exact Ext.refl _ | with_reducible assumption | with_reducible apply Ext.alloc | with_reducible apply Ext.drew | (with_reducible refine Ext.setRow ?_ (by (try simp only [World.size_alloc]); omega) _) | (with_reducible refine Ext.tr ?_ (by assumption))))⟩
end Go.Proofs.Ytldjhbmccnbciaa
