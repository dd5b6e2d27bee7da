/- frames and bytes: clones, the writer, ether, and the document's bytes. -/
import Derived.Test.YtldjhbmccnbciaaSt
namespace Go.Proofs.Ytldjhbmccnbciaa
open Go
set_option linter.unusedSimpArgs false
set_option linter.unusedVariables false
/-- slices.Clone, bytes.Clone: what their text comes to -/
theorem clone_gen {α : Type} {t e k : Nat} {C : Cdc α k} [T : SlT t e k] {w : World} {v : Value} {l : List α} {cs : Array Bool} (K : Value → World → Prop) (hs : Sl C w v l) (hl : l.length ≤ 1000000000)
    (h : ∀ r w', Ow C e w.heap.size w' r l → Ext w w' → (r = .slice none 0 0 → l = []) → K r w') :
    pv (be .eql t true v (.slice none 0 0)) fun t1 => cnd t1 (K (.slice none 0 0) w) (o (bs t 0 #[]) w fun t2 w => o (ap #[t, t] t cs t2 v) w fun t3 w => K t3 w) := by
  obtain ⟨a, c, rfl⟩ := hs.form
  rw [eq_sn]
  cases a with
  | none =>
    have hl0 : l = [] := by
      rcases hs with ⟨rfl, -⟩ | ⟨b, off, c', cs, h1, -⟩
      · rfl
      · cases h1
    subst hl0
    simp -dsimp only [Option.isNone, cnd_t]
    exact h _ _ Ow.nil (.refl _) fun _ => rfl
  | some ad =>
    simp -dsimp only [Option.isNone, cnd_f, bs0]
    refine ap_ow (l := ([] : List α)) (m := l) (bs0_ow (t := t) (C := C) (Nat.le_refl _)) ((hs.ext (by (repeat (first | with_reducible exact Ext.refl _ | with_reducible assumption | with_reducible apply Ext.alloc | with_reducible apply Ext.drew | (with_reducible refine Ext.setRow ?_ (by (try simp only [World.size_alloc]); omega) _) | (with_reducible refine Ext.tr ?_ (by assumption)))))).from) (w0 := w) (by (repeat (first | with_reducible exact Ext.refl _ | with_reducible assumption | with_reducible apply Ext.alloc | with_reducible apply Ext.drew | (with_reducible refine Ext.setRow ?_ (by (try simp only [World.size_alloc]); omega) _) | (with_reducible refine Ext.tr ?_ (by assumption))))) rfl (by simpa using hl) fun v' w' h1 h2 h3 h4 => ?_
    exact h v' w' h1 h2 fun hh => by have := h4.1 hh; cases this.1
theorem slices_Clone_byte.c (w : World) (v : Value) (l : List UInt8) (hs : Sl bytC w v l) (hl : l.length ≤ 1000000000) : Calls Try.prog slices_Clone_byte.id #[v] w (retP fun r w' => Ow bytC 5 w.heap.size w' r l ∧ Ext w w') := by
  apply slices_Clone_byte.sound
  unfold slices_Clone_byte.sh
  exact clone_gen (fun r w' => Ow bytC 5 w.heap.size w' r l ∧ Ext w w') hs hl fun r w' h1 h2 _ => ⟨h1, h2⟩
theorem bytes_Clone.c (w : World) (v : Value) (l : List UInt8) (hs : Sl bytC w v l) (hl : l.length ≤ 1000000000) : Calls Try.prog bytes_Clone.id #[v] w (retP fun r w' => Ow bytC 5 w.heap.size w' r l ∧ Ext w w') := by
  apply bytes_Clone.sound
  unfold bytes_Clone.sh
  exact clone_gen (fun r w' => Ow bytC 5 w.heap.size w' r l ∧ Ext w w') hs hl fun r w' h1 h2 _ => ⟨h1, h2⟩
theorem slices_Clone_flow_Entry.c (w : World) (v : Value) (l : List Ent) (hs : Sl entC w v l) (hl : l.length ≤ 1000000000) : Calls Try.prog slices_Clone_flow_Entry.id #[v] w (retP fun r w' => Ow entC 70 w.heap.size w' r l ∧ Ext w w') := by
  apply slices_Clone_flow_Entry.sound
  unfold slices_Clone_flow_Entry.sh
  exact clone_gen (fun r w' => Ow entC 70 w.heap.size w' r l ∧ Ext w w') hs hl fun r w' h1 h2 _ => ⟨h1, h2⟩
/- ### the document's bytes -/
/-- a number's byte at place i -/
def byt (x : Int) (i : Nat) : UInt8 := UInt8.ofNat (x / 2 ^ (8 * i) % 256).toNat
/-- a number, in n bytes -/
def numB (x : Int) : Nat → List UInt8
  | 0 => []
  | n + 1 => byt x n :: numB x n
theorem numB_len (x : Int) (n : Nat) : (numB x n).length = n := by
  induction n with
  | zero => rfl
  | succ n ih => simp [numB, ih]
theorem byt_nat (x : Int) (i : Nat) : ((byt x i).toNat : Int) = x / 2 ^ (8 * i) % 256 := by
  have h1 : 0 ≤ x / 2 ^ (8 * i) % 256 := Int.emod_nonneg _ (by decide)
  have h2 : x / 2 ^ (8 * i) % 256 < 256 := Int.emod_lt_of_pos _ (by decide)
  unfold byt
  rw [UInt8.toNat_ofNat']
  generalize x / 2 ^ (8 * i) % 256 = y at h1 h2
  show ((y.toNat % 256 : Nat) : Int) = y
  omega
theorem bytC_byt (x : Int) (i : Nat) : bytC.enc (byt x i) = [.int .u8 (x / 2 ^ (8 * i) % 256)] := by
  show [Value.int .u8 _] = _
  rw [byt_nat]
theorem rutterref01_One.c (w : World) (n x : Int) (h0 : 0 ≤ n) (h8 : n ≤ 8) (hx : 0 ≤ x) (hx' : x < 9223372036854775808) : Calls Try.prog rutterref01_One.id #[.int .i64 n, .int .i64 x] w (retP fun r w' => Ow bytC 5 w.heap.size w' r (numB x n.toNat) ∧ Ext w w') := by
  apply rutterref01_One.sound
  unfold rutterref01_One.sh
  simp -dsimp (disch := first | omega | assumption | ((simp only [World.size_alloc, size_setRow, List.size_toArray, List.length_cons, List.length_nil, cells_agg, len_enc, cells_int, cells_bool, cells_slice, cells_ptr, cells_string]) <;> omega) | ((repeat (first | with_reducible exact Ext.refl _ | with_reducible assumption | with_reducible apply Ext.alloc | with_reducible apply Ext.drew | (with_reducible refine Ext.setRow ?_ (by (try simp only [World.size_alloc]); omega) _) | (with_reducible refine Ext.tr ?_ (by assumption)))); done) | fail) only [go_sem, jn_r, Nat.reduceAdd, Nat.reduceLeDiff, Nat.reduceMul, Int.reduceToNat, Nat.reduceEqDiff, Nat.reduceLT, Int.reduceBEq, Int.reduceBNe, Int.reduceLT, Int.reduceLE, Int.reduceAdd, Int.reduceSub, Int.reduceMul, Int.reduceDiv, Int.reduceMod, Int.reduceNeg]
  refine loop_g (γ := Nat × List UInt8) (fun (i, l) s w' => ∃ v, s = [v, .int .i64 ((i : Int) - 1)] ∧ numB x n.toNat = l ++ numB x i ∧ Ow bytC 5 w.heap.size w' v l ∧ Ext w w' ∧ i ≤ 8) (fun (i, l) => i) (n.toNat, []) ⟨_, by simp; omega, by simp, Ow.nil, .refl _, by omega⟩ ?_
  rintro ⟨i, l⟩ s w1 next ⟨v, rfl, hN, hO, hE, hi⟩ hn
  rcases i with _ | i
  · have c0 : ¬ ((0 : Int) ≤ ((0 : Nat) : Int) - 1) := by omega
    simp -dsimp (disch := first | omega | assumption | ((simp only [World.size_alloc, size_setRow, List.size_toArray, List.length_cons, List.length_nil, cells_agg, len_enc, cells_int, cells_bool, cells_slice, cells_ptr, cells_string]) <;> omega) | ((repeat (first | with_reducible exact Ext.refl _ | with_reducible assumption | with_reducible apply Ext.alloc | with_reducible apply Ext.drew | (with_reducible refine Ext.setRow ?_ (by (try simp only [World.size_alloc]); omega) _) | (with_reducible refine Ext.tr ?_ (by assumption)))); done) | fail) only [go_sem, jn_r, Nat.reduceAdd, Nat.reduceLeDiff, Nat.reduceMul, Int.reduceToNat, Nat.reduceEqDiff, Nat.reduceLT, Int.reduceBEq, Int.reduceBNe, Int.reduceLT, Int.reduceLE, Int.reduceAdd, Int.reduceSub, Int.reduceMul, Int.reduceDiv, Int.reduceMod, Int.reduceNeg, c0]
    simp [numB] at hN
    rw [hN]
    exact ⟨hO, hE⟩
  · have e1 : ((i + 1 : Nat) : Int) - 1 = (i : Int) := by omega
    have c1 : (0 : Int) ≤ (i : Int) := by omega
    have c2 : (0 : Int) ≤ 8 * (i : Int) := by omega
    have e2 : (8 * (i : Int)).toNat = 8 * i := by omega
    have e3 : min (8 * i) 64 = 8 * i := by omega
    have hll : l.length + (i + 1) = n.toNat := by have := congrArg List.length hN; simp [numB_len] at this; omega
    simp -dsimp (disch := first | omega | assumption | ((simp only [World.size_alloc, size_setRow, List.size_toArray, List.length_cons, List.length_nil, cells_agg, len_enc, cells_int, cells_bool, cells_slice, cells_ptr, cells_string]) <;> omega) | ((repeat (first | with_reducible exact Ext.refl _ | with_reducible assumption | with_reducible apply Ext.alloc | with_reducible apply Ext.drew | (with_reducible refine Ext.setRow ?_ (by (try simp only [World.size_alloc]); omega) _) | (with_reducible refine Ext.tr ?_ (by assumption)))); done) | fail) only [go_sem, jn_r, Nat.reduceAdd, Nat.reduceLeDiff, Nat.reduceMul, Int.reduceToNat, Nat.reduceEqDiff, Nat.reduceLT, Int.reduceBEq, Int.reduceBNe, Int.reduceLT, Int.reduceLE, Int.reduceAdd, Int.reduceSub, Int.reduceMul, Int.reduceDiv, Int.reduceMod, Int.reduceNeg, e1, c1, c2, e2, e3]
    refine ap_ow (l := l) (m := [byt x i]) (hO.ext (by (repeat (first | with_reducible exact Ext.refl _ | with_reducible assumption | with_reducible apply Ext.alloc | with_reducible apply Ext.drew | (with_reducible refine Ext.setRow ?_ (by (try simp only [World.size_alloc]); omega) _) | (with_reducible refine Ext.tr ?_ (by assumption)))))) (one_from (by rw [bytC_byt]; exact blk_new rfl)) (w0 := w) (by (repeat (first | with_reducible exact Ext.refl _ | with_reducible assumption | with_reducible apply Ext.alloc | with_reducible apply Ext.drew | (with_reducible refine Ext.setRow ?_ (by (try simp only [World.size_alloc]); omega) _) | (with_reducible refine Ext.tr ?_ (by assumption))))) rfl (by simp; omega) fun v' w' h1 h2 _ _ => ?_
    simp -dsimp (disch := first | omega | assumption | ((simp only [World.size_alloc, size_setRow, List.size_toArray, List.length_cons, List.length_nil, cells_agg, len_enc, cells_int, cells_bool, cells_slice, cells_ptr, cells_string]) <;> omega) | ((repeat (first | with_reducible exact Ext.refl _ | with_reducible assumption | with_reducible apply Ext.alloc | with_reducible apply Ext.drew | (with_reducible refine Ext.setRow ?_ (by (try simp only [World.size_alloc]); omega) _) | (with_reducible refine Ext.tr ?_ (by assumption)))); done) | fail) only [go_sem, jn_r, Nat.reduceAdd, Nat.reduceLeDiff, Nat.reduceMul, Int.reduceToNat, Nat.reduceEqDiff, Nat.reduceLT, Int.reduceBEq, Int.reduceBNe, Int.reduceLT, Int.reduceLE, Int.reduceAdd, Int.reduceSub, Int.reduceMul, Int.reduceDiv, Int.reduceMod, Int.reduceNeg, e1]
    exact hn (i, l ++ [byt x i]) _ _ ⟨v', rfl, by rw [hN]; simp [numB], h1, h2, by omega⟩ (by simp)
end Go.Proofs.Ytldjhbmccnbciaa
