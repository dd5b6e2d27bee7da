/- the database of the program. -/
import Derived.Test.YtbkgijnmckchbaaVw
import Derived.Test.YtbkgijnmckchbaaMr
namespace Go.Proofs.Ytbkgijnmckchbaa
open Go
set_option linter.unusedSimpArgs false
set_option linter.unusedVariables false
theorem MTy.of {t kt e : Nat} (h1 : Try.prog.underlying t = some (.map kt e)) (h2 : Try.prog.underlying kt = some (.int .i64)) : MTy t kt e := ⟨h1, h2⟩
instance : MTy 60 3 3 := .of (by kernel_rfl) (by kernel_rfl)
instance : MTy 61 3 33 := .of (by kernel_rfl) (by kernel_rfl)
instance : ZTy 33 Rw.zero.v := .of (by kernel_rfl)
attribute [go_sem] Option.isNone_some Option.isNone_none Option.isSome_some Option.isSome_none Bool.false_or Bool.true_or Bool.or_false Bool.or_true Bool.true_and Bool.false_and Bool.and_true Bool.and_false Bool.not_false Bool.not_true
@[go_sem] theorem ex_10 {u : Value} {K : Value → Prop} : pv (ex (.tuple #[u]) 0) K = K u := ex_r rfl
@[go_sem] theorem ex_30 {u v z : Value} {K : Value → Prop} : pv (ex (.tuple #[u, v, z]) 0) K = K u := ex_r rfl
@[go_sem] theorem ex_31 {u v z : Value} {K : Value → Prop} : pv (ex (.tuple #[u, v, z]) 1) K = K v := ex_r rfl
@[go_sem] theorem ex_32 {u v z : Value} {K : Value → Prop} : pv (ex (.tuple #[u, v, z]) 2) K = K z := ex_r rfl
abbrev iV : Int → Value := Value.int .i64
/-- what a map tells -/
def lkv {α : Type} (V : α → Value) (z : Value) : Option α → Value
  | some x => V x
  | none => z
section
variable {α : Type} {V : α → Value} {t kt e b : Nat} {z : Value} {k : Int} {m : List (Int × α)} {w : World} {K : Value → Prop}
theorem lk_f [T : MTy t kt e] [Z : ZTy e z] (h : MpAt V w b m) : wv (lk t (.map (some b)) (.int .i64 k) false) w K = K (lkv V z (look m k)) := by
  rw [lk_r h, if_neg (by decide)]
  cases look m k <;> rfl
theorem lk_t [T : MTy t kt e] [Z : ZTy e z] (h : MpAt V w b m) : wv (lk t (.map (some b)) (.int .i64 k) true) w K = K (.tuple #[lkv V z (look m k), .bool (look m k).isSome]) := by
  rw [lk_r h, if_pos rfl]
  cases look m k <;> rfl
@[go_sem] theorem lkv_some {x : α} : lkv V z (some x) = V x := rfl
@[go_sem] theorem lkv_none : lkv V z none = z := rfl
end
/-- a store lies in block p, and in these -/
def StAt (w : World) (p : Nat) (B : List Nat) (V : Vw) : Prop :=
  ∃ bc br cm rm, B = [p, bc, br] ∧ p ≠ bc ∧ p ≠ br ∧ bc ≠ br ∧ blk0 w p = some #[.map (some bc), .map (some br)] ∧ MpAt iV w bc cm ∧ MpAt Rw.v w br rm ∧
    (∀ k, look cm k = if V.c k then some 1 else none) ∧ (∀ k, look rm k = V.r k)
theorem StAt.chg {w w' : World} {p : Nat} {B S : List Nat} {V : Vw} (h : StAt w p B V) (hc : Chg S w w') (hn : ∀ b ∈ B, b ∉ S) : StAt w' p B V := by
  obtain ⟨bc, br, cm, rm, rfl, h1, h2, h3, h4, h5, h6, h7, h8⟩ := h
  exact ⟨bc, br, cm, rm, rfl, h1, h2, h3, hc.blk0S h4 (hn p (by simp)), h5.chg hc (hn bc (by simp)), h6.chg hc (hn br (by simp)), h7, h8⟩
section
variable {w : World} {p : Nat} {B : List Nat} {V : Vw}
theorem store_New.c (w : World) : Calls Try.prog store_New.id #[] w (retP fun v w' => ∃ p B, v = .pointer (some ⟨p, 0, none⟩) ∧ StAt w' p B Vw.new ∧ Ext w w' ∧ ∀ b ∈ B, w.heap.size ≤ b ∧ b < w'.heap.size) := by
  apply store_New.sound
  unfold store_New.sh
  simp -dsimp (disch := first | omega | assumption | ((simp only [World.size_alloc, size_setRow, List.size_toArray, List.length_cons, List.length_nil, cells_agg, len_enc, cells_int, cells_bool, cells_slice, cells_ptr, cells_string]) <;> omega) | ((repeat (first | with_reducible exact Ext.refl _ | with_reducible assumption | with_reducible apply Ext.alloc | with_reducible apply Ext.drew | (with_reducible refine Ext.setRow ?_ (by (try simp only [World.size_alloc]); omega) _) | (with_reducible refine Ext.tr ?_ (by assumption)))); done) | fail) only [go_sem, jn_r, Nat.reduceAdd, Nat.reduceLeDiff, Nat.reduceMul, Int.reduceToNat, Nat.reduceEqDiff, Nat.reduceLT, Int.reduceBEq, Int.reduceBNe, Int.reduceLT, Int.reduceLE, Int.reduceAdd, Int.reduceSub, Int.reduceMul, Int.reduceDiv, Int.reduceMod, Int.reduceNeg, mm_r, bd_63_0_1]
  refine ⟨w.heap.size + 2, _, rfl, ⟨w.heap.size, w.heap.size + 1, [], [], rfl, by omega, by omega, by omega, ?_, ?_, ?_, ?_, ?_⟩, by (repeat (first | with_reducible exact Ext.refl _ | with_reducible assumption | with_reducible apply Ext.alloc | with_reducible apply Ext.drew | (with_reducible refine Ext.setRow ?_ (by (try simp only [World.size_alloc]); omega) _) | (with_reducible refine Ext.tr ?_ (by assumption)))), ?_⟩
  · exact blk0_new (by simp only [World.size_alloc])
  · exact ((MpAt.new iV).ext (by (repeat (first | with_reducible exact Ext.refl _ | with_reducible assumption | with_reducible apply Ext.alloc | with_reducible apply Ext.drew | (with_reducible refine Ext.setRow ?_ (by (try simp only [World.size_alloc]); omega) _) | (with_reducible refine Ext.tr ?_ (by assumption)))))).ext (by (repeat (first | with_reducible exact Ext.refl _ | with_reducible assumption | with_reducible apply Ext.alloc | with_reducible apply Ext.drew | (with_reducible refine Ext.setRow ?_ (by (try simp only [World.size_alloc]); omega) _) | (with_reducible refine Ext.tr ?_ (by assumption)))))
  · have := (MpAt.new Rw.v (w := w.alloc (.map #[] 0)))
    simp only [World.size_alloc] at this
    exact this.ext (by (repeat (first | with_reducible exact Ext.refl _ | with_reducible assumption | with_reducible apply Ext.alloc | with_reducible apply Ext.drew | (with_reducible refine Ext.setRow ?_ (by (try simp only [World.size_alloc]); omega) _) | (with_reducible refine Ext.tr ?_ (by assumption)))))
  · intro k; rfl
  · intro k; rfl
  · intro b hb
    simp only [List.mem_cons, List.not_mem_nil, or_false] at hb
    omega
theorem store_Store_Add.c (hV : V.Ok) (h : StAt w p B V) (k : Int) : Calls Try.prog store_Store_Add.id #[.pointer (some ⟨p, 0, none⟩), .int .i64 k] w (retP fun v w' => v = .int .i64 (V.add k).2 ∧ StAt w' p B (V.add k).1 ∧ Chg B w w') := by
  have h' := h
  obtain ⟨bc, br, cm, rm, rfl, h1, h2, h3, h4, h5, h6, h7, h8⟩ := h
  apply store_Store_Add.sound
  unfold store_Store_Add.sh
  unfold Vw.add
  by_cases hk : 0 ≤ k ∧ k ≤ 15
  · rw [if_neg (not_not_intro hk)]
    have e1 : (decide (k < 0) || decide (16 ≤ k)) = false := by simp; omega
    have h4' := blk_of0 h4
    cases hc : V.c k with
    | true =>
      have hl : look cm k = some 1 := by rw [h7, if_pos hc]
      rw [if_pos rfl]
      simp -dsimp (disch := first | omega | assumption | ((simp only [World.size_alloc, size_setRow, List.size_toArray, List.length_cons, List.length_nil, cells_agg, len_enc, cells_int, cells_bool, cells_slice, cells_ptr, cells_string]) <;> omega) | ((repeat (first | with_reducible exact Ext.refl _ | with_reducible assumption | with_reducible apply Ext.alloc | with_reducible apply Ext.drew | (with_reducible refine Ext.setRow ?_ (by (try simp only [World.size_alloc]); omega) _) | (with_reducible refine Ext.tr ?_ (by assumption)))); done) | fail) only [go_sem, jn_r, Nat.reduceAdd, Nat.reduceLeDiff, Nat.reduceMul, Int.reduceToNat, Nat.reduceEqDiff, Nat.reduceLT, Int.reduceBEq, Int.reduceBNe, Int.reduceLT, Int.reduceLE, Int.reduceAdd, Int.reduceSub, Int.reduceMul, Int.reduceDiv, Int.reduceMod, Int.reduceNeg, e1, h4', lk_f h5, hl]
      exact ⟨h', .refl _ _⟩
    | false =>
      have hl : look cm k = none := by rw [h7, if_neg (by simp [hc])]
      rw [if_neg (by decide)]
      simp -dsimp (disch := first | omega | assumption | ((simp only [World.size_alloc, size_setRow, List.size_toArray, List.length_cons, List.length_nil, cells_agg, len_enc, cells_int, cells_bool, cells_slice, cells_ptr, cells_string]) <;> omega) | ((repeat (first | with_reducible exact Ext.refl _ | with_reducible assumption | with_reducible apply Ext.alloc | with_reducible apply Ext.drew | (with_reducible refine Ext.setRow ?_ (by (try simp only [World.size_alloc]); omega) _) | (with_reducible refine Ext.tr ?_ (by assumption)))); done) | fail) only [go_sem, jn_r, Nat.reduceAdd, Nat.reduceLeDiff, Nat.reduceMul, Int.reduceToNat, Nat.reduceEqDiff, Nat.reduceLT, Int.reduceBEq, Int.reduceBNe, Int.reduceLT, Int.reduceLE, Int.reduceAdd, Int.reduceSub, Int.reduceMul, Int.reduceDiv, Int.reduceMod, Int.reduceNeg, e1, h4', lk_f h5, hl]
      refine mu_r h5 (x := (1 : Int)) fun w' h5' hC => ⟨rfl, ?_, hC.mono (by simp)⟩
      refine ⟨bc, br, _, rm, rfl, h1, h2, h3, hC.blk0S h4 (by simpa using h1), h5', h6.chg hC (by simpa using h3.symm), fun j => ?_, h8⟩
      rw [look_mset h5.nd]
      simp only
      split
      · simp
      · exact h7 j
  · rw [if_pos hk]
    have e1 : (decide (k < 0) || decide (16 ≤ k)) = true := by simp; omega
    simp -dsimp (disch := first | omega | assumption | ((simp only [World.size_alloc, size_setRow, List.size_toArray, List.length_cons, List.length_nil, cells_agg, len_enc, cells_int, cells_bool, cells_slice, cells_ptr, cells_string]) <;> omega) | ((repeat (first | with_reducible exact Ext.refl _ | with_reducible assumption | with_reducible apply Ext.alloc | with_reducible apply Ext.drew | (with_reducible refine Ext.setRow ?_ (by (try simp only [World.size_alloc]); omega) _) | (with_reducible refine Ext.tr ?_ (by assumption)))); done) | fail) only [go_sem, jn_r, Nat.reduceAdd, Nat.reduceLeDiff, Nat.reduceMul, Int.reduceToNat, Nat.reduceEqDiff, Nat.reduceLT, Int.reduceBEq, Int.reduceBNe, Int.reduceLT, Int.reduceLE, Int.reduceAdd, Int.reduceSub, Int.reduceMul, Int.reduceDiv, Int.reduceMod, Int.reduceNeg, e1]
    exact ⟨h', .refl _ _⟩
theorem store_Store_Has.c (hV : V.Ok) (h : StAt w p B V) (k : Int) : Calls Try.prog store_Store_Has.id #[.pointer (some ⟨p, 0, none⟩), .int .i64 k] w (retP fun v w' => v = .bool (V.c k) ∧ w' = w) := by
  obtain ⟨bc, br, cm, rm, rfl, h1, h2, h3, h4, h5, h6, h7, h8⟩ := h
  apply store_Store_Has.sound
  unfold store_Store_Has.sh
  have h4' := blk_of0 h4
  cases hc : V.c k with
  | true =>
    have hl : look cm k = some 1 := by rw [h7, if_pos hc]
    simp -dsimp (disch := first | omega | assumption | ((simp only [World.size_alloc, size_setRow, List.size_toArray, List.length_cons, List.length_nil, cells_agg, len_enc, cells_int, cells_bool, cells_slice, cells_ptr, cells_string]) <;> omega) | ((repeat (first | with_reducible exact Ext.refl _ | with_reducible assumption | with_reducible apply Ext.alloc | with_reducible apply Ext.drew | (with_reducible refine Ext.setRow ?_ (by (try simp only [World.size_alloc]); omega) _) | (with_reducible refine Ext.tr ?_ (by assumption)))); done) | fail) only [go_sem, jn_r, Nat.reduceAdd, Nat.reduceLeDiff, Nat.reduceMul, Int.reduceToNat, Nat.reduceEqDiff, Nat.reduceLT, Int.reduceBEq, Int.reduceBNe, Int.reduceLT, Int.reduceLE, Int.reduceAdd, Int.reduceSub, Int.reduceMul, Int.reduceDiv, Int.reduceMod, Int.reduceNeg, h4', lk_f h5, hl]
  | false =>
    have hl : look cm k = none := by rw [h7, if_neg (by simp [hc])]
    simp -dsimp (disch := first | omega | assumption | ((simp only [World.size_alloc, size_setRow, List.size_toArray, List.length_cons, List.length_nil, cells_agg, len_enc, cells_int, cells_bool, cells_slice, cells_ptr, cells_string]) <;> omega) | ((repeat (first | with_reducible exact Ext.refl _ | with_reducible assumption | with_reducible apply Ext.alloc | with_reducible apply Ext.drew | (with_reducible refine Ext.setRow ?_ (by (try simp only [World.size_alloc]); omega) _) | (with_reducible refine Ext.tr ?_ (by assumption)))); done) | fail) only [go_sem, jn_r, Nat.reduceAdd, Nat.reduceLeDiff, Nat.reduceMul, Int.reduceToNat, Nat.reduceEqDiff, Nat.reduceLT, Int.reduceBEq, Int.reduceBNe, Int.reduceLT, Int.reduceLE, Int.reduceAdd, Int.reduceSub, Int.reduceMul, Int.reduceDiv, Int.reduceMod, Int.reduceNeg, h4', lk_f h5, hl]
theorem store_Store_Row.c (h : StAt w p B V) (k : Int) : Calls Try.prog store_Store_Row.id #[.pointer (some ⟨p, 0, none⟩), .int .i64 k] w (retP fun v w' => v = .tuple #[((V.r k).getD Rw.zero).v, .bool (V.r k).isSome] ∧ Ext w w') := by
  obtain ⟨bc, br, cm, rm, rfl, h1, h2, h3, h4, h5, h6, h7, h8⟩ := h
  apply store_Store_Row.sound
  unfold store_Store_Row.sh
  have h4' := blk_of0 h4
  have hlt := blk_lt h4'
  obtain ⟨x, hx⟩ : ∃ x, (V.r k).getD Rw.zero = x := ⟨_, rfl⟩
  have e : lkv Rw.v Rw.zero.v (V.r k) = .agg #[.int .i64 x.port, .int .u64 x.mac, .int .i64 x.owner, .int .i64 x.target, .int .i64 x.old, .int .i64 x.gen, .int .i64 x.phase, .int .i64 x.ver, .int .i64 x.since] := by
    rw [← hx]
    cases V.r k <;> rfl
  rw [hx]
  have h6' := h6.ext (w' := w.alloc (.cells #[(.int .i64 0), (.int .u64 0), (.int .i64 0), (.int .i64 0), (.int .i64 0), (.int .i64 0), (.int .i64 0), (.int .i64 0), (.int .i64 0)] 33)) (by (repeat (first | with_reducible exact Ext.refl _ | with_reducible assumption | with_reducible apply Ext.alloc | with_reducible apply Ext.drew | (with_reducible refine Ext.setRow ?_ (by (try simp only [World.size_alloc]); omega) _) | (with_reducible refine Ext.tr ?_ (by assumption)))))
  simp -dsimp (disch := first | omega | assumption | ((simp only [World.size_alloc, size_setRow, List.size_toArray, List.length_cons, List.length_nil, cells_agg, len_enc, cells_int, cells_bool, cells_slice, cells_ptr, cells_string]) <;> omega) | ((repeat (first | with_reducible exact Ext.refl _ | with_reducible assumption | with_reducible apply Ext.alloc | with_reducible apply Ext.drew | (with_reducible refine Ext.setRow ?_ (by (try simp only [World.size_alloc]); omega) _) | (with_reducible refine Ext.tr ?_ (by assumption)))); done) | fail) only [go_sem, jn_r, Nat.reduceAdd, Nat.reduceLeDiff, Nat.reduceMul, Int.reduceToNat, Nat.reduceEqDiff, Nat.reduceLT, Int.reduceBEq, Int.reduceBNe, Int.reduceLT, Int.reduceLE, Int.reduceAdd, Int.reduceSub, Int.reduceMul, Int.reduceDiv, Int.reduceMod, Int.reduceNeg, h4', lk_t h6', e, h8]
  exact ⟨rfl, by (repeat (first | with_reducible exact Ext.refl _ | with_reducible assumption | with_reducible apply Ext.alloc | with_reducible apply Ext.drew | (with_reducible refine Ext.setRow ?_ (by (try simp only [World.size_alloc]); omega) _) | (with_reducible refine Ext.tr ?_ (by assumption))))⟩
theorem store_Store_Chassis.c (hV : V.Ok) (h : StAt w p B V) : Calls Try.prog store_Store_Chassis.id #[.pointer (some ⟨p, 0, none⟩)] w (retP fun v w' => Sl (intC .i64) w' v V.chassis ∧ Ext w w') := by
  obtain ⟨bc, br, cm, rm, rfl, h1, h2, h3, h4, h5, h6, h7, h8⟩ := h
  apply store_Store_Chassis.sound
  unfold store_Store_Chassis.sh
  have h4' := blk_of0 h4
  have hk : ∀ p ∈ cm, 0 ≤ p.1 ∧ p.1 ≤ 15 := fun p hp => by
    have := look_of_mem h5.nd (k := p.1) (x := p.2) hp
    rw [h7] at this
    cases hc : V.c p.1 with
    | true => exact hV.c _ hc
    | false => rw [hc] at this; cases this
  have ha := V.asc_chassis hV h5.nd h7
  have hl : cm.length ≤ 16 := by
    have := congrArg List.length ha
    unfold asc at this
    rw [List.length_mergeSort, List.length_map] at this
    have := V.chassis_len
    omega
  simp -dsimp (disch := first | omega | assumption | ((simp only [World.size_alloc, size_setRow, List.size_toArray, List.length_cons, List.length_nil, cells_agg, len_enc, cells_int, cells_bool, cells_slice, cells_ptr, cells_string]) <;> omega) | ((repeat (first | with_reducible exact Ext.refl _ | with_reducible assumption | with_reducible apply Ext.alloc | with_reducible apply Ext.drew | (with_reducible refine Ext.setRow ?_ (by (try simp only [World.size_alloc]); omega) _) | (with_reducible refine Ext.tr ?_ (by assumption)))); done) | fail) only [go_sem, jn_r, Nat.reduceAdd, Nat.reduceLeDiff, Nat.reduceMul, Int.reduceToNat, Nat.reduceEqDiff, Nat.reduceLT, Int.reduceBEq, Int.reduceBNe, Int.reduceLT, Int.reduceLE, Int.reduceAdd, Int.reduceSub, Int.reduceMul, Int.reduceDiv, Int.reduceMod, Int.reduceNeg, h4']
  refine callM (keysA.c _ _) ?_
  rintro _ w1 ⟨rfl, rfl⟩
  refine callM (sortedA.c h5 (fun p hp => by have := hk p hp; omega) (by omega)) ?_
  rintro v w2 ⟨h, hx⟩
  rw [ha] at h
  exact ⟨h.sl, hx⟩
theorem StAt.rows_len (hV : V.Ok) {rm : List (Int × Rw)} (hn : (rm.map (·.1)).Nodup) (h8 : ∀ k, look rm k = V.r k) : rm.length ≤ 32 := by
  have := congrArg List.length (V.asc_ports hV hn h8)
  unfold asc at this
  rw [List.length_mergeSort, List.length_map] at this
  have h2 := V.rows_len
  rw [V.rows_ports, List.length_map] at h2
  omega
theorem Vw.ports_some {i : Nat} {k : Int} (hk : V.ports[i]? = some k) : ∃ x, V.r k = some x := by
  have := List.mem_of_getElem? hk
  unfold Vw.ports at this
  exact Option.isSome_iff_exists.1 (List.mem_filter.1 this).2
set_option maxHeartbeats 1000000 in
theorem store_Store_Rows.c (hV : V.Ok) (h : StAt w p B V) : Calls Try.prog store_Store_Rows.id #[.pointer (some ⟨p, 0, none⟩)] w (retP fun v w' => Ow rowC 33 w.heap.size w' v V.rows ∧ Ext w w') := by
  have hst := h
  obtain ⟨bc, br, cm, rm, rfl, h1, h2, h3, h4, h5, h6, h7, h8⟩ := h
  apply store_Store_Rows.sound
  unfold store_Store_Rows.sh
  have h4' := blk_of0 h4
  have hk : ∀ p ∈ rm, 0 ≤ p.1 ∧ p.1 ≤ 31 := fun p hp => by
    have := look_of_mem h6.nd (k := p.1) (x := p.2) hp
    rw [h8] at this
    exact hV.port this
  have ha := V.asc_ports hV h6.nd h8
  have hl := StAt.rows_len hV h6.nd h8
  have hpl : V.ports.length ≤ 32 := by
    have h2 := V.rows_len
    rw [V.rows_ports, List.length_map] at h2
    omega
  simp -dsimp (disch := first | omega | assumption | ((simp only [World.size_alloc, size_setRow, List.size_toArray, List.length_cons, List.length_nil, cells_agg, len_enc, cells_int, cells_bool, cells_slice, cells_ptr, cells_string]) <;> omega) | ((repeat (first | with_reducible exact Ext.refl _ | with_reducible assumption | with_reducible apply Ext.alloc | with_reducible apply Ext.drew | (with_reducible refine Ext.setRow ?_ (by (try simp only [World.size_alloc]); omega) _) | (with_reducible refine Ext.tr ?_ (by assumption)))); done) | fail) only [go_sem, jn_r, Nat.reduceAdd, Nat.reduceLeDiff, Nat.reduceMul, Int.reduceToNat, Nat.reduceEqDiff, Nat.reduceLT, Int.reduceBEq, Int.reduceBNe, Int.reduceLT, Int.reduceLE, Int.reduceAdd, Int.reduceSub, Int.reduceMul, Int.reduceDiv, Int.reduceMod, Int.reduceNeg, h4']
  refine callM (keysB.c _ _) ?_
  rintro _ w1 ⟨rfl, rfl⟩
  refine callM (sortedB.c h6 (fun p hp => by have := hk p hp; omega) (by omega)) ?_
  rintro v w2 ⟨h, hx⟩
  rw [ha] at h
  have hsl := h.sl
  obtain ⟨a, c, rfl⟩ := hsl.form
  simp -dsimp (disch := first | omega | assumption | ((simp only [World.size_alloc, size_setRow, List.size_toArray, List.length_cons, List.length_nil, cells_agg, len_enc, cells_int, cells_bool, cells_slice, cells_ptr, cells_string]) <;> omega) | ((repeat (first | with_reducible exact Ext.refl _ | with_reducible assumption | with_reducible apply Ext.alloc | with_reducible apply Ext.drew | (with_reducible refine Ext.setRow ?_ (by (try simp only [World.size_alloc]); omega) _) | (with_reducible refine Ext.tr ?_ (by assumption)))); done) | fail) only [go_sem, jn_r, Nat.reduceAdd, Nat.reduceLeDiff, Nat.reduceMul, Int.reduceToNat, Nat.reduceEqDiff, Nat.reduceLT, Int.reduceBEq, Int.reduceBNe, Int.reduceLT, Int.reduceLE, Int.reduceAdd, Int.reduceSub, Int.reduceMul, Int.reduceDiv, Int.reduceMod, Int.reduceNeg]
  refine loop_g (γ := Nat × Value) (fun g st w' => st = [g.2, .int .i64 (g.1 : Int)] ∧ Ext w2 w' ∧ Ow rowC 33 w2.heap.size w' g.2 (V.rows.take g.1)) (fun g => V.ports.length - g.1) (0, .slice none 0 0) ⟨rfl, .refl _, Ow.nil⟩ ?_
  rintro ⟨i, out⟩ st w3 next ⟨rfl, hE2, hO⟩ hn
  simp only at hO
  have hE := hx.tr hE2
  by_cases hi : i < V.ports.length
  · have d0 : ((i : Int) < (V.ports.length : Int)) := by omega
    have d1 : (0 : Int) ≤ (i : Int) := by omega
    have ew : IntKind.i64.wrap ((i : Int) + 1) = ((i + 1 : Nat) : Int) := by rw [wrap_64 (by omega) (by omega)]; simp
    obtain ⟨k, hkk⟩ : ∃ k, V.ports[i]? = some k := ⟨_, List.getElem?_eq_getElem hi⟩
    obtain ⟨x, hxk⟩ := V.ports_some hkk
    obtain ⟨b', off, c', cs, hsx, hb', hsz, hag, hj⟩ := (hsl.ext hE2).at hkk
    cases hsx
    have hc := hj 0 (.int .i64 k) rfl
    simp only [Nat.mul_one, Nat.add_zero] at hc
    have h4w := hE.blkS h4'
    have h6w := h6.ext hE
    have hl : lkv Rw.v Rw.zero.v (V.r k) = .agg (rowC.enc x).toArray := by rw [hxk]; rfl
    simp -dsimp (disch := first | omega | assumption | ((simp only [World.size_alloc, size_setRow, List.size_toArray, List.length_cons, List.length_nil, cells_agg, len_enc, cells_int, cells_bool, cells_slice, cells_ptr, cells_string]) <;> omega) | ((repeat (first | with_reducible exact Ext.refl _ | with_reducible assumption | with_reducible apply Ext.alloc | with_reducible apply Ext.drew | (with_reducible refine Ext.setRow ?_ (by (try simp only [World.size_alloc]); omega) _) | (with_reducible refine Ext.tr ?_ (by assumption)))); done) | fail) only [go_sem, jn_r, Nat.reduceAdd, Nat.reduceLeDiff, Nat.reduceMul, Int.reduceToNat, Nat.reduceEqDiff, Nat.reduceLT, Int.reduceBEq, Int.reduceBNe, Int.reduceLT, Int.reduceLE, Int.reduceAdd, Int.reduceSub, Int.reduceMul, Int.reduceDiv, Int.reduceMod, Int.reduceNeg, d0, d1, hb', hc, Int.toNat_natCast, Nat.mul_one, h4w, lk_f h6w, h8, hl]
    have hrow : V.rows[i]? = some x := by rw [V.rows_ports, List.getElem?_map, hkk]; simp [hxk]
    refine ap_ow (l := V.rows.take i) (m := [x]) (hO.ext (by (repeat (first | with_reducible exact Ext.refl _ | with_reducible assumption | with_reducible apply Ext.alloc | with_reducible apply Ext.drew | (with_reducible refine Ext.setRow ?_ (by (try simp only [World.size_alloc]); omega) _) | (with_reducible refine Ext.tr ?_ (by assumption)))))) (Sl.lit (C := rowC) (l := [x]) (by simp -dsimp (disch := first | omega | assumption | ((simp only [World.size_alloc, size_setRow, List.size_toArray, List.length_cons, List.length_nil, cells_agg, len_enc, cells_int, cells_bool, cells_slice, cells_ptr, cells_string]) <;> omega) | ((repeat (first | with_reducible exact Ext.refl _ | with_reducible assumption | with_reducible apply Ext.alloc | with_reducible apply Ext.drew | (with_reducible refine Ext.setRow ?_ (by (try simp only [World.size_alloc]); omega) _) | (with_reducible refine Ext.tr ?_ (by assumption)))); done) | fail) only [go_sem, jn_r, Nat.reduceAdd, Nat.reduceLeDiff, Nat.reduceMul, Int.reduceToNat, Nat.reduceEqDiff, Nat.reduceLT, Int.reduceBEq, Int.reduceBNe, Int.reduceLT, Int.reduceLE, Int.reduceAdd, Int.reduceSub, Int.reduceMul, Int.reduceDiv, Int.reduceMod, Int.reduceNeg]; rfl) rfl (by simp)).from (w0 := w2) (by (repeat (first | with_reducible exact Ext.refl _ | with_reducible assumption | with_reducible apply Ext.alloc | with_reducible apply Ext.drew | (with_reducible refine Ext.setRow ?_ (by (try simp only [World.size_alloc]); omega) _) | (with_reducible refine Ext.tr ?_ (by assumption))))) rfl (by simp; omega) ?_
    intro v' w' k1 k2 _ _
    simp -dsimp (disch := first | omega | assumption | ((simp only [World.size_alloc, size_setRow, List.size_toArray, List.length_cons, List.length_nil, cells_agg, len_enc, cells_int, cells_bool, cells_slice, cells_ptr, cells_string]) <;> omega) | ((repeat (first | with_reducible exact Ext.refl _ | with_reducible assumption | with_reducible apply Ext.alloc | with_reducible apply Ext.drew | (with_reducible refine Ext.setRow ?_ (by (try simp only [World.size_alloc]); omega) _) | (with_reducible refine Ext.tr ?_ (by assumption)))); done) | fail) only [go_sem, jn_r, Nat.reduceAdd, Nat.reduceLeDiff, Nat.reduceMul, Int.reduceToNat, Nat.reduceEqDiff, Nat.reduceLT, Int.reduceBEq, Int.reduceBNe, Int.reduceLT, Int.reduceLE, Int.reduceAdd, Int.reduceSub, Int.reduceMul, Int.reduceDiv, Int.reduceMod, Int.reduceNeg, ew]
    refine hn (i + 1, v') _ _ ⟨rfl, k2, ?_⟩ (by simp; omega)
    simp only
    rw [take_next hrow]
    exact k1
  · have d0 : ¬ ((i : Int) < (V.ports.length : Int)) := by omega
    simp -dsimp (disch := first | omega | assumption | ((simp only [World.size_alloc, size_setRow, List.size_toArray, List.length_cons, List.length_nil, cells_agg, len_enc, cells_int, cells_bool, cells_slice, cells_ptr, cells_string]) <;> omega) | ((repeat (first | with_reducible exact Ext.refl _ | with_reducible assumption | with_reducible apply Ext.alloc | with_reducible apply Ext.drew | (with_reducible refine Ext.setRow ?_ (by (try simp only [World.size_alloc]); omega) _) | (with_reducible refine Ext.tr ?_ (by assumption)))); done) | fail) only [go_sem, jn_r, Nat.reduceAdd, Nat.reduceLeDiff, Nat.reduceMul, Int.reduceToNat, Nat.reduceEqDiff, Nat.reduceLT, Int.reduceBEq, Int.reduceBNe, Int.reduceLT, Int.reduceLE, Int.reduceAdd, Int.reduceSub, Int.reduceMul, Int.reduceDiv, Int.reduceMod, Int.reduceNeg, d0]
    refine ⟨?_, hE⟩
    rw [List.take_of_length_le (by rw [V.rows_ports, List.length_map]; omega)] at hO
    have hz := hx.size
    exact hO.mono (by first | omega | (simp only [World.size_alloc] at hz; omega))
theorem store_names.c (w : World) (r : Rw) : Calls Try.prog store_names.id #[r.v] w (retP fun v w' => Sl (intC .i64) w' v r.names ∧ Ext w w') := by
  apply store_names.sound
  unfold store_names.sh Rw.v
  simp -dsimp (disch := first | omega | assumption | ((simp only [World.size_alloc, size_setRow, List.size_toArray, List.length_cons, List.length_nil, cells_agg, len_enc, cells_int, cells_bool, cells_slice, cells_ptr, cells_string]) <;> omega) | ((repeat (first | with_reducible exact Ext.refl _ | with_reducible assumption | with_reducible apply Ext.alloc | with_reducible apply Ext.drew | (with_reducible refine Ext.setRow ?_ (by (try simp only [World.size_alloc]); omega) _) | (with_reducible refine Ext.tr ?_ (by assumption)))); done) | fail) only [go_sem, jn_r, Nat.reduceAdd, Nat.reduceLeDiff, Nat.reduceMul, Int.reduceToNat, Nat.reduceEqDiff, Nat.reduceLT, Int.reduceBEq, Int.reduceBNe, Int.reduceLT, Int.reduceLE, Int.reduceAdd, Int.reduceSub, Int.reduceMul, Int.reduceDiv, Int.reduceMod, Int.reduceNeg]
  refine callM (slices_DeleteFunc_int.c (l := [r.owner, r.target, r.old]) (p := fun c => c == -1) (b := w.heap.size + 1) (c := 3) ?_ ?_ (by simp) (by simp) store_names_1.id #[] rfl ?_) ?_
  · exact blk0_new (by simp only [World.size_alloc])
  · exact blk_new (by simp only [World.size_alloc])
  · intro w1 x _
    apply store_names_1.sound
    unfold store_names_1.sh
    simp -dsimp (disch := first | omega | assumption | ((simp only [World.size_alloc, size_setRow, List.size_toArray, List.length_cons, List.length_nil, cells_agg, len_enc, cells_int, cells_bool, cells_slice, cells_ptr, cells_string]) <;> omega) | ((repeat (first | with_reducible exact Ext.refl _ | with_reducible assumption | with_reducible apply Ext.alloc | with_reducible apply Ext.drew | (with_reducible refine Ext.setRow ?_ (by (try simp only [World.size_alloc]); omega) _) | (with_reducible refine Ext.tr ?_ (by assumption)))); done) | fail) only [go_sem, jn_r, Nat.reduceAdd, Nat.reduceLeDiff, Nat.reduceMul, Int.reduceToNat, Nat.reduceEqDiff, Nat.reduceLT, Int.reduceBEq, Int.reduceBNe, Int.reduceLT, Int.reduceLE, Int.reduceAdd, Int.reduceSub, Int.reduceMul, Int.reduceDiv, Int.reduceMod, Int.reduceNeg]
    exact .refl _
  · rintro v w1 ⟨h1, h2⟩
    refine ⟨?_, ?_⟩
    · have : ([r.owner, r.target, r.old].filter fun x => !(x == -1)) = r.names := rfl
      rw [← this]
      exact h1
    · exact Ext.then (w1 := (w.alloc (.cells #[.int .i64 r.port, .int .u64 r.mac, .int .i64 r.owner, .int .i64 r.target, .int .i64 r.old, .int .i64 r.gen, .int .i64 r.phase, .int .i64 r.ver, .int .i64 r.since] 33)).alloc (.cells #[.int .i64 r.owner, .int .i64 r.target, .int .i64 r.old] 3)) (by (repeat (first | with_reducible exact Ext.refl _ | with_reducible assumption | with_reducible apply Ext.alloc | with_reducible apply Ext.drew | (with_reducible refine Ext.setRow ?_ (by (try simp only [World.size_alloc]); omega) _) | (with_reducible refine Ext.tr ?_ (by assumption))))) h2 (by simp)
theorem store_Store_wrong_1.c {b : Nat} (h : StAt w p B V) (hb : blk w b = some #[.pointer (some ⟨p, 0, none⟩)]) (k : Int) : Calls Try.prog store_Store_wrong_1.id #[.int .i64 k, .pointer (some ⟨b, 0, none⟩)] w (retP fun v w' => v = .bool (!V.c k) ∧ Ext w w') := by
  obtain ⟨bc, br, cm, rm, rfl, h1, h2, h3, h4, h5, h6, h7, h8⟩ := h
  apply store_Store_wrong_1.sound
  unfold store_Store_wrong_1.sh
  have h4' := blk_of0 h4
  cases hc : V.c k with
  | true =>
    have hl : look cm k = some 1 := by rw [h7, if_pos hc]
    simp -dsimp (disch := first | omega | assumption | ((simp only [World.size_alloc, size_setRow, List.size_toArray, List.length_cons, List.length_nil, cells_agg, len_enc, cells_int, cells_bool, cells_slice, cells_ptr, cells_string]) <;> omega) | ((repeat (first | with_reducible exact Ext.refl _ | with_reducible assumption | with_reducible apply Ext.alloc | with_reducible apply Ext.drew | (with_reducible refine Ext.setRow ?_ (by (try simp only [World.size_alloc]); omega) _) | (with_reducible refine Ext.tr ?_ (by assumption)))); done) | fail) only [go_sem, jn_r, Nat.reduceAdd, Nat.reduceLeDiff, Nat.reduceMul, Int.reduceToNat, Nat.reduceEqDiff, Nat.reduceLT, Int.reduceBEq, Int.reduceBNe, Int.reduceLT, Int.reduceLE, Int.reduceAdd, Int.reduceSub, Int.reduceMul, Int.reduceDiv, Int.reduceMod, Int.reduceNeg, hb, h4', lk_f h5, hl]
    exact .refl _
  | false =>
    have hl : look cm k = none := by rw [h7, if_neg (by simp [hc])]
    simp -dsimp (disch := first | omega | assumption | ((simp only [World.size_alloc, size_setRow, List.size_toArray, List.length_cons, List.length_nil, cells_agg, len_enc, cells_int, cells_bool, cells_slice, cells_ptr, cells_string]) <;> omega) | ((repeat (first | with_reducible exact Ext.refl _ | with_reducible assumption | with_reducible apply Ext.alloc | with_reducible apply Ext.drew | (with_reducible refine Ext.setRow ?_ (by (try simp only [World.size_alloc]); omega) _) | (with_reducible refine Ext.tr ?_ (by assumption)))); done) | fail) only [go_sem, jn_r, Nat.reduceAdd, Nat.reduceLeDiff, Nat.reduceMul, Int.reduceToNat, Nat.reduceEqDiff, Nat.reduceLT, Int.reduceBEq, Int.reduceBNe, Int.reduceLT, Int.reduceLE, Int.reduceAdd, Int.reduceSub, Int.reduceMul, Int.reduceDiv, Int.reduceMod, Int.reduceNeg, hb, h4', lk_f h5, hl]
    exact .refl _
end
end Go.Proofs.Ytbkgijnmckchbaa
