/- the document's answer for flow: entries as it has them, what is looked up. -/
import Derived.Test.YtldjhbmccnbciaaFl
namespace Go.Proofs.Ytldjhbmccnbciaa
open Go
set_option linter.unusedSimpArgs false
set_option linter.unusedVariables false
def stepB (k : Key) (i : Nat) (e : Ent) (b : Option (Nat × Ent)) : Option (Nat × Ent) :=
  if e.fits k = true then (match b with | none => some (i, e) | some (_, x) => if x.prio < e.prio then some (i, e) else b) else b
theorem stepB_some {k : Key} {i j : Nat} {e x : Ent} {b : Option (Nat × Ent)} (h : stepB k i e b = some (j, x)) : (j = i ∧ x = e) ∨ b = some (j, x) := by
  unfold stepB at h
  split at h
  · split at h
    · simp at h; exact .inl ⟨h.1.symm, h.2.symm⟩
    · split at h
      · simp at h; exact .inl ⟨h.1.symm, h.2.symm⟩
      · exact .inr h
  · exact .inr h
def bestAt (k : Key) : List Ent → Nat → Option (Nat × Ent) → Option (Nat × Ent)
  | [], _, b => b
  | e :: l, i, b => bestAt k l (i + 1) (stepB k i e b)
theorem bestAt_drop {k : Key} {l : List Ent} {i : Nat} {e : Ent} {b : Option (Nat × Ent)} (h : l[i]? = some e) : bestAt k (l.drop i) i b = bestAt k (l.drop (i + 1)) (i + 1) (stepB k i e b) := by
  obtain ⟨hl, he⟩ := List.getElem?_eq_some_iff.1 h
  rw [List.drop_eq_getElem_cons hl, he]
  rfl
def bestV (l : List Ent) (k : Key) : Value := match bestAt k l 0 none with | some (_, e) => .tuple #[e.act.v, .bool true] | none => .tuple #[(⟨0, 0, 0, 0⟩ : Act4).v, .bool false]
def bIx : Option (Nat × Ent) → Int | some (j, _) => j | none => -1
theorem rutterref13_Look.c (l : List Ent) (k : Key) (w : World) (v : Value) (hs : Sl entC w v l) (hl : l.length ≤ 1000000000) :
    Calls Try.prog rutterref13_Look.id #[v, k.v] w (retP fun r w' => r = bestV l k ∧ Ext w w') := by
  apply rutterref13_Look.sound
  unfold rutterref13_Look.sh Key.v
  obtain ⟨a, c, hv⟩ := hs.form
  have hln : ∀ (w : World) (K : Value → Prop), ln 1 v w K = K (.int .i64 l.length) := fun w K => by rw [hv]; exact ln_sl
  simp -dsimp (disch := first | omega | assumption | ((simp only [World.size_alloc, size_setRow, List.size_toArray, List.length_cons, List.length_nil, cells_agg, len_enc, cells_int, cells_bool, cells_slice, cells_ptr, cells_string]) <;> omega) | ((repeat (first | with_reducible exact Ext.refl _ | with_reducible assumption | with_reducible apply Ext.alloc | with_reducible apply Ext.drew | (with_reducible refine Ext.setRow ?_ (by (try simp only [World.size_alloc]); omega) _) | (with_reducible refine Ext.tr ?_ (by assumption)))); done) | fail) only [go_sem, jn_r, Nat.reduceAdd, Nat.reduceLeDiff, Nat.reduceMul, Int.reduceToNat, Nat.reduceEqDiff, Nat.reduceLT, Int.reduceBEq, Int.reduceBNe, Int.reduceLT, Int.reduceLE, Int.reduceAdd, Int.reduceSub, Int.reduceMul, Int.reduceDiv, Int.reduceMod, Int.reduceNeg, hln]
  refine loop_g (γ := Nat × Option (Nat × Ent)) (fun g s w' => s = [.int .i64 (bIx g.2), .int .i64 g.1] ∧ Ext w w' ∧ w.heap.size + 2 ≤ w'.heap.size ∧ blk w' w.heap.size = some #[.int .i64 k.inn, .int .u64 k.mac, .int .i64 k.port, .int .i64 k.stamp, .int .i64 k.origin] ∧ blk0 w' (w.heap.size + 1) = some #[.int .i64 0, .int .i64 0, .int .i64 0, .int .i64 0] ∧ g.1 ≤ l.length ∧ bestAt k (l.drop g.1) g.1 g.2 = bestAt k l 0 none ∧ ∀ j x, g.2 = some (j, x) → l[j]? = some x)
    (fun g => l.length - g.1) (0, none) ⟨rfl, by (repeat (first | with_reducible exact Ext.refl _ | with_reducible assumption | with_reducible apply Ext.alloc | with_reducible apply Ext.drew | (with_reducible refine Ext.setRow ?_ (by (try simp only [World.size_alloc]); omega) _) | (with_reducible refine Ext.tr ?_ (by assumption)))), by simp only [World.size_alloc]; omega, by simp -dsimp (disch := first | omega | assumption | ((simp only [World.size_alloc, size_setRow, List.size_toArray, List.length_cons, List.length_nil, cells_agg, len_enc, cells_int, cells_bool, cells_slice, cells_ptr, cells_string]) <;> omega) | ((repeat (first | with_reducible exact Ext.refl _ | with_reducible assumption | with_reducible apply Ext.alloc | with_reducible apply Ext.drew | (with_reducible refine Ext.setRow ?_ (by (try simp only [World.size_alloc]); omega) _) | (with_reducible refine Ext.tr ?_ (by assumption)))); done) | fail) only [go_sem, jn_r, Nat.reduceAdd, Nat.reduceLeDiff, Nat.reduceMul, Int.reduceToNat, Nat.reduceEqDiff, Nat.reduceLT, Int.reduceBEq, Int.reduceBNe, Int.reduceLT, Int.reduceLE, Int.reduceAdd, Int.reduceSub, Int.reduceMul, Int.reduceDiv, Int.reduceMod, Int.reduceNeg], by simp -dsimp (disch := first | omega | assumption | ((simp only [World.size_alloc, size_setRow, List.size_toArray, List.length_cons, List.length_nil, cells_agg, len_enc, cells_int, cells_bool, cells_slice, cells_ptr, cells_string]) <;> omega) | ((repeat (first | with_reducible exact Ext.refl _ | with_reducible assumption | with_reducible apply Ext.alloc | with_reducible apply Ext.drew | (with_reducible refine Ext.setRow ?_ (by (try simp only [World.size_alloc]); omega) _) | (with_reducible refine Ext.tr ?_ (by assumption)))); done) | fail) only [go_sem, jn_r, Nat.reduceAdd, Nat.reduceLeDiff, Nat.reduceMul, Int.reduceToNat, Nat.reduceEqDiff, Nat.reduceLT, Int.reduceBEq, Int.reduceBNe, Int.reduceLT, Int.reduceLE, Int.reduceAdd, Int.reduceSub, Int.reduceMul, Int.reduceDiv, Int.reduceMod, Int.reduceNeg], Nat.zero_le _, rfl, fun j x h => by simp at h⟩ ?_
  rintro ⟨i, b⟩ s w1 next ⟨rfl, hx, hz, hk, hr, hi, hf, hbx⟩ hn
  simp only at hf hbx hi
  by_cases hc : i < l.length
  · obtain ⟨e, he⟩ : ∃ e, l[i]? = some e := ⟨_, List.getElem?_eq_getElem hc⟩
    have hs1 := hs.ext hx
    obtain ⟨b', off, c', cs, rfl, hb', hsz, hag, hj⟩ := hs1.at he
    have hi1 : (0 : Int) ≤ (i : Int) := by omega
    have hi2 : ((i : Int)).toNat = i := rfl
    have hi3 : (i : Int) < (l.length : Int) := by omega
    have hbl := blk_lt hb'
    rw [bestAt_drop he] at hf
    have next' : ∀ b2 w3, stepB k i e b = b2 → Ext w1 w3 → next [.int .i64 (bIx b2), .int .i64 ((i : Int) + 1)] w3 := by
      intro b2 w3 h1 h2
      subst h1
      refine hn (i + 1, stepB k i e b) _ _ ⟨by simp, hx.tr h2, Nat.le_trans hz h2.size, by rw [h2.blk (by omega), hk], by rw [h2.blk0 (by omega), hr], by show i + 1 ≤ _; omega, hf, fun j x h => ?_⟩ (by show l.length - (i + 1) < l.length - i; omega)
      rcases stepB_some h with ⟨rfl, rfl⟩ | h
      · exact he
      · exact hbx j x h
    simp -dsimp (disch := first | omega | assumption | ((simp only [World.size_alloc, size_setRow, List.size_toArray, List.length_cons, List.length_nil, cells_agg, len_enc, cells_int, cells_bool, cells_slice, cells_ptr, cells_string]) <;> omega) | ((repeat (first | with_reducible exact Ext.refl _ | with_reducible assumption | with_reducible apply Ext.alloc | with_reducible apply Ext.drew | (with_reducible refine Ext.setRow ?_ (by (try simp only [World.size_alloc]); omega) _) | (with_reducible refine Ext.tr ?_ (by assumption)))); done) | fail) only [go_sem, jn_r, Nat.reduceAdd, Nat.reduceLeDiff, Nat.reduceMul, Int.reduceToNat, Nat.reduceEqDiff, Nat.reduceLT, Int.reduceBEq, Int.reduceBNe, Int.reduceLT, Int.reduceLE, Int.reduceAdd, Int.reduceSub, Int.reduceMul, Int.reduceDiv, Int.reduceMod, Int.reduceNeg, hi1, hi2, hi3, hb', hsz, hag, hk]
    refine callM (rutterref13_Fits.c e k _) ?_
    rintro _ w2 ⟨rfl, hx2⟩
    have hx2' : Ext w1 w2 := ⟨hx2.os, hx2.tape, hx2.output, hx2.size, hx2.block⟩
    have hz2 := hx2'.size
    rcases bb (e.fits k) with hfit | hfit
    · rcases b with _ | ⟨j, x⟩
      · simp -dsimp (disch := first | omega | assumption | ((simp only [World.size_alloc, size_setRow, List.size_toArray, List.length_cons, List.length_nil, cells_agg, len_enc, cells_int, cells_bool, cells_slice, cells_ptr, cells_string]) <;> omega) | ((repeat (first | with_reducible exact Ext.refl _ | with_reducible assumption | with_reducible apply Ext.alloc | with_reducible apply Ext.drew | (with_reducible refine Ext.setRow ?_ (by (try simp only [World.size_alloc]); omega) _) | (with_reducible refine Ext.tr ?_ (by assumption)))); done) | fail) only [go_sem, jn_r, Nat.reduceAdd, Nat.reduceLeDiff, Nat.reduceMul, Int.reduceToNat, Nat.reduceEqDiff, Nat.reduceLT, Int.reduceBEq, Int.reduceBNe, Int.reduceLT, Int.reduceLE, Int.reduceAdd, Int.reduceSub, Int.reduceMul, Int.reduceDiv, Int.reduceMod, Int.reduceNeg, hfit, bIx]
        exact next' (some (i, e)) _ (by simp [stepB, hfit]) (by (repeat (first | with_reducible exact Ext.refl _ | with_reducible assumption | with_reducible apply Ext.alloc | with_reducible apply Ext.drew | (with_reducible refine Ext.setRow ?_ (by (try simp only [World.size_alloc]); omega) _) | (with_reducible refine Ext.tr ?_ (by assumption)))))
      · have hx3 := hbx j x rfl
        obtain ⟨b3, off3, c3, cs3, hv3, hb3, hsz3, hag3, hj3⟩ := hs1.at hx3
        simp at hv3
        obtain ⟨⟨rfl, rfl⟩, rfl⟩ := hv3
        rw [hb'] at hb3
        cases hb3
        have p1 : cs[off + i * 11]? = some (.int .i64 e.prio) := hj 0 _ rfl
        have p2 : cs[off + j * 11]? = some (.int .i64 x.prio) := hj3 0 _ rfl
        have hj4 := (List.getElem?_eq_some_iff.1 hx3).1
        have hj1 : (0 : Int) ≤ (j : Int) := by omega
        have hj2 : ((j : Int)).toNat = j := rfl
        have hj5 : (j : Int) < (l.length : Int) := by omega
        have hj6 : ¬ (j : Int) < 0 := by omega
        simp -dsimp (disch := first | omega | assumption | ((simp only [World.size_alloc, size_setRow, List.size_toArray, List.length_cons, List.length_nil, cells_agg, len_enc, cells_int, cells_bool, cells_slice, cells_ptr, cells_string]) <;> omega) | ((repeat (first | with_reducible exact Ext.refl _ | with_reducible assumption | with_reducible apply Ext.alloc | with_reducible apply Ext.drew | (with_reducible refine Ext.setRow ?_ (by (try simp only [World.size_alloc]); omega) _) | (with_reducible refine Ext.tr ?_ (by assumption)))); done) | fail) only [go_sem, jn_r, Nat.reduceAdd, Nat.reduceLeDiff, Nat.reduceMul, Int.reduceToNat, Nat.reduceEqDiff, Nat.reduceLT, Int.reduceBEq, Int.reduceBNe, Int.reduceLT, Int.reduceLE, Int.reduceAdd, Int.reduceSub, Int.reduceMul, Int.reduceDiv, Int.reduceMod, Int.reduceNeg, hfit, bIx, hx2'.blk, hb', hj1, hj2, hj5, hj6, hi1, hi2, hi3, p1, p2]
        refine cnd_i (fun hd => ?_) (fun hd => ?_)
        · simp at hd
          simp -dsimp (disch := first | omega | assumption | ((simp only [World.size_alloc, size_setRow, List.size_toArray, List.length_cons, List.length_nil, cells_agg, len_enc, cells_int, cells_bool, cells_slice, cells_ptr, cells_string]) <;> omega) | ((repeat (first | with_reducible exact Ext.refl _ | with_reducible assumption | with_reducible apply Ext.alloc | with_reducible apply Ext.drew | (with_reducible refine Ext.setRow ?_ (by (try simp only [World.size_alloc]); omega) _) | (with_reducible refine Ext.tr ?_ (by assumption)))); done) | fail) only [go_sem, jn_r, Nat.reduceAdd, Nat.reduceLeDiff, Nat.reduceMul, Int.reduceToNat, Nat.reduceEqDiff, Nat.reduceLT, Int.reduceBEq, Int.reduceBNe, Int.reduceLT, Int.reduceLE, Int.reduceAdd, Int.reduceSub, Int.reduceMul, Int.reduceDiv, Int.reduceMod, Int.reduceNeg]
          exact next' (some (i, e)) _ (by simp [stepB, hfit, hd]) (by (repeat (first | with_reducible exact Ext.refl _ | with_reducible assumption | with_reducible apply Ext.alloc | with_reducible apply Ext.drew | (with_reducible refine Ext.setRow ?_ (by (try simp only [World.size_alloc]); omega) _) | (with_reducible refine Ext.tr ?_ (by assumption)))))
        · simp at hd
          simp -dsimp (disch := first | omega | assumption | ((simp only [World.size_alloc, size_setRow, List.size_toArray, List.length_cons, List.length_nil, cells_agg, len_enc, cells_int, cells_bool, cells_slice, cells_ptr, cells_string]) <;> omega) | ((repeat (first | with_reducible exact Ext.refl _ | with_reducible assumption | with_reducible apply Ext.alloc | with_reducible apply Ext.drew | (with_reducible refine Ext.setRow ?_ (by (try simp only [World.size_alloc]); omega) _) | (with_reducible refine Ext.tr ?_ (by assumption)))); done) | fail) only [go_sem, jn_r, Nat.reduceAdd, Nat.reduceLeDiff, Nat.reduceMul, Int.reduceToNat, Nat.reduceEqDiff, Nat.reduceLT, Int.reduceBEq, Int.reduceBNe, Int.reduceLT, Int.reduceLE, Int.reduceAdd, Int.reduceSub, Int.reduceMul, Int.reduceDiv, Int.reduceMod, Int.reduceNeg]
          exact next' (some (j, x)) _ (by simp [stepB, hfit]; omega) (by (repeat (first | with_reducible exact Ext.refl _ | with_reducible assumption | with_reducible apply Ext.alloc | with_reducible apply Ext.drew | (with_reducible refine Ext.setRow ?_ (by (try simp only [World.size_alloc]); omega) _) | (with_reducible refine Ext.tr ?_ (by assumption)))))
    · simp -dsimp (disch := first | omega | assumption | ((simp only [World.size_alloc, size_setRow, List.size_toArray, List.length_cons, List.length_nil, cells_agg, len_enc, cells_int, cells_bool, cells_slice, cells_ptr, cells_string]) <;> omega) | ((repeat (first | with_reducible exact Ext.refl _ | with_reducible assumption | with_reducible apply Ext.alloc | with_reducible apply Ext.drew | (with_reducible refine Ext.setRow ?_ (by (try simp only [World.size_alloc]); omega) _) | (with_reducible refine Ext.tr ?_ (by assumption)))); done) | fail) only [go_sem, jn_r, Nat.reduceAdd, Nat.reduceLeDiff, Nat.reduceMul, Int.reduceToNat, Nat.reduceEqDiff, Nat.reduceLT, Int.reduceBEq, Int.reduceBNe, Int.reduceLT, Int.reduceLE, Int.reduceAdd, Int.reduceSub, Int.reduceMul, Int.reduceDiv, Int.reduceMod, Int.reduceNeg, hfit]
      exact next' b _ (by simp [stepB, hfit]) (by (repeat (first | with_reducible exact Ext.refl _ | with_reducible assumption | with_reducible apply Ext.alloc | with_reducible apply Ext.drew | (with_reducible refine Ext.setRow ?_ (by (try simp only [World.size_alloc]); omega) _) | (with_reducible refine Ext.tr ?_ (by assumption)))))
  · have : i = l.length := by omega
    subst this
    rw [List.drop_length] at hf
    simp only [bestAt] at hf
    have hc' : ¬ ((l.length : Int) < l.length) := by omega
    rcases b with _ | ⟨j, x⟩
    · simp -dsimp (disch := first | omega | assumption | ((simp only [World.size_alloc, size_setRow, List.size_toArray, List.length_cons, List.length_nil, cells_agg, len_enc, cells_int, cells_bool, cells_slice, cells_ptr, cells_string]) <;> omega) | ((repeat (first | with_reducible exact Ext.refl _ | with_reducible assumption | with_reducible apply Ext.alloc | with_reducible apply Ext.drew | (with_reducible refine Ext.setRow ?_ (by (try simp only [World.size_alloc]); omega) _) | (with_reducible refine Ext.tr ?_ (by assumption)))); done) | fail) only [go_sem, jn_r, Nat.reduceAdd, Nat.reduceLeDiff, Nat.reduceMul, Int.reduceToNat, Nat.reduceEqDiff, Nat.reduceLT, Int.reduceBEq, Int.reduceBNe, Int.reduceLT, Int.reduceLE, Int.reduceAdd, Int.reduceSub, Int.reduceMul, Int.reduceDiv, Int.reduceMod, Int.reduceNeg, hc', bIx, hr, blk_of0 hr]
      exact ⟨by simp [bestV, ← hf, Act4.v], by (repeat (first | with_reducible exact Ext.refl _ | with_reducible assumption | with_reducible apply Ext.alloc | with_reducible apply Ext.drew | (with_reducible refine Ext.setRow ?_ (by (try simp only [World.size_alloc]); omega) _) | (with_reducible refine Ext.tr ?_ (by assumption))))⟩
    · have hx3 := hbx j x rfl
      obtain ⟨b3, off3, c3, cs3, rfl, hb3, hsz3, hag3, hj3⟩ := (hs.ext hx).at hx3
      have hj4 := (List.getElem?_eq_some_iff.1 hx3).1
      have hj1 : (0 : Int) ≤ (j : Int) := by omega
      have hj2 : ((j : Int)).toNat = j := rfl
      have hj5 : (j : Int) < (l.length : Int) := by omega
      have hj6 : ¬ (j : Int) < 0 := by omega
      have h7 : agx cs3 (off3 + j * 11 + 7) 4 = .agg #[.int .i64 x.kind, .int .i64 x.aport, .int .i64 x.to, .int .i64 x.gen] := agx_sub (d := 7) (m := 4) hj3 (by rw [entC.len]; omega)
      have hs7 : off3 + j * 11 + 7 + 4 ≤ cs3.size := by omega
      simp -dsimp (disch := first | omega | assumption | ((simp only [World.size_alloc, size_setRow, List.size_toArray, List.length_cons, List.length_nil, cells_agg, len_enc, cells_int, cells_bool, cells_slice, cells_ptr, cells_string]) <;> omega) | ((repeat (first | with_reducible exact Ext.refl _ | with_reducible assumption | with_reducible apply Ext.alloc | with_reducible apply Ext.drew | (with_reducible refine Ext.setRow ?_ (by (try simp only [World.size_alloc]); omega) _) | (with_reducible refine Ext.tr ?_ (by assumption)))); done) | fail) only [go_sem, jn_r, Nat.reduceAdd, Nat.reduceLeDiff, Nat.reduceMul, Int.reduceToNat, Nat.reduceEqDiff, Nat.reduceLT, Int.reduceBEq, Int.reduceBNe, Int.reduceLT, Int.reduceLE, Int.reduceAdd, Int.reduceSub, Int.reduceMul, Int.reduceDiv, Int.reduceMod, Int.reduceNeg, hc', bIx, hr, blk_of0 hr, hb3, hj1, hj2, hj5, hj6, h7, hs7]
      exact ⟨by simp [bestV, ← hf, Act4.v, Ent.act], by (repeat (first | with_reducible exact Ext.refl _ | with_reducible assumption | with_reducible apply Ext.alloc | with_reducible apply Ext.drew | (with_reducible refine Ext.setRow ?_ (by (try simp only [World.size_alloc]); omega) _) | (with_reducible refine Ext.tr ?_ (by assumption))))⟩
theorem rutterlaw13_Act.c (a : Act4) (w : World) : Calls Try.prog rutterlaw13_Act.id #[a.v] w (retP fun v w' => v = a.v ∧ Ext w w') := by
  apply rutterlaw13_Act.sound
  unfold rutterlaw13_Act.sh Act4.v
  simp -dsimp (disch := first | omega | assumption | ((simp only [World.size_alloc, size_setRow, List.size_toArray, List.length_cons, List.length_nil, cells_agg, len_enc, cells_int, cells_bool, cells_slice, cells_ptr, cells_string]) <;> omega) | ((repeat (first | with_reducible exact Ext.refl _ | with_reducible assumption | with_reducible apply Ext.alloc | with_reducible apply Ext.drew | (with_reducible refine Ext.setRow ?_ (by (try simp only [World.size_alloc]); omega) _) | (with_reducible refine Ext.tr ?_ (by assumption)))); done) | fail) only [go_sem, jn_r, Nat.reduceAdd, Nat.reduceLeDiff, Nat.reduceMul, Int.reduceToNat, Nat.reduceEqDiff, Nat.reduceLT, Int.reduceBEq, Int.reduceBNe, Int.reduceLT, Int.reduceLE, Int.reduceAdd, Int.reduceSub, Int.reduceMul, Int.reduceDiv, Int.reduceMod, Int.reduceNeg]
  (repeat (first | with_reducible exact Ext.refl _ | with_reducible assumption | with_reducible apply Ext.alloc | with_reducible apply Ext.drew | (with_reducible refine Ext.setRow ?_ (by (try simp only [World.size_alloc]); omega) _) | (with_reducible refine Ext.tr ?_ (by assumption))))
theorem Ext.ofDrew {w w1 : World} (h : Ext w.drew w1) : Ext w w1 := ⟨h.os, h.tape, h.output, h.size, h.block⟩
theorem rutterlaw13_Of.c (l : List Ent) (w : World) (v : Value) (hs : Sl entC w v l) (hl : l.length ≤ 1000000) :
    Calls Try.prog rutterlaw13_Of.id #[v] w (retP fun r w' => Ow entC 92 w.heap.size w' r l ∧ Ext w w') := by
  apply rutterlaw13_Of.sound
  unfold rutterlaw13_Of.sh
  obtain ⟨a, c, hv⟩ := hs.form
  have hln : ∀ (w : World) (K : Value → Prop), ln 1 v w K = K (.int .i64 l.length) := fun w K => by rw [hv]; exact ln_sl
  simp -dsimp (disch := first | omega | assumption | ((simp only [World.size_alloc, size_setRow, List.size_toArray, List.length_cons, List.length_nil, cells_agg, len_enc, cells_int, cells_bool, cells_slice, cells_ptr, cells_string]) <;> omega) | ((repeat (first | with_reducible exact Ext.refl _ | with_reducible assumption | with_reducible apply Ext.alloc | with_reducible apply Ext.drew | (with_reducible refine Ext.setRow ?_ (by (try simp only [World.size_alloc]); omega) _) | (with_reducible refine Ext.tr ?_ (by assumption)))); done) | fail) only [go_sem, jn_r, Nat.reduceAdd, Nat.reduceLeDiff, Nat.reduceMul, Int.reduceToNat, Nat.reduceEqDiff, Nat.reduceLT, Int.reduceBEq, Int.reduceBNe, Int.reduceLT, Int.reduceLE, Int.reduceAdd, Int.reduceSub, Int.reduceMul, Int.reduceDiv, Int.reduceMod, Int.reduceNeg, hln]
  refine loop_g (γ := Nat × Value) (fun g s w' => s = [g.2, .int .i64 g.1] ∧ Ext w w' ∧ g.1 ≤ l.length ∧ Ow entC 92 w.heap.size w' g.2 (l.take g.1))
    (fun g => l.length - g.1) (0, .slice none 0 0) ⟨rfl, .refl _, Nat.zero_le _, Ow.nil⟩ ?_
  rintro ⟨i, u⟩ s w1 next ⟨rfl, hx, hi, ho⟩ hn
  simp only at hi ho
  by_cases hc : i < l.length
  · obtain ⟨e, he⟩ : ∃ e, l[i]? = some e := ⟨_, List.getElem?_eq_getElem hc⟩
    obtain ⟨b', off, c', cs, rfl, hb', hsz, hag, hj⟩ := (hs.ext hx).at he
    have hi1 : (0 : Int) ≤ (i : Int) := by omega
    have hi2 : ((i : Int)).toNat = i := rfl
    have hi3 : (i : Int) < (l.length : Int) := by omega
    have hen : entC.enc e = Ent.enc e := rfl
    simp -dsimp (disch := first | omega | assumption | ((simp only [World.size_alloc, size_setRow, List.size_toArray, List.length_cons, List.length_nil, cells_agg, len_enc, cells_int, cells_bool, cells_slice, cells_ptr, cells_string]) <;> omega) | ((repeat (first | with_reducible exact Ext.refl _ | with_reducible assumption | with_reducible apply Ext.alloc | with_reducible apply Ext.drew | (with_reducible refine Ext.setRow ?_ (by (try simp only [World.size_alloc]); omega) _) | (with_reducible refine Ext.tr ?_ (by assumption)))); done) | fail) only [go_sem, jn_r, Nat.reduceAdd, Nat.reduceLeDiff, Nat.reduceMul, Int.reduceToNat, Nat.reduceEqDiff, Nat.reduceLT, Int.reduceBEq, Int.reduceBNe, Int.reduceLT, Int.reduceLE, Int.reduceAdd, Int.reduceSub, Int.reduceMul, Int.reduceDiv, Int.reduceMod, Int.reduceNeg, hi1, hi2, hi3, hb', hsz, hag, hen, Ent.enc]
    refine callM (rutterlaw13_Act.c ⟨e.kind, e.aport, e.to, e.gen⟩ _) ?_
    rintro _ w2 ⟨rfl, hx2⟩
    have hx2 := hx2.ofDrew
    have hz2 := hx2.size
    simp only [World.size_alloc] at hz2
    simp -dsimp (disch := first | omega | assumption | ((simp only [World.size_alloc, size_setRow, List.size_toArray, List.length_cons, List.length_nil, cells_agg, len_enc, cells_int, cells_bool, cells_slice, cells_ptr, cells_string]) <;> omega) | ((repeat (first | with_reducible exact Ext.refl _ | with_reducible assumption | with_reducible apply Ext.alloc | with_reducible apply Ext.drew | (with_reducible refine Ext.setRow ?_ (by (try simp only [World.size_alloc]); omega) _) | (with_reducible refine Ext.tr ?_ (by assumption)))); done) | fail) only [go_sem, jn_r, Nat.reduceAdd, Nat.reduceLeDiff, Nat.reduceMul, Int.reduceToNat, Nat.reduceEqDiff, Nat.reduceLT, Int.reduceBEq, Int.reduceBNe, Int.reduceLT, Int.reduceLE, Int.reduceAdd, Int.reduceSub, Int.reduceMul, Int.reduceDiv, Int.reduceMod, Int.reduceNeg, hx2.blk, hx2.blk0, Act4.v]
    refine ap_ow (ho.ext (by (repeat (first | with_reducible exact Ext.refl _ | with_reducible assumption | with_reducible apply Ext.alloc | with_reducible apply Ext.drew | (with_reducible refine Ext.setRow ?_ (by (try simp only [World.size_alloc]); omega) _) | (with_reducible refine Ext.tr ?_ (by assumption)))))) (Sl.lit (C := entC) (l := [e]) (by simp -dsimp (disch := first | omega | assumption | ((simp only [World.size_alloc, size_setRow, List.size_toArray, List.length_cons, List.length_nil, cells_agg, len_enc, cells_int, cells_bool, cells_slice, cells_ptr, cells_string]) <;> omega) | ((repeat (first | with_reducible exact Ext.refl _ | with_reducible assumption | with_reducible apply Ext.alloc | with_reducible apply Ext.drew | (with_reducible refine Ext.setRow ?_ (by (try simp only [World.size_alloc]); omega) _) | (with_reducible refine Ext.tr ?_ (by assumption)))); done) | fail) only [go_sem, jn_r, Nat.reduceAdd, Nat.reduceLeDiff, Nat.reduceMul, Int.reduceToNat, Nat.reduceEqDiff, Nat.reduceLT, Int.reduceBEq, Int.reduceBNe, Int.reduceLT, Int.reduceLE, Int.reduceAdd, Int.reduceSub, Int.reduceMul, Int.reduceDiv, Int.reduceMod, Int.reduceNeg]; rfl) rfl rfl).from (by (repeat (first | with_reducible exact Ext.refl _ | with_reducible assumption | with_reducible apply Ext.alloc | with_reducible apply Ext.drew | (with_reducible refine Ext.setRow ?_ (by (try simp only [World.size_alloc]); omega) _) | (with_reducible refine Ext.tr ?_ (by assumption))))) rfl (by simp; omega) ?_
    intro v3 w3 ho3 hx3 _ _
    simp -dsimp (disch := first | omega | assumption | ((simp only [World.size_alloc, size_setRow, List.size_toArray, List.length_cons, List.length_nil, cells_agg, len_enc, cells_int, cells_bool, cells_slice, cells_ptr, cells_string]) <;> omega) | ((repeat (first | with_reducible exact Ext.refl _ | with_reducible assumption | with_reducible apply Ext.alloc | with_reducible apply Ext.drew | (with_reducible refine Ext.setRow ?_ (by (try simp only [World.size_alloc]); omega) _) | (with_reducible refine Ext.tr ?_ (by assumption)))); done) | fail) only [go_sem, jn_r, Nat.reduceAdd, Nat.reduceLeDiff, Nat.reduceMul, Int.reduceToNat, Nat.reduceEqDiff, Nat.reduceLT, Int.reduceBEq, Int.reduceBNe, Int.reduceLT, Int.reduceLE, Int.reduceAdd, Int.reduceSub, Int.reduceMul, Int.reduceDiv, Int.reduceMod, Int.reduceNeg]
    refine hn (i + 1, v3) _ _ ⟨by simp, hx3, by show i + 1 ≤ _; omega, ?_⟩ (by show l.length - (i + 1) < l.length - i; omega)
    show Ow _ _ _ w3 v3 (l.take (i + 1))
    rw [take_next he]
    exact ho3
  · have : i = l.length := by omega
    subst this
    have hc' : ¬ ((l.length : Int) < l.length) := by omega
    rw [List.take_length] at ho
    simp -dsimp (disch := first | omega | assumption | ((simp only [World.size_alloc, size_setRow, List.size_toArray, List.length_cons, List.length_nil, cells_agg, len_enc, cells_int, cells_bool, cells_slice, cells_ptr, cells_string]) <;> omega) | ((repeat (first | with_reducible exact Ext.refl _ | with_reducible assumption | with_reducible apply Ext.alloc | with_reducible apply Ext.drew | (with_reducible refine Ext.setRow ?_ (by (try simp only [World.size_alloc]); omega) _) | (with_reducible refine Ext.tr ?_ (by assumption)))); done) | fail) only [go_sem, jn_r, Nat.reduceAdd, Nat.reduceLeDiff, Nat.reduceMul, Int.reduceToNat, Nat.reduceEqDiff, Nat.reduceLT, Int.reduceBEq, Int.reduceBNe, Int.reduceLT, Int.reduceLE, Int.reduceAdd, Int.reduceSub, Int.reduceMul, Int.reduceDiv, Int.reduceMod, Int.reduceNeg, hc']
    exact ⟨ho, hx⟩
end Go.Proofs.Ytldjhbmccnbciaa
