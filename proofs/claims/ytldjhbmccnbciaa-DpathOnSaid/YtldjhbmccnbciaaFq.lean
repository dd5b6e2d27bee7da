/- flow.New; what a table tells is what the document tells of its entries. -/
import Derived.Test.YtldjhbmccnbciaaFp
namespace Go.Proofs.Ytldjhbmccnbciaa
open Go
set_option linter.unusedSimpArgs false
set_option linter.unusedVariables false
theorem slices_insertionSortCmpFunc_flow_Entry.nilc (w : World) (f : Value) : Calls Try.prog slices_insertionSortCmpFunc_flow_Entry.id #[.slice none 0 0, .int .i64 0, .int .i64 0, f] w (retP fun _ w' => w' = w) := by
  apply slices_insertionSortCmpFunc_flow_Entry.sound
  unfold slices_insertionSortCmpFunc_flow_Entry.sh
  simp -dsimp (disch := first | omega | assumption | ((simp only [World.size_alloc, size_setRow, List.size_toArray, List.length_cons, List.length_nil, cells_agg, len_enc, cells_int, cells_bool, cells_slice, cells_ptr, cells_string]) <;> omega) | ((repeat (first | with_reducible exact Ext.refl _ | with_reducible assumption | with_reducible apply Ext.alloc | with_reducible apply Ext.drew | (with_reducible refine Ext.setRow ?_ (by (try simp only [World.size_alloc]); omega) _) | (with_reducible refine Ext.tr ?_ (by assumption)))); done) | fail) only [go_sem, jn_r, Nat.reduceAdd, Nat.reduceLeDiff, Nat.reduceMul, Int.reduceToNat, Nat.reduceEqDiff, Nat.reduceLT, Int.reduceBEq, Int.reduceBNe, Int.reduceLT, Int.reduceLE, Int.reduceAdd, Int.reduceSub, Int.reduceMul, Int.reduceDiv, Int.reduceMod, Int.reduceNeg]
  refine loop_g (γ := Unit) (fun _ s w' => s = [.int .i64 1] ∧ w' = w) (fun _ => 0) () ⟨rfl, rfl⟩ ?_
  rintro _ s w1 next ⟨rfl, rfl⟩ hn
  simp -dsimp (disch := first | omega | assumption | ((simp only [World.size_alloc, size_setRow, List.size_toArray, List.length_cons, List.length_nil, cells_agg, len_enc, cells_int, cells_bool, cells_slice, cells_ptr, cells_string]) <;> omega) | ((repeat (first | with_reducible exact Ext.refl _ | with_reducible assumption | with_reducible apply Ext.alloc | with_reducible apply Ext.drew | (with_reducible refine Ext.setRow ?_ (by (try simp only [World.size_alloc]); omega) _) | (with_reducible refine Ext.tr ?_ (by assumption)))); done) | fail) only [go_sem, jn_r, Nat.reduceAdd, Nat.reduceLeDiff, Nat.reduceMul, Int.reduceToNat, Nat.reduceEqDiff, Nat.reduceLT, Int.reduceBEq, Int.reduceBNe, Int.reduceLT, Int.reduceLE, Int.reduceAdd, Int.reduceSub, Int.reduceMul, Int.reduceDiv, Int.reduceMod, Int.reduceNeg]
theorem slices_SortStableFunc_flow_Entry.nilc (w : World) (f : Value) : Calls Try.prog slices_SortStableFunc_flow_Entry.id #[.slice none 0 0, f] w (retP fun _ w' => w' = w) := by
  apply slices_SortStableFunc_flow_Entry.sound
  unfold slices_SortStableFunc_flow_Entry.sh
  have z : ((0 : Nat) : Int) = 0 := rfl
  simp -dsimp (disch := first | omega | assumption | ((simp only [World.size_alloc, size_setRow, List.size_toArray, List.length_cons, List.length_nil, cells_agg, len_enc, cells_int, cells_bool, cells_slice, cells_ptr, cells_string]) <;> omega) | ((repeat (first | with_reducible exact Ext.refl _ | with_reducible assumption | with_reducible apply Ext.alloc | with_reducible apply Ext.drew | (with_reducible refine Ext.setRow ?_ (by (try simp only [World.size_alloc]); omega) _) | (with_reducible refine Ext.tr ?_ (by assumption)))); done) | fail) only [go_sem, jn_r, Nat.reduceAdd, Nat.reduceLeDiff, Nat.reduceMul, Int.reduceToNat, Nat.reduceEqDiff, Nat.reduceLT, Int.reduceBEq, Int.reduceBNe, Int.reduceLT, Int.reduceLE, Int.reduceAdd, Int.reduceSub, Int.reduceMul, Int.reduceDiv, Int.reduceMod, Int.reduceNeg, z]
  apply slices_stableCmpFunc_flow_Entry.sound
  unfold slices_stableCmpFunc_flow_Entry.sh
  simp -dsimp (disch := first | omega | assumption | ((simp only [World.size_alloc, size_setRow, List.size_toArray, List.length_cons, List.length_nil, cells_agg, len_enc, cells_int, cells_bool, cells_slice, cells_ptr, cells_string]) <;> omega) | ((repeat (first | with_reducible exact Ext.refl _ | with_reducible assumption | with_reducible apply Ext.alloc | with_reducible apply Ext.drew | (with_reducible refine Ext.setRow ?_ (by (try simp only [World.size_alloc]); omega) _) | (with_reducible refine Ext.tr ?_ (by assumption)))); done) | fail) only [go_sem, Nat.reduceAdd, Nat.reduceLeDiff, Nat.reduceMul, Int.reduceToNat, Nat.reduceEqDiff, Nat.reduceLT, Int.reduceBEq, Int.reduceBNe, Int.reduceLT, Int.reduceLE, Int.reduceAdd, Int.reduceSub, Int.reduceMul, Int.reduceDiv, Int.reduceMod, Int.reduceNeg]
  refine loop_g (γ := Unit) (fun _ s w' => s = [.int .i64 0, .int .i64 20] ∧ w' = w) (fun _ => 0) () ⟨rfl, rfl⟩ ?_
  rintro _ s w1 next ⟨rfl, rfl⟩ hn
  simp -dsimp (disch := first | omega | assumption | ((simp only [World.size_alloc, size_setRow, List.size_toArray, List.length_cons, List.length_nil, cells_agg, len_enc, cells_int, cells_bool, cells_slice, cells_ptr, cells_string]) <;> omega) | ((repeat (first | with_reducible exact Ext.refl _ | with_reducible assumption | with_reducible apply Ext.alloc | with_reducible apply Ext.drew | (with_reducible refine Ext.setRow ?_ (by (try simp only [World.size_alloc]); omega) _) | (with_reducible refine Ext.tr ?_ (by assumption)))); done) | fail) only [go_sem, Nat.reduceAdd, Nat.reduceLeDiff, Nat.reduceMul, Int.reduceToNat, Nat.reduceEqDiff, Nat.reduceLT, Int.reduceBEq, Int.reduceBNe, Int.reduceLT, Int.reduceLE, Int.reduceAdd, Int.reduceSub, Int.reduceMul, Int.reduceDiv, Int.reduceMod, Int.reduceNeg]
  refine callM (slices_insertionSortCmpFunc_flow_Entry.nilc _ f) ?_
  rintro _ w2 rfl
  refine loop_g (γ := Unit) (fun _ s w' => s = [.int .i64 20] ∧ w' = w2) (fun _ => 0) () ⟨rfl, rfl⟩ ?_
  rintro _ s w1 next ⟨rfl, rfl⟩ hn
  simp -dsimp (disch := first | omega | assumption | ((simp only [World.size_alloc, size_setRow, List.size_toArray, List.length_cons, List.length_nil, cells_agg, len_enc, cells_int, cells_bool, cells_slice, cells_ptr, cells_string]) <;> omega) | ((repeat (first | with_reducible exact Ext.refl _ | with_reducible assumption | with_reducible apply Ext.alloc | with_reducible apply Ext.drew | (with_reducible refine Ext.setRow ?_ (by (try simp only [World.size_alloc]); omega) _) | (with_reducible refine Ext.tr ?_ (by assumption)))); done) | fail) only [go_sem, Nat.reduceAdd, Nat.reduceLeDiff, Nat.reduceMul, Int.reduceToNat, Nat.reduceEqDiff, Nat.reduceLT, Int.reduceBEq, Int.reduceBNe, Int.reduceLT, Int.reduceLE, Int.reduceAdd, Int.reduceSub, Int.reduceMul, Int.reduceDiv, Int.reduceMod, Int.reduceNeg]
theorem flow_New.full (w : World) (a : Option Addr) (n c : Nat) (hl : 256 < n) : Calls Try.prog flow_New.id #[.slice a n c] w (retP fun r w' => r = .tuple #[.pointer none, .int .i64 3] ∧ w' = w) := by
  apply flow_New.sound
  unfold flow_New.sh
  have h : (256 : Int) < (n : Int) := by omega
  simp -dsimp (disch := first | omega | assumption | ((simp only [World.size_alloc, size_setRow, List.size_toArray, List.length_cons, List.length_nil, cells_agg, len_enc, cells_int, cells_bool, cells_slice, cells_ptr, cells_string]) <;> omega) | ((repeat (first | with_reducible exact Ext.refl _ | with_reducible assumption | with_reducible apply Ext.alloc | with_reducible apply Ext.drew | (with_reducible refine Ext.setRow ?_ (by (try simp only [World.size_alloc]); omega) _) | (with_reducible refine Ext.tr ?_ (by assumption)))); done) | fail) only [go_sem, jn_r, Nat.reduceAdd, Nat.reduceLeDiff, Nat.reduceMul, Int.reduceToNat, Nat.reduceEqDiff, Nat.reduceLT, Int.reduceBEq, Int.reduceBNe, Int.reduceLT, Int.reduceLE, Int.reduceAdd, Int.reduceSub, Int.reduceMul, Int.reduceDiv, Int.reduceMod, Int.reduceNeg, h]
theorem In.sl {α : Type} {k : Nat} {C : Cdc α k} {g n c : Nat} {w : World} {l : List α} (h : In C g w l) (hn : l.length = n) : Sl C w (.slice (some ⟨g, 0, none⟩) n c) l := by
  subst hn
  obtain ⟨cs, rest, h1, h2⟩ := h
  refine .inr ⟨g, 0, c, cs, rfl, blk_of0 h1, fun i x j u hi hj => ?_⟩
  rw [Nat.zero_add, ← Array.getElem?_toList, h2, List.getElem?_append_left]
  · exact flat_get l hi hj
  · exact (List.getElem?_eq_some_iff.1 (flat_get (C := C) l hi hj)).1
theorem Ow.inn {α : Type} {k : Nat} {C : Cdc α k} {g n c e lo : Nat} {w : World} {l : List α} (h : Ow C e lo w (.slice (some ⟨g, 0, none⟩) n c) l) : In C g w l := by
  rcases h.2 with ⟨h1, -⟩ | ⟨g', c', cur, h1, h2, h3, h4, h5, h6, h7⟩
  · cases h1
  · cases h1
    refine ⟨cur, cur.toList.drop (l.length * k), by unfold blk0; rw [h3]; rfl, ?_⟩
    rw [← h7, List.take_append_drop]
theorem flow_New.c (w : World) (v : Value) (l : List Ent) (hs : Sl entC w v l) (hl : l.length ≤ 256) :
    Calls Try.prog flow_New.id #[v] w (retP fun r w' => ∃ tv M, r = .tuple #[tv, .int .i64 0] ∧ St l M ∧ TbV w' tv M ∧ Ext w w') := by
  obtain ⟨a, c, rfl⟩ := hs.form
  apply flow_New.sound
  unfold flow_New.sh
  have h : ¬ (256 : Int) < (l.length : Int) := by omega
  simp -dsimp (disch := first | omega | assumption | ((simp only [World.size_alloc, size_setRow, List.size_toArray, List.length_cons, List.length_nil, cells_agg, len_enc, cells_int, cells_bool, cells_slice, cells_ptr, cells_string]) <;> omega) | ((repeat (first | with_reducible exact Ext.refl _ | with_reducible assumption | with_reducible apply Ext.alloc | with_reducible apply Ext.drew | (with_reducible refine Ext.setRow ?_ (by (try simp only [World.size_alloc]); omega) _) | (with_reducible refine Ext.tr ?_ (by assumption)))); done) | fail) only [go_sem, jn_r, Nat.reduceAdd, Nat.reduceLeDiff, Nat.reduceMul, Int.reduceToNat, Nat.reduceEqDiff, Nat.reduceLT, Int.reduceBEq, Int.reduceBNe, Int.reduceLT, Int.reduceLE, Int.reduceAdd, Int.reduceSub, Int.reduceMul, Int.reduceDiv, Int.reduceMod, Int.reduceNeg, h]
  refine callM (slices_Clone_flow_Entry.c w _ l hs (by omega)) ?_
  rintro v1 w1 ⟨hO1, hx1⟩
  refine callM (slices_Clone_flow_Entry.c w1 _ l (hs.ext hx1) (by omega)) ?_
  rintro v2 w2 ⟨hO2, hx2⟩
  have hE2 := hx1.tr hx2
  obtain ⟨a1, c1, rfl⟩ := hO1.sl.form
  rcases hO2.form with ⟨rfl, rfl⟩ | ⟨g, c2, rfl, hg1, hg2⟩
  · simp -dsimp (disch := first | omega | assumption | ((simp only [World.size_alloc, size_setRow, List.size_toArray, List.length_cons, List.length_nil, cells_agg, len_enc, cells_int, cells_bool, cells_slice, cells_ptr, cells_string]) <;> omega) | ((repeat (first | with_reducible exact Ext.refl _ | with_reducible assumption | with_reducible apply Ext.alloc | with_reducible apply Ext.drew | (with_reducible refine Ext.setRow ?_ (by (try simp only [World.size_alloc]); omega) _) | (with_reducible refine Ext.tr ?_ (by assumption)))); done) | fail) only [go_sem, jn_r, Nat.reduceAdd, Nat.reduceLeDiff, Nat.reduceMul, Int.reduceToNat, Nat.reduceEqDiff, Nat.reduceLT, Int.reduceBEq, Int.reduceBNe, Int.reduceLT, Int.reduceLE, Int.reduceAdd, Int.reduceSub, Int.reduceMul, Int.reduceDiv, Int.reduceMod, Int.reduceNeg]
    refine callM (slices_SortStableFunc_flow_Entry.nilc _ _) ?_
    rintro _ w3 rfl
    exact ⟨_, [], rfl, St.nil, .inr ⟨w2.heap.size, _, _, rfl, blk_new rfl, .nil, by simp⟩, by (repeat (first | with_reducible exact Ext.refl _ | with_reducible assumption | with_reducible apply Ext.alloc | with_reducible apply Ext.drew | (with_reducible refine Ext.setRow ?_ (by (try simp only [World.size_alloc]); omega) _) | (with_reducible refine Ext.tr ?_ (by assumption))))⟩
  · simp -dsimp (disch := first | omega | assumption | ((simp only [World.size_alloc, size_setRow, List.size_toArray, List.length_cons, List.length_nil, cells_agg, len_enc, cells_int, cells_bool, cells_slice, cells_ptr, cells_string]) <;> omega) | ((repeat (first | with_reducible exact Ext.refl _ | with_reducible assumption | with_reducible apply Ext.alloc | with_reducible apply Ext.drew | (with_reducible refine Ext.setRow ?_ (by (try simp only [World.size_alloc]); omega) _) | (with_reducible refine Ext.tr ?_ (by assumption)))); done) | fail) only [go_sem, jn_r, Nat.reduceAdd, Nat.reduceLeDiff, Nat.reduceMul, Int.reduceToNat, Nat.reduceEqDiff, Nat.reduceLT, Int.reduceBEq, Int.reduceBNe, Int.reduceLT, Int.reduceLE, Int.reduceAdd, Int.reduceSub, Int.reduceMul, Int.reduceDiv, Int.reduceMod, Int.reduceNeg]
    have hI : In entC g (w2.alloc (.cells #[.slice a1 l.length c1, .slice (some ⟨g, 0, none⟩) l.length c2] 72)) l := (hO2.ext (by (repeat (first | with_reducible exact Ext.refl _ | with_reducible assumption | with_reducible apply Ext.alloc | with_reducible apply Ext.drew | (with_reducible refine Ext.setRow ?_ (by (try simp only [World.size_alloc]); omega) _) | (with_reducible refine Ext.tr ?_ (by assumption)))))).inn
    refine callM (slices_SortStableFunc_flow_Entry.c l _ g c2 l.length hI rfl (by omega)) ?_
    rintro _ w3 ⟨⟨M, hM, hI3⟩, ho⟩
    refine ⟨_, M, rfl, hM, .inr ⟨w2.heap.size, _, _, rfl, grown_blk ho (blk_new rfl) (by simp; omega), hI3.sl hM.len, by rw [hM.len]; omega⟩, ?_⟩
    exact Ext.grown (Ext.tr (by (repeat (first | with_reducible exact Ext.refl _ | with_reducible assumption | with_reducible apply Ext.alloc | with_reducible apply Ext.drew | (with_reducible refine Ext.setRow ?_ (by (try simp only [World.size_alloc]); omega) _) | (with_reducible refine Ext.tr ?_ (by assumption))))) (Ext.alloc (Ext.refl w2) _)) ho fun b hb => by cases hb; have := hx1.size; omega
/- ### the plain law -/
theorem firstAt_none {k : Key} : ∀ {l : List Ent} {i : Nat}, firstAt k l i = none → ∀ e ∈ l, e.fits k = false
  | [], _, _ => by simp
  | e :: l, i, h => by
    unfold firstAt at h
    split at h
    · cases h
    · rename_i hf
      intro x hx
      rcases List.mem_cons.1 hx with rfl | hx
      · simpa using hf
      · exact firstAt_none h x hx
/-- the first of the highest that fits -/
def Best (k : Key) (l : List Ent) (e : Ent) : Prop := e.fits k = true ∧ (∀ x ∈ l, x.fits k = true → x.prio ≤ e.prio) ∧ (l.filter fun x => x.prio == e.prio).find? (fun x => x.fits k) = some e
theorem bestAt_spec (k : Key) : ∀ (l pre : List Ent) (i : Nat) (b : Option (Nat × Ent)), (b = none → ∀ x ∈ pre, x.fits k = false) → (∀ j e, b = some (j, e) → Best k pre e) →
    (bestAt k l i b = none → ∀ x ∈ pre ++ l, x.fits k = false) ∧ (∀ j e, bestAt k l i b = some (j, e) → Best k (pre ++ l) e)
  | [], pre, i, b, h1, h2 => by simpa [bestAt] using ⟨h1, h2⟩
  | x :: l, pre, i, b, h1, h2 => by
    unfold bestAt
    have := bestAt_spec k l (pre ++ [x]) (i + 1) (stepB k i x b) ?_ ?_
    · simpa using this
    · intro hn
      unfold stepB at hn
      split at hn
      · split at hn
        · cases hn
        · split at hn <;> cases hn
      · rename_i hf
        intro y hy
        rcases List.mem_append.1 hy with hy | hy
        · exact h1 hn y hy
        · simp at hy; subst hy; simpa using hf
    · intro j e he
      unfold stepB at he
      have other : ∀ j' e', b = some (j', e') → (x.fits k = true → x.prio ≤ e'.prio) → Best k (pre ++ [x]) e' := by
        intro j' e' hb hx
        obtain ⟨g1, g2, g3⟩ := h2 j' e' hb
        refine ⟨g1, fun y hy hyf => ?_, ?_⟩
        · rcases List.mem_append.1 hy with hy | hy
          · exact g2 y hy hyf
          · simp at hy; subst hy; exact hx hyf
        · rw [List.filter_append, List.find?_append, g3]; rfl
      split at he
      · rename_i hf
        split at he
        · simp at he
          obtain ⟨-, rfl⟩ := he
          have hp := h1 rfl
          refine ⟨hf, fun y hy hyf => ?_, ?_⟩
          · rcases List.mem_append.1 hy with hy | hy
            · rw [hp y hy] at hyf; cases hyf
            · simp at hy; subst hy; exact Int.le_refl _
          · rw [List.filter_append, List.find?_append, List.find?_eq_none.2 (fun y hy => by rw [hp y (List.mem_filter.1 hy).1]; simp)]
            simp [hf]
        · rename_i j0 x0
          split at he
          · rename_i hlt
            simp at he
            obtain ⟨-, rfl⟩ := he
            obtain ⟨g1, g2, g3⟩ := h2 j0 x0 rfl
            refine ⟨hf, fun y hy hyf => ?_, ?_⟩
            · rcases List.mem_append.1 hy with hy | hy
              · have := g2 y hy hyf; omega
              · simp at hy; subst hy; exact Int.le_refl _
            · rw [List.filter_append, List.find?_append, List.find?_eq_none.2 (fun y hy => ?_)]
              · simp [hf]
              · obtain ⟨q1, q2⟩ := List.mem_filter.1 hy
                simp at q2
                intro hyf
                have := g2 y q1 hyf
                omega
          · rename_i hlt
            exact other j e he (fun _ => by simp at he; rw [← he.2]; omega)
      · rename_i hf
        exact other j e he (fun h => absurd h hf)
theorem firstAt_find (k : Key) : ∀ (l : List Ent) (i : Nat), (firstAt k l i).map (·.2) = l.find? (fun x => x.fits k)
  | [], _ => rfl
  | e :: l, i => by
    unfold firstAt
    rw [List.find?_cons]
    cases h : e.fits k with
    | true => simp
    | false => simp [firstAt_find k l (i + 1)]
theorem find_filter {p : Ent → Bool} {q : Int} {M : List Ent} {e : Ent} (h : M.find? p = some e) (hq : e.prio = q) : (M.filter fun x => x.prio == q).find? p = some e := by
  induction M with
  | nil => simp at h
  | cons x M ih =>
    rw [List.find?_cons] at h
    cases hp : p x with
    | true =>
      rw [hp] at h
      simp at h
      subst h
      rw [List.filter_cons_of_pos (by simp [hq]), List.find?_cons, hp]
    | false =>
      rw [hp] at h
      simp at h
      by_cases hx : x.prio = q
      · rw [List.filter_cons_of_pos (by simp [hx]), List.find?_cons, hp]
        exact ih h
      · rw [List.filter_cons_of_neg (by simp [hx])]
        exact ih h
theorem St.look {l M : List Ent} (h : St l M) (k : Key) : lookA M k = bestA l k := by
  unfold lookA lookup bestA
  rw [firstAt_find]
  obtain ⟨h1, h2⟩ := bestAt_spec k l [] 0 none (by simp) (by simp)
  simp only [List.nil_append] at h1 h2
  cases hb : bestAt k l 0 none with
  | none =>
    have := h1 hb
    rw [List.find?_eq_none.2 fun x hx => by rw [this x (h.mem hx)]; simp]
  | some je =>
    obtain ⟨j, e⟩ := je
    obtain ⟨g1, g2, g3⟩ := h2 j e hb
    cases hf : M.find? (fun x => x.fits k) with
    | none =>
      exfalso
      have he : e ∈ l.filter fun x => x.prio == e.prio := List.mem_of_find?_eq_some g3
      rw [← h.fil] at he
      have := List.find?_eq_none.1 hf e (List.mem_filter.1 he).1
      exact this g1
    | some e' =>
      have m' : e' ∈ M := List.mem_of_find?_eq_some hf
      have f0 := List.find?_some hf
      have f' : e'.fits k = true := f0
      have le1 : e'.prio ≤ e.prio := g2 e' (h.mem m') f'
      have le2 : e.prio ≤ e'.prio := by
        -- e stands in M; what stands ahead of e' does not fit
        have he : e ∈ l.filter fun x => x.prio == e.prio := List.mem_of_find?_eq_some g3
        rw [← h.fil] at he
        obtain ⟨heM, -⟩ := List.mem_filter.1 he
        obtain ⟨-, l1, l2, hM, hno⟩ := List.find?_eq_some_iff_append.1 hf
        rw [hM] at heM
        rcases List.mem_append.1 heM with q | q
        · have := hno e q; rw [g1] at this; simp at this
        · rcases List.mem_cons.1 q with rfl | q
          · exact Int.le_refl _
          · have hs := h.srt
            rw [hM, List.pairwise_append] at hs
            exact (List.pairwise_cons.1 hs.2.1).1 e q
      have hpe : e'.prio = e.prio := by omega
      have := find_filter hf hpe
      rw [h.fil] at this
      rw [g3] at this
      simp at this
      subst this
      rfl
end Go.Proofs.Ytldjhbmccnbciaa
