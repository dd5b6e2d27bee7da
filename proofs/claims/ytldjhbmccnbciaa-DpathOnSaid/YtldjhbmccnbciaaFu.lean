/- once, and on: the walk of the law DpathOn. -/
import Derived.Test.YtldjhbmccnbciaaFx
namespace Go.Proofs.Ytldjhbmccnbciaa
open Go
set_option linter.unusedSimpArgs false
set_option linter.unusedVariables false
theorem ge_callb {c : Bool} {f : Nat} {a : Array Value} {w : World} {K : Value → World → Prop} (h : c = true → Calls Try.prog f a w (retP fun v w' => (∃ b, v = .bool b) ∧ Ext w w')) (hk : ∀ b w', Ext w w' → K (sel c (.bool b) undef) w') :
    ge (.bool c) true (fun K => Calls Try.prog f a w (retP K)) w K := by
  cases c with
  | true =>
    rw [ge_tt]
    refine callM (h rfl) ?_
    rintro _ w' ⟨⟨b, rfl⟩, hx⟩
    exact hk b w' hx
  | false =>
    rw [ge_ft]
    exact hk true w (.refl _)
theorem Sl.grown {α : Type} {k : Nat} {C : Cdc α k} {w w' : World} {s : Value} {l : List α} {row : Option Nat} (h : Sl C w s l) (hg : w.grownBy w' row) (hn : ∀ b, s.ownBlock = some b → row ≠ some b) : Sl C w' s l :=
  h.chg (S := row.toList) ⟨hg.os, hg.tape, hg.output, hg.size, fun b hb hm => hg.block b hb (fun e => hm (by simp [← e]))⟩ fun b hb hm => hn b hb (by simpa [Option.mem_toList] using hm)
/-- an outcome lies in block g, of one's own -/
def OcB (vv : Value) (w : World) (g : Nat) (o : Oc) : Prop := ∃ a1 c1 a2 c2, ((∀ b : Addr, a1 = some b → vv.ownBlock ≠ some b.block) ∧ (∀ b : Addr, a2 = some b → vv.ownBlock ≠ some b.block)) ∧ blk0 w g = some #[.int .i64 o.kind, .int .i64 o.port, .int .i64 o.gen, .int .i64 o.stamp, .slice a1 o.frame.length c1, .int .i64 o.pk.kind, .int .i64 o.pk.origin, .int .i64 o.pk.frm, .int .i64 o.pk.to, .int .i64 o.pk.port, .int .i64 o.pk.gen, .int .i64 o.pk.id, .slice a2 o.pk.frame.length c2] ∧ Sl bytC w (.slice a1 o.frame.length c1) o.frame ∧ Sl bytC w (.slice a2 o.pk.frame.length c2) o.pk.frame
theorem OcB.ext {vv : Value} {w w' : World} {g : Nat} {o : Oc} (h : OcB vv w g o) (hx : Ext w w') : OcB vv w' g o := by
  obtain ⟨a1, c1, a2, c2, h0, h1, h2, h3⟩ := h
  exact ⟨a1, c1, a2, c2, h0, by rw [hx.blk0 (blk0_lt h1)]; exact h1, h2.ext hx, h3.ext hx⟩
/-- where the walk stands -/
def Stage (ch : Int) (i : Nat) (vis : List Int) (o : Oc) : Prop :=
  vis.Nodup ∧ ((i = 1 ∧ vis = [ch] ∧ (o.kind = 2 → o.pk.kind = 1 ∧ o.pk.origin = ch)) ∨ (i = 2 ∧ (∃ x, vis = [ch, x] ∧ (o.kind = 2 → o.pk.kind = 2 ∧ o.pk.origin = ch ∧ o.pk.frm = x))) ∨ (i = 3 ∧ vis.length = 3 ∧ o.kind ≠ 2))
theorem Stage.next {ch : Int} {i : Nat} {vis : List Int} {o : Oc} {l : List Ent} (h : Stage ch i vis o) (hi : i < 3) (hk : o.kind = 2) (hR : o.pk.Rt) (hl : ∀ e ∈ l, e.upto = e.gen) :
    Stage ch (i + 1) (vis ++ [o.pk.to]) (tunnelAct (bestA l ⟨o.pk.kind, 0, o.pk.port, o.pk.gen, o.pk.origin⟩) o.pk) ∧ (o.pk.kind = 2 → (tunnelAct (bestA l ⟨o.pk.kind, 0, o.pk.port, o.pk.gen, o.pk.origin⟩) o.pk).kind ≠ 2) := by
  obtain ⟨-, -, t3⟩ := tunnel_on hl hR
  generalize tunnelAct (bestA l ⟨o.pk.kind, 0, o.pk.port, o.pk.gen, o.pk.origin⟩) o.pk = x at t3 ⊢
  obtain ⟨h1, h2⟩ := h
  have w1 := hR.2.2.2.1
  have w2 := hR.2.2.2.2.2.2.2.2
  rcases h2 with ⟨rfl, rfl, h3⟩ | ⟨rfl, ⟨y, rfl, h3⟩⟩ | ⟨rfl, -⟩
  · obtain ⟨g1, g2⟩ := h3 hk
    refine ⟨⟨by simp; omega, .inr (.inl ⟨rfl, o.pk.to, rfl, fun hx => ?_⟩)⟩, fun h => by omega⟩
    obtain ⟨-, q2, q3, q4⟩ := t3 hx
    exact ⟨q2, q3.trans g2, q4⟩
  · obtain ⟨g1, g2, g3⟩ := h3 hk
    have hx : x.kind ≠ 2 := fun hx => by have := (t3 hx).1; omega
    refine ⟨⟨?_, .inr (.inr ⟨rfl, rfl, hx⟩)⟩, fun _ => hx⟩
    simp at h1 ⊢
    omega
  · omega
theorem rutterlaw15_DpathOn.c (w : World) (s0 s1 s2 s : Value) (L0 L1 L2 : List Rw) (load : List UInt8) (dst src typ ch id : Int) (h0 : Sl rowC w s0 L0) (h1 : Sl rowC w s1 L1) (h2 : Sl rowC w s2 L2) (hs : Sl bytC w s load) (hd : 0 ≤ dst) (hsr : 0 ≤ src) (ht1 : -9223372036854775808 ≤ typ) (ht2 : typ ≤ 9223372036854775807) :
    Calls Try.prog rutterlaw15_DpathOn.id #[.agg #[s0, s1, s2], .agg #[.int .u64 dst, .int .u64 src, .int .i64 typ, s], .agg #[.int .i64 ch, .int .i64 id]] w (retP fun r w' => r = .bool true ∧ Ext w w') := by
  obtain ⟨a0, c0, rfl⟩ := h0.form
  obtain ⟨a1, c1, rfl⟩ := h1.form
  obtain ⟨a2, c2, rfl⟩ := h2.form
  obtain ⟨a3, c3, rfl⟩ := hs.form
  apply rutterlaw15_DpathOn.sound
  unfold rutterlaw15_DpathOn.sh
  simp -dsimp (disch := first | omega | assumption | ((simp only [World.size_alloc, size_setRow, List.size_toArray, List.length_cons, List.length_nil, cells_agg, len_enc, cells_int, cells_bool, cells_slice, cells_ptr, cells_string]) <;> omega) | ((repeat (first | with_reducible exact Ext.refl _ | with_reducible assumption | with_reducible apply Ext.alloc | with_reducible apply Ext.drew | (with_reducible refine Ext.setRow ?_ (by (try simp only [World.size_alloc]); omega) _) | (with_reducible refine Ext.tr ?_ (by assumption)))); done) | fail) only [go_sem, Nat.reduceAdd, Nat.reduceLeDiff, Nat.reduceMul, Int.reduceToNat, Nat.reduceEqDiff, Nat.reduceLT, Int.reduceBEq, Int.reduceBNe, Int.reduceLT, Int.reduceLE, Int.reduceAdd, Int.reduceSub, Int.reduceMul, Int.reduceDiv, Int.reduceMod, Int.reduceNeg]
  generalize hwB : ((w.alloc (.cells #[.slice a0 L0.length c0, .slice a1 L1.length c1, .slice a2 L2.length c2] 57)).alloc (.cells #[.int .u64 dst, .int .u64 src, .int .i64 typ, .slice a3 load.length c3] 26)).alloc (.cells #[.int .i64 ch, .int .i64 id] 28) = wB
  have hB : Ext w wB := by rw [← hwB]; (repeat (first | with_reducible exact Ext.refl _ | with_reducible assumption | with_reducible apply Ext.alloc | with_reducible apply Ext.drew | (with_reducible refine Ext.setRow ?_ (by (try simp only [World.size_alloc]); omega) _) | (with_reducible refine Ext.tr ?_ (by assumption))))
  have b1 : blk wB w.heap.size = some #[.slice a0 L0.length c0, .slice a1 L1.length c1, .slice a2 L2.length c2] := by rw [← hwB]; simp -dsimp (disch := first | omega | assumption | ((simp only [World.size_alloc, size_setRow, List.size_toArray, List.length_cons, List.length_nil, cells_agg, len_enc, cells_int, cells_bool, cells_slice, cells_ptr, cells_string]) <;> omega) | ((repeat (first | with_reducible exact Ext.refl _ | with_reducible assumption | with_reducible apply Ext.alloc | with_reducible apply Ext.drew | (with_reducible refine Ext.setRow ?_ (by (try simp only [World.size_alloc]); omega) _) | (with_reducible refine Ext.tr ?_ (by assumption)))); done) | fail) only [go_sem, jn_r, Nat.reduceAdd, Nat.reduceLeDiff, Nat.reduceMul, Int.reduceToNat, Nat.reduceEqDiff, Nat.reduceLT, Int.reduceBEq, Int.reduceBNe, Int.reduceLT, Int.reduceLE, Int.reduceAdd, Int.reduceSub, Int.reduceMul, Int.reduceDiv, Int.reduceMod, Int.reduceNeg]
  have b2 : blk wB (w.heap.size + 1) = some #[.int .u64 dst, .int .u64 src, .int .i64 typ, .slice a3 load.length c3] := by rw [← hwB]; simp -dsimp (disch := first | omega | assumption | ((simp only [World.size_alloc, size_setRow, List.size_toArray, List.length_cons, List.length_nil, cells_agg, len_enc, cells_int, cells_bool, cells_slice, cells_ptr, cells_string]) <;> omega) | ((repeat (first | with_reducible exact Ext.refl _ | with_reducible assumption | with_reducible apply Ext.alloc | with_reducible apply Ext.drew | (with_reducible refine Ext.setRow ?_ (by (try simp only [World.size_alloc]); omega) _) | (with_reducible refine Ext.tr ?_ (by assumption)))); done) | fail) only [go_sem, jn_r, Nat.reduceAdd, Nat.reduceLeDiff, Nat.reduceMul, Int.reduceToNat, Nat.reduceEqDiff, Nat.reduceLT, Int.reduceBEq, Int.reduceBNe, Int.reduceLT, Int.reduceLE, Int.reduceAdd, Int.reduceSub, Int.reduceMul, Int.reduceDiv, Int.reduceMod, Int.reduceNeg]
  have b3 : blk wB (w.heap.size + 1 + 1) = some #[.int .i64 ch, .int .i64 id] := by rw [← hwB]; simp -dsimp (disch := first | omega | assumption | ((simp only [World.size_alloc, size_setRow, List.size_toArray, List.length_cons, List.length_nil, cells_agg, len_enc, cells_int, cells_bool, cells_slice, cells_ptr, cells_string]) <;> omega) | ((repeat (first | with_reducible exact Ext.refl _ | with_reducible assumption | with_reducible apply Ext.alloc | with_reducible apply Ext.drew | (with_reducible refine Ext.setRow ?_ (by (try simp only [World.size_alloc]); omega) _) | (with_reducible refine Ext.tr ?_ (by assumption)))); done) | fail) only [go_sem, jn_r, Nat.reduceAdd, Nat.reduceLeDiff, Nat.reduceMul, Int.reduceToNat, Nat.reduceEqDiff, Nat.reduceLT, Int.reduceBEq, Int.reduceBNe, Int.reduceLT, Int.reduceLE, Int.reduceAdd, Int.reduceSub, Int.reduceMul, Int.reduceDiv, Int.reduceMod, Int.reduceNeg]
  have zB : w.heap.size + 1 + 1 + 1 ≤ wB.heap.size := by rw [← hwB]; simp
  refine callM (rutterlaw02_Fits.c _ dst src typ a3 load.length c3) ?_
  rintro _ w1 ⟨rfl, hx1⟩
  have hz1 := hx1.size
  simp -dsimp (disch := first | omega | assumption | ((simp only [World.size_alloc, size_setRow, List.size_toArray, List.length_cons, List.length_nil, cells_agg, len_enc, cells_int, cells_bool, cells_slice, cells_ptr, cells_string]) <;> omega) | ((repeat (first | with_reducible exact Ext.refl _ | with_reducible assumption | with_reducible apply Ext.alloc | with_reducible apply Ext.drew | (with_reducible refine Ext.setRow ?_ (by (try simp only [World.size_alloc]); omega) _) | (with_reducible refine Ext.tr ?_ (by assumption)))); done) | fail) only [go_sem, Nat.reduceAdd, Nat.reduceLeDiff, Nat.reduceMul, Int.reduceToNat, Nat.reduceEqDiff, Nat.reduceLT, Int.reduceBEq, Int.reduceBNe, Int.reduceLT, Int.reduceLE, Int.reduceAdd, Int.reduceSub, Int.reduceMul, Int.reduceDiv, Int.reduceMod, Int.reduceNeg, hx1.blk, b1, b2, b3]
  refine ge_call (c := decide ((load.length : Int) ≤ 3000)) (r := .bool (frRight dst src typ load.length)) (fun hc => ?_) fun w2 hx2 => ?_
  · rw [hc]; exact rutterref02_Right.c w1 dst src typ a3 load.length c3
  have hz2 := hx2.size
  have hE2 := hx1.tr hx2
  simp -dsimp (disch := first | omega | assumption | ((simp only [World.size_alloc, size_setRow, List.size_toArray, List.length_cons, List.length_nil, cells_agg, len_enc, cells_int, cells_bool, cells_slice, cells_ptr, cells_string]) <;> omega) | ((repeat (first | with_reducible exact Ext.refl _ | with_reducible assumption | with_reducible apply Ext.alloc | with_reducible apply Ext.drew | (with_reducible refine Ext.setRow ?_ (by (try simp only [World.size_alloc]); omega) _) | (with_reducible refine Ext.tr ?_ (by assumption)))); done) | fail) only [go_sem, Nat.reduceAdd, Nat.reduceLeDiff, Nat.reduceMul, Int.reduceToNat, Nat.reduceEqDiff, Nat.reduceLT, Int.reduceBEq, Int.reduceBNe, Int.reduceLT, Int.reduceLE, Int.reduceAdd, Int.reduceSub, Int.reduceMul, Int.reduceDiv, Int.reduceMod, Int.reduceNeg]
  refine loop_g (γ := Nat × Bool) (fun (i, r) st w' => st = [.bool r, .int .i64 (i : Int)] ∧ Ext wB w' ∧ i ≤ 3 ∧ (r = true → frRight dst src typ load.length = true ∧ load.length ≤ 3000 ∧ (0 < i → L0.length ≤ 100) ∧ (1 < i → L1.length ≤ 100) ∧ (2 < i → L2.length ≤ 100))) (fun (i, r) => 3 - i)
    (0, decide ((load.length : Int) ≤ 3000) && frRight dst src typ load.length) ⟨rfl, hE2, by omega, fun h => ?_⟩ ?_
  · simp at h
    exact ⟨h.2, by omega, by omega, by omega, by omega⟩
  rintro ⟨i, r⟩ st w3 next ⟨rfl, hE3, hi, hr⟩ hn
  have B1 := hE3.blkS b1
  have B2 := hE3.blkS b2
  have B3 := hE3.blkS b3
  by_cases h3 : i < 3
  · have st0 := hB.tr hE3
    have hcas : i = 0 ∨ i = 1 ∨ i = 2 := by omega
    rcases hcas with rfl | rfl | rfl
    · simp -dsimp (disch := first | omega | assumption | ((simp only [World.size_alloc, size_setRow, List.size_toArray, List.length_cons, List.length_nil, cells_agg, len_enc, cells_int, cells_bool, cells_slice, cells_ptr, cells_string]) <;> omega) | ((repeat (first | with_reducible exact Ext.refl _ | with_reducible assumption | with_reducible apply Ext.alloc | with_reducible apply Ext.drew | (with_reducible refine Ext.setRow ?_ (by (try simp only [World.size_alloc]); omega) _) | (with_reducible refine Ext.tr ?_ (by assumption)))); done) | fail) only [go_sem, Nat.reduceAdd, Nat.reduceLeDiff, Nat.reduceMul, Int.reduceToNat, Nat.reduceEqDiff, Nat.reduceLT, Int.reduceBEq, Int.reduceBNe, Int.reduceLT, Int.reduceLE, Int.reduceAdd, Int.reduceSub, Int.reduceMul, Int.reduceDiv, Int.reduceMod, Int.reduceNeg, B1, B2, B3, Int.cast_ofNat_Int]
      refine ge_callb (c := decide ((L0.length : Int) ≤ 100)) (fun hc => ?_) fun b w4 hx4 => ?_
      · rw [hc]
        simp at hc
        exact rutterref14_Stand.b w3 _ L0 (h0.ext st0) (by omega)
      · simp -dsimp (disch := first | omega | assumption | ((simp only [World.size_alloc, size_setRow, List.size_toArray, List.length_cons, List.length_nil, cells_agg, len_enc, cells_int, cells_bool, cells_slice, cells_ptr, cells_string]) <;> omega) | ((repeat (first | with_reducible exact Ext.refl _ | with_reducible assumption | with_reducible apply Ext.alloc | with_reducible apply Ext.drew | (with_reducible refine Ext.setRow ?_ (by (try simp only [World.size_alloc]); omega) _) | (with_reducible refine Ext.tr ?_ (by assumption)))); done) | fail) only [go_sem, Nat.reduceAdd, Nat.reduceLeDiff, Nat.reduceMul, Int.reduceToNat, Nat.reduceEqDiff, Nat.reduceLT, Int.reduceBEq, Int.reduceBNe, Int.reduceLT, Int.reduceLE, Int.reduceAdd, Int.reduceSub, Int.reduceMul, Int.reduceDiv, Int.reduceMod, Int.reduceNeg, Int.cast_ofNat_Int]
        refine hn (0 + 1, r && (decide ((L0.length : Int) ≤ 100) && b)) _ _ ⟨rfl, hE3.tr hx4, by omega, fun h => ?_⟩ (by simp)
        simp at h
        obtain ⟨g1, g2, g3, g4, g5⟩ := hr h.1
        exact ⟨g1, g2, fun _ => by omega, by omega, by omega⟩
    · simp -dsimp (disch := first | omega | assumption | ((simp only [World.size_alloc, size_setRow, List.size_toArray, List.length_cons, List.length_nil, cells_agg, len_enc, cells_int, cells_bool, cells_slice, cells_ptr, cells_string]) <;> omega) | ((repeat (first | with_reducible exact Ext.refl _ | with_reducible assumption | with_reducible apply Ext.alloc | with_reducible apply Ext.drew | (with_reducible refine Ext.setRow ?_ (by (try simp only [World.size_alloc]); omega) _) | (with_reducible refine Ext.tr ?_ (by assumption)))); done) | fail) only [go_sem, Nat.reduceAdd, Nat.reduceLeDiff, Nat.reduceMul, Int.reduceToNat, Nat.reduceEqDiff, Nat.reduceLT, Int.reduceBEq, Int.reduceBNe, Int.reduceLT, Int.reduceLE, Int.reduceAdd, Int.reduceSub, Int.reduceMul, Int.reduceDiv, Int.reduceMod, Int.reduceNeg, B1, B2, B3, Int.cast_ofNat_Int]
      refine ge_callb (c := decide ((L1.length : Int) ≤ 100)) (fun hc => ?_) fun b w4 hx4 => ?_
      · rw [hc]
        simp at hc
        exact rutterref14_Stand.b w3 _ L1 (h1.ext st0) (by omega)
      · simp -dsimp (disch := first | omega | assumption | ((simp only [World.size_alloc, size_setRow, List.size_toArray, List.length_cons, List.length_nil, cells_agg, len_enc, cells_int, cells_bool, cells_slice, cells_ptr, cells_string]) <;> omega) | ((repeat (first | with_reducible exact Ext.refl _ | with_reducible assumption | with_reducible apply Ext.alloc | with_reducible apply Ext.drew | (with_reducible refine Ext.setRow ?_ (by (try simp only [World.size_alloc]); omega) _) | (with_reducible refine Ext.tr ?_ (by assumption)))); done) | fail) only [go_sem, Nat.reduceAdd, Nat.reduceLeDiff, Nat.reduceMul, Int.reduceToNat, Nat.reduceEqDiff, Nat.reduceLT, Int.reduceBEq, Int.reduceBNe, Int.reduceLT, Int.reduceLE, Int.reduceAdd, Int.reduceSub, Int.reduceMul, Int.reduceDiv, Int.reduceMod, Int.reduceNeg, Int.cast_ofNat_Int]
        refine hn (1 + 1, r && (decide ((L1.length : Int) ≤ 100) && b)) _ _ ⟨rfl, hE3.tr hx4, by omega, fun h => ?_⟩ (by simp)
        simp at h
        obtain ⟨g1, g2, g3, g4, g5⟩ := hr h.1
        exact ⟨g1, g2, fun _ => g3 (by omega), fun _ => by omega, by omega⟩
    · simp -dsimp (disch := first | omega | assumption | ((simp only [World.size_alloc, size_setRow, List.size_toArray, List.length_cons, List.length_nil, cells_agg, len_enc, cells_int, cells_bool, cells_slice, cells_ptr, cells_string]) <;> omega) | ((repeat (first | with_reducible exact Ext.refl _ | with_reducible assumption | with_reducible apply Ext.alloc | with_reducible apply Ext.drew | (with_reducible refine Ext.setRow ?_ (by (try simp only [World.size_alloc]); omega) _) | (with_reducible refine Ext.tr ?_ (by assumption)))); done) | fail) only [go_sem, Nat.reduceAdd, Nat.reduceLeDiff, Nat.reduceMul, Int.reduceToNat, Nat.reduceEqDiff, Nat.reduceLT, Int.reduceBEq, Int.reduceBNe, Int.reduceLT, Int.reduceLE, Int.reduceAdd, Int.reduceSub, Int.reduceMul, Int.reduceDiv, Int.reduceMod, Int.reduceNeg, B1, B2, B3, Int.cast_ofNat_Int]
      refine ge_callb (c := decide ((L2.length : Int) ≤ 100)) (fun hc => ?_) fun b w4 hx4 => ?_
      · rw [hc]
        simp at hc
        exact rutterref14_Stand.b w3 _ L2 (h2.ext st0) (by omega)
      · simp -dsimp (disch := first | omega | assumption | ((simp only [World.size_alloc, size_setRow, List.size_toArray, List.length_cons, List.length_nil, cells_agg, len_enc, cells_int, cells_bool, cells_slice, cells_ptr, cells_string]) <;> omega) | ((repeat (first | with_reducible exact Ext.refl _ | with_reducible assumption | with_reducible apply Ext.alloc | with_reducible apply Ext.drew | (with_reducible refine Ext.setRow ?_ (by (try simp only [World.size_alloc]); omega) _) | (with_reducible refine Ext.tr ?_ (by assumption)))); done) | fail) only [go_sem, Nat.reduceAdd, Nat.reduceLeDiff, Nat.reduceMul, Int.reduceToNat, Nat.reduceEqDiff, Nat.reduceLT, Int.reduceBEq, Int.reduceBNe, Int.reduceLT, Int.reduceLE, Int.reduceAdd, Int.reduceSub, Int.reduceMul, Int.reduceDiv, Int.reduceMod, Int.reduceNeg, Int.cast_ofNat_Int]
        refine hn (2 + 1, r && (decide ((L2.length : Int) ≤ 100) && b)) _ _ ⟨rfl, hE3.tr hx4, by omega, fun h => ?_⟩ (by simp)
        simp at h
        obtain ⟨g1, g2, g3, g4, g5⟩ := hr h.1
        exact ⟨g1, g2, fun _ => g3 (by omega), fun _ => g4 (by omega), fun _ => by omega⟩
  have hi3 : i = 3 := by omega
  subst hi3
  have st0 := hB.tr hE3
  have alive : ∀ w' , Ext wB w' → Calls Try.prog rutterlaw15_alive.id #[] w' (retP fun r w' => r = .bool true ∧ Ext w w') := fun w' hx => callM (rutterlaw15_alive.c w') fun _ _ ⟨g1, g2⟩ => ⟨g1, (hB.tr hx).tr g2⟩
  by_cases hgo : r = true ∧ 0 ≤ ch ∧ ch ≤ 15 ∧ 0 ≤ id ∧ id ≤ 1099511627776
  · obtain ⟨rfl, hg⟩ := hgo
    obtain ⟨hfr, hll, q0, q1, q2⟩ := hr rfl
    have k1 : ¬ ch < 0 := by omega
    have k2 : ¬ 15 < ch := by omega
    have k3 : ¬ id < 0 := by omega
    have k4 : ¬ 1099511627776 < id := by omega
    simp -dsimp (disch := first | omega | assumption | ((simp only [World.size_alloc, size_setRow, List.size_toArray, List.length_cons, List.length_nil, cells_agg, len_enc, cells_int, cells_bool, cells_slice, cells_ptr, cells_string]) <;> omega) | ((repeat (first | with_reducible exact Ext.refl _ | with_reducible assumption | with_reducible apply Ext.alloc | with_reducible apply Ext.drew | (with_reducible refine Ext.setRow ?_ (by (try simp only [World.size_alloc]); omega) _) | (with_reducible refine Ext.tr ?_ (by assumption)))); done) | fail) only [go_sem, Nat.reduceAdd, Nat.reduceLeDiff, Nat.reduceMul, Int.reduceToNat, Nat.reduceEqDiff, Nat.reduceLT, Int.reduceBEq, Int.reduceBNe, Int.reduceLT, Int.reduceLE, Int.reduceAdd, Int.reduceSub, Int.reduceMul, Int.reduceDiv, Int.reduceMod, Int.reduceNeg, B1, B2, B3, Int.cast_ofNat_Int, k1, k2, k3, k4]
    refine callM (rutterref02_Bytes.c w3 dst src typ _ load (hs.ext st0) hd hsr hfr) ?_
    rintro vb w4 ⟨hOb, hx4⟩
    have hz3 := hE3.size
    have hz4 := hx4.size
    have hE4 := hE3.tr hx4
    have hSb := hOb.sl
    have hvb : ∀ b, vb.ownBlock = some b → b < w4.heap.size := fun b hb => (hOb.lt hb).2
    generalize hfb : frB dst src typ load = fb at hSb
    clear hOb
    simp -dsimp (disch := first | omega | assumption | ((simp only [World.size_alloc, size_setRow, List.size_toArray, List.length_cons, List.length_nil, cells_agg, len_enc, cells_int, cells_bool, cells_slice, cells_ptr, cells_string]) <;> omega) | ((repeat (first | with_reducible exact Ext.refl _ | with_reducible assumption | with_reducible apply Ext.alloc | with_reducible apply Ext.drew | (with_reducible refine Ext.setRow ?_ (by (try simp only [World.size_alloc]); omega) _) | (with_reducible refine Ext.tr ?_ (by assumption)))); done) | fail) only [go_sem, Nat.reduceAdd, Nat.reduceLeDiff, Nat.reduceMul, Int.reduceToNat, Nat.reduceEqDiff, Nat.reduceLT, Int.reduceBEq, Int.reduceBNe, Int.reduceLT, Int.reduceLE, Int.reduceAdd, Int.reduceSub, Int.reduceMul, Int.reduceDiv, Int.reduceMod, Int.reduceNeg, hE4.blk, b1, b2, b3, Int.cast_ofNat_Int]
    refine callM (bind_Table.c _ ch _ L0 (h0.ext (Ext.tr (hB.tr hE4) (by (repeat (first | with_reducible exact Ext.refl _ | with_reducible assumption | with_reducible apply Ext.alloc | with_reducible apply Ext.drew | (with_reducible refine Ext.setRow ?_ (by (try simp only [World.size_alloc]); omega) _) | (with_reducible refine Ext.tr ?_ (by assumption))))))) (by omega)) ?_
    rintro _ w5 ⟨tv0, M0, rfl, hM0, hT0, hx5⟩
    have hz5 := hx5.size
    simp only [World.size_alloc] at hz5
    have hE5 : Ext wB w5 := hE4.tr (Ext.tr (by (repeat (first | with_reducible exact Ext.refl _ | with_reducible assumption | with_reducible apply Ext.alloc | with_reducible apply Ext.drew | (with_reducible refine Ext.setRow ?_ (by (try simp only [World.size_alloc]); omega) _) | (with_reducible refine Ext.tr ?_ (by assumption))))) hx5)
    have hE45 : Ext w4 w5 := Ext.tr (by (repeat (first | with_reducible exact Ext.refl _ | with_reducible assumption | with_reducible apply Ext.alloc | with_reducible apply Ext.drew | (with_reducible refine Ext.setRow ?_ (by (try simp only [World.size_alloc]); omega) _) | (with_reducible refine Ext.tr ?_ (by assumption))))) hx5
    have hVis : Ow (intC .i64) 3 wB.heap.size w5 (.slice (some ⟨w4.heap.size, 0, none⟩) 1 1) [ch] := (Ow.new (C := intC .i64) (w := w4) (cs := #[.int .i64 ch]) hE4.size rfl (by simp [maxLen]) rfl).ext hx5
    simp -dsimp (disch := first | omega | assumption | ((simp only [World.size_alloc, size_setRow, List.size_toArray, List.length_cons, List.length_nil, cells_agg, len_enc, cells_int, cells_bool, cells_slice, cells_ptr, cells_string]) <;> omega) | ((repeat (first | with_reducible exact Ext.refl _ | with_reducible assumption | with_reducible apply Ext.alloc | with_reducible apply Ext.drew | (with_reducible refine Ext.setRow ?_ (by (try simp only [World.size_alloc]); omega) _) | (with_reducible refine Ext.tr ?_ (by assumption)))); done) | fail) only [go_sem, Nat.reduceAdd, Nat.reduceLeDiff, Nat.reduceMul, Int.reduceToNat, Nat.reduceEqDiff, Nat.reduceLT, Int.reduceBEq, Int.reduceBNe, Int.reduceLT, Int.reduceLE, Int.reduceAdd, Int.reduceSub, Int.reduceMul, Int.reduceDiv, Int.reduceMod, Int.reduceNeg, hE5.blk, b1, b2, b3]
    refine callM (dpath_Guest.c w5 tv0 M0 ch dst src typ id _ load hT0 (hs.ext (hB.tr hE5)) hd hsr ht1 ht2) ?_
    rintro _ w6 ⟨⟨v6, rfl, hO6⟩, hx6⟩
    have hok : guestOk ch dst src typ load.length id = true := by simp [guestOk, hfr]; omega
    rw [hok, if_pos rfl] at hO6
    rw [hok, if_pos rfl]
    obtain ⟨on1, on2, on3⟩ := guest_on (lookA M0 ⟨0, dst, 0, 0, -1⟩) ch id (frB dst src typ load)
    generalize guestAct (lookA M0 ⟨0, dst, 0, 0, -1⟩) ch (frB dst src typ load) id = oc at hO6 on1 on2 on3
    rw [hfb] at on1 on2
    have hz6 := hx6.size
    have hE6 := hE5.tr hx6
    have hV6 := hVis.ext hx6
    have hSb6 := hSb.ext (hE45.tr hx6)
    obtain ⟨a5, c5, a6, c6, rfl, hs5, hs6, hl5, hl6⟩ := hO6
    unfold Oc.v
    simp -dsimp (disch := first | omega | assumption | ((simp only [World.size_alloc, size_setRow, List.size_toArray, List.length_cons, List.length_nil, cells_agg, len_enc, cells_int, cells_bool, cells_slice, cells_ptr, cells_string]) <;> omega) | ((repeat (first | with_reducible exact Ext.refl _ | with_reducible assumption | with_reducible apply Ext.alloc | with_reducible apply Ext.drew | (with_reducible refine Ext.setRow ?_ (by (try simp only [World.size_alloc]); omega) _) | (with_reducible refine Ext.tr ?_ (by assumption)))); done) | fail) only [go_sem, Nat.reduceAdd, Nat.reduceLeDiff, Nat.reduceMul, Int.reduceToNat, Nat.reduceEqDiff, Nat.reduceLT, Int.reduceBEq, Int.reduceBNe, Int.reduceLT, Int.reduceLE, Int.reduceAdd, Int.reduceSub, Int.reduceMul, Int.reduceDiv, Int.reduceMod, Int.reduceNeg]
    clear hn hr hx4 hx5 hE45 hT0 hM0 hVis hSb
    generalize hgO : w6.heap.size = gO
    have hbox : OcB (.slice (some ⟨w4.heap.size, 0, none⟩) 1 1) (w6.alloc (.cells #[.int .i64 oc.kind, .int .i64 oc.port, .int .i64 oc.gen, .int .i64 oc.stamp, .slice a5 oc.frame.length c5, .int .i64 oc.pk.kind, .int .i64 oc.pk.origin, .int .i64 oc.pk.frm, .int .i64 oc.pk.to, .int .i64 oc.pk.port, .int .i64 oc.pk.gen, .int .i64 oc.pk.id, .slice a6 oc.pk.frame.length c6] 39)) gO oc := ⟨a5, c5, a6, c6, ⟨fun b hb h => by have := hl5 b hb; simp [Value.ownBlock] at h; omega, fun b hb h => by have := hl6 b hb; simp [Value.ownBlock] at h; omega⟩, blk0_new hgO.symm, hs5.ext (by (repeat (first | with_reducible exact Ext.refl _ | with_reducible assumption | with_reducible apply Ext.alloc | with_reducible apply Ext.drew | (with_reducible refine Ext.setRow ?_ (by (try simp only [World.size_alloc]); omega) _) | (with_reducible refine Ext.tr ?_ (by assumption))))), hs6.ext (by (repeat (first | with_reducible exact Ext.refl _ | with_reducible assumption | with_reducible apply Ext.alloc | with_reducible apply Ext.drew | (with_reducible refine Ext.setRow ?_ (by (try simp only [World.size_alloc]); omega) _) | (with_reducible refine Ext.tr ?_ (by assumption)))))⟩
    refine loop_g (γ := Nat × List Int × Value × Oc) (fun (i, vis, vv, oc) st w' => st = [vv, .int .i64 (i : Int)] ∧ Ext wB w' ∧ Ow (intC .i64) 3 wB.heap.size w' vv vis ∧ vv.ownBlock ≠ some gO ∧ (∀ b, vv.ownBlock = some b → w4.heap.size ≤ b) ∧ OcB vv w' gO oc ∧ Sl bytC w' vb fb ∧ GoodO fb oc ∧ SentO fb id oc ∧ Stage ch i vis oc) (fun (i, vis, vv, oc) => 3 - i)
      (1, [ch], .slice (some ⟨w4.heap.size, 0, none⟩) 1 1, oc) ⟨rfl, Ext.tr hE6 (by (repeat (first | with_reducible exact Ext.refl _ | with_reducible assumption | with_reducible apply Ext.alloc | with_reducible apply Ext.drew | (with_reducible refine Ext.setRow ?_ (by (try simp only [World.size_alloc]); omega) _) | (with_reducible refine Ext.tr ?_ (by assumption))))), hV6.ext (by (repeat (first | with_reducible exact Ext.refl _ | with_reducible assumption | with_reducible apply Ext.alloc | with_reducible apply Ext.drew | (with_reducible refine Ext.setRow ?_ (by (try simp only [World.size_alloc]); omega) _) | (with_reducible refine Ext.tr ?_ (by assumption))))), by simp [Value.ownBlock]; omega, fun b hb => by simp [Value.ownBlock] at hb; omega, hbox, hSb6.ext (by (repeat (first | with_reducible exact Ext.refl _ | with_reducible assumption | with_reducible apply Ext.alloc | with_reducible apply Ext.drew | (with_reducible refine Ext.setRow ?_ (by (try simp only [World.size_alloc]); omega) _) | (with_reducible refine Ext.tr ?_ (by assumption))))), on1, on2, ⟨by simp, .inl ⟨rfl, rfl, on3⟩⟩⟩ ?_
    clear hbox on1 on2 on3 hs5 hs6 hl5 hl6 hV6
    rintro ⟨i, vis, vv, oc⟩ st w7 next ⟨rfl, hE7, hV7, hne7, hlo7, hO7, hS7, on1, on2, hst⟩ hn
    obtain ⟨a7, c7, a8, c8, ⟨hd7, hd8⟩, hb7, hs7, hs8⟩ := hO7
    have hb7' := blk_of0 hb7
    have hgl := blk0_lt hb7
    have hz7 := hE7.size
    have hV7l := hV7.sl
    have hvl : vis.length ≤ 3 := by
      rcases hst.2 with ⟨_, rfl, _⟩ | ⟨_, ⟨x, rfl, _⟩⟩ | ⟨_, h, _⟩
      · simp
      · simp
      · omega
    have d1 : (0 : Int) ≤ (i : Int) := by have := hst.2; omega
    by_cases hgo : i < 3 ∧ oc.kind = 2
    · obtain ⟨hi3, hk2⟩ := hgo
      have e1 : (i : Int) < 3 := by omega
      have e2 : (oc.kind == 2) = true := by simp [hk2]
      obtain ⟨hR, hfr', hid'⟩ := on2 hk2
      simp -dsimp (disch := first | omega | assumption | ((simp only [World.size_alloc, size_setRow, List.size_toArray, List.length_cons, List.length_nil, cells_agg, len_enc, cells_int, cells_bool, cells_slice, cells_ptr, cells_string]) <;> omega) | ((repeat (first | with_reducible exact Ext.refl _ | with_reducible assumption | with_reducible apply Ext.alloc | with_reducible apply Ext.drew | (with_reducible refine Ext.setRow ?_ (by (try simp only [World.size_alloc]); omega) _) | (with_reducible refine Ext.tr ?_ (by assumption)))); done) | fail) only [go_sem, Nat.reduceAdd, Nat.reduceLeDiff, Nat.reduceMul, Int.reduceToNat, Nat.reduceEqDiff, Nat.reduceLT, Int.reduceBEq, Int.reduceBNe, Int.reduceLT, Int.reduceLE, Int.reduceAdd, Int.reduceSub, Int.reduceMul, Int.reduceDiv, Int.reduceMod, Int.reduceNeg, e1, e2, d1, hb7', hE7.blk, b1, b2, b3, Int.cast_ofNat_Int]
      refine ap_at (l := vis) (m := [oc.pk.to]) (hV7.ext (by (repeat (first | with_reducible exact Ext.refl _ | with_reducible assumption | with_reducible apply Ext.alloc | with_reducible apply Ext.drew | (with_reducible refine Ext.setRow ?_ (by (try simp only [World.size_alloc]); omega) _) | (with_reducible refine Ext.tr ?_ (by assumption)))))) (one_from (blk_new (by simp only [World.size_alloc]))) (by simp only [World.size_alloc]; omega) (by simp; omega) fun vv2 w8 hV8 hg8 _ hn8 => ?_
      obtain ⟨aL, cL, L, hLi, hSL, hLl⟩ : ∃ aL cL L, [Value.slice a0 L0.length c0, .slice a1 L1.length c1, .slice a2 L2.length c2][i]? = some (.slice aL L.length cL) ∧ Sl rowC w (.slice aL L.length cL) L ∧ L.length ≤ 100 := by
        rcases hst.2 with ⟨rfl, _⟩ | ⟨rfl, _⟩ | ⟨rfl, _⟩
        · exact ⟨a1, c1, L1, rfl, h1, by omega⟩
        · exact ⟨a2, c2, L2, rfl, h2, by omega⟩
        · omega
      have hE8 : Ext wB w8 := Ext.grown (Ext.tr hE7 (by (repeat (first | with_reducible exact Ext.refl _ | with_reducible assumption | with_reducible apply Ext.alloc | with_reducible apply Ext.drew | (with_reducible refine Ext.setRow ?_ (by (try simp only [World.size_alloc]); omega) _) | (with_reducible refine Ext.tr ?_ (by assumption)))))) hg8 fun g hg => (hV7.lt hg).1
      have hz8 := hg8.size
      simp only [World.size_alloc] at hz8
      have bp8 : blk w8 w7.heap.size = some #[.int .i64 oc.pk.kind, .int .i64 oc.pk.origin, .int .i64 oc.pk.frm, .int .i64 oc.pk.to, .int .i64 oc.pk.port, .int .i64 oc.pk.gen, .int .i64 oc.pk.id, .slice a8 oc.pk.frame.length c8] := grown_blk hg8 (by simp -dsimp (disch := first | omega | assumption | ((simp only [World.size_alloc, size_setRow, List.size_toArray, List.length_cons, List.length_nil, cells_agg, len_enc, cells_int, cells_bool, cells_slice, cells_ptr, cells_string]) <;> omega) | ((repeat (first | with_reducible exact Ext.refl _ | with_reducible assumption | with_reducible apply Ext.alloc | with_reducible apply Ext.drew | (with_reducible refine Ext.setRow ?_ (by (try simp only [World.size_alloc]); omega) _) | (with_reducible refine Ext.tr ?_ (by assumption)))); done) | fail) only [go_sem, jn_r, Nat.reduceAdd, Nat.reduceLeDiff, Nat.reduceMul, Int.reduceToNat, Nat.reduceEqDiff, Nat.reduceLT, Int.reduceBEq, Int.reduceBNe, Int.reduceLT, Int.reduceLE, Int.reduceAdd, Int.reduceSub, Int.reduceMul, Int.reduceDiv, Int.reduceMod, Int.reduceNeg]) (fun h => by have := (hV7.lt h).2; omega)
      have bo8 : blk0 w8 gO = _ := grown_blk0 hg8 ((blk0_old (by simp; omega)).trans ((blk0_old hgl).trans hb7)) hne7
      have hs88 : Sl bytC w8 (.slice a8 oc.pk.frame.length c8) oc.pk.frame := Sl.grown (hs8.ext (by (repeat (first | with_reducible exact Ext.refl _ | with_reducible assumption | with_reducible apply Ext.alloc | with_reducible apply Ext.drew | (with_reducible refine Ext.setRow ?_ (by (try simp only [World.size_alloc]); omega) _) | (with_reducible refine Ext.tr ?_ (by assumption)))))) hg8 fun b hb => by
        cases a8 with
        | none => cases hb
        | some ad => cases hb; exact hd8 ad rfl
      have hS8 : Sl bytC w8 vb fb := Sl.grown (hS7.ext (by (repeat (first | with_reducible exact Ext.refl _ | with_reducible assumption | with_reducible apply Ext.alloc | with_reducible apply Ext.drew | (with_reducible refine Ext.setRow ?_ (by (try simp only [World.size_alloc]); omega) _) | (with_reducible refine Ext.tr ?_ (by assumption)))))) hg8 fun b hb h => by have := hvb b hb; have := hlo7 b h; omega
      have hlt8 : ∀ b, vv2.ownBlock = some b → b < w8.heap.size := fun b hb => (hV8.lt hb).2
      have hlo8 : ∀ b, vv2.ownBlock = some b → w4.heap.size ≤ b := fun b hb => by
        rcases hn8 with h | h
        · rw [h] at hb; exact hlo7 b hb
        · rw [h] at hb; simp at hb; omega
      have hne8 : vv2.ownBlock ≠ some gO := fun h => by
        rcases hn8 with h' | h'
        · rw [h'] at h; exact hne7 h
        · rw [h'] at h; simp at h; omega
      have i3 : (i : Int) < ((3 : Nat) : Int) := by omega
      simp -dsimp (disch := first | omega | assumption | ((simp only [World.size_alloc, size_setRow, List.size_toArray, List.length_cons, List.length_nil, cells_agg, len_enc, cells_int, cells_bool, cells_slice, cells_ptr, cells_string]) <;> omega) | ((repeat (first | with_reducible exact Ext.refl _ | with_reducible assumption | with_reducible apply Ext.alloc | with_reducible apply Ext.drew | (with_reducible refine Ext.setRow ?_ (by (try simp only [World.size_alloc]); omega) _) | (with_reducible refine Ext.tr ?_ (by assumption)))); done) | fail) only [go_sem, Nat.reduceAdd, Nat.reduceLeDiff, Nat.reduceMul, Int.reduceToNat, Nat.reduceEqDiff, Nat.reduceLT, Int.reduceBEq, Int.reduceBNe, Int.reduceLT, Int.reduceLE, Int.reduceAdd, Int.reduceSub, Int.reduceMul, Int.reduceDiv, Int.reduceMod, Int.reduceNeg, bp8, hE8.blk, b1, b2, b3, hLi, d1, i3, Int.toNat_natCast, Nat.mul_one]
      refine callM (bind_Table.c _ oc.pk.to _ L (hSL.ext (Ext.tr (hB.tr hE8) (by (repeat (first | with_reducible exact Ext.refl _ | with_reducible assumption | with_reducible apply Ext.alloc | with_reducible apply Ext.drew | (with_reducible refine Ext.setRow ?_ (by (try simp only [World.size_alloc]); omega) _) | (with_reducible refine Ext.tr ?_ (by assumption))))))) (by omega)) ?_
      rintro _ w9 ⟨tv, M, rfl, hM, hT, hx9⟩
      have hx9 : Ext w8 w9 := Ext.tr (by (repeat (first | with_reducible exact Ext.refl _ | with_reducible assumption | with_reducible apply Ext.alloc | with_reducible apply Ext.drew | (with_reducible refine Ext.setRow ?_ (by (try simp only [World.size_alloc]); omega) _) | (with_reducible refine Ext.tr ?_ (by assumption))))) hx9
      have hz9 := hx9.size
      have bp9 := hx9.blkS bp8
      simp -dsimp (disch := first | omega | assumption | ((simp only [World.size_alloc, size_setRow, List.size_toArray, List.length_cons, List.length_nil, cells_agg, len_enc, cells_int, cells_bool, cells_slice, cells_ptr, cells_string]) <;> omega) | ((repeat (first | with_reducible exact Ext.refl _ | with_reducible assumption | with_reducible apply Ext.alloc | with_reducible apply Ext.drew | (with_reducible refine Ext.setRow ?_ (by (try simp only [World.size_alloc]); omega) _) | (with_reducible refine Ext.tr ?_ (by assumption)))); done) | fail) only [go_sem, Nat.reduceAdd, Nat.reduceLeDiff, Nat.reduceMul, Int.reduceToNat, Nat.reduceEqDiff, Nat.reduceLT, Int.reduceBEq, Int.reduceBNe, Int.reduceLT, Int.reduceLE, Int.reduceAdd, Int.reduceSub, Int.reduceMul, Int.reduceDiv, Int.reduceMod, Int.reduceNeg, bp9]
      refine callM (dpath_Tunnel.c w9 tv _ M oc.pk.to oc.pk (lo := 0) hT ⟨a8, c8, rfl, hs88.ext hx9, by simp⟩) ?_
      rintro _ w10 ⟨⟨vX, rfl, hX⟩, hx10⟩
      have htun : tunOk oc.pk oc.pk.to = true := by simp [tunOk, hR]
      rw [htun, if_pos rfl] at hX
      rw [htun, if_pos rfl]
      rw [hM.look] at hX
      obtain ⟨st1, st2⟩ := hst.next hi3 hk2 hR (compile_upto oc.pk.to L)
      obtain ⟨t1, t2, -⟩ := tunnel_on (l := L.flatMap (rowE oc.pk.to)) (compile_upto oc.pk.to L) hR
      rw [hfr'] at t1 t2
      rw [hid'] at t2
      generalize tunnelAct (bestA (L.flatMap (rowE oc.pk.to)) ⟨oc.pk.kind, 0, oc.pk.port, oc.pk.gen, oc.pk.origin⟩) oc.pk = x at hX st1 st2 t1 t2
      have hz10 := hx10.size
      have hx810 := hx9.tr hx10
      have bp10 := hx10.blkS bp9
      have hE10 := hE8.tr hx810
      obtain ⟨a9, c9, a10, c10, rfl, hs9, hs10, hl9, hl10⟩ := hX
      unfold Oc.v
      have hcv1 := cv_bsE (s := 24) (d := 9) (hs88.ext hx810)
      have hcv2 := cv_bsE (s := 24) (d := 9) (hS8.ext hx810)
      have bo10 : blk0 w10 gO = _ := (hx810.blk0 (by omega)).trans bo8
      have bo10' := blk_of0 bo10
      have k0 : ((0 : Int) != 0) = false := rfl
      have kf : (oc.pk.frame == fb) = true := by simp [hfr']
      have kid : (oc.pk.id != id) = false := by simp [hid']
      have kk : (oc.pk.kind == 2) = true → (x.kind == 2) = false := fun h => by have := st2 (by simpa using h); simpa using this
      have fin : ∀ w', Ext w10 w' → next [vv2, .int .i64 ((i : Int) + 1)] (w'.setRow gO #[.int .i64 x.kind, .int .i64 x.port, .int .i64 x.gen, .int .i64 x.stamp, .slice a9 x.frame.length c9, .int .i64 x.pk.kind, .int .i64 x.pk.origin, .int .i64 x.pk.frm, .int .i64 x.pk.to, .int .i64 x.pk.port, .int .i64 x.pk.gen, .int .i64 x.pk.id, .slice a10 x.pk.frame.length c10]) := by
        intro w' hx'
        have bg : blk0 w' gO = _ := (hx'.blk0 (by omega)).trans bo10
        have bg' := blk_of0 bg
        refine hn (i + 1, vis ++ [oc.pk.to], vv2, x) _ _ ⟨by simp, ?_, ?_, hne8, hlo8, ⟨a9, c9, a10, c10, ⟨fun b hb h => ?_, fun b hb h => ?_⟩, by rw [blk0_setS, bg]; rfl, (hs9.ext hx').bset bg' rfl, (hs10.ext hx').bset bg' rfl⟩, ((hS8.ext (hx810.tr hx')).bset bg' rfl), t1, t2, st1⟩ (by simp; omega)
        · exact (hE10.tr hx').setRow (by omega) _
        · exact (hV8.ext (hx810.tr hx')).chg ((Chg.refl [gO] w').setRow (by simp) _) fun b hb hm => by simp at hm; subst hm; exact hne8 hb
        · have := hl9 b hb; have := hlt8 _ h; omega
        · have := hl10 b hb; have := hlt8 _ h; omega
      have kk' : (oc.pk.kind == 2 && x.kind == 2) = false := by
        cases hq : (oc.pk.kind == 2) with
        | false => rfl
        | true => rw [kk hq]; rfl
      simp -dsimp (disch := first | omega | assumption | ((simp only [World.size_alloc, size_setRow, List.size_toArray, List.length_cons, List.length_nil, cells_agg, len_enc, cells_int, cells_bool, cells_slice, cells_ptr, cells_string]) <;> omega) | ((repeat (first | with_reducible exact Ext.refl _ | with_reducible assumption | with_reducible apply Ext.alloc | with_reducible apply Ext.drew | (with_reducible refine Ext.setRow ?_ (by (try simp only [World.size_alloc]); omega) _) | (with_reducible refine Ext.tr ?_ (by assumption)))); done) | fail) only [go_sem, Nat.reduceAdd, Nat.reduceLeDiff, Nat.reduceMul, Int.reduceToNat, Nat.reduceEqDiff, Nat.reduceLT, Int.reduceBEq, Int.reduceBNe, Int.reduceLT, Int.reduceLE, Int.reduceAdd, Int.reduceSub, Int.reduceMul, Int.reduceDiv, Int.reduceMod, Int.reduceNeg, k0, bp10, hE10.blk, b1, b2, b3, hcv1, hcv2, kf, kid, kk', bo10, bo10']
      have last := fin (w10.alloc (.cells #[.int .i64 x.kind, .int .i64 x.port, .int .i64 x.gen, .int .i64 x.stamp, .slice a9 x.frame.length c9, .int .i64 x.pk.kind, .int .i64 x.pk.origin, .int .i64 x.pk.frm, .int .i64 x.pk.to, .int .i64 x.pk.port, .int .i64 x.pk.gen, .int .i64 x.pk.id, .slice a10 x.pk.frame.length c10] 39)) (by (repeat (first | with_reducible exact Ext.refl _ | with_reducible assumption | with_reducible apply Ext.alloc | with_reducible apply Ext.drew | (with_reducible refine Ext.setRow ?_ (by (try simp only [World.size_alloc]); omega) _) | (with_reducible refine Ext.tr ?_ (by assumption)))))
      rw [setRow_old (by omega)] at last
      exact last
    · -- the walk is over
      have hk2 : oc.kind ≠ 2 := by
        rcases hst.2 with ⟨rfl, _, _⟩ | ⟨rfl, _⟩ | ⟨_, _, h⟩
        · intro h; exact hgo ⟨by omega, h⟩
        · intro h; exact hgo ⟨by omega, h⟩
        · exact h
      have e2 : (oc.kind == 2) = false := by simp [hk2]
      have e3 : (oc.kind != 2) = true := by simp [hk2]
      have e4 : (decide ((i : Int) < 3) && false) = false := by simp
      obtain ⟨ta, tc, rfl⟩ := hV7l.form
      simp -dsimp (disch := first | omega | assumption | ((simp only [World.size_alloc, size_setRow, List.size_toArray, List.length_cons, List.length_nil, cells_agg, len_enc, cells_int, cells_bool, cells_slice, cells_ptr, cells_string]) <;> omega) | ((repeat (first | with_reducible exact Ext.refl _ | with_reducible assumption | with_reducible apply Ext.alloc | with_reducible apply Ext.drew | (with_reducible refine Ext.setRow ?_ (by (try simp only [World.size_alloc]); omega) _) | (with_reducible refine Ext.tr ?_ (by assumption)))); done) | fail) only [go_sem, Nat.reduceAdd, Nat.reduceLeDiff, Nat.reduceMul, Int.reduceToNat, Nat.reduceEqDiff, Nat.reduceLT, Int.reduceBEq, Int.reduceBNe, Int.reduceLT, Int.reduceLE, Int.reduceAdd, Int.reduceSub, Int.reduceMul, Int.reduceDiv, Int.reduceMod, Int.reduceNeg, hb7', e2, e4]
      refine loop_g (γ := Nat) (fun m st w' => st = [.int .i64 (m : Int)] ∧ Ext w7 w') (fun m => vis.length - m) 0 ⟨rfl, .refl _⟩ ?_
      rintro m st w8 next8 ⟨rfl, hE8⟩ hn8
      by_cases hm : m < vis.length
      · have f0 : (m : Int) < (vis.length : Int) := by omega
        have f1 : (0 : Int) ≤ (m : Int) := by omega
        obtain ⟨y, hy⟩ : ∃ y, vis[m]? = some y := ⟨_, List.getElem?_eq_getElem hm⟩
        simp -dsimp (disch := first | omega | assumption | ((simp only [World.size_alloc, size_setRow, List.size_toArray, List.length_cons, List.length_nil, cells_agg, len_enc, cells_int, cells_bool, cells_slice, cells_ptr, cells_string]) <;> omega) | ((repeat (first | with_reducible exact Ext.refl _ | with_reducible assumption | with_reducible apply Ext.alloc | with_reducible apply Ext.drew | (with_reducible refine Ext.setRow ?_ (by (try simp only [World.size_alloc]); omega) _) | (with_reducible refine Ext.tr ?_ (by assumption)))); done) | fail) only [go_sem, Nat.reduceAdd, Nat.reduceLeDiff, Nat.reduceMul, Int.reduceToNat, Nat.reduceEqDiff, Nat.reduceLT, Int.reduceBEq, Int.reduceBNe, Int.reduceLT, Int.reduceLE, Int.reduceAdd, Int.reduceSub, Int.reduceMul, Int.reduceDiv, Int.reduceMod, Int.reduceNeg, f0]
        refine loop_g (γ := Nat) (fun k st w' => st = [.int .i64 (k : Int)] ∧ Ext w7 w') (fun k => m - k) 0 ⟨rfl, hE8⟩ ?_
        rintro k st w9 next9 ⟨rfl, hE9⟩ hn9
        by_cases hk : k < m
        · have g0 : (k : Int) < (m : Int) := by omega
          have g1 : (0 : Int) ≤ (k : Int) := by omega
          have g2 : (k : Int) < (vis.length : Int) := by omega
          obtain ⟨z, hz⟩ : ∃ z, vis[k]? = some z := ⟨_, List.getElem?_eq_getElem (by omega)⟩
          obtain ⟨b', off, c', cs, hsx, hb', -, -, hj⟩ := (hV7l.ext hE9).at hy
          obtain ⟨b'', off', c'', cs', hsx', hb'', -, -, hj'⟩ := (hV7l.ext hE9).at hz
          cases hsx
          cases hsx'
          rw [hb'] at hb''
          cases hb''
          have p1 : cs[off + m]? = some (.int .i64 y) := by have := hj 0 (.int .i64 y) rfl; simpa using this
          have p2 : cs[off + k]? = some (.int .i64 z) := by have := hj' 0 (.int .i64 z) rfl; simpa using this
          have hyz : (y == z) = false := by
            simp only [beq_eq_false_iff_ne]
            obtain ⟨v1, rfl⟩ := List.getElem?_eq_some_iff.1 hy
            obtain ⟨v2, rfl⟩ := List.getElem?_eq_some_iff.1 hz
            have := List.pairwise_iff_getElem.1 hst.1 k m v2 v1 hk
            exact fun h => this h.symm
          simp -dsimp (disch := first | omega | assumption | ((simp only [World.size_alloc, size_setRow, List.size_toArray, List.length_cons, List.length_nil, cells_agg, len_enc, cells_int, cells_bool, cells_slice, cells_ptr, cells_string]) <;> omega) | ((repeat (first | with_reducible exact Ext.refl _ | with_reducible assumption | with_reducible apply Ext.alloc | with_reducible apply Ext.drew | (with_reducible refine Ext.setRow ?_ (by (try simp only [World.size_alloc]); omega) _) | (with_reducible refine Ext.tr ?_ (by assumption)))); done) | fail) only [go_sem, Nat.reduceAdd, Nat.reduceLeDiff, Nat.reduceMul, Int.reduceToNat, Nat.reduceEqDiff, Nat.reduceLT, Int.reduceBEq, Int.reduceBNe, Int.reduceLT, Int.reduceLE, Int.reduceAdd, Int.reduceSub, Int.reduceMul, Int.reduceDiv, Int.reduceMod, Int.reduceNeg, f0, f1, g0, g1, g2, hb', p1, p2, hyz, Int.toNat_natCast, Nat.mul_one]
          exact hn9 (k + 1) _ _ ⟨by simp, hE9.drew⟩ (by omega)
        · have g0 : ¬ ((k : Int) < (m : Int)) := by omega
          simp -dsimp (disch := first | omega | assumption | ((simp only [World.size_alloc, size_setRow, List.size_toArray, List.length_cons, List.length_nil, cells_agg, len_enc, cells_int, cells_bool, cells_slice, cells_ptr, cells_string]) <;> omega) | ((repeat (first | with_reducible exact Ext.refl _ | with_reducible assumption | with_reducible apply Ext.alloc | with_reducible apply Ext.drew | (with_reducible refine Ext.setRow ?_ (by (try simp only [World.size_alloc]); omega) _) | (with_reducible refine Ext.tr ?_ (by assumption)))); done) | fail) only [go_sem, Nat.reduceAdd, Nat.reduceLeDiff, Nat.reduceMul, Int.reduceToNat, Nat.reduceEqDiff, Nat.reduceLT, Int.reduceBEq, Int.reduceBNe, Int.reduceLT, Int.reduceLE, Int.reduceAdd, Int.reduceSub, Int.reduceMul, Int.reduceDiv, Int.reduceMod, Int.reduceNeg, g0]
          exact hn8 (m + 1) _ _ ⟨by simp, hE9⟩ (by omega)
      · have f0 : ¬ ((m : Int) < (vis.length : Int)) := by omega
        simp -dsimp (disch := first | omega | assumption | ((simp only [World.size_alloc, size_setRow, List.size_toArray, List.length_cons, List.length_nil, cells_agg, len_enc, cells_int, cells_bool, cells_slice, cells_ptr, cells_string]) <;> omega) | ((repeat (first | with_reducible exact Ext.refl _ | with_reducible assumption | with_reducible apply Ext.alloc | with_reducible apply Ext.drew | (with_reducible refine Ext.setRow ?_ (by (try simp only [World.size_alloc]); omega) _) | (with_reducible refine Ext.tr ?_ (by assumption)))); done) | fail) only [go_sem, Nat.reduceAdd, Nat.reduceLeDiff, Nat.reduceMul, Int.reduceToNat, Nat.reduceEqDiff, Nat.reduceLT, Int.reduceBEq, Int.reduceBNe, Int.reduceLT, Int.reduceLE, Int.reduceAdd, Int.reduceSub, Int.reduceMul, Int.reduceDiv, Int.reduceMod, Int.reduceNeg, f0]
        refine callM (rutterlaw15_alive.c w8) ?_
        rintro _ w10 ⟨rfl, hx10⟩
        have hE10 := hE8.tr hx10
        have hb10 : blk w10 gO = _ := hE10.blkS hb7'
        have hcv1 := cv_bsE (s := 24) (d := 9) (hs7.ext hE10)
        have hcv2 := cv_bsE (s := 24) (d := 9) (hS7.ext hE10)
        have kend : (hB.tr hE7).tr hE10 = (hB.tr hE7).tr hE10 := rfl
        by_cases ho1 : oc.kind = 1
        · obtain ⟨on3, on4⟩ := on1 ho1
          have q1 : (oc.kind != 1) = false := by simp [ho1]
          have q2 : (oc.frame == fb) = true := by simp [on4]
          have q3 : oc.stamp ≤ oc.gen := on3
          simp -dsimp (disch := first | omega | assumption | ((simp only [World.size_alloc, size_setRow, List.size_toArray, List.length_cons, List.length_nil, cells_agg, len_enc, cells_int, cells_bool, cells_slice, cells_ptr, cells_string]) <;> omega) | ((repeat (first | with_reducible exact Ext.refl _ | with_reducible assumption | with_reducible apply Ext.alloc | with_reducible apply Ext.drew | (with_reducible refine Ext.setRow ?_ (by (try simp only [World.size_alloc]); omega) _) | (with_reducible refine Ext.tr ?_ (by assumption)))); done) | fail) only [go_sem, Nat.reduceAdd, Nat.reduceLeDiff, Nat.reduceMul, Int.reduceToNat, Nat.reduceEqDiff, Nat.reduceLT, Int.reduceBEq, Int.reduceBNe, Int.reduceLT, Int.reduceLE, Int.reduceAdd, Int.reduceSub, Int.reduceMul, Int.reduceDiv, Int.reduceMod, Int.reduceNeg, hb10, e3, q1, q2, q3, hcv1, hcv2, beq_self_eq_true]
          exact (hB.tr hE7).tr hE10
        · have q1 : (oc.kind != 1) = true := by simp [ho1]
          simp -dsimp (disch := first | omega | assumption | ((simp only [World.size_alloc, size_setRow, List.size_toArray, List.length_cons, List.length_nil, cells_agg, len_enc, cells_int, cells_bool, cells_slice, cells_ptr, cells_string]) <;> omega) | ((repeat (first | with_reducible exact Ext.refl _ | with_reducible assumption | with_reducible apply Ext.alloc | with_reducible apply Ext.drew | (with_reducible refine Ext.setRow ?_ (by (try simp only [World.size_alloc]); omega) _) | (with_reducible refine Ext.tr ?_ (by assumption)))); done) | fail) only [go_sem, Nat.reduceAdd, Nat.reduceLeDiff, Nat.reduceMul, Int.reduceToNat, Nat.reduceEqDiff, Nat.reduceLT, Int.reduceBEq, Int.reduceBNe, Int.reduceLT, Int.reduceLE, Int.reduceAdd, Int.reduceSub, Int.reduceMul, Int.reduceDiv, Int.reduceMod, Int.reduceNeg, hb10, e3, q1, hcv1, hcv2, beq_self_eq_true]
          exact (hB.tr hE7).tr hE10
  · cases r with
    | false =>
      simp -dsimp (disch := first | omega | assumption | ((simp only [World.size_alloc, size_setRow, List.size_toArray, List.length_cons, List.length_nil, cells_agg, len_enc, cells_int, cells_bool, cells_slice, cells_ptr, cells_string]) <;> omega) | ((repeat (first | with_reducible exact Ext.refl _ | with_reducible assumption | with_reducible apply Ext.alloc | with_reducible apply Ext.drew | (with_reducible refine Ext.setRow ?_ (by (try simp only [World.size_alloc]); omega) _) | (with_reducible refine Ext.tr ?_ (by assumption)))); done) | fail) only [go_sem, Nat.reduceAdd, Nat.reduceLeDiff, Nat.reduceMul, Int.reduceToNat, Nat.reduceEqDiff, Nat.reduceLT, Int.reduceBEq, Int.reduceBNe, Int.reduceLT, Int.reduceLE, Int.reduceAdd, Int.reduceSub, Int.reduceMul, Int.reduceDiv, Int.reduceMod, Int.reduceNeg, B1, B2, B3, Int.cast_ofNat_Int]
      exact alive w3 hE3
    | true =>
      have hg' : (((decide (ch < 0) || decide (15 < ch)) || decide (id < 0)) || decide (1099511627776 < id)) = true := by simp at hgo ⊢; omega
      cases g1 : decide (ch < 0) <;> cases g2 : decide (15 < ch) <;> cases g3 : decide (id < 0) <;> cases g4 : decide (1099511627776 < id)
      all_goals first
        | (exfalso; rw [g1, g2, g3, g4] at hg'; cases hg'; done)
        | (simp -dsimp (disch := first | omega | assumption | ((simp only [World.size_alloc, size_setRow, List.size_toArray, List.length_cons, List.length_nil, cells_agg, len_enc, cells_int, cells_bool, cells_slice, cells_ptr, cells_string]) <;> omega) | ((repeat (first | with_reducible exact Ext.refl _ | with_reducible assumption | with_reducible apply Ext.alloc | with_reducible apply Ext.drew | (with_reducible refine Ext.setRow ?_ (by (try simp only [World.size_alloc]); omega) _) | (with_reducible refine Ext.tr ?_ (by assumption)))); done) | fail) only [go_sem, Nat.reduceAdd, Nat.reduceLeDiff, Nat.reduceMul, Int.reduceToNat, Nat.reduceEqDiff, Nat.reduceLT, Int.reduceBEq, Int.reduceBNe, Int.reduceLT, Int.reduceLE, Int.reduceAdd, Int.reduceSub, Int.reduceMul, Int.reduceDiv, Int.reduceMod, Int.reduceNeg, B1, B2, B3, Int.cast_ofNat_Int, g1, g2, g3, g4]
           exact alive w3 hE3)
end Go.Proofs.Ytldjhbmccnbciaa
