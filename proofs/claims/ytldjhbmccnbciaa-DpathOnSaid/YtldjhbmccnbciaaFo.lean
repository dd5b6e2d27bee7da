/- a packet forwarded; the ways of a frame; outcomes, of guests and of tunnels; as the program and as the document has it. -/
import Derived.Test.YtldjhbmccnbciaaFd
namespace Go.Proofs.Ytldjhbmccnbciaa
open Go
set_option linter.unusedSimpArgs false
set_option linter.unusedVariables false
theorem Ow.away {α : Type} {k : Nat} {C : Cdc α k} {w : World} {v : Value} {l : List α} {e lo g : Nat} {cs : Array Value} (h : Ow C e lo w v l) (hg : g < lo) : Ow C e lo (w.setRow g cs) v l :=
  h.chg ((Chg.refl [g] w).setRow (by simp) _) fun b hb hm => by
    have := (h.lt hb).1
    simp at hm
    omega
theorem dpath_Guest_1.c {lo : Nat} (w : World) (A : Act4) (g : Nat) (s : Value) (b : List UInt8) (hg : blk w g = some #[s]) (hs : Sl bytC w s b) (hlo : ∀ b, s.ownBlock = some b → lo ≤ b) :
    Calls Try.prog dpath_Guest_1.id #[A.v, .pointer (some ⟨g, 0, none⟩)] w (retP fun r w' => OcV lo w' r ⟨1, A.port, A.gen, A.gen, b, .zero⟩ ∧ Ext w w') := by
  obtain ⟨a, c, rfl⟩ := hs.form
  have hgl := blk_lt hg
  apply dpath_Guest_1.sound
  unfold dpath_Guest_1.sh Act4.v
  simp -dsimp (disch := first | omega | assumption | ((simp only [World.size_alloc, size_setRow, List.size_toArray, List.length_cons, List.length_nil, cells_agg, len_enc, cells_int, cells_bool, cells_slice, cells_ptr, cells_string]) <;> omega) | ((repeat (first | with_reducible exact Ext.refl _ | with_reducible assumption | with_reducible apply Ext.alloc | with_reducible apply Ext.drew | (with_reducible refine Ext.setRow ?_ (by (try simp only [World.size_alloc]); omega) _) | (with_reducible refine Ext.tr ?_ (by assumption)))); done) | fail) only [go_sem, jn_r, Nat.reduceAdd, Nat.reduceLeDiff, Nat.reduceMul, Int.reduceToNat, Nat.reduceEqDiff, Nat.reduceLT, Int.reduceBEq, Int.reduceBNe, Int.reduceLT, Int.reduceLE, Int.reduceAdd, Int.reduceSub, Int.reduceMul, Int.reduceDiv, Int.reduceMod, Int.reduceNeg, hg]
  exact ⟨⟨a, c, none, 0, rfl, hs.ext (by (repeat (first | with_reducible exact Ext.refl _ | with_reducible assumption | with_reducible apply Ext.alloc | with_reducible apply Ext.drew | (with_reducible refine Ext.setRow ?_ (by (try simp only [World.size_alloc]); omega) _) | (with_reducible refine Ext.tr ?_ (by assumption))))), .nil, fun b hb => by subst hb; exact hlo _ rfl, by simp⟩, by (repeat (first | with_reducible exact Ext.refl _ | with_reducible assumption | with_reducible apply Ext.alloc | with_reducible apply Ext.drew | (with_reducible refine Ext.setRow ?_ (by (try simp only [World.size_alloc]); omega) _) | (with_reducible refine Ext.tr ?_ (by assumption))))⟩
theorem dpath_Guest_2.c {lo : Nat} (w : World) (A : Act4) (g1 g2 g3 : Nat) (s : Value) (b : List UInt8) (c id : Int) (hg1 : blk w g1 = some #[.int .i64 c]) (hg2 : blk w g2 = some #[.int .i64 id]) (hg3 : blk w g3 = some #[s]) (hs : Sl bytC w s b) (hlo : ∀ b, s.ownBlock = some b → lo ≤ b) :
    Calls Try.prog dpath_Guest_2.id #[A.v, .pointer (some ⟨g1, 0, none⟩), .pointer (some ⟨g2, 0, none⟩), .pointer (some ⟨g3, 0, none⟩)] w (retP fun r w' => OcV lo w' r (sendO ⟨1, c, c, A.to, A.port, A.gen, id, b⟩) ∧ Ext w w') := by
  obtain ⟨a, cc, rfl⟩ := hs.form
  have hgl1 := blk_lt hg1
  have hgl2 := blk_lt hg2
  have hgl3 := blk_lt hg3
  apply dpath_Guest_2.sound
  unfold dpath_Guest_2.sh Act4.v
  simp -dsimp (disch := first | omega | assumption | ((simp only [World.size_alloc, size_setRow, List.size_toArray, List.length_cons, List.length_nil, cells_agg, len_enc, cells_int, cells_bool, cells_slice, cells_ptr, cells_string]) <;> omega) | ((repeat (first | with_reducible exact Ext.refl _ | with_reducible assumption | with_reducible apply Ext.alloc | with_reducible apply Ext.drew | (with_reducible refine Ext.setRow ?_ (by (try simp only [World.size_alloc]); omega) _) | (with_reducible refine Ext.tr ?_ (by assumption)))); done) | fail) only [go_sem, jn_r, Nat.reduceAdd, Nat.reduceLeDiff, Nat.reduceMul, Int.reduceToNat, Nat.reduceEqDiff, Nat.reduceLT, Int.reduceBEq, Int.reduceBNe, Int.reduceLT, Int.reduceLE, Int.reduceAdd, Int.reduceSub, Int.reduceMul, Int.reduceDiv, Int.reduceMod, Int.reduceNeg, hg1, hg2, hg3]
  refine callM (dpath_send.c _ _ ⟨1, c, c, A.to, A.port, A.gen, id, b⟩ 0 (lo := lo) ⟨a, cc, rfl, hs.ext (by (repeat (first | with_reducible exact Ext.refl _ | with_reducible assumption | with_reducible apply Ext.alloc | with_reducible apply Ext.drew | (with_reducible refine Ext.setRow ?_ (by (try simp only [World.size_alloc]); omega) _) | (with_reducible refine Ext.tr ?_ (by assumption))))), fun b hb => by subst hb; exact hlo _ rfl⟩) ?_
  rintro v w1 ⟨hO, hx⟩
  rw [if_pos rfl] at hO
  have hz := hx.size
  simp only [World.size_alloc] at hz
  have hx1 : Ext w w1 := Ext.tr (by (repeat (first | with_reducible exact Ext.refl _ | with_reducible assumption | with_reducible apply Ext.alloc | with_reducible apply Ext.drew | (with_reducible refine Ext.setRow ?_ (by (try simp only [World.size_alloc]); omega) _) | (with_reducible refine Ext.tr ?_ (by assumption))))) hx
  have hb2 : blk0 w1 (w.heap.size + 1) = _ := (hx.blk0 (by simp)).trans (blk0_new (by simp))
  have hb2' := blk_of0 hb2
  obtain ⟨a1, c1, a2, c2, rfl, hs1, hs2, hl12⟩ := hO
  unfold Oc.v
  simp -dsimp (disch := first | omega | assumption | ((simp only [World.size_alloc, size_setRow, List.size_toArray, List.length_cons, List.length_nil, cells_agg, len_enc, cells_int, cells_bool, cells_slice, cells_ptr, cells_string]) <;> omega) | ((repeat (first | with_reducible exact Ext.refl _ | with_reducible assumption | with_reducible apply Ext.alloc | with_reducible apply Ext.drew | (with_reducible refine Ext.setRow ?_ (by (try simp only [World.size_alloc]); omega) _) | (with_reducible refine Ext.tr ?_ (by assumption)))); done) | fail) only [go_sem, jn_r, Nat.reduceAdd, Nat.reduceLeDiff, Nat.reduceMul, Int.reduceToNat, Nat.reduceEqDiff, Nat.reduceLT, Int.reduceBEq, Int.reduceBNe, Int.reduceLT, Int.reduceLE, Int.reduceAdd, Int.reduceSub, Int.reduceMul, Int.reduceDiv, Int.reduceMod, Int.reduceNeg, hb2, hb2']
  exact ⟨⟨a1, c1, a2, c2, rfl, hs1.bset hb2' rfl, hs2.bset hb2' rfl, hl12⟩, by (repeat (first | with_reducible exact Ext.refl _ | with_reducible assumption | with_reducible apply Ext.alloc | with_reducible apply Ext.drew | (with_reducible refine Ext.setRow ?_ (by (try simp only [World.size_alloc]); omega) _) | (with_reducible refine Ext.tr ?_ (by assumption))))⟩
def againP (p : Pk) (to gen : Int) : Pk × Int :=
  if p.Rt then if p.kind = 1 then if (⟨2, p.origin, p.to, to, p.port, gen, p.id, p.frame⟩ : Pk).Rt then (⟨2, p.origin, p.to, to, p.port, gen, p.id, p.frame⟩, 0) else (.zero, 1) else (.zero, 8) else (.zero, 1)
theorem tunnel_Again.c {lo : Nat} (w : World) (v : Value) (p : Pk) (to gen : Int) (hp : PkV lo w v p) :
    Calls Try.prog tunnel_Again.id #[v, .int .i64 to, .int .i64 gen] w (retP fun r w' => (∃ v', r = .tuple #[v', .int .i64 (againP p to gen).2] ∧ PkV w.heap.size w' v' (againP p to gen).1) ∧ Ext w w') := by
  obtain ⟨a, c, rfl, hs, -⟩ := hp
  apply tunnel_Again.sound
  unfold tunnel_Again.sh Pk.v
  simp -dsimp (disch := first | omega | assumption | ((simp only [World.size_alloc, size_setRow, List.size_toArray, List.length_cons, List.length_nil, cells_agg, len_enc, cells_int, cells_bool, cells_slice, cells_ptr, cells_string]) <;> omega) | ((repeat (first | with_reducible exact Ext.refl _ | with_reducible assumption | with_reducible apply Ext.alloc | with_reducible apply Ext.drew | (with_reducible refine Ext.setRow ?_ (by (try simp only [World.size_alloc]); omega) _) | (with_reducible refine Ext.tr ?_ (by assumption)))); done) | fail) only [go_sem, jn_r, Nat.reduceAdd, Nat.reduceLeDiff, Nat.reduceMul, Int.reduceToNat, Nat.reduceEqDiff, Nat.reduceLT, Int.reduceBEq, Int.reduceBNe, Int.reduceLT, Int.reduceLE, Int.reduceAdd, Int.reduceSub, Int.reduceMul, Int.reduceDiv, Int.reduceMod, Int.reduceNeg]
  refine callM (tunnel_Right.c _ p a c) ?_
  rintro _ w1 ⟨rfl, hx⟩
  have hz := hx.size
  simp only [World.size_alloc] at hz
  have hx1 : Ext w w1 := Ext.tr (by (repeat (first | with_reducible exact Ext.refl _ | with_reducible assumption | with_reducible apply Ext.alloc | with_reducible apply Ext.drew | (with_reducible refine Ext.setRow ?_ (by (try simp only [World.size_alloc]); omega) _) | (with_reducible refine Ext.tr ?_ (by assumption))))) hx
  unfold againP
  by_cases hR : p.Rt
  · have e1 : decide p.Rt = true := by simp [hR]
    rw [if_pos hR]
    by_cases hk : p.kind = 1
    · have e2 : (p.kind != 1) = false := by simp [hk]
      rw [if_pos hk]
      simp -dsimp (disch := first | omega | assumption | ((simp only [World.size_alloc, size_setRow, List.size_toArray, List.length_cons, List.length_nil, cells_agg, len_enc, cells_int, cells_bool, cells_slice, cells_ptr, cells_string]) <;> omega) | ((repeat (first | with_reducible exact Ext.refl _ | with_reducible assumption | with_reducible apply Ext.alloc | with_reducible apply Ext.drew | (with_reducible refine Ext.setRow ?_ (by (try simp only [World.size_alloc]); omega) _) | (with_reducible refine Ext.tr ?_ (by assumption)))); done) | fail) only [go_sem, jn_r, Nat.reduceAdd, Nat.reduceLeDiff, Nat.reduceMul, Int.reduceToNat, Nat.reduceEqDiff, Nat.reduceLT, Int.reduceBEq, Int.reduceBNe, Int.reduceLT, Int.reduceLE, Int.reduceAdd, Int.reduceSub, Int.reduceMul, Int.reduceDiv, Int.reduceMod, Int.reduceNeg, e1, e2, hx.blk, hx.blk0]
      have hb1 : blk0 w1 w.heap.size = _ := (hx.blk0 (by simp; omega)).trans ((blk0_old (by simp)).trans (blk0_new rfl))
      have hc := fun w' => tunnel_Right.c w' ⟨2, p.origin, p.to, to, p.port, gen, p.id, p.frame⟩ a c
      unfold Pk.v at hc
      simp only at hc
      refine callM (hc _) ?_
      rintro _ w2 ⟨rfl, hx2⟩
      have hz2 := hx2.size
      simp only [size_setRow] at hz2
      have hE2 : Ext w w2 := Ext.tr (by (repeat (first | with_reducible exact Ext.refl _ | with_reducible assumption | with_reducible apply Ext.alloc | with_reducible apply Ext.drew | (with_reducible refine Ext.setRow ?_ (by (try simp only [World.size_alloc]); omega) _) | (with_reducible refine Ext.tr ?_ (by assumption))))) hx2
      by_cases hR2 : (⟨2, p.origin, p.to, to, p.port, gen, p.id, p.frame⟩ : Pk).Rt
      · have e3 : decide (⟨2, p.origin, p.to, to, p.port, gen, p.id, p.frame⟩ : Pk).Rt = true := by simp [hR2]
        rw [if_pos hR2]
        simp -dsimp (disch := first | omega | assumption | ((simp only [World.size_alloc, size_setRow, List.size_toArray, List.length_cons, List.length_nil, cells_agg, len_enc, cells_int, cells_bool, cells_slice, cells_ptr, cells_string]) <;> omega) | ((repeat (first | with_reducible exact Ext.refl _ | with_reducible assumption | with_reducible apply Ext.alloc | with_reducible apply Ext.drew | (with_reducible refine Ext.setRow ?_ (by (try simp only [World.size_alloc]); omega) _) | (with_reducible refine Ext.tr ?_ (by assumption)))); done) | fail) only [go_sem, jn_r, Nat.reduceAdd, Nat.reduceLeDiff, Nat.reduceMul, Int.reduceToNat, Nat.reduceEqDiff, Nat.reduceLT, Int.reduceBEq, Int.reduceBNe, Int.reduceLT, Int.reduceLE, Int.reduceAdd, Int.reduceSub, Int.reduceMul, Int.reduceDiv, Int.reduceMod, Int.reduceNeg, e3, hx2.blk, hx2.blk0, hx.blk, hx.blk0]
        refine callM (bytes_Clone.c _ _ p.frame (hs.ext hE2) (by have := hR.2.2.2.2.2.2.2.1; omega)) ?_
        rintro v3 w3 ⟨hO, hx3⟩
        have hz3 := hx3.size
        have hE3 : Ext w w3 := hE2.tr hx3
        obtain ⟨a3, c3, rfl⟩ := hO.sl.form
        simp -dsimp (disch := first | omega | assumption | ((simp only [World.size_alloc, size_setRow, List.size_toArray, List.length_cons, List.length_nil, cells_agg, len_enc, cells_int, cells_bool, cells_slice, cells_ptr, cells_string]) <;> omega) | ((repeat (first | with_reducible exact Ext.refl _ | with_reducible assumption | with_reducible apply Ext.alloc | with_reducible apply Ext.drew | (with_reducible refine Ext.setRow ?_ (by (try simp only [World.size_alloc]); omega) _) | (with_reducible refine Ext.tr ?_ (by assumption)))); done) | fail) only [go_sem, jn_r, Nat.reduceAdd, Nat.reduceLeDiff, Nat.reduceMul, Int.reduceToNat, Nat.reduceEqDiff, Nat.reduceLT, Int.reduceBEq, Int.reduceBNe, Int.reduceLT, Int.reduceLE, Int.reduceAdd, Int.reduceSub, Int.reduceMul, Int.reduceDiv, Int.reduceMod, Int.reduceNeg, hx3.blk, hx3.blk0, hx2.blk, hx2.blk0, hx.blk, hx.blk0]
        exact ⟨⟨_, rfl, a3, c3, rfl, ((hO.away (by omega)).away (by omega)).sl, fun b hb => by subst hb; have := (hO.lt rfl).1; omega⟩, by (repeat (first | with_reducible exact Ext.refl _ | with_reducible assumption | with_reducible apply Ext.alloc | with_reducible apply Ext.drew | (with_reducible refine Ext.setRow ?_ (by (try simp only [World.size_alloc]); omega) _) | (with_reducible refine Ext.tr ?_ (by assumption))))⟩
      · have e3 : decide (⟨2, p.origin, p.to, to, p.port, gen, p.id, p.frame⟩ : Pk).Rt = false := by simp [hR2]
        rw [if_neg hR2]
        simp -dsimp (disch := first | omega | assumption | ((simp only [World.size_alloc, size_setRow, List.size_toArray, List.length_cons, List.length_nil, cells_agg, len_enc, cells_int, cells_bool, cells_slice, cells_ptr, cells_string]) <;> omega) | ((repeat (first | with_reducible exact Ext.refl _ | with_reducible assumption | with_reducible apply Ext.alloc | with_reducible apply Ext.drew | (with_reducible refine Ext.setRow ?_ (by (try simp only [World.size_alloc]); omega) _) | (with_reducible refine Ext.tr ?_ (by assumption)))); done) | fail) only [go_sem, jn_r, Nat.reduceAdd, Nat.reduceLeDiff, Nat.reduceMul, Int.reduceToNat, Nat.reduceEqDiff, Nat.reduceLT, Int.reduceBEq, Int.reduceBNe, Int.reduceLT, Int.reduceLE, Int.reduceAdd, Int.reduceSub, Int.reduceMul, Int.reduceDiv, Int.reduceMod, Int.reduceNeg, e3, hx2.blk, hx2.blk0, hx.blk, hx.blk0]
        exact ⟨⟨_, rfl, PkV.zero _⟩, by (repeat (first | with_reducible exact Ext.refl _ | with_reducible assumption | with_reducible apply Ext.alloc | with_reducible apply Ext.drew | (with_reducible refine Ext.setRow ?_ (by (try simp only [World.size_alloc]); omega) _) | (with_reducible refine Ext.tr ?_ (by assumption))))⟩
    · have e2 : (p.kind != 1) = true := by simp [hk]
      rw [if_neg hk]
      simp -dsimp (disch := first | omega | assumption | ((simp only [World.size_alloc, size_setRow, List.size_toArray, List.length_cons, List.length_nil, cells_agg, len_enc, cells_int, cells_bool, cells_slice, cells_ptr, cells_string]) <;> omega) | ((repeat (first | with_reducible exact Ext.refl _ | with_reducible assumption | with_reducible apply Ext.alloc | with_reducible apply Ext.drew | (with_reducible refine Ext.setRow ?_ (by (try simp only [World.size_alloc]); omega) _) | (with_reducible refine Ext.tr ?_ (by assumption)))); done) | fail) only [go_sem, jn_r, Nat.reduceAdd, Nat.reduceLeDiff, Nat.reduceMul, Int.reduceToNat, Nat.reduceEqDiff, Nat.reduceLT, Int.reduceBEq, Int.reduceBNe, Int.reduceLT, Int.reduceLE, Int.reduceAdd, Int.reduceSub, Int.reduceMul, Int.reduceDiv, Int.reduceMod, Int.reduceNeg, e1, e2, hx.blk, hx.blk0]
      exact ⟨⟨_, rfl, PkV.zero _⟩, by (repeat (first | with_reducible exact Ext.refl _ | with_reducible assumption | with_reducible apply Ext.alloc | with_reducible apply Ext.drew | (with_reducible refine Ext.setRow ?_ (by (try simp only [World.size_alloc]); omega) _) | (with_reducible refine Ext.tr ?_ (by assumption))))⟩
  · have e1 : decide p.Rt = false := by simp [hR]
    rw [if_neg hR]
    simp -dsimp (disch := first | omega | assumption | ((simp only [World.size_alloc, size_setRow, List.size_toArray, List.length_cons, List.length_nil, cells_agg, len_enc, cells_int, cells_bool, cells_slice, cells_ptr, cells_string]) <;> omega) | ((repeat (first | with_reducible exact Ext.refl _ | with_reducible assumption | with_reducible apply Ext.alloc | with_reducible apply Ext.drew | (with_reducible refine Ext.setRow ?_ (by (try simp only [World.size_alloc]); omega) _) | (with_reducible refine Ext.tr ?_ (by assumption)))); done) | fail) only [go_sem, jn_r, Nat.reduceAdd, Nat.reduceLeDiff, Nat.reduceMul, Int.reduceToNat, Nat.reduceEqDiff, Nat.reduceLT, Int.reduceBEq, Int.reduceBNe, Int.reduceLT, Int.reduceLE, Int.reduceAdd, Int.reduceSub, Int.reduceMul, Int.reduceDiv, Int.reduceMod, Int.reduceNeg, e1, hx.blk, hx.blk0]
    exact ⟨⟨_, rfl, PkV.zero _⟩, by (repeat (first | with_reducible exact Ext.refl _ | with_reducible assumption | with_reducible apply Ext.alloc | with_reducible apply Ext.drew | (with_reducible refine Ext.setRow ?_ (by (try simp only [World.size_alloc]); omega) _) | (with_reducible refine Ext.tr ?_ (by assumption))))⟩
theorem rutterref05_Again.c {lo : Nat} (w : World) (v : Value) (p : Pk) (to gen : Int) (hp : PkV lo w v p) :
    Calls Try.prog rutterref05_Again.id #[v, .int .i64 to, .int .i64 gen] w (retP fun r w' => (∃ v', r = .tuple #[v', .int .i64 (againP p to gen).2] ∧ PkV lo w' v' (againP p to gen).1) ∧ Ext w w') := by
  obtain ⟨a, c, rfl, hs, hlo⟩ := hp
  apply rutterref05_Again.sound
  unfold rutterref05_Again.sh Pk.v
  simp -dsimp (disch := first | omega | assumption | ((simp only [World.size_alloc, size_setRow, List.size_toArray, List.length_cons, List.length_nil, cells_agg, len_enc, cells_int, cells_bool, cells_slice, cells_ptr, cells_string]) <;> omega) | ((repeat (first | with_reducible exact Ext.refl _ | with_reducible assumption | with_reducible apply Ext.alloc | with_reducible apply Ext.drew | (with_reducible refine Ext.setRow ?_ (by (try simp only [World.size_alloc]); omega) _) | (with_reducible refine Ext.tr ?_ (by assumption)))); done) | fail) only [go_sem, jn_r, Nat.reduceAdd, Nat.reduceLeDiff, Nat.reduceMul, Int.reduceToNat, Nat.reduceEqDiff, Nat.reduceLT, Int.reduceBEq, Int.reduceBNe, Int.reduceLT, Int.reduceLE, Int.reduceAdd, Int.reduceSub, Int.reduceMul, Int.reduceDiv, Int.reduceMod, Int.reduceNeg]
  refine callM (rutterref05_Right.c _ p a c) ?_
  rintro _ w1 ⟨rfl, hx⟩
  have hz := hx.size
  simp only [World.size_alloc] at hz
  have hx1 : Ext w w1 := Ext.tr (by (repeat (first | with_reducible exact Ext.refl _ | with_reducible assumption | with_reducible apply Ext.alloc | with_reducible apply Ext.drew | (with_reducible refine Ext.setRow ?_ (by (try simp only [World.size_alloc]); omega) _) | (with_reducible refine Ext.tr ?_ (by assumption))))) hx
  unfold againP
  by_cases hR : p.Rt
  · have e1 : decide p.Rt = true := by simp [hR]
    rw [if_pos hR]
    by_cases hk : p.kind = 1
    · have e2 : (p.kind == 2) = false := by simp [hk]
      rw [if_pos hk]
      simp -dsimp (disch := first | omega | assumption | ((simp only [World.size_alloc, size_setRow, List.size_toArray, List.length_cons, List.length_nil, cells_agg, len_enc, cells_int, cells_bool, cells_slice, cells_ptr, cells_string]) <;> omega) | ((repeat (first | with_reducible exact Ext.refl _ | with_reducible assumption | with_reducible apply Ext.alloc | with_reducible apply Ext.drew | (with_reducible refine Ext.setRow ?_ (by (try simp only [World.size_alloc]); omega) _) | (with_reducible refine Ext.tr ?_ (by assumption)))); done) | fail) only [go_sem, jn_r, Nat.reduceAdd, Nat.reduceLeDiff, Nat.reduceMul, Int.reduceToNat, Nat.reduceEqDiff, Nat.reduceLT, Int.reduceBEq, Int.reduceBNe, Int.reduceLT, Int.reduceLE, Int.reduceAdd, Int.reduceSub, Int.reduceMul, Int.reduceDiv, Int.reduceMod, Int.reduceNeg, e1, e2, hx.blk, hx.blk0]
      have hc := fun w' => rutterref05_Right.c w' ⟨2, p.origin, p.to, to, p.port, gen, p.id, p.frame⟩ a c
      unfold Pk.v at hc
      simp only at hc
      refine callM (hc _) ?_
      rintro _ w2 ⟨rfl, hx2⟩
      have hz2 := hx2.size
      simp only [size_setRow, World.size_alloc] at hz2
      have hE2 : Ext w w2 := Ext.tr (by (repeat (first | with_reducible exact Ext.refl _ | with_reducible assumption | with_reducible apply Ext.alloc | with_reducible apply Ext.drew | (with_reducible refine Ext.setRow ?_ (by (try simp only [World.size_alloc]); omega) _) | (with_reducible refine Ext.tr ?_ (by assumption))))) hx2
      by_cases hR2 : (⟨2, p.origin, p.to, to, p.port, gen, p.id, p.frame⟩ : Pk).Rt
      · have e3 : decide (⟨2, p.origin, p.to, to, p.port, gen, p.id, p.frame⟩ : Pk).Rt = true := by simp [hR2]
        rw [if_pos hR2]
        simp -dsimp (disch := first | omega | assumption | ((simp only [World.size_alloc, size_setRow, List.size_toArray, List.length_cons, List.length_nil, cells_agg, len_enc, cells_int, cells_bool, cells_slice, cells_ptr, cells_string]) <;> omega) | ((repeat (first | with_reducible exact Ext.refl _ | with_reducible assumption | with_reducible apply Ext.alloc | with_reducible apply Ext.drew | (with_reducible refine Ext.setRow ?_ (by (try simp only [World.size_alloc]); omega) _) | (with_reducible refine Ext.tr ?_ (by assumption)))); done) | fail) only [go_sem, jn_r, Nat.reduceAdd, Nat.reduceLeDiff, Nat.reduceMul, Int.reduceToNat, Nat.reduceEqDiff, Nat.reduceLT, Int.reduceBEq, Int.reduceBNe, Int.reduceLT, Int.reduceLE, Int.reduceAdd, Int.reduceSub, Int.reduceMul, Int.reduceDiv, Int.reduceMod, Int.reduceNeg, e3, hx2.blk, hx2.blk0, hx.blk, hx.blk0]
        exact ⟨⟨_, rfl, a, c, rfl, hs.ext (by (repeat (first | with_reducible exact Ext.refl _ | with_reducible assumption | with_reducible apply Ext.alloc | with_reducible apply Ext.drew | (with_reducible refine Ext.setRow ?_ (by (try simp only [World.size_alloc]); omega) _) | (with_reducible refine Ext.tr ?_ (by assumption))))), hlo⟩, by (repeat (first | with_reducible exact Ext.refl _ | with_reducible assumption | with_reducible apply Ext.alloc | with_reducible apply Ext.drew | (with_reducible refine Ext.setRow ?_ (by (try simp only [World.size_alloc]); omega) _) | (with_reducible refine Ext.tr ?_ (by assumption))))⟩
      · have e3 : decide (⟨2, p.origin, p.to, to, p.port, gen, p.id, p.frame⟩ : Pk).Rt = false := by simp [hR2]
        rw [if_neg hR2]
        simp -dsimp (disch := first | omega | assumption | ((simp only [World.size_alloc, size_setRow, List.size_toArray, List.length_cons, List.length_nil, cells_agg, len_enc, cells_int, cells_bool, cells_slice, cells_ptr, cells_string]) <;> omega) | ((repeat (first | with_reducible exact Ext.refl _ | with_reducible assumption | with_reducible apply Ext.alloc | with_reducible apply Ext.drew | (with_reducible refine Ext.setRow ?_ (by (try simp only [World.size_alloc]); omega) _) | (with_reducible refine Ext.tr ?_ (by assumption)))); done) | fail) only [go_sem, jn_r, Nat.reduceAdd, Nat.reduceLeDiff, Nat.reduceMul, Int.reduceToNat, Nat.reduceEqDiff, Nat.reduceLT, Int.reduceBEq, Int.reduceBNe, Int.reduceLT, Int.reduceLE, Int.reduceAdd, Int.reduceSub, Int.reduceMul, Int.reduceDiv, Int.reduceMod, Int.reduceNeg, e3, hx2.blk, hx2.blk0, hx.blk, hx.blk0]
        exact ⟨⟨_, rfl, PkV.zero _⟩, by (repeat (first | with_reducible exact Ext.refl _ | with_reducible assumption | with_reducible apply Ext.alloc | with_reducible apply Ext.drew | (with_reducible refine Ext.setRow ?_ (by (try simp only [World.size_alloc]); omega) _) | (with_reducible refine Ext.tr ?_ (by assumption))))⟩
    · have hk2 : p.kind = 2 := by have := hR.2.2.2.2.2.2.2.2; omega
      have e2 : (p.kind == 2) = true := by simp [hk2]
      rw [if_neg hk]
      simp -dsimp (disch := first | omega | assumption | ((simp only [World.size_alloc, size_setRow, List.size_toArray, List.length_cons, List.length_nil, cells_agg, len_enc, cells_int, cells_bool, cells_slice, cells_ptr, cells_string]) <;> omega) | ((repeat (first | with_reducible exact Ext.refl _ | with_reducible assumption | with_reducible apply Ext.alloc | with_reducible apply Ext.drew | (with_reducible refine Ext.setRow ?_ (by (try simp only [World.size_alloc]); omega) _) | (with_reducible refine Ext.tr ?_ (by assumption)))); done) | fail) only [go_sem, jn_r, Nat.reduceAdd, Nat.reduceLeDiff, Nat.reduceMul, Int.reduceToNat, Nat.reduceEqDiff, Nat.reduceLT, Int.reduceBEq, Int.reduceBNe, Int.reduceLT, Int.reduceLE, Int.reduceAdd, Int.reduceSub, Int.reduceMul, Int.reduceDiv, Int.reduceMod, Int.reduceNeg, e1, e2, hx.blk, hx.blk0]
      exact ⟨⟨_, rfl, PkV.zero _⟩, by (repeat (first | with_reducible exact Ext.refl _ | with_reducible assumption | with_reducible apply Ext.alloc | with_reducible apply Ext.drew | (with_reducible refine Ext.setRow ?_ (by (try simp only [World.size_alloc]); omega) _) | (with_reducible refine Ext.tr ?_ (by assumption))))⟩
  · have e1 : decide p.Rt = false := by simp [hR]
    rw [if_neg hR]
    simp -dsimp (disch := first | omega | assumption | ((simp only [World.size_alloc, size_setRow, List.size_toArray, List.length_cons, List.length_nil, cells_agg, len_enc, cells_int, cells_bool, cells_slice, cells_ptr, cells_string]) <;> omega) | ((repeat (first | with_reducible exact Ext.refl _ | with_reducible assumption | with_reducible apply Ext.alloc | with_reducible apply Ext.drew | (with_reducible refine Ext.setRow ?_ (by (try simp only [World.size_alloc]); omega) _) | (with_reducible refine Ext.tr ?_ (by assumption)))); done) | fail) only [go_sem, jn_r, Nat.reduceAdd, Nat.reduceLeDiff, Nat.reduceMul, Int.reduceToNat, Nat.reduceEqDiff, Nat.reduceLT, Int.reduceBEq, Int.reduceBNe, Int.reduceLT, Int.reduceLE, Int.reduceAdd, Int.reduceSub, Int.reduceMul, Int.reduceDiv, Int.reduceMod, Int.reduceNeg, e1, hx.blk, hx.blk0]
    exact ⟨⟨_, rfl, PkV.zero _⟩, by (repeat (first | with_reducible exact Ext.refl _ | with_reducible assumption | with_reducible apply Ext.alloc | with_reducible apply Ext.drew | (with_reducible refine Ext.setRow ?_ (by (try simp only [World.size_alloc]); omega) _) | (with_reducible refine Ext.tr ?_ (by assumption))))⟩
theorem dpath_Tunnel_1.c (w : World) (A : Act4) (g : Nat) (p : Pk) (a : Option Addr) (c : Nat) (hg : blk w g = some #[.int .i64 p.kind, .int .i64 p.origin, .int .i64 p.frm, .int .i64 p.to, .int .i64 p.port, .int .i64 p.gen, .int .i64 p.id, .slice a p.frame.length c]) (hs : Sl bytC w (.slice a p.frame.length c) p.frame) (hl : p.frame.length ≤ 100000) :
    Calls Try.prog dpath_Tunnel_1.id #[A.v, .pointer (some ⟨g, 0, none⟩)] w (retP fun r w' => OcV w.heap.size w' r ⟨1, A.port, A.gen, p.gen, p.frame, .zero⟩ ∧ Ext w w') := by
  have hgl := blk_lt hg
  apply dpath_Tunnel_1.sound
  unfold dpath_Tunnel_1.sh Act4.v
  simp -dsimp (disch := first | omega | assumption | ((simp only [World.size_alloc, size_setRow, List.size_toArray, List.length_cons, List.length_nil, cells_agg, len_enc, cells_int, cells_bool, cells_slice, cells_ptr, cells_string]) <;> omega) | ((repeat (first | with_reducible exact Ext.refl _ | with_reducible assumption | with_reducible apply Ext.alloc | with_reducible apply Ext.drew | (with_reducible refine Ext.setRow ?_ (by (try simp only [World.size_alloc]); omega) _) | (with_reducible refine Ext.tr ?_ (by assumption)))); done) | fail) only [go_sem, jn_r, Nat.reduceAdd, Nat.reduceLeDiff, Nat.reduceMul, Int.reduceToNat, Nat.reduceEqDiff, Nat.reduceLT, Int.reduceBEq, Int.reduceBNe, Int.reduceLT, Int.reduceLE, Int.reduceAdd, Int.reduceSub, Int.reduceMul, Int.reduceDiv, Int.reduceMod, Int.reduceNeg, hg]
  refine callM (bytes_Clone.c _ _ p.frame (hs.ext (by (repeat (first | with_reducible exact Ext.refl _ | with_reducible assumption | with_reducible apply Ext.alloc | with_reducible apply Ext.drew | (with_reducible refine Ext.setRow ?_ (by (try simp only [World.size_alloc]); omega) _) | (with_reducible refine Ext.tr ?_ (by assumption)))))) (by omega)) ?_
  rintro v3 w3 ⟨hO, hx3⟩
  have hz3 := hx3.size
  simp only [World.size_alloc, show ∀ w : World, w.drew.heap = w.heap from fun _ => rfl] at hz3
  have hE3 : Ext w w3 := Ext.tr (by (repeat (first | with_reducible exact Ext.refl _ | with_reducible assumption | with_reducible apply Ext.alloc | with_reducible apply Ext.drew | (with_reducible refine Ext.setRow ?_ (by (try simp only [World.size_alloc]); omega) _) | (with_reducible refine Ext.tr ?_ (by assumption))))) hx3
  obtain ⟨a3, c3, rfl⟩ := hO.sl.form
  have hb := hx3.blk (b := g) (by simp only [World.size_alloc, show ∀ w : World, w.drew.heap = w.heap from fun _ => rfl]; omega)
  have hb1 := hx3.blk (b := w.heap.size) (by simp only [World.size_alloc, show ∀ w : World, w.drew.heap = w.heap from fun _ => rfl]; omega)
  have hb2 := hx3.blk0 (b := w.heap.size + 1) (by simp only [World.size_alloc, show ∀ w : World, w.drew.heap = w.heap from fun _ => rfl]; omega)
  have hb3 := hx3.blk (b := w.heap.size + 1) (by simp only [World.size_alloc, show ∀ w : World, w.drew.heap = w.heap from fun _ => rfl]; omega)
  simp -dsimp (disch := first | omega | assumption | ((simp only [World.size_alloc, size_setRow, List.size_toArray, List.length_cons, List.length_nil, cells_agg, len_enc, cells_int, cells_bool, cells_slice, cells_ptr, cells_string]) <;> omega) | ((repeat (first | with_reducible exact Ext.refl _ | with_reducible assumption | with_reducible apply Ext.alloc | with_reducible apply Ext.drew | (with_reducible refine Ext.setRow ?_ (by (try simp only [World.size_alloc]); omega) _) | (with_reducible refine Ext.tr ?_ (by assumption)))); done) | fail) only [go_sem, jn_r, Nat.reduceAdd, Nat.reduceLeDiff, Nat.reduceMul, Int.reduceToNat, Nat.reduceEqDiff, Nat.reduceLT, Int.reduceBEq, Int.reduceBNe, Int.reduceLT, Int.reduceLE, Int.reduceAdd, Int.reduceSub, Int.reduceMul, Int.reduceDiv, Int.reduceMod, Int.reduceNeg, hb, hb1, hb2, hb3, hg]
  refine ⟨⟨a3, c3, none, 0, rfl, (hO.away (by simp only [World.size_alloc, show ∀ w : World, w.drew.heap = w.heap from fun _ => rfl]; omega)).sl, .nil, fun b hb => by subst hb; have := (hO.lt rfl).1; simp only [World.size_alloc, show ∀ w : World, w.drew.heap = w.heap from fun _ => rfl] at this; omega, by simp⟩, by (repeat (first | with_reducible exact Ext.refl _ | with_reducible assumption | with_reducible apply Ext.alloc | with_reducible apply Ext.drew | (with_reducible refine Ext.setRow ?_ (by (try simp only [World.size_alloc]); omega) _) | (with_reducible refine Ext.tr ?_ (by assumption))))⟩
theorem dpath_Tunnel_2.c (w : World) (A : Act4) (g : Nat) (p : Pk) (a : Option Addr) (c : Nat) (hg : blk w g = some #[.int .i64 p.kind, .int .i64 p.origin, .int .i64 p.frm, .int .i64 p.to, .int .i64 p.port, .int .i64 p.gen, .int .i64 p.id, .slice a p.frame.length c]) (hs : Sl bytC w (.slice a p.frame.length c) p.frame) :
    Calls Try.prog dpath_Tunnel_2.id #[A.v, .pointer (some ⟨g, 0, none⟩)] w (retP fun r w' => OcV w.heap.size w' r (if (againP p A.to A.gen).2 = 0 then sendO (againP p A.to A.gen).1 else .zero) ∧ Ext w w') := by
  have hgl := blk_lt hg
  apply dpath_Tunnel_2.sound
  unfold dpath_Tunnel_2.sh Act4.v
  simp -dsimp (disch := first | omega | assumption | ((simp only [World.size_alloc, size_setRow, List.size_toArray, List.length_cons, List.length_nil, cells_agg, len_enc, cells_int, cells_bool, cells_slice, cells_ptr, cells_string]) <;> omega) | ((repeat (first | with_reducible exact Ext.refl _ | with_reducible assumption | with_reducible apply Ext.alloc | with_reducible apply Ext.drew | (with_reducible refine Ext.setRow ?_ (by (try simp only [World.size_alloc]); omega) _) | (with_reducible refine Ext.tr ?_ (by assumption)))); done) | fail) only [go_sem, jn_r, Nat.reduceAdd, Nat.reduceLeDiff, Nat.reduceMul, Int.reduceToNat, Nat.reduceEqDiff, Nat.reduceLT, Int.reduceBEq, Int.reduceBNe, Int.reduceLT, Int.reduceLE, Int.reduceAdd, Int.reduceSub, Int.reduceMul, Int.reduceDiv, Int.reduceMod, Int.reduceNeg, hg]
  refine callM (tunnel_Again.c _ _ p A.to A.gen (lo := 0) ⟨a, c, rfl, hs.ext (by (repeat (first | with_reducible exact Ext.refl _ | with_reducible assumption | with_reducible apply Ext.alloc | with_reducible apply Ext.drew | (with_reducible refine Ext.setRow ?_ (by (try simp only [World.size_alloc]); omega) _) | (with_reducible refine Ext.tr ?_ (by assumption))))), by simp⟩) ?_
  rintro _ w1 ⟨⟨v1, rfl, hP⟩, hx⟩
  have hz := hx.size
  simp only [World.size_alloc] at hz
  have hx1 : Ext w w1 := Ext.tr (by (repeat (first | with_reducible exact Ext.refl _ | with_reducible assumption | with_reducible apply Ext.alloc | with_reducible apply Ext.drew | (with_reducible refine Ext.setRow ?_ (by (try simp only [World.size_alloc]); omega) _) | (with_reducible refine Ext.tr ?_ (by assumption))))) hx
  simp -dsimp (disch := first | omega | assumption | ((simp only [World.size_alloc, size_setRow, List.size_toArray, List.length_cons, List.length_nil, cells_agg, len_enc, cells_int, cells_bool, cells_slice, cells_ptr, cells_string]) <;> omega) | ((repeat (first | with_reducible exact Ext.refl _ | with_reducible assumption | with_reducible apply Ext.alloc | with_reducible apply Ext.drew | (with_reducible refine Ext.setRow ?_ (by (try simp only [World.size_alloc]); omega) _) | (with_reducible refine Ext.tr ?_ (by assumption)))); done) | fail) only [go_sem, jn_r, Nat.reduceAdd, Nat.reduceLeDiff, Nat.reduceMul, Int.reduceToNat, Nat.reduceEqDiff, Nat.reduceLT, Int.reduceBEq, Int.reduceBNe, Int.reduceLT, Int.reduceLE, Int.reduceAdd, Int.reduceSub, Int.reduceMul, Int.reduceDiv, Int.reduceMod, Int.reduceNeg]
  refine callM (dpath_send.c (lo := w.heap.size) _ _ _ _ (hP.mono (by simp only [World.size_alloc]; omega))) ?_
  rintro v2 w2 ⟨hO, hx2⟩
  have hz2 := hx2.size
  have hE2 : Ext w w2 := hx1.tr hx2
  have hb2 : blk0 w2 (w.heap.size + 1) = _ := (hx2.blk0 (by omega)).trans ((hx.blk0 (by simp)).trans (blk0_new (by simp)))
  have hb2' := blk_of0 hb2
  obtain ⟨a1, c1, a2, c2, rfl, hs1, hs2, hl12⟩ := hO
  unfold Oc.v
  simp -dsimp (disch := first | omega | assumption | ((simp only [World.size_alloc, size_setRow, List.size_toArray, List.length_cons, List.length_nil, cells_agg, len_enc, cells_int, cells_bool, cells_slice, cells_ptr, cells_string]) <;> omega) | ((repeat (first | with_reducible exact Ext.refl _ | with_reducible assumption | with_reducible apply Ext.alloc | with_reducible apply Ext.drew | (with_reducible refine Ext.setRow ?_ (by (try simp only [World.size_alloc]); omega) _) | (with_reducible refine Ext.tr ?_ (by assumption)))); done) | fail) only [go_sem, jn_r, Nat.reduceAdd, Nat.reduceLeDiff, Nat.reduceMul, Int.reduceToNat, Nat.reduceEqDiff, Nat.reduceLT, Int.reduceBEq, Int.reduceBNe, Int.reduceLT, Int.reduceLE, Int.reduceAdd, Int.reduceSub, Int.reduceMul, Int.reduceDiv, Int.reduceMod, Int.reduceNeg, hb2, hb2']
  exact ⟨⟨a1, c1, a2, c2, rfl, hs1.bset hb2' rfl, hs2.bset hb2' rfl, hl12⟩, by (repeat (first | with_reducible exact Ext.refl _ | with_reducible assumption | with_reducible apply Ext.alloc | with_reducible apply Ext.drew | (with_reducible refine Ext.setRow ?_ (by (try simp only [World.size_alloc]); omega) _) | (with_reducible refine Ext.tr ?_ (by assumption))))⟩
end Go.Proofs.Ytldjhbmccnbciaa
