/- the laws of the database: acts; one act, on both sides. -/
import Derived.Test.YtbkgijnmckchbaaLsa
namespace Go.Proofs.Ytbkgijnmckchbaa
open Go
set_option linter.unusedSimpArgs false
set_option linter.unusedVariables false
structure ActR where
  kind : Int
  who : Int
  a : Option Addr
  n : Nat
  c : Nat
  l : List (Rw × Int)
def actC : Cdc ActR 3 := ⟨fun x => [.int .u8 x.kind, .int .i64 x.who, .slice x.a x.n x.c], fun _ => rfl, fun e u hu => by simp only [List.mem_cons, List.not_mem_nil, or_false] at hu; rcases hu with rfl | rfl | rfl <;> rfl, by decide⟩
/-- so acts lie in memory -/
def ActsAt (w : World) (v : Value) (l : List ActR) : Prop := Sl actC w v l ∧ ∀ x ∈ l, Sl chgC w (.slice x.a x.n x.c) x.l
theorem ActsAt.ext {w w' : World} {v : Value} {l : List ActR} (h : ActsAt w v l) (hx : Ext w w') : ActsAt w' v l := ⟨h.1.ext hx, fun x hm => (h.2 x hm).ext hx⟩
theorem ActsAt.len {w : World} {v : Value} {l : List ActR} (h : ActsAt w v l) {x : ActR} (hm : x ∈ l) : x.n = x.l.length := by
  obtain ⟨a, c, e⟩ := (h.2 x hm).form
  simp only [Value.slice.injEq] at e
  exact e.2.1
theorem min_r {ts : Array Nat} {t : Nat} {cs : Array Bool} {w : World} {x y : Int} {K : Value → Prop} : wv (bi .min ts t cs #[.int .i64 x, .int .i64 y]) w K = K (.int .i64 (if y < x then y else x)) := wv_of (by simp [bi, builtin, run_min_int2])
theorem rem_r {t : Nat} {k : IntKind} {x y : Int} (hy : y ≠ 0) {K : Value → Prop} : pv (bn .rem t (.int k x) (.int k y)) K = K (.int k (x.tmod y)) := pv_of fun w => by
  simp [bn, vN, binOp, Op.intDiv, hy]
section
variable {w : World}
theorem rutterlaw10_Fits.c {v : Value} {l : List ActR} (h : ActsAt w v l) : Calls Try.prog rutterlaw10_Fits.id #[v] w (retP fun r w' => (∃ b, r = .bool b ∧ (b = true → l.length ≤ 60 ∧ ∀ x ∈ l, x.l.length ≤ 60)) ∧ Ext w w') := by
  obtain ⟨a, c, rfl⟩ := h.1.form
  apply rutterlaw10_Fits.sound
  unfold rutterlaw10_Fits.sh
  refine loop_g (γ := Nat × Nat) (fun g st w' => st = [.int .i64 (g.2 : Int), .int .i64 (g.1 : Int)] ∧ w' = w ∧ g.1 ≤ l.length ∧ g.1 ≤ 61 ∧ g.2 ≤ g.1 * 61 ∧ ∀ x ∈ l.take g.1, min x.l.length 61 ≤ g.2) (fun g => l.length - g.1) (0, 0) ⟨rfl, rfl, by simp, by simp, by simp, by simp⟩ ?_
  rintro ⟨i, n⟩ st w2 next ⟨rfl, rfl, hi1, hi2, hn2, hq⟩ hn
  simp only at hi1 hi2 hn2 hq
  by_cases hi : i < l.length ∧ i ≤ 60
  · have d0 : ((i : Int) < (l.length : Int)) := by omega
    have d00 : ((i : Int) ≤ 60) := by omega
    have d1 : (0 : Int) ≤ (i : Int) := by omega
    have ew : IntKind.i64.wrap ((i : Int) + 1) = ((i + 1 : Nat) : Int) := by rw [wrap_64 (by omega) (by omega)]; simp
    obtain ⟨x, hx⟩ : ∃ x, l[i]? = some x := ⟨_, List.getElem?_eq_getElem hi.1⟩
    obtain ⟨b1, o1, c1, cs1, hs1, hb1, hz1, ha1, hj⟩ := h.1.at hx
    cases hs1
    have p2 : cs1[o1 + i * 3 + 2]? = some (.slice x.a x.n x.c) := hj 2 _ rfl
    have hxl := h.len (List.mem_of_getElem? hx)
    have em : IntKind.i64.wrap ((n : Int) + (if (61 : Int) < (x.n : Int) then 61 else (x.n : Int))) = ((n + min x.l.length 61 : Nat) : Int) := by
      rw [hxl, wrap_64 (by split <;> omega) (by split <;> omega)]
      split <;> omega
    simp -dsimp (disch := first | omega | assumption | ((simp only [World.size_alloc, size_setRow, List.size_toArray, List.length_cons, List.length_nil, cells_agg, len_enc, cells_int, cells_bool, cells_slice, cells_ptr, cells_string]) <;> omega) | ((repeat (first | with_reducible exact Ext.refl _ | with_reducible assumption | with_reducible apply Ext.alloc | with_reducible apply Ext.drew | (with_reducible refine Ext.setRow ?_ (by (try simp only [World.size_alloc]); omega) _) | (with_reducible refine Ext.tr ?_ (by assumption)))); done) | fail) only [go_sem, jn_r, Nat.reduceAdd, Nat.reduceLeDiff, Nat.reduceMul, Int.reduceToNat, Nat.reduceEqDiff, Nat.reduceLT, Int.reduceBEq, Int.reduceBNe, Int.reduceLT, Int.reduceLE, Int.reduceAdd, Int.reduceSub, Int.reduceMul, Int.reduceDiv, Int.reduceMod, Int.reduceNeg, d0, d00, d1, hb1, p2, Int.toNat_natCast, min_r, em, ew]
    refine hn (i + 1, n + min x.l.length 61) _ _ ⟨rfl, rfl, by simp; omega, by simp; omega, by simp only; omega, ?_⟩ (by simp; omega)
    simp only
    rw [take_next hx]
    intro y hy
    rcases List.mem_append.1 hy with h | h
    · have := hq y h
      omega
    · simp at h
      subst h
      omega
  · have d0 : (decide ((i : Int) < (l.length : Int)) && decide ((i : Int) ≤ 60)) = false := by simp; omega
    by_cases e0 : l.length ≤ 60
    · have e1 : (l.length : Int) ≤ 60 := by omega
      simp -dsimp (disch := first | omega | assumption | ((simp only [World.size_alloc, size_setRow, List.size_toArray, List.length_cons, List.length_nil, cells_agg, len_enc, cells_int, cells_bool, cells_slice, cells_ptr, cells_string]) <;> omega) | ((repeat (first | with_reducible exact Ext.refl _ | with_reducible assumption | with_reducible apply Ext.alloc | with_reducible apply Ext.drew | (with_reducible refine Ext.setRow ?_ (by (try simp only [World.size_alloc]); omega) _) | (with_reducible refine Ext.tr ?_ (by assumption)))); done) | fail) only [go_sem, jn_r, Nat.reduceAdd, Nat.reduceLeDiff, Nat.reduceMul, Int.reduceToNat, Nat.reduceEqDiff, Nat.reduceLT, Int.reduceBEq, Int.reduceBNe, Int.reduceLT, Int.reduceLE, Int.reduceAdd, Int.reduceSub, Int.reduceMul, Int.reduceDiv, Int.reduceMod, Int.reduceNeg, d0, e1]
      refine ⟨⟨_, rfl, fun hb => ⟨e0, fun x hx => ?_⟩⟩, .refl _⟩
      rw [List.take_of_length_le (by omega)] at hq
      have := hq x hx
      simp at hb
      omega
    · have e1 : ¬ (l.length : Int) ≤ 60 := by omega
      simp -dsimp (disch := first | omega | assumption | ((simp only [World.size_alloc, size_setRow, List.size_toArray, List.length_cons, List.length_nil, cells_agg, len_enc, cells_int, cells_bool, cells_slice, cells_ptr, cells_string]) <;> omega) | ((repeat (first | with_reducible exact Ext.refl _ | with_reducible assumption | with_reducible apply Ext.alloc | with_reducible apply Ext.drew | (with_reducible refine Ext.setRow ?_ (by (try simp only [World.size_alloc]); omega) _) | (with_reducible refine Ext.tr ?_ (by assumption)))); done) | fail) only [go_sem, jn_r, Nat.reduceAdd, Nat.reduceLeDiff, Nat.reduceMul, Int.reduceToNat, Nat.reduceEqDiff, Nat.reduceLT, Int.reduceBEq, Int.reduceBNe, Int.reduceLT, Int.reduceLE, Int.reduceAdd, Int.reduceSub, Int.reduceMul, Int.reduceDiv, Int.reduceMod, Int.reduceNeg, d0, e1]
      exact ⟨⟨_, rfl, fun hb => by cases hb⟩, .refl _⟩
/-- what an act does -/
def Vw.act (V : Vw) (x : ActR) : Vw × Int := if x.kind.tmod 8 < 2 then V.add x.who else if x.kind.tmod 8 = 2 then V.remove x.who else V.apply x.l
theorem Vw.act_ok {V : Vw} (h : V.Ok) (x : ActR) : (V.act x).1.Ok := by
  unfold Vw.act
  split
  · exact V.add_ok h _
  split
  · exact V.remove_ok h _
  · exact V.apply_ok h _
set_option maxHeartbeats 1000000 in
theorem rutterlaw10_step.c {V : Vw} (hV : V.Ok) {p q : Nat} {B : List Nat} (hp : StAt w p B V) (hq : RefAt w q V) (hqB : q ∉ B) (hB : ∀ b ∈ B, b < w.heap.size) (x : ActR) (hs : Sl chgC w (.slice x.a x.n x.c) x.l) (hl : x.l.length ≤ 1000000) {lo : Nat} (hlo : ∀ b ∈ q :: B, lo ≤ b) (hlw : lo ≤ w.heap.size)
    (hsx : ∀ w', Chg (q :: B) w w' → Sl chgC w' (.slice x.a x.n x.c) x.l) :
    Calls Try.prog rutterlaw10_step.id #[.pointer (some ⟨p, 0, none⟩), .pointer (some ⟨q, 0, none⟩), .agg (actC.enc x).toArray] w (retP fun r w' => r = .bool true ∧ ∃ B', StAt w' p B' (V.act x).1 ∧ RefAt w' q (V.act x).1 ∧ q ∉ B' ∧ (∀ b ∈ B', lo ≤ b ∧ b < w'.heap.size) ∧ Chg (q :: B) w w') := by
  apply rutterlaw10_step.sound
  unfold rutterlaw10_step.sh
  have hx0 : Value.agg (actC.enc x).toArray = .agg #[.int .u8 x.kind, .int .i64 x.who, .slice x.a x.n x.c] := rfl
  have hqw := blk0_lt hq
  rw [hx0]
  have r8 : ∀ {K : Value → Prop}, pv (bn .rem 5 (.int .u8 x.kind) (.int .u8 8)) K = K (.int .u8 (x.kind.tmod 8)) := rem_r (by decide)
  obtain ⟨w0, hw0⟩ : ∃ w0, w.alloc (.cells #[.int .u8 x.kind, .int .i64 x.who, .slice x.a x.n x.c] 40) = w0 := ⟨_, rfl⟩
  have hx : Ext w w0 := by rw [← hw0]; exact (Ext.refl w).alloc _
  have hz0 : w0.heap.size = w.heap.size + 1 := by rw [← hw0]; simp only [World.size_alloc]
  have k0 : blk w0 w.heap.size = some #[.int .u8 x.kind, .int .i64 x.who, .slice x.a x.n x.c] := by rw [← hw0]; exact blk_new rfl
  have hp0 := hp.chg (hx.chg (S := [])) (by simp)
  have hq0 := hq.ext hx
  have hwB : w.heap.size ∉ q :: B := by
    intro h
    rcases List.mem_cons.1 h with h | h
    · omega
    · have := hB _ h; omega
  subst hw0
  unfold Vw.act
  by_cases c1 : x.kind.tmod 8 < 2
  · rw [if_pos c1]
    simp -dsimp (disch := first | omega | assumption | ((simp only [World.size_alloc, size_setRow, List.size_toArray, List.length_cons, List.length_nil, cells_agg, len_enc, cells_int, cells_bool, cells_slice, cells_ptr, cells_string]) <;> omega) | ((repeat (first | with_reducible exact Ext.refl _ | with_reducible assumption | with_reducible apply Ext.alloc | with_reducible apply Ext.drew | (with_reducible refine Ext.setRow ?_ (by (try simp only [World.size_alloc]); omega) _) | (with_reducible refine Ext.tr ?_ (by assumption)))); done) | fail) only [go_sem, jn_r, Nat.reduceAdd, Nat.reduceLeDiff, Nat.reduceMul, Int.reduceToNat, Nat.reduceEqDiff, Nat.reduceLT, Int.reduceBEq, Int.reduceBNe, Int.reduceLT, Int.reduceLE, Int.reduceAdd, Int.reduceSub, Int.reduceMul, Int.reduceDiv, Int.reduceMod, Int.reduceNeg, k0, r8, c1]
    refine callM (store_Store_Add.c hV hp0 x.who) ?_
    rintro _ w1 ⟨rfl, hp1, hC1⟩
    have k1 := hC1.blkS k0 (fun h => hwB (List.mem_cons_of_mem _ h))
    simp -dsimp (disch := first | omega | assumption | ((simp only [World.size_alloc, size_setRow, List.size_toArray, List.length_cons, List.length_nil, cells_agg, len_enc, cells_int, cells_bool, cells_slice, cells_ptr, cells_string]) <;> omega) | ((repeat (first | with_reducible exact Ext.refl _ | with_reducible assumption | with_reducible apply Ext.alloc | with_reducible apply Ext.drew | (with_reducible refine Ext.setRow ?_ (by (try simp only [World.size_alloc]); omega) _) | (with_reducible refine Ext.tr ?_ (by assumption)))); done) | fail) only [go_sem, jn_r, Nat.reduceAdd, Nat.reduceLeDiff, Nat.reduceMul, Int.reduceToNat, Nat.reduceEqDiff, Nat.reduceLT, Int.reduceBEq, Int.reduceBNe, Int.reduceLT, Int.reduceLE, Int.reduceAdd, Int.reduceSub, Int.reduceMul, Int.reduceDiv, Int.reduceMod, Int.reduceNeg, k1]
    refine callM (rutterref10_Store_Add.c hV (hq0.chg hC1 hqB) x.who) ?_
    rintro _ w2 ⟨rfl, hq2, hC2⟩
    have hC : Chg (q :: B) w w2 := ((hx.chg (S := q :: B)).tr hC1 (fun b hb => .inl (List.mem_cons_of_mem _ hb))).tr hC2 (fun b hb => .inl (by simp at hb; simp [hb]))
    have hss := hC.size
    simp -dsimp (disch := first | omega | assumption | ((simp only [World.size_alloc, size_setRow, List.size_toArray, List.length_cons, List.length_nil, cells_agg, len_enc, cells_int, cells_bool, cells_slice, cells_ptr, cells_string]) <;> omega) | ((repeat (first | with_reducible exact Ext.refl _ | with_reducible assumption | with_reducible apply Ext.alloc | with_reducible apply Ext.drew | (with_reducible refine Ext.setRow ?_ (by (try simp only [World.size_alloc]); omega) _) | (with_reducible refine Ext.tr ?_ (by assumption)))); done) | fail) only [go_sem, jn_r, Nat.reduceAdd, Nat.reduceLeDiff, Nat.reduceMul, Int.reduceToNat, Nat.reduceEqDiff, Nat.reduceLT, Int.reduceBEq, Int.reduceBNe, Int.reduceLT, Int.reduceLE, Int.reduceAdd, Int.reduceSub, Int.reduceMul, Int.reduceDiv, Int.reduceMod, Int.reduceNeg]
    refine ⟨?_, B, hp1.chg hC2 (fun b hb h => hqB (by simp at h; rw [← h]; exact hb)), hq2, hqB, fun b hb => ⟨hlo b (List.mem_cons_of_mem _ hb), by have := hB b hb; omega⟩, hC⟩
    simp
  · rw [if_neg c1]
    by_cases c2 : x.kind.tmod 8 = 2
    · have c2' : (x.kind.tmod 8 == 2) = true := by simp [c2]
      rw [if_pos c2]
      simp -dsimp (disch := first | omega | assumption | ((simp only [World.size_alloc, size_setRow, List.size_toArray, List.length_cons, List.length_nil, cells_agg, len_enc, cells_int, cells_bool, cells_slice, cells_ptr, cells_string]) <;> omega) | ((repeat (first | with_reducible exact Ext.refl _ | with_reducible assumption | with_reducible apply Ext.alloc | with_reducible apply Ext.drew | (with_reducible refine Ext.setRow ?_ (by (try simp only [World.size_alloc]); omega) _) | (with_reducible refine Ext.tr ?_ (by assumption)))); done) | fail) only [go_sem, jn_r, Nat.reduceAdd, Nat.reduceLeDiff, Nat.reduceMul, Int.reduceToNat, Nat.reduceEqDiff, Nat.reduceLT, Int.reduceBEq, Int.reduceBNe, Int.reduceLT, Int.reduceLE, Int.reduceAdd, Int.reduceSub, Int.reduceMul, Int.reduceDiv, Int.reduceMod, Int.reduceNeg, k0, r8, c1, c2']
      refine callM (store_Store_Remove.c hV hp0 x.who) ?_
      rintro _ w1 ⟨rfl, hp1, hC1⟩
      have k1 := hC1.blkS k0 (fun h => hwB (List.mem_cons_of_mem _ h))
      simp -dsimp (disch := first | omega | assumption | ((simp only [World.size_alloc, size_setRow, List.size_toArray, List.length_cons, List.length_nil, cells_agg, len_enc, cells_int, cells_bool, cells_slice, cells_ptr, cells_string]) <;> omega) | ((repeat (first | with_reducible exact Ext.refl _ | with_reducible assumption | with_reducible apply Ext.alloc | with_reducible apply Ext.drew | (with_reducible refine Ext.setRow ?_ (by (try simp only [World.size_alloc]); omega) _) | (with_reducible refine Ext.tr ?_ (by assumption)))); done) | fail) only [go_sem, jn_r, Nat.reduceAdd, Nat.reduceLeDiff, Nat.reduceMul, Int.reduceToNat, Nat.reduceEqDiff, Nat.reduceLT, Int.reduceBEq, Int.reduceBNe, Int.reduceLT, Int.reduceLE, Int.reduceAdd, Int.reduceSub, Int.reduceMul, Int.reduceDiv, Int.reduceMod, Int.reduceNeg, k1]
      refine callM (rutterref10_Store_Remove.c hV (hq0.chg hC1 hqB) x.who) ?_
      rintro _ w2 ⟨rfl, hq2, hC2⟩
      have hC : Chg (q :: B) w w2 := ((hx.chg (S := q :: B)).tr hC1 (fun b hb => .inl (List.mem_cons_of_mem _ hb))).tr hC2 (fun b hb => .inl (by simp at hb; simp [hb]))
      have hss := hC.size
      simp -dsimp (disch := first | omega | assumption | ((simp only [World.size_alloc, size_setRow, List.size_toArray, List.length_cons, List.length_nil, cells_agg, len_enc, cells_int, cells_bool, cells_slice, cells_ptr, cells_string]) <;> omega) | ((repeat (first | with_reducible exact Ext.refl _ | with_reducible assumption | with_reducible apply Ext.alloc | with_reducible apply Ext.drew | (with_reducible refine Ext.setRow ?_ (by (try simp only [World.size_alloc]); omega) _) | (with_reducible refine Ext.tr ?_ (by assumption)))); done) | fail) only [go_sem, jn_r, Nat.reduceAdd, Nat.reduceLeDiff, Nat.reduceMul, Int.reduceToNat, Nat.reduceEqDiff, Nat.reduceLT, Int.reduceBEq, Int.reduceBNe, Int.reduceLT, Int.reduceLE, Int.reduceAdd, Int.reduceSub, Int.reduceMul, Int.reduceDiv, Int.reduceMod, Int.reduceNeg]
      refine ⟨?_, B, hp1.chg hC2 (fun b hb h => hqB (by simp at h; rw [← h]; exact hb)), hq2, hqB, fun b hb => ⟨hlo b (List.mem_cons_of_mem _ hb), by have := hB b hb; omega⟩, hC⟩
      simp
    · have c2' : (x.kind.tmod 8 == 2) = false := by simp [c2]
      rw [if_neg c2]
      simp -dsimp (disch := first | omega | assumption | ((simp only [World.size_alloc, size_setRow, List.size_toArray, List.length_cons, List.length_nil, cells_agg, len_enc, cells_int, cells_bool, cells_slice, cells_ptr, cells_string]) <;> omega) | ((repeat (first | with_reducible exact Ext.refl _ | with_reducible assumption | with_reducible apply Ext.alloc | with_reducible apply Ext.drew | (with_reducible refine Ext.setRow ?_ (by (try simp only [World.size_alloc]); omega) _) | (with_reducible refine Ext.tr ?_ (by assumption)))); done) | fail) only [go_sem, jn_r, Nat.reduceAdd, Nat.reduceLeDiff, Nat.reduceMul, Int.reduceToNat, Nat.reduceEqDiff, Nat.reduceLT, Int.reduceBEq, Int.reduceBNe, Int.reduceLT, Int.reduceLE, Int.reduceAdd, Int.reduceSub, Int.reduceMul, Int.reduceDiv, Int.reduceMod, Int.reduceNeg, k0, r8, c1, c2']
      refine callM (store_Store_Apply.c hV hp0 (hs.ext hx) hl) ?_
      rintro _ w1 ⟨rfl, B', hp1, hC1, hB'⟩
      have k1 := hC1.blkS k0 (fun h => hwB (List.mem_cons_of_mem _ h))
      have hCw : Chg (q :: B) w w1 := (hx.chg (S := q :: B)).tr hC1 (fun b hb => .inl (List.mem_cons_of_mem _ hb))
      simp -dsimp (disch := first | omega | assumption | ((simp only [World.size_alloc, size_setRow, List.size_toArray, List.length_cons, List.length_nil, cells_agg, len_enc, cells_int, cells_bool, cells_slice, cells_ptr, cells_string]) <;> omega) | ((repeat (first | with_reducible exact Ext.refl _ | with_reducible assumption | with_reducible apply Ext.alloc | with_reducible apply Ext.drew | (with_reducible refine Ext.setRow ?_ (by (try simp only [World.size_alloc]); omega) _) | (with_reducible refine Ext.tr ?_ (by assumption)))); done) | fail) only [go_sem, jn_r, Nat.reduceAdd, Nat.reduceLeDiff, Nat.reduceMul, Int.reduceToNat, Nat.reduceEqDiff, Nat.reduceLT, Int.reduceBEq, Int.reduceBNe, Int.reduceLT, Int.reduceLE, Int.reduceAdd, Int.reduceSub, Int.reduceMul, Int.reduceDiv, Int.reduceMod, Int.reduceNeg, k1]
      refine callM (rutterlaw10_of.c (hsx w1 hCw) hl) ?_
      rintro v w2 ⟨hO, hx2⟩
      have hqB' : q ∉ B' := fun h => by
        rcases hB' q h with h | ⟨h, -⟩
        · exact hqB h
        · omega
      refine callM (rutterref10_Store_Apply.c hV ((hq0.chg hC1 hqB).ext hx2) hO.sl hl) ?_
      rintro _ w3 ⟨rfl, hq3, hC3⟩
      have hC : Chg (q :: B) w w3 := (hCw.ext hx2).tr hC3 (fun b hb => .inl (by simp at hb; simp [hb]))
      have hss := hC.size
      have hs12 := hx2.size
      have hs23 := hC3.size
      simp -dsimp (disch := first | omega | assumption | ((simp only [World.size_alloc, size_setRow, List.size_toArray, List.length_cons, List.length_nil, cells_agg, len_enc, cells_int, cells_bool, cells_slice, cells_ptr, cells_string]) <;> omega) | ((repeat (first | with_reducible exact Ext.refl _ | with_reducible assumption | with_reducible apply Ext.alloc | with_reducible apply Ext.drew | (with_reducible refine Ext.setRow ?_ (by (try simp only [World.size_alloc]); omega) _) | (with_reducible refine Ext.tr ?_ (by assumption)))); done) | fail) only [go_sem, jn_r, Nat.reduceAdd, Nat.reduceLeDiff, Nat.reduceMul, Int.reduceToNat, Nat.reduceEqDiff, Nat.reduceLT, Int.reduceBEq, Int.reduceBNe, Int.reduceLT, Int.reduceLE, Int.reduceAdd, Int.reduceSub, Int.reduceMul, Int.reduceDiv, Int.reduceMod, Int.reduceNeg]
      refine ⟨?_, B', (hp1.chg (hx2.chg (S := [])) (by simp)).chg hC3 (fun b hb h => hqB' (by simp at h; rw [← h]; exact hb)), hq3, hqB', fun b hb => ?_, hC⟩
      · simp
      · rcases hB' b hb with h | ⟨h, h2⟩
        · exact ⟨hlo b (List.mem_cons_of_mem _ h), by have := hB b h; omega⟩
        · exact ⟨by omega, by omega⟩
end
end Go.Proofs.Ytbkgijnmckchbaa
