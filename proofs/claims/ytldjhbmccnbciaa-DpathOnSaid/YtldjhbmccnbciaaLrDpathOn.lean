/- For any three lists of rows, frame, chassis and number of a packet the law DpathOn answers true, and what came in reads as it did; no condition. -/
import Derived.Test.YtldjhbmccnbciaaFu
import Derived.Test.YtldjhbmccnbciaaLw
namespace Go.Proofs.Ytldjhbmccnbciaa
open Go Go.ChangeShapes Go.WideShapes Go.ChangeAt Go.RowKit
set_option linter.unusedVariables false
set_option maxRecDepth 100000 in
theorem dpathOn_lifted (os : Os) (started : os.Started) (H : Type) (enc : TypeId × Value → H) :
    ReturnsInHanded {} Try.checked os 5 .any (Rows.dpathOnSpec.pre6 enc Try.prog Try.f5 Rows.dpathOnRow.domain false) (Rows.dpathOnSpec.post enc Try.prog Try.f5 false true false false) := by
  refine returnsInHanded_of_change_sized (C := Try.checked) lawOwn started (by kernel_rfl) Try.func5
    (ChangeSpec.witness6 (enc := enc) (C := Try.checked) false ⟨#[], #[.agg #[(.slice none 0 0), (.slice none 0 0), (.slice none 0 0)], .agg #[(.int .u64 0), (.int .u64 0), (.int .i64 0), (.slice none 0 0)], .agg #[(.int .i64 0), (.int .i64 0)]], []⟩ 8 (by kernel_rfl) (by kernel_rfl) (by kernel_rfl) (by kernel_rfl)) ?_
  intro W base args ds gs before hval0 hW hcnd hsz0 _
  have hval : ∀ (j : Nat) t v, Try.f5.params[j]? = some t → args[j]? = some v → Value.okWide Try.prog W .any base t v := hval0
  have hW' := hW
  obtain ⟨p, q, hA0, hV, rfl, hfz, hnd⟩ := hW
  have hA : DataW.TrodAll enc Try.prog W 0 (fun _ => true) true Try.f5.params.toList args.toList ds p := hA0
  rw [Try.params5] at hA hval
  obtain ⟨v0, vs0, d0, ds0, p0, q0, hargs, rfl, rfl, h0, r0⟩ := trodAll_cons hA
  obtain ⟨v1, vs1, d1, ds1, p1, q1, rfl, rfl, rfl, h1, r1⟩ := trodAll_cons r0
  obtain ⟨v2, vs2, d2, ds2, p2, q2, rfl, rfl, rfl, h2, r2⟩ := trodAll_cons r1
  obtain ⟨rfl, rfl, rfl⟩ := trodAll_nil r2
  obtain rfl : args = #[v0, v1, v2] := by cases args; simp_all
  obtain ⟨rfl, rfl⟩ := trodVars_none hV
  have lt0 : ∀ x ∈ p0, x.block < W.heap.size := by obtain ⟨m, hm⟩ := h0; exact DataW.trod_lt m _ _ _ hm
  have T0 : Tr W 57 v0.cells.toList := by obtain ⟨m, hm⟩ := h0; exact ⟨H, enc, _, _, _, m, _, hm⟩
  obtain ⟨cs0, rfl⟩ := okWide_cells (t := 57) (by kernel_rfl) (hval 0 57 v0 rfl rfl)
  have g0 := leaves_tr W 9 57 [55, 55, 55] _ (by kernel_rfl) T0
  obtain ⟨x0_0, _, e0, t0_0, g0⟩ := g0.uncons
  obtain ⟨x0_1, _, rfl, t0_1, g0⟩ := g0.uncons
  obtain ⟨x0_2, _, rfl, t0_2, g0⟩ := g0.uncons
  obtain rfl := g0.nil
  obtain rfl : cs0 = #[x0_0, x0_1, x0_2] := Array.ext' e0
  have lt1 : ∀ x ∈ p1, x.block < W.heap.size := by obtain ⟨m, hm⟩ := h1; exact DataW.trod_lt m _ _ _ hm
  have T1 : Tr W 26 v1.cells.toList := by obtain ⟨m, hm⟩ := h1; exact ⟨H, enc, _, _, _, m, _, hm⟩
  obtain ⟨cs1, rfl⟩ := okWide_cells (t := 26) (by kernel_rfl) (hval 1 26 v1 rfl rfl)
  have g1 := leaves_tr W 9 26 [23, 23, 3, 24] _ (by kernel_rfl) T1
  obtain ⟨x1_0, _, e1, t1_0, g1⟩ := g1.uncons
  obtain ⟨x1_1, _, rfl, t1_1, g1⟩ := g1.uncons
  obtain ⟨x1_2, _, rfl, t1_2, g1⟩ := g1.uncons
  obtain ⟨x1_3, _, rfl, t1_3, g1⟩ := g1.uncons
  obtain rfl := g1.nil
  obtain ⟨n1_0, rfl, lo1_0, hi1_0⟩ := t1_0.i
  obtain ⟨n1_1, rfl, lo1_1, hi1_1⟩ := t1_1.i
  obtain ⟨n1_2, rfl, lo1_2, hi1_2⟩ := t1_2.i
  obtain rfl : cs1 = #[.int .u64 n1_0, .int .u64 n1_1, .int .i64 n1_2, x1_3] := Array.ext' e1
  have lt2 : ∀ x ∈ p2, x.block < W.heap.size := by obtain ⟨m, hm⟩ := h2; exact DataW.trod_lt m _ _ _ hm
  have T2 : Tr W 28 v2.cells.toList := by obtain ⟨m, hm⟩ := h2; exact ⟨H, enc, _, _, _, m, _, hm⟩
  obtain ⟨cs2, rfl⟩ := okWide_cells (t := 28) (by kernel_rfl) (hval 2 28 v2 rfl rfl)
  have g2 := leaves_tr W 9 28 [3, 3] _ (by kernel_rfl) T2
  obtain ⟨x2_0, _, e2, t2_0, g2⟩ := g2.uncons
  obtain ⟨x2_1, _, rfl, t2_1, g2⟩ := g2.uncons
  obtain rfl := g2.nil
  obtain ⟨n2_0, rfl, lo2_0, hi2_0⟩ := t2_0.i
  obtain ⟨n2_1, rfl, lo2_1, hi2_1⟩ := t2_1.i
  obtain rfl : cs2 = #[.int .i64 n2_0, .int .i64 n2_1] := Array.ext' e2
  clear hA0 hval0 hsz0
  obtain ⟨l0, S0, -⟩ := Sl.of_tr (C := rowC) (row_tr W) t0_0
  obtain ⟨l1, S1, -⟩ := Sl.of_tr (C := rowC) (row_tr W) t0_1
  obtain ⟨l2, S2, -⟩ := Sl.of_tr (C := rowC) (row_tr W) t0_2
  obtain ⟨load, S3⟩ := Tr.bytes t1_3
  refine (calls_ret (rutterlaw15_DpathOn.c W x0_0 x0_1 x0_2 x1_3 l0 l1 l2 load n1_0 n1_1 n1_2 n2_0 n2_1 S0 S1 S2 S3 lo1_0 lo1_1 lo1_2 hi1_2)).mono fun e W' ⟨he, bel⟩ => ?_
  subst he
  exact ⟨_, rfl, _, _, _, [], _, [], hW', trodAll_mk1 (shut_bool Try.underlying4 _), (trodAll_cons_mk (Below.trod lawLaid (by kernel_rfl) (of_decide_eq_true (by kernel_rfl)) h0 bel lt0) (trodAll_cons_mk (Below.trod lawLaid (by kernel_rfl) (of_decide_eq_true (by kernel_rfl)) h1 bel lt1) (trodAll_cons_mk (Below.trod lawLaid (by kernel_rfl) (of_decide_eq_true (by kernel_rfl)) h2 bel lt2) trodAll_mk0))), rfl, bel.frame _, fun h => by cases h⟩
theorem DpathOn_holds : Rows.DpathOnSaid :=
  OpenClaim.holds_of_wide 5 Try.f5 rfl rfl rfl rfl rfl rfl rfl ⟨rfl, rfl, rfl, rfl, rfl⟩ rfl rfl rfl rfl rfl (by kernel_rfl) Try.func5 (by kernel_rfl)
    (of_decide_eq_true (by kernel_rfl)) (by unfold Func.isWrapper; first | (rw [if_pos (by decide +kernel)]; kernel_rfl) | (rw [if_neg (by decide +kernel)]; exact ⟨rfl, rfl⟩))
    (fun os started H enc _ => dpathOn_lifted os started H enc)
#print axioms DpathOn_holds
end Go.Proofs.Ytldjhbmccnbciaa
