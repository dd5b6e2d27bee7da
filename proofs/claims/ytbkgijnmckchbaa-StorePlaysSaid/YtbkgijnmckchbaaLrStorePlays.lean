/- For any acts, ports, spans and address the law StorePlays answers true, and what came in reads as it did; no condition. -/
import Derived.Test.YtbkgijnmckchbaaLse
import Derived.Test.YtbkgijnmckchbaaLxs
namespace Go.Proofs.Ytbkgijnmckchbaa
open Go Go.ChangeShapes Go.WideShapes Go.ChangeAt Go.RowKit
set_option linter.unusedVariables false
set_option maxRecDepth 100000 in
theorem storePlays_lifted (os : Os) (started : os.Started) (H : Type) (enc : TypeId × Value → H) :
    ReturnsInHanded {} Try.checked os 3 .any (Rows.storePlaysSpec.pre6 enc Try.prog Try.f3 Rows.storePlaysRow.domain false) (Rows.storePlaysSpec.post enc Try.prog Try.f3 false true false false) := by
  refine returnsInHanded_of_change_sized (C := Try.checked) lawOwn started (by kernel_rfl) Try.func3
    (ChangeSpec.witness6 (enc := enc) (C := Try.checked) false ⟨#[], #[.slice none 0 0, .agg #[(.int .i64 0), (.int .i64 0)], .int .u64 0], []⟩ 8 (by kernel_rfl) (by kernel_rfl) (by kernel_rfl) (by kernel_rfl)) ?_
  intro W base args ds gs before hval0 hW hcnd hsz0 _
  have hval : ∀ (j : Nat) t v, Try.f3.params[j]? = some t → args[j]? = some v → Value.okWide Try.prog W .any base t v := hval0
  have hW' := hW
  obtain ⟨p, q, hA0, hV, rfl, hfz, hnd⟩ := hW
  have hA : DataW.TrodAll enc Try.prog W 0 (fun _ => true) true Try.f3.params.toList args.toList ds p := hA0
  rw [Try.params3] at hA hval
  obtain ⟨v0, vs0, d0, ds0, p0, q0, hargs, rfl, rfl, h0, r0⟩ := trodAll_cons hA
  obtain ⟨v1, vs1, d1, ds1, p1, q1, rfl, rfl, rfl, h1, r1⟩ := trodAll_cons r0
  obtain ⟨v2, vs2, d2, ds2, p2, q2, rfl, rfl, rfl, h2, r2⟩ := trodAll_cons r1
  obtain ⟨rfl, rfl, rfl⟩ := trodAll_nil r2
  obtain rfl : args = #[v0, v1, v2] := by cases args; simp_all
  obtain ⟨rfl, rfl⟩ := trodVars_none hV
  have lt0 : ∀ x ∈ p0, x.block < W.heap.size := by obtain ⟨m, hm⟩ := h0; exact DataW.trod_lt m _ _ _ hm
  have T0 : Tr W 22 v0.cells.toList := by obtain ⟨m, hm⟩ := h0; exact ⟨H, enc, _, _, _, m, _, hm⟩
  obtain ⟨a0, n0, c0, rfl⟩ := okWide_slice Try.underlying22 (hval 0 22 v0 rfl rfl)
  have T0 : Tr W 22 [.slice a0 n0 c0] := T0
  have lt1 : ∀ x ∈ p1, x.block < W.heap.size := by obtain ⟨m, hm⟩ := h1; exact DataW.trod_lt m _ _ _ hm
  have T1 : Tr W 23 v1.cells.toList := by obtain ⟨m, hm⟩ := h1; exact ⟨H, enc, _, _, _, m, _, hm⟩
  obtain ⟨cs1, rfl⟩ := okWide_cells (t := 23) (by kernel_rfl) (hval 1 23 v1 rfl rfl)
  have g1 := leaves_tr W 9 23 [3, 3] _ (by kernel_rfl) T1
  obtain ⟨x1_0, _, e1, t1_0, g1⟩ := g1.uncons
  obtain ⟨x1_1, _, rfl, t1_1, g1⟩ := g1.uncons
  obtain rfl := g1.nil
  obtain ⟨n1_0, rfl, lo1_0, hi1_0⟩ := t1_0.i
  obtain ⟨n1_1, rfl, lo1_1, hi1_1⟩ := t1_1.i
  obtain rfl : cs1 = #[.int .i64 n1_0, .int .i64 n1_1] := Array.ext' e1
  have lt2 : ∀ x ∈ p2, x.block < W.heap.size := by obtain ⟨m, hm⟩ := h2; exact DataW.trod_lt m _ _ _ hm
  have T2 : Tr W 24 v2.cells.toList := by obtain ⟨m, hm⟩ := h2; exact ⟨H, enc, _, _, _, m, _, hm⟩
  obtain ⟨n2, rfl⟩ := okWide_int Try.underlying24 (hval 2 24 v2 rfl rfl)
  obtain ⟨lo2, hi2⟩ := (show Tr W 24 [.int .u64 n2] from T2).bnd
  clear hA0 hval0 hsz0
  obtain ⟨l, S0⟩ := acts_tr T0
  refine (calls_ret (rutterlaw10_StorePlays.c S0 n1_0 n1_1 n2 ⟨lo1_1, hi1_1⟩)).mono fun e W' ⟨he, bel⟩ => ?_
  subst he
  exact ⟨_, rfl, _, _, _, [], _, [], hW', trodAll_mk1 (shut_bool Try.underlying4 _), (trodAll_cons_mk (Below.trod lawLaid (by kernel_rfl) (of_decide_eq_true (by kernel_rfl)) h0 bel lt0) (trodAll_cons_mk (Below.trod lawLaid (by kernel_rfl) (of_decide_eq_true (by kernel_rfl)) h1 bel lt1) (trodAll_cons_mk (Below.trod lawLaid (by kernel_rfl) (of_decide_eq_true (by kernel_rfl)) h2 bel lt2) trodAll_mk0))), rfl, bel.frame _, fun h => by cases h⟩
theorem StorePlays_holds : Rows.StorePlaysSaid :=
  OpenClaim.holds_of_wide 3 Try.f3 rfl rfl rfl rfl rfl rfl rfl ⟨rfl, rfl, rfl, rfl, rfl⟩ rfl rfl rfl rfl rfl (by kernel_rfl) Try.func3 (by kernel_rfl)
    (of_decide_eq_true (by kernel_rfl)) (by unfold Func.isWrapper; first | (rw [if_pos (by decide +kernel)]; kernel_rfl) | (rw [if_neg (by decide +kernel)]; exact ⟨rfl, rfl⟩))
    (fun os started H enc _ => storePlays_lifted os started H enc)
#print axioms StorePlays_holds
end Go.Proofs.Ytbkgijnmckchbaa
