/- For every list of entries, packet and chassis the law DpathTunnel answers true, and what came in reads as it did; no condition. -/
import Derived.Test.YtldjhbmccnbciaaFy
import Derived.Test.YtldjhbmccnbciaaLw
namespace Go.Proofs.Ytldjhbmccnbciaa
open Go Go.ChangeShapes Go.WideShapes Go.ChangeAt Go.RowKit
set_option linter.unusedVariables false
set_option maxRecDepth 100000 in
theorem dpathTunnel_lifted (os : Os) (started : os.Started) (H : Type) (enc : TypeId × Value → H) :
    ReturnsInHanded {} Try.checked os 4 .any (Rows.dpathTunnelSpec.pre6 enc Try.prog Try.f4 Rows.dpathTunnelRow.domain false) (Rows.dpathTunnelSpec.post enc Try.prog Try.f4 false true false false) := by
  refine returnsInHanded_of_change_sized (C := Try.checked) lawOwn started (by kernel_rfl) Try.func4
    (ChangeSpec.witness6 (enc := enc) (C := Try.checked) false ⟨#[], #[.slice none 0 0, .agg #[(.int .i64 0), (.int .i64 0), (.int .i64 0), (.int .i64 0), (.int .i64 0), (.int .i64 0), (.int .i64 0), (.slice none 0 0)], .int .i64 0], []⟩ 8 (by kernel_rfl) (by kernel_rfl) (by kernel_rfl) (by kernel_rfl)) ?_
  intro W base args ds gs before hval0 hW hcnd hsz0 _
  have hval : ∀ (j : Nat) t v, Try.f4.params[j]? = some t → args[j]? = some v → Value.okWide Try.prog W .any base t v := hval0
  have hW' := hW
  obtain ⟨p, q, hA0, hV, rfl, hfz, hnd⟩ := hW
  have hA : DataW.TrodAll enc Try.prog W 0 (fun _ => true) true Try.f4.params.toList args.toList ds p := hA0
  rw [Try.params4] at hA hval
  obtain ⟨v0, vs0, d0, ds0, p0, q0, hargs, rfl, rfl, h0, r0⟩ := trodAll_cons hA
  obtain ⟨v1, vs1, d1, ds1, p1, q1, rfl, rfl, rfl, h1, r1⟩ := trodAll_cons r0
  obtain ⟨v2, vs2, d2, ds2, p2, q2, rfl, rfl, rfl, h2, r2⟩ := trodAll_cons r1
  obtain ⟨rfl, rfl, rfl⟩ := trodAll_nil r2
  obtain rfl : args = #[v0, v1, v2] := by cases args; simp_all
  obtain ⟨rfl, rfl⟩ := trodVars_none hV
  have lt0 : ∀ x ∈ p0, x.block < W.heap.size := by obtain ⟨m, hm⟩ := h0; exact DataW.trod_lt m _ _ _ hm
  have T0 : Tr W 22 v0.cells.toList := by obtain ⟨m, hm⟩ := h0; exact ⟨H, enc, _, _, _, m, _, hm⟩
  obtain ⟨a0, n0, c0, rfl⟩ := okWide_slice Try.underlying22 (hval 0 22 v0 rfl rfl)
  have T0 : Tr W 22 [.slice a0 n0 c0] := T0
  have lt1 : ∀ x ∈ p1, x.block < W.heap.size := by obtain ⟨m, hm⟩ := h1; exact DataW.trod_lt m _ _ _ hm
  have T1 : Tr W 37 v1.cells.toList := by obtain ⟨m, hm⟩ := h1; exact ⟨H, enc, _, _, _, m, _, hm⟩
  obtain ⟨cs1, rfl⟩ := okWide_cells (t := 37) (by kernel_rfl) (hval 1 37 v1 rfl rfl)
  have g1 := leaves_tr W 9 37 [35, 3, 3, 3, 3, 3, 3, 24] _ (by kernel_rfl) T1
  obtain ⟨x1_0, _, e1, t1_0, g1⟩ := g1.uncons
  obtain ⟨x1_1, _, rfl, t1_1, g1⟩ := g1.uncons
  obtain ⟨x1_2, _, rfl, t1_2, g1⟩ := g1.uncons
  obtain ⟨x1_3, _, rfl, t1_3, g1⟩ := g1.uncons
  obtain ⟨x1_4, _, rfl, t1_4, g1⟩ := g1.uncons
  obtain ⟨x1_5, _, rfl, t1_5, g1⟩ := g1.uncons
  obtain ⟨x1_6, _, rfl, t1_6, g1⟩ := g1.uncons
  obtain ⟨x1_7, _, rfl, t1_7, g1⟩ := g1.uncons
  obtain rfl := g1.nil
  obtain ⟨n1_0, rfl, lo1_0, hi1_0⟩ := t1_0.i
  obtain ⟨n1_1, rfl, lo1_1, hi1_1⟩ := t1_1.i
  obtain ⟨n1_2, rfl, lo1_2, hi1_2⟩ := t1_2.i
  obtain ⟨n1_3, rfl, lo1_3, hi1_3⟩ := t1_3.i
  obtain ⟨n1_4, rfl, lo1_4, hi1_4⟩ := t1_4.i
  obtain ⟨n1_5, rfl, lo1_5, hi1_5⟩ := t1_5.i
  obtain ⟨n1_6, rfl, lo1_6, hi1_6⟩ := t1_6.i
  obtain rfl : cs1 = #[.int .i64 n1_0, .int .i64 n1_1, .int .i64 n1_2, .int .i64 n1_3, .int .i64 n1_4, .int .i64 n1_5, .int .i64 n1_6, x1_7] := Array.ext' e1
  have lt2 : ∀ x ∈ p2, x.block < W.heap.size := by obtain ⟨m, hm⟩ := h2; exact DataW.trod_lt m _ _ _ hm
  have T2 : Tr W 3 v2.cells.toList := by obtain ⟨m, hm⟩ := h2; exact ⟨H, enc, _, _, _, m, _, hm⟩
  obtain ⟨n2, rfl⟩ := okWide_int Try.underlying3 (hval 2 3 v2 rfl rfl)
  obtain ⟨lo2, hi2⟩ := (show Tr W 3 [.int .i64 n2] from T2).bnd
  clear hA0 hval0 hsz0
  obtain ⟨l, S0, -⟩ := Sl.of_tr (C := entC) (ent_tr W) T0
  obtain ⟨fr, S1⟩ := Tr.bytes t1_7
  obtain ⟨aa, cc, hh⟩ := S1.form
  subst hh
  refine (calls_ret (rutterlaw15_DpathTunnel.c W _ _ l ⟨n1_0, n1_1, n1_2, n1_3, n1_4, n1_5, n1_6, fr⟩ n2 S0 ⟨aa, cc, rfl, S1, by simp⟩)).mono fun e W' ⟨he, bel⟩ => ?_
  subst he
  exact ⟨_, rfl, _, _, _, [], _, [], hW', trodAll_mk1 (shut_bool Try.underlying4 _), (trodAll_cons_mk (Below.trod lawLaid (by kernel_rfl) (of_decide_eq_true (by kernel_rfl)) h0 bel lt0) (trodAll_cons_mk (Below.trod lawLaid (by kernel_rfl) (of_decide_eq_true (by kernel_rfl)) h1 bel lt1) (trodAll_cons_mk (Below.trod lawLaid (by kernel_rfl) (of_decide_eq_true (by kernel_rfl)) h2 bel lt2) trodAll_mk0))), rfl, bel.frame _, fun h => by cases h⟩
theorem DpathTunnel_holds : Rows.DpathTunnelSaid :=
  OpenClaim.holds_of_wide 4 Try.f4 rfl rfl rfl rfl rfl rfl rfl ⟨rfl, rfl, rfl, rfl, rfl⟩ rfl rfl rfl rfl rfl (by kernel_rfl) Try.func4 (by kernel_rfl)
    (of_decide_eq_true (by kernel_rfl)) (by unfold Func.isWrapper; first | (rw [if_pos (by decide +kernel)]; kernel_rfl) | (rw [if_neg (by decide +kernel)]; exact ⟨rfl, rfl⟩))
    (fun os started H enc _ => dpathTunnel_lifted os started H enc)
#print axioms DpathTunnel_holds
end Go.Proofs.Ytldjhbmccnbciaa
