/- For every list of entries, frame, chassis and number of a packet the law DpathGuest answers true, and what came in reads as it did; no condition. -/
import Derived.Test.YtldjhbmccnbciaaFz
import Derived.Test.YtldjhbmccnbciaaRd
import Derived.Test.YtldjhbmccnbciaaRows
import Derived.WalkKit
import Derived.ShutString
import Derived.SizedLaws
namespace Go.Proofs.Ytldjhbmccnbciaa
open Go Go.ChangeShapes Go.WideShapes Go.ChangeAt Go.RowKit
theorem lawOwn : ownKnob Try.prog.godebug = none := by kernel_rfl
theorem lawLaid : laidOutB Try.prog = true := by kernel_rfl
theorem ent_tr (w : World) (cs : List Value) (h : Tr w 70 cs) : ∃ e : Ent, cs = entC.enc e ∧ True := by
  have h0 := leaves_tr w 5 70 [3, 3, 23, 3, 3, 3, 3, 3, 3, 3, 3] cs (by kernel_rfl) h
  obtain ⟨v0, _, rfl, t0, h0⟩ := h0.uncons
  obtain ⟨v1, _, rfl, t1, h0⟩ := h0.uncons
  obtain ⟨v2, _, rfl, t2, h0⟩ := h0.uncons
  obtain ⟨v3, _, rfl, t3, h0⟩ := h0.uncons
  obtain ⟨v4, _, rfl, t4, h0⟩ := h0.uncons
  obtain ⟨v5, _, rfl, t5, h0⟩ := h0.uncons
  obtain ⟨v6, _, rfl, t6, h0⟩ := h0.uncons
  obtain ⟨v7, _, rfl, t7, h0⟩ := h0.uncons
  obtain ⟨v8, _, rfl, t8, h0⟩ := h0.uncons
  obtain ⟨v9, _, rfl, t9, h0⟩ := h0.uncons
  obtain ⟨v10, _, rfl, t10, h0⟩ := h0.uncons
  obtain rfl := h0.nil
  obtain ⟨x0, rfl, -⟩ := t0.i
  obtain ⟨x1, rfl, -⟩ := t1.i
  obtain ⟨x2, rfl, -⟩ := t2.i
  obtain ⟨x3, rfl, -⟩ := t3.i
  obtain ⟨x4, rfl, -⟩ := t4.i
  obtain ⟨x5, rfl, -⟩ := t5.i
  obtain ⟨x6, rfl, -⟩ := t6.i
  obtain ⟨x7, rfl, -⟩ := t7.i
  obtain ⟨x8, rfl, -⟩ := t8.i
  obtain ⟨x9, rfl, -⟩ := t9.i
  obtain ⟨x10, rfl, -⟩ := t10.i
  exact ⟨⟨x0, x1, x2, x3, x4, x5, x6, x7, x8, x9, x10⟩, rfl, trivial⟩
theorem calls_ret {f : Nat} {a : Array Value} {w : World} {r : Value} (h : Calls Try.prog f a w (retP fun v w' => v = r ∧ Ext w w')) : Calls Try.prog f a w (fun e w' => e = .returned r ∧ Ext w w') :=
  h.mono fun e w' he => by
    cases e with
    | returned v => obtain ⟨rfl, h2⟩ := he; exact ⟨rfl, h2⟩
    | _ => exact he.elim
set_option maxRecDepth 100000 in
theorem guest_lifted (os : Os) (started : os.Started) (H : Type) (enc : TypeId × Value → H) :
    ReturnsInHanded {} Try.checked os 3 .any (Rows.dpathGuestSpec.pre6 enc Try.prog Try.f3 Rows.dpathGuestRow.domain false) (Rows.dpathGuestSpec.post enc Try.prog Try.f3 false true false false) := by
  refine returnsInHanded_of_change_sized (C := Try.checked) lawOwn started (by kernel_rfl) Try.func3
    (ChangeSpec.witness6 (enc := enc) (C := Try.checked) false ⟨#[], #[.slice none 0 0, .agg #[.int .u64 0, .int .u64 0, .int .i64 0, .slice none 0 0], .agg #[.int .i64 0, .int .i64 0]], []⟩ 8 (by kernel_rfl) (by kernel_rfl) (by kernel_rfl) (by kernel_rfl)) ?_
  intro W base args ds gs before hval0 hW hcnd hsz0 _
  have hval : ∀ (j : Nat) t v, Try.f3.params[j]? = some t → args[j]? = some v → Value.okWide Try.prog W .any base t v := hval0
  have hW' := hW
  obtain ⟨p, q, hA0, hV, rfl, hfz, hnd⟩ := hW
  have hA : DataW.TrodAll enc Try.prog W 0 (fun _ => true) true Try.f3.params.toList args.toList ds p := hA0
  rw [Try.params3] at hA hval
  obtain ⟨v0, vs0, d0, ds0, p0, q0, hargs, rfl, rfl, h0, r0⟩ := trodAll_cons hA
  obtain ⟨v1, vs1, d1, ds1, p1, q1, rfl, rfl, rfl, h1, r1⟩ := trodAll_cons r0
  obtain ⟨v2, vs2, d2, ds2, p2, q2, rfl, rfl, rfl, h2, r2⟩ := trodAll_cons r1
  obtain ⟨rfl, rfl, rfl⟩ := trodAll_nil r2
  obtain rfl : args = #[v0, v1, v2] := by cases args; simp_all
  obtain ⟨rfl, rfl⟩ := trodVars_none hV
  have lt0 : ∀ x ∈ p0, x.block < W.heap.size := by obtain ⟨m, hm⟩ := h0; exact DataW.trod_lt m _ _ _ hm
  have lt1 : ∀ x ∈ p1, x.block < W.heap.size := by obtain ⟨m, hm⟩ := h1; exact DataW.trod_lt m _ _ _ hm
  have lt2 : ∀ x ∈ p2, x.block < W.heap.size := by obtain ⟨m, hm⟩ := h2; exact DataW.trod_lt m _ _ _ hm
  have T0 : Tr W 22 v0.cells.toList := by obtain ⟨m, hm⟩ := h0; exact ⟨H, enc, _, _, _, m, _, hm⟩
  have T1 : Tr W 26 v1.cells.toList := by obtain ⟨m, hm⟩ := h1; exact ⟨H, enc, _, _, _, m, _, hm⟩
  have T2 : Tr W 28 v2.cells.toList := by obtain ⟨m, hm⟩ := h2; exact ⟨H, enc, _, _, _, m, _, hm⟩
  obtain ⟨a0, len0, cap0, rfl⟩ := okWide_slice Try.underlying22 (hval 0 22 v0 rfl rfl)
  obtain ⟨c1, rfl, -⟩ := okWide_struct Try.underlying26 (hval 1 26 v1 rfl rfl)
  obtain ⟨c2, rfl, -⟩ := okWide_struct Try.underlying28 (hval 2 28 v2 rfl rfl)
  obtain ⟨l, S0, -⟩ := Sl.of_tr (C := entC) (ent_tr W) (show Tr W 22 [.slice a0 len0 cap0] from T0)
  have g1 := leaves_tr W 5 26 [23, 23, 3, 24] _ (by kernel_rfl) T1
  obtain ⟨x0, _, e1, t0, g1⟩ := g1.uncons
  obtain ⟨x1, _, rfl, t1, g1⟩ := g1.uncons
  obtain ⟨x2, _, rfl, t2, g1⟩ := g1.uncons
  obtain ⟨x3, _, rfl, t3, g1⟩ := g1.uncons
  obtain rfl := g1.nil
  obtain ⟨n0, rfl, b00, b01⟩ := t0.i
  obtain ⟨n1, rfl, b10, b11⟩ := t1.i
  obtain ⟨n2, rfl, b20, b21⟩ := t2.i
  obtain ⟨load, S1⟩ := Tr.bytes t3
  obtain rfl : c1 = #[.int .u64 n0, .int .u64 n1, .int .i64 n2, x3] := Array.ext' e1
  have g2 := leaves_tr W 5 28 [3, 3] _ (by kernel_rfl) T2
  obtain ⟨y0, _, e2, u0, g2⟩ := g2.uncons
  obtain ⟨y1, _, rfl, u1, g2⟩ := g2.uncons
  obtain rfl := g2.nil
  obtain ⟨m0, rfl, -⟩ := u0.i
  obtain ⟨m1, rfl, -⟩ := u1.i
  obtain rfl : c2 = #[.int .i64 m0, .int .i64 m1] := Array.ext' e2
  clear hA0 hval0 hsz0
  refine (calls_ret (rutterlaw15_DpathGuest.c W _ _ l load n0 n1 n2 m0 m1 S0 S1 b00 b10 b20 b21)).mono fun e W' ⟨he, bel⟩ => ?_
  subst he
  exact ⟨_, rfl, _, _, _, [], _, [], hW', trodAll_mk1 (shut_bool Try.underlying4 _),
    trodAll_cons_mk (Below.trod lawLaid (by kernel_rfl) (of_decide_eq_true (by kernel_rfl)) h0 bel lt0) (trodAll_cons_mk (Below.trod lawLaid (by kernel_rfl) (of_decide_eq_true (by kernel_rfl)) h1 bel lt1) (trodAll_cons_mk (Below.trod lawLaid (by kernel_rfl) (of_decide_eq_true (by kernel_rfl)) h2 bel lt2) trodAll_mk0)), rfl, bel.frame _, fun h => by cases h⟩
theorem DpathGuest_holds : Rows.DpathGuestSaid :=
  OpenClaim.holds_of_wide 3 Try.f3 rfl rfl rfl rfl rfl rfl rfl ⟨rfl, rfl, rfl, rfl, rfl⟩ rfl rfl rfl rfl rfl (by kernel_rfl) Try.func3 (by kernel_rfl)
    (of_decide_eq_true (by kernel_rfl)) (by unfold Func.isWrapper; first | (rw [if_pos (by decide +kernel)]; kernel_rfl) | (rw [if_neg (by decide +kernel)]; exact ⟨rfl, rfl⟩))
    (fun os started H enc _ => guest_lifted os started H enc)
#print axioms DpathGuest_holds
end Go.Proofs.Ytldjhbmccnbciaa
