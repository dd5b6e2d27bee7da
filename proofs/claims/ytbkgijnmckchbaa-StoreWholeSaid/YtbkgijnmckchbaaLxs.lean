/- Changes and acts on a database, as they are read. -/
import Derived.Test.YtbkgijnmckchbaaLx
import Derived.Test.YtbkgijnmckchbaaLsb
namespace Go.Proofs.Ytbkgijnmckchbaa
open Go Go.ChangeShapes Go.WideShapes Go.ChangeAt Go.RowKit
set_option maxRecDepth 100000 in
theorem chg_tr (w : World) (cs : List Value) (h : Tr w 59 cs) : ∃ e : Rw × Int, cs = chgC.enc e ∧ True := by
  have h0 := leaves_tr w 6 59 [3, 24, 3, 3, 3, 3, 31, 3, 3, 3] cs (by kernel_rfl) h
  obtain ⟨v0, _, rfl, t0, h0⟩ := h0.uncons
  obtain ⟨v1, _, rfl, t1, h0⟩ := h0.uncons
  obtain ⟨v2, _, rfl, t2, h0⟩ := h0.uncons
  obtain ⟨v3, _, rfl, t3, h0⟩ := h0.uncons
  obtain ⟨v4, _, rfl, t4, h0⟩ := h0.uncons
  obtain ⟨v5, _, rfl, t5, h0⟩ := h0.uncons
  obtain ⟨v6, _, rfl, t6, h0⟩ := h0.uncons
  obtain ⟨v7, _, rfl, t7, h0⟩ := h0.uncons
  obtain ⟨v8, _, rfl, t8, h0⟩ := h0.uncons
  obtain ⟨v9, _, rfl, t9, h0⟩ := h0.uncons
  obtain rfl := h0.nil
  obtain ⟨x0, rfl, -⟩ := t0.i
  obtain ⟨x1, rfl, -⟩ := t1.i
  obtain ⟨x2, rfl, -⟩ := t2.i
  obtain ⟨x3, rfl, -⟩ := t3.i
  obtain ⟨x4, rfl, -⟩ := t4.i
  obtain ⟨x5, rfl, -⟩ := t5.i
  obtain ⟨x6, rfl, -⟩ := t6.i
  obtain ⟨x7, rfl, -⟩ := t7.i
  obtain ⟨x8, rfl, -⟩ := t8.i
  obtain ⟨x9, rfl, -⟩ := t9.i
  exact ⟨(⟨x0, x1, x2, x3, x4, x5, x6, x7, x8⟩, x9), rfl, trivial⟩
set_option maxRecDepth 100000 in
theorem act_tr (w : World) (cs : List Value) (h : Tr w 40 cs) : ∃ e : ActR, cs = actC.enc e ∧ Sl chgC w (.slice e.a e.n e.c) e.l := by
  have h0 := leaves_tr w 3 40 [5, 3, 38] cs (by kernel_rfl) h
  obtain ⟨v0, _, rfl, t0, h0⟩ := h0.uncons
  obtain ⟨v1, _, rfl, t1, h0⟩ := h0.uncons
  obtain ⟨v2, _, rfl, t2, h0⟩ := h0.uncons
  obtain rfl := h0.nil
  obtain ⟨x0, rfl, -⟩ := t0.i
  obtain ⟨x1, rfl, -⟩ := t1.i
  obtain ⟨l, S, -⟩ := Sl.of_tr (C := chgC) (chg_tr w) t2
  obtain ⟨a, c, rfl⟩ := S.form
  exact ⟨⟨x0, x1, a, l.length, c, l⟩, rfl, S⟩
instance : SlT 22 40 3 := .of (by kernel_rfl) (by kernel_rfl) (by decide) (by decide)
theorem acts_tr {w : World} {v : Value} (h : Tr w 22 [v]) : ∃ l, ActsAt w v l := by
  obtain ⟨l, S, P⟩ := Sl.of_tr (C := actC) (act_tr w) h
  exact ⟨l, S, P⟩
end Go.Proofs.Ytbkgijnmckchbaa
