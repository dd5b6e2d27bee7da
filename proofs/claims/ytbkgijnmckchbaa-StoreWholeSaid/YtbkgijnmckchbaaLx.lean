/- What all rows share; rows, as they are read. -/
import Derived.Test.YtbkgijnmckchbaaRc
import Derived.Test.YtbkgijnmckchbaaRd
import Derived.Test.YtbkgijnmckchbaaRows
import Derived.WalkKit
import Derived.ShutString
import Derived.SizedLaws
namespace Go.Proofs.Ytbkgijnmckchbaa
open Go Go.ChangeShapes Go.WideShapes Go.ChangeAt Go.RowKit
theorem lawOwn : ownKnob Try.prog.godebug = none := by kernel_rfl
theorem lawLaid : laidOutB Try.prog = true := by kernel_rfl
set_option maxRecDepth 100000 in
theorem okWide_cells {w : World} {r : Reach} {base : Nat} {t : Nat} {v : Value} (ht : (match Try.prog.underlying t with | some (.struct _) => true | some (.array _ _) => true | _ => false) = true) (h : Value.okWide Try.prog w r base t v) : ∃ cs, v = .agg cs := by
  unfold Value.okWide at h
  split at h
  · obtain ⟨cs, h1, -⟩ := h; exact ⟨cs, h1⟩
  · obtain ⟨cs, h1, -⟩ := h; exact ⟨cs, h1⟩
  · rename_i h1 h2
    split at ht
    · rename_i x hx; exact absurd hx (h1 x)
    · rename_i x y hx; exact absurd hx (h2 x y)
    · cases ht
theorem Tr.bnd {w : World} {t : Nat} {k : IntKind} [T : ITy t k] {n : Int} (h : Tr w t [.int k n]) : k.min ≤ n ∧ n ≤ k.max := by
  obtain ⟨m, h1, h2⟩ := h.int T.u
  simp at h1
  subst h1
  exact h2
set_option maxRecDepth 100000 in
theorem row_tr (w : World) (cs : List Value) (h : Tr w 33 cs) : ∃ e : Rw, cs = rowC.enc e ∧ True := by
  have h0 := leaves_tr w 5 33 [3, 24, 3, 3, 3, 3, 31, 3, 3] cs (by kernel_rfl) h
  obtain ⟨v0, _, rfl, t0, h0⟩ := h0.uncons
  obtain ⟨v1, _, rfl, t1, h0⟩ := h0.uncons
  obtain ⟨v2, _, rfl, t2, h0⟩ := h0.uncons
  obtain ⟨v3, _, rfl, t3, h0⟩ := h0.uncons
  obtain ⟨v4, _, rfl, t4, h0⟩ := h0.uncons
  obtain ⟨v5, _, rfl, t5, h0⟩ := h0.uncons
  obtain ⟨v6, _, rfl, t6, h0⟩ := h0.uncons
  obtain ⟨v7, _, rfl, t7, h0⟩ := h0.uncons
  obtain ⟨v8, _, rfl, t8, h0⟩ := h0.uncons
  obtain rfl := h0.nil
  obtain ⟨x0, rfl, -⟩ := t0.i
  obtain ⟨x1, rfl, -⟩ := t1.i
  obtain ⟨x2, rfl, -⟩ := t2.i
  obtain ⟨x3, rfl, -⟩ := t3.i
  obtain ⟨x4, rfl, -⟩ := t4.i
  obtain ⟨x5, rfl, -⟩ := t5.i
  obtain ⟨x6, rfl, -⟩ := t6.i
  obtain ⟨x7, rfl, -⟩ := t7.i
  obtain ⟨x8, rfl, -⟩ := t8.i
  exact ⟨⟨x0, x1, x2, x3, x4, x5, x6, x7, x8⟩, rfl, trivial⟩
theorem calls_ret {f : Nat} {a : Array Value} {w : World} {r : Value} (h : Calls Try.prog f a w (retP fun v w' => v = r ∧ Ext w w')) : Calls Try.prog f a w (fun e w' => e = .returned r ∧ Ext w w') :=
  h.mono fun e w' he => by
    cases e with
    | returned v => obtain ⟨rfl, h2⟩ := he; exact ⟨rfl, h2⟩
    | _ => exact he.elim
end Go.Proofs.Ytbkgijnmckchbaa
