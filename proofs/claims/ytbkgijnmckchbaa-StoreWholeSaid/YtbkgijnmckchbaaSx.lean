/- slices of slices; clear; searches among numbers, deletions. -/
import Derived.Test.YtbkgijnmckchbaaMr
import Derived.Test.YtbkgijnmckchbaaDt
import Derived.Lib.SliceRun
namespace Go.Proofs.Ytbkgijnmckchbaa
open Go
set_option linter.unusedSimpArgs false
set_option linter.unusedVariables false
section sl
variable {t e k : Nat} {b off n c : Nat} {K : Value → Prop} {q : IntKind} {h : Int}
theorem SlT.elem (T : SlT t e k) : Try.prog.elem t = e := by simp [Program.elem, T.u]
theorem SlT.size (T : SlT t e k) (w : World) : (sizeOf e).run Try.prog w = .ok k w := by
  obtain ⟨i, z, hi, hk, -⟩ := T.i
  simp [sizeOf, typeInfo, hi, hk]
theorem sl_h [T : SlT t e k] {a : Option Addr} (h0 : 0 ≤ h) (h1 : h ≤ c) : pv (sl t (.slice a n c) none (some (.int q h)) none) K = K (.slice a h.toNat c) := pv_of fun w => by
  have hu : Try.prog.underlying t = some (.slice (Try.prog.elem t)) := by rw [T.elem]; exact T.u
  simp only [sl, vN, Sem.run_bind]
  rw [run_sliceAt_slice w t _ _ _ _ hu, run_slice_h w t a n c hu q h h0 h1, T.elem, T.size]
  simp only [Result.andThen_ok, Sem.run_pure, sliced]
  have e1 : (if c = 0 then a else a.map fun x => x.add (0 * k)) = a := by cases a <;> simp [Addr.add]
  rw [e1, Nat.sub_zero, Nat.sub_zero]
theorem sl_l [T : SlT t e k] (h0 : 0 ≤ h) (h1 : h ≤ n) : pv (sl t (.slice (some ⟨b, off, none⟩) n c) (some (.int q h)) none none) K = K (.slice (some (if c = h.toNat then ⟨b, off, none⟩ else ⟨b, off + h.toNat * k, none⟩)) (n - h.toNat) (c - h.toNat)) := pv_of fun w => by
  have hu : Try.prog.underlying t = some (.slice (Try.prog.elem t)) := by rw [T.elem]; exact T.u
  simp only [sl, vN, Sem.run_bind]
  rw [run_sliceAt_slice w t _ _ _ _ hu, run_slice_l w t _ n c hu q h h0 h1, T.elem, T.size]
  simp only [Result.andThen_ok, Sem.run_pure, sliced]
  have e1 : (if c = h.toNat then some (⟨b, off, none⟩ : Addr) else (some (⟨b, off, none⟩ : Addr)).map fun x => x.add (h.toNat * k)) = some (if c = h.toNat then ⟨b, off, none⟩ else ⟨b, off + h.toNat * k, none⟩) := by split <;> simp [Addr.add]
  rw [e1]
end sl
/-- so many cells, laid anew -/
theorem setCells_row (b : Nat) : ∀ (vs : List Value) (o : Nat) (w : World) (cs : Array Value), blk0 w b = some cs → o + vs.length ≤ cs.size → ∃ cs', blk0 (w.setCells b o vs) b = some cs' ∧ cs'.size = cs.size ∧ (∀ j, j < o → cs'[j]? = cs[j]?) ∧ Chg [b] w (w.setCells b o vs)
  | [], o, w, cs, h, _ => ⟨cs, h, rfl, fun _ _ => rfl, .refl _ _⟩
  | v :: vs, o, w, cs, h, hl => by
    have e1 : w.setCell ⟨b, o, none⟩ v = w.setRow b (cs.setIfInBounds o v) := by
      unfold World.setCell World.setRow
      congr 1
      apply Array.ext_getElem?
      intro i
      simp only [Array.getElem?_modify]
      by_cases hi : b = i
      · subst hi
        simp only [if_true]
        unfold blk0 at h
        split at h
        · rename_i hh; rw [hh]; cases h; rfl
        · cases h
      · simp only [hi, if_false]
    have h2 : blk0 (w.setRow b (cs.setIfInBounds o v)) b = some (cs.setIfInBounds o v) := by rw [blk0_setS, h]; rfl
    obtain ⟨cs', g1, g2, g3, g4⟩ := setCells_row b vs (o + 1) _ _ h2 (by simp at hl ⊢; omega)
    unfold World.setCells
    rw [e1]
    refine ⟨cs', g1, by rw [g2]; simp, fun j hj => ?_, ((Chg.refl [b] w).setRow (by simp) _).tr g4 (by simp)⟩
    rw [g3 j (by omega), Array.getElem?_setIfInBounds, if_neg (by omega)]
theorem clear_r {t e : Nat} [T : SlT t e 1] {z : Value} [Z : ZTy e z] {w : World} {g off n c ty : Nat} {cb : Array Bool} {cs : Array Value} {L : Value → World → Prop} (hz : z.cells = #[z]) (h1 : z.oneCell' = true) (hb : blk0 w g = some cs) (hl : off + n ≤ cs.size)
    (hk : ∀ w' cs', blk0 w' g = some cs' → (∀ j, j < off → cs'[j]? = cs[j]?) → Chg [g] w w' → L (.tuple #[]) w') : o (bi .clear #[t] ty cb #[.slice (some ⟨g, off, none⟩) n c]) w L := by
  rcases Nat.eq_zero_or_pos n with rfl | hn
  · rw [o_of (v := .tuple #[]) (w' := w)]
    · exact hk w cs hb (fun _ _ => rfl) (.refl _ _)
    · simp [bi, builtin, Builtin.clear_, run_underlying T.u]
  · have hh : ∃ ty, w.heap[g]? = some (.cells cs ty (0, 0)) := by
      unfold blk0 at hb
      split at hb
      · rename_i hh; cases hb; exact ⟨_, hh⟩
      · cases hb
    obtain ⟨ty', hh⟩ := hh
    have hr := Go.Lib.run_clear_slice (P := Try.prog) w t e ty z T.u Z.z hz h1 g off n c hn (fun j hj => by
      unfold World.cell?
      simp only [hh]
      have : off + j < cs.size := by omega
      simp [this]) (fun j hj => by
      unfold World.frozen?
      simp [hh])
    obtain ⟨cs', g1, g2, g3, g4⟩ := setCells_row g (List.replicate n z) off w cs hb (by simpa using hl)
    rw [o_of (v := .tuple #[]) (w' := w.setCells g off (List.replicate n z)) (by simp only [bi, builtin, Sem.run_bind, hr, Result.andThen_ok, Sem.run_pure])]
    exact hk _ cs' g1 g3 g4
end Go.Proofs.Ytbkgijnmckchbaa
