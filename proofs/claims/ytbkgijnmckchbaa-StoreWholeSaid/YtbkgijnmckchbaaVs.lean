/- what always holds of a database; what acts never take back. -/
import Derived.Test.YtbkgijnmckchbaaLsd
namespace Go.Proofs.Ytbkgijnmckchbaa
open Go
set_option linter.unusedSimpArgs false
set_option linter.unusedVariables false
structure Vw.Fine (V : Vw) : Prop where
  ok : V.Ok
  named : ∀ k x, V.r k = some x → ∀ c ∈ x.names, V.c c = true
  one : ∀ j k x y, V.r j = some x → V.r k = some y → j ≠ k → x.phase ≠ 3 → y.phase ≠ 3 → x.mac ≠ y.mac
/-- no row goes, no version falls -/
def Vw.Up (V U : Vw) : Prop := ∀ k x, V.r k = some x → ∃ y, U.r k = some y ∧ x.ver ≤ y.ver
theorem Vw.Up.refl (V : Vw) : V.Up V := fun _ x h => ⟨x, h, Int.le_refl _⟩
theorem Vw.Up.tr {V U T : Vw} (h : V.Up U) (k : U.Up T) : V.Up T := fun j x hx => by
  obtain ⟨y, h1, h2⟩ := h j x hx
  obtain ⟨z, h3, h4⟩ := k j y h1
  exact ⟨z, h3, Int.le_trans h2 h4⟩
theorem Vw.new_fine : Vw.new.Fine := ⟨Vw.new_ok, fun k x h => absurd h (by unfold Vw.new; simp), fun j k x y h => absurd h (by unfold Vw.new; simp)⟩
theorem Vw.add_fine {V : Vw} (h : V.Fine) (k : Int) : (V.add k).1.Fine ∧ V.Up (V.add k).1 := by
  have hok := V.add_ok h.ok k
  unfold Vw.add at hok ⊢
  split
  · exact ⟨h, .refl _⟩
  split
  · exact ⟨h, .refl _⟩
  rename_i h1 h2
  rw [if_neg h1, if_neg h2] at hok
  exact ⟨⟨hok, fun j x hx c hc => by
    have := h.named j x hx c hc
    simp only
    split
    · rfl
    · exact this, h.one⟩, fun j x hx => ⟨x, hx, Int.le_refl _⟩⟩
theorem Vw.remove_fine {V : Vw} (h : V.Fine) (k : Int) : (V.remove k).1.Fine ∧ V.Up (V.remove k).1 := by
  have hok := V.remove_ok h.ok k
  unfold Vw.remove at hok ⊢
  split
  · exact ⟨h, .refl _⟩
  split
  · exact ⟨h, .refl _⟩
  rename_i h1 h2
  rw [if_neg h1, if_neg h2] at hok
  refine ⟨⟨hok, fun j x hx c hc => ?_, h.one⟩, fun j x hx => ⟨x, hx, Int.le_refl _⟩⟩
  have h3 := h.named j x hx c hc
  simp only
  split
  · rename_i e
    subst e
    refine absurd (List.any_eq_true.2 ⟨x, ?_, ?_⟩) h2
    · have := (h.ok.r j x hx).1
      exact (Vw.mem_rows h.ok).2 (by rw [this]; exact hx)
    · exact List.contains_iff_mem.2 hc
  · exact h3
theorem Vw.put_fine {V : Vw} (h : V.Fine) {x : Rw} {was : Int} (hw : V.wrong x was = 0) : (V.put x).Fine ∧ V.Up (V.put x) := by
  have hok := Vw.wrong_ok hw
  unfold Vw.wrong at hw
  split at hw
  · cases hw
  rename_i h1
  split at hw
  · cases hw
  rename_i h2
  split at hw
  · cases hw
  rename_i h3
  split at hw
  · cases hw
  rename_i h4
  have hcl : ∀ k y, V.r k = some y → k ≠ x.port → x.phase ≠ 3 → y.phase ≠ 3 → x.mac ≠ y.mac := fun k y hy hk p1 p2 e => by
    have hp := (h.ok.r k y hy).1
    refine h4 (List.any_eq_true.2 ⟨y, (Vw.mem_rows h.ok).2 (by rw [hp]; exact hy), ?_⟩)
    unfold clash
    simp [p1, p2, e, hp, hk]
  refine ⟨⟨Vw.put_ok h.ok hok, fun k y hy c hc => ?_, fun j k y z hy hz hjk p1 p2 => ?_⟩, fun k y hy => ?_⟩
  · unfold Vw.put at hy
    simp only at hy
    split at hy
    · cases hy
      show V.c c = true
      cases hv : V.c c with
      | true => rfl
      | false => exact absurd (List.any_eq_true.2 ⟨c, hc, by rw [hv]; rfl⟩) h2
    · exact h.named k y hy c hc
  · unfold Vw.put at hy hz
    simp only at hy hz
    split at hy
    · cases hy
      split at hz
      · omega
      · exact hcl k z hz (by omega) p1 p2
    · split at hz
      · cases hz
        exact fun e => hcl j y hy (by omega) p2 p1 e.symm
      · exact h.one j k y z hy hz hjk p1 p2
  · by_cases e : k = x.port
    · refine ⟨x, by unfold Vw.put; simp only; rw [if_pos e], ?_⟩
      have h5 := Decidable.not_not.1 h3
      unfold verO at h5
      rw [← e, hy] at h5
      simp only [Option.getD_some] at h5
      have : ¬ x.ver ≤ was := fun hh => h1 (.inr hh)
      omega
    · exact ⟨y, by unfold Vw.put; simp only; rw [if_neg e]; exact hy, Int.le_refl _⟩
theorem Vw.goOn_fine : ∀ {V : Vw} (_ : V.Fine) (l : List (Rw × Int)), (V.goOn l).1.Fine ∧ V.Up (V.goOn l).1
  | V, h, [] => ⟨h, .refl _⟩
  | V, h, (x, was) :: l => by
    unfold Vw.goOn
    split
    · exact ⟨h, .refl _⟩
    · rename_i hw
      have h1 := put_fine h (Decidable.not_not.1 hw)
      have h2 := goOn_fine h1.1 l
      exact ⟨h2.1, h1.2.tr h2.2⟩
theorem Vw.apply_fine {V : Vw} (h : V.Fine) (l : List (Rw × Int)) : (V.apply l).1.Fine ∧ V.Up (V.apply l).1 := by
  unfold Vw.apply
  split
  · exact goOn_fine h l
  · exact ⟨h, .refl _⟩
theorem Vw.act_fine {V : Vw} (h : V.Fine) (x : ActR) : (V.act x).1.Fine ∧ V.Up (V.act x).1 := by
  unfold Vw.act
  split
  · exact add_fine h _
  split
  · exact remove_fine h _
  · exact apply_fine h _
theorem Vw.act_err {V : Vw} {x : ActR} (h : (V.act x).2 ≠ 0) : (V.act x).1 = V := by
  unfold Vw.act at h ⊢
  split
  · rename_i e; rw [if_pos e] at h; exact add_err h
  · rename_i e1
    rw [if_neg e1] at h
    split
    · rename_i e; rw [if_pos e] at h; exact remove_err h
    · rename_i e; rw [if_neg e] at h; exact apply_err h
theorem Vw.rows_pw {V : Vw} (h : V.Ok) : V.rows.Pairwise fun x y => x.port < y.port := by
  unfold Vw.rows
  rw [List.pairwise_filterMap]
  refine (upTo_pw 32).imp fun {a b} hab x hx y hy => ?_
  have h1 := (h.r a x hx).1
  have h2 := (h.r b y hy).1
  omega
end Go.Proofs.Ytbkgijnmckchbaa
