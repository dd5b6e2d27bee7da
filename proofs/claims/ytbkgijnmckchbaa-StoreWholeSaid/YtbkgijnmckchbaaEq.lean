/- rows, changes, are they one? -/
import Derived.Test.YtbkgijnmckchbaaRtf
namespace Go.Proofs.Ytbkgijnmckchbaa
open Go
set_option linter.unusedSimpArgs false
set_option linter.unusedVariables false
theorem eqf_step {t d i : Nat} {xs ys : Array Value} {k k' : IntKind} {a b : Int} {w : World}
    (hL : ((Try.prog.fieldsOf t).toList[i]?.map fun f => (f.name != "_", Try.prog.underlying f.type)) = some (true, some (.int k')))
    (hx : ∀ w, (((Try.prog.fieldsOf t).toList[i]?.map fun f => part f.type xs f.offset).getD (pure undef)).run Try.prog w = .ok (.int k a) w)
    (hy : ∀ w, (((Try.prog.fieldsOf t).toList[i]?.map fun f => part f.type ys f.offset).getD (pure undef)).run Try.prog w = .ok (.int k b) w) :
    (Op.eqFields (d + 1) xs ys ((Try.prog.fieldsOf t).toList.drop i)).run Try.prog w = if a = b then (Op.eqFields (d + 1) xs ys ((Try.prog.fieldsOf t).toList.drop (i + 1))).run Try.prog w else .ok false w := by
  generalize (Try.prog.fieldsOf t).toList = L at *
  cases hi : L[i]? with
  | none => rw [hi] at hL; cases hL
  | some f =>
    rw [hi] at hL hx hy
    simp only [Option.map_some, Option.some.injEq, Prod.mk.injEq, Option.getD_some] at hL hx hy
    obtain ⟨hlt, hf⟩ := List.getElem?_eq_some_iff.1 hi
    rw [List.drop_eq_getElem_cons hlt, hf]
    have hn : f.name ≠ "_" := by simpa using hL.1
    rw [Op.eqFields, if_pos hn]
    simp only [Sem.run_bind, hx, hy, Result.andThen_ok, run_equalIn_int w d f.type k k' a b hL.2]
    by_cases e : a = b
    · have e' : (a == b) = true := by simp [e]
      rw [if_pos e, e']
      simp
    · have e' : (a == b) = false := by simp [e]
      rw [if_neg e, e']
      simp
theorem ite_ok {p : Prop} [Decidable p] {b : Bool} {w : World} : (if p then Result.ok b w else Result.ok false w) = Result.ok (decide p && b) w := by
  by_cases h : p <;> simp [h]
theorem row_eq (d : Nat) (r s : Rw) (w : World) : (Op.equalIn (d + 2) 33 r.v s.v).run Try.prog w = .ok (decide (r = s)) w := by
  rw [Rw.v_eq, Rw.v_eq, run_equalIn_agg w (d + 1) 33 r.arr s.arr (by kernel_rfl) (by kernel_rfl)]
  have h0 := eqf_step (t := 33) (d := d) (i := 0) (xs := r.arr) (ys := s.arr) (w := w) (k' := .i64) (k := .i64) (a := r.port) (b := s.port) (by kernel_rfl) (fun _ => by kernel_rfl) (fun _ => by kernel_rfl)
  have h1 := eqf_step (t := 33) (d := d) (i := 1) (xs := r.arr) (ys := s.arr) (w := w) (k' := .u64) (k := .u64) (a := r.mac) (b := s.mac) (by kernel_rfl) (fun _ => by kernel_rfl) (fun _ => by kernel_rfl)
  have h2 := eqf_step (t := 33) (d := d) (i := 2) (xs := r.arr) (ys := s.arr) (w := w) (k' := .i64) (k := .i64) (a := r.owner) (b := s.owner) (by kernel_rfl) (fun _ => by kernel_rfl) (fun _ => by kernel_rfl)
  have h3 := eqf_step (t := 33) (d := d) (i := 3) (xs := r.arr) (ys := s.arr) (w := w) (k' := .i64) (k := .i64) (a := r.target) (b := s.target) (by kernel_rfl) (fun _ => by kernel_rfl) (fun _ => by kernel_rfl)
  have h4 := eqf_step (t := 33) (d := d) (i := 4) (xs := r.arr) (ys := s.arr) (w := w) (k' := .i64) (k := .i64) (a := r.old) (b := s.old) (by kernel_rfl) (fun _ => by kernel_rfl) (fun _ => by kernel_rfl)
  have h5 := eqf_step (t := 33) (d := d) (i := 5) (xs := r.arr) (ys := s.arr) (w := w) (k' := .i64) (k := .i64) (a := r.gen) (b := s.gen) (by kernel_rfl) (fun _ => by kernel_rfl) (fun _ => by kernel_rfl)
  have h6 := eqf_step (t := 33) (d := d) (i := 6) (xs := r.arr) (ys := s.arr) (w := w) (k' := .i64) (k := .i64) (a := r.phase) (b := s.phase) (by kernel_rfl) (fun _ => by kernel_rfl) (fun _ => by kernel_rfl)
  have h7 := eqf_step (t := 33) (d := d) (i := 7) (xs := r.arr) (ys := s.arr) (w := w) (k' := .i64) (k := .i64) (a := r.ver) (b := s.ver) (by kernel_rfl) (fun _ => by kernel_rfl) (fun _ => by kernel_rfl)
  have h8 := eqf_step (t := 33) (d := d) (i := 8) (xs := r.arr) (ys := s.arr) (w := w) (k' := .i64) (k := .i64) (a := r.since) (b := s.since) (by kernel_rfl) (fun _ => by kernel_rfl) (fun _ => by kernel_rfl)
  have h9 : (Try.prog.fieldsOf 33).toList.drop 9 = [] := by kernel_rfl
  rw [List.drop_zero] at h0
  rw [h0, h1, h2, h3, h4, h5, h6, h7, h8, h9]
  have hr : (Op.eqFields (d + 1) r.arr s.arr []).run Try.prog w = .ok true w := rfl
  rw [hr]
  obtain ⟨r0, r1, r2, r3, r4, r5, r6, r7, r8⟩ := r
  obtain ⟨s0, s1, s2, s3, s4, s5, s6, s7, s8⟩ := s
  simp only [Rw.mk.injEq]
  clear h0 h1 h2 h3 h4 h5 h6 h7 h8 h9 hr
  simp only [ite_ok, Bool.and_true, Bool.decide_and]
section
variable {c : Bool} {K : Value → Prop} {r s : Rw}
theorem eqg_row (p : BinOp) (x y : Operand) (w : World) : (eqGuard p 33 x y r.v s.v).run Try.prog w = .ok () w := run_eqGuard_agg w p 33 x y r.arr s.arr (by kernel_rfl)
theorem be_row : pv (be .eql 33 c r.v s.v) K = K (.bool (decide (r = s))) := be_gen (fun _ => eqg_row _ _ _ _) (fun w => row_eq 9998 r s w) rfl
theorem ne_row : pv (be .neq 33 c r.v s.v) K = K (.bool !(decide (r = s))) := be_ne (fun _ => eqg_row _ _ _ _) (fun w => row_eq 9998 r s w) rfl
end
def chgV (p : Rw × Int) : Array Value := (chgC.enc p).toArray
theorem chg_eq (d : Nat) (p u : Rw × Int) (w : World) : (Op.equalIn (d + 3) 68 (.agg (chgV p)) (.agg (chgV u))).run Try.prog w = .ok (decide (p = u)) w := by
  obtain ⟨r, a⟩ := p
  obtain ⟨s, b⟩ := u
  rw [run_equalIn_agg w (d + 2) 68 (chgV (r, a)) (chgV (s, b)) (by kernel_rfl) (by kernel_rfl)]
  have h1 := eqf_step (t := 68) (d := d + 1) (i := 1) (xs := chgV (r, a)) (ys := chgV (s, b)) (w := w) (k' := .i64) (k := .i64) (a := a) (b := b) (by kernel_rfl) (fun _ => by kernel_rfl) (fun _ => by kernel_rfl)
  have h9 : (Try.prog.fieldsOf 68).toList.drop 2 = [] := by kernel_rfl
  rw [h9] at h1
  have hr : (Op.eqFields (d + 2) (chgV (r, a)) (chgV (s, b)) []).run Try.prog w = .ok true w := rfl
  rw [hr] at h1
  have hL : ((Try.prog.fieldsOf 68).toList[0]?.map fun f => (f.name != "_", f.type)) = some (true, 33) := by kernel_rfl
  have hx : ∀ w, (((Try.prog.fieldsOf 68).toList[0]?.map fun f => part f.type (chgV (r, a)) f.offset).getD (pure undef)).run Try.prog w = .ok r.v w := fun _ => by kernel_rfl
  have hy : ∀ w, (((Try.prog.fieldsOf 68).toList[0]?.map fun f => part f.type (chgV (s, b)) f.offset).getD (pure undef)).run Try.prog w = .ok s.v w := fun _ => by kernel_rfl
  generalize (Try.prog.fieldsOf 68).toList = L at *
  cases hi : L[0]? with
  | none => rw [hi] at hL; cases hL
  | some f =>
    rw [hi] at hL hx hy
    simp only [Option.map_some, Option.some.injEq, Prod.mk.injEq, Option.getD_some] at hL hx hy
    obtain ⟨hlt, hf⟩ := List.getElem?_eq_some_iff.1 hi
    have hd : L = f :: L.drop 1 := by
      have := List.drop_eq_getElem_cons hlt
      rw [List.drop_zero, hf] at this
      exact this
    rw [hd, Op.eqFields, if_pos (by simpa using hL.1)]
    have hro := row_eq d r s w
    rw [← hL.2] at hro
    simp only [Sem.run_bind, hx, hy, Result.andThen_ok, hro]
    by_cases e : r = s
    · subst e
      have e' : decide (r = r) = true := by simp
      rw [e']
      simp only [Bool.not_true, Bool.false_eq_true, if_false]
      rw [h1]
      by_cases e2 : a = b
      · simp [e2]
      · simp [e2]
    · have e' : decide (r = s) = false := by simp [e]
      rw [e']
      simp [e]
section
variable {c : Bool} {K : Value → Prop} {p u : Rw × Int}
theorem ne_chg : pv (be .neq 68 c (.agg (chgV p)) (.agg (chgV u))) K = K (.bool !(decide (p = u))) :=
  be_ne (fun _ => run_eqGuard_agg _ _ 68 _ _ (chgV p) (chgV u) (by kernel_rfl)) (fun w => chg_eq 9997 p u w) rfl
end
end Go.Proofs.Ytbkgijnmckchbaa
