/- The engine is sound: what 'sem' says of a function's code the run does. -/
import Derived.Test.YtbkgijnmckchbaaOps
namespace Go.Proofs.Ytbkgijnmckchbaa
open Go
set_option linter.unusedSimpArgs false
set_option linter.unusedVariables false
theorem nbeq_ne {t d : Nat} (h : ¬ t = d) : Nat.beq t d = false := by
  cases hb : Nat.beq t d with
  | false => rfl
  | true => exact absurd (Nat.eq_of_beq_eq_true hb) h
structure Rep (n : Nat) (env : Env) (a : Act) : Prop where
  defers : a.defers = []
  size : a.tmps.size = n
  get : ∀ t, a.tmps.getD t undef = env t
theorem Rep.eval {n env a} (h : Rep n env a) : a.eval = ev env := by
  funext x; cases x with
  | tmp t => exact h.get t
  | _ => rfl
theorem getD_set (xs : Array Value) (d t : Nat) (v : Value) (hd : d < xs.size) : (xs.setIfInBounds d v).getD t undef = bif Nat.beq t d then v else xs.getD t undef := by
  rw [Array.getD_eq_getD_getElem?, Array.getD_eq_getD_getElem?, Array.getElem?_setIfInBounds]
  by_cases h : d = t
  · subst h; simp [hd, Nat.beq_refl]
  · simp [h, nbeq_ne (fun e => h e.symm)]
theorem Rep.put {n env a} (h : Rep n env a) {d : Option Nat} (hd : ∀ x, d = some x → x < n) (v : Value) : Rep n (updO env d v) (a.put d v) := by
  cases d with
  | none => exact h
  | some x => exact ⟨h.defers, by simp [Act.put, h.size], fun t => by
      simp only [Act.put, updO, upd]
      rw [getD_set _ _ _ _ (by rw [h.size]; exact hd x rfl), h.get t]⟩
theorem wanted_iff {n ops env a o} (h : Rep n env a) {j : Nat} {b : Bool} (hg : o.guard = some (j, b)) :
    Region.wanted o (yielded ops a.tmps) = true ↔ gval ops env j = .bool b := by
  simp only [Region.wanted, hg, yielded, gval]
  cases hd : (ops[j]?).bind (·.dst) with
  | none => simp [undef]
  | some d =>
    simp only [Option.bind_some]
    have hget := h.get d
    rw [Array.getD_eq_getD_getElem?] at hget
    cases ht : a.tmps[d]? with
    | none => rw [ht] at hget; simp only [Option.getD_none] at hget; rw [← hget]; simp [undef]
    | some x =>
      rw [ht] at hget; simp only [Option.getD_some] at hget; rw [← hget]
      cases x <;> simp
theorem upon_of_res {P : Program} {o : Oper} {a : Act} {K : Value → World → Prop} {K' : Act → World → Prop} {Q : Exit → Act → World → Prop} {r : Result Next}
    (h : resS P r K) (hK : ∀ v w, K v w → K' (a.put o.dst v) w) : o.upon P a K' Q r := by
  unfold resS at h
  split at h
  · exact hK _ _ h
  · exact hK _ _ h
  · exact Calls.mono h fun e w he => by cases e <;> first | exact hK _ _ he | exact he.elim
  · exact Rows.mono h hK
  · exact h.elim
theorem step_sound {P : Program} {ops : Array Oper} {o : Oper} {n : Nat} {env : Env} {a : Act} {w : World} {K : Value → World → Prop} {K' : Act → World → Prop} {Q : Exit → Act → World → Prop}
    (hR : Rep n env a) (h : resS P (runO P ops o env w) K) (hK : ∀ v w, K v w → K' (a.put o.dst v) w) :
    if Region.wanted o (yielded ops a.tmps) then o.wp P a w K' Q ∨ (o.asks P a w ∧ LetsOut Q) else K' (a.put o.dst undef) w := by
  unfold runO at h
  cases hg : o.guard with
  | none =>
    rw [hg] at h
    rw [if_pos (by simp [Region.wanted, hg])]
    exact .inl (upon_of_res (by rw [hR.eval]; exact h) hK)
  | some jb =>
    obtain ⟨j, b⟩ := jb
    rw [hg] at h
    have hw := wanted_iff (ops := ops) hR hg
    by_cases hv : gval ops env j = .bool b
    · rw [if_pos (hw.2 hv)]
      simp only [hv, gR, BEq.rfl, cond_true] at h
      exact .inl (upon_of_res (by rw [hR.eval]; exact h) hK)
    · rw [if_neg (fun e => hv (hw.1 e))]
      have hu : gR (gval ops env j) b w ((execOp (ev env) o).run P w) = .ok (.value undef) w := by
        unfold gR
        split
        · rename_i b' hb
          rw [hb] at hv
          have hne : (b' == b) = false := by cases b' <;> cases b <;> simp_all
          rw [hne]; rfl
        · rfl
      simp only [hu] at h
      exact hK _ _ h
theorem move_run {P : Program} {ops : Array Oper} {o : Oper} {x : Operand} (hm : moveOf o = some x) (env : Env) (w : World) : runO P ops o env w = .ok (.value (ev env x)) w := by
  obtain ⟨dst, op, type, pos, after, guard⟩ := o
  unfold moveOf at hm
  split at hm
  · rename_i y hg hop
    simp only at hg hop
    subst hg; subst hop
    cases hm
    rfl
  · rename_i y hg hop
    simp only at hg hop
    subst hg; subst hop
    cases hm
    rfl
  · cases hm
theorem semL_step {P : Program} {ops : Array Oper} {o : Oper} {l : List Oper} {Q : Env → World → Prop} {env : Env} {w : World} (h : semL P ops (o :: l) Q env w) :
    resS P (runO P ops o env w) fun v w' => semL P ops l Q (updO env o.dst v) w' := by
  unfold semL at h
  cases hm : moveOf o <;> simp only [hm] at h
  · cases he : isEvent o.op <;> simp only [he, cond_true, cond_false] at h
    · obtain ⟨v, h1, h2, _⟩ := quiet_run h
      rw [h2]; exact h1
    · exact event_run h
  · rw [move_run hm]; exact h
theorem semL_sound {P : Program} {ops : Array Oper} {n : Nat} {Q : Env → World → Prop} {Q' : Exit → Act → World → Prop} :
    ∀ (l : List Oper) (env : Env) (a : Act) (w : World), (l.all fun o => match o.dst with | some d => Nat.blt d n | none => true) = true → Rep n env a → semL P ops l Q env w →
      (∀ env a w, Rep n env a → Q env w → Q' .normal a w) → wpList P ops Q' l a w
  | [], _, _, _, _, hR, h, hQ => hQ _ _ _ hR h
  | o :: l, env, a, w, hn, hR, h, hQ => by
    simp only [List.all_cons, Bool.and_eq_true] at hn
    exact step_sound hR (semL_step h) fun v w' hv => semL_sound l _ _ _ hn.2 (hR.put (fun x hx => by
      have h1 := hn.1; rw [hx] at h1
      exact Nat.le_of_ble_eq_true h1) v) hv hQ
theorem semL_mono {P ops Q Q'} : ∀ (l : List Oper) (env : Env) (w : World), (∀ env w, Q env w → Q' env w) → semL P ops l Q env w → semL P ops l Q' env w
  | [], _, _, hq, h => hq _ _ h
  | o :: l, _, _, hq, h => by
    unfold semL at *
    cases hm : moveOf o <;> simp only [hm] at h ⊢
    · cases he : isEvent o.op <;> simp only [he, cond_true, cond_false] at h ⊢
      · exact quiet_mono (fun _ hh => semL_mono l _ _ hq hh) h
      · exact event_mono (fun _ _ hh => semL_mono l _ _ hq hh) h
    · exact semL_mono l _ _ hq h
theorem semL_frame {P ops Q} : ∀ (l : List Oper) (env : Env) (w : World), semL P ops l Q env w → semL P ops l (fun env' w' => Q env' w' ∧ ∀ t, t ∉ l.filterMap (·.dst) → env' t = env t) env w
  | [], _, _, h => ⟨h, fun _ _ => rfl⟩
  | o :: l, env, w, h => by
    have out : ∀ v env' w', (Q env' w' ∧ ∀ t, t ∉ l.filterMap (·.dst) → env' t = updO env o.dst v t) → Q env' w' ∧ ∀ t, t ∉ (o :: l).filterMap (·.dst) → env' t = env t := by
      rintro v env' w' ⟨h1, h2⟩
      refine ⟨h1, fun t ht => ?_⟩
      cases hd : o.dst with
      | none =>
        simp only [hd, updO, List.filterMap_cons] at h2 ht
        exact h2 t ht
      | some d =>
        simp only [hd, updO, List.filterMap_cons, List.mem_cons, not_or] at h2 ht
        rw [h2 t ht.2]
        simp only [upd, nbeq_ne ht.1, cond_false]
    unfold semL at *
    cases hm : moveOf o <;> simp only [hm] at h ⊢
    · cases he : isEvent o.op <;> simp only [he, cond_true, cond_false] at h ⊢
      · exact quiet_mono (fun v hh => semL_mono l _ _ (fun _ _ => out v _ _) (semL_frame l _ _ hh)) h
      · exact event_mono (fun v _ hh => semL_mono l _ _ (fun _ _ => out v _ _) (semL_frame l _ _ hh)) h
    · exact semL_mono l _ _ (fun _ _ => out _ _ _) (semL_frame l _ _ h)
end Go.Proofs.Ytbkgijnmckchbaa
