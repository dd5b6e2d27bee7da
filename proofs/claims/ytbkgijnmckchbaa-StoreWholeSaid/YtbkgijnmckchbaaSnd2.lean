/- The engine is sound, second part: a region that draws its order. -/
import Derived.Test.YtbkgijnmckchbaaSnd
namespace Go.Proofs.Ytbkgijnmckchbaa
open Go
set_option linter.unusedSimpArgs false
set_option linter.unusedVariables false
section
variable {P : Program} {ops : Array Oper} {env0 : Env}
theorem passD_mono {w} : ∀ (l : List (Oper × Nat)) (E : List Nat) (env : Env) {K K' : List Nat → Env → Prop}, (∀ E env, K E env → K' E env) → passD P ops env0 w l E env K → passD P ops env0 w l E env K'
  | [], _, _, _, _, hk, h => hk _ _ h
  | (o, i) :: l, E, env, _, _, hk, h => by
    unfold passD at *
    cases hc : (!isEvent o.op && !E.contains i && (afterOf o).all (E.contains ·)) <;> simp only [hc, cond_true, cond_false] at h ⊢
    · exact passD_mono l _ _ hk h
    · cases hm : moveOf o <;> simp only [hm] at h ⊢
      · exact quiet_mono (fun v hv => passD_mono l _ _ hk hv) h
      · exact passD_mono l _ _ hk h
theorem rechkD_mono {w E T env} : ∀ (l : List (Oper × Nat)) {K K' : Prop}, (K → K') → rechkD P ops env0 w E T env l K → rechkD P ops env0 w E T env l K'
  | [], _, _, hk, h => hk h
  | (o, i) :: l, _, _, hk, h => by
    unfold rechkD at *
    cases hc : (!isEvent o.op && worldly o.op && E.contains i && !T.contains i) <;> simp only [hc, cond_true, cond_false] at h ⊢
    · exact rechkD_mono l hk h
    · exact ⟨h.1, rechkD_mono l hk h.2⟩
theorem allS_iff : ∀ (l : List Nat) (F : Nat → Prop), allS l F ↔ ∀ x ∈ l, F x
  | [], _ => by simp [allS]
  | [i], F => by simp [allS]
  | i :: j :: l, F => by
    have := allS_iff (j :: l) F
    simp only [allS, List.mem_cons, forall_eq_or_imp] at this ⊢
    rw [this]
theorem semD_mono {Q Q' : Env → World → Prop} (hq : ∀ env w, Q env w → Q' env w) : ∀ (f : Nat) (E T : List Nat) (env : Env) (w : World), semD P ops env0 Q f E T env w → semD P ops env0 Q' f E T env w
  | 0, _, _, _, _, h => h.elim
  | f + 1, E, T, env, w, h => by
    unfold semD at *
    refine rechkD_mono _ (fun h => passD_mono _ _ _ (fun E' env' h => ?_) h) h
    cases hc : (readyD E' ops.toList.zipIdx).isEmpty <;> simp only [hc, cond_true, cond_false] at h ⊢
    · rw [allS_iff] at h ⊢
      exact fun x hx => event_mono (fun v w' hv => semD_mono hq f _ _ _ _ hv) (h x hx)
    · exact hq _ _ h
theorem updO_out {env : Env} {d : Option Nat} {v : Value} {t : Nat} (h : d ≠ some t) : updO env d v t = env t := by
  cases d with
  | none => rfl
  | some x =>
    have hx : ¬ t = x := fun e => h (by rw [e])
    simp only [updO, upd, nbeq_ne hx, cond_false]
theorem updO_in {env : Env} {d : Nat} {v : Value} : updO env (some d) v d = v := by
  simp only [updO, upd, Nat.beq_refl, cond_true]
theorem passD_frame {w} : ∀ (l : List (Oper × Nat)) (E : List Nat) (env : Env) {K : List Nat → Env → Prop}, passD P ops env0 w l E env K →
    passD P ops env0 w l E env fun E' env' => K E' env' ∧ ∀ t, (∀ p ∈ l, p.1.dst ≠ some t) → env' t = env t
  | [], _, _, _, h => ⟨h, fun _ _ => rfl⟩
  | (o, i) :: l, E, env, K, h => by
    have out : ∀ v, (∀ E' env', (K E' env' ∧ ∀ t, (∀ p ∈ l, p.1.dst ≠ some t) → env' t = updO env o.dst v t) → K E' env' ∧ ∀ t, (∀ p ∈ (o, i) :: l, p.1.dst ≠ some t) → env' t = env t) := by
      intro v E' env' ⟨h1, h2⟩
      refine ⟨h1, fun t ht => ?_⟩
      rw [h2 t fun p hp => ht p (List.mem_cons_of_mem _ hp)]
      exact updO_out (ht (o, i) List.mem_cons_self)
    unfold passD at *
    cases hc : (!isEvent o.op && !E.contains i && (afterOf o).all (E.contains ·)) <;> simp only [hc, cond_true, cond_false] at h ⊢
    · exact passD_mono l _ _ (fun E' env' ⟨h1, h2⟩ => ⟨h1, fun t ht => h2 t fun p hp => ht p (List.mem_cons_of_mem _ hp)⟩) (passD_frame l _ _ h)
    · cases hm : moveOf o <;> simp only [hm] at h ⊢
      · exact quiet_mono (fun v hv => passD_mono l _ _ (out v) (passD_frame l _ _ hv)) h
      · exact passD_mono l _ _ (out _) (passD_frame l _ _ h)
theorem mem_zip {o : Oper} {i : Nat} : (o, i) ∈ ops.toList.zipIdx ↔ ops[i]? = some o := by
  rw [List.mem_zipIdx_iff_getElem?]; simp
theorem semD_frame {Q : Env → World → Prop} : ∀ (f : Nat) (E T : List Nat) (env : Env) (w : World), semD P ops env0 Q f E T env w →
    semD P ops env0 (fun env' w' => Q env' w' ∧ ∀ t, t ∉ ops.toList.filterMap (·.dst) → env' t = env t) f E T env w
  | 0, _, _, _, _, h => h.elim
  | f + 1, E, T, env, w, h => by
    have out : ∀ t, t ∉ ops.toList.filterMap (·.dst) → ∀ p ∈ ops.toList.zipIdx, p.1.dst ≠ some t := by
      intro t ht p hp e
      obtain ⟨o, i⟩ := p
      exact ht (List.mem_filterMap.2 ⟨o, by have := mem_zip.1 hp; rw [← Array.getElem?_toList] at this; exact List.mem_of_getElem? this, e⟩)
    unfold semD at *
    refine rechkD_mono _ (fun h => passD_mono _ _ _ (fun E' env' ⟨h, hfr⟩ => ?_) (passD_frame _ _ _ h)) h
    cases hc : (readyD E' ops.toList.zipIdx).isEmpty <;> simp only [hc, cond_true, cond_false] at h ⊢
    · rw [allS_iff] at h ⊢
      refine fun x hx => event_mono (fun v w' hv => semD_mono (fun env'' w'' ⟨h1, h2⟩ => ⟨h1, fun t ht => ?_⟩) f _ _ _ _ (semD_frame f _ _ _ _ hv)) (h x hx)
      rw [h2 t ht]
      have hxo : ∃ o, ops[x]? = some o := by
        simp only [readyD, List.mem_map, List.mem_filter, Prod.exists] at hx
        obtain ⟨o, i, ⟨hm, _⟩, rfl⟩ := hx
        exact ⟨o, mem_zip.1 hm⟩
      obtain ⟨o, ho⟩ := hxo
      rw [show ops.getD x default = o by rw [Array.getD_eq_getD_getElem?, ho]; rfl]
      rw [updO_out (out t ht (o, x) (mem_zip.2 ho))]
      exact hfr t (out t ht)
    · exact ⟨h, fun t ht => hfr t (out t ht)⟩
end
end Go.Proofs.Ytbkgijnmckchbaa
