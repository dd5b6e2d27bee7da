/- The engine is sound, third part: whatever order a region draws, it does what 'semD' says. -/
import Derived.Test.YtbkgijnmckchbaaSnd2
namespace Go.Proofs.Ytbkgijnmckchbaa
open Go
set_option linter.unusedSimpArgs false
set_option linter.unusedVariables false
structure Fine (ops : Array Oper) : Prop where
  sel : ∀ (i : Nat) (o : Oper), ops[i]? = some o → ∀ cs b, o.op ≠ Op.select cs b
  back : ∀ (i : Nat) (o : Oper), ops[i]? = some o → ∀ j ∈ afterOf o, j < i
  dst : ∀ (i : Nat) (o : Oper), ops[i]? = some o → isEvent o.op = false → ∃ d, o.dst = some d
  one : ∀ (i j : Nat) (o p : Oper), ops[i]? = some o → ops[j]? = some p → i ≠ j → ∀ d, o.dst = some d → p.dst ≠ some d
  seen : ∀ (i j : Nat) (o p : Oper), ops[i]? = some o → ops[j]? = some p → i ≠ j → ∀ d, p.dst = some d → d ∈ reads ops o → j ∈ afterOf o ∨ i ∈ afterOf p
theorem fine_of {ops : Array Oper} (h : fineD ops = true) : Fine ops := by
  unfold fineD at h
  rw [List.all_eq_true] at h
  have H := fun (i : Nat) (o : Oper) (ho : ops[i]? = some o) => h (o, i) (mem_zip.2 ho)
  simp only [Bool.and_eq_true, List.all_eq_true, Bool.or_eq_true, decide_eq_true_eq, beq_iff_eq, Bool.not_eq_true', Prod.forall, List.contains_eq_mem] at H
  refine ⟨fun i o ho cs b e => ?_, fun i o ho j hj => (H i o ho).1.1.2 j hj, fun i o ho he => ?_, fun i j o p ho hp hij d hd e => ?_, fun i j o p ho hp hij d hd hr => ?_⟩
  · have := (H i o ho).1.1.1; rw [e] at this; simp at this
  · rcases (H i o ho).1.2 with h1 | h1
    · rw [he] at h1; cases h1
    · exact Option.isSome_iff_exists.1 h1
  · rcases (H i o ho).2 p j (mem_zip.2 hp) with h1 | h1
    · exact hij h1
    · rcases h1.1 with h2 | h2
      · rw [hd] at h2; cases h2
      · rw [hd, e] at h2; simp at h2
  · rcases (H i o ho).2 p j (mem_zip.2 hp) with h1 | h1
    · exact absurd h1 hij
    · rcases h1.2 with ((h2 | h2) | h2) | h2
      · rw [hd] at h2; cases h2
      · rw [hd] at h2; simp only [Option.getD_some] at h2; simp [hr] at h2
      · exact .inl (by simpa using h2)
      · exact .inr (by simpa using h2)
section
variable {P : Program} {ops : Array Oper} {env0 : Env}
theorem behind_iff {o : Oper} {t : Nat} : behind ops o t = true ↔ ∃ j ∈ afterOf o, ∃ p, ops[j]? = some p ∧ p.dst = some t := by
  simp only [behind, List.any_eq_true, beq_iff_eq]
  constructor
  · rintro ⟨j, hj, h⟩
    obtain ⟨p, hp, hd⟩ := Option.bind_eq_some_iff.1 h
    exact ⟨j, hj, p, hp, hd⟩
  · rintro ⟨j, hj, p, hp, hd⟩
    exact ⟨j, hj, by rw [hp]; exact hd⟩
/-- an operation's reading is as it was when a slot is written that none of those ahead of it writes -/
theorem ref_put {o : Oper} {env : Env} {d : Option Nat} {v : Value} (h : ∀ t, d = some t → behind ops o t = false) : refE ops o env0 (updO env d v) = refE ops o env0 env := by
  funext t
  unfold refE
  cases hb : behind ops o t with
  | false => rfl
  | true =>
    simp only [cond_true]
    exact updO_out fun e => by rw [h t e] at hb; cases hb
theorem runO_congr {o : Oper} {e1 e2 : Env} {w : World} (hs : ∀ cs b, o.op ≠ .select cs b) (h : ∀ t ∈ reads ops o, e1 t = e2 t) : runO P ops o e1 w = runO P ops o e2 w := by
  have hx : execOp (ev e1) o = execOp (ev e2) o := by
    refine execOp_congr o hs fun x hx => ?_
    cases x with
    | tmp t => exact h t (by unfold reads; exact List.mem_append_left _ (List.mem_filterMap.2 ⟨.tmp t, by simpa using hx, rfl⟩))
    | _ => rfl
  unfold runO
  rw [hx]
  cases hg : o.guard with
  | none => rfl
  | some jb =>
    obtain ⟨j, b⟩ := jb
    have hv : gval ops e1 j = gval ops e2 j := by
      unfold gval
      cases hd : (ops[j]?).bind (·.dst) with
      | none => rfl
      | some d => exact h d (by unfold reads gslot; rw [hg]; simp [hd])
    simp only [hv]
/-- what is settled: the operations that have been weighed; their values; at w also of those that read the world -/
structure Pre (P : Program) (ops : Array Oper) (env0 env : Env) (E : List Nat) : Prop where
  down : ∀ i ∈ E, ∀ (o : Oper), ops[i]? = some o → ∀ j ∈ afterOf o, j ∈ E
  rng : ∀ i ∈ E, ∃ o : Oper, ops[i]? = some o
  pure : ∀ i ∈ E, ∀ (o : Oper), ops[i]? = some o → isEvent o.op = false → worldly o.op = false → ∀ d, o.dst = some d → ∀ w, runO P ops o (refE ops o env0 env) w = .ok (.value (env d)) w
  out : ∀ t, (∀ (i : Nat) (o : Oper), ops[i]? = some o → o.dst ≠ some t) → env t = env0 t
def WF (P : Program) (ops : Array Oper) (env0 env : Env) (E T : List Nat) (w : World) : Prop :=
  ∀ i ∈ E, i ∉ T → ∀ (o : Oper), ops[i]? = some o → isEvent o.op = false → worldly o.op = true → ∀ d, o.dst = some d → runO P ops o (refE ops o env0 env) w = .ok (.value (env d)) w
theorem ref_new (F : Fine ops) {env : Env} {E : List Nat} (hd : ∀ i ∈ E, ∀ (o : Oper), ops[i]? = some o → ∀ j ∈ afterOf o, j ∈ E) {i : Nat} {o : Oper} (ho : ops[i]? = some o) (hi : i ∉ E) (v : Value)
    {j : Nat} {p : Oper} (hp : ops[j]? = some p) (hj : j ∈ E ∨ j = i) : refE ops p env0 (updO env o.dst v) = refE ops p env0 env := by
  refine ref_put fun t ht => ?_
  cases hb : behind ops p t with
  | false => rfl
  | true =>
    obtain ⟨k, hk, q, hq, hqd⟩ := behind_iff.1 hb
    by_cases hki : k = i
    · subst hki
      rcases hj with hj | hj
      · exact absurd (hd j hj p hp k hk) hi
      · exact absurd (F.back _ _ hp k hk) (by omega)
    · exact absurd hqd (F.one i k o q ho hq (fun e => hki e.symm) t ht)
theorem Pre.add (F : Fine ops) {env : Env} {E : List Nat} (h : Pre P ops env0 env E) {i : Nat} {o : Oper} (ho : ops[i]? = some o) (hi : i ∉ E) (ha : ∀ j ∈ afterOf o, j ∈ E) (v : Value)
    (hv : isEvent o.op = false → worldly o.op = false → ∀ w, runO P ops o (refE ops o env0 env) w = .ok (.value v) w) : Pre P ops env0 (updO env o.dst v) (i :: E) := by
  refine ⟨?_, ?_, ?_, ?_⟩
  · intro j hj p hp k hk
    rcases List.mem_cons.1 hj with rfl | hj
    · rw [ho] at hp; cases hp; exact List.mem_cons_of_mem _ (ha k hk)
    · exact List.mem_cons_of_mem _ (h.down j hj p hp k hk)
  · intro j hj
    rcases List.mem_cons.1 hj with rfl | hj
    · exact ⟨o, ho⟩
    · exact h.rng j hj
  · intro j hj p hp he hw d hd w
    rcases List.mem_cons.1 hj with rfl | hj
    · rw [ho] at hp; cases hp
      rw [ref_new F h.down ho hi v ho (.inr rfl), hd, updO_in]
      exact hv he hw w
    · rw [ref_new F h.down ho hi v hp (.inl hj), updO_out (F.one j i p o hp ho (fun e => hi (e ▸ hj)) d hd)]
      exact h.pure j hj p hp he hw d hd w
  · intro t ht
    rw [updO_out (ht i o ho)]
    exact h.out t ht
theorem WF.add (F : Fine ops) {env : Env} {E T : List Nat} {w : World} (hp0 : Pre P ops env0 env E) (h : WF P ops env0 env E T w) {i : Nat} {o : Oper} (ho : ops[i]? = some o) (hi : i ∉ E) (v : Value)
    (hv : isEvent o.op = false → worldly o.op = true → runO P ops o (refE ops o env0 env) w = .ok (.value v) w) : WF P ops env0 (updO env o.dst v) (i :: E) T w := by
  intro j hj hT p hp he hw d hd
  rcases List.mem_cons.1 hj with rfl | hj
  · rw [ho] at hp; cases hp
    rw [ref_new F hp0.down ho hi v ho (.inr rfl), hd, updO_in]
    exact hv he hw
  · rw [ref_new F hp0.down ho hi v hp (.inl hj), updO_out (F.one j i p o hp ho (fun e => hi (e ▸ hj)) d hd)]
    exact h j hj hT p hp he hw d hd
theorem move_still {o : Oper} {x : Operand} (hm : moveOf o = some x) : worldly o.op = false := by
  unfold moveOf at hm
  split at hm
  · rename_i y hg hop; rw [hop]; rfl
  · rename_i y hg hop; rw [hop]; rfl
  · cases hm
theorem rechk_spec {w E T env} : ∀ (l : List (Oper × Nat)) {K : Prop}, rechkD P ops env0 w E T env l K →
    K ∧ ∀ (o : Oper) (i : Nat), (o, i) ∈ l → isEvent o.op = false → worldly o.op = true → i ∈ E → i ∉ T → runO P ops o (refE ops o env0 env) w = .ok (.value (env (o.dst.getD 0))) w
  | [], _, h => ⟨h, fun _ _ hm => by cases hm⟩
  | (o, i) :: l, K, h => by
    unfold rechkD at h
    cases hc : (!isEvent o.op && worldly o.op && E.contains i && !T.contains i) <;> simp only [hc, cond_true, cond_false] at h
    · obtain ⟨h1, h2⟩ := rechk_spec l h
      refine ⟨h1, fun p j hm he hw hE hT => ?_⟩
      rcases List.mem_cons.1 hm with hm | hm
      · cases hm
        simp [he, hw, hE, hT] at hc
      · exact h2 p j hm he hw hE hT
    · obtain ⟨h1, h2⟩ := rechk_spec l h.2
      refine ⟨h1, fun p j hm he hw hE hT => ?_⟩
      rcases List.mem_cons.1 hm with hm | hm
      · cases hm
        obtain ⟨v, rfl, hr, _⟩ := quiet_run h.1
        exact hr
      · exact h2 p j hm he hw hE hT
/-- behind the weighing of the operations from place k on: all that can be weighed has been -/
theorem pass_spec (F : Fine ops) {w : World} {T : List Nat} : ∀ (l : List (Oper × Nat)) (k : Nat), (∀ (o : Oper) (i : Nat), (o, i) ∈ l ↔ (ops[i]? = some o ∧ k ≤ i)) → l.Pairwise (fun a b => a.2 < b.2) → ∀ (E : List Nat) (env : Env) (K : List Nat → Env → Prop),
    Pre P ops env0 env E → WF P ops env0 env E T w → (∀ (i : Nat) (o : Oper), ops[i]? = some o → isEvent o.op = false → i < k → (∀ j ∈ afterOf o, j ∈ E) → i ∈ E) → passD P ops env0 w l E env K →
    ∃ E' env', K E' env' ∧ Pre P ops env0 env' E' ∧ WF P ops env0 env' E' T w ∧ (∀ (i : Nat) (o : Oper), ops[i]? = some o → isEvent o.op = false → (∀ j ∈ afterOf o, j ∈ E') → i ∈ E') ∧
      (∀ i, i ∈ E → i ∈ E') ∧ (∀ (i : Nat) (o : Oper), ops[i]? = some o → isEvent o.op = true → (i ∈ E' ↔ i ∈ E)) ∧ (∀ i ∈ E, ∀ (o : Oper), ops[i]? = some o → ∀ d, o.dst = some d → env' d = env d)
  | [], k, hl, _, E, env, K, hp, hw, hc, h => by
    refine ⟨E, env, h, hp, hw, fun i o ho he ha => hc i o ho he ?_ ha, fun _ h => h, fun _ _ _ _ => Iff.rfl, fun _ _ _ _ _ _ => rfl⟩
    by_cases hki : k ≤ i
    · exact absurd ((hl o i).2 ⟨ho, hki⟩) (by simp)
    · omega
  | (o, i) :: l, k, hl, hs, E, env, K, hp, hw, hc, h => by
    have hmem := (hl o i).1 List.mem_cons_self
    rw [List.pairwise_cons] at hs
    have hl' : ∀ p j, (p, j) ∈ l ↔ (ops[j]? = some p ∧ i + 1 ≤ j) := by
      intro p j
      constructor
      · intro hm
        exact ⟨((hl p j).1 (List.mem_cons_of_mem _ hm)).1, hs.1 _ hm⟩
      · rintro ⟨hpj, hj⟩
        rcases List.mem_cons.1 ((hl p j).2 ⟨hpj, by omega⟩) with e | e
        · cases e; omega
        · exact e
    have hmin : ∀ j p, ops[j]? = some p → j < i → j < k := by
      intro j p hpj hj
      by_cases hkj : k ≤ j
      · rcases List.mem_cons.1 ((hl p j).2 ⟨hpj, hkj⟩) with e | e
        · cases e; omega
        · have := hs.1 _ e; simp only at this; omega
      · omega
    unfold passD at h
    cases hcond : (!isEvent o.op && !E.contains i && (afterOf o).all (E.contains ·)) <;> simp only [hcond, cond_true, cond_false] at h
    · have hc' : ∀ j p, ops[j]? = some p → isEvent p.op = false → j < i + 1 → (∀ x ∈ afterOf p, x ∈ E) → j ∈ E := by
        intro j p hpj he hj ha
        rcases Nat.lt_succ_iff_lt_or_eq.1 hj with hj | rfl
        · exact hc j p hpj he (hmin j p hpj hj) ha
        · rw [hmem.1] at hpj; cases hpj
          by_cases hE : j ∈ E
          · exact hE
          · have hall : (afterOf o).all (E.contains ·) = true := by simpa using ha
            rw [he, hall] at hcond
            simp [hE] at hcond
      exact pass_spec F l (i + 1) hl' hs.2 E env K hp hw hc' h
    · simp only [Bool.and_eq_true, Bool.not_eq_true', List.all_eq_true, List.contains_eq_mem, decide_eq_true_eq, decide_eq_false_iff_not] at hcond
      obtain ⟨⟨he, hiE⟩, ha⟩ := hcond
      have fin : ∀ v, (∀ w', worldly o.op = false → runO P ops o (refE ops o env0 env) w' = .ok (.value v) w') → (worldly o.op = true → runO P ops o (refE ops o env0 env) w = .ok (.value v) w) →
          passD P ops env0 w l (i :: E) (updO env o.dst v) K →
          ∃ E' env', K E' env' ∧ Pre P ops env0 env' E' ∧ WF P ops env0 env' E' T w ∧ (∀ (i : Nat) (o : Oper), ops[i]? = some o → isEvent o.op = false → (∀ j ∈ afterOf o, j ∈ E') → i ∈ E') ∧
            (∀ i, i ∈ E → i ∈ E') ∧ (∀ (i : Nat) (o : Oper), ops[i]? = some o → isEvent o.op = true → (i ∈ E' ↔ i ∈ E)) ∧ (∀ i ∈ E, ∀ (o : Oper), ops[i]? = some o → ∀ d, o.dst = some d → env' d = env d) := by
        intro v h1 h2 h3
        have hp' := hp.add F hmem.1 hiE ha v (fun _ hw w' => h1 w' hw)
        have hw' := hw.add F hp hmem.1 hiE v (fun _ hw => h2 hw)
        have hc' : ∀ j p, ops[j]? = some p → isEvent p.op = false → j < i + 1 → (∀ x ∈ afterOf p, x ∈ i :: E) → j ∈ i :: E := by
          intro j p hpj hej hj haj
          rcases Nat.lt_succ_iff_lt_or_eq.1 hj with hj | rfl
          · refine List.mem_cons_of_mem _ (hc j p hpj hej (hmin j p hpj hj) fun x hx => ?_)
            rcases List.mem_cons.1 (haj x hx) with rfl | hxE
            · exact absurd (F.back j p hpj x hx) (by omega)
            · exact hxE
          · exact List.mem_cons_self
        obtain ⟨E', env', k1, k2, k3, k4, k5, k6, k7⟩ := pass_spec F l (i + 1) hl' hs.2 (i :: E) _ K hp' hw' hc' h3
        refine ⟨E', env', k1, k2, k3, k4, fun j hj => k5 j (List.mem_cons_of_mem _ hj), fun j p hpj hej => ?_, fun j hj p hpj d hd => ?_⟩
        · rw [k6 j p hpj hej]
          constructor
          · intro hj
            rcases List.mem_cons.1 hj with rfl | hj
            · rw [hmem.1] at hpj; cases hpj; rw [he] at hej; cases hej
            · exact hj
          · exact List.mem_cons_of_mem _
        · rw [k7 j (List.mem_cons_of_mem _ hj) p hpj d hd]
          exact updO_out (F.one j i p o hpj hmem.1 (fun e => hiE (e ▸ hj)) d hd)
      cases hm : moveOf o <;> simp only [hm] at h
      · obtain ⟨v, h1, h2, h3⟩ := quiet_run h
        exact fin v (fun w' hw' => h3 hw' w') (fun _ => h2) h1
      · exact fin _ (fun w' _ => move_run hm _ w') (fun _ => move_run hm _ w) h
end
end Go.Proofs.Ytbkgijnmckchbaa
