/- The engine is sound, last part: the whole of 'sem'; a call. -/
import Derived.Test.YtbkgijnmckchbaaSnd4
namespace Go.Proofs.Ytbkgijnmckchbaa
open Go
set_option linter.unusedSimpArgs false
set_option linter.unusedVariables false
theorem setL_out {env : Env} {vals : List Value} {t : Nat} : ∀ (L : List Nat) (i : Nat), t ∉ L → setL env vals L i t = env t
  | [], _, _ => rfl
  | d :: ds, i, h => by
    simp only [List.mem_cons, not_or] at h
    simp only [setL, nbeq_ne h.1, cond_false]
    exact setL_out ds (i + 1) h.2
theorem nth_append {f : Nat → Value} (pre : List Value) (L : List Nat) (d : Nat) : nth (pre ++ f d :: L.map f) pre.length = f d := by
  simp [nth]
theorem setL_map {env f : Env} {t : Nat} : ∀ (L : List Nat) (pre : List Value), t ∈ L → setL env (pre ++ L.map f) L pre.length t = f t
  | [], _, h => by cases h
  | d :: ds, pre, h => by
    by_cases hd : t = d
    · subst hd
      simp only [setL, Nat.beq_refl, cond_true, List.map_cons, nth_append]
    · simp only [setL, nbeq_ne hd, cond_false, List.map_cons]
      have := setL_map (env := env) (f := f) (t := t) ds (pre ++ [f d]) ((List.mem_cons.1 h).resolve_left hd)
      simpa using this
theorem setL_in {env f : Env} {t : Nat} (L : List Nat) (h : t ∈ L) : setL env (L.map f) L 0 t = f t := by
  have := setL_map (env := env) (f := f) (t := t) L [] h
  simpa using this
theorem mem_outside {W L : List Nat} {t : Nat} : t ∈ outside W L ↔ t ∈ W ∧ t ∉ L := by simp [outside]
/-- a frame that has kept what W does not name is the one that is laid anew out of its own slots -/
theorem setL_self {env env' : Env} {W L : List Nat} (h : ∀ t, t ∉ W → t ∉ L → env' t = env t) : setL (setL env ((outside W L).map env') (outside W L) 0) (L.map env') L 0 = env' := by
  funext t
  by_cases hL : t ∈ L
  · exact setL_in L hL
  · rw [setL_out L 0 hL]
    by_cases hW : t ∈ W
    · exact setL_in _ (mem_outside.2 ⟨hW, hL⟩)
    · rw [setL_out _ 0 fun e => hW (mem_outside.1 e).1, h t hW hL]
section
variable {P : Program} {phL : Nat → List Nat} {phJ : Nat → Option (List Nat)}
theorem condS_mono {v : Value} {X Y X' Y' : Prop} (hx : X → X') (hy : Y → Y') (h : CondS v X Y) : CondS v X' Y' := by
  obtain ⟨h⟩ := h; refine ⟨?_⟩
  unfold condS at *
  split at h
  · exact ⟨fun e => hx (h.1 e), fun e => hy (h.2 e)⟩
  · exact h.elim
theorem sem_mono : ∀ (c : Code) {Q Q' : Exit → Env → World → Prop} (env : Env) (w : World), (∀ e env w, Q e env w → Q' e env w) → sem P phL phJ c Q env w → sem P phL phJ c Q' env w
  | .skip, _, _, _, _, hq, h => hq _ _ _ h
  | .label _, _, _, _, _, hq, h => hq _ _ _ h
  | .ret, _, _, _, _, hq, h => hq _ _ _ h
  | .exit _, _, _, _, _, hq, h => hq _ _ _ h
  | .seq a b, Q, Q', env, w, hq, h => by
    unfold sem at *
    cases hj : phJ (key b) with
    | none =>
      simp only [hj] at h ⊢
      refine sem_mono a env w (fun e env w he => ?_) h
      cases e <;> first | exact hq _ _ _ he | exact sem_mono b env w hq he
    | some L =>
      simp only [hj] at h ⊢
      obtain ⟨h⟩ := h; refine ⟨?_⟩
      refine sem_mono a env w (fun e env' w he => ?_) h
      cases e <;> first | exact hq _ _ _ he | exact fun j => sem_mono b _ w hq (he j)
  | .cond c x y, Q, Q', env, w, hq, h => condS_mono (sem_mono x env w hq) (sem_mono y env w hq) h
  | .block id c, Q, Q', env, w, hq, h => by
    unfold sem at *
    refine sem_mono c env w (fun e env w he => ?_) h
    cases e with
    | exit i =>
      simp only at he ⊢
      cases hi : Nat.beq i id <;> simp only [hi, cond_true, cond_false] at he ⊢ <;> exact hq _ _ _ he
    | _ => exact hq _ _ _ he
  | .loop c, Q, Q', env, w, hq, h => by
    unfold sem at *
    obtain ⟨I, μ, h0, hr⟩ := h
    refine ⟨I, μ, h0, fun s w hI j => sem_mono c _ w (fun e env w he => ?_) (hr s w hI j)⟩
    cases e <;> first | exact hq _ _ _ he | exact he
  | .region _ ops false, Q, Q', env, w, hq, h => semL_mono _ _ _ (hq .normal) h
  | .region _ ops true, Q, Q', env, w, hq, h => by
    unfold sem at *
    cases hf : fineD ops <;> simp only [hf, cond_true, cond_false] at h ⊢
    exact semD_mono (hq .normal) _ _ _ _ _ h
  | .scope _, _, _, _, _, _, h => by unfold sem at h; exact h.elim
  | .goto _, _, _, _, _, _, h => by unfold sem at h; exact h.elim
  | .rangeFunc .., _, _, _, _, _, h => by unfold sem at h; exact h.elim
  | .refuse _, _, _, _, _, _, h => by unfold sem at h; exact h.elim
theorem sem_frame : ∀ (c : Code) {Q : Exit → Env → World → Prop} (env : Env) (w : World), sem P phL phJ c Q env w →
    sem P phL phJ c (fun e env' w' => Q e env' w' ∧ ∀ t, t ∉ writes c → env' t = env t) env w
  | .skip, _, _, _, h => ⟨h, fun _ _ => rfl⟩
  | .label _, _, _, _, h => ⟨h, fun _ _ => rfl⟩
  | .ret, _, _, _, h => ⟨h, fun _ _ => rfl⟩
  | .exit _, _, _, _, h => ⟨h, fun _ _ => rfl⟩
  | .seq a b, Q, env, w, h => by
    unfold sem at *
    cases hj : phJ (key b) with
    | none =>
      simp only [hj] at h ⊢
      refine sem_mono a env w (fun e env1 w he => ?_) (sem_frame a env w h)
      obtain ⟨he, hfr⟩ := he
      have hfr' : ∀ t, t ∉ writes (.seq a b) → env1 t = env t := fun t ht => hfr t fun hm => ht (List.mem_append_left _ hm)
      cases e with
      | normal =>
        refine sem_mono b env1 w (fun e env2 w he2 => ⟨he2.1, fun t ht => ?_⟩) (sem_frame b env1 w he)
        rw [he2.2 t fun hm => ht (List.mem_append_right _ hm), hfr' t ht]
      | _ => exact ⟨he, hfr'⟩
    | some L =>
      simp only [hj] at h ⊢
      obtain ⟨h⟩ := h; refine ⟨?_⟩
      refine sem_mono a env w (fun e env1 w he => ?_) (sem_frame a env w h)
      obtain ⟨he, hfr⟩ := he
      have hfr' : ∀ t, t ∉ writes (.seq a b) → env1 t = env t := fun t ht => hfr t fun hm => ht (List.mem_append_left _ hm)
      cases e with
      | normal =>
        -- behind the join every slot is one that is laid anew, or one that was kept
        intro j
        refine sem_mono b _ w (fun e env2 w he2 => ⟨he2.1, fun t ht => ?_⟩) (sem_frame b _ w (he j))
        have h1 : t ∉ writes b := fun hm => ht (List.mem_append_right _ hm)
        have h2 : t ∉ writes a := fun hm => ht (List.mem_append_left _ hm)
        rw [he2.2 t h1]
        by_cases hL : t ∈ L
        · rw [setL_in L hL, hfr' t ht]
        · rw [setL_out L 0 hL, setL_out _ 0 fun hm => h2 (mem_outside.1 hm).1]
      | _ => exact ⟨he, hfr'⟩
  | .cond c x y, Q, env, w, h =>
    condS_mono (fun hx => sem_mono x env w (fun e env' w he => ⟨he.1, fun t ht => he.2 t fun hm => ht (List.mem_append_left _ hm)⟩) (sem_frame x env w hx))
      (fun hy => sem_mono y env w (fun e env' w he => ⟨he.1, fun t ht => he.2 t fun hm => ht (List.mem_append_right _ hm)⟩) (sem_frame y env w hy)) h
  | .block id c, Q, env, w, h => by
    unfold sem at *
    refine sem_mono c env w (fun e env' w he => ?_) (sem_frame c env w h)
    cases e with
    | exit i =>
      obtain ⟨he, hfr⟩ := he
      simp only at he ⊢
      cases hi : Nat.beq i id <;> simp only [hi, cond_true, cond_false] at he ⊢ <;> exact ⟨he, hfr⟩
    | _ => exact he
  | .loop c, Q, env, w, h => by
    unfold sem at *
    obtain ⟨I, μ, h0, hr⟩ := h
    refine ⟨fun s w => I s w ∧ ∀ t, t ∉ writes c → setL env s (phL (key c)) 0 t = env t, μ, ⟨h0, fun t _ => ?_⟩, fun s w hI j => ?_⟩
    · by_cases hL : t ∈ phL (key c)
      · exact setL_in _ hL
      · exact setL_out _ 0 hL
    · refine sem_mono c _ w (fun e env' w he => ?_) (sem_frame c _ w (hr s w hI.1 j))
      obtain ⟨he, hfr⟩ := he
      have hk : ∀ t, t ∉ writes c → env' t = env t := fun t ht => by
        rw [hfr t ht]
        by_cases hL : t ∈ phL (key c)
        · have := hI.2 t ht
          rw [← this]
          exact setL_swap _ hL
        · rw [setL_out _ 0 hL, setL_out _ 0 fun hm => ht (mem_outside.1 hm).1]
      cases e with
      | normal =>
        refine ⟨⟨he.1, fun t ht => ?_⟩, he.2⟩
        by_cases hL : t ∈ phL (key c)
        · rw [setL_in _ hL]; exact hk t ht
        · exact setL_out _ 0 hL
      | _ => exact ⟨he, hk⟩
  | .region _ ops false, Q, env, w, h => semL_frame _ _ _ h
  | .region _ ops true, Q, env, w, h => by
    unfold sem at *
    cases hf : fineD ops <;> simp only [hf, cond_true, cond_false] at h ⊢
    exact semD_frame _ _ _ _ _ h
  | .scope _, _, _, _, h => by unfold sem at h; exact h.elim
  | .goto _, _, _, _, h => by unfold sem at h; exact h.elim
  | .rangeFunc .., _, _, _, h => by unfold sem at h; exact h.elim
  | .refuse _, _, _, _, h => by unfold sem at h; exact h.elim
where
  setL_swap {env env1 : Env} {vals : List Value} {t : Nat} : ∀ (L : List Nat) {i : Nat}, t ∈ L → setL env vals L i t = setL env1 vals L i t
    | [], _, h => by cases h
    | d :: ds, i, h => by
      by_cases hd : t = d
      · subst hd; simp only [setL, Nat.beq_refl, cond_true]
      · simp only [setL, nbeq_ne hd, cond_false]
        exact setL_swap ds ((List.mem_cons.1 h).resolve_left hd)
end
end Go.Proofs.Ytbkgijnmckchbaa
