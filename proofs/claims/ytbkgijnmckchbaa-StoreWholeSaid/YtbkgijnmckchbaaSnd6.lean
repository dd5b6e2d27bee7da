/- The engine is sound: 'sem' of a function's body gives the call. -/
import Derived.Test.YtbkgijnmckchbaaSnd5
namespace Go.Proofs.Ytbkgijnmckchbaa
open Go
set_option linter.unusedSimpArgs false
set_option linter.unusedVariables false
section
variable {P : Program} {phL : Nat → List Nat} {phJ : Nat → Option (List Nat)}
def liftQ (n : Nat) (Q : Exit → Env → World → Prop) : Exit → Act → World → Prop := fun e a w => ∃ env, Rep n env a ∧ Q e env w
theorem condS_cases {v : Value} {X Y : Prop} (h : CondS v X Y) : ∃ b, v = .bool b ∧ (b = true → X) ∧ (b = false → Y) := by
  obtain ⟨h⟩ := h
  unfold condS at h
  split at h
  · exact ⟨_, rfl, h.1, h.2⟩
  · exact h.elim
theorem sem_sound (hm : P.follows .mixedOrders = true) {n : Nat} : ∀ (c : Code) {Q : Exit → Env → World → Prop} {env : Env} {a : Act} {w : World}, okC n c = true → Rep n env a → sem P phL phJ c Q env w → c.wp P (liftQ n Q) a w
  | .skip, Q, env, a, w, _, hR, h => wp_skip ⟨env, hR, h⟩
  | .label _, Q, env, a, w, _, hR, h => wp_label ⟨env, hR, h⟩
  | .ret, Q, env, a, w, _, hR, h => wp_ret ⟨env, hR, h⟩
  | .exit _, Q, env, a, w, _, hR, h => wp_exit ⟨env, hR, h⟩
  | .seq x y, Q, env, a, w, hn, hR, h => by
    simp only [okC, Bool.and_eq_true] at hn
    refine wp_seq ?_
    unfold sem at h
    cases hj : phJ (key y) with
    | none =>
      simp only [hj] at h
      refine Code.wp_mono (fun e a' w' he => ?_) (sem_sound hm x hn.1 hR h)
      obtain ⟨env', hR', he⟩ := he
      cases e with
      | normal => exact sem_sound hm y hn.2 hR' he
      | _ => exact ⟨env', hR', he⟩
    | some L =>
      simp only [hj] at h
      obtain ⟨h⟩ := h
      refine Code.wp_mono (fun e a' w' he => ?_) (sem_sound hm x hn.1 hR (sem_frame x env w h))
      obtain ⟨env', hR', he, hfr⟩ := he
      cases e with
      | normal =>
        have hb := he ((outside (writes x) L).map env')
        rw [setL_self fun t ht _ => hfr t ht] at hb
        exact sem_sound hm y hn.2 hR' hb
      | _ => exact ⟨env', hR', he⟩
  | .cond c x y, Q, env, a, w, hn, hR, h => by
    simp only [okC, Bool.and_eq_true] at hn
    unfold sem at h
    obtain ⟨b, hb, h1, h2⟩ := condS_cases h
    refine wp_cond_split (t := b) (by rw [hR.eval]; exact hb) (fun e => sem_sound hm x hn.1 hR (h1 e)) (fun e => sem_sound hm y hn.2 hR (h2 e))
  | .block id c, Q, env, a, w, hn, hR, h => by
    refine wp_block ?_
    unfold sem at h
    refine Code.wp_mono (fun e a' w' he => ?_) (sem_sound hm c hn hR h)
    obtain ⟨env', hR', he⟩ := he
    cases e with
    | exit i =>
      simp only [Exit.inBlock]
      by_cases hi : i = id
      · subst hi
        simp only [Nat.beq_refl, cond_true] at he
        rw [if_pos rfl]; exact ⟨env', hR', he⟩
      · simp only [nbeq_ne hi, cond_false] at he
        rw [if_neg hi]; exact ⟨env', hR', he⟩
    | _ => exact ⟨env', hR', he⟩
  | .loop c, Q, env, a, w, hn, hR, h => by
    unfold sem at h
    obtain ⟨I, μ, h0, hr⟩ := h
    have hlay : ∀ (env' : Env) (a' : Act), Rep n env' a' → (phL (key c)).map (fun t => a'.tmps.getD t undef) = (phL (key c)).map env' := fun env' a' hR' => List.map_congr_left fun t _ => hR'.get t
    refine wp_loop (fun a' w' => ∃ j, Rep n (setL (setL env j (outside (writes c) (phL (key c))) 0) ((phL (key c)).map fun t => a'.tmps.getD t undef) (phL (key c)) 0) a' ∧ I ((phL (key c)).map fun t => a'.tmps.getD t undef) w')
      (fun a' w' => μ ((phL (key c)).map fun t => a'.tmps.getD t undef) w') ⟨(outside (writes c) (phL (key c))).map env, ?_, ?_⟩ ?_
    · rw [hlay env a hR, setL_self fun _ _ _ => rfl]; exact hR
    · rw [hlay env a hR]; exact h0
    · rintro a1 w1 ⟨j, hR1, hI⟩
      refine Code.wp_mono (fun e a' w' he => ?_) (sem_sound hm c hn hR1 (sem_frame c _ w1 (hr _ w1 hI j)))
      obtain ⟨env', hR', he, hfr⟩ := he
      cases e with
      | normal =>
        simp only [Exit.then]
        rw [hlay env' a' hR']
        refine ⟨⟨(outside (writes c) (phL (key c))).map env', ?_, he.1⟩, he.2⟩
        rw [setL_self]
        · exact hR'
        · intro t ht hL
          rw [hfr t ht, setL_out _ 0 hL, setL_out _ 0 fun hmm => ht (mem_outside.1 hmm).1]
      | _ => exact ⟨env', hR', he⟩
  | .region id ops false, Q, env, a, w, hn, hR, h => wp_region_list (semL_sound _ _ _ _ hn hR h fun env a w hR h => ⟨env, hR, h⟩)
  | .region id ops true, Q, env, a, w, hn, hR, h => by
    unfold sem at h
    cases hf : fineD ops <;> simp only [hf, cond_true, cond_false] at h
    exact semD_sound hm hf hn hR h fun env a w hR h => ⟨env, hR, h⟩
  | .scope _, _, _, _, _, _, _, h => by unfold sem at h; exact h.elim
  | .goto _, _, _, _, _, _, _, h => by unfold sem at h; exact h.elim
  | .rangeFunc .., _, _, _, _, _, _, h => by unfold sem at h; exact h.elim
  | .refuse _, _, _, _, _, _, _, h => by unfold sem at h; exact h.elim
theorem rets_sound {n : Nat} {env : Env} {a : Act} (hR : Rep n env a) {w : World} {K : Value → World → Prop} {fn : Func} (h : retsS P env w K fn.results.toList []) :
    ∃ v, (results fn a.tmps).run P w = .ok v w ∧ K v w := by
  have key : ∀ (rs : List ResultVar) (vs : List Value), retsS P env w K rs vs →
      ∃ us : List Value, (rs.mapM (m := Sem) fun | .tmp t => pure (a.tmps.getD t undef) | .cell p t => do loadVar t (← asAddr (a.tmps.getD p undef))).run P w = .ok us w ∧
        ((∀ v, vs ++ us = [v] → K v w) ∧ ((vs ++ us).length ≠ 1 → K (.tuple (vs ++ us).toArray) w)) := by
    intro rs
    induction rs with
    | nil =>
      intro vs h
      refine ⟨[], by simp, ?_⟩
      rw [List.append_nil]
      match vs, h with
      | [], h => exact ⟨fun v e => (by cases e), fun _ => h⟩
      | [v], h => exact ⟨fun u e => by cases e; exact h, fun e => absurd rfl e⟩
      | v :: u :: vs, h => exact ⟨fun u e => (by cases e), fun _ => h⟩
    | cons r rs ih =>
      intro vs h
      cases r with
      | tmp t =>
        obtain ⟨us, h1, h2⟩ := ih _ h
        refine ⟨env t :: us, ?_, by simpa using h2⟩
        simp only [List.mapM_cons, Sem.run_bind, Sem.run_pure, Result.andThen_ok, hR.get t, h1]
      | cell p ty =>
        obtain ⟨v, h, hv⟩ := ldS_var h
        obtain ⟨us, h1, h2⟩ := ih _ h
        refine ⟨v :: us, ?_, by simpa using h2⟩
        simp only [List.mapM_cons, Sem.run_bind, Sem.run_pure, hR.get p] at hv ⊢
        rw [hv]
        simp only [Result.andThen_ok, h1]
  obtain ⟨us, h1, h2, h3⟩ := key _ _ h
  rw [List.nil_append] at h2 h3
  refine ⟨if h : us.toArray.size = 1 then us.toArray[0] else .tuple us.toArray, ?_, ?_⟩
  · have e : results fn a.tmps = (List.toArray <$> fn.results.toList.mapM (m := Sem) fun | .tmp t => pure (a.tmps.getD t undef) | .cell p t => do loadVar t (← asAddr (a.tmps.getD p undef))) >>= fun vs => pure (if h : vs.size = 1 then vs[0] else .tuple vs) := by
      unfold results
      rw [← Array.mapM_eq_mapM_toList]
      rfl
    rw [e, Sem.run_bind, map_eq_pure_bind, Sem.run_bind, h1]
    simp only [Result.andThen_ok, Sem.run_pure]
  · split
    · rename_i hs
      match us, h2, hs with
      | [v], h2, _ => exact h2 v rfl
    · rename_i hs
      exact h3 (by simpa using hs)
theorem calls_of_sem (hm : P.follows .mixedOrders = true) {f : FuncId} {fn : Func} (hf : P.funcs[f]? = some fn) (hb : fn.body.isSome = true) {args : List Value} {w : World} {K : Value → World → Prop}
    (hn : (okC fn.ntmps (fn.body.getD .skip) && Nat.ble args.length fn.ntmps) = true) (h : sem P phL phJ (fn.body.getD .skip) (bodyS P fn.results.toList K) (envL args) w) : Calls P f args.toArray w (retP K) := by
  obtain ⟨c, hc⟩ := Option.isSome_iff_exists.1 hb
  rw [hc] at hn h
  simp only [Option.getD_some, Bool.and_eq_true] at hn h
  refine calls_of_wp hf hc (Code.wp_mono (fun e a w' he => ?_) (sem_sound hm c hn.1 (a := { tmps := args.toArray ++ Array.replicate (fn.ntmps - args.toArray.size) undef, defers := [] }) ⟨rfl, ?_, fun t => ?_⟩ h))
  · obtain ⟨env, hR, he⟩ := he
    cases e with
    | normal => obtain ⟨v, h1, h2⟩ := rets_sound hR he; exact ⟨hR.defers, v, h1, h2⟩
    | ret => obtain ⟨v, h1, h2⟩ := rets_sound hR he; exact ⟨hR.defers, v, h1, h2⟩
    | _ => exact he.elim
  · have := Nat.le_of_ble_eq_true hn.2
    simp only [Array.size_append, List.size_toArray, Array.size_replicate]
    omega
  · rw [Array.getD_eq_getD_getElem?, Array.getElem?_append]
    simp only [List.size_toArray, envL, nth]
    split
    · rename_i ht
      simp [List.getD_eq_getElem?_getD]
    · rename_i ht
      rw [List.getD_eq_getElem?_getD, List.getElem?_eq_none (by omega)]
      rw [Array.getElem?_replicate]
      split <;> rfl
end
end Go.Proofs.Ytbkgijnmckchbaa
