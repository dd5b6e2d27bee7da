/- The engine is sound, fourth part: all orders of a region; the whole of 'sem'; a call. -/
import Derived.Test.YtbkgijnmckchbaaSnd3
namespace Go.Proofs.Ytbkgijnmckchbaa
open Go
set_option linter.unusedSimpArgs false
set_option linter.unusedVariables false
section
variable {P : Program} {ops : Array Oper} {env0 : Env}
theorem zip_pairwise : ops.toList.zipIdx.Pairwise (fun a b => a.2 < b.2) := by
  rw [List.pairwise_iff_getElem]
  intro i j hi hj hij
  simp only [List.getElem_zipIdx]
  omega
theorem zip_all (o : Oper) (i : Nat) : (o, i) ∈ ops.toList.zipIdx ↔ (ops[i]? = some o ∧ 0 ≤ i) := by rw [mem_zip]; simp
theorem mem_ready {E : List Nat} {x : Nat} : x ∈ readyD E ops.toList.zipIdx ↔ ∃ o, ops[x]? = some o ∧ isEvent o.op = true ∧ x ∉ E ∧ ∀ j ∈ afterOf o, j ∈ E := by
  simp only [readyD, List.mem_map, List.mem_filter, Prod.exists, Bool.and_eq_true, Bool.not_eq_true', List.all_eq_true, List.contains_eq_mem, decide_eq_true_eq, decide_eq_false_iff_not]
  constructor
  · rintro ⟨o, i, ⟨hm, ⟨he, hi⟩, ha⟩, rfl⟩
    exact ⟨o, mem_zip.1 hm, he, hi, ha⟩
  · rintro ⟨o, ho, he, hi, ha⟩
    exact ⟨o, x, ⟨mem_zip.2 ho, ⟨he, hi⟩, ha⟩, rfl⟩
theorem close_spec {L : Nat → Prop} : ∀ (l : List (Oper × Nat)) (T : List Nat), (∀ o i, (o, i) ∈ l → L i → ∀ j ∈ afterOf o, L j) → (∀ i ∈ T, L i) → ∀ i ∈ closeD l T, L i
  | [], _, _, hT => hT
  | (o, i) :: l, T, hc, hT => by
    unfold closeD
    cases h : T.contains i <;> simp only [cond_true, cond_false]
    · exact close_spec l T (fun p j hm => hc p j (List.mem_cons_of_mem _ hm)) hT
    · refine close_spec l _ (fun p j hm => hc p j (List.mem_cons_of_mem _ hm)) fun j hj => ?_
      rcases List.mem_append.1 hj with hj | hj
      · exact hT j hj
      · exact hc o i List.mem_cons_self (hT i (by simpa using h)) j hj
/-- how the run stands to what has been weighed -/
structure Rel (n : Nat) (ops : Array Oper) (env0 env : Env) (E T : List Nat) (listed : Array Bool) (a : Act) : Prop where
  size : listed.size = ops.size
  ev : ∀ (i : Nat) (o : Oper), ops[i]? = some o → isEvent o.op = true → (listed[i]? = some true ↔ i ∈ E)
  quiet : ∀ (i : Nat) (o : Oper), ops[i]? = some o → isEvent o.op = false → listed[i]? = some true → i ∈ E
  down : ∀ (i : Nat) (o : Oper), ops[i]? = some o → listed[i]? = some true → ∀ j ∈ afterOf o, listed[j]? = some true
  done : ∀ i ∈ T, listed[i]? = some true
  defers : a.defers = []
  tsize : a.tmps.size = n
  val : ∀ (i : Nat) (o : Oper), ops[i]? = some o → listed[i]? = some true → ∀ d, o.dst = some d → a.tmps.getD d undef = env d
  old : ∀ t, (∀ (i : Nat) (o : Oper), ops[i]? = some o → listed[i]? = some true → o.dst ≠ some t) → a.tmps.getD t undef = env0 t
theorem ready_spec {listed : Array Bool} (hs : listed.size = ops.size) {i : Nat} : i ∈ Region.ready .any ops listed ↔ ∃ o, ops[i]? = some o ∧ listed[i]? ≠ some true ∧ ∀ j ∈ afterOf o, listed[j]? = some true := by
  simp only [Region.ready, List.mem_filter, List.mem_range, Bool.and_eq_true, Bool.not_eq_true']
  constructor
  · rintro ⟨hi, hl, ha⟩
    have ho : ops[i]? = some ops[i] := Array.getElem?_eq_getElem hi
    rw [ho] at ha
    simp only [Option.map_some, Option.getD_some] at ha
    refine ⟨_, ho, ?_, fun j hj => ?_⟩
    · intro e; rw [Array.getD_eq_getD_getElem?, e] at hl; simp at hl
    · simp only [afterOf, List.mem_map, List.mem_filter] at hj
      obtain ⟨e, ⟨he, hb⟩, rfl⟩ := hj
      rw [Array.all_eq_true'] at ha
      have := ha e (by simpa using he)
      simp only [hb, Bool.not_true, Bool.false_or] at this
      rw [Array.getD_eq_getD_getElem?] at this
      cases hq : listed[e.on]? with
      | none => rw [hq] at this; simp at this
      | some b => rw [hq] at this; simp only [Option.getD_some] at this; rw [this]
  · rintro ⟨o, ho, hl, ha⟩
    have hi : i < ops.size := (Array.getElem?_eq_some_iff.1 ho).1
    refine ⟨hi, ?_, ?_⟩
    · rw [Array.getD_eq_getD_getElem?, Array.getElem?_eq_getElem (by omega)]
      simp only [Option.getD_some]
      rw [Array.getElem?_eq_getElem (by omega)] at hl
      simpa using hl
    · rw [ho]
      simp only [Option.map_some, Option.getD_some]
      rw [Array.all_eq_true']
      intro e he
      cases hb : Region.binds .any e with
      | false => simp
      | true =>
        have := ha e.on (by simp only [afterOf, List.mem_map, List.mem_filter]; exact ⟨e, ⟨by simpa using he, hb⟩, rfl⟩)
        rw [Array.getD_eq_getD_getElem?, this]; simp
theorem all_listed (F : Fine ops) {listed : Array Bool} (hs : listed.size = ops.size) (hr : Region.ready .any ops listed = []) : ∀ (i : Nat) (o : Oper), ops[i]? = some o → listed[i]? = some true := by
  intro i
  induction i using Nat.strongRecOn with
  | _ i ih =>
    intro o ho
    by_cases h : listed[i]? = some true
    · exact h
    · have : i ∈ Region.ready .any ops listed := (ready_spec hs).2 ⟨o, ho, h, fun j hj => by
        have hji := F.back i o ho j hj
        have hj' : j < ops.size := Nat.lt_trans hji (Array.getElem?_eq_some_iff.1 ho).1
        exact ih j hji ops[j] (Array.getElem?_eq_getElem hj')⟩
      rw [hr] at this; cases this
def contD (P : Program) (ops : Array Oper) (env0 : Env) (Q : Env → World → Prop) (f : Nat) (E T : List Nat) (env : Env) (w : World) : Prop :=
  bif (readyD E ops.toList.zipIdx).isEmpty then Q env w
  else allS (readyD E ops.toList.zipIdx) fun x =>
    eventS P ops (ops.getD x default) (refE ops (ops.getD x default) env0 env) w fun v w' =>
      semD P ops env0 Q f (x :: E) (closeD ops.toList.zipIdx.reverse (x :: T)) (updO env (ops.getD x default).dst v) w'
theorem settle (F : Fine ops) {Q : Env → World → Prop} {f : Nat} {E T : List Nat} {env : Env} {w : World} (hp : Pre P ops env0 env E) (h : semD P ops env0 Q (f + 1) E T env w) :
    ∃ E' env', contD P ops env0 Q f E' T env' w ∧ Pre P ops env0 env' E' ∧ WF P ops env0 env' E' T w ∧ (∀ (i : Nat) (o : Oper), ops[i]? = some o → isEvent o.op = false → (∀ j ∈ afterOf o, j ∈ E') → i ∈ E') ∧
      (∀ i, i ∈ E → i ∈ E') ∧ (∀ (i : Nat) (o : Oper), ops[i]? = some o → isEvent o.op = true → (i ∈ E' ↔ i ∈ E)) ∧ (∀ i ∈ E, ∀ (o : Oper), ops[i]? = some o → ∀ d, o.dst = some d → env' d = env d) := by
  unfold semD at h
  obtain ⟨h1, h2⟩ := rechk_spec _ h
  have hw : WF P ops env0 env E T w := fun i hi hT o ho he hwo d hd => by
    have := h2 o i (mem_zip.2 ho) he hwo hi hT
    rw [hd] at this; exact this
  exact pass_spec F _ 0 zip_all zip_pairwise E env _ hp hw (fun i o _ _ hi => absurd hi (by omega)) h1
theorem getElem?_set_true {listed : Array Bool} {i j : Nat} (hi : i < listed.size) : (listed.setIfInBounds i true)[j]? = some true ↔ j = i ∨ listed[j]? = some true := by
  rw [Array.getElem?_setIfInBounds]
  by_cases h : i = j
  · subst h; simp [hi]
  · simp only [h, if_false]
    exact ⟨.inr, fun hh => hh.elim (fun e => absurd e.symm h) id⟩
theorem any_sound (F : Fine ops) {n : Nat} {Q : Env → World → Prop} {Q' : Exit → Act → World → Prop} (hn : ∀ (i : Nat) (o : Oper), ops[i]? = some o → ∀ d, o.dst = some d → d < n) (hQ : ∀ env a w, Rep n env a → Q env w → Q' .normal a w) :
    ∀ (fuel f : Nat) (listed : Array Bool) (a : Act) (w : World) (E T : List Nat) (env : Env), Rel n ops env0 env E T listed a → Pre P ops env0 env E → WF P ops env0 env E T w →
      (∀ (i : Nat) (o : Oper), ops[i]? = some o → isEvent o.op = false → (∀ j ∈ afterOf o, j ∈ E) → i ∈ E) → contD P ops env0 Q f E T env w →
      ((List.range ops.size).filter fun i => listed[i]? != some true).length ≤ fuel → wpAny P .any ops Q' fuel listed a w := by
  intro fuel
  have fin : ∀ (f : Nat) (listed : Array Bool) (a : Act) (w : World) (E T : List Nat) (env : Env), Rel n ops env0 env E T listed a → Pre P ops env0 env E → contD P ops env0 Q f E T env w → Region.ready .any ops listed = [] → Q' .normal a w := by
    intro f listed a w E T env hr hp hc hnil
    have hall := all_listed F hr.size hnil
    have hempty : readyD E ops.toList.zipIdx = [] := by
      rw [List.eq_nil_iff_forall_not_mem]
      intro x hx
      obtain ⟨o, ho, he, hxE, _⟩ := mem_ready.1 hx
      exact hxE ((hr.ev x o ho he).1 (hall x o ho))
    unfold contD at hc
    simp only [hempty, List.isEmpty_nil, cond_true] at hc
    refine hQ env a w ⟨hr.defers, hr.tsize, fun t => ?_⟩ hc
    by_cases ht : ∃ (i : Nat) (o : Oper), ops[i]? = some o ∧ o.dst = some t
    · obtain ⟨i, o, ho, hd⟩ := ht
      exact hr.val i o ho (hall i o ho) t hd
    · have hno : ∀ (i : Nat) (o : Oper), ops[i]? = some o → o.dst ≠ some t := fun i o ho hd => ht ⟨i, o, ho, hd⟩
      rw [hr.old t fun i o ho _ => hno i o ho, hp.out t hno]
  induction fuel with
  | zero =>
    intro f listed a w E T env hr hp _ _ hc hm
    have hnil : Region.ready .any ops listed = [] := by
      rw [List.eq_nil_iff_forall_not_mem]
      intro x hx
      obtain ⟨o, ho, hl, _⟩ := (ready_spec hr.size).1 hx
      have : x ∈ (List.range ops.size).filter fun i => listed[i]? != some true := by
        simp only [List.mem_filter, List.mem_range, bne_iff_ne, ne_eq]
        exact ⟨(Array.getElem?_eq_some_iff.1 ho).1, hl⟩
      rw [List.length_eq_zero_iff.1 (Nat.le_zero.1 hm)] at this
      cases this
    exact ⟨hnil, fin f listed a w E T env hr hp hc hnil⟩
  | succ fuel ih =>
    intro f listed a w E T env hr hp hw hcomp hc hm
    refine ⟨fin f listed a w E T env hr hp hc, fun i hi => ?_⟩
    obtain ⟨o, ho, hl, ha⟩ := (ready_spec hr.size).1 hi
    have hisz : i < ops.size := (Array.getElem?_eq_some_iff.1 ho).1
    have hils : i < listed.size := by rw [hr.size]; exact hisz
    have hset : ∀ j, (listed.setIfInBounds i true)[j]? = some true ↔ j = i ∨ listed[j]? = some true := fun j => getElem?_set_true hils
    have hm' : ((List.range ops.size).filter fun j => (listed.setIfInBounds i true)[j]? != some true).length ≤ fuel := by
      have hlt : ((List.range ops.size).filter fun j => (listed.setIfInBounds i true)[j]? != some true).length < ((List.range ops.size).filter fun j => listed[j]? != some true).length := by
        have e : (List.range ops.size).filter (fun j => (listed.setIfInBounds i true)[j]? != some true) = ((List.range ops.size).filter fun j => listed[j]? != some true).filter (fun j => j != i) := by
          rw [List.filter_filter]
          refine List.filter_congr fun j _ => ?_
          rw [Bool.eq_iff_iff]
          simp only [bne_iff_ne, ne_eq, Bool.and_eq_true, hset j, not_or]
        rw [e]
        refine List.length_filter_lt_length_iff_exists.2 ⟨i, ?_, by simp⟩
        simp only [List.mem_filter, List.mem_range, bne_iff_ne, ne_eq]
        exact ⟨hisz, hl⟩
      omega
    have haE : ∀ j ∈ afterOf o, j ∈ E := fun j hj => by
      have hlj := ha j hj
      have hjs : j < ops.size := by rw [← hr.size]; exact (Array.getElem?_eq_some_iff.1 hlj).1
      have hoj : ops[j]? = some ops[j] := Array.getElem?_eq_getElem hjs
      cases he : isEvent ops[j].op with
      | true => exact (hr.ev j _ hoj he).1 hlj
      | false => exact hr.quiet j _ hoj he hlj
    -- the run reads what was weighed
    have hread : runO P ops o (fun t => a.tmps.getD t undef) w = runO P ops o (refE ops o env0 env) w := by
      refine runO_congr (F.sel i o ho) fun t ht => ?_
      unfold refE
      cases hb : behind ops o t with
      | true =>
        obtain ⟨k, hk, q, hq, hqd⟩ := behind_iff.1 hb
        exact hr.val k q hq (ha k hk) t hqd
      | false =>
        refine hr.old t fun j p hpj hlj hd => ?_
        by_cases hij : i = j
        · subst hij; exact hl hlj
        · rcases F.seen i j o p ho hpj hij t hd ht with h1 | h1
          · have : behind ops o t = true := behind_iff.2 ⟨j, h1, p, hpj, hd⟩
            rw [hb] at this; cases this
          · exact hl (hr.down j p hpj hlj i h1)
    have hRep : Rep n (fun t => a.tmps.getD t undef) a := ⟨hr.defers, hr.tsize, fun _ => rfl⟩
    have hnew : ∀ (env' : Env) (E' T' : List Nat) (v : Value), (∀ d, o.dst = some d → env' d = v) → (∀ (j : Nat) (p : Oper), ops[j]? = some p → listed[j]? = some true → ∀ d, p.dst = some d → env' d = env d) →
        (∀ (j : Nat) (p : Oper), ops[j]? = some p → isEvent p.op = true → (j ∈ E' ↔ (j = i ∨ listed[j]? = some true))) → (∀ (j : Nat) (p : Oper), ops[j]? = some p → isEvent p.op = false → (j = i ∨ listed[j]? = some true) → j ∈ E') →
        (∀ j ∈ T', (listed.setIfInBounds i true)[j]? = some true) → Rel n ops env0 env' E' T' (listed.setIfInBounds i true) (a.put o.dst v) := by
      intro env' E' T' v h1 h2 h3 h4 h5
      have hput : ∀ t, o.dst ≠ some t → (a.put o.dst v).tmps.getD t undef = a.tmps.getD t undef := by
        intro t ht
        have := (hRep.put (d := o.dst) (fun x hx => hn i o ho x hx) v).get t
        rw [this, updO_out ht]
      refine ⟨by simp [hr.size], fun j p hp he => ?_, fun j p hp he hj => h4 j p hp he ((hset j).1 hj), fun j p hp hj k hk => ?_, h5, ?_, ?_, fun j p hp hj d hd => ?_, fun t ht => ?_⟩
      · rw [hset j, h3 j p hp he]
      · rcases (hset j).1 hj with rfl | hj
        · rw [ho] at hp; cases hp
          exact (hset k).2 (.inr (ha k hk))
        · exact (hset k).2 (.inr (hr.down j p hp hj k hk))
      · cases hd : o.dst <;> simp [Act.put, hr.defers]
      · cases hd : o.dst <;> simp [Act.put, hr.tsize]
      · rcases (hset j).1 hj with rfl | hj'
        · rw [ho] at hp; cases hp
          have := (hRep.put (d := o.dst) (fun x hx => hn j o ho x hx) v).get d
          rw [this, hd, updO_in, h1 d hd]
        · have hne : o.dst ≠ some d := by
            by_cases hij : j = i
            · subst hij; exact absurd hj' hl
            · exact F.one j i p o hp ho hij d hd
          rw [hput d hne, hr.val j p hp hj' d hd, h2 j p hp hj' d hd]
      · rw [hput t (ht i o ho ((hset i).2 (.inl rfl)))]
        exact hr.old t fun j p hp hj => ht j p hp ((hset j).2 (.inr hj))
    unfold wpOp
    simp only [ho]
    cases he : isEvent o.op with
    | false =>
      have hiE := hcomp i o ho he haE
      obtain ⟨d, hd⟩ := F.dst i o ho he
      have hrun : runO P ops o (fun t => a.tmps.getD t undef) w = .ok (.value (env d)) w := by
        rw [hread]
        cases hwo : worldly o.op with
        | false => exact hp.pure i hiE o ho he hwo d hd w
        | true => exact hw i hiE (fun hT => hl (hr.done i hT)) o ho he hwo d hd
      refine step_sound (K := fun v w' => v = env d ∧ w' = w) hRep (by rw [hrun]; exact ⟨rfl, rfl⟩) ?_
      rintro v w' ⟨rfl, rfl⟩
      refine ih f _ _ _ E T env (hnew env E T _ (fun d' hd' => by rw [hd] at hd'; cases hd'; rfl) (fun _ _ _ _ _ _ => rfl) (fun j p hpj hej => ?_) (fun j p hpj hej hj => ?_) (fun j hj => (hset j).2 (.inr (hr.done j hj)))) hp hw hcomp hc hm'
      · rw [← hr.ev j p hpj hej]
        constructor
        · exact .inr
        · rintro (rfl | h)
          · rw [ho] at hpj; cases hpj; rw [he] at hej; cases hej
          · exact h
      · rcases hj with rfl | hj
        · exact hiE
        · exact hr.quiet j p hpj hej hj
    | true =>
      have hiE : i ∉ E := fun h => hl ((hr.ev i o ho he).2 h)
      have hmem : i ∈ readyD E ops.toList.zipIdx := mem_ready.2 ⟨o, ho, he, hiE, haE⟩
      have hne : (readyD E ops.toList.zipIdx).isEmpty = false := by
        cases hq : readyD E ops.toList.zipIdx with
        | nil => rw [hq] at hmem; cases hmem
        | cons _ _ => rfl
      unfold contD at hc
      simp only [hne, cond_false] at hc
      rw [allS_iff] at hc
      have hx := hc i hmem
      rw [show ops.getD i default = o by rw [Array.getD_eq_getD_getElem?, ho]; rfl] at hx
      refine step_sound hRep (by rw [hread]; exact event_run hx) fun v w' hv => ?_
      cases f with
      | zero => exact hv.elim
      | succ f =>
        have hp1 := hp.add F ho hiE haE v (fun e => by rw [he] at e; cases e)
        obtain ⟨E', env', k1, k2, k3, k4, k5, k6, k7⟩ := settle F hp1 hv
        refine ih f _ _ _ E' _ env' (hnew env' E' _ v ?_ ?_ ?_ ?_ ?_) k2 k3 k4 k1 hm'
        · intro d hd
          rw [k7 i List.mem_cons_self o ho d hd, hd, updO_in]
        · intro j p hpj hj d hd
          have hjE : j ∈ E := by
            cases hej : isEvent p.op with
            | true => exact (hr.ev j p hpj hej).1 hj
            | false => exact hr.quiet j p hpj hej hj
          rw [k7 j (List.mem_cons_of_mem _ hjE) p hpj d hd]
          exact updO_out (F.one j i p o hpj ho (fun e => hiE (e ▸ hjE)) d hd)
        · intro j p hpj hej
          rw [k6 j p hpj hej, List.mem_cons, hr.ev j p hpj hej]
        · intro j p hpj hej hj
          refine k5 j ?_
          rcases hj with rfl | hj
          · exact List.mem_cons_self
          · exact List.mem_cons_of_mem _ (hr.quiet j p hpj hej hj)
        · refine close_spec _ _ (fun p j hm hj k hk => ?_) (fun j hj => ?_)
          · have hpj := mem_zip.1 (List.mem_reverse.1 hm)
            rcases (hset j).1 hj with rfl | hj
            · rw [ho] at hpj; cases hpj
              exact (hset k).2 (.inr (ha k hk))
            · exact (hset k).2 (.inr (hr.down j p hpj hj k hk))
          · rcases List.mem_cons.1 hj with rfl | hj
            · exact (hset j).2 (.inl rfl)
            · exact (hset j).2 (.inr (hr.done j hj))
theorem semD_sound {n : Nat} {Q : Env → World → Prop} {Q' : Exit → Act → World → Prop} {id : Nat} {env : Env} {a : Act} {w : World} (hm : P.follows .mixedOrders = true) (hf : fineD ops = true)
    (hn : (ops.toList.all fun o => match o.dst with | some d => Nat.blt d n | none => true) = true) (hR : Rep n env a) (h : semD P ops env Q (ops.size + 1) [] [] env w.drew) (hQ : ∀ env a w, Rep n env a → Q env w → Q' .normal a w) :
    (Code.region id ops true).wp P Q' a w := by
  have F := fine_of hf
  refine wp_region_any hm ?_
  have hp : Pre P ops env env [] := ⟨fun i hi => (by cases hi), fun i hi => (by cases hi), fun i hi => (by cases hi), fun _ _ => rfl⟩
  obtain ⟨E', env', k1, k2, k3, k4, _, k6, _⟩ := settle F hp h
  refine any_sound F (n := n) (Q := Q) ?_ hQ ops.size ops.size _ a _ E' [] env' ⟨(by simp), fun i o ho he => ?_, ?_, ?_, fun i hi => (by cases hi), hR.defers, hR.size, ?_, fun t _ => hR.get t⟩ k2 k3 k4 k1 ?_
  · intro i o ho d hd
    rw [List.all_eq_true] at hn
    have := hn o (by rw [← Array.getElem?_toList] at ho; exact List.mem_of_getElem? ho)
    rw [hd] at this
    exact Nat.le_of_ble_eq_true this
  · rw [k6 i o ho he]; simp [Array.getElem?_replicate]
  · intro i o ho he hl; simp [Array.getElem?_replicate] at hl
  · intro i o ho hl; simp [Array.getElem?_replicate] at hl
  · intro i o ho hl; simp [Array.getElem?_replicate] at hl
  · exact Nat.le_trans (List.length_filter_le _ _) (by simp)
end
end Go.Proofs.Ytbkgijnmckchbaa
