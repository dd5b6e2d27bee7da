/- Each operation, said of blocks, is what the model runs. -/
import Derived.Test.YtbkgijnmckchbaaEx
namespace Go.Proofs.Ytbkgijnmckchbaa
open Go
set_option linter.unusedSimpArgs false
set_option linter.unusedVariables false
section
variable {P : Program}
theorem run_under {t : TypeId} {d : TypeDesc} (h : P.underlying t = some d) (w : World) : (underlying t).run P w = .ok d w := run_underlying h w
theorem add_mk (b off n : Nat) : (⟨b, off, none⟩ : Addr).add n = ⟨b, off + n, none⟩ := by
  unfold Addr.add; split
  · subst_vars; rfl
  · rfl
theorem cell_blk (w : World) (b j : Nat) : w.cell? ⟨b, j, none⟩ = (blk w b).bind fun cs => cs[j]? := by
  unfold World.cell? blk
  cases h : w.heap[b]? with
  | none => rfl
  | some o => cases o <;> rfl
theorem faS_run {t : TypeId} {x : Value} {i : Nat} {K : Value → Prop} (h : faS (fOff P t i) x K) : ∃ v, K v ∧ ∀ w, (Instr.fieldAt t x i).run P w = .ok v w := by
  unfold faS at h
  split at h
  · rename_i d b off hd
    refine ⟨_, h, fun w => ?_⟩
    unfold fOff at hd
    split at hd
    · rename_i fs hu
      split at hd
      · rename_i f hf
        split at hd
        · rename_i y hy
          cases hz : Nat.beq y.size 0 <;> rw [hz] at hd <;> cases hd
          have hne : ¬ y.size = 0 := fun e => by rw [e] at hz; cases hz
          simp only [Instr.fieldAt, Sem.run_bind, run_under hu, Result.andThen_ok, hf, Instr.sureAddr, Sem.run_pure, fieldPlace, sizeOf, typeInfo, run_program, hy]
          rw [if_neg hne, Sem.run_pure]
          simp only [Result.andThen_ok, add_mk]
        · cases hd
      · cases hd
    · cases hd
  · exact h.elim
theorem iaS_run {t : TypeId} {x i : Value} {K : Value → Prop} (h : iaS (ixOf P t) x i K) : ∃ v, K v ∧ ∀ w, (Instr.indexAt t x i).run P w = .ok v w := by
  unfold iaS at h
  split at h
  · rename_i k b off len c q n hd
    obtain ⟨hn, hK⟩ := h
    refine ⟨_, hK, fun w => ?_⟩
    unfold ixOf at hd
    split at hd
    · rename_i e hu
      cases hi : P.info? e with
      | none => rw [hi] at hd; cases hd
      | some y =>
        rw [hi] at hd; cases hd
        simp only [Instr.indexAt, asIntOf, Sem.run_bind, Sem.run_pure, run_under hu, Result.andThen_ok, sizeOf, typeInfo]
        rw [if_pos hn]
        simp only [Sem.run_bind, Sem.run_pure, run_program, hi, Result.andThen_ok, add_mk]
    · cases hi : P.info? _ with
      | none => rw [hi] at hd; cases hd
      | some y => rw [hi] at hd; cases hd
    · cases hd
  · rename_i m k b off q n hd
    obtain ⟨hn, hK⟩ := h
    refine ⟨_, hK, fun w => ?_⟩
    unfold ixOf at hd
    split at hd
    · cases hi : P.info? _ with
      | none => rw [hi] at hd; cases hd
      | some y => rw [hi] at hd; cases hd
    · rename_i m' e hu
      cases hi : P.info? e with
      | none => rw [hi] at hd; cases hd
      | some y =>
        rw [hi] at hd; cases hd
        simp only [Instr.indexAt, asIntOf, Sem.run_bind, Sem.run_pure, run_under hu, Result.andThen_ok, Instr.sureAddr, sizeOf, typeInfo]
        rw [if_pos hn]
        simp only [Sem.run_bind, Sem.run_pure, run_program, hi, Result.andThen_ok, add_mk]
    · cases hd
  · exact h.elim
theorem aggN_one {t : TypeId} (h : aggN P t = some none) (w : World) : (isAgg t).run P w = .ok false w ∧ (sizeOf t).run P w = .ok 1 w := by
  unfold aggN at h
  split at h <;> try cases h
  rename_i d i n1 n2 hu hi
  cases hs : Nat.beq i.size 1 with
  | false => rw [hs] at h; cases h
  | true =>
    have h1 := Nat.eq_of_beq_eq_true hs
    refine ⟨?_, by simp [sizeOf, typeInfo, hi, h1]⟩
    unfold isAgg
    rw [Sem.run_bind, run_under hu, Result.andThen_ok]
    cases d <;> first | rfl | exact (n1 _ rfl).elim | exact (n2 _ _ rfl).elim
theorem aggN_many {t : TypeId} {n : Nat} (h : aggN P t = some (some n)) (w : World) : (isAgg t).run P w = .ok true w ∧ (sizeOf t).run P w = .ok n w := by
  unfold aggN at h
  split at h
  · rename_i fs i hu hi; cases h
    exact ⟨by unfold isAgg; rw [Sem.run_bind, run_under hu]; rfl, by simp [sizeOf, typeInfo, hi]⟩
  · rename_i m e i hu hi; cases h
    exact ⟨by unfold isAgg; rw [Sem.run_bind, run_under hu]; rfl, by simp [sizeOf, typeInfo, hi]⟩
  · rename_i d i _ _ _ _
    cases hs : Nat.beq i.size 1 <;> rw [hs] at h <;> cases h
  · cases h
theorem loadCells_blk {w : World} {b off n : Nat} {cs : Array Value} (hb : blk w b = some cs) (hn : off + n ≤ cs.size) : (loadCells ⟨b, off, none⟩ n).run P w = .ok (cs.extract off (off + n)) w := by
  have hl : (cs.extract off (off + n)).toList.length = n := by simp; omega
  have := run_loadCells_list (P := P) w ⟨b, off, none⟩ (cs.extract off (off + n)).toList (fun j v hv => by
    rw [add_mk, cell_blk, hb, Option.bind_some]
    rw [Array.getElem?_toList, Array.getElem?_extract] at hv
    split at hv
    · exact hv
    · cases hv)
  rw [hl, Array.toArray_toList] at this
  exact this
theorem ldS_run {t : TypeId} {x : Value} {w : World} {K : Value → Prop} (h : ldS (aggN P t) x w K) : ∃ v, K v ∧ (Instr.loadAt t x).run P w = .ok v w := by
  unfold ldS at h
  split at h
  · rename_i b off hd
    obtain ⟨h1, _⟩ := aggN_one hd w
    unfold atS at h
    split at h
    · rename_i v hv
      refine ⟨v, h, ?_⟩
      rw [← cell_blk] at hv
      simp only [Instr.loadAt, Instr.sureAddr, loadVar, Sem.run_bind, Sem.run_pure, Result.andThen_ok, h1, Bool.false_eq_true, if_false, load, Sem.run, hv]
    · exact h.elim
  · rename_i n b off hd
    obtain ⟨h1, h2⟩ := aggN_many hd w
    split at h
    · rename_i cs hb
      refine ⟨_, h.2, ?_⟩
      simp only [Instr.loadAt, Instr.sureAddr, loadVar, Sem.run_bind, Sem.run_pure, Result.andThen_ok, h1, if_true, h2, loadCells_blk hb h.1]
    · exact h.elim
  · exact h.elim
theorem ldS_var {t : TypeId} {x : Value} {w : World} {K : Value → Prop} (h0 : LdS (aggN P t) x w K) : ∃ v, K v ∧ (do loadVar t (← asAddr x) : Sem Value).run P w = .ok v w := by
  have h := h0.h
  obtain ⟨v, hv, hr⟩ := ldS_run h
  refine ⟨v, hv, ?_⟩
  unfold ldS at h
  split at h
  · exact hr
  · exact hr
  · exact h.elim
theorem lnS_run {t ty : TypeId} {x : Value} {w : World} {K : Value → Prop} (h : lnS (lnOf P t) x w K) : ∃ v, K v ∧ (Builtin.len_ #[t] ty #[x]).run P w = .ok v w := by
  have hu : ∀ n, lnOf P t = n → n ≠ 0 → ∃ d, P.underlying t = some d ∧ (match n, d with | 1, .slice _ => True | 2, .string => True | 3, .map _ _ => True | _, _ => False) := by
    intro n hn h0
    unfold lnOf at hn
    split at hn
    · rename_i e hd; subst hn; exact ⟨_, hd, trivial⟩
    · rename_i hd; subst hn; exact ⟨_, hd, trivial⟩
    · rename_i k e hd; subst hn; exact ⟨_, hd, trivial⟩
    · exact absurd hn.symm h0
  unfold lnS at h
  split at h
  · rename_i a n c hd
    obtain ⟨d, hd, hm⟩ := hu 1 hd (by decide)
    refine ⟨_, h, ?_⟩
    cases d <;> first | exact hm.elim | simp [Builtin.len_, run_under hd, goInt]
  · rename_i s hd
    obtain ⟨d, hd, hm⟩ := hu 2 hd (by decide)
    refine ⟨_, h, ?_⟩
    cases d <;> first | exact hm.elim | simp [Builtin.len_, run_under hd, goInt]
  · rename_i hd
    obtain ⟨d, hd, hm⟩ := hu 3 hd (by decide)
    refine ⟨_, h, ?_⟩
    cases d <;> first | exact hm.elim | simp [Builtin.len_, run_under hd, goInt]
  · rename_i r hd
    obtain ⟨d, hd, hm⟩ := hu 3 hd (by decide)
    split at h
    · rename_i es cl hh
      refine ⟨_, h, ?_⟩
      cases d <;> first | exact hm.elim | simp [Builtin.len_, run_under hd, goInt, getObj, Sem.run, hh]
    · exact h.elim
  · exact h.elim
theorem qS_run {o : Oper} {ρ : Operand → Value} {w : World} {K : Value → Prop} (h : qS P o ρ w K) : ∃ v, K v ∧ (execOp ρ o).run P w = .ok (.value v) w ∧ (worldly o.op = false → ∀ w', (execOp ρ o).run P w' = .ok (.value v) w') := by
  obtain ⟨dst, op, type, pos, after, guard⟩ := o
  unfold qS at h
  split at h
  · rename_i t x i hop
    simp only at hop; subst hop
    obtain ⟨v, hv, hr⟩ := faS_run h.h
    exact ⟨v, hv, by simp only [execOp, Sem.run_bind, hr, Result.andThen_ok, Sem.run_pure], fun _ w' => by simp only [execOp, Sem.run_bind, hr, Result.andThen_ok, Sem.run_pure]⟩
  · rename_i t x i hop
    simp only at hop; subst hop
    obtain ⟨v, hv, hr⟩ := iaS_run h.h
    exact ⟨v, hv, by simp only [execOp, Sem.run_bind, hr, Result.andThen_ok, Sem.run_pure], fun _ w' => by simp only [execOp, Sem.run_bind, hr, Result.andThen_ok, Sem.run_pure]⟩
  · rename_i t x hop
    simp only at hop; subst hop
    obtain ⟨v, hv, hr⟩ := ldS_run h.h
    exact ⟨v, hv, by simp only [execOp, Sem.run_bind, hr, Result.andThen_ok, Sem.run_pure], fun e => by cases e⟩
  · rename_i x t hop
    simp only at hop; subst hop
    obtain ⟨v, hv, hr⟩ := lnS_run (ty := type) h.h
    refine ⟨v, hv, ?_, fun e => by cases e⟩
    simp only [execOp, resolve, Sem.run_bind, Sem.run_pure, Result.andThen_ok, invoke, builtin, List.map_toArray, List.map_cons, List.map_nil]
    rw [hr]
    rfl
  · cases hw : worldly op with
    | true =>
      simp only [hw, cond_true] at h
      obtain ⟨v, h1, h2⟩ := h.h
      exact ⟨v, h2, h1, fun e => by cases e⟩
    | false =>
      simp only [hw, cond_false] at h
      obtain ⟨v, h1, h2⟩ := h.h
      exact ⟨v, h2, h1 w, fun _ => h1⟩
theorem storeOne {w : World} {b off : Nat} {cs : Array Value} {v : Value} (hb : blk0 w b = some cs) (ho : off < cs.size) (hv : v.oneCell' = true) : (store ⟨b, off, none⟩ v).run P w = .ok () (w.setRow b (cs.setIfInBounds off v)) := by
  unfold blk0 at hb
  split at hb
  · rename_i c t hh
    cases hb
    have := run_storeCells_at P b off t [v] 0 cs w hh (by simp; omega) (by simpa using hv)
    simp only [storeCells, Sem.run_bind] at this
    rw [add_mk] at this
    simp only [Nat.add_zero] at this
    have e : (cs.toList.take off ++ [v] ++ cs.toList.drop (off + [v].length)).toArray = cs.setIfInBounds off v := by
      apply Array.ext'
      simp only [Array.toList_setIfInBounds]
      rw [List.set_eq_take_append_cons_drop, if_pos (by simpa using ho)]
      simp
    rw [e] at this
    cases hr : (store ⟨b, off, none⟩ v).run P w with
    | ok u w' => rw [hr] at this; simpa [Result.andThen] using this
    | halt x w' => rw [hr] at this; simp [Result.andThen] at this
  · cases hb
theorem stS_run {t : TypeId} {p v : Value} {w : World} {K : Value → World → Prop} (h : stS (aggN P t) p v w K) : ∃ w', K undef w' ∧ (Instr.storeAt t p v).run P w = .ok () w' := by
  unfold stS at h
  split at h
  · rename_i b off hd
    obtain ⟨h1, h2⟩ := aggN_one hd w
    split at h
    · rename_i cs hb
      obtain ⟨⟨ho, hv⟩, hK⟩ := h
      refine ⟨_, hK, ?_⟩
      have hcells : v.cells = #[v] := by cases v <;> first | rfl | simp [Value.oneCell'] at hv
      simp only [Instr.storeAt, Instr.sureAddr, storeVar, Sem.run_bind, Sem.run_pure, Result.andThen_ok, h2, hcells]
      rw [if_neg (by simp)]
      simp only [Sem.run_bind, storeCells, Sem.run_pure, add_mk, Nat.add_zero]
      rw [storeOne hb ho hv]
      rfl
    · exact h.elim
  · rename_i n b off hd
    obtain ⟨h1, h2⟩ := aggN_many hd w
    split at h
    · rename_i cs hb
      obtain ⟨⟨ho, hs, hv⟩, hK⟩ := h
      refine ⟨_, hK, ?_⟩
      simp only [Instr.storeAt, Instr.sureAddr, storeVar, Sem.run_bind, Sem.run_pure, Result.andThen_ok, h2]
      rw [if_neg (by simp [hs])]
      unfold blk0 at hb
      split at hb
      · rename_i c tt hh
        cases hb
        have := run_storeCells_at P b off tt v.cells.toList 0 cs w hh (by simp; omega) (fun u hu => by rw [Array.all_eq_true'] at hv; exact hv u (by simpa using hu))
        simp only [Nat.add_zero, Array.length_toList] at this
        exact this
      · cases hb
    · exact h.elim
  · exact h.elim
theorem eS_run {o : Oper} {ρ : Operand → Value} {w : World} {K : Value → World → Prop} (hρ : ∀ f, ρ (.func f) = .func (.func f) #[] #[]) (h : eS P o ρ w K) : resS P ((execOp ρ o).run P w) K := by
  obtain ⟨dst, op, type, pos, after, guard⟩ := o
  unfold eS at h
  split at h
  · rename_i t x hop
    simp only at hop; subst hop
    exact h.h
  · rename_i t hop
    simp only at hop; subst hop
    replace h := h.h
    unfold alS at h
    split at h
    · rename_i z hz
      unfold zc at hz
      split at hz
      · rename_i i hi
        obtain ⟨zv, hzv, rfl⟩ := Option.map_eq_some_iff.1 hz
        have : (zeroValue t).run P w = .ok zv w := by simp [zeroValue, typeInfo, hi, hzv]
        have e : (execOp ρ { dst, op := Op.alloc t, type, pos, after, guard }).run P w = .ok (.value (.pointer (some ⟨w.heap.size, 0, none⟩))) (w.alloc (.cells zv.cells t)) := by
          simp only [execOp, Instr.alloc, Sem.run_bind, this, Result.andThen_ok]
          rfl
        rw [e]; exact h
      · cases hz
    · exact h.elim
  · rename_i t a x hop
    simp only at hop; subst hop
    obtain ⟨w', hK, hr⟩ := stS_run h.h
    simp only [execOp, Sem.run_bind, hr, Result.andThen_ok, Sem.run_pure]
    exact hK
  · rename_i f args ats hop
    simp only at hop; subst hop
    replace h := h.h
    unfold fcS at h
    cases hb : bodyOk P f with
    | false => rw [hb] at h; exact h.elim
    | true =>
      rw [hb] at h
      simp only [execOp, resolve, hρ, Deferred.ofValue, Sem.run_bind, Sem.run_pure, Result.andThen_ok, invoke, Array.empty_append, Array.append_empty]
      rw [call_ok hb]
      exact h
  · rename_i f args ats hne hop
    simp only at hop; subst hop
    replace h := h.h
    unfold vcS at h
    split at h
    · rename_i g first cap hf
      simp only [execOp, resolve, Deferred.ofValue, Sem.run_bind, Sem.run_pure, Result.andThen_ok, invoke, hf]
      rw [call_ok h.1]
      exact h.2
    · exact h.elim
  · exact h.h
where
  call_ok {f : FuncId} {args : Array Value} {w : World} (h : bodyOk P f = true) : (callFunc f args).run P w = .ok (.enter f args) w := by
    unfold bodyOk at h
    split at h
    · rename_i fn hf
      simp only [Bool.and_eq_true, Bool.not_eq_true'] at h
      have hn : fn.body.isNone = false := by cases hb : fn.body <;> simp_all
      simp only [callFunc, Sem.run_bind, run_program, Result.andThen_ok, hf, h.1, hn, Bool.false_eq_true, if_false, Sem.run_pure]
    · cases h
theorem wanted_gd {x : Value} {b : Bool} {X Y : Prop} (h : gdS x b X Y) : (x = .bool b → X) ∧ (x ≠ .bool b → Y) := by
  unfold gdS at h
  split at h
  · rename_i c
    cases c
    · exact ⟨fun e => (by cases e), fun _ => h.2 rfl⟩
    · exact ⟨fun _ => h.1 rfl, fun e => absurd rfl e⟩
  · rename_i c
    cases c
    · exact ⟨fun _ => h.2 rfl, fun e => absurd rfl e⟩
    · exact ⟨fun e => (by cases e), fun _ => h.1 rfl⟩
  · rename_i h1 h2
    refine ⟨fun e => ?_, fun _ => h⟩
    subst e
    cases b
    · exact (h2 _ rfl rfl).elim
    · exact (h1 _ rfl rfl).elim
theorem gR_yes {b : Bool} {w : World} {r : Result Next} : gR (.bool b) b w r = r := by cases b <;> rfl
theorem gR_no {x : Value} {b : Bool} {w : World} {r : Result Next} (h : x ≠ .bool b) : gR x b w r = .ok (.value undef) w := by
  unfold gR
  split
  · rename_i b'
    cases b <;> cases b' <;> first | rfl | exact absurd rfl h
  · rfl
theorem quiet_run {ops : Array Oper} {o : Oper} {env : Env} {w : World} {K : Value → Prop} (h : quietS P ops o env w K) : ∃ v, K v ∧ runO P ops o env w = .ok (.value v) w ∧ (worldly o.op = false → ∀ w', runO P ops o env w' = .ok (.value v) w') := by
  unfold quietS at h
  unfold runO
  cases hg : o.guard with
  | none => rw [hg] at h; exact qS_run h
  | some jb =>
    obtain ⟨j, b⟩ := jb
    rw [hg] at h
    simp only at h ⊢
    obtain ⟨h1, h2⟩ := wanted_gd h.h
    by_cases hx : gval ops env j = .bool b
    · obtain ⟨v, k1, k2, k3⟩ := qS_run (h1 hx)
      refine ⟨v, k1, ?_, fun hw w' => ?_⟩
      · rw [hx, gR_yes]; exact k2
      · rw [hx, gR_yes]; exact k3 hw w'
    · refine ⟨undef, h2 hx, gR_no hx, fun _ w' => gR_no hx⟩
theorem event_run {ops : Array Oper} {o : Oper} {env : Env} {w : World} {K : Value → World → Prop} (h : eventS P ops o env w K) : resS P (runO P ops o env w) K := by
  unfold eventS at h
  unfold runO
  cases hg : o.guard with
  | none => rw [hg] at h; exact eS_run (fun _ => rfl) h
  | some jb =>
    obtain ⟨j, b⟩ := jb
    rw [hg] at h
    simp only at h ⊢
    obtain ⟨h1, h2⟩ := wanted_gd h.h
    by_cases hx : gval ops env j = .bool b
    · rw [hx, gR_yes]; exact eS_run (fun _ => rfl) (h1 hx)
    · rw [gR_no hx]; exact h2 hx
/- more is said: more follows -/
theorem gdS_mono {x : Value} {b : Bool} {X Y X' Y' : Prop} (hx : X → X') (hy : Y → Y') (h : gdS x b X Y) : gdS x b X' Y' := by
  unfold gdS at *
  split at h
  · exact ⟨fun e => hx (h.1 e), fun e => hy (h.2 e)⟩
  · exact ⟨fun e => hy (h.1 e), fun e => hx (h.2 e)⟩
  · exact hy h
theorem ldS_mono {d : Option (Option Nat)} {p : Value} {w : World} {K K' : Value → Prop} (hk : ∀ v, K v → K' v) (h : ldS d p w K) : ldS d p w K' := by
  unfold ldS atS at *
  split at h
  · split at h <;> first | exact hk _ h | exact h
  · split at h <;> first | exact ⟨h.1, hk _ h.2⟩ | exact h
  · exact h
theorem qS_mono {o : Oper} {ρ : Operand → Value} {w : World} {K K' : Value → Prop} (hk : ∀ v, K v → K' v) (h : qS P o ρ w K) : qS P o ρ w K' := by
  unfold qS at *
  split at h
  · obtain ⟨h⟩ := h; refine ⟨?_⟩; unfold faS at *; split at h <;> first | exact hk _ h | exact h
  · obtain ⟨h⟩ := h; refine ⟨?_⟩; unfold iaS at *; split at h <;> first | exact ⟨h.1, hk _ h.2⟩ | exact h
  · obtain ⟨h⟩ := h; exact ⟨ldS_mono hk h⟩
  · obtain ⟨h⟩ := h; refine ⟨?_⟩; unfold lnS at *
    split at h <;> first | exact hk _ h | (split at h <;> first | exact hk _ h | exact h) | exact h
  · cases hw : worldly _ <;> simp only [hw, cond_true, cond_false] at h ⊢
    · obtain ⟨v, h1, h2⟩ := h; exact ⟨v, h1, hk _ h2⟩
    · obtain ⟨v, h1, h2⟩ := h; exact ⟨v, h1, hk _ h2⟩
theorem quiet_mono {ops : Array Oper} {o : Oper} {env : Env} {w : World} {K K' : Value → Prop} (hk : ∀ v, K v → K' v) (h : quietS P ops o env w K) : quietS P ops o env w K' := by
  unfold quietS at *
  cases hg : o.guard with
  | none => rw [hg] at h; exact qS_mono hk h
  | some jb => obtain ⟨j, b⟩ := jb; rw [hg] at h; exact ⟨gdS_mono (qS_mono hk) (hk _) h.h⟩
theorem resS_mono {r K K'} (h : resS P r K) (hk : ∀ v w, K v w → K' v w) : resS P r K' := by
  unfold resS at *
  split at h
  · exact hk _ _ h
  · exact hk _ _ h
  · exact Calls.mono h fun e w he => by cases e <;> first | exact hk _ _ he | exact he
  · exact Rows.mono h hk
  · exact h.elim
theorem retP_mono {K K' : Value → World → Prop} (hk : ∀ v w, K v w → K' v w) (e : Ending) (w : World) (h : retP K e w) : retP K' e w := by
  cases e <;> first | exact hk _ _ h | exact h
theorem eS_mono {o : Oper} {ρ : Operand → Value} {w : World} {K K' : Value → World → Prop} (hk : ∀ v w, K v w → K' v w) (h : eS P o ρ w K) : eS P o ρ w K' := by
  unfold eS at *
  split at h
  · exact ⟨hk _ _ h.h⟩
  · obtain ⟨h⟩ := h; refine ⟨?_⟩; unfold alS at *; split at h <;> first | exact hk _ _ h | exact h
  · obtain ⟨h⟩ := h; refine ⟨?_⟩; unfold stS at *
    split at h
    · split at h <;> first | exact ⟨h.1, hk _ _ h.2⟩ | exact h
    · split at h <;> first | exact ⟨h.1, hk _ _ h.2⟩ | exact h
    · exact h
  · obtain ⟨h⟩ := h; refine ⟨?_⟩; unfold fcS at *
    cases hb : bodyOk P _ <;> simp only [hb, cond_true, cond_false] at h ⊢
    exact Calls.mono h (retP_mono hk)
  · obtain ⟨h⟩ := h; refine ⟨?_⟩; unfold vcS at *
    split at h
    · exact ⟨h.1, Calls.mono h.2 (retP_mono hk)⟩
    · exact h
  · exact ⟨resS_mono h.h hk⟩
theorem event_mono {ops : Array Oper} {o : Oper} {env : Env} {w : World} {K K' : Value → World → Prop} (hk : ∀ v w, K v w → K' v w) (h : eventS P ops o env w K) : eventS P ops o env w K' := by
  unfold eventS at *
  cases hg : o.guard with
  | none => rw [hg] at h; exact eS_mono hk h
  | some jb => obtain ⟨j, b⟩ := jb; rw [hg] at h; exact ⟨gdS_mono (eS_mono hk) (hk _ _) h.h⟩
end
end Go.Proofs.Ytbkgijnmckchbaa
