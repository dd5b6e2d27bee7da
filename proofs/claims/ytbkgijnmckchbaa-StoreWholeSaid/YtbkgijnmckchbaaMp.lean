/- Maps in memory, whose keys are numbers: what is looked up, laid, struck, gone through. -/
import Derived.Test.YtbkgijnmckchbaaBy
import Derived.MapKept
namespace Go.Proofs.Ytbkgijnmckchbaa
open Go
set_option linter.unusedSimpArgs false
set_option linter.unusedVariables false
class MTy (t : Nat) (kt e : outParam Nat) : Prop where
  u : Try.prog.underlying t = some (.map kt e)
  k : Try.prog.underlying kt = some (.int .i64)
class ZTy (e : Nat) (z : outParam Value) : Prop where
  z : ∀ w, (zeroValue e).run Try.prog w = .ok z w
/-- a map's entries, in the order in which they came -/
structure MpE {α : Type} (V : α → Value) (es : Array MapEntry) (clock : Nat) (m : List (Int × α)) : Prop where
  ents : (es.toList.map fun e => (e.key, e.val)) = m.map fun p => (Value.int .i64 p.1, V p.2)
  born : (es.toList.map (·.born)).Nodup
  lt : ∀ e ∈ es.toList, e.born < clock
  nd : (m.map (·.1)).Nodup
/-- a map lies in block b -/
def MpAt {α : Type} (V : α → Value) (w : World) (b : Nat) (m : List (Int × α)) : Prop := ∃ es clock, w.heap[b]? = some (.map es clock) ∧ MpE V es clock m
/-- where a key stands -/
def fnd {α : Type} (k : Int) : List (Int × α) → Nat → Option (Nat × α)
  | [], _ => none
  | (k', x) :: m, i => if k = k' then some (i, x) else fnd k m (i + 1)
def look {α : Type} (m : List (Int × α)) (k : Int) : Option α := (fnd k m 0).map (·.2)
/-- a key's value, laid anew -/
def mset {α : Type} (m : List (Int × α)) (k : Int) (x : α) : List (Int × α) := match fnd k m 0 with | some (i, _) => m.set i (k, x) | none => m ++ [(k, x)]
/-- a key, struck -/
def del {α : Type} (m : List (Int × α)) (k : Int) : List (Int × α) := match fnd k m 0 with | some (i, _) => m.eraseIdx i | none => m
section fnd
variable {α : Type} {V : α → Value} {k : Int}
theorem fnd_some : ∀ {m : List (Int × α)} {i j : Nat} {x : α}, fnd k m i = some (j, x) → i ≤ j ∧ m[j - i]? = some (k, x)
  | [], _, _, _, h => by simp [fnd] at h
  | (k', y) :: m, i, j, x, h => by
    unfold fnd at h
    split at h
    · rename_i hk
      simp at h
      obtain ⟨rfl, rfl⟩ := h
      simp [hk]
    · obtain ⟨h1, h2⟩ := fnd_some h
      refine ⟨by omega, ?_⟩
      rw [show j - i = (j - (i + 1)) + 1 by omega, List.getElem?_cons_succ]
      exact h2
theorem fnd_none : ∀ {m : List (Int × α)} {i : Nat}, fnd k m i = none → ∀ p ∈ m, p.1 ≠ k
  | [], _, _ => by simp
  | (k', y) :: m, i, h => by
    unfold fnd at h
    split at h
    · cases h
    · rename_i hk
      intro p hp
      rcases List.mem_cons.1 hp with rfl | hp
      · exact fun e => hk e.symm
      · exact fnd_none h p hp
theorem look_none {m : List (Int × α)} (h : ∀ p ∈ m, p.1 ≠ k) : look m k = none := by
  unfold look
  cases hf : fnd k m 0 with
  | none => rfl
  | some x =>
    obtain ⟨j, x⟩ := x
    obtain ⟨-, h2⟩ := fnd_some hf
    exact absurd rfl (h _ (List.mem_of_getElem? h2))
theorem look_mem {m : List (Int × α)} {x : α} (h : look m k = some x) : (k, x) ∈ m := by
  unfold look at h
  rw [Option.map_eq_some_iff] at h
  obtain ⟨⟨j, y⟩, h1, rfl⟩ := h
  exact List.mem_of_getElem? (fnd_some h1).2
theorem look_of_mem {m : List (Int × α)} {x : α} (hn : (m.map (·.1)).Nodup) (h : (k, x) ∈ m) : look m k = some x := by
  cases hl : look m k with
  | none =>
    unfold look at hl
    rw [Option.map_eq_none_iff] at hl
    exact absurd rfl (fnd_none hl _ h)
  | some y =>
    have := look_mem hl
    obtain ⟨i, hi⟩ := List.getElem?_of_mem h
    obtain ⟨j, hj⟩ := List.getElem?_of_mem this
    have e : i = j := by
      obtain ⟨hi1, hi2⟩ := List.getElem?_eq_some_iff.1 hi
      obtain ⟨hj1, hj2⟩ := List.getElem?_eq_some_iff.1 hj
      have : (m.map (·.1))[i]'(by simpa using hi1) = (m.map (·.1))[j]'(by simpa using hj1) := by simp [hi2, hj2]
      exact (List.getElem_inj hn).1 this
    subst e
    rw [hi] at hj
    simpa using hj.symm
theorem look_cons {m : List (Int × α)} {k' : Int} {x : α} : look ((k', x) :: m) k = if k = k' then some x else look m k := by
  have sh : ∀ (m : List (Int × α)) (i j : Nat), (fnd k m i).map (·.2) = (fnd k m j).map (·.2) := by
    intro m
    induction m with
    | nil => intros; rfl
    | cons p m ih =>
      intro i j
      obtain ⟨k1, y⟩ := p
      unfold fnd
      split
      · rfl
      · exact ih _ _
  unfold look
  rw [fnd]
  split
  · rfl
  · exact sh m _ _
theorem look_append {m n : List (Int × α)} : look (m ++ n) k = (look m k).or (look n k) := by
  induction m with
  | nil => rfl
  | cons p m ih =>
    obtain ⟨k', x⟩ := p
    rw [List.cons_append, look_cons, look_cons, ih]
    split <;> simp
theorem mset_keys {m : List (Int × α)} {x : α} : (mset m k x).map (·.1) = if (look m k).isSome then m.map (·.1) else m.map (·.1) ++ [k] := by
  unfold mset look
  cases hf : fnd k m 0 with
  | none => simp
  | some p =>
    obtain ⟨j, y⟩ := p
    obtain ⟨-, h2⟩ := fnd_some hf
    rw [Nat.sub_zero] at h2
    simp only [Option.map_some, Option.isSome_some, if_true]
    apply List.ext_getElem?
    intro i
    rw [List.getElem?_map, List.getElem?_map, List.getElem?_set]
    split
    · rename_i hij
      subst hij
      rw [h2]
      have := (List.getElem?_eq_some_iff.1 h2).1
      simp [this]
    · rfl
theorem mset_nd {m : List (Int × α)} {x : α} (hn : (m.map (·.1)).Nodup) : ((mset m k x).map (·.1)).Nodup := by
  rw [mset_keys]
  split
  · exact hn
  · rename_i h
    rw [List.nodup_append]
    refine ⟨hn, by simp, ?_⟩
    intro a ha b hb e
    simp at hb
    subst hb e
    obtain ⟨p, hp, rfl⟩ := List.mem_map.1 ha
    have := look_of_mem hn (k := p.1) (x := p.2) hp
    rw [this] at h
    exact h rfl
theorem mem_mset {m : List (Int × α)} {x : α} (hn : (m.map (·.1)).Nodup) {p : Int × α} : p ∈ mset m k x ↔ p = (k, x) ∨ (p ∈ m ∧ p.1 ≠ k) := by
  unfold mset
  cases hf : fnd k m 0 with
  | none =>
    have := fnd_none hf
    simp only [List.mem_append, List.mem_singleton]
    constructor
    · rintro (h | h)
      · exact .inr ⟨h, this p h⟩
      · exact .inl h
    · rintro (h | h)
      · exact .inr h
      · exact .inl h.1
  | some q =>
    obtain ⟨j, y⟩ := q
    obtain ⟨-, h2⟩ := fnd_some hf
    rw [Nat.sub_zero] at h2
    have hj := (List.getElem?_eq_some_iff.1 h2).1
    simp only [List.mem_iff_getElem?]
    constructor
    · rintro ⟨i, hi⟩
      rw [List.getElem?_set] at hi
      split at hi
      · rename_i e
        subst e
        simp [hj] at hi
        exact .inl hi.symm
      · rename_i e
        refine .inr ⟨⟨i, hi⟩, fun hk => e ?_⟩
        obtain ⟨hi1, hi2⟩ := List.getElem?_eq_some_iff.1 hi
        obtain ⟨hj1, hj2⟩ := List.getElem?_eq_some_iff.1 h2
        have : (m.map (·.1))[j]'(by simpa using hj1) = (m.map (·.1))[i]'(by simpa using hi1) := by simp [hi2, hj2, hk]
        exact (List.getElem_inj hn).1 this
    · rintro (h | ⟨⟨i, hi⟩, hk⟩)
      · exact ⟨j, by rw [List.getElem?_set, if_pos rfl, if_pos hj, h]⟩
      · refine ⟨i, ?_⟩
        rw [List.getElem?_set]
        split
        · rename_i e
          subst e
          rw [h2] at hi
          simp at hi
          exact absurd (by rw [← hi]) hk
        · exact hi
theorem look_mset {m : List (Int × α)} {x : α} (hn : (m.map (·.1)).Nodup) (k' : Int) : look (mset m k x) k' = if k' = k then some x else look m k' := by
  split
  · rename_i h
    subst h
    exact look_of_mem (mset_nd hn) ((mem_mset hn).2 (.inl rfl))
  · rename_i h
    cases hl : look m k' with
    | some y => exact look_of_mem (mset_nd hn) ((mem_mset hn).2 (.inr ⟨look_mem hl, h⟩))
    | none =>
      refine look_none fun p hp e => ?_
      rcases (mem_mset hn).1 hp with rfl | ⟨hp, -⟩
      · exact h e.symm
      · have := look_of_mem (k := p.1) (x := p.2) hn hp
        rw [e, hl] at this
        cases this
theorem mem_del {m : List (Int × α)} (hn : (m.map (·.1)).Nodup) {p : Int × α} : p ∈ del m k ↔ p ∈ m ∧ p.1 ≠ k := by
  unfold del
  cases hf : fnd k m 0 with
  | none =>
    have := fnd_none hf
    exact ⟨fun h => ⟨h, this p h⟩, fun h => h.1⟩
  | some q =>
    obtain ⟨j, y⟩ := q
    obtain ⟨-, h2⟩ := fnd_some hf
    rw [Nat.sub_zero] at h2
    simp only [List.mem_eraseIdx_iff_getElem?]
    constructor
    · rintro ⟨i, hij, hi⟩
      refine ⟨List.mem_of_getElem? hi, fun hk => hij ?_⟩
      obtain ⟨hi1, hi2⟩ := List.getElem?_eq_some_iff.1 hi
      obtain ⟨hj1, hj2⟩ := List.getElem?_eq_some_iff.1 h2
      have : (m.map (·.1))[i]'(by simpa using hi1) = (m.map (·.1))[j]'(by simpa using hj1) := by simp [hi2, hj2, hk]
      exact (List.getElem_inj hn).1 this
    · rintro ⟨h, hk⟩
      obtain ⟨i, hi⟩ := List.getElem?_of_mem h
      refine ⟨i, fun e => ?_, hi⟩
      subst e
      rw [h2] at hi
      simp at hi
      exact hk (by rw [← hi])
theorem del_nd {m : List (Int × α)} (hn : (m.map (·.1)).Nodup) : ((del m k).map (·.1)).Nodup := by
  unfold del
  cases hf : fnd k m 0 with
  | none => exact hn
  | some q =>
    exact List.Nodup.sublist ((List.eraseIdx_sublist m q.1).map _) hn
theorem look_del {m : List (Int × α)} (hn : (m.map (·.1)).Nodup) (k' : Int) : look (del m k) k' = if k' = k then none else look m k' := by
  split
  · rename_i h
    subst h
    exact look_none fun p hp => ((mem_del hn).1 hp).2
  · rename_i h
    cases hl : look m k' with
    | some y => exact look_of_mem (del_nd hn) ((mem_del hn).2 ⟨look_mem hl, h⟩)
    | none =>
      refine look_none fun p hp e => ?_
      have := look_of_mem (k := p.1) (x := p.2) hn ((mem_del hn).1 hp).1
      rw [e, hl] at this
      cases this
theorem map_erase {β γ : Type} (f : β → γ) (l : List β) (i : Nat) : (l.eraseIdx i).map f = (l.map f).eraseIdx i := by
  rw [List.eraseIdx_eq_take_drop_succ, List.eraseIdx_eq_take_drop_succ, List.map_append, List.map_take, List.map_drop]
/-- the model's search -/
theorem findNow_int : ∀ (es : List MapEntry) (m : List (Int × α)) (i : Nat), (es.map fun e => (e.key, e.val)) = (m.map fun p => (Value.int .i64 p.1, V p.2)) →
    Instr.findNow (.int .i64) (.int .i64 k) es i = some ((fnd k m i).map fun p => (p.1, V p.2))
  | [], [], _, _ => rfl
  | [], _ :: _, _, h => by simp at h
  | _ :: _, [], _, h => by simp at h
  | e :: es, (k', x) :: m, i, h => by
    simp only [List.map_cons, List.cons.injEq, Prod.mk.injEq] at h
    obtain ⟨⟨h1, h2⟩, h3⟩ := h
    unfold Instr.findNow fnd
    rw [h1]
    simp only [Instr.sameNow, if_true]
    by_cases hk : k = k'
    · subst hk
      simp [h2]
    · have : (k == k') = false := by simp [hk]
      rw [this, if_neg hk]
      exact findNow_int es m (i + 1) h3
end fnd
theorem run_checkKey {kt : Nat} {w : World} {k : Int} {b : Bool} (hk : Try.prog.underlying kt = some (.int .i64)) : (Instr.checkKey b 10000 kt (.int .i64 k)).run Try.prog w = .ok () w := by
  rw [show (10000 : Nat) = 9999 + 1 from rfl, Instr.checkKey]
  simp only [Sem.run_bind, run_underlying hk, Result.andThen_ok, Sem.run_pure]
section rules
variable {α : Type} {V : α → Value} {t kt e : Nat} {w : World} {b : Nat} {m : List (Int × α)} {k : Int} {z : Value}
theorem run_findKey (hk : Try.prog.underlying kt = some (.int .i64)) {es : Array MapEntry} {clock : Nat} (h : MpE V es clock m) : (Instr.findKey kt (.int .i64 k) es.toList).run Try.prog w = .ok ((fnd k m 0).map fun p => (p.1, V p.2)) w := by
  unfold Instr.findKey
  simp only [Sem.run_bind, run_underlying hk, Result.andThen_ok, findNow_int _ _ _ h.ents, Sem.run_pure]
theorem lk_r [T : MTy t kt e] [Z : ZTy e z] {ok : Bool} {K : Value → Prop} (h : MpAt V w b m) :
    wv (lk t (.map (some b)) (.int .i64 k) ok) w K = K (if ok then .tuple #[match look m k with | some x => V x | none => z, .bool (look m k).isSome] else match look m k with | some x => V x | none => z) := by
  obtain ⟨es, clock, hb, hE⟩ := h
  refine wv_of ?_
  unfold lk vN Instr.lookup look
  simp only [Sem.run_bind, run_underlying T.u, Result.andThen_ok, MapKept.run_getObj_map hb, Sem.run_pure, run_checkKey T.k, run_findKey T.k hE]
  cases fnd k m 0 with
  | none => simp [Z.z]
  | some p => simp
theorem lk_nil [T : MTy t kt e] [Z : ZTy e z] {ok : Bool} {K : Value → Prop} : wv (lk t (.map none) (.int .i64 k) ok) w K = K (if ok then .tuple #[z, .bool false] else z) := by
  refine wv_of ?_
  unfold lk vN Instr.lookup
  have hf : (Instr.findKey kt (.int .i64 k) ([] : List MapEntry)).run Try.prog w = .ok none w := by
    unfold Instr.findKey
    simp only [Sem.run_bind, run_underlying T.k, Result.andThen_ok, Instr.findNow, Sem.run_pure]
  have hc : ∀ b, (Instr.checkKey b 10000 kt (.int .i64 k)).run Try.prog w = .ok () w := fun b => run_checkKey T.k
  simp only [Sem.run_bind, run_underlying T.u, Result.andThen_ok, Sem.run_pure, hc]
  simp [hf, Z.z]
@[go_sem] theorem ln_map (h : MpAt V w b m) {K : Value → Prop} : ln 3 (.map (some b)) w K = K (.int .i64 m.length) := by
  obtain ⟨es, clock, hb, hE⟩ := h
  refine propext ⟨fun h => ?_, fun h => ⟨?_⟩⟩
  · have := h.h
    simp only [lnS, hb] at this
    have hl := congrArg List.length hE.ents
    simp at hl
    rw [← hl]
    exact this
  · simp only [lnS, hb]
    have hl := congrArg List.length hE.ents
    simp at hl
    rw [hl]
    exact h
@[go_sem] theorem ln_map_nil {K : Value → Prop} : ln 3 (.map none) w K = K (.int .i64 0) := propext ⟨fun h => h.h, fun h => ⟨h⟩⟩
theorem mm_r {L : Value → World → Prop} : o (mm t none) w L = L (.map (some w.heap.size)) (w.alloc (.map #[] 0)) := by
  refine o_of ?_
  simp [mm, vN, Instr.makeMap]
theorem MpAt.new (V : α → Value) : MpAt V (w.alloc (.map #[] 0)) w.heap.size [] := ⟨#[], 0, heap_alloc_new w _, ⟨by simp, by simp, by simp, by simp⟩⟩
theorem MpAt.ext {w' : World} (h : MpAt V w b m) (hx : Ext w w') : MpAt V w' b m := by
  obtain ⟨es, clock, hb, hE⟩ := h
  exact ⟨es, clock, by rw [hx.heap (Array.getElem?_eq_some_iff.1 hb).1]; exact hb, hE⟩
theorem MpAt.lt (h : MpAt V w b m) : b < w.heap.size := by
  obtain ⟨es, clock, hb, hE⟩ := h
  exact (Array.getElem?_eq_some_iff.1 hb).1
theorem MpAt.nd (h : MpAt V w b m) : (m.map (·.1)).Nodup := by
  obtain ⟨es, clock, hb, hE⟩ := h
  exact hE.nd
theorem MpAt.chg {S : List Nat} {w' : World} (h : MpAt V w b m) (hc : Chg S w w') (hn : b ∉ S) : MpAt V w' b m := by
  have hlt := h.lt
  obtain ⟨es, clock, hb, hE⟩ := h
  exact ⟨es, clock, by rw [hc.block b hlt hn]; exact hb, hE⟩
/-- a block, laid anew -/
def putO (w : World) (r : Nat) (ob : Obj) : World := { w with heap := w.heap.setIfInBounds r ob }
theorem heap_put {w : World} {b : Nat} (ob : Obj) (h : b < w.heap.size) : (putO w b ob).heap[b]? = some ob := by
  unfold putO
  simp [h]
theorem chg_put {w : World} {b : Nat} (ob : Obj) : Chg [b] w (putO w b ob) :=
  ⟨rfl, rfl, rfl, by simp [putO], fun c hc hn => by
    unfold putO
    simp only [List.mem_singleton] at hn
    simp only [Array.getElem?_setIfInBounds]
    rw [if_neg (fun e => hn e.symm)]⟩
theorem mu_r [T : MTy t kt e] {x : α} {L : Value → World → Prop} (h : MpAt V w b m) (hk : ∀ w', MpAt V w' b (mset m k x) → Chg [b] w w' → L undef w') : o (mu t (.map (some b)) (.int .i64 k) (V x)) w L := by
  have hlt := h.lt
  obtain ⟨es, clock, hb, hE⟩ := h
  have hund := mset_nd (k := k) (x := x) hE.nd
  have key : ∀ es' clock', (Instr.mapUpdate t (.map (some b)) (.int .i64 k) (V x)).run Try.prog w = .ok () (putO w b (.map es' clock')) → MpE V es' clock' (mset m k x) → o (mu t (.map (some b)) (.int .i64 k) (V x)) w L := by
    intro es' clock' hr hE'
    refine ⟨?_⟩
    unfold resS mu uN
    simp only [Sem.run_bind, hr, Result.andThen_ok, Sem.run_pure]
    exact hk _ ⟨es', clock', heap_put _ hlt, hE'⟩ (chg_put _)
  cases hf : fnd k m 0 with
  | none =>
    refine key (es.push { key := .int .i64 k, val := V x, born := clock }) (clock + 1) ?_ ?_
    · unfold Instr.mapUpdate
      simp only [Sem.run_bind, run_underlying T.u, Result.andThen_ok, MapKept.run_getObj_map hb, run_checkKey T.k, run_findKey T.k hE, hf, Option.map_none]
      rw [MapKept.run_setObj_map _ hb]
      rfl
    · refine ⟨?_, ?_, ?_, hund⟩
      · unfold mset
        rw [hf]
        simp [hE.ents]
      · simp only [Array.toList_push, List.map_append, List.map_cons, List.map_nil]
        rw [List.nodup_append]
        refine ⟨hE.born, by simp, fun a ha c hc e => ?_⟩
        simp at hc
        subst hc e
        obtain ⟨p, hp, rfl⟩ := List.mem_map.1 ha
        have := hE.lt p hp
        omega
      · intro p hp
        simp only [Array.toList_push, List.mem_append, List.mem_singleton] at hp
        rcases hp with hp | rfl
        · have := hE.lt p hp; omega
        · simp
  | some q =>
    obtain ⟨j, y⟩ := q
    obtain ⟨-, h2⟩ := fnd_some hf
    rw [Nat.sub_zero] at h2
    have hj := (List.getElem?_eq_some_iff.1 h2).1
    have hel : (es.toList.map fun e => (e.key, e.val))[j]? = some (Value.int .i64 k, V y) := by rw [hE.ents, List.getElem?_map, h2]; rfl
    rw [List.getElem?_map, Option.map_eq_some_iff] at hel
    obtain ⟨e0, he0, he1⟩ := hel
    simp at he1
    have hej : es[j]? = some e0 := by rw [← Array.getElem?_toList]; exact he0
    refine key (es.modify j fun e => { e with key := .int .i64 k, val := V x }) clock ?_ ?_
    · unfold Instr.mapUpdate
      simp only [Sem.run_bind, run_underlying T.u, Result.andThen_ok, MapKept.run_getObj_map hb, run_checkKey T.k, run_findKey T.k hE, hf, Option.map_some]
      have hkts : (Instr.keyThatStays (((es[j]?).map (·.key)).getD (.int .i64 k)) (.int .i64 k)).run Try.prog w = .ok (.int .i64 k) w := by
        rw [hej]
        simp [he1.1, Instr.keyThatStays, Instr.sameBits]
      simp only [hkts, Result.andThen_ok]
      rw [MapKept.run_setObj_map _ hb]
      rfl
    · have hml : (es.modify j fun e => { e with key := .int .i64 k, val := V x }).toList = es.toList.modify j fun e => { e with key := .int .i64 k, val := V x } := by simp
      refine ⟨?_, ?_, ?_, hund⟩
      · rw [hml]
        unfold mset
        rw [hf]
        apply List.ext_getElem?
        intro i
        have hi := congrArg (fun l => l[i]?) hE.ents
        simp only [List.getElem?_map] at hi
        simp only [List.getElem?_map, List.getElem?_modify, List.getElem?_set]
        by_cases hij : j = i
        · subst hij
          simp [he0, hj]
        · simp [hij]
          have h9 : es[i]? = es.toList[i]? := by simp
          exact (congrArg (Option.map fun e => (e.key, e.val)) h9).trans hi
      · rw [hml]
        have : (es.toList.modify j fun e => { e with key := .int .i64 k, val := V x }).map (·.born) = es.toList.map (·.born) := by
          apply List.ext_getElem?
          intro i
          simp only [List.getElem?_map, List.getElem?_modify]
          by_cases hij : j = i
          · subst hij; simp [he0]
          · simp [hij]
        rw [this]
        exact hE.born
      · rw [hml]
        intro p hp
        obtain ⟨i, hi⟩ := List.getElem?_of_mem hp
        rw [List.getElem?_modify] at hi
        by_cases hij : j = i
        · subst hij
          rw [he0] at hi
          simp at hi
          rw [← hi]
          exact hE.lt e0 (List.mem_of_getElem? he0)
        · simp [hij] at hi
          exact hE.lt p (List.mem_of_getElem? (i := i) (by simpa using hi))
theorem dl_r [T : MTy t kt e] {ts : Array Nat} {ty : Nat} {cs : Array Bool} (hts : ts[0]? = some t) {L : Value → World → Prop} (h : MpAt V w b m) (hk : ∀ w', MpAt V w' b (del m k) → Chg [b] w w' → L (.tuple #[]) w') : o (bi .delete ts ty cs #[.map (some b), .int .i64 k]) w L := by
  have hlt := h.lt
  obtain ⟨es, clock, hb, hE⟩ := h
  have hund := del_nd (k := k) hE.nd
  have key : ∀ es', (Builtin.delete_ ts ty #[.map (some b), .int .i64 k]).run Try.prog w = .ok (.tuple #[]) (putO w b (.map es' clock)) → MpE V es' clock (del m k) → o (bi .delete ts ty cs #[.map (some b), .int .i64 k]) w L := by
    intro es' hr hE'
    refine ⟨?_⟩
    unfold resS bi builtin
    simp only [Sem.run_bind, hr, Result.andThen_ok, Sem.run_pure]
    exact hk _ ⟨es', clock, heap_put _ hlt, hE'⟩ (chg_put _)
  have hc : ∀ b, (Instr.checkKey b 10000 kt (.int .i64 k)).run Try.prog w = .ok () w := fun b => run_checkKey T.k
  cases hf : fnd k m 0 with
  | none =>
    refine key es ?_ (by unfold del; rw [hf]; exact hE)
    unfold Builtin.delete_
    simp only [hts, Sem.run_bind, run_underlying T.u, Result.andThen_ok, MapKept.run_getObj_map hb, hc, run_findKey T.k hE, hf, Option.map_none, List.getElem?_toArray, List.getElem?_cons_zero, List.getElem?_cons_succ]
    rw [MapKept.run_setObj_map _ hb]
    rfl
  | some q =>
    obtain ⟨j, y⟩ := q
    refine key (es.eraseIdxIfInBounds j) ?_ ?_
    · unfold Builtin.delete_
      simp only [hts, Sem.run_bind, run_underlying T.u, Result.andThen_ok, MapKept.run_getObj_map hb, hc, run_findKey T.k hE, hf, Option.map_some, List.getElem?_toArray, List.getElem?_cons_zero, List.getElem?_cons_succ]
      rw [MapKept.run_setObj_map _ hb]
      rfl
    · have hml : (es.eraseIdxIfInBounds j).toList = es.toList.eraseIdx j := by simp
      refine ⟨?_, ?_, ?_, hund⟩
      · rw [hml]
        unfold del
        rw [hf]
        show _ = (m.eraseIdx j).map _
        rw [map_erase, map_erase, hE.ents]
      · rw [hml, map_erase]
        exact List.Nodup.sublist (List.eraseIdx_sublist _ _) hE.born
      · rw [hml]
        intro p hp
        exact hE.lt p (List.mem_of_mem_eraseIdx hp)
end rules
end Go.Proofs.Ytbkgijnmckchbaa
