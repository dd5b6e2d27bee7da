/- Going through a map. -/
import Derived.Test.YtbkgijnmckchbaaMp
import Derived.Maps.RangeRun
namespace Go.Proofs.Ytbkgijnmckchbaa
open Go
set_option linter.unusedSimpArgs false
set_option linter.unusedVariables false
/-- the iterator in block r goes over the map in block b: what is left, and the entry at hand -/
def ItAt {α : Type} (V : α → Value) (w : World) (r b : Nat) (m left : List (Int × α)) (cur : Option (Int × α)) : Prop :=
  ∃ es clock seen, w.heap[r]? = some (.mapIter (some b) clock seen clock) ∧ w.heap[b]? = some (.map es clock) ∧ MpE V es clock m ∧
    left = ((m.zip (es.toList.map (·.born))).filter fun z => !seen.contains z.2).map (·.1) ∧ (∀ p, cur = some p → ∃ e ∈ es.toList, e.key = .int .i64 p.1 ∧ e.val = V p.2 ∧ seen.back? = some e.born)
section
variable {α : Type} {V : α → Value} {t kt e : Nat} {w w' : World} {r b : Nat} {m left : List (Int × α)} {cur : Option (Int × α)}
theorem ItAt.chg {S : List Nat} (h : ItAt V w r b m left cur) (hc : Chg S w w') (hr : r ∉ S) (hb : b ∉ S) : ItAt V w' r b m left cur := by
  obtain ⟨es, clock, seen, h1, h2, h3⟩ := h
  exact ⟨es, clock, seen, by rw [hc.block r (Array.getElem?_eq_some_iff.1 h1).1 hr]; exact h1, by rw [hc.block b (Array.getElem?_eq_some_iff.1 h2).1 hb]; exact h2, h3⟩
theorem ItAt.ext (h : ItAt V w r b m left cur) (hx : Ext w w') : ItAt V w' r b m left cur := h.chg (hx.chg (S := [])) (by simp) (by simp)
theorem ItAt.map (h : ItAt V w r b m left cur) : MpAt V w b m := by
  obtain ⟨es, clock, seen, h1, h2, h3, h4⟩ := h
  exact ⟨es, clock, h2, h3⟩
theorem zip_map (m : List (Int × α)) (bs : List Nat) (h : m.length = bs.length) : (m.zip bs).map (·.1) = m ∧ (m.zip bs).map (·.2) = bs := by
  induction m generalizing bs with
  | nil => cases bs with
    | nil => simp
    | cons _ _ => cases h
  | cons p m ih => cases bs with
    | nil => cases h
    | cons c bs =>
      simp at h
      obtain ⟨h1, h2⟩ := ih bs h
      simp [h1, h2]
theorem rg_r [T : MTy t kt e] {L : Value → World → Prop} (h : MpAt V w b m) (hk : ∀ w', ItAt V w' w.heap.size b m m none → Ext w w' → w'.heap.size = w.heap.size + 1 → L (.pointer (some ⟨w.heap.size, 0, none⟩)) w') : o (rg t (.map (some b))) w L := by
  obtain ⟨es, clock, hb, hE⟩ := h
  have hlt := (Array.getElem?_eq_some_iff.1 hb).1
  have hlen := congrArg List.length hE.ents
  simp at hlen
  have hr : (Instr.range t (.map (some b))).run Try.prog w = .ok (.pointer (some ⟨w.heap.size, 0, none⟩)) (w.alloc (.mapIter (some b) clock #[] clock)) := by
    unfold Instr.range
    simp only [Sem.run_bind, run_underlying T.u, Result.andThen_ok, MapKept.run_getObj_map hb, Sem.run_pure]
    rfl
  refine ⟨?_⟩
  unfold resS rg vN
  simp only [Sem.run_bind, hr, Result.andThen_ok, Sem.run_pure]
  refine hk _ ⟨es, clock, #[], heap_alloc_new w _, by rw [heap_alloc_old w _ hlt]; exact hb, hE, ?_, by simp⟩ ((Ext.refl w).alloc _) (by simp)
  have : (fun z : (Int × α) × Nat => !(#[] : Array Nat).contains z.2) = fun _ => true := by funext z; simp
  rw [this, List.filter_eq_self.2 (fun _ _ => rfl), (zip_map m _ (by simp; exact hlen.symm)).1]
theorem filter_perm {β : Type} {f : β → Nat} {q : β → Bool} : ∀ {Z : List β} {z : β}, (Z.map f).Nodup → z ∈ Z → q z = true → (Z.filter q).Perm (z :: Z.filter fun y => q y && f y != f z)
  | [], _, _, h, _ => by simp at h
  | y :: Z, z, hn, h, hq => by
    simp only [List.map_cons, List.nodup_cons] at hn
    rcases List.mem_cons.1 h with rfl | h
    · rw [List.filter_cons_of_pos hq, List.filter_cons_of_neg (by simp)]
      refine List.Perm.cons _ ?_
      have : Z.filter q = Z.filter fun y => q y && f y != f z := List.filter_congr fun y hy => by
        have : f y ≠ f z := fun e => hn.1 (by rw [← e]; exact List.mem_map_of_mem hy)
        simp [this]
      rw [this]
    · have ih := filter_perm hn.2 h hq
      have hne : f y ≠ f z := fun e => hn.1 (by rw [e]; exact List.mem_map_of_mem h)
      by_cases hy : q y = true
      · rw [List.filter_cons_of_pos hy, List.filter_cons_of_pos (by simp [hy, hne])]
        exact (ih.cons y).trans (List.Perm.swap _ _ _)
      · rw [List.filter_cons_of_neg hy, List.filter_cons_of_neg (by simp [hy])]
        exact ih
theorem nx_r {ty : Nat} {L : Value → World → Prop} (h : ItAt V w r b m left cur)
    (h0 : left = [] → L (.tuple #[.bool false]) w)
    (h1 : ∀ p left' w', left.Perm (p :: left') → ItAt V w' r b m left' (some p) → Chg [r] w w' → L (.tuple #[.bool true, .int .i64 p.1, V p.2]) w') : o (nx (.pointer (some ⟨r, 0, none⟩)) false ty) w L := by
  obtain ⟨es, clock, seen, hr, hb, hE, hl, -⟩ := h
  have hlen := congrArg List.length hE.ents
  simp at hlen
  have hzip := zip_map m (es.toList.map (·.born)) (by simp; exact hlen.symm)
  rcases run_next_at (P := Try.prog) w ty r b clock clock seen es clock hr hb (fun x hx => hE.lt x hx) (Nat.le_refl _) with ⟨k1, k2⟩ | ⟨x, hx, w1, hw1, k2⟩
  · refine ⟨?_⟩
    unfold resS nx vN
    simp only [Sem.run_bind, k2, Result.andThen_ok, Sem.run_pure]
    refine h0 ?_
    rw [hl, List.map_eq_nil_iff, List.filter_eq_nil_iff]
    intro z hz
    have hz2 : z.2 ∈ es.toList.map (·.born) := by rw [← hzip.2]; exact List.mem_map_of_mem hz
    obtain ⟨x, hx, hx2⟩ := List.mem_map.1 hz2
    have := Array.eq_empty_of_size_eq_zero k1
    unfold leftOf at this
    rw [Array.filter_eq_empty_iff] at this
    have := this x (by simpa using hx)
    rw [hx2] at this
    exact this
  · unfold leftOf at hx
    have hx' : x ∈ es.toList ∧ (!seen.contains x.born) = true := by simpa using hx
    obtain ⟨hxe, hxs⟩ := hx'
    obtain ⟨j, hj⟩ := List.getElem?_of_mem hxe
    have hents := congrArg (fun l => l[j]?) hE.ents
    simp only [List.getElem?_map, hj, Option.map_some] at hents
    cases hmj : m[j]? with
    | none => rw [hmj] at hents; cases hents
    | some p =>
      rw [hmj] at hents
      simp at hents
      have hzj : (m.zip (es.toList.map (·.born)))[j]? = some (p, x.born) := by rw [List.getElem?_zip_eq_some]; exact ⟨hmj, by rw [List.getElem?_map, hj]; rfl⟩
      refine ⟨?_⟩
      unfold resS nx vN
      simp only [Sem.run_bind, k2, Result.andThen_ok, Sem.run_pure]
      rw [hents.1, hents.2]
      have hrl := (Array.getElem?_eq_some_iff.1 hr).1
      have hbl := (Array.getElem?_eq_some_iff.1 hb).1
      have hne : r ≠ b := fun e => by rw [e, hb] at hr; cases hr
      have hh : w1.heap = w.heap := by rcases hw1 with rfl | rfl <;> rfl
      have ht : w1.tape = w.tape ∧ w1.os = w.os ∧ w1.output = w.output := by rcases hw1 with rfl | rfl <;> exact ⟨rfl, rfl, rfl⟩
      refine h1 p _ _ ?_ ⟨es, clock, seen.push x.born, ?_, ?_, hE, rfl, fun p' hp' => ?_⟩ ⟨ht.2.1, ht.1, ht.2.2, ?_, fun c hc hn => ?_⟩
      · rw [hl]
        have := (filter_perm (f := Prod.snd) (q := fun z : (Int × α) × Nat => !seen.contains z.2) (Z := m.zip (es.toList.map (·.born))) (z := (p, x.born)) (by rw [hzip.2]; exact hE.born) (List.mem_of_getElem? hzj) hxs).map (·.1)
        refine this.trans ?_
        rw [List.map_cons]
        refine List.Perm.cons _ (List.Perm.of_eq ?_)
        congr 1
        apply List.filter_congr
        intro z hz
        simp [Array.contains_push, Bool.not_or, bne]
        rw [Bool.beq_eq_decide_eq]
      · unfold Go.ChangeMaps.setBlock
        simp [hh, hrl]
      · unfold Go.ChangeMaps.setBlock
        simp only [hh, Array.getElem?_setIfInBounds, if_neg hne]
        exact hb
      · cases hp'
        exact ⟨x, hxe, hents.1, hents.2, by simp⟩
      · unfold Go.ChangeMaps.setBlock
        simp [hh]
      · unfold Go.ChangeMaps.setBlock
        simp only [List.mem_singleton] at hn
        simp only [hh, Array.getElem?_setIfInBounds]
        rw [if_neg (fun e => hn e.symm)]
theorem en_r {p : Int × α} {L : Value → World → Prop} (h : ItAt V w r b m left (some p)) : o (en (.pointer (some ⟨r, 0, none⟩))) w L = L (.tuple #[.int .i64 p.1, V p.2]) w := by
  obtain ⟨es, clock, seen, hr, hb, hE, -, hc⟩ := h
  obtain ⟨x, hx, h1, h2, h3⟩ := hc p rfl
  refine o_of ?_
  have hf : es.find? (·.born == x.born) = some x := by
    rw [← Array.find?_toList]
    have : ∀ (l : List MapEntry), (l.map (·.born)).Nodup → x ∈ l → l.find? (·.born == x.born) = some x := by
      intro l
      induction l with
      | nil => intro _ h; simp at h
      | cons y l ih =>
        intro hn hm
        simp only [List.map_cons, List.nodup_cons] at hn
        rw [List.find?_cons]
        rcases List.mem_cons.1 hm with rfl | hm
        · simp
        · have : (y.born == x.born) = false := by
            simp only [beq_eq_false_iff_ne]
            exact fun e => hn.1 (by rw [e]; exact List.mem_map_of_mem hm)
          rw [this]
          exact ih hn.2 hm
    exact this _ hE.born hx
  unfold en vN Instr.entry
  simp only [Sem.run_bind, getObj, Sem.run, hr, hb, Result.andThen, h3, bne_self_eq_false, Bool.false_eq_true, if_false, hf, h1, h2]
  rfl
end
end Go.Proofs.Ytbkgijnmckchbaa
