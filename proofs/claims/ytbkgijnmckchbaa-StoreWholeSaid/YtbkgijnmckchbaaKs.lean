/- the keys of a map, sorted; a map's clone: by the shelf's contracts. -/
import Derived.Test.YtbkgijnmckchbaaMr
import Derived.Test.YtbkgijnmckchbaaShf
namespace Go.Proofs.Ytbkgijnmckchbaa
open Go Go.RowKit Go.Maps Go.Sort Go.Shelf
/-- numbers, ascending -/
def asc (l : List Int) : List Int := l.mergeSort fun x y => decide (x ≤ y)
theorem sorts_any (m : Nat) : AnyZI.SortsIn Try.prog Try.sortedA_ren Fence.wide m :=
  ⟨fun blk off cap ss W hH hblk hsz => callsIn_wide.2 (AnyM.slices_Sort_int Try.sortA blk off cap ss W hH hblk hsz),
   fun p cap W => callsIn_wide.2 (AnyM.slices_Sort_int_none Try.sortA p cap W)⟩
section
variable {α : Type} {V : α → Value} {t kt e : Nat} {w : World} {b : Nat} {m : List (Int × α)}
/-- a map, in the kit's word: keys alone are read -/
theorem MpAt.owns (h : MpAt V w b m) {kt : Nat} (hk : Try.prog.underlying kt = some (.int .i64)) (hr : ∀ p ∈ m, -9223372036854775808 ≤ p.1 ∧ p.1 ≤ 9223372036854775807) (hl : m.length ≤ 1000000) :
    ∃ D : DataW Unit, w.ownsMap Try.prog kt (fun _ => some (.nil, [])) b m.length D ∧ (intKeys D).Perm (m.map (·.1)) ∧ Maps.size D = m.length := by
  obtain ⟨es, clock, hb, hE⟩ := h
  have hlen := congrArg List.length hE.ents
  simp at hlen
  have hkeys : es.toList.map (·.key) = m.map fun p : Int × α => (Value.int .i64 p.1) := by
    have := congrArg (List.map Prod.fst) hE.ents
    rw [List.map_map, List.map_map] at this
    exact this
  have hrd : ∀ x ∈ es.toList, ∃ n : Int, x.key = .int .i64 n ∧ WideElems.rd Try.prog kt (fun _ => some ((.nil : DataW Unit), [])) x = some (.int .i64 n, .nil) := by
    intro x hx
    have : x.key ∈ es.toList.map (·.key) := List.mem_map_of_mem hx
    rw [hkeys] at this
    obtain ⟨p, hp, he⟩ := List.mem_map.1 this
    refine ⟨p.1, he.symm, ?_⟩
    unfold WideElems.rd
    rw [← he, Maps.keyOf_int_mk hk (by have := hr p hp; simp [Lit.wf, IntKind.min, IntKind.max, IntKind.bits, IntKind.signed]; omega)]
    rfl
  refine ⟨_, ⟨es, clock, hb, ⟨by rw [hlen]; simp only [maxLen]; omega, ⟨hE.lt, hE.born, ?_⟩, fun x hx => ?_⟩, Nat.le_of_eq hlen, rfl⟩, ?_, ?_⟩
  · rw [hkeys]
    have := hE.nd
    rw [show (m.map fun p : Int × α => (Value.int .i64 p.1)) = (m.map (·.1)).map (Value.int .i64) by rw [List.map_map]; rfl]
    exact List.Pairwise.map _ (fun a b hab e => hab (by simpa using e)) this
  · obtain ⟨n, -, h2⟩ := hrd x hx
    exact ⟨_, h2⟩
  · show (List.map (fun p : Lit × DataW Unit => _root_.Go.intOf p.1) _).Perm _
    refine ((WideShapes.sorted_perm _).map _).trans (List.Perm.of_eq ?_)
    rw [List.map_map]
    have : ∀ (l : List MapEntry) (m : List (Int × α)), (∀ x ∈ l, ∃ n : Int, x.key = .int .i64 n ∧ WideElems.rd Try.prog kt (fun _ => some ((.nil : DataW Unit), [])) x = some (.int .i64 n, .nil)) → (l.map (·.key) = m.map fun p : Int × α => (Value.int .i64 p.1)) →
        l.map ((fun p : Lit × DataW Unit => _root_.Go.intOf p.1) ∘ WideElems.rg Try.prog kt fun _ => some (.nil, [])) = m.map (·.1) := by
      intro l
      induction l with
      | nil => intro m _ h; cases m with
        | nil => rfl
        | cons _ _ => cases h
      | cons x l ih =>
        intro m h1 h2
        cases m with
        | nil => cases h2
        | cons p m =>
          simp only [List.map_cons, List.cons.injEq] at h2 ⊢
          refine ⟨?_, ih m (fun y hy => h1 y (by simp [hy])) h2.2⟩
          obtain ⟨n, g1, g2⟩ := h1 x (by simp)
          simp only [Function.comp, WideElems.rg_of g2, _root_.Go.intOf]
          rw [g1] at h2
          simpa using h2.1
    exact this _ _ hrd hkeys
  · show (List.length _) = _
    rw [(WideShapes.sorted_perm _).length_eq]
    simp [hlen]
end
section
variable {α : Type} {V : α → Value} {w : World} {b : Nat} {m : List (Int × α)}
theorem keysA.c (mb : Option Nat) (w : World) : Calls Try.prog 37 #[.map mb] w (retP fun v w' => v = .func (.func 52) #[] #[.pointer (some ⟨w.heap.size, 0, none⟩)] ∧ w' = w.alloc (.cells #[.map mb] 60)) :=
  (callsIn_wide.1 (AnyZI.keys_in Try.keysA Fence.wide 5 trivial rfl mb w)).mono fun e w' ⟨h1, h2⟩ => by subst h1; exact ⟨rfl, h2⟩
theorem keysB.c (mb : Option Nat) (w : World) : Calls Try.prog 38 #[.map mb] w (retP fun v w' => v = .func (.func 53) #[] #[.pointer (some ⟨w.heap.size, 0, none⟩)] ∧ w' = w.alloc (.cells #[.map mb] 61)) :=
  (callsIn_wide.1 (AnyZI.keys_in Try.keysB Fence.wide 5 trivial rfl mb w)).mono fun e w' ⟨h1, h2⟩ => by subst h1; exact ⟨rfl, h2⟩
theorem perm_asc {l l' : List Int} (h : l.Perm l') : asc l = asc l' := mergeSort_of_perm_i h
set_option maxHeartbeats 1000000 in
theorem sortedA.c (h : MpAt V w b m) (hr : ∀ p ∈ m, -9223372036854775808 ≤ p.1 ∧ p.1 ≤ 9223372036854775807) (hl : m.length ≤ 1000000) :
    Calls Try.prog 36 #[.func (.func 52) #[] #[.pointer (some ⟨w.heap.size, 0, none⟩)]] (w.alloc (.cells #[.map (some b)] 60)) (retP fun v w' => Ow (intC .i64) 3 w.heap.size w' v (asc (m.map (·.1))) ∧ Ext w w') := by
  obtain ⟨D, hown, hperm, hsz⟩ := h.owns (kt := 3) (by kernel_rfl) hr hl
  have hbl := h.lt
  have hseq : SeqGives Fence.wide 2 Try.prog 52 #[.pointer (some ⟨w.heap.size, 0, none⟩)] encZ (fun ss => ss.Perm (intKeys D)) (Maps.size D) (w.alloc (.cells #[.map (some b)] 60)) :=
    AnyZI.keys_gives (ρ := Try.keysA_ren) { Try.keysA with } Fence.wide _ trivial rfl (by omega) w.heap.size b m.length D _ (by simp) (by simp) (by
      obtain ⟨es, clock, hb, Ft, hs, hD⟩ := hown
      exact ⟨es, clock, (Below.heap_alloc _ _ b hbl).trans hb, Ft, hs, hD⟩)
  have cS := AnyZI.sorted_in Try.sortedA Fence.wide 5 trivial trivial trivial trivial rfl (by omega) (sorts_any _) (enters_of Try.func51 (by kernel_rfl) rfl) 52 #[.pointer (some ⟨w.heap.size, 0, none⟩)] trivial (enters_of Try.func52 (by kernel_rfl) rfl) _ _ (by rw [hsz]; simp only [maxLen]; omega) (by rw [hsz]; omega) _ hseq
  refine (callsIn_wide.1 cS).mono fun e w' ⟨v, ss, h1, h2, h3, h4, h5⟩ => ?_
  subst h1
  refine ⟨?_, Ext.tr ((Ext.refl w).alloc _) h5⟩
  have e1 : asc (m.map (·.1)) = ss.mergeSort fun x y => decide (x ≤ y) := (perm_asc (h2.trans hperm)).symm
  unfold Ow
  rw [e1, List.length_mergeSort]
  have e2 : (ss.mergeSort fun x y => decide (x ≤ y)).flatMap (intC .i64).enc = (ss.mergeSort fun x y => decide (x ≤ y)).map encZ := by
    generalize ss.mergeSort _ = q
    induction q with
    | nil => rfl
    | cons x q ih => simp only [List.flatMap_cons, List.map_cons, ih]; rfl
  rw [e2]
  exact ownsRow_base_a h3 (by simp)
set_option maxHeartbeats 1000000 in
theorem sortedB.c (h : MpAt V w b m) (hr : ∀ p ∈ m, -9223372036854775808 ≤ p.1 ∧ p.1 ≤ 9223372036854775807) (hl : m.length ≤ 1000000) :
    Calls Try.prog 36 #[.func (.func 53) #[] #[.pointer (some ⟨w.heap.size, 0, none⟩)]] (w.alloc (.cells #[.map (some b)] 61)) (retP fun v w' => Ow (intC .i64) 3 w.heap.size w' v (asc (m.map (·.1))) ∧ Ext w w') := by
  obtain ⟨D, hown, hperm, hsz⟩ := h.owns (kt := 3) (by kernel_rfl) hr hl
  have hbl := h.lt
  have hseq : SeqGives Fence.wide 2 Try.prog 53 #[.pointer (some ⟨w.heap.size, 0, none⟩)] encZ (fun ss => ss.Perm (intKeys D)) (Maps.size D) (w.alloc (.cells #[.map (some b)] 61)) :=
    AnyZI.keys_gives (ρ := Try.keysB_ren) { Try.keysB with } Fence.wide _ trivial rfl (by omega) w.heap.size b m.length D _ (by simp) (by simp) (by
      obtain ⟨es, clock, hb, Ft, hs, hD⟩ := hown
      exact ⟨es, clock, (Below.heap_alloc _ _ b hbl).trans hb, Ft, hs, hD⟩)
  have cS := AnyZI.sorted_in Try.sortedA Fence.wide 5 trivial trivial trivial trivial rfl (by omega) (sorts_any _) (enters_of Try.func51 (by kernel_rfl) rfl) 53 #[.pointer (some ⟨w.heap.size, 0, none⟩)] trivial (enters_of Try.func53 (by kernel_rfl) rfl) _ _ (by rw [hsz]; simp only [maxLen]; omega) (by rw [hsz]; omega) _ hseq
  refine (callsIn_wide.1 cS).mono fun e w' ⟨v, ss, h1, h2, h3, h4, h5⟩ => ?_
  subst h1
  refine ⟨?_, Ext.tr ((Ext.refl w).alloc _) h5⟩
  have e1 : asc (m.map (·.1)) = ss.mergeSort fun x y => decide (x ≤ y) := (perm_asc (h2.trans hperm)).symm
  unfold Ow
  rw [e1, List.length_mergeSort]
  have e2 : (ss.mergeSort fun x y => decide (x ≤ y)).flatMap (intC .i64).enc = (ss.mergeSort fun x y => decide (x ≤ y)).map encZ := by
    generalize ss.mergeSort _ = q
    induction q with
    | nil => rfl
    | cons x q ih => simp only [List.flatMap_cons, List.map_cons, ih]; rfl
  rw [e2]
  exact ownsRow_base_a h3 (by simp)
theorem cloneB.c (h : MpAt V w b m) : Calls Try.prog 34 #[.map (some b)] w (retP fun v w' => v = .map (some w.heap.size) ∧ MpAt V w' w.heap.size m ∧ Ext w w') := by
  obtain ⟨es, clock, hb, hE⟩ := h
  refine (AnyW.maps_Clone Try.cloneB b es clock w hb).mono fun e w' ⟨h1, h2⟩ => ?_
  subst h1 h2
  exact ⟨rfl, ⟨es, clock, heap_alloc_new w _, hE⟩, (Ext.refl w).alloc _⟩
end
end Go.Proofs.Ytbkgijnmckchbaa
