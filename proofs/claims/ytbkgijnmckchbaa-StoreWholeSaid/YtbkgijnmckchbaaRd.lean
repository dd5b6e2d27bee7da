/- What is read of arguments: of any type, as cells; as numbers, rows, lists. -/
import Derived.Test.YtbkgijnmckchbaaBy
import Derived.ProofKit
import Derived.OpenShut
import Derived.ChangeOld
import Derived.Below
import Derived.Carry
namespace Go.Proofs.Ytbkgijnmckchbaa
open Go
set_option linter.unusedSimpArgs false
set_option linter.unusedVariables false
/-- cells that can be read as a value of a type -/
def Tr (w : World) (t : Nat) (cs : List Value) : Prop := ∃ (H : Type) (enc : TypeId × Value → H) (base : Nat) (spare : Nat → Bool) (held : Bool) (fuel : Nat) (x : DataW H × List MemPlace), DataW.trod enc Try.prog w base spare held fuel t cs = some x
theorem Tr.int {w : World} {t : Nat} {k : IntKind} {cs : List Value} (ht : Try.prog.underlying t = some (.int k)) (h : Tr w t cs) : ∃ n, cs = [.int k n] ∧ k.min ≤ n ∧ n ≤ k.max := by
  obtain ⟨H, enc, base, spare, held, fuel, x, h⟩ := h
  obtain ⟨n, h1, -, h2⟩ := DataW.trod_int ht h
  simp [Lit.wf] at h2
  exact ⟨n, h1, h2.1, h2.2⟩
theorem Tr.bool {w : World} {t : Nat} {cs : List Value} (ht : Try.prog.underlying t = some .bool) (h : Tr w t cs) : ∃ b, cs = [.bool b] := by
  obtain ⟨H, enc, base, spare, held, fuel, x, h⟩ := h
  obtain ⟨n, h1, -⟩ := DataW.trod_bool ht h
  exact ⟨n, h1⟩
theorem Tr.string {w : World} {t : Nat} {cs : List Value} (ht : Try.prog.underlying t = some .string) (h : Tr w t cs) : ∃ s, cs = [.string s] := by
  obtain ⟨H, enc, base, spare, held, fuel, x, h⟩ := h
  obtain ⟨n, h1, -⟩ := DataW.trod_string ht h
  exact ⟨n, h1⟩
theorem Tr.slice {w : World} {t e k : Nat} {cs : List Value} (ht : Try.prog.underlying t = some (.slice e)) (hk : Try.prog.cellsOf e = k) (h : Tr w t cs) :
    ∃ a n c, cs = [.slice a n c] ∧ ((a = none ∧ n = 0) ∨ ∃ ad, a = some ad ∧ ∀ i, i < n → ∃ cs', cs'.length = k ∧ Tr w e cs' ∧ ∀ (j : Nat) (u : Value), cs'[j]? = some u → w.cell? (ad.add (i * k + j)) = some u) := by
  subst hk
  obtain ⟨H, enc, base, spare, held, fuel, x, h⟩ := h
  rcases DataW.trod_slice ht h with ⟨rfl, -⟩ | ⟨a, len, cap, elems, rest, n, _, rfl, rfl, hb, hl, hm, hlen, hel, hsp, hns⟩
  · exact ⟨none, 0, 0, rfl, .inl ⟨rfl, rfl⟩⟩
  · refine ⟨some a, len, cap, rfl, .inr ⟨a, rfl, fun i hi => ?_⟩⟩
    have h1 := hel i hi
    have h2 : elems[i]? = some (elems[i]'(by omega)) := List.getElem?_eq_getElem (by omega)
    rw [h2, Option.bind_eq_some_iff] at h1
    obtain ⟨cs', h3, h4⟩ := h1
    obtain ⟨h5, h6, h7⟩ := World.cells?_some h3
    refine ⟨cs', h6, ⟨H, enc, base, spare, held, n, _, h4⟩, fun j u hu => ?_⟩
    have hj : j < Try.prog.cellsOf e := by rw [← h6]; exact (List.getElem?_eq_some_iff.1 hu).1
    rw [← hu, ← h7 j hj, Addr.add_add']
where
  Addr.add_add' {a : Addr} {m n : Nat} : a.add (m + n) = (a.add m).add n := by
    unfold Addr.add
    by_cases hm : m = 0
    · subst hm; simp
    · by_cases hn : n = 0
      · subst hn; simp
      · rw [if_neg (by omega), if_neg hm, if_neg hn]; simp [Nat.add_assoc]
/-- a type's cells: each one's type -/
def leavesF (L : TypeId → Option (List TypeId)) (P : Program) : List Field → Nat → Option (List TypeId)
  | [], _ => some []
  | f :: fs, o => if f.offset = o then (L f.type).bind fun l => if P.cellsOf f.type = l.length then (leavesF L P fs (o + l.length)).map (l ++ ·) else none else none
def leaves (P : Program) : Nat → TypeId → Option (List TypeId)
  | 0, _ => none
  | n + 1, t =>
    match P.underlying t with
    | some (.struct fs) => (leavesF (leaves P n) P fs.toList 0).bind fun l => if P.cellsOf t = l.length then some l else none
    | some (.array m e) => (leaves P n e).bind fun l => if P.cellsOf e = l.length ∧ P.cellsOf t = m * l.length ∧ 0 < l.length then some ((List.replicate m l).flatten) else none
    | some _ => if P.cellsOf t = 1 then some [t] else none
    | none => none
/-- each cell can be read, as its type -/
def Each (w : World) (ts : List Nat) (cs : List Value) : Prop := cs.length = ts.length ∧ ∀ (i u : Nat) (v : Value), ts[i]? = some u → cs[i]? = some v → Tr w u [v]
theorem Each.append {w : World} {l ts : List Nat} {cs : List Value} (h1 : Each w l (cs.take l.length)) (h2 : Each w ts (cs.drop l.length)) : Each w (l ++ ts) cs := by
  obtain ⟨a1, a2⟩ := h1
  obtain ⟨b1, b2⟩ := h2
  rw [List.length_take] at a1
  rw [List.length_drop] at b1
  refine ⟨by rw [List.length_append]; omega, fun i u v hu hv => ?_⟩
  by_cases hi : i < l.length
  · rw [List.getElem?_append_left hi] at hu
    exact a2 i u v hu (by rw [List.getElem?_take, if_pos hi]; exact hv)
  · rw [List.getElem?_append_right (by omega)] at hu
    exact b2 (i - l.length) u v hu (by rw [List.getElem?_drop, show l.length + (i - l.length) = i by omega]; exact hv)
theorem Tr.arr {w : World} {t m e k : Nat} {cs : List Value} (ht : Try.prog.underlying t = some (.array m e)) (hk : Try.prog.cellsOf e = k) (h : Tr w t cs) :
    cs.length = Try.prog.cellsOf t ∧ ∀ i, i < m → Tr w e ((cs.drop (i * k)).take k) := by
  subst hk
  obtain ⟨H, enc, base, spare, held, fuel, x, h⟩ := h
  obtain ⟨xs, n, -, -, h2, h3, h4⟩ := DataW.trod_array ht h
  exact ⟨h2, fun i hi => ⟨H, enc, base, spare, held, n, xs[i]'(by omega), (h4 i hi).trans (List.getElem?_eq_getElem (by omega))⟩⟩
theorem Tr.struct {w : World} {t : Nat} {fs : Array Field} {cs : List Value} (ht : Try.prog.underlying t = some (.struct fs)) (h : Tr w t cs) :
    cs.length = Try.prog.cellsOf t ∧ ∀ (i : Nat) (f : Field), fs[i]? = some f → Tr w f.type ((cs.drop f.offset).take (Try.prog.cellsOf f.type)) := by
  obtain ⟨H, enc, base, spare, held, fuel, x, h⟩ := h
  obtain ⟨xs, n, -, -, h2, h3, h4⟩ := DataW.trod_struct ht h
  refine ⟨h2, fun i f hf => ?_⟩
  have hi : i < xs.length := by rw [h3]; exact (Array.getElem?_eq_some_iff.1 hf).1
  exact ⟨H, enc, base, spare, held, n, xs[i], (h4 i f hf).trans (List.getElem?_eq_getElem hi)⟩
theorem leaves_tr (w : World) : ∀ (n : Nat) (t : Nat) (ts : List Nat) (cs : List Value), leaves Try.prog n t = some ts → Tr w t cs → Each w ts cs := by
  intro n
  induction n with
  | zero => intro t ts cs h _; cases h
  | succ n ih =>
    intro t ts cs h hT
    unfold leaves at h
    split at h
    · rename_i fs hu
      rw [Option.bind_eq_some_iff] at h
      obtain ⟨l, h1, h2⟩ := h
      split at h2
      · rename_i hc
        simp at h2
        subst h2
        obtain ⟨hl, hf⟩ := hT.struct hu
        have key : ∀ (fl : List Field) (o : Nat) (l : List TypeId), leavesF (leaves Try.prog n) Try.prog fl o = some l → (∀ f ∈ fl, Tr w f.type ((cs.drop f.offset).take (Try.prog.cellsOf f.type))) → (cs.drop o).length = l.length → Each w l (cs.drop o) := by
          intro fl
          induction fl with
          | nil =>
            intro o l h _ hz
            simp [leavesF] at h
            subst h
            exact ⟨hz, by simp⟩
          | cons f fl ihf =>
            intro o l h hall hz
            unfold leavesF at h
            split at h
            · rename_i ho
              rw [Option.bind_eq_some_iff] at h
              obtain ⟨l1, h3, h4⟩ := h
              split at h4
              · rename_i hc1
                rw [Option.map_eq_some_iff] at h4
                obtain ⟨l2, h5, rfl⟩ := h4
                have e1 := ih f.type l1 _ h3 (hall f (by simp))
                rw [ho, hc1] at e1
                rw [List.length_append] at hz
                refine Each.append e1 ?_
                rw [List.drop_drop]
                exact ihf (o + l1.length) l2 h5 (fun g hg => hall g (by simp [hg])) (by rw [List.length_drop] at hz ⊢; omega)
              · cases h4
            · cases h
        have := key fs.toList 0 l h1 (fun f hm => by
          obtain ⟨i, hi, he⟩ := List.getElem_of_mem hm
          exact hf i f (by rw [← Array.getElem?_toList, List.getElem?_eq_getElem hi, he])) (by simp; omega)
        simpa using this
      · cases h2
    · rename_i m e hu
      rw [Option.bind_eq_some_iff] at h
      obtain ⟨l, h1, h2⟩ := h
      split at h2
      · rename_i hc
        simp at h2
        subst h2
        obtain ⟨hl, hf⟩ := hT.arr hu hc.1
        have key : ∀ (q o : Nat), o + q = m → Each w (List.replicate q l).flatten (cs.drop (o * l.length)) := by
          intro q
          induction q with
          | zero =>
            intro o ho
            have : o = m := by omega
            subst this
            exact ⟨by simp; omega, by simp⟩
          | succ q ihq =>
            intro o ho
            rw [List.replicate_succ, List.flatten_cons]
            refine Each.append (ih e l _ h1 (hf o (by omega))) ?_
            rw [List.drop_drop, show o * l.length + l.length = (o + 1) * l.length by rw [Nat.add_mul]; omega]
            exact ihq (o + 1) (by omega)
        have := key m 0 (by omega)
        simpa using this
      · cases h2
    · split at h
      · rename_i hc
        simp at h
        subst h
        have hl : cs.length = 1 := by
          obtain ⟨H, enc, base, spare, held, fuel, x, hx⟩ := hT
          cases fuel with
          | zero => simp [DataW.trod] at hx
          | succ fuel =>
            unfold DataW.trod at hx
            split at hx <;> simp_all
        obtain ⟨v0, rfl⟩ := List.length_eq_one_iff.1 hl
        refine ⟨rfl, fun i u v hu hv => ?_⟩
        rcases i with _ | i
        · simp at hu hv
          subst hu hv
          exact hT
        · simp at hu
      · cases h
    · cases h
theorem Each.uncons {w : World} {t : Nat} {ts : List Nat} {cs : List Value} (h : Each w (t :: ts) cs) : ∃ v cs', cs = v :: cs' ∧ Tr w t [v] ∧ Each w ts cs' := by
  obtain ⟨h1, h2⟩ := h
  rcases cs with _ | ⟨v, cs⟩
  · cases h1
  · exact ⟨v, cs, rfl, h2 0 t v rfl rfl, by simpa using h1, fun i u v hu hv => h2 (i + 1) u v (by simpa using hu) (by simpa using hv)⟩
theorem Each.nil {w : World} {cs : List Value} (h : Each w [] cs) : cs = [] := List.eq_nil_of_length_eq_zero h.1
theorem Tr.i {w : World} {t : Nat} {k : IntKind} [T : ITy t k] {v : Value} (h : Tr w t [v]) : ∃ n, v = .int k n ∧ k.min ≤ n ∧ n ≤ k.max := by
  obtain ⟨n, h1, h2⟩ := h.int T.u
  exact ⟨n, by simpa using h1, h2⟩
theorem Tr.b {w : World} {t : Nat} [T : BTy t] {v : Value} (h : Tr w t [v]) : ∃ n, v = .bool n := by
  obtain ⟨n, h1⟩ := h.bool T.u
  exact ⟨n, by simpa using h1⟩
theorem Tr.s {w : World} {t : Nat} [T : STy t] {v : Value} (h : Tr w t [v]) : ∃ n, v = .string n := by
  obtain ⟨n, h1⟩ := h.string T.u
  exact ⟨n, by simpa using h1⟩
theorem SlT.cells {t e k : Nat} (T : SlT t e k) : Try.prog.cellsOf e = k := by
  obtain ⟨i, z, hi, hk, -⟩ := T.i
  unfold Program.cellsOf
  rw [hi]
  exact hk
theorem Sl.of_tr {α : Type} {t e k : Nat} {C : Cdc α k} [T : SlT t e k] {w : World} {v : Value} {Q : α → Prop} (hE : ∀ cs, Tr w e cs → ∃ x, cs = C.enc x ∧ Q x) (h : Tr w t [v]) : ∃ l, Sl C w v l ∧ ∀ x ∈ l, Q x := by
  obtain ⟨a, n, c, hv, h2⟩ := h.slice T.u T.cells
  simp at hv
  subst hv
  rcases h2 with ⟨rfl, rfl⟩ | ⟨ad, rfl, h3⟩
  · exact ⟨[], .inl ⟨rfl, _, _, rfl⟩, by simp⟩
  · have key : ∀ m, m ≤ n → ∃ l : List α, l.length = m ∧ ∀ (i : Nat) (x : α), l[i]? = some x → Q x ∧ ∀ (j : Nat) (u : Value), (C.enc x)[j]? = some u → w.cell? (ad.add (i * k + j)) = some u := by
      intro m
      induction m with
      | zero => intro _; exact ⟨[], rfl, by simp⟩
      | succ m ih =>
        intro hm
        obtain ⟨l, g1, g2⟩ := ih (by omega)
        obtain ⟨cs', g3, g4, g5⟩ := h3 m (by omega)
        obtain ⟨x, rfl, hq⟩ := hE cs' g4
        refine ⟨l ++ [x], by simp [g1], fun i y hy => ?_⟩
        by_cases hi : i < l.length
        · rw [List.getElem?_append_left hi] at hy
          exact g2 i y hy
        · rw [List.getElem?_append_right (by omega)] at hy
          have : i = m := by
            have := (List.getElem?_eq_some_iff.1 hy).1
            simp at this
            omega
          subst this
          simp [g1] at hy
          subst hy
          exact ⟨hq, g5⟩
    obtain ⟨l, g1, g2⟩ := key n (Nat.le_refl _)
    subst g1
    refine ⟨l, ?_, fun x hx => ?_⟩
    · rcases l with _ | ⟨x, l⟩
      · exact .inl ⟨rfl, _, _, rfl⟩
      · -- the first cell tells that the address is plain
        have hp := T.pos
        obtain ⟨-, q1⟩ := g2 0 x rfl
        have hl := C.len x
        have q2 := q1 0 _ (List.getElem?_eq_getElem (by omega))
        have q3 : ad.add (0 * k + 0) = ad := by simp [Addr.add]
        rw [q3] at q2
        obtain ⟨b, off, sp⟩ := ad
        have q4 : sp = none := World.cell?_spot q2
        subst q4
        have q5 : ∃ cs, blk w b = some cs := by
          unfold World.cell? at q2
          unfold blk
          split at q2
          · rename_i hh; exact ⟨_, by simp only at hh; rw [hh]⟩
          · cases q2
        obtain ⟨cs, q6⟩ := q5
        refine .inr ⟨b, off, c, cs, rfl, q6, fun i y j u hi hj => ?_⟩
        have q7 := (g2 i y hi).2 j u hj
        rw [Addr.add_lit] at q7
        unfold blk at q6
        unfold World.cell? at q7
        split at q6
        · rename_i hh
          cases q6
          simp only at q7
          rw [hh] at q7
          simpa [Nat.add_assoc] using q7
        · cases q6
    · obtain ⟨i, hi⟩ := List.getElem?_of_mem hx
      exact (g2 i x hi).1
/-- numbers of one cell -/
theorem Tr.ints {k : IntKind} {t e : Nat} [T : SlT t e 1] [I : ITy e k] {w : World} {v : Value} (h : Tr w t [v]) : ∃ l, Sl (intC k) w v l ∧ ∀ x ∈ l, k.min ≤ x ∧ x ≤ k.max :=
  Sl.of_tr (fun cs hc => by
    obtain ⟨n, h1, h2⟩ := hc.int I.u
    exact ⟨n, h1, h2⟩) h
theorem Tr.bytes {t e : Nat} [T : SlT t e 1] [I : ITy e .u8] {w : World} {v : Value} (h : Tr w t [v]) : ∃ l, Sl bytC w v l := by
  obtain ⟨l, h1, -⟩ := Sl.of_tr (C := bytC) (Q := fun _ => True) (fun cs hc => by
    obtain ⟨n, h1, h2, h3⟩ := hc.int I.u
    refine ⟨UInt8.ofNat n.toNat, ?_, trivial⟩
    subst h1
    show [Value.int .u8 n] = [Value.int .u8 _]
    have : IntKind.u8.min = 0 := by decide
    have : IntKind.u8.max = 255 := by decide
    rw [UInt8.toNat_ofNat']
    congr 2
    have e : (n.toNat % 2 ^ 8 : Nat) = n.toNat % 256 := rfl
    rw [e]
    omega) h
  exact ⟨l, h1⟩
end Go.Proofs.Ytbkgijnmckchbaa
