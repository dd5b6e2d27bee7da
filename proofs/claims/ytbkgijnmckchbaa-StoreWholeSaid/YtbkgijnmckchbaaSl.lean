/- Lists in memory: slices that are read, slices that are one's own; slice literals, append, calls, loops. -/
import Derived.Test.YtbkgijnmckchbaaRul
import Derived.Great.BuildSlice
import Derived.Deep.DeepAppendWide
import Derived.Deep.AppendSrc
namespace Go.Proofs.Ytbkgijnmckchbaa
open Go
set_option linter.unusedSimpArgs false
set_option linter.unusedVariables false
/-- a slice type: its element's type, cells, bytes -/
class SlT (t : Nat) (e k : outParam Nat) : Prop where
  u : Try.prog.underlying t = some (.slice e)
  i : ∃ i z, Try.prog.info? e = some i ∧ i.size = k ∧ i.bytes ≤ 1024 ∧ i.zero = some z ∧ z.cells.size = k
  pos : 0 < k
  le : k ≤ 1024
theorem SlT.of {t e k : Nat} (h1 : Try.prog.underlying t = some (.slice e)) (h2 : ((Try.prog.info? e).bind fun i => i.zero.map fun z => decide (i.size = k ∧ i.bytes ≤ 1024 ∧ z.cells.size = k)) = some true) (h3 : 0 < k) (h4 : k ≤ 1024) : SlT t e k := by
  refine ⟨h1, ?_, h3, h4⟩
  cases hi : Try.prog.info? e with
  | none => simp [hi] at h2
  | some i =>
    cases hz : i.zero with
    | none => simp [hi, hz] at h2
    | some z =>
      simp [hi, hz] at h2
      exact ⟨i, z, rfl, h2.1, h2.2.1, hz, h2.2.2⟩
theorem o_of {m : Sem Next} {w w' : World} {v : Value} {L : Value → World → Prop} (h : m.run Try.prog w = .ok (.value v) w') : o m w L = L v w' :=
  propext ⟨fun hh => by have := hh.h; unfold resS at this; rw [h] at this; exact this, fun hh => ⟨by unfold resS; rw [h]; exact hh⟩⟩
/-- an integer type -/
class ITy (t : Nat) (k : outParam IntKind) : Prop where
  u : Try.prog.underlying t = some (.int k)
class STy (t : Nat) : Prop where
  u : Try.prog.underlying t = some .string
class BTy (t : Nat) : Prop where
  u : Try.prog.underlying t = some .bool
class PTy (t : Nat) : Prop where
  u : ∃ e, Try.prog.underlying t = some (.pointer e)
section eq
variable {t n cp : Nat} {e k : Nat} {c x y : Bool} {K : Value → Prop} {p : Option Addr}
theorem be_ne {u z : Value} {r : Bool} (hg : ∀ w, (eqGuard .neq t (bif c then .const undef else .tmp 0) (.tmp 0) u z).run Try.prog w = .ok () w) (h : ∀ w, (Op.equal t u z).run Try.prog w = .ok r w) (hb : binOp .neq t u z = (do pure (.bool (!(← Op.equal t u z))))) : pv (be .neq t c u z) K = K (.bool !r) := pv_of fun w => by
  simp only [be, vN, Sem.run_bind, hg, Result.andThen_ok, hb, h, Sem.run_pure]
@[go_sem] theorem eq_pn [T : PTy t] : pv (be .eql t c (.pointer p) (.pointer none)) K = K (.bool p.isNone) := be_pn T.u.choose_spec
@[go_sem] theorem eq_sn [T : SlT t e k] : pv (be .eql t c (.slice p n cp) (.slice none 0 0)) K = K (.bool p.isNone) := be_sn T.u
@[go_sem] theorem eq_bb [T : BTy t] : pv (be .eql t c (.bool x) (.bool y)) K = K (.bool (x == y)) := be_bb T.u
@[go_sem] theorem ne_pn [T : PTy t] : pv (be .neq t c (.pointer p) (.pointer none)) K = K (.bool !p.isNone) :=
  be_ne (fun _ => rfl) (fun w => by unfold Op.equal; rw [show Op.maxDepth = 9999 + 1 from rfl, Op.equalIn]; cases p <;> simp only [Sem.run_bind, run_underlying T.u.choose_spec, Result.andThen_ok, Sem.run_pure, Option.isNone]) rfl
@[go_sem] theorem ne_sn [T : SlT t e k] : pv (be .neq t c (.slice p n cp) (.slice none 0 0)) K = K (.bool !p.isNone) :=
  be_ne (fun _ => rfl) (fun w => by unfold Op.equal; rw [show Op.maxDepth = 9999 + 1 from rfl, Op.equalIn]; cases p <;> simp only [Sem.run_bind, run_underlying T.u, Result.andThen_ok, Sem.run_pure, Option.isNone]) rfl
@[go_sem] theorem ne_bb [T : BTy t] : pv (be .neq t c (.bool x) (.bool y)) K = K (.bool !(x == y)) :=
  be_ne (fun _ => rfl) (fun w => by unfold Op.equal; rw [show Op.maxDepth = 9999 + 1 from rfl, Op.equalIn]; simp only [Sem.run_bind, run_underlying T.u, Result.andThen_ok, Sem.run_pure]) rfl
@[go_sem] theorem eq_ss {a b : ByteArray} : pv (be .eql t c (.string a) (.string b)) K = K (.bool (a.toList == b.toList)) := pv_of fun _ => by simp [be, vN, binOp, eqGuard, Op.stringOp]
@[go_sem] theorem ne_ss {a b : ByteArray} : pv (be .neq t c (.string a) (.string b)) K = K (.bool !(a.toList == b.toList)) := pv_of fun _ => by simp [be, vN, binOp, eqGuard, Op.stringOp]
end eq
section num
variable {t s d : Nat} {k q : IntKind} {x y : Int} {w : World} {K : Value → Prop}
@[go_sem] theorem bn_shr (h : 0 ≤ y) : pv (bn .shr t (.int k x) (.int q y)) K = K (.int k (x / 2 ^ min y.toNat k.bits)) := pv_of fun _ => by simp [bn, vN, binOp, shift_shr_any, h]
@[go_sem] theorem bn_shl (h : 0 ≤ y) : pv (bn .shl t (.int k x) (.int q y)) K = K (.int k (k.wrap (x * 2 ^ min y.toNat k.bits))) := pv_of fun _ => by simp [bn, vN, binOp, shift_shl_any, h]
@[go_sem] theorem bn_and : pv (bn .and t (.int k x) (.int k y)) K = K (.int k (bits .and k x y)) := pv_of fun _ => by simp [bn, vN, binOp, Op.intBits, bits]
@[go_sem] theorem bn_or : pv (bn .or t (.int k x) (.int k y)) K = K (.int k (bits .or k x y)) := pv_of fun _ => by simp [bn, vN, binOp, Op.intBits, bits]
@[go_sem] theorem cv_ii [S : ITy s q] [D : ITy d k] : wv (cv s d (.int q x)) w K = K (.int k (k.wrap x)) := wv_of (by
  simp [cv, vN, convert, run_underlying S.u, run_underlying D.u, Conv.intToInt])
theorem wrap_64 (h1 : -9223372036854775808 ≤ x) (h2 : x ≤ 9223372036854775807) : IntKind.i64.wrap x = x := by
  simp [IntKind.wrap, IntKind.bits, IntKind.signed]; omega
theorem wrap_u64 (h1 : 0 ≤ x) (h2 : x ≤ 18446744073709551615) : IntKind.u64.wrap x = x := by
  simp [IntKind.wrap, IntKind.bits, IntKind.signed]; omega
theorem wrap_8 : IntKind.u8.wrap x = x % 256 := by
  simp [IntKind.wrap, IntKind.bits, IntKind.signed]
attribute [go_sem] wrap_64 wrap_u64 wrap_8
end num
section lit
variable {t e k : Nat} {w : World} {L : Value → World → Prop}
theorem bs_r [T : SlT t e k] {n : Nat} {ps : Array (Nat × Value)} (vs : List Value) (hp : ps.toList = (vs.zipIdx 0).map fun x => (x.2, x.1)) (hn : vs.length = n) (h0 : 0 < n) (hl : n ≤ 1024) (hv : ∀ v ∈ vs, v.cells.size = k) :
    o (bs t n ps) w L = L (.slice (some ⟨w.heap.size, 0, none⟩) n n) (w.alloc (.cells (vs.flatMap fun v => v.cells.toList).toArray e)) := by
  obtain ⟨i, z, hi, hk, -, hz, hzs⟩ := T.i
  have hb : n * k ≤ 1024 * 1024 := Nat.mul_le_mul hl T.le
  have hpos : 0 < n * k := Nat.mul_pos h0 T.pos
  apply o_of
  simp only [bs, vN, Sem.run_bind]
  rw [run_buildSlice w t e n ps (vs.flatMap fun v => v.cells.toList).toArray i z T.u hi hz (by rw [hk]; omega) (by rw [hk]; omega)
    (by rw [hk, hp]; exact Great.fill_whole T.pos vs _ hv (by simp [hn]))]
  rfl
@[go_sem] theorem bs1 [T : SlT t e k] {v : Value} (h : v.cells.size = k) : o (bs t 1 #[(0, v)]) w L = L (.slice (some ⟨w.heap.size, 0, none⟩) 1 1) (w.alloc (.cells v.cells e)) := by
  have := bs_r (w := w) (L := L) (t := t) (n := 1) (ps := #[(0, v)]) [v] rfl rfl (by omega) (by omega) (by simpa using h)
  rw [this]
  simp
@[go_sem] theorem bs2 [T : SlT t e k] {u v : Value} (h : u.cells.size = k) (h' : v.cells.size = k) : o (bs t 2 #[(0, u), (1, v)]) w L = L (.slice (some ⟨w.heap.size, 0, none⟩) 2 2) (w.alloc (.cells (u.cells ++ v.cells) e)) := by
  have := bs_r (w := w) (L := L) (t := t) (n := 2) (ps := #[(0, u), (1, v)]) [u, v] rfl rfl (by omega) (by omega) (by simp [h, h'])
  rw [this]
  congr 3
  apply Array.ext'
  simp
@[go_sem] theorem bs3 [T : SlT t e k] {u v x : Value} (h : u.cells.size = k) (h' : v.cells.size = k) (h'' : x.cells.size = k) : o (bs t 3 #[(0, u), (1, v), (2, x)]) w L = L (.slice (some ⟨w.heap.size, 0, none⟩) 3 3) (w.alloc (.cells (u.cells ++ (v.cells ++ x.cells)) e)) := by
  have := bs_r (w := w) (L := L) (t := t) (n := 3) (ps := #[(0, u), (1, v), (2, x)]) [u, v, x] rfl rfl (by omega) (by omega) (by simp [h, h', h''])
  rw [this]
  congr 3
  apply Array.ext'
  simp
@[go_sem] theorem bs0 [T : SlT t e k] : o (bs t 0 #[]) w L = L (.slice (some ⟨w.heap.size, 0, none⟩) 0 0) (w.alloc (.cells #[] e)) := by
  obtain ⟨i, z, hi, hk, -, hz, hzs⟩ := T.i
  apply o_of
  simp [bs, vN, Instr.buildSlice, run_underlying T.u, sizeOf, typeInfo, hi, newRow, Instr.fill]
  rw [Array.eq_empty_of_size_eq_zero (xs := Array.map _ (Array.range 0)) (by rw [Array.size_map, Array.size_range])]
end lit
/-- how values of α lie in k cells -/
structure Cdc (α : Type) (k : Nat) where
  enc : α → List Value
  len : ∀ x, (enc x).length = k
  one : ∀ x, ∀ u ∈ enc x, u.oneCell' = true
  pos : 0 < k
@[go_sem] theorem fit_enc {α : Type} {k : Nat} {C : Cdc α k} {x : α} : fit (.agg (C.enc x).toArray) k = True := by
  simp only [eq_iff_iff, iff_true]
  exact ⟨C.len x, oneL_iff.2 (C.one x)⟩
@[go_sem] theorem oneL_enc {α : Type} {k : Nat} {C : Cdc α k} {x : α} : oneL (C.enc x) = True := by
  simp only [eq_iff_iff, iff_true]
  exact oneL_iff.2 (C.one x)
@[go_sem] theorem len_enc {α : Type} {k : Nat} {C : Cdc α k} {x : α} : (C.enc x).length = k := C.len x
@[go_sem] theorem spl_size {cs vs : Array Value} {o : Nat} (h : o + vs.size ≤ cs.size) : (spl cs o vs).size = cs.size := by
  unfold spl
  simp
  omega
section view
variable {α : Type} {k : Nat} {C : Cdc α k} {w w' : World} {v : Value} {l : List α}
/-- so a list lies in memory -/
def Sl (C : Cdc α k) (w : World) (v : Value) (l : List α) : Prop :=
  (l = [] ∧ ∃ a c, v = .slice a 0 c) ∨ ∃ b off c cs, v = .slice (some ⟨b, off, none⟩) l.length c ∧ blk w b = some cs ∧ ∀ (i : Nat) (x : α) (j : Nat) (u : Value), l[i]? = some x → (C.enc x)[j]? = some u → cs[off + i * k + j]? = some u
theorem Sl.form (h : Sl C w v l) : ∃ a c, v = .slice a l.length c := by
  rcases h with ⟨rfl, a, c, rfl⟩ | ⟨b, off, c, cs, rfl, -⟩
  · exact ⟨_, _, rfl⟩
  · exact ⟨_, _, rfl⟩
theorem Sl.ext (h : Sl C w v l) (hx : Ext w w') : Sl C w' v l := by
  rcases h with h | ⟨b, off, c, cs, h1, h2, h3⟩
  · exact .inl h
  · exact .inr ⟨b, off, c, cs, h1, hx.blkS h2, h3⟩
theorem Sl.at {i : Nat} {x : α} (h : Sl C w v l) (hi : l[i]? = some x) : ∃ b off c cs, v = .slice (some ⟨b, off, none⟩) l.length c ∧ blk w b = some cs ∧ off + i * k + k ≤ cs.size ∧ agx cs (off + i * k) k = .agg (C.enc x).toArray ∧
    ∀ (j : Nat) (u : Value), (C.enc x)[j]? = some u → cs[off + i * k + j]? = some u := by
  rcases h with ⟨rfl, -⟩ | ⟨b, off, c, cs, h1, h2, h3⟩
  · simp at hi
  · have hl := C.len x
    have hp := C.pos
    have hs : off + i * k + k ≤ cs.size := by
      have h5 : k - 1 < (C.enc x).length := by omega
      have := (Array.getElem?_eq_some_iff.1 (h3 i x (k - 1) _ hi (List.getElem?_eq_getElem h5))).1
      omega
    refine ⟨b, off, c, cs, h1, h2, hs, ?_, fun j u hu => h3 i x j u hi hu⟩
    unfold agx
    congr 1
    apply Array.ext_getElem?
    intro j
    rw [Array.getElem?_extract, show (C.enc x).toArray[j]? = (C.enc x)[j]? from List.getElem?_toArray]
    by_cases hj : j < k
    · have hj' : j < (C.enc x).length := by omega
      rw [if_pos (by omega), h3 i x j _ hi (List.getElem?_eq_getElem hj'), List.getElem?_eq_getElem hj']
    · rw [if_neg (by omega), List.getElem?_eq_none (by omega)]
theorem agx_sub {l : List Value} {cs : Array Value} {o d m : Nat} (h : ∀ (j : Nat) (u : Value), l[j]? = some u → cs[o + j]? = some u) (hd : d + m ≤ l.length) : agx cs (o + d) m = .agg ((l.drop d).take m).toArray := by
  unfold agx
  congr 1
  apply Array.ext_getElem?
  intro j
  rw [Array.getElem?_extract, show ((l.drop d).take m).toArray[j]? = ((l.drop d).take m)[j]? from List.getElem?_toArray, List.getElem?_take, List.getElem?_drop]
  have hl : l.length ≠ 0 → o + l.length ≤ cs.size := fun hn => by
    have := (Array.getElem?_eq_some_iff.1 (h (l.length - 1) _ (List.getElem?_eq_getElem (by omega)))).1
    omega
  by_cases hj : j < m
  · rw [if_pos hj, if_pos (by have := hl (by omega); omega), Nat.add_assoc, h (d + j) _ (List.getElem?_eq_getElem (by omega)), List.getElem?_eq_getElem (by omega)]
  · rw [if_neg hj, if_neg (by omega)]
@[go_sem] theorem ln_r {a : Option Addr} {n c : Nat} {K : Value → Prop} : ln 1 (.slice a n c) w K = K (.int .i64 n) := ln_sl
/-- a list of one's own: in a block from lo on, which nobody else has -/
def Ow (C : Cdc α k) (e : Nat) (lo : Nat) (w : World) (v : Value) (l : List α) : Prop := w.ownsRow lo e k v l.length (l.flatMap C.enc)
theorem flat_len (l : List α) : (l.flatMap C.enc).length = l.length * k := by
  induction l with
  | nil => simp
  | cons x l ih => simp [ih, C.len, Nat.add_mul, Nat.add_comm]
theorem flat_get (l : List α) {i j : Nat} {x : α} {u : Value} (hi : l[i]? = some x) (hj : (C.enc x)[j]? = some u) : (l.flatMap C.enc)[i * k + j]? = some u := by
  induction l generalizing i with
  | nil => simp at hi
  | cons y l ih =>
    have hl := C.len y
    have hjk : j < k := by have := (List.getElem?_eq_some_iff.1 hj).1; rw [C.len x] at this; exact this
    cases i with
    | zero =>
      simp at hi
      subst hi
      rw [List.flatMap_cons, List.getElem?_append_left (by omega), Nat.zero_mul, Nat.zero_add]
      exact hj
    | succ i =>
      simp at hi
      rw [List.flatMap_cons, List.getElem?_append_right (by rw [hl, Nat.add_mul]; omega), ← ih hi]
      congr 1
      rw [hl, Nat.add_mul]
      omega
theorem Ow.sl {e lo : Nat} (h : Ow C e lo w v l) : Sl C w v l := by
  rcases h.2 with ⟨h1, h2⟩ | ⟨g, cap, cur, h1, -, h3, h4, -, h5, h6⟩
  · exact .inl ⟨List.eq_nil_of_length_eq_zero h2, _, _, h1⟩
  · refine .inr ⟨g, 0, cap, cur, h1, by unfold blk; rw [h3], fun i x j u hi hj => ?_⟩
    have hf := flat_get l hi hj
    rw [← h6, List.getElem?_take] at hf
    split at hf
    · rw [Nat.zero_add, ← Array.getElem?_toList]; exact hf
    · cases hf
theorem Ow.nil {e lo : Nat} : Ow C e lo w (.slice none 0 0) [] := World.ownsRow_nil _ _ _ _
theorem Ow.mono {e lo lo' : Nat} (h : Ow C e lo w v l) (hl : lo' ≤ lo) : Ow C e lo' w v l := ⟨h.1, h.2.imp id fun ⟨g, c, cur, h1, h2, h3⟩ => ⟨g, c, cur, h1, Nat.le_trans hl h2, h3⟩⟩
theorem Ow.ext {e lo : Nat} (h : Ow C e lo w v l) (hx : Ext w w') : Ow C e lo w' v l := by
  refine ⟨h.1, h.2.imp id fun ⟨g, c, cur, h1, h2, h3, h4⟩ => ⟨g, c, cur, h1, h2, ?_, h4⟩⟩
  rw [hx.heap (Array.getElem?_eq_some_iff.1 h3).1]; exact h3
/-- one's own block, just laid -/
theorem Ow.new {e lo : Nat} {cs : Array Value} {n : Nat} (hlo : lo ≤ w.heap.size) (hl : l.length = n) (hn : n ≤ maxLen) (hc : cs.toList = l.flatMap C.enc) : Ow C e lo (w.alloc (.cells cs e)) (.slice (some ⟨w.heap.size, 0, none⟩) n n) l := by
  subst hl
  have hfl := flat_len (C := C) l
  refine ⟨hfl, .inr ⟨w.heap.size, l.length, cs, rfl, hlo, heap_alloc_new w _, Nat.le_refl _, hn, ?_, ?_⟩⟩
  · rw [← Array.length_toList, hc, hfl]
  · rw [hc, ← hfl, List.take_length]
end view
theorem Sl.lit {α : Type} {k : Nat} {C : Cdc α k} {w : World} {b n c : Nat} {cs : Array Value} {l : List α} (h : blk w b = some cs) (hn : l.length = n) (hc : cs.toList = l.flatMap C.enc) : Sl C w (.slice (some ⟨b, 0, none⟩) n c) l := by
  subst hn
  refine .inr ⟨b, 0, c, cs, rfl, h, fun i x j u hi hj => ?_⟩
  rw [Nat.zero_add, ← Array.getElem?_toList, hc]
  exact flat_get l hi hj
/-- what an append takes its elements from -/
structure From (k : Nat) (w : World) (x : Value) (m : Nat) (news : List Value) : Prop where
  len : news.length = m * k
  one : ∀ u ∈ news, u.oneCell' = true
  src : ∃ a c, x = .slice a m c ∧ ((a = none ∧ m = 0) ∨ ∃ ad, a = some ad ∧ ∀ j u, news[j]? = some u → w.cell? (ad.add j) = some u)
theorem cell_of_blk {w : World} {b i : Nat} {cs : Array Value} {u : Value} (h : blk w b = some cs) (hu : cs[i]? = some u) : w.cell? ⟨b, i, none⟩ = some u := by
  unfold blk at h
  split at h
  · rename_i hh
    cases h
    unfold World.cell?
    simp [hh, hu]
  · cases h
theorem flat_one {α : Type} {k : Nat} {C : Cdc α k} (l : List α) : ∀ u ∈ l.flatMap C.enc, u.oneCell' = true := by
  intro u hu
  obtain ⟨x, -, hx⟩ := List.mem_flatMap.1 hu
  exact C.one x u hx
theorem Sl.from {α : Type} {k : Nat} {C : Cdc α k} {w : World} {v : Value} {l : List α} (h : Sl C w v l) : From k w v l.length (l.flatMap C.enc) := by
  refine ⟨flat_len l, flat_one l, ?_⟩
  rcases h with ⟨rfl, a, c, rfl⟩ | ⟨b, off, c, cs, rfl, h2, h3⟩
  · refine ⟨a, c, rfl, ?_⟩
    cases a with
    | none => exact .inl ⟨rfl, rfl⟩
    | some ad => exact .inr ⟨ad, rfl, fun j u hu => by simp at hu⟩
  · refine ⟨_, _, rfl, .inr ⟨_, rfl, fun j u hu => ?_⟩⟩
    have hp := C.pos
    have hlt := (List.getElem?_eq_some_iff.1 hu).1
    rw [flat_len] at hlt
    have hi : j / k < l.length := (Nat.div_lt_iff_lt_mul hp).2 hlt
    have hm : j % k < (C.enc l[j / k]).length := by rw [C.len]; exact Nat.mod_lt _ hp
    have hg := List.getElem?_eq_getElem hi
    have hg' := List.getElem?_eq_getElem hm
    have e1 := flat_get (C := C) l hg hg'
    have e2 : j / k * k + j % k = j := by rw [Nat.mul_comm]; exact Nat.div_add_mod j k
    rw [e2, hu] at e1
    have e3 := h3 _ _ _ _ hg hg'
    rw [Nat.add_assoc, e2, ← e1] at e3
    rw [Addr.add_lit]
    exact cell_of_blk h2 e3
section app
variable {t ty e k lo n m : Nat} {w w0 : World} {L : Value → World → Prop} {v x : Value} {xs news : List Value} {cs : Array Bool}
theorem ap_own [T : SlT t e k] (ho : w.ownsRow lo e k v n xs) (hs : From k w x m news) (hlo : lo ≤ w.heap.size) (hb : n + m ≤ 1000000000)
    (h : ∀ v' w', w'.ownsRow lo e k v' (n + m) (xs ++ news) → w.grownBy w' v.ownBlock → (v' = .slice none 0 0 ↔ v = .slice none 0 0 ∧ m = 0) → L v' w') : o (ap #[t, t] ty cs v x) w L := by
  obtain ⟨i, z, hi, hk, hby, hz, hzs⟩ := T.i
  obtain ⟨a, c, rfl, h5⟩ := hs.src
  have hbb : ((n + m) + (n + m) / 4 + 192) * i.bytes ≤ 1250000192 * 1024 := Nat.mul_le_mul (by omega) hby
  have done : ∀ v' w', (Builtin.append_ #[t, t] ty #[v, .slice a m c]).run Try.prog w = .ok v' w' → w'.ownsRow lo e k v' (n + m) (xs ++ news) → w.grownBy w' v.ownBlock → (v' = .slice none 0 0 ↔ v = .slice none 0 0 ∧ m = 0) → o (ap #[t, t] ty cs v (.slice a m c)) w L := by
    intro v' w' hr h1 h2 h3
    rw [o_of (v := v') (w' := w')]
    · exact h v' w' h1 h2 h3
    · simp only [ap, builtin, Sem.run_bind, hr, Result.andThen_ok, Sem.run_pure]
  rcases h5 with ⟨rfl, rfl⟩ | ⟨ad, rfl, h6⟩
  · have hn : news = [] := List.eq_nil_of_length_eq_zero (by simpa using hs.len)
    subst hn
    rcases ho.2 with ⟨rfl, rfl⟩ | ⟨g, cap, cur, rfl, hg, hh, hle, hrest⟩
    · refine done (.slice none 0 0) w ?_ (by simpa using ho) ⟨rfl, rfl, rfl, Nat.le_refl _, fun _ _ _ => rfl⟩ (by simp)
      simp [Builtin.append_, run_underlying T.u, sizeOf, typeInfo, hi, Builtin.lenOf, Builtin.firstCells]
    · refine done (.slice (some ⟨g, 0, none⟩) n cap) w ?_ (by simpa using ho) ⟨rfl, rfl, rfl, Nat.le_refl _, fun _ _ _ => rfl⟩ (by simp)
      simp [Builtin.append_, run_underlying T.u, sizeOf, typeInfo, hi, Builtin.lenOf, Builtin.firstCells, hle, storeCells]
  · obtain ⟨v', w', hr, h1, h2, h3⟩ := run_append_own_wide (P := Try.prog) w lo t ty e i z k i.bytes T.u hi hz hk rfl hzs T.pos v n xs ho ad m c news hs.len h6 hs.one (by simp only [maxLen]; omega) (by omega) hlo
    exact done v' w' hr h1 h2 h3
end app
theorem own_ge {w : World} {lo e k n g : Nat} {v : Value} {xs : List Value} (h : w.ownsRow lo e k v n xs) (hg : v.ownBlock = some g) : lo ≤ g := (h.lt g hg).1
theorem Ext.grown {w0 w w' : World} {row : Option Nat} (h : Ext w0 w) (hg : w.grownBy w' row) (hr : ∀ g, row = some g → w0.heap.size ≤ g) : Ext w0 w' :=
  Go.RowKit.Below.trans h ⟨hg.os, hg.tape, hg.output, hg.size, fun k hk => hg.block k (Nat.lt_of_lt_of_le hk h.size) (fun e => by have := hr k e.symm; omega)⟩
/-- a list of one's own grows -/
theorem ap_ow {α : Type} {t ty e k lo : Nat} {C : Cdc α k} [T : SlT t e k] {w w0 : World} {L : Value → World → Prop} {v x : Value} {l m : List α} {cs : Array Bool}
    (ho : Ow C e lo w v l) (hs : From k w x m.length (m.flatMap C.enc)) (hx : Ext w0 w) (hw : lo = w0.heap.size) (hb : l.length + m.length ≤ 1000000000)
    (h : ∀ v' w', Ow C e lo w' v' (l ++ m) → Ext w0 w' → w.grownBy w' v.ownBlock → (v' = .slice none 0 0 ↔ v = .slice none 0 0 ∧ m.length = 0) → L v' w') : o (ap #[t, t] ty cs v x) w L := by
  subst hw
  refine ap_own ho hs hx.size hb fun v' w' h1 h2 h3 => h v' w' ?_ (hx.grown h2 fun g hg => own_ge ho hg) h2 h3
  unfold Ow
  rw [List.length_append, List.flatMap_append]
  exact h1
/-- a call, by what is known of the callee -/
theorem callM {f : Nat} {a : Array Value} {w : World} {K K' : Value → World → Prop} (h : Calls Try.prog f a w (retP K)) (hk : ∀ v w', K v w' → K' v w') : Calls Try.prog f a w (retP K') :=
  h.mono fun e w' he => by
    cases e with
    | returned v => exact hk v w' he
    | _ => exact he
theorem vcM {f : Nat} {fst cap a args : Array Value} {w : World} {K K' : Value → World → Prop} (hb : bodyOk Try.prog f = true) (he : fst ++ a ++ cap = args) (h : Calls Try.prog f args w (retP K)) (hk : ∀ v w', K v w' → K' v w') : vc (.func (.func f) fst cap) a w K' := by
  rw [vc_r hb, he]
  exact callM h hk
@[go_sem] theorem all_r {P : Prop} : (∀ _ : List Value, P) = P := propext ⟨fun h => h [], fun h _ => h⟩
section nths
variable {a b c d e f g h : Value} {l : List Value}
@[go_sem] theorem nth0 : nth (a :: l) 0 = a := rfl
@[go_sem] theorem nth1 : nth (a :: b :: l) 1 = b := rfl
@[go_sem] theorem nth2 : nth (a :: b :: c :: l) 2 = c := rfl
@[go_sem] theorem nth3 : nth (a :: b :: c :: d :: l) 3 = d := rfl
@[go_sem] theorem nth4 : nth (a :: b :: c :: d :: e :: l) 4 = e := rfl
@[go_sem] theorem nth5 : nth (a :: b :: c :: d :: e :: f :: l) 5 = f := rfl
@[go_sem] theorem nth6 : nth (a :: b :: c :: d :: e :: f :: g :: l) 6 = g := rfl
@[go_sem] theorem nth7 : nth (a :: b :: c :: d :: e :: f :: g :: h :: l) 7 = h := rfl
end nths
theorem jn_r {A : (List Value → World → Prop) → Prop} {B : List Value → World → Prop} : JoinS A B = A B := propext ⟨fun h => h.h, fun h => ⟨h⟩⟩
/-- the ways meet where P holds -/
theorem jn_e {A : (List Value → World → Prop) → Prop} {B : List Value → World → Prop} (P : List Value → World → Prop) (hB : ∀ s w, P s w → B s w) (hA : ∀ k : List Value → World → Prop, (∀ s w, P s w → k s w) → A k) : JoinS A B := ⟨hA B hB⟩
theorem take_next {α : Type} {l : List α} {i : Nat} {e : α} (he : l[i]? = some e) : l.take (i + 1) = l.take i ++ [e] := by
  rw [List.take_add_one, he]; rfl
theorem mid_get {α : Type} {X P Q : List α} {x : α} {i : Nat} (h : X = P ++ x :: Q) (hp : P.length = i) : X[i]? = some x := by
  subst hp h
  simp
theorem mid_set {α : Type} {X P Q : List α} {x : α} {i : Nat} (y : α) (h : X = P ++ x :: Q) (hp : P.length = i) : X.set i y = P ++ y :: Q := by
  subst hp h
  simp
theorem least {γ : Type} (J : γ → Prop) (m : γ → Nat) (h : ∃ g, J g) : ∃ g, J g ∧ ∀ g', J g' → m g ≤ m g' := by
  obtain ⟨g, hg⟩ := h
  induction hn : m g using Nat.strongRecOn generalizing g with
  | _ n ih =>
    by_cases hh : ∃ g', J g' ∧ m g' < n
    · obtain ⟨g', h1, h2⟩ := hh
      exact ih _ h2 g' h1 rfl
    · exact ⟨g, hg, fun g' h1 => by
        rcases Nat.lt_or_ge (m g') n with h2 | h2
        · exact absurd ⟨g', h1, h2⟩ hh
        · omega⟩
/-- a loop, by what it bears (J, of what g) and what goes down (m) -/
theorem loop_g {γ : Type} {body : List Value → World → (List Value → World → Prop) → Prop} {s0 : List Value} {w0 : World} (J : γ → List Value → World → Prop) (m : γ → Nat) (g0 : γ) (h0 : J g0 s0 w0)
    (hr : ∀ g s w (next : List Value → World → Prop), J g s w → (∀ g' s' w', J g' s' w' → m g' < m g → next s' w') → body s w next) : LoopS body s0 w0 := by
  have key : ∀ s w, ∃ n, ∀ (h : ∃ g, J g s w), ∃ g, J g s w ∧ m g = n ∧ ∀ g', J g' s w → n ≤ m g' := fun s w => by
    by_cases h : ∃ g, J g s w
    · obtain ⟨g, h1, h2⟩ := least (fun g => J g s w) m h
      exact ⟨m g, fun _ => ⟨g, h1, rfl, h2⟩⟩
    · exact ⟨0, fun h' => absurd h' h⟩
  refine ⟨fun s w => ∃ g, J g s w, fun s w => Classical.choose (key s w), ⟨g0, h0⟩, fun s w hI => ?_⟩
  obtain ⟨g, h1, h2, -⟩ := Classical.choose_spec (key s w) hI
  refine hr g s w _ h1 fun g' s' w' h3 h4 => ⟨⟨g', h3⟩, ?_⟩
  obtain ⟨g'', h5, h6, h7⟩ := Classical.choose_spec (key s' w') ⟨g', h3⟩
  have := h7 g' h3
  show Classical.choose (key s' w') < Classical.choose (key s w)
  omega
end Go.Proofs.Ytbkgijnmckchbaa
