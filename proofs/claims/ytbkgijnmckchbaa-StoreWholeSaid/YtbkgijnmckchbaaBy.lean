/- Bytes, strings, numbers in memory; what of memory is turned; clones, appends that tell where. -/
import Derived.Test.YtbkgijnmckchbaaSl
import Derived.Maps.AppendAt
import Derived.Laws.BytesArg
namespace Go.Proofs.Ytbkgijnmckchbaa
open Go
set_option linter.unusedSimpArgs false
set_option linter.unusedVariables false
def en (x : Value) : Sem Next := vN (Instr.entry x)
def bytC : Cdc UInt8 1 := ⟨fun b => [.int .u8 b.toNat], fun _ => rfl, fun b u hu => by simp at hu; subst hu; rfl, by decide⟩
def intC (k : IntKind) : Cdc Int 1 := ⟨fun x => [.int k x], fun _ => rfl, fun b u hu => by simp at hu; subst hu; rfl, by decide⟩
def strB (l : List UInt8) : ByteArray := ⟨l.toArray⟩
@[go_sem] theorem strB_toList {l : List UInt8} : (strB l).toList = l := by rw [ByteArray.toList_eq]; rfl
@[go_sem] theorem strB_size {l : List UInt8} : (strB l).size = l.length := by simp [strB, ByteArray.size]
theorem strB_inj {a b : List UInt8} (h : strB a = strB b) : a = b := by simpa [strB] using h
theorem strB_empty : strB [] = ByteArray.empty := rfl
theorem Sl.cell {α : Type} {k : Nat} {C : Cdc α k} {w : World} {l : List α} {b off n c : Nat} (h : Sl C w (.slice (some ⟨b, off, none⟩) n c) l) : n = l.length ∧ ∀ j u, (l.flatMap C.enc)[j]? = some u → w.cell? ⟨b, off + j, none⟩ = some u := by
  have hf := h.from
  obtain ⟨a, c', he, h2⟩ := hf.src
  cases he
  refine ⟨rfl, fun j u hu => ?_⟩
  rcases h2 with ⟨h3, -⟩ | ⟨ad, h3, h4⟩
  · cases h3
  · cases h3
    rw [← h4 j u hu, Addr.add_lit]
theorem cv_bs {s e d : Nat} {w : World} {v : Value} {l : List UInt8} {K : Value → Prop} [S : SlT s e 1] [I : ITy e .u8] [D : STy d] (h : Sl bytC w v l) : wv (cv s d v) w K = K (.string (strB l)) := by
  refine wv_of ?_
  have key : (convert s d v).run Try.prog w = .ok (.string (strB l)) w := by
    rcases h with ⟨rfl, a, c, rfl⟩ | ⟨b, off, c, cs, rfl, h2, h3⟩
    · rw [run_convert_bytes_string w s d e a 0 c S.u I.u D.u]
      cases a with
      | none => simp [Conv.bytesToString, strB_empty]
      | some ad =>
        rw [run_bytesToString (P := Try.prog) w ad 0 c [] (run_loadCells_list (P := Try.prog) w ad [] (by simp))]
        rfl
    · have hc := (Sl.cell (C := bytC) (l := l) (.inr ⟨b, off, c, cs, rfl, h2, h3⟩)).2
      have hl : ∀ l : List UInt8, (l.flatMap bytC.enc) = (l.map fun b => (b.toNat : Int)).map (Value.int .u8) := fun l => by
        induction l with
        | nil => rfl
        | cons x l ih => simp only [List.flatMap_cons, List.map_cons, ih]; rfl
      rw [run_convert_bytes_arg w s e S.u I.u b off l.length c (l.map fun b => (b.toNat : Int)) (by rw [List.length_map]) (fun i hi => hc i _ (by
        rw [hl, List.getElem?_map, List.getD_eq_getElem?_getD]
        simp [hi])) d D.u]
      congr 2
      unfold strOfNums strB
      congr 2
      rw [List.map_map]
      conv => rhs; rw [← List.map_id l]
      exact List.map_congr_left fun x _ => by simp
  simp only [cv, vN, Sem.run_bind, key, Result.andThen_ok, Sem.run_pure]
theorem cv_bsE {s e d : Nat} {w : World} {v : Value} {l : List UInt8} [S : SlT s e 1] [I : ITy e .u8] [D : STy d] (h : Sl bytC w v l) : ∀ (w' : World) (K : Value → Prop), Ext w w' → wv (cv s d v) w' K = K (.string (strB l)) := fun _ _ hx => cv_bs (h.ext hx)
@[go_sem] theorem setRow_twice {w : World} {b : Nat} {x y : Array Value} : (w.setRow b x).setRow b y = w.setRow b y := by
  unfold World.setRow
  congr 1
  apply Array.ext_getElem?
  intro i
  simp only [Array.getElem?_modify]
  by_cases hi : b = i
  · simp only [hi, if_true]
    cases w.heap[i]? with
    | none => rfl
    | some ob => cases ob <;> rfl
  · simp only [hi, if_false]
@[go_sem] theorem ja1_sel {n k : Nat} {c : Bool} {u v x : Value} {K : Value → Prop} : ja n k (sel c v u) x K = selP c (ja n k v x K) (ja n k u x K) := by cases c <;> rfl
@[go_sem] theorem ja2_sel {n k : Nat} {c : Bool} {u v x : Value} {K : Value → Prop} : ja n k x (sel c v u) K = selP c (ja n k x v K) (ja n k x u K) := by cases c <;> rfl
/- ### what is turned: none but the blocks of a list -/
structure Chg (S : List Nat) (w w' : World) : Prop where
  os : w'.os = w.os
  tape : w'.tape = w.tape
  output : w'.output = w.output
  size : w.heap.size ≤ w'.heap.size
  block : ∀ b, b < w.heap.size → b ∉ S → w'.heap[b]? = w.heap[b]?
section chg
variable {S T : List Nat} {w w1 w2 : World} {b : Nat} {cs : Array Value}
theorem Chg.refl (S : List Nat) (w : World) : Chg S w w := ⟨rfl, rfl, rfl, Nat.le_refl _, fun _ _ _ => rfl⟩
theorem Chg.tr (h : Chg S w w1) (k : Chg T w1 w2) (hs : ∀ b ∈ T, b ∈ S ∨ w.heap.size ≤ b) : Chg S w w2 :=
  ⟨k.os.trans h.os, k.tape.trans h.tape, k.output.trans h.output, Nat.le_trans h.size k.size, fun b hb hn => (k.block b (Nat.lt_of_lt_of_le hb h.size) (fun ht => by
    rcases hs b ht with h1 | h1
    · exact hn h1
    · omega)).trans (h.block b hb hn)⟩
theorem Chg.mono (h : Chg S w w1) (hs : ∀ b ∈ S, b ∈ T ∨ w.heap.size ≤ b) : Chg T w w1 := (Chg.refl T w).tr h hs
theorem Chg.ext (h : Chg S w w1) (k : Ext w1 w2) : Chg S w w2 := ⟨k.os.trans h.os, k.tape.trans h.tape, k.output.trans h.output, Nat.le_trans h.size k.size, fun b hb hn => (k.block b (Nat.lt_of_lt_of_le hb h.size)).trans (h.block b hb hn)⟩
theorem Ext.chg (h : Ext w w1) : Chg S w w1 := (Chg.refl S w).ext h
theorem Chg.toExt (h : Chg S w w1) (hs : ∀ b ∈ S, w.heap.size ≤ b) : Ext w w1 := ⟨h.os, h.tape, h.output, h.size, fun b hb => h.block b hb (fun hm => by have := hs b hm; omega)⟩
/-- what came behind w, is turned -/
theorem Ext.then (h : Ext w w1) (k : Chg S w1 w2) (hs : ∀ b ∈ S, w.heap.size ≤ b) : Ext w w2 := ((h.chg (S := S)).tr k fun _ hb => .inl hb).toExt hs
theorem Chg.alloc (h : Chg S w w1) (ob : Obj) : Chg S w (w1.alloc ob) := h.ext ((Ext.refl _).alloc ob)
theorem Chg.drew (h : Chg S w w1) : Chg S w w1.drew := ⟨h.os, h.tape, h.output, h.size, h.block⟩
theorem Chg.setRow (h : Chg S w w1) (hb : b ∈ S ∨ w.heap.size ≤ b) (cs : Array Value) : Chg S w (w1.setRow b cs) :=
  h.tr (T := [b]) ⟨rfl, rfl, rfl, by simp, fun k _ hk => by
    simp only [World.setRow, Array.getElem?_modify]
    rw [if_neg (fun e => hk (by simp [e]))]⟩ (by simpa using hb)
theorem Chg.grown {row : Option Nat} (h : Chg S w w1) (hg : w1.grownBy w2 row) (hr : ∀ g, row = some g → g ∈ S ∨ w.heap.size ≤ g) : Chg S w w2 :=
  h.tr (T := row.toList) ⟨hg.os, hg.tape, hg.output, hg.size, fun b hb hn => hg.block b hb (fun e => hn (by simp [← e]))⟩ (by
    intro b hb
    exact hr b (by simpa [Option.mem_toList, eq_comm] using hb))
theorem Chg.blk (h : Chg S w w1) (hb : b < w.heap.size) (hn : b ∉ S) : blk w1 b = blk w b := by unfold Go.Proofs.Ytbkgijnmckchbaa.blk; rw [h.block b hb hn]
theorem Chg.blk0 (h : Chg S w w1) (hb : b < w.heap.size) (hn : b ∉ S) : blk0 w1 b = blk0 w b := by unfold Go.Proofs.Ytbkgijnmckchbaa.blk0; rw [h.block b hb hn]
theorem Chg.blkS (h : Chg S w w1) (hb : Go.Proofs.Ytbkgijnmckchbaa.blk w b = some cs) (hn : b ∉ S) : Go.Proofs.Ytbkgijnmckchbaa.blk w1 b = some cs := by rw [h.blk (blk_lt hb) hn]; exact hb
theorem Chg.blk0S (h : Chg S w w1) (hb : Go.Proofs.Ytbkgijnmckchbaa.blk0 w b = some cs) (hn : b ∉ S) : Go.Proofs.Ytbkgijnmckchbaa.blk0 w1 b = some cs := by rw [h.blk0 (blk0_lt hb) hn]; exact hb
end chg
theorem Sl.chg {α : Type} {k : Nat} {C : Cdc α k} {S : List Nat} {w w1 : World} {v : Value} {l : List α} (h : Sl C w v l) (hc : Chg S w w1) (hn : ∀ b, v.ownBlock = some b → b ∉ S) : Sl C w1 v l := by
  rcases h with h | ⟨b, off, c, cs, rfl, h2, h3⟩
  · exact .inl h
  · exact .inr ⟨b, off, c, cs, rfl, hc.blkS h2 (hn b rfl), h3⟩
theorem Sl.lt {α : Type} {k : Nat} {C : Cdc α k} {w : World} {v : Value} {l : List α} (h : Sl C w v l) (h0 : l ≠ []) {b : Nat} (hb : v.ownBlock = some b) : b < w.heap.size := by
  rcases h with ⟨rfl, -⟩ | ⟨b', off, c, cs, rfl, h2, h3⟩
  · exact absurd rfl h0
  · simp [Value.ownBlock] at hb; subst hb; exact blk_lt h2
theorem Ow.chg {α : Type} {k : Nat} {C : Cdc α k} {S : List Nat} {w w1 : World} {v : Value} {l : List α} {e lo : Nat} (h : Ow C e lo w v l) (hc : Chg S w w1) (hn : ∀ b, v.ownBlock = some b → b ∉ S) : Ow C e lo w1 v l := by
  refine ⟨h.1, h.2.imp id fun ⟨g, c, cur, h1, h2, h3, h4⟩ => ⟨g, c, cur, h1, h2, ?_, h4⟩⟩
  subst h1
  rw [hc.block g (Array.getElem?_eq_some_iff.1 h3).1 (hn g rfl)]; exact h3
theorem Ow.lt {α : Type} {k : Nat} {C : Cdc α k} {w : World} {v : Value} {l : List α} {e lo : Nat} (h : Ow C e lo w v l) {b : Nat} (hb : v.ownBlock = some b) : lo ≤ b ∧ b < w.heap.size := by
  rcases h.2 with ⟨rfl, -⟩ | ⟨g, c, cur, rfl, h2, h3, h4⟩
  · cases hb
  · simp [Value.ownBlock] at hb; subst hb; exact ⟨h2, (Array.getElem?_eq_some_iff.1 h3).1⟩
theorem Ow.form {α : Type} {k : Nat} {C : Cdc α k} {w : World} {v : Value} {l : List α} {e lo : Nat} (h : Ow C e lo w v l) : (v = .slice none 0 0 ∧ l = []) ∨ ∃ g c, v = .slice (some ⟨g, 0, none⟩) l.length c ∧ lo ≤ g ∧ g < w.heap.size := by
  rcases h.2 with ⟨rfl, h1⟩ | ⟨g, c, cur, rfl, h2, h3, h4⟩
  · exact .inl ⟨rfl, List.eq_nil_of_length_eq_zero h1⟩
  · exact .inr ⟨g, c, rfl, h2, (Array.getElem?_eq_some_iff.1 h3).1⟩
theorem Ow.raise {α : Type} {k : Nat} {C : Cdc α k} {w : World} {v : Value} {l : List α} {e lo lo' : Nat} (h : Ow C e lo w v l) (hl : ∀ b, v.ownBlock = some b → lo' ≤ b) : Ow C e lo' w v l :=
  ⟨h.1, h.2.imp id fun ⟨g, c, cur, h1, h2, h3⟩ => ⟨g, c, cur, h1, hl g (by rw [h1]; rfl), h3⟩⟩
theorem grown_blk {w w' : World} {row : Option Nat} {b : Nat} {cs : Array Value} (hg : w.grownBy w' row) (hb : blk w b = some cs) (hn : row ≠ some b) : blk w' b = some cs := by
  have h := hg.block b (blk_lt hb) (fun e => hn e.symm)
  unfold blk at hb ⊢
  rw [h]; exact hb
theorem grown_blk0 {w w' : World} {row : Option Nat} {b : Nat} {cs : Array Value} (hg : w.grownBy w' row) (hb : blk0 w b = some cs) (hn : row ≠ some b) : blk0 w' b = some cs := by
  have h := hg.block b (blk0_lt hb) (fun e => hn e.symm)
  unfold blk0 at hb ⊢
  rw [h]; exact hb
theorem Ow.ne {α : Type} {k : Nat} {C : Cdc α k} {w : World} {v : Value} {l : List α} {e lo b : Nat} (h : Ow C e lo w v l) (hb : b < lo) : v.ownBlock ≠ some b := fun hh => by
  have := (h.lt hh).1
  omega
theorem Ow.one {α : Type} {k : Nat} {C : Cdc α k} {w : World} {v : Value} {l : List α} {e lo : Nat} (h : Ow C e lo w v l) : v.oneCell' = true := by
  rcases h.form with ⟨rfl, -⟩ | ⟨g, c, rfl, -⟩ <;> rfl
section app
variable {t ty e k lo : Nat} {w : World} {L : Value → World → Prop} {v x : Value} {cs : Array Bool}
/-- a list of one's own grows: in its block, or in a new one -/
theorem ap_at {α : Type} {C : Cdc α k} [T : SlT t e k] {l m : List α} (ho : Ow C e lo w v l) (hs : From k w x m.length (m.flatMap C.enc)) (hlo : lo ≤ w.heap.size) (hb : l.length + m.length ≤ 1000000000)
    (h : ∀ v' w', Ow C e lo w' v' (l ++ m) → w.grownBy w' v.ownBlock → (v' = .slice none 0 0 ↔ v = .slice none 0 0 ∧ m.length = 0) → (v'.ownBlock = v.ownBlock ∨ v'.ownBlock = some w.heap.size) → L v' w') : o (ap #[t, t] ty cs v x) w L := by
  obtain ⟨i, z, hi, hk, hby, hz, hzs⟩ := T.i
  obtain ⟨a, c, rfl, h5⟩ := hs.src
  have hbb : (l.length + m.length) * i.bytes ≤ 1000000000 * 1024 := Nat.mul_le_mul (by omega) hby
  have done : ∀ v' w', (Builtin.append_ #[t, t] ty #[v, .slice a m.length c]).run Try.prog w = .ok v' w' → w'.ownsRow lo e k v' (l.length + m.length) (l.flatMap C.enc ++ m.flatMap C.enc) → w.grownBy w' v.ownBlock → (v' = .slice none 0 0 ↔ v = .slice none 0 0 ∧ m.length = 0) → (v'.ownBlock = v.ownBlock ∨ v'.ownBlock = some w.heap.size) → o (ap #[t, t] ty cs v (.slice a m.length c)) w L := by
    intro v' w' hr h1 h2 h3 h4
    rw [o_of (v := v') (w' := w')]
    · exact h v' w' (by unfold Ow; rw [List.length_append, List.flatMap_append]; exact h1) h2 h3 h4
    · simp only [ap, builtin, Sem.run_bind, hr, Result.andThen_ok, Sem.run_pure]
  rcases h5 with ⟨rfl, hm0⟩ | ⟨ad, rfl, h6⟩
  · have hm : m = [] := List.eq_nil_of_length_eq_zero hm0
    subst hm
    rcases ho.2 with ⟨rfl, h0⟩ | ⟨g, cap, cur, rfl, hg, hh, hle, hrest⟩
    · have hl : l = [] := List.eq_nil_of_length_eq_zero h0
      subst hl
      refine done (.slice none 0 0) w ?_ (by unfold Ow at ho; simpa using ho) ⟨rfl, rfl, rfl, Nat.le_refl _, fun _ _ _ => rfl⟩ (by simp) (.inl rfl)
      simp [Builtin.append_, run_underlying T.u, sizeOf, typeInfo, hi, Builtin.lenOf, Builtin.firstCells]
    · refine done (.slice (some ⟨g, 0, none⟩) l.length cap) w ?_ (by unfold Ow at ho; simpa using ho) ⟨rfl, rfl, rfl, Nat.le_refl _, fun _ _ _ => rfl⟩ (by simp) (.inl rfl)
      simp [Builtin.append_, run_underlying T.u, sizeOf, typeInfo, hi, Builtin.lenOf, Builtin.firstCells, hle, storeCells]
  · obtain ⟨v', w', hr, h1, h2, h3, h4⟩ := run_append_own_at (P := Try.prog) w lo t ty e i z k i.bytes T.u hi hz hk rfl hzs T.pos v l.length _ ho ad m.length c _ hs.len h6 hs.one (by simp only [maxLen]; omega) (by omega) hlo
    exact done v' w' hr h1 h2 h3 h4
end app
theorem From.ext {k m : Nat} {w w' : World} {x : Value} {news : List Value} (h : From k w x m news) (hx : ∀ a : Addr, w.cell? a ≠ none → w'.cell? a = w.cell? a) : From k w' x m news := by
  refine ⟨h.len, h.one, ?_⟩
  obtain ⟨a, c, h1, h2⟩ := h.src
  refine ⟨a, c, h1, h2.imp id fun ⟨ad, h3, h4⟩ => ⟨ad, h3, fun j u hu => ?_⟩⟩
  rw [hx _ (by rw [h4 j u hu]; simp)]
  exact h4 j u hu
/-- a list of one's own, as one that may be turned -/
theorem bs0_ow {α : Type} {t e k lo : Nat} {C : Cdc α k} [T : SlT t e k] {w : World} (hlo : lo ≤ w.heap.size) : Ow C e lo (w.alloc (.cells #[] e)) (.slice (some ⟨w.heap.size, 0, none⟩) 0 0) [] := .new hlo rfl (by simp [maxLen]) (by simp)
/-- a single element, just laid, as what is appended -/
theorem one_from {α : Type} {k : Nat} {C : Cdc α k} {w : World} {b : Nat} {x : α} (h : blk w b = some (C.enc x).toArray) : From k w (.slice (some ⟨b, 0, none⟩) 1 1) 1 ([x].flatMap C.enc) :=
  (Sl.lit (C := C) (n := 1) (c := 1) (l := [x]) h rfl (by simp)).from
section nrm
variable {L : Value → World → Prop} {w : World}
end nrm
end Go.Proofs.Ytbkgijnmckchbaa
