/- what becomes of a frame: as the program and as the document has it. -/
import Derived.Test.YtldjhbmccnbciaaFt
namespace Go.Proofs.Ytldjhbmccnbciaa
open Go
set_option linter.unusedSimpArgs false
set_option linter.unusedVariables false
structure Oc where
  kind : Int
  port : Int
  gen : Int
  stamp : Int
  frame : List UInt8
  pk : Pk
def Pk.zero : Pk := ⟨0, 0, 0, 0, 0, 0, 0, []⟩
def Oc.zero : Oc := ⟨0, 0, 0, 0, [], .zero⟩
def Oc.v (o : Oc) (sf sp : Value) : Value := .agg #[.int .i64 o.kind, .int .i64 o.port, .int .i64 o.gen, .int .i64 o.stamp, sf, .int .i64 o.pk.kind, .int .i64 o.pk.origin, .int .i64 o.pk.frm, .int .i64 o.pk.to, .int .i64 o.pk.port, .int .i64 o.pk.gen, .int .i64 o.pk.id, sp]
/-- an outcome lies in v -/
def OcV (lo : Nat) (w : World) (v : Value) (o : Oc) : Prop := ∃ a1 c1 a2 c2, v = o.v (.slice a1 o.frame.length c1) (.slice a2 o.pk.frame.length c2) ∧ Sl bytC w (.slice a1 o.frame.length c1) o.frame ∧ Sl bytC w (.slice a2 o.pk.frame.length c2) o.pk.frame ∧ (∀ b : Addr, a1 = some b → lo ≤ b.block) ∧ (∀ b : Addr, a2 = some b → lo ≤ b.block)
/-- the document's -/
def RoV (w : World) (v : Value) (o : Oc) : Prop := ∃ a2 c2, v = o.v (.string (strB o.frame)) (.slice a2 o.pk.frame.length c2) ∧ Sl bytC w (.slice a2 o.pk.frame.length c2) o.pk.frame
/-- a packet lies in v -/
def PkV (lo : Nat) (w : World) (v : Value) (p : Pk) : Prop := ∃ a c, v = p.v (.slice a p.frame.length c) ∧ Sl bytC w (.slice a p.frame.length c) p.frame ∧ (∀ b : Addr, a = some b → lo ≤ b.block)
theorem Sl.nil {α : Type} {k : Nat} {C : Cdc α k} {w : World} {a : Option Addr} {c : Nat} : Sl C w (.slice a 0 c) [] := .inl ⟨rfl, a, c, rfl⟩
theorem OcV.ext {lo : Nat} {w w' : World} {v : Value} {o : Oc} (h : OcV lo w v o) (hx : Ext w w') : OcV lo w' v o := by
  obtain ⟨a1, c1, a2, c2, h1, h2, h3, h4⟩ := h
  exact ⟨a1, c1, a2, c2, h1, h2.ext hx, h3.ext hx, h4⟩
theorem OcV.mono {lo lo' : Nat} {w : World} {v : Value} {o : Oc} (h : OcV lo w v o) (hl : lo' ≤ lo) : OcV lo' w v o := by
  obtain ⟨a1, c1, a2, c2, h1, h2, h3, h4, h5⟩ := h
  exact ⟨a1, c1, a2, c2, h1, h2, h3, fun b hb => Nat.le_trans hl (h4 b hb), fun b hb => Nat.le_trans hl (h5 b hb)⟩
theorem RoV.ext {w w' : World} {v : Value} {o : Oc} (h : RoV w v o) (hx : Ext w w') : RoV w' v o := by
  obtain ⟨a2, c2, h1, h3⟩ := h
  exact ⟨a2, c2, h1, h3.ext hx⟩
theorem PkV.mono {lo lo' : Nat} {w : World} {v : Value} {p : Pk} (h : PkV lo w v p) (hl : lo' ≤ lo) : PkV lo' w v p := by
  obtain ⟨a1, c1, h1, h2, h3⟩ := h
  exact ⟨a1, c1, h1, h2, fun b hb => Nat.le_trans hl (h3 b hb)⟩
theorem PkV.ext {lo : Nat} {w w' : World} {v : Value} {o : Pk} (h : PkV lo w v o) (hx : Ext w w') : PkV lo w' v o := by
  obtain ⟨a2, c2, h1, h3, h4⟩ := h
  exact ⟨a2, c2, h1, h3.ext hx, h4⟩
def notU8 : Value → Bool | .int .u8 _ => false | _ => true
/-- bytes don't lie where no byte lies -/
theorem Sl.bset {w : World} {s : Value} {l : List UInt8} {g : Nat} {cs cs' : Array Value} (h : Sl bytC w s l) (hg : blk w g = some cs) (hn : cs.toList.all notU8 = true) : Sl bytC (w.setRow g cs') s l := by
  rcases h with h | ⟨b, off, c, cs1, rfl, h2, h3⟩
  · exact .inl h
  · rcases l with _ | ⟨x, l⟩
    · exact .nil
    by_cases hb : b = g
    · subst hb
      rw [hg] at h2
      cases h2
      have := h3 0 x 0 (.int .u8 x.toNat) rfl rfl
      rw [← Array.getElem?_toList] at this
      have := List.all_eq_true.1 hn _ (List.mem_of_getElem? this)
      cases this
    · exact .inr ⟨b, off, c, cs1, rfl, by rw [blk_set_ne hb]; exact h2, h3⟩
theorem OcV.bset {lo : Nat} {w : World} {v : Value} {o : Oc} {g : Nat} {cs cs' : Array Value} (h : OcV lo w v o) (hg : blk w g = some cs) (hn : cs.toList.all notU8 = true) : OcV lo (w.setRow g cs') v o := by
  obtain ⟨a1, c1, a2, c2, h1, h2, h3, h4⟩ := h
  exact ⟨a1, c1, a2, c2, h1, h2.bset hg hn, h3.bset hg hn, h4⟩
theorem RoV.bset {w : World} {v : Value} {o : Oc} {g : Nat} {cs cs' : Array Value} (h : RoV w v o) (hg : blk w g = some cs) (hn : cs.toList.all notU8 = true) : RoV (w.setRow g cs') v o := by
  obtain ⟨a2, c2, h1, h3⟩ := h
  exact ⟨a2, c2, h1, h3.bset hg hn⟩
theorem PkV.bset {lo : Nat} {w : World} {v : Value} {o : Pk} {g : Nat} {cs cs' : Array Value} (h : PkV lo w v o) (hg : blk w g = some cs) (hn : cs.toList.all notU8 = true) : PkV lo (w.setRow g cs') v o := by
  obtain ⟨a2, c2, h1, h3, h4⟩ := h
  exact ⟨a2, c2, h1, h3.bset hg hn, h4⟩
theorem Sl.form' {α : Type} {k : Nat} {C : Cdc α k} {w : World} {v : Value} {l : List α} (h : Sl C w v l) : ∃ a c, v = .slice a l.length c := h.form
def sendO (p : Pk) : Oc := if p.Rt then { Oc.zero with kind := 2, pk := p } else .zero
theorem OcV.zero {lo : Nat} (w : World) : OcV lo w (.agg #[.int .i64 0, .int .i64 0, .int .i64 0, .int .i64 0, .slice none 0 0, .int .i64 0, .int .i64 0, .int .i64 0, .int .i64 0, .int .i64 0, .int .i64 0, .int .i64 0, .slice none 0 0]) .zero :=
  ⟨none, 0, none, 0, rfl, .nil, .nil, by simp, by simp⟩
theorem RoV.zero (w : World) : RoV w (.agg #[.int .i64 0, .int .i64 0, .int .i64 0, .int .i64 0, .string { data := #[] }, .int .i64 0, .int .i64 0, .int .i64 0, .int .i64 0, .int .i64 0, .int .i64 0, .int .i64 0, .slice none 0 0]) .zero :=
  ⟨none, 0, rfl, .nil⟩
theorem PkV.zero {lo : Nat} (w : World) : PkV lo w (.agg #[.int .i64 0, .int .i64 0, .int .i64 0, .int .i64 0, .int .i64 0, .int .i64 0, .int .i64 0, .slice none 0 0]) .zero :=
  ⟨none, 0, rfl, .nil, by simp⟩
theorem dpath_send.c {lo : Nat} (w : World) (v : Value) (p : Pk) (e : Int) (hp : PkV lo w v p) : Calls Try.prog dpath_send.id #[v, .int .i64 e] w (retP fun r w' => OcV lo w' r (if e = 0 then sendO p else .zero) ∧ Ext w w') := by
  obtain ⟨a, c, rfl, hs, hlo⟩ := hp
  apply dpath_send.sound
  unfold dpath_send.sh Pk.v
  by_cases he : e = 0
  · subst he
    simp -dsimp (disch := first | omega | assumption | ((simp only [World.size_alloc, size_setRow, List.size_toArray, List.length_cons, List.length_nil, cells_agg, len_enc, cells_int, cells_bool, cells_slice, cells_ptr, cells_string]) <;> omega) | ((repeat (first | with_reducible exact Ext.refl _ | with_reducible assumption | with_reducible apply Ext.alloc | with_reducible apply Ext.drew | (with_reducible refine Ext.setRow ?_ (by (try simp only [World.size_alloc]); omega) _) | (with_reducible refine Ext.tr ?_ (by assumption)))); done) | fail) only [go_sem, jn_r, Nat.reduceAdd, Nat.reduceLeDiff, Nat.reduceMul, Int.reduceToNat, Nat.reduceEqDiff, Nat.reduceLT, Int.reduceBEq, Int.reduceBNe, Int.reduceLT, Int.reduceLE, Int.reduceAdd, Int.reduceSub, Int.reduceMul, Int.reduceDiv, Int.reduceMod, Int.reduceNeg]
    refine callM (tunnel_Right.c _ p a c) ?_
    rintro _ w1 ⟨rfl, hx⟩
    have hz := hx.size
    simp only [World.size_alloc] at hz
    have hx1 : Ext w w1 := Ext.tr (by (repeat (first | with_reducible exact Ext.refl _ | with_reducible assumption | with_reducible apply Ext.alloc | with_reducible apply Ext.drew | (with_reducible refine Ext.setRow ?_ (by (try simp only [World.size_alloc]); omega) _) | (with_reducible refine Ext.tr ?_ (by assumption))))) hx
    by_cases hR : p.Rt
    · have e1 : decide p.Rt = true := by simp [hR]
      simp -dsimp (disch := first | omega | assumption | ((simp only [World.size_alloc, size_setRow, List.size_toArray, List.length_cons, List.length_nil, cells_agg, len_enc, cells_int, cells_bool, cells_slice, cells_ptr, cells_string]) <;> omega) | ((repeat (first | with_reducible exact Ext.refl _ | with_reducible assumption | with_reducible apply Ext.alloc | with_reducible apply Ext.drew | (with_reducible refine Ext.setRow ?_ (by (try simp only [World.size_alloc]); omega) _) | (with_reducible refine Ext.tr ?_ (by assumption)))); done) | fail) only [go_sem, jn_r, Nat.reduceAdd, Nat.reduceLeDiff, Nat.reduceMul, Int.reduceToNat, Nat.reduceEqDiff, Nat.reduceLT, Int.reduceBEq, Int.reduceBNe, Int.reduceLT, Int.reduceLE, Int.reduceAdd, Int.reduceSub, Int.reduceMul, Int.reduceDiv, Int.reduceMod, Int.reduceNeg, e1, hx.blk, hx.blk0]
      refine ⟨?_, by (repeat (first | with_reducible exact Ext.refl _ | with_reducible assumption | with_reducible apply Ext.alloc | with_reducible apply Ext.drew | (with_reducible refine Ext.setRow ?_ (by (try simp only [World.size_alloc]); omega) _) | (with_reducible refine Ext.tr ?_ (by assumption))))⟩
      simp only [sendO, hR, if_true]
      exact ⟨none, 0, a, c, rfl, .nil, hs.ext (by (repeat (first | with_reducible exact Ext.refl _ | with_reducible assumption | with_reducible apply Ext.alloc | with_reducible apply Ext.drew | (with_reducible refine Ext.setRow ?_ (by (try simp only [World.size_alloc]); omega) _) | (with_reducible refine Ext.tr ?_ (by assumption))))), by simp, hlo⟩
    · have e1 : decide p.Rt = false := by simp [hR]
      simp -dsimp (disch := first | omega | assumption | ((simp only [World.size_alloc, size_setRow, List.size_toArray, List.length_cons, List.length_nil, cells_agg, len_enc, cells_int, cells_bool, cells_slice, cells_ptr, cells_string]) <;> omega) | ((repeat (first | with_reducible exact Ext.refl _ | with_reducible assumption | with_reducible apply Ext.alloc | with_reducible apply Ext.drew | (with_reducible refine Ext.setRow ?_ (by (try simp only [World.size_alloc]); omega) _) | (with_reducible refine Ext.tr ?_ (by assumption)))); done) | fail) only [go_sem, jn_r, Nat.reduceAdd, Nat.reduceLeDiff, Nat.reduceMul, Int.reduceToNat, Nat.reduceEqDiff, Nat.reduceLT, Int.reduceBEq, Int.reduceBNe, Int.reduceLT, Int.reduceLE, Int.reduceAdd, Int.reduceSub, Int.reduceMul, Int.reduceDiv, Int.reduceMod, Int.reduceNeg, e1, hx.blk, hx.blk0]
      refine ⟨?_, by (repeat (first | with_reducible exact Ext.refl _ | with_reducible assumption | with_reducible apply Ext.alloc | with_reducible apply Ext.drew | (with_reducible refine Ext.setRow ?_ (by (try simp only [World.size_alloc]); omega) _) | (with_reducible refine Ext.tr ?_ (by assumption))))⟩
      simp only [sendO, hR, if_false, if_true]
      exact OcV.zero _
  · have e1 : (e == 0) = false := by simp [he]
    have e2 : (e != 0) = true := by simp [he]
    simp -dsimp (disch := first | omega | assumption | ((simp only [World.size_alloc, size_setRow, List.size_toArray, List.length_cons, List.length_nil, cells_agg, len_enc, cells_int, cells_bool, cells_slice, cells_ptr, cells_string]) <;> omega) | ((repeat (first | with_reducible exact Ext.refl _ | with_reducible assumption | with_reducible apply Ext.alloc | with_reducible apply Ext.drew | (with_reducible refine Ext.setRow ?_ (by (try simp only [World.size_alloc]); omega) _) | (with_reducible refine Ext.tr ?_ (by assumption)))); done) | fail) only [go_sem, jn_r, Nat.reduceAdd, Nat.reduceLeDiff, Nat.reduceMul, Int.reduceToNat, Nat.reduceEqDiff, Nat.reduceLT, Int.reduceBEq, Int.reduceBNe, Int.reduceLT, Int.reduceLE, Int.reduceAdd, Int.reduceSub, Int.reduceMul, Int.reduceDiv, Int.reduceMod, Int.reduceNeg, e1, e2]
    refine ⟨?_, by (repeat (first | with_reducible exact Ext.refl _ | with_reducible assumption | with_reducible apply Ext.alloc | with_reducible apply Ext.drew | (with_reducible refine Ext.setRow ?_ (by (try simp only [World.size_alloc]); omega) _) | (with_reducible refine Ext.tr ?_ (by assumption))))⟩
    rw [if_neg he]
    exact OcV.zero _
theorem rutterref15_sent.c {lo : Nat} (w : World) (v : Value) (p : Pk) (hp : PkV lo w v p) : Calls Try.prog rutterref15_sent.id #[v] w (retP fun r w' => RoV w' r (sendO p) ∧ Ext w w') := by
  obtain ⟨a, c, rfl, hs, hlo⟩ := hp
  apply rutterref15_sent.sound
  unfold rutterref15_sent.sh Pk.v
  simp -dsimp (disch := first | omega | assumption | ((simp only [World.size_alloc, size_setRow, List.size_toArray, List.length_cons, List.length_nil, cells_agg, len_enc, cells_int, cells_bool, cells_slice, cells_ptr, cells_string]) <;> omega) | ((repeat (first | with_reducible exact Ext.refl _ | with_reducible assumption | with_reducible apply Ext.alloc | with_reducible apply Ext.drew | (with_reducible refine Ext.setRow ?_ (by (try simp only [World.size_alloc]); omega) _) | (with_reducible refine Ext.tr ?_ (by assumption)))); done) | fail) only [go_sem, jn_r, Nat.reduceAdd, Nat.reduceLeDiff, Nat.reduceMul, Int.reduceToNat, Nat.reduceEqDiff, Nat.reduceLT, Int.reduceBEq, Int.reduceBNe, Int.reduceLT, Int.reduceLE, Int.reduceAdd, Int.reduceSub, Int.reduceMul, Int.reduceDiv, Int.reduceMod, Int.reduceNeg]
  refine callM (rutterref05_Right.c _ p a c) ?_
  rintro _ w1 ⟨rfl, hx⟩
  have hz := hx.size
  simp only [World.size_alloc] at hz
  have hx1 : Ext w w1 := Ext.tr (by (repeat (first | with_reducible exact Ext.refl _ | with_reducible assumption | with_reducible apply Ext.alloc | with_reducible apply Ext.drew | (with_reducible refine Ext.setRow ?_ (by (try simp only [World.size_alloc]); omega) _) | (with_reducible refine Ext.tr ?_ (by assumption))))) hx
  by_cases hR : p.Rt
  · have e1 : decide p.Rt = true := by simp [hR]
    simp -dsimp (disch := first | omega | assumption | ((simp only [World.size_alloc, size_setRow, List.size_toArray, List.length_cons, List.length_nil, cells_agg, len_enc, cells_int, cells_bool, cells_slice, cells_ptr, cells_string]) <;> omega) | ((repeat (first | with_reducible exact Ext.refl _ | with_reducible assumption | with_reducible apply Ext.alloc | with_reducible apply Ext.drew | (with_reducible refine Ext.setRow ?_ (by (try simp only [World.size_alloc]); omega) _) | (with_reducible refine Ext.tr ?_ (by assumption)))); done) | fail) only [go_sem, jn_r, Nat.reduceAdd, Nat.reduceLeDiff, Nat.reduceMul, Int.reduceToNat, Nat.reduceEqDiff, Nat.reduceLT, Int.reduceBEq, Int.reduceBNe, Int.reduceLT, Int.reduceLE, Int.reduceAdd, Int.reduceSub, Int.reduceMul, Int.reduceDiv, Int.reduceMod, Int.reduceNeg, e1, hx.blk, hx.blk0]
    refine ⟨?_, by (repeat (first | with_reducible exact Ext.refl _ | with_reducible assumption | with_reducible apply Ext.alloc | with_reducible apply Ext.drew | (with_reducible refine Ext.setRow ?_ (by (try simp only [World.size_alloc]); omega) _) | (with_reducible refine Ext.tr ?_ (by assumption))))⟩
    simp only [sendO, hR, if_true]
    exact ⟨a, c, rfl, hs.ext (by (repeat (first | with_reducible exact Ext.refl _ | with_reducible assumption | with_reducible apply Ext.alloc | with_reducible apply Ext.drew | (with_reducible refine Ext.setRow ?_ (by (try simp only [World.size_alloc]); omega) _) | (with_reducible refine Ext.tr ?_ (by assumption)))))⟩
  · have e1 : decide p.Rt = false := by simp [hR]
    simp -dsimp (disch := first | omega | assumption | ((simp only [World.size_alloc, size_setRow, List.size_toArray, List.length_cons, List.length_nil, cells_agg, len_enc, cells_int, cells_bool, cells_slice, cells_ptr, cells_string]) <;> omega) | ((repeat (first | with_reducible exact Ext.refl _ | with_reducible assumption | with_reducible apply Ext.alloc | with_reducible apply Ext.drew | (with_reducible refine Ext.setRow ?_ (by (try simp only [World.size_alloc]); omega) _) | (with_reducible refine Ext.tr ?_ (by assumption)))); done) | fail) only [go_sem, jn_r, Nat.reduceAdd, Nat.reduceLeDiff, Nat.reduceMul, Int.reduceToNat, Nat.reduceEqDiff, Nat.reduceLT, Int.reduceBEq, Int.reduceBNe, Int.reduceLT, Int.reduceLE, Int.reduceAdd, Int.reduceSub, Int.reduceMul, Int.reduceDiv, Int.reduceMod, Int.reduceNeg, e1, hx.blk, hx.blk0]
    refine ⟨?_, by (repeat (first | with_reducible exact Ext.refl _ | with_reducible assumption | with_reducible apply Ext.alloc | with_reducible apply Ext.drew | (with_reducible refine Ext.setRow ?_ (by (try simp only [World.size_alloc]); omega) _) | (with_reducible refine Ext.tr ?_ (by assumption))))⟩
    simp only [sendO, hR, if_false, if_true]
    exact RoV.zero _
/-- a table lies at v, that ranks so; none: no entries -/
def TbV (w : World) (v : Value) (M : List Ent) : Prop := (v = .pointer none ∧ M = []) ∨ ∃ p u s, v = .pointer (some ⟨p, 0, none⟩) ∧ blk w p = some #[u, s] ∧ Sl entC w s M ∧ M.length ≤ 1000
theorem TbV.ext {w w' : World} {v : Value} {M : List Ent} (h : TbV w v M) (hx : Ext w w') : TbV w' v M := h.imp id fun ⟨p, u, s, h1, h2, h3, h4⟩ => ⟨p, u, s, h1, hx.blkS h2, h3.ext hx, h4⟩
def lookA (M : List Ent) (k : Key) : Act4 := match lookup M k with | some e => e.act | none => ⟨0, 0, 0, 0⟩
theorem lookV_A (M : List Ent) (k : Key) : ∃ b, lookV M k = .tuple #[(lookA M k).v, .bool b] := by
  unfold lookV lookA
  cases lookup M k <;> exact ⟨_, rfl⟩
theorem flow_Table_Look.tb (M : List Ent) (k : Key) (w : World) (v : Value) (hT : TbV w v M) : Calls Try.prog flow_Table_Look.id #[v, k.v] w (retP fun r w' => (∃ b, r = .tuple #[(lookA M k).v, .bool b]) ∧ Ext w w') := by
  rcases hT with ⟨rfl, rfl⟩ | ⟨p, u, s, rfl, h1, h2, h3⟩
  · exact callM (flow_Table_Look.nilc k w) fun r w' ⟨h1, h2⟩ => ⟨⟨false, h1⟩, h2⟩
  · exact callM (flow_Table_Look.c M k w p u s h1 h2 (by omega)) fun r w' ⟨h1, h2⟩ => ⟨by rw [h1]; exact lookV_A M k, h2⟩
theorem dpath_ways_do.c {lo : Nat} (w : World) (tv : Value) (M : List Ent) (k : Key) (g1 g2 : Nat) (c1 c2 : Array Value) (o : Oc) (hT : TbV w tv M) (hg1 : bodyOk Try.prog g1 = true) (hg2 : bodyOk Try.prog g2 = true)
    (h0 : (lookA M k).kind ≤ 0 ∨ 3 ≤ (lookA M k).kind → o = .zero)
    (h1 : (lookA M k).kind = 1 → ∀ w1, Ext w w1 → Calls Try.prog g1 (#[(lookA M k).v] ++ c1) w1 (retP fun v w2 => OcV lo w2 v o ∧ Ext w1 w2))
    (h2 : (lookA M k).kind = 2 → ∀ w1, Ext w w1 → Calls Try.prog g2 (#[(lookA M k).v] ++ c2) w1 (retP fun v w2 => OcV lo w2 v o ∧ Ext w1 w2)) :
    Calls Try.prog dpath_ways_do.id #[.agg #[.nilFunc, .func (.func g1) #[] c1, .func (.func g2) #[] c2], tv, k.v] w (retP fun r w' => OcV lo w' r o ∧ Ext w w') := by
  apply dpath_ways_do.sound
  unfold dpath_ways_do.sh
  have hkf : k.v = .agg #[.int .i64 k.inn, .int .u64 k.mac, .int .i64 k.port, .int .i64 k.stamp, .int .i64 k.origin] := rfl
  rw [hkf]
  simp -dsimp (disch := first | omega | assumption | ((simp only [World.size_alloc, size_setRow, List.size_toArray, List.length_cons, List.length_nil, cells_agg, len_enc, cells_int, cells_bool, cells_slice, cells_ptr, cells_string]) <;> omega) | ((repeat (first | with_reducible exact Ext.refl _ | with_reducible assumption | with_reducible apply Ext.alloc | with_reducible apply Ext.drew | (with_reducible refine Ext.setRow ?_ (by (try simp only [World.size_alloc]); omega) _) | (with_reducible refine Ext.tr ?_ (by assumption)))); done) | fail) only [go_sem, jn_r, Nat.reduceAdd, Nat.reduceLeDiff, Nat.reduceMul, Int.reduceToNat, Nat.reduceEqDiff, Nat.reduceLT, Int.reduceBEq, Int.reduceBNe, Int.reduceLT, Int.reduceLE, Int.reduceAdd, Int.reduceSub, Int.reduceMul, Int.reduceDiv, Int.reduceMod, Int.reduceNeg]
  rw [← hkf]
  refine callM (flow_Table_Look.tb M k _ tv (hT.ext (by (repeat (first | with_reducible exact Ext.refl _ | with_reducible assumption | with_reducible apply Ext.alloc | with_reducible apply Ext.drew | (with_reducible refine Ext.setRow ?_ (by (try simp only [World.size_alloc]); omega) _) | (with_reducible refine Ext.tr ?_ (by assumption))))))) ?_
  rintro _ w1 ⟨⟨bb, rfl⟩, hx⟩
  have hz := hx.size
  simp only [World.size_alloc] at hz
  have hx1 : Ext w w1 := Ext.tr (by (repeat (first | with_reducible exact Ext.refl _ | with_reducible assumption | with_reducible apply Ext.alloc | with_reducible apply Ext.drew | (with_reducible refine Ext.setRow ?_ (by (try simp only [World.size_alloc]); omega) _) | (with_reducible refine Ext.tr ?_ (by assumption))))) hx
  generalize hA : lookA M k = A at h0 h1 h2
  unfold Act4.v at h1 h2 ⊢
  by_cases hk : (decide (A.kind ≤ 0) || decide (3 ≤ A.kind)) = true
  · simp -dsimp (disch := first | omega | assumption | ((simp only [World.size_alloc, size_setRow, List.size_toArray, List.length_cons, List.length_nil, cells_agg, len_enc, cells_int, cells_bool, cells_slice, cells_ptr, cells_string]) <;> omega) | ((repeat (first | with_reducible exact Ext.refl _ | with_reducible assumption | with_reducible apply Ext.alloc | with_reducible apply Ext.drew | (with_reducible refine Ext.setRow ?_ (by (try simp only [World.size_alloc]); omega) _) | (with_reducible refine Ext.tr ?_ (by assumption)))); done) | fail) only [go_sem, jn_r, Nat.reduceAdd, Nat.reduceLeDiff, Nat.reduceMul, Int.reduceToNat, Nat.reduceEqDiff, Nat.reduceLT, Int.reduceBEq, Int.reduceBNe, Int.reduceLT, Int.reduceLE, Int.reduceAdd, Int.reduceSub, Int.reduceMul, Int.reduceDiv, Int.reduceMod, Int.reduceNeg, hk, hx.blk, hx.blk0]
    rw [h0 (by simpa using hk)]
    exact ⟨OcV.zero _, by (repeat (first | with_reducible exact Ext.refl _ | with_reducible assumption | with_reducible apply Ext.alloc | with_reducible apply Ext.drew | (with_reducible refine Ext.setRow ?_ (by (try simp only [World.size_alloc]); omega) _) | (with_reducible refine Ext.tr ?_ (by assumption))))⟩
  · have hk' : (decide (A.kind ≤ 0) || decide (3 ≤ A.kind)) = false := by simpa using hk
    have hkk : A.kind = 1 ∨ A.kind = 2 := by simp at hk; omega
    rcases hkk with hk1 | hk2
    · have h' := h1 hk1
      rw [hk1] at h'
      simp -dsimp (disch := first | omega | assumption | ((simp only [World.size_alloc, size_setRow, List.size_toArray, List.length_cons, List.length_nil, cells_agg, len_enc, cells_int, cells_bool, cells_slice, cells_ptr, cells_string]) <;> omega) | ((repeat (first | with_reducible exact Ext.refl _ | with_reducible assumption | with_reducible apply Ext.alloc | with_reducible apply Ext.drew | (with_reducible refine Ext.setRow ?_ (by (try simp only [World.size_alloc]); omega) _) | (with_reducible refine Ext.tr ?_ (by assumption)))); done) | fail) only [go_sem, jn_r, Nat.reduceAdd, Nat.reduceLeDiff, Nat.reduceMul, Int.reduceToNat, Nat.reduceEqDiff, Nat.reduceLT, Int.reduceBEq, Int.reduceBNe, Int.reduceLT, Int.reduceLE, Int.reduceAdd, Int.reduceSub, Int.reduceMul, Int.reduceDiv, Int.reduceMod, Int.reduceNeg, hk', hk1, hx.blk, hx.blk0]
      refine ⟨by decide, vcM hg1 (by simp) (h' _ (by (repeat (first | with_reducible exact Ext.refl _ | with_reducible assumption | with_reducible apply Ext.alloc | with_reducible apply Ext.drew | (with_reducible refine Ext.setRow ?_ (by (try simp only [World.size_alloc]); omega) _) | (with_reducible refine Ext.tr ?_ (by assumption)))))) ?_⟩
      rintro v w2 ⟨hO, hx2⟩
      have hE2 : Ext w w2 := Ext.tr (by (repeat (first | with_reducible exact Ext.refl _ | with_reducible assumption | with_reducible apply Ext.alloc | with_reducible apply Ext.drew | (with_reducible refine Ext.setRow ?_ (by (try simp only [World.size_alloc]); omega) _) | (with_reducible refine Ext.tr ?_ (by assumption))))) hx2
      have hb2 : blk0 w2 (w.heap.size + 1 + 1) = _ := (hx2.blk0 (by simp only [World.size_alloc, show ∀ w : World, w.drew.heap = w.heap from fun _ => rfl]; omega)).trans ((blk0_old (by omega)).trans ((hx.blk0 (by simp)).trans (blk0_new (by simp))))
      obtain ⟨a1, c1, a2, c2, rfl, hs1, hs2, hlo⟩ := hO
      have hb2' := blk_of0 hb2
      unfold Oc.v
      simp -dsimp (disch := first | omega | assumption | ((simp only [World.size_alloc, size_setRow, List.size_toArray, List.length_cons, List.length_nil, cells_agg, len_enc, cells_int, cells_bool, cells_slice, cells_ptr, cells_string]) <;> omega) | ((repeat (first | with_reducible exact Ext.refl _ | with_reducible assumption | with_reducible apply Ext.alloc | with_reducible apply Ext.drew | (with_reducible refine Ext.setRow ?_ (by (try simp only [World.size_alloc]); omega) _) | (with_reducible refine Ext.tr ?_ (by assumption)))); done) | fail) only [go_sem, jn_r, Nat.reduceAdd, Nat.reduceLeDiff, Nat.reduceMul, Int.reduceToNat, Nat.reduceEqDiff, Nat.reduceLT, Int.reduceBEq, Int.reduceBNe, Int.reduceLT, Int.reduceLE, Int.reduceAdd, Int.reduceSub, Int.reduceMul, Int.reduceDiv, Int.reduceMod, Int.reduceNeg, hb2, hb2']
      exact ⟨⟨a1, c1, a2, c2, rfl, hs1.bset hb2' rfl, hs2.bset hb2' rfl, hlo⟩, by (repeat (first | with_reducible exact Ext.refl _ | with_reducible assumption | with_reducible apply Ext.alloc | with_reducible apply Ext.drew | (with_reducible refine Ext.setRow ?_ (by (try simp only [World.size_alloc]); omega) _) | (with_reducible refine Ext.tr ?_ (by assumption))))⟩
    · have h' := h2 hk2
      rw [hk2] at h'
      simp -dsimp (disch := first | omega | assumption | ((simp only [World.size_alloc, size_setRow, List.size_toArray, List.length_cons, List.length_nil, cells_agg, len_enc, cells_int, cells_bool, cells_slice, cells_ptr, cells_string]) <;> omega) | ((repeat (first | with_reducible exact Ext.refl _ | with_reducible assumption | with_reducible apply Ext.alloc | with_reducible apply Ext.drew | (with_reducible refine Ext.setRow ?_ (by (try simp only [World.size_alloc]); omega) _) | (with_reducible refine Ext.tr ?_ (by assumption)))); done) | fail) only [go_sem, jn_r, Nat.reduceAdd, Nat.reduceLeDiff, Nat.reduceMul, Int.reduceToNat, Nat.reduceEqDiff, Nat.reduceLT, Int.reduceBEq, Int.reduceBNe, Int.reduceLT, Int.reduceLE, Int.reduceAdd, Int.reduceSub, Int.reduceMul, Int.reduceDiv, Int.reduceMod, Int.reduceNeg, hk', hk2, hx.blk, hx.blk0]
      refine ⟨by decide, vcM hg2 (by simp) (h' _ (by (repeat (first | with_reducible exact Ext.refl _ | with_reducible assumption | with_reducible apply Ext.alloc | with_reducible apply Ext.drew | (with_reducible refine Ext.setRow ?_ (by (try simp only [World.size_alloc]); omega) _) | (with_reducible refine Ext.tr ?_ (by assumption)))))) ?_⟩
      rintro v w2 ⟨hO, hx2⟩
      have hE2 : Ext w w2 := Ext.tr (by (repeat (first | with_reducible exact Ext.refl _ | with_reducible assumption | with_reducible apply Ext.alloc | with_reducible apply Ext.drew | (with_reducible refine Ext.setRow ?_ (by (try simp only [World.size_alloc]); omega) _) | (with_reducible refine Ext.tr ?_ (by assumption))))) hx2
      have hb2 : blk0 w2 (w.heap.size + 1 + 1) = _ := (hx2.blk0 (by simp only [World.size_alloc, show ∀ w : World, w.drew.heap = w.heap from fun _ => rfl]; omega)).trans ((blk0_old (by omega)).trans ((hx.blk0 (by simp)).trans (blk0_new (by simp))))
      obtain ⟨a1, c1, a2, c2, rfl, hs1, hs2, hlo⟩ := hO
      have hb2' := blk_of0 hb2
      unfold Oc.v
      simp -dsimp (disch := first | omega | assumption | ((simp only [World.size_alloc, size_setRow, List.size_toArray, List.length_cons, List.length_nil, cells_agg, len_enc, cells_int, cells_bool, cells_slice, cells_ptr, cells_string]) <;> omega) | ((repeat (first | with_reducible exact Ext.refl _ | with_reducible assumption | with_reducible apply Ext.alloc | with_reducible apply Ext.drew | (with_reducible refine Ext.setRow ?_ (by (try simp only [World.size_alloc]); omega) _) | (with_reducible refine Ext.tr ?_ (by assumption)))); done) | fail) only [go_sem, jn_r, Nat.reduceAdd, Nat.reduceLeDiff, Nat.reduceMul, Int.reduceToNat, Nat.reduceEqDiff, Nat.reduceLT, Int.reduceBEq, Int.reduceBNe, Int.reduceLT, Int.reduceLE, Int.reduceAdd, Int.reduceSub, Int.reduceMul, Int.reduceDiv, Int.reduceMod, Int.reduceNeg, hb2, hb2']
      exact ⟨⟨a1, c1, a2, c2, rfl, hs1.bset hb2' rfl, hs2.bset hb2' rfl, hlo⟩, by (repeat (first | with_reducible exact Ext.refl _ | with_reducible assumption | with_reducible apply Ext.alloc | with_reducible apply Ext.drew | (with_reducible refine Ext.setRow ?_ (by (try simp only [World.size_alloc]); omega) _) | (with_reducible refine Ext.tr ?_ (by assumption))))⟩
end Go.Proofs.Ytldjhbmccnbciaa
