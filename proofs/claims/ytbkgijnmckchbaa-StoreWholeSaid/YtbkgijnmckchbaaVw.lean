/- the database, as it is said: chassis, rows; what each act does. -/
import Derived.Test.YtbkgijnmckchbaaPh
import Derived.Test.YtbkgijnmckchbaaNu
import Derived.Test.YtbkgijnmckchbaaKs
namespace Go.Proofs.Ytbkgijnmckchbaa
open Go
set_option linter.unusedSimpArgs false
set_option linter.unusedVariables false
structure Vw where
  c : Int → Bool
  r : Int → Option Rw
/-- a database that may be: chassis are 0 to 15, rows stand at their ports -/
structure Vw.Ok (V : Vw) : Prop where
  c : ∀ k, V.c k = true → 0 ≤ k ∧ k ≤ 15
  r : ∀ k x, V.r k = some x → x.port = k ∧ x.Ok
def Vw.new : Vw := ⟨fun _ => false, fun _ => none⟩
theorem Vw.new_ok : Vw.new.Ok := ⟨fun k h => absurd h (by unfold Vw.new; simp), fun k x h => absurd h (by unfold Vw.new; simp)⟩
def upTo (n : Nat) : List Int := (List.range n).map Int.ofNat
def Vw.rows (V : Vw) : List Rw := (upTo 32).filterMap V.r
def Vw.chassis (V : Vw) : List Int := (upTo 16).filter V.c
def Vw.add (V : Vw) (k : Int) : Vw × Int :=
  if ¬ (0 ≤ k ∧ k ≤ 15) then (V, 1) else if V.c k then (V, 5) else ({ V with c := fun j => if j = k then true else V.c j }, 0)
def Vw.remove (V : Vw) (k : Int) : Vw × Int :=
  if ¬ V.c k then (V, 4) else if V.rows.any (fun x => x.names.contains k) then (V, 11) else ({ V with c := fun j => if j = k then false else V.c j }, 0)
def verO (o : Option Rw) : Int := (o.getD Rw.zero).ver
/-- two rows, that aren't gone, of one address? -/
def clash (x y : Rw) : Bool := y.port != x.port && y.phase != 3 && x.phase != 3 && y.mac == x.mac
def Vw.wrong (V : Vw) (x : Rw) (was : Int) : Int :=
  if ¬ x.Ok ∨ x.ver ≤ was then 1 else if x.names.any (fun c => !V.c c) then 4 else if verO (V.r x.port) ≠ was then 7 else if V.rows.any (clash x) then 5 else 0
def Vw.put (V : Vw) (x : Rw) : Vw := { V with r := fun k => if k = x.port then some x else V.r k }
/-- changes, one by one; none of them counts once one is wrong -/
def Vw.goOn (V : Vw) : List (Rw × Int) → Vw × Int
  | [] => (V, 0)
  | (x, was) :: l => if V.wrong x was ≠ 0 then (V, V.wrong x was) else (V.put x).goOn l
def Vw.apply (V : Vw) (l : List (Rw × Int)) : Vw × Int := if (V.goOn l).2 = 0 then V.goOn l else (V, (V.goOn l).2)
def Vw.find (V : Vw) (mac : Int) : Option Rw := V.rows.find? fun x => x.phase != 3 && x.mac == mac
def Vw.late (V : Vw) (now span : Int) : List (Rw × Int) := V.rows.filterMap fun x => if (lateR x now span).2 then some ((lateR x now span).1, x.ver) else none
/- ### what holds of it -/
theorem mem_upTo {n : Nat} {k : Int} : k ∈ upTo n ↔ 0 ≤ k ∧ k < n := by
  unfold upTo
  simp only [List.mem_map, List.mem_range]
  refine ⟨fun ⟨i, h1, h2⟩ => by simp only [Int.ofNat_eq_natCast] at h2; omega, fun h => ⟨k.toNat, by omega, by simp only [Int.ofNat_eq_natCast]; omega⟩⟩
theorem upTo_get {n i : Nat} (h : i < n) : (upTo n)[i]? = some (i : Int) := by simp [upTo, h]
theorem upTo_pw (n : Nat) : (upTo n).Pairwise (· < ·) := by
  unfold upTo
  rw [List.pairwise_map]
  exact List.pairwise_lt_range.imp fun h => by simp only [Int.ofNat_eq_natCast]; omega
theorem Vw.Ok.port {V : Vw} (h : V.Ok) {k : Int} {x : Rw} (hx : V.r k = some x) : 0 ≤ k ∧ k ≤ 31 := by
  obtain ⟨h1, h2⟩ := h.r k x hx
  have := h2.bnd
  omega
theorem Vw.mem_rows {V : Vw} (h : V.Ok) {x : Rw} : x ∈ V.rows ↔ V.r x.port = some x := by
  unfold Vw.rows
  rw [List.mem_filterMap]
  constructor
  · rintro ⟨k, -, hk⟩
    rw [(h.r k x hk).1]
    exact hk
  · intro hx
    have := h.port hx
    exact ⟨x.port, mem_upTo.2 (by omega), hx⟩
theorem Vw.mem_chassis {V : Vw} (h : V.Ok) {k : Int} : k ∈ V.chassis ↔ V.c k = true := by
  unfold Vw.chassis
  rw [List.mem_filter, mem_upTo]
  exact ⟨fun h => h.2, fun hk => ⟨by have := h.c k hk; omega, hk⟩⟩
theorem Vw.add_ok {V : Vw} (h : V.Ok) (k : Int) : (V.add k).1.Ok := by
  unfold Vw.add
  split
  · exact h
  split
  · exact h
  rename_i h1 h2
  refine ⟨fun j hj => ?_, h.r⟩
  simp only at hj
  split at hj
  · omega
  · exact h.c j hj
theorem Vw.remove_ok {V : Vw} (h : V.Ok) (k : Int) : (V.remove k).1.Ok := by
  unfold Vw.remove
  split
  · exact h
  split
  · exact h
  refine ⟨fun j hj => ?_, h.r⟩
  simp only at hj
  split at hj
  · cases hj
  · exact h.c j hj
theorem Vw.put_ok {V : Vw} (h : V.Ok) {x : Rw} (hx : x.Ok) : (V.put x).Ok := by
  refine ⟨h.c, fun k y hy => ?_⟩
  unfold Vw.put at hy
  simp only at hy
  split at hy
  · cases hy
    exact ⟨by omega, hx⟩
  · exact h.r k y hy
theorem Vw.wrong_ok {V : Vw} {x : Rw} {was : Int} (h : V.wrong x was = 0) : x.Ok := by
  unfold Vw.wrong at h
  by_cases hx : x.Ok
  · exact hx
  · rw [if_pos (.inl hx)] at h
    cases h
theorem Vw.goOn_ok : ∀ {V : Vw} (_ : V.Ok) (l : List (Rw × Int)), (V.goOn l).1.Ok
  | V, h, [] => h
  | V, h, (x, was) :: l => by
    unfold Vw.goOn
    split
    · exact h
    · rename_i hw
      exact goOn_ok (put_ok h (wrong_ok (Decidable.not_not.1 hw))) l
theorem Vw.apply_ok {V : Vw} (h : V.Ok) (l : List (Rw × Int)) : (V.apply l).1.Ok := by
  unfold Vw.apply
  split
  · exact goOn_ok h l
  · exact h
theorem asc_eq {l s : List Int} (hl : l.Nodup) (hs : s.Pairwise (· < ·)) (h : ∀ k, k ∈ l ↔ k ∈ s) : asc l = s := by
  have hn : s.Nodup := hs.imp fun h => by omega
  have hp : l.Perm s := (List.perm_ext_iff_of_nodup hl hn).2 h
  rw [perm_asc hp]
  unfold asc
  exact List.mergeSort_of_pairwise (hs.imp fun h => by simp; omega)
/-- the ports that have a row -/
def Vw.ports (V : Vw) : List Int := (upTo 32).filter fun k => (V.r k).isSome
theorem Vw.rows_ports (V : Vw) : V.rows = V.ports.map fun k => (V.r k).getD Rw.zero := by
  unfold Vw.rows Vw.ports
  generalize upTo 32 = l
  induction l with
  | nil => rfl
  | cons k l ih =>
    cases hk : V.r k with
    | none =>
      rw [List.filterMap_cons_none hk, List.filter_cons_of_neg (by simp [hk])]
      exact ih
    | some x =>
      rw [List.filterMap_cons_some hk, List.filter_cons_of_pos (by simp [hk]), List.map_cons, ih, hk]
      rfl
theorem Vw.asc_ports {V : Vw} (h : V.Ok) {m : List (Int × Rw)} (hn : (m.map (·.1)).Nodup) (hm : ∀ k, look m k = V.r k) : asc (m.map (·.1)) = V.ports := by
  refine asc_eq hn ((upTo_pw 32).filter _) fun k => ?_
  unfold Vw.ports
  rw [List.mem_filter, mem_upTo, ← hm]
  constructor
  · intro hk
    obtain ⟨⟨k', x⟩, hp, rfl⟩ := List.mem_map.1 hk
    have := look_of_mem hn hp
    have h2 := h.port ((hm k').symm.trans this)
    exact ⟨by simp only; omega, by rw [this]; rfl⟩
  · rintro ⟨-, hk⟩
    obtain ⟨x, hx⟩ := Option.isSome_iff_exists.1 hk
    exact List.mem_map.2 ⟨_, look_mem hx, rfl⟩
theorem Vw.asc_chassis {V : Vw} (h : V.Ok) {m : List (Int × Int)} (hn : (m.map (·.1)).Nodup) (hm : ∀ k, look m k = if V.c k then some 1 else none) : asc (m.map (·.1)) = V.chassis := by
  refine asc_eq hn ((upTo_pw 16).filter _) fun k => ?_
  show _ ↔ k ∈ V.chassis
  rw [mem_chassis h]
  constructor
  · intro hk
    obtain ⟨⟨k', x⟩, hp, rfl⟩ := List.mem_map.1 hk
    have := look_of_mem hn hp
    rw [hm] at this
    simp only
    cases hc : V.c k' with
    | true => rfl
    | false => rw [hc] at this; cases this
  · intro hk
    have := hm k
    rw [if_pos hk] at this
    exact List.mem_map.2 ⟨_, look_mem this, rfl⟩
theorem Vw.rows_len (V : Vw) : V.rows.length ≤ 32 := by
  unfold Vw.rows
  refine Nat.le_trans (List.length_filterMap_le _ _) ?_
  simp [upTo]
theorem Vw.chassis_len (V : Vw) : V.chassis.length ≤ 16 := by
  unfold Vw.chassis
  refine Nat.le_trans (List.length_filter_le _ _) ?_
  simp [upTo]
end Go.Proofs.Ytbkgijnmckchbaa
