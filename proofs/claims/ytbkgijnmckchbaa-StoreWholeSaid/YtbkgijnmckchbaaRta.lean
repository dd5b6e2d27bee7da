/- the database of the document. -/
import Derived.Test.YtbkgijnmckchbaaStq
namespace Go.Proofs.Ytbkgijnmckchbaa
open Go
set_option linter.unusedSimpArgs false
set_option linter.unusedVariables false
/-- the row of a port, or none: the zero row -/
def Vw.at (V : Vw) (i : Nat) : Rw := (V.r (i : Int)).getD Rw.zero
def Vw.flags (V : Vw) : List Value := (List.range 16).map fun i : Nat => .bool (V.c (i : Int))
def Vw.all (V : Vw) : List Rw := (List.range 32).map V.at
def refArr (V : Vw) : Array Value := (V.flags ++ V.all.flatMap rowC.enc).toArray
theorem Vw.flags_len (V : Vw) : V.flags.length = 16 := by simp [Vw.flags]
theorem Vw.all_len (V : Vw) : V.all.length = 32 := by simp [Vw.all]
theorem Vw.all_get (V : Vw) {i : Nat} (h : i < 32) : V.all[i]? = some (V.at i) := by simp [Vw.all, h]
@[go_sem] theorem refArr_size {V : Vw} : (refArr V).size = 304 := by
  unfold refArr
  simp only [List.size_toArray, List.length_append, V.flags_len]
  rw [flat_len, V.all_len]
theorem refArr_flag {V : Vw} {i : Nat} (h : i < 16) : (refArr V)[i]? = some (.bool (V.c (i : Int))) := by
  unfold refArr
  rw [List.getElem?_toArray, List.getElem?_append_left (by rw [V.flags_len]; exact h)]
  simp [Vw.flags, h]
theorem refArr_cell {V : Vw} {i j : Nat} {u : Value} (h : i < 32) (hu : (rowC.enc (V.at i))[j]? = some u) : (refArr V)[16 + i * 9 + j]? = some u := by
  unfold refArr
  rw [List.getElem?_toArray, List.getElem?_append_right (by rw [V.flags_len]; omega), V.flags_len]
  have := flat_get (C := rowC) V.all (V.all_get h) hu
  rw [← this]
  congr 1
  omega
theorem refArr_row {V : Vw} {i : Nat} (h : i < 32) : agx (refArr V) (16 + i * 9) 9 = (V.at i).v := by
  have := agx_sub (l := rowC.enc (V.at i)) (cs := refArr V) (o := 16 + i * 9) (d := 0) (m := 9) (fun j u hu => refArr_cell h hu) (by simp [rowC, Rw.enc])
  rw [Nat.add_zero] at this
  rw [this]
  rfl
theorem bd_ref {V : Vw} {K : Value → Prop} : pv (bd 36 #[(0, agx (refArr V) 0 16), (1, agx (refArr V) 16 288)]) K = K (.agg (refArr V)) := pv_of fun _ => by kernel_rfl
end Go.Proofs.Ytbkgijnmckchbaa
