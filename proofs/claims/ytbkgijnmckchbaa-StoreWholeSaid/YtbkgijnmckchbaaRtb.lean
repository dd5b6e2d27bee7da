/- the database of the document: its cells. -/
import Derived.Test.YtbkgijnmckchbaaRta
namespace Go.Proofs.Ytbkgijnmckchbaa
open Go
set_option linter.unusedSimpArgs false
set_option linter.unusedVariables false
theorem flat_set {α : Type} {k : Nat} {C : Cdc α k} {l : List α} {i : Nat} {x : α} (hi : i < l.length) : (l.set i x).flatMap C.enc = (l.flatMap C.enc).take (i * k) ++ C.enc x ++ (l.flatMap C.enc).drop (i * k + k) := by
  have e1 : l = l.take i ++ l[i] :: l.drop (i + 1) := by rw [← List.drop_eq_getElem_cons hi, List.take_append_drop]
  have hA : ((l.take i).flatMap C.enc).length = i * k := by rw [flat_len, List.length_take]; congr 1; omega
  have hy := C.len l[i]
  rw [List.set_eq_take_append_cons_drop, if_pos hi]
  have e2 : l.flatMap C.enc = (l.take i).flatMap C.enc ++ (C.enc l[i] ++ (l.drop (i + 1)).flatMap C.enc) := by
    conv => lhs; rw [e1]
    rw [List.flatMap_append, List.flatMap_cons]
  rw [e2, List.flatMap_append, List.flatMap_cons]
  generalize (l.drop (i + 1)).flatMap C.enc = D
  generalize (l.take i).flatMap C.enc = A at *
  generalize C.enc l[i] = Y at *
  rw [← hA, ← List.drop_drop, List.take_left, List.drop_left]
  have e3 := List.drop_left (l₁ := Y) (l₂ := D)
  rw [hy] at e3
  rw [e3, List.append_assoc]
theorem Vw.put_all {V : Vw} {x : Rw} (h : 0 ≤ x.port ∧ x.port ≤ 31) : (V.put x).all = V.all.set x.port.toNat x := by
  apply List.ext_getElem?
  intro i
  rw [List.getElem?_set]
  by_cases hi : i < 32
  · rw [Vw.all_get _ hi, Vw.all_get _ hi, V.all_len]
    unfold Vw.at Vw.put
    simp only
    by_cases e : x.port.toNat = i
    · rw [if_pos e, if_pos (by omega), if_pos (by omega)]
      rfl
    · rw [if_neg e, if_neg (by omega)]
  · rw [List.getElem?_eq_none (by rw [Vw.all_len]; omega), List.getElem?_eq_none (by rw [Vw.all_len]; omega), if_neg (by omega)]
theorem refArr_put {V : Vw} {x : Rw} (h : 0 ≤ x.port ∧ x.port ≤ 31) : spl (refArr V) (16 + x.port.toNat * 9) x.arr = refArr (V.put x) := by
  have hf : (V.put x).flags = V.flags := rfl
  have hl := V.flags_len
  have e3 : x.arr.size = 9 := rfl
  unfold spl refArr
  rw [hf, Vw.put_all h, flat_set (C := rowC) (by rw [V.all_len]; omega), e3]
  congr 1
  have t1 : (V.flags ++ V.all.flatMap rowC.enc).take (16 + x.port.toNat * 9) = V.flags ++ (V.all.flatMap rowC.enc).take (x.port.toNat * 9) := by
    rw [List.take_append, hl, List.take_of_length_le (by omega)]
    congr 2
    omega
  have t2 : (V.flags ++ V.all.flatMap rowC.enc).drop (16 + x.port.toNat * 9 + 9) = (V.all.flatMap rowC.enc).drop (x.port.toNat * 9 + 9) := by
    rw [List.drop_append, hl, List.drop_eq_nil_of_le (by omega), List.nil_append]
    congr 1
    omega
  show List.take _ _ ++ x.arr.toList ++ List.drop _ _ = _
  rw [t1, t2, List.append_assoc, List.append_assoc, List.append_assoc]
  rfl
def Vw.setC (V : Vw) (k : Int) (b : Bool) : Vw := { V with c := fun j => if j = k then b else V.c j }
theorem refArr_setC {V : Vw} {k : Int} {b : Bool} (h : 0 ≤ k ∧ k ≤ 15) : (refArr V).setIfInBounds k.toNat (.bool b) = refArr (V.setC k b) := by
  have e : (V.setC k b).flags = V.flags.set k.toNat (.bool b) := by
    apply List.ext_getElem?
    intro i
    rw [List.getElem?_set]
    by_cases hi : i < 16
    · unfold Vw.flags Vw.setC
      simp [hi]
      by_cases e : k.toNat = i
      · rw [if_pos e, if_pos (by omega), if_pos (by omega)]
      · rw [if_neg e, if_neg (by omega)]
    · rw [List.getElem?_eq_none (by rw [Vw.flags_len]; omega), List.getElem?_eq_none (by rw [Vw.flags_len]; omega), if_neg (by omega)]
  unfold refArr
  rw [e]
  have : (V.setC k b).all = V.all := rfl
  rw [this]
  rw [List.setIfInBounds_toArray, List.set_append_left _ _ (by rw [V.flags_len]; omega)]
theorem refArr_one {V : Vw} : ∀ u ∈ (refArr V).toList, u.oneCell' = true := by
  intro u hu
  unfold refArr at hu
  rcases List.mem_append.1 hu with h | h
  · obtain ⟨i, -, rfl⟩ := List.mem_map.1 h
    rfl
  · exact flat_one V.all u h
theorem agx_fit {cs : Array Value} {o n : Nat} (h : o + n ≤ cs.size) (h1 : ∀ u ∈ cs.toList, u.oneCell' = true) : fit (agx cs o n) n := by
  refine ⟨?_, oneL_iff.2 fun u hu => h1 u ?_⟩
  · show (cs.extract o (o + n)).size = n
    rw [Array.size_extract]
    omega
  · have hu' : u ∈ (cs.extract o (o + n)).toList := hu
    rw [Array.toList_extract, List.extract_eq_take_drop] at hu'
    exact List.mem_of_mem_drop (List.mem_of_mem_take hu')
theorem refArr_fit {V : Vw} : fit (agx (refArr V) 16 288) 288 := agx_fit (by rw [refArr_size]; omega) refArr_one
theorem spl_tail {A B D : List Value} {n m : Nat} (hA : A.length = n) (hB : B.length = m) (hD : D.length = m) : spl (A ++ B).toArray n ((A ++ D).toArray.extract n (n + m)) = (A ++ D).toArray := by
  have e : ((A ++ D).toArray.extract n (n + m)).toList = D := by
    rw [Array.toList_extract, List.extract_eq_take_drop, List.drop_append, hA, List.drop_eq_nil_of_le (by omega), List.nil_append, Nat.sub_self, List.drop_zero, List.take_of_length_le (by omega)]
  have es : ((A ++ D).toArray.extract n (n + m)).size = m := by rw [Array.size_extract]; simp only [List.size_toArray, List.length_append]; omega
  unfold spl
  rw [e, es]
  refine congrArg List.toArray ?_
  show List.take n (A ++ B) ++ D ++ List.drop (n + m) (A ++ B) = _
  rw [List.take_append, hA, List.take_of_length_le (by omega), List.drop_eq_nil_of_le (by rw [List.length_append]; omega), Nat.sub_self, List.take_zero, List.append_nil, List.append_nil]
theorem refArr_rows {V U : Vw} (h : U.c = V.c) : spl (refArr V) 16 ((refArr U).extract 16 (16 + 288)) = refArr U := by
  have hf : U.flags = V.flags := by unfold Vw.flags; rw [h]
  have h1 : (U.all.flatMap rowC.enc).length = 288 := by rw [flat_len, U.all_len]
  have h2 : (V.all.flatMap rowC.enc).length = 288 := by rw [flat_len, V.all_len]
  unfold refArr
  rw [hf]
  exact spl_tail V.flags_len h2 h1
end Go.Proofs.Ytbkgijnmckchbaa
