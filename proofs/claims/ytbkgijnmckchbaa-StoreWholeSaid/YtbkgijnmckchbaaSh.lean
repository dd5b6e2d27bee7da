import Derived.Test.YtbkgijnmckchbaaBy
namespace Go.Proofs.Ytbkgijnmckchbaa
open Go
set_option linter.unusedVariables false
instance : ITy 3 .i64 := ⟨by kernel_rfl⟩
instance : BTy 4 := ⟨by kernel_rfl⟩
instance : ITy 5 .u8 := ⟨by kernel_rfl⟩
instance : ITy 24 .u64 := ⟨by kernel_rfl⟩
instance : PTy 27 := ⟨⟨63, by kernel_rfl⟩⟩
instance : ITy 31 .i64 := ⟨by kernel_rfl⟩
instance : SlT 38 59 10 := .of (by kernel_rfl) (by kernel_rfl) (by decide) (by decide)
instance : ITy 45 .i64 := ⟨by kernel_rfl⟩
instance : SlT 49 3 1 := .of (by kernel_rfl) (by kernel_rfl) (by decide) (by decide)
instance : SlT 51 33 9 := .of (by kernel_rfl) (by kernel_rfl) (by decide) (by decide)
instance : SlT 65 68 10 := .of (by kernel_rfl) (by kernel_rfl) (by decide) (by decide)
-- rutter/rutterlaw10.StorePlays
abbrev rutterlaw10_StorePlays.id : Nat := 3
set_option maxRecDepth 100000 in
def rutterlaw10_StorePlays.sh (a0 a1 a2 : Value) (w : World) (K : Value → World → Prop) : Prop :=
 bx 23 a1 w fun t1 w =>
 fc 5 #[a0] w fun t2 w =>
 pv (un .not t2) fun t3 =>
 cnd t3 (
 fc 6 #[] w fun t4 w =>
 K t4 w) (
 fc 7 #[] w fun t5 w =>
 pv (bd 36 #[]) fun t6 =>
 bx 36 t6 w fun t7 w =>
 LoopS (fun s8 w k9 => ∀ _ : List Value,
 ln 1 a0 w fun t10 =>
 pv (bn .lss 3 (nth s8 0) t10) fun t11 =>
 cnd t11 (
 iz 3 a0 (nth s8 0) fun t12 =>
 la 3 t12 w fun t13 =>
 fc 8 #[t5, t7, t13] w fun t14 w =>
 la 2 t1 w fun t15 =>
 fc 9 #[t5, t7, t15, a2] w fun t16 w =>
 pv (un .not t14) fun t17 =>
 gq t17 false (pv (mv t16)) fun t18 =>
 gq t17 false (pv (un .not t18)) fun t19 =>
 pv (pk t17 (.bool true) t19) fun t20 =>
 cnd t20 (
 K (.bool false) w) (
 pv (bn .add 3 (nth s8 0) (.int .i64 1)) fun t21 =>
 k9 [t21] w)) (
 fc 10 #[(.pointer none), (.int .i64 0)] w fun t22 w =>
 pv (ex t22 0) fun t23 =>
 pv (ex t22 1) fun t24 =>
 al #[(.int .i64 0), (.int .u64 0), (.int .i64 0), (.int .i64 0), (.int .i64 0), (.int .i64 0), (.int .i64 0), (.int .i64 0), (.int .i64 0)] 33 w fun t25 w =>
 sa 9 t25 t23 w fun _ w =>
 fc 11 #[(.pointer none), (.int .u64 0)] w fun t26 w =>
 pv (ex t26 0) fun t27 =>
 pv (ex t26 1) fun t28 =>
 al #[(.int .i64 0), (.int .u64 0), (.int .i64 0), (.int .i64 0), (.int .i64 0), (.int .i64 0), (.int .i64 0), (.int .i64 0), (.int .i64 0)] 33 w fun t29 w =>
 sa 9 t29 t27 w fun _ w =>
 fc 6 #[] w fun t30 w =>
 gq t30 true (pv (mv t24)) fun t31 =>
 gq t30 true (pv (un .not t31)) fun t32 =>
 pv (pk t30 t32 (.bool false)) fun t33 =>
 gq t33 true (pv (mv t28)) fun t34 =>
 gq t33 true (pv (un .not t34)) fun t35 =>
 pv (pk t33 t35 (.bool false)) fun t36 =>
 gq t36 true (pv (mv (.pointer none))) fun t37 =>
 ge t36 true (fc 12 #[t37, (.int .i64 0)] w) w fun t38 w =>
 gq t36 true (pv (be .eql 45 true t38 (.int .i64 1))) fun t39 =>
 pv (pk t36 t39 (.bool false)) fun t40 =>
 gq t40 true (pv (mv (.pointer none))) fun t41 =>
 ge t40 true (fc 13 #[t41, (.int .i64 0)] w) w fun t42 w =>
 gq t40 true (pv (be .eql 45 true t42 (.int .i64 1))) fun t43 =>
 pv (pk t40 t43 (.bool false)) fun t44 =>
 gq t44 true (pv (mv (.pointer none))) fun t45 =>
 ge t44 true (fc 14 #[t45, (.slice none 0 0)] w) w fun t46 w =>
 gq t44 true (pv (be .eql 45 true t46 (.int .i64 1))) fun t47 =>
 pv (pk t44 t47 (.bool false)) fun t48 =>
 gq t48 true (pv (mv (.pointer none))) fun t49 =>
 ge t48 true (fc 15 #[t49, (.int .i64 0)] w) w fun t50 w =>
 gq t48 true (pv (un .not t50)) fun t51 =>
 pv (pk t48 t51 (.bool false)) fun t52 =>
 gq t52 true (pv (mv (.pointer none))) fun t53 =>
 ge t52 true (fc 16 #[t53] w) w fun t54 w =>
 gq t52 true (ln 1 t54 w) fun t55 =>
 gq t52 true (pv (mv (.pointer none))) fun t56 =>
 ge t52 true (fc 17 #[t56] w) w fun t57 w =>
 gq t52 true (ln 1 t57 w) fun t58 =>
 gq t52 true (pv (bn .add 3 t55 t58)) fun t59 =>
 gq t52 true (pv (mv (.pointer none))) fun t60 =>
 ge t52 true (fc 18 #[t60, (.int .i64 0), (.int .i64 0)] w) w fun t61 w =>
 gq t52 true (ln 1 t61 w) fun t62 =>
 gq t52 true (pv (bn .add 3 t59 t62)) fun t63 =>
 gq t52 true (pv (be .eql 3 true t63 (.int .i64 0))) fun t64 =>
 pv (pk t52 t64 (.bool false)) fun t65 =>
 K t65 w))
 [(.int .i64 0)] w)
set_option maxRecDepth 100000 in
theorem rutterlaw10_StorePlays.sound {a0 a1 a2 : Value} {w : World} {K : Value → World → Prop} (h : rutterlaw10_StorePlays.sh a0 a1 a2 w K) : Calls Try.prog 3 #[a0, a1, a2] w (retP K) :=
  calls_of_sem mixed Try.func3 (by kernel_rfl) (phL := fun n => bif Nat.beq n 7 then [10] else []) (phJ := fun _ => none) (args := [a0, a1, a2]) (by kernel_rfl) (cast (by kernel_rfl) h)

-- rutter/rutterlaw10.StoreWhole
abbrev rutterlaw10_StoreWhole.id : Nat := 4
set_option maxRecDepth 100000 in
def rutterlaw10_StoreWhole.sh (a0 : Value) (w : World) (K : Value → World → Prop) : Prop :=
 fc 5 #[a0] w fun t1 w =>
 pv (un .not t1) fun t2 =>
 cnd t2 (
 fc 6 #[] w fun t3 w =>
 K t3 w) (
 fc 7 #[] w fun t4 w =>
 LoopS (fun s5 w k6 => ∀ _ : List Value,
 ln 1 a0 w fun t7 =>
 pv (bn .lss 3 (nth s5 0) t7) fun t8 =>
 cnd t8 (
 fc 17 #[t4] w fun t9 w =>
 fc 16 #[t4] w fun t10 w =>
 JoinS (fun k11 =>
 iz 3 a0 (nth s5 0) fun t13 =>
 fx t13 0 fun t14 =>
 l1 t14 w fun t15 =>
 pv (bn .rem 5 t15 (.int .u8 8)) fun t16 =>
 pv (bn .lss 5 t16 (.int .u8 2)) fun t17 =>
 cnd t17 (
 iz 3 a0 (nth s5 0) fun t18 =>
 fx t18 1 fun t19 =>
 l1 t19 w fun t20 =>
 fc 12 #[t4, t20] w fun t21 w =>
 k11 [t21] w) (
 iz 3 a0 (nth s5 0) fun t22 =>
 fx t22 0 fun t23 =>
 l1 t23 w fun t24 =>
 pv (bn .rem 5 t24 (.int .u8 8)) fun t25 =>
 pv (be .eql 5 true t25 (.int .u8 2)) fun t26 =>
 cnd t26 (
 iz 3 a0 (nth s5 0) fun t27 =>
 fx t27 1 fun t28 =>
 l1 t28 w fun t29 =>
 fc 13 #[t4, t29] w fun t30 w =>
 k11 [t30] w) (
 iz 3 a0 (nth s5 0) fun t31 =>
 fx t31 2 fun t32 =>
 l1 t32 w fun t33 =>
 fc 14 #[t4, t33] w fun t34 w =>
 k11 [t34] w)))
 (fun s12 w => ∀ _ : List Value,
 fc 17 #[t4] w fun t35 w =>
 fc 19 #[t35, t9] w fun t36 w =>
 fc 16 #[t4] w fun t37 w =>
 fc 20 #[t37, t10] w fun t38 w =>
 fc 21 #[t4] w fun t39 w =>
 pv (un .not t39) fun t40 =>
 gq t40 false (pv (mv (nth s12 0))) fun t41 =>
 gq t40 false (pv (be .neq 45 true t41 (.int .i64 0))) fun t42 =>
 gq t40 false (pv (mv t42)) fun t43 =>
 gq t43 true (pv (mv t36)) fun t44 =>
 gq t43 true (pv (un .not t44)) fun t45 =>
 gq t43 true (pv (mv t45)) fun t46 =>
 gq t46 false (pv (mv t38)) fun t47 =>
 gq t46 false (pv (un .not t47)) fun t48 =>
 gq t43 true (pv (pk t46 (.bool true) t48)) fun t49 =>
 gq t40 false (pv (pk t43 t49 (.bool false))) fun t50 =>
 pv (pk t40 (.bool true) t50) fun t51 =>
 cnd t51 (
 K (.bool false) w) (
 LoopS (fun s52 w k53 => ∀ _ : List Value,
 ln 1 t9 w fun t54 =>
 pv (bn .lss 3 (nth s52 0) t54) fun t55 =>
 cnd t55 (
 iz 9 t9 (nth s52 0) fun t56 =>
 fx t56 0 fun t57 =>
 l1 t57 w fun t58 =>
 fc 10 #[t4, t58] w fun t59 w =>
 pv (ex t59 0) fun t60 =>
 pv (ex t59 1) fun t61 =>
 al #[(.int .i64 0), (.int .u64 0), (.int .i64 0), (.int .i64 0), (.int .i64 0), (.int .i64 0), (.int .i64 0), (.int .i64 0), (.int .i64 0)] 33 w fun t62 w =>
 sa 9 t62 t60 w fun _ w =>
 (fun w : World =>
 pv (un .not t61) fun t63 =>
 gq t63 false (fx t62 7) fun t64 =>
 gq t63 false (l1 t64 w) fun t65 =>
 gq t63 false (pv (mv t9)) fun t66 =>
 gq t63 false (pv (mv (nth s52 0))) fun t67 =>
 gq t63 false (iz 9 t66 t67) fun t68 =>
 gq t63 false (fx t68 7) fun t69 =>
 gq t63 false (l1 t69 w) fun t70 =>
 gq t63 false (pv (bn .lss 3 t65 t70)) fun t71 =>
 pv (pk t63 (.bool true) t71) fun t72 =>
 cnd t72 (
 K (.bool false) w) (
 pv (bn .add 3 (nth s52 0) (.int .i64 1)) fun t73 =>
 k53 [t73] w)) w.drew) (
 pv (bn .add 3 (nth s5 0) (.int .i64 1)) fun t74 =>
 k6 [t74] w))
 [(.int .i64 0)] w))) (
 fc 6 #[] w fun t75 w =>
 K t75 w))
 [(.int .i64 0)] w)
set_option maxRecDepth 100000 in
theorem rutterlaw10_StoreWhole.sound {a0 : Value} {w : World} {K : Value → World → Prop} (h : rutterlaw10_StoreWhole.sh a0 w K) : Calls Try.prog 4 #[a0] w (retP K) :=
  calls_of_sem mixed Try.func4 (by kernel_rfl) (phL := fun n => bif Nat.beq n 22 then [12] else bif Nat.beq n 6 then [5] else []) (phJ := fun n => bif Nat.beq n 16 then some [8] else none) (args := [a0]) (by kernel_rfl) (cast (by kernel_rfl) h)

-- rutter/rutterlaw10.Fits
abbrev rutterlaw10_Fits.id : Nat := 5
set_option maxRecDepth 100000 in
def rutterlaw10_Fits.sh (a0 : Value) (w : World) (K : Value → World → Prop) : Prop :=
 LoopS (fun s1 w k2 => ∀ _ : List Value,
 ln 1 a0 w fun t3 =>
 pv (bn .lss 3 (nth s1 1) t3) fun t4 =>
 gq t4 true (pv (mv (nth s1 1))) fun t5 =>
 gq t4 true (pv (bn .leq 3 t5 (.int .i64 60))) fun t6 =>
 pv (pk t4 t6 (.bool false)) fun t7 =>
 cnd t7 (
 iz 3 a0 (nth s1 1) fun t8 =>
 fx t8 2 fun t9 =>
 l1 t9 w fun t10 =>
 ln 1 t10 w fun t11 =>
 wv (bi .min #[3, 3] 3 #[false, true] #[t11, (.int .i64 61)]) w fun t12 =>
 pv (bn .add 3 (nth s1 0) t12) fun t13 =>
 pv (bn .add 3 (nth s1 1) (.int .i64 1)) fun t14 =>
 k2 [t13, t14] w) (
 ln 1 a0 w fun t15 =>
 pv (bn .leq 3 t15 (.int .i64 60)) fun t16 =>
 gq t16 true (pv (mv (nth s1 0))) fun t17 =>
 gq t16 true (pv (bn .leq 3 t17 (.int .i64 60))) fun t18 =>
 pv (pk t16 t18 (.bool false)) fun t19 =>
 K t19 w))
 [(.int .i64 0), (.int .i64 0)] w
set_option maxRecDepth 100000 in
theorem rutterlaw10_Fits.sound {a0 : Value} {w : World} {K : Value → World → Prop} (h : rutterlaw10_Fits.sh a0 w K) : Calls Try.prog 5 #[a0] w (retP K) :=
  calls_of_sem mixed Try.func5 (by kernel_rfl) (phL := fun n => bif Nat.beq n 3 then [3, 4] else []) (phJ := fun _ => none) (args := [a0]) (by kernel_rfl) (cast (by kernel_rfl) h)

-- rutter/rutterlaw10.alive
abbrev rutterlaw10_alive.id : Nat := 6
set_option maxRecDepth 100000 in
def rutterlaw10_alive.sh (w : World) (K : Value → World → Prop) : Prop :=
 fc 7 #[] w fun t1 w =>
 fc 12 #[t1, (.int .i64 1)] w fun t2 w =>
 fc 12 #[t1, (.int .i64 1)] w fun t3 w =>
 pv (bd 33 #[(0, (.int .i64 4)), (1, (.int .u64 7)), (2, (.int .i64 1)), (3, (.int .i64 (-1))), (4, (.int .i64 (-1))), (5, (.int .i64 1)), (7, (.int .i64 1))]) fun t4 =>
 al #[(.int .i64 0), (.int .u64 0), (.int .i64 0), (.int .i64 0), (.int .i64 0), (.int .i64 0), (.int .i64 0), (.int .i64 0), (.int .i64 0)] 33 w fun t5 w =>
 sa 9 t5 t4 w fun _ w =>
 la 9 t5 w fun t6 =>
 pv (bd 59 #[(0, t6)]) fun t7 =>
 o (bs 38 1 #[(0, t7)]) w fun t8 w =>
 fc 14 #[t1, t8] w fun t9 w =>
 la 9 t5 w fun t10 =>
 pv (bd 59 #[(0, t10)]) fun t11 =>
 o (bs 38 1 #[(0, t11)]) w fun t12 w =>
 fc 14 #[t1, t12] w fun t13 w =>
 fc 13 #[t1, (.int .i64 1)] w fun t14 w =>
 fc 11 #[t1, (.int .u64 7)] w fun t15 w =>
 pv (ex t15 0) fun t16 =>
 pv (ex t15 1) fun t17 =>
 al #[(.int .i64 0), (.int .u64 0), (.int .i64 0), (.int .i64 0), (.int .i64 0), (.int .i64 0), (.int .i64 0), (.int .i64 0), (.int .i64 0)] 33 w fun t18 w =>
 sa 9 t18 t16 w fun _ w =>
 (fun w : World =>
 pv (be .eql 45 true t2 (.int .i64 0)) fun t19 =>
 gq t19 true (pv (mv t3)) fun t20 =>
 gq t19 true (pv (be .eql 45 true t20 (.int .i64 5))) fun t21 =>
 pv (pk t19 t21 (.bool false)) fun t22 =>
 gq t22 true (pv (mv t9)) fun t23 =>
 gq t22 true (pv (be .eql 45 true t23 (.int .i64 0))) fun t24 =>
 pv (pk t22 t24 (.bool false)) fun t25 =>
 gq t25 true (pv (mv t13)) fun t26 =>
 gq t25 true (pv (be .eql 45 true t26 (.int .i64 7))) fun t27 =>
 pv (pk t25 t27 (.bool false)) fun t28 =>
 gq t28 true (pv (mv t14)) fun t29 =>
 gq t28 true (pv (be .eql 45 true t29 (.int .i64 11))) fun t30 =>
 pv (pk t28 t30 (.bool false)) fun t31 =>
 gq t31 true (pv (mv t17)) fun t32 =>
 pv (pk t31 t32 (.bool false)) fun t33 =>
 gq t33 true (la 9 t18 w) fun t34 =>
 gq t33 true (la 9 t5 w) fun t35 =>
 gq t33 true (pv (be .eql 33 false t34 t35)) fun t36 =>
 pv (pk t33 t36 (.bool false)) fun t37 =>
 gq t37 true (pv (mv t1)) fun t38 =>
 gq t37 true (la 9 t5 w) fun t39 =>
 (ge t37 true (fc 17 #[t38] w) w fun t40 w =>
 rk (gq t37 true (la 9 t5 w)) t39 <|
 ge t37 true (o (bs 51 1 #[(0, t39)]) w) w fun t41 w =>
 ge t37 true (fc 19 #[t40, t41] w) w fun t42 w =>
 pv (pk t37 t42 (.bool false)) fun t43 =>
 gq t43 true (pv (mv t1)) fun t44 =>
 ge t43 true (fc 15 #[t44, (.int .i64 1)] w) w fun t45 w =>
 pv (pk t43 t45 (.bool false)) fun t46 =>
 gq t46 true (pv (mv t1)) fun t47 =>
 ge t46 true (fc 15 #[t47, (.int .i64 2)] w) w fun t48 w =>
 gq t46 true (pv (un .not t48)) fun t49 =>
 pv (pk t46 t49 (.bool false)) fun t50 =>
 gq t50 true (pv (mv t1)) fun t51 =>
 ge t50 true (fc 18 #[t51, (.int .i64 99), (.int .i64 0)] w) w fun t52 w =>
 gq t50 true (ln 1 t52 w) fun t53 =>
 gq t50 true (pv (be .eql 3 true t53 (.int .i64 0))) fun t54 =>
 pv (pk t50 t54 (.bool false)) fun t55 =>
 K t55 w) ∧ (ge t37 true (o (bs 51 1 #[(0, t39)]) w) w fun t56 w =>
 ge t37 true (fc 17 #[t38] w) w fun t57 w =>
 ge t37 true (fc 19 #[t57, t56] w) w fun t58 w =>
 pv (pk t37 t58 (.bool false)) fun t59 =>
 gq t59 true (pv (mv t1)) fun t60 =>
 ge t59 true (fc 15 #[t60, (.int .i64 1)] w) w fun t61 w =>
 pv (pk t59 t61 (.bool false)) fun t62 =>
 gq t62 true (pv (mv t1)) fun t63 =>
 ge t62 true (fc 15 #[t63, (.int .i64 2)] w) w fun t64 w =>
 gq t62 true (pv (un .not t64)) fun t65 =>
 pv (pk t62 t65 (.bool false)) fun t66 =>
 gq t66 true (pv (mv t1)) fun t67 =>
 ge t66 true (fc 18 #[t67, (.int .i64 99), (.int .i64 0)] w) w fun t68 w =>
 gq t66 true (ln 1 t68 w) fun t69 =>
 gq t66 true (pv (be .eql 3 true t69 (.int .i64 0))) fun t70 =>
 pv (pk t66 t70 (.bool false)) fun t71 =>
 K t71 w)) w.drew
set_option maxRecDepth 100000 in
theorem rutterlaw10_alive.sound {w : World} {K : Value → World → Prop} (h : rutterlaw10_alive.sh w K) : Calls Try.prog 6 #[] w (retP K) :=
  calls_of_sem mixed Try.func6 (by kernel_rfl) (phL := fun _ => []) (phJ := fun _ => none) (args := []) (by kernel_rfl) (cast (by kernel_rfl) h)

-- rutter/store.New
abbrev store_New.id : Nat := 7
set_option maxRecDepth 100000 in
def store_New.sh (w : World) (K : Value → World → Prop) : Prop :=
 o (mm 60 none) w fun t1 w =>
 o (mm 61 none) w fun t2 w =>
 pv (bd 63 #[(0, t1), (1, t2)]) fun t3 =>
 bx 63 t3 w fun t4 w =>
 K t4 w
set_option maxRecDepth 100000 in
theorem store_New.sound {w : World} {K : Value → World → Prop} (h : store_New.sh w K) : Calls Try.prog 7 #[] w (retP K) :=
  calls_of_sem mixed Try.func7 (by kernel_rfl) (phL := fun _ => []) (phJ := fun _ => none) (args := []) (by kernel_rfl) (cast (by kernel_rfl) h)

-- rutter/rutterlaw10.step
abbrev rutterlaw10_step.id : Nat := 8
set_option maxRecDepth 100000 in
def rutterlaw10_step.sh (a0 a1 a2 : Value) (w : World) (K : Value → World → Prop) : Prop :=
 bx 40 a2 w fun t1 w =>
 fx t1 0 fun t2 =>
 l1 t2 w fun t3 =>
 pv (bn .rem 5 t3 (.int .u8 8)) fun t4 =>
 pv (bn .lss 5 t4 (.int .u8 2)) fun t5 =>
 cnd t5 (
 fx t1 1 fun t6 =>
 l1 t6 w fun t7 =>
 fc 12 #[a0, t7] w fun t8 w =>
 fx t1 1 fun t9 =>
 l1 t9 w fun t10 =>
 fc 22 #[a1, t10] w fun t11 w =>
 pv (be .eql 45 false t8 t11) fun t12 =>
 K t12 w) (
 fx t1 0 fun t13 =>
 l1 t13 w fun t14 =>
 pv (bn .rem 5 t14 (.int .u8 8)) fun t15 =>
 pv (be .eql 5 true t15 (.int .u8 2)) fun t16 =>
 cnd t16 (
 fx t1 1 fun t17 =>
 l1 t17 w fun t18 =>
 fc 13 #[a0, t18] w fun t19 w =>
 fx t1 1 fun t20 =>
 l1 t20 w fun t21 =>
 fc 23 #[a1, t21] w fun t22 w =>
 pv (be .eql 45 false t19 t22) fun t23 =>
 K t23 w) (
 fx t1 2 fun t24 =>
 l1 t24 w fun t25 =>
 fc 14 #[a0, t25] w fun t26 w =>
 fx t1 2 fun t27 =>
 l1 t27 w fun t28 =>
 fc 25 #[t28] w fun t29 w =>
 fc 24 #[a1, t29] w fun t30 w =>
 pv (be .eql 45 false t26 t30) fun t31 =>
 K t31 w))
set_option maxRecDepth 100000 in
theorem rutterlaw10_step.sound {a0 a1 a2 : Value} {w : World} {K : Value → World → Prop} (h : rutterlaw10_step.sh a0 a1 a2 w K) : Calls Try.prog 8 #[a0, a1, a2] w (retP K) :=
  calls_of_sem mixed Try.func8 (by kernel_rfl) (phL := fun _ => []) (phJ := fun _ => none) (args := [a0, a1, a2]) (by kernel_rfl) (cast (by kernel_rfl) h)

-- rutter/rutterlaw10.same
abbrev rutterlaw10_same.id : Nat := 9
set_option maxRecDepth 100000 in
def rutterlaw10_same.sh (a0 a1 a2 a3 : Value) (w : World) (K : Value → World → Prop) : Prop :=
 bx 23 a2 w fun t1 w =>
 fc 17 #[a0] w fun t2 w =>
 fc 26 #[a1] w fun t3 w =>
 fc 19 #[t2, t3] w fun t4 w =>
 fc 16 #[a0] w fun t5 w =>
 fc 27 #[a1] w fun t6 w =>
 fc 20 #[t5, t6] w fun t7 w =>
 ja 2 1 t1 (.int .i64 0) fun t8 =>
 l1 t8 w fun t9 =>
 fc 10 #[a0, t9] w fun t10 w =>
 pv (ex t10 0) fun t11 =>
 pv (ex t10 1) fun t12 =>
 al #[(.int .i64 0), (.int .u64 0), (.int .i64 0), (.int .i64 0), (.int .i64 0), (.int .i64 0), (.int .i64 0), (.int .i64 0), (.int .i64 0)] 33 w fun t13 w =>
 sa 9 t13 t11 w fun _ w =>
 ja 2 1 t1 (.int .i64 0) fun t14 =>
 l1 t14 w fun t15 =>
 fc 28 #[a1, t15] w fun t16 w =>
 pv (ex t16 0) fun t17 =>
 pv (ex t16 1) fun t18 =>
 al #[(.int .i64 0), (.int .u64 0), (.int .i64 0), (.int .i64 0), (.int .i64 0), (.int .i64 0), (.int .i64 0), (.int .i64 0), (.int .i64 0)] 33 w fun t19 w =>
 sa 9 t19 t17 w fun _ w =>
 fc 11 #[a0, a3] w fun t20 w =>
 pv (ex t20 0) fun t21 =>
 pv (ex t20 1) fun t22 =>
 al #[(.int .i64 0), (.int .u64 0), (.int .i64 0), (.int .i64 0), (.int .i64 0), (.int .i64 0), (.int .i64 0), (.int .i64 0), (.int .i64 0)] 33 w fun t23 w =>
 sa 9 t23 t21 w fun _ w =>
 fc 29 #[a1, a3] w fun t24 w =>
 pv (ex t24 0) fun t25 =>
 pv (ex t24 1) fun t26 =>
 al #[(.int .i64 0), (.int .u64 0), (.int .i64 0), (.int .i64 0), (.int .i64 0), (.int .i64 0), (.int .i64 0), (.int .i64 0), (.int .i64 0)] 33 w fun t27 w =>
 sa 9 t27 t25 w fun _ w =>
 (fun w : World =>
 pv (un .not t4) fun t28 =>
 gq t28 false (pv (mv t7)) fun t29 =>
 gq t28 false (pv (un .not t29)) fun t30 =>
 pv (pk t28 (.bool true) t30) fun t31 =>
 gq t31 false (la 9 t13 w) fun t32 =>
 gq t31 false (la 9 t19 w) fun t33 =>
 gq t31 false (pv (be .neq 33 false t32 t33)) fun t34 =>
 pv (pk t31 (.bool true) t34) fun t35 =>
 gq t35 false (pv (mv t12)) fun t36 =>
 gq t35 false (pv (mv t18)) fun t37 =>
 gq t35 false (pv (be .neq 4 false t36 t37)) fun t38 =>
 pv (pk t35 (.bool true) t38) fun t39 =>
 gq t39 false (la 9 t23 w) fun t40 =>
 gq t39 false (la 9 t27 w) fun t41 =>
 gq t39 false (pv (be .neq 33 false t40 t41)) fun t42 =>
 pv (pk t39 (.bool true) t42) fun t43 =>
 gq t43 false (pv (mv t22)) fun t44 =>
 gq t43 false (pv (mv t26)) fun t45 =>
 gq t43 false (pv (be .neq 4 false t44 t45)) fun t46 =>
 pv (pk t43 (.bool true) t46) fun t47 =>
 gq t47 false (pv (mv a0)) fun t48 =>
 gq t47 false (ja 2 1 t1 (.int .i64 0)) fun t49 =>
 gq t47 false (l1 t49 w) fun t50 =>
 gq t47 false (pv (mv a1)) fun t51 =>
 gq t47 false (ja 2 1 t1 (.int .i64 0)) fun t52 =>
 gq t47 false (l1 t52 w) fun t53 =>
 ge t47 false (fc 15 #[t48, t50] w) w fun t54 w =>
 rk (gq t47 false (l1 t52 w)) t53 <|
 ge t47 false (fc 30 #[t51, t53] w) w fun t55 w =>
 gq t47 false (pv (be .neq 4 false t54 t55)) fun t56 =>
 pv (pk t47 (.bool true) t56) fun t57 =>
 cnd t57 (
 K (.bool false) w) (
 ja 2 1 t1 (.int .i64 1) fun t58 =>
 l1 t58 w fun t59 =>
 ja 2 1 t1 (.int .i64 0) fun t60 =>
 l1 t60 w fun t61 =>
 fc 18 #[a0, t59, t61] w fun t62 w =>
 fc 25 #[t62] w fun t63 w =>
 ja 2 1 t1 (.int .i64 1) fun t64 =>
 l1 t64 w fun t65 =>
 ja 2 1 t1 (.int .i64 0) fun t66 =>
 l1 t66 w fun t67 =>
 fc 31 #[a1, t65, t67] w fun t68 w =>
 LoopS (fun s69 w k70 => ∀ _ : List Value,
 ln 1 t63 w fun t71 =>
 pv (bn .lss 3 (nth s69 0) t71) fun t72 =>
 gq t72 true (pv (mv (nth s69 0))) fun t73 =>
 gq t72 true (pv (mv t68)) fun t74 =>
 gq t72 true (ln 1 t74 w) fun t75 =>
 gq t72 true (pv (bn .lss 3 t73 t75)) fun t76 =>
 pv (pk t72 t76 (.bool false)) fun t77 =>
 cnd t77 (
 (fun w : World =>
 iz 10 t63 (nth s69 0) fun t78 =>
 la 10 t78 w fun t79 =>
 iz 10 t68 (nth s69 0) fun t80 =>
 la 10 t80 w fun t81 =>
 pv (be .neq 68 false t79 t81) fun t82 =>
 cnd t82 (
 K (.bool false) w) (
 pv (bn .add 3 (nth s69 0) (.int .i64 1)) fun t83 =>
 k70 [t83] w)) w.drew) (
 ln 1 t63 w fun t84 =>
 ln 1 t68 w fun t85 =>
 pv (be .eql 3 false t84 t85) fun t86 =>
 K t86 w))
 [(.int .i64 0)] w)) w.drew
set_option maxRecDepth 100000 in
theorem rutterlaw10_same.sound {a0 a1 a2 a3 : Value} {w : World} {K : Value → World → Prop} (h : rutterlaw10_same.sh a0 a1 a2 a3 w K) : Calls Try.prog 9 #[a0, a1, a2, a3] w (retP K) :=
  calls_of_sem mixed Try.func9 (by kernel_rfl) (phL := fun n => bif Nat.beq n 12 then [21] else []) (phJ := fun _ => none) (args := [a0, a1, a2, a3]) (by kernel_rfl) (cast (by kernel_rfl) h)

-- (*rutter/store.Store).Row
abbrev store_Store_Row.id : Nat := 10
set_option maxRecDepth 100000 in
def store_Store_Row.sh (a0 a1 : Value) (w : World) (K : Value → World → Prop) : Prop :=
 al #[(.int .i64 0), (.int .u64 0), (.int .i64 0), (.int .i64 0), (.int .i64 0), (.int .i64 0), (.int .i64 0), (.int .i64 0), (.int .i64 0)] 33 w fun t1 w =>
 pv (be .eql 27 true a0 (.pointer none)) fun t2 =>
 cnd t2 (
 pv (bd 33 #[]) fun t3 =>
 sa 9 t1 t3 w fun _ w =>
 la 9 t1 w fun t4 =>
 K (.tuple #[t4, (.bool false)]) w) (
 pv (nc a0) fun t5 =>
 fx t5 1 fun t6 =>
 l1 t6 w fun t7 =>
 wv (lk 61 t7 a1 true) w fun t8 =>
 pv (ex t8 0) fun t9 =>
 pv (ex t8 1) fun t10 =>
 al #[(.int .i64 0), (.int .u64 0), (.int .i64 0), (.int .i64 0), (.int .i64 0), (.int .i64 0), (.int .i64 0), (.int .i64 0), (.int .i64 0)] 33 w fun t11 w =>
 sa 9 t11 t9 w fun _ w =>
 la 9 t11 w fun t12 =>
 sa 9 t1 t12 w fun _ w =>
 la 9 t1 w fun t13 =>
 K (.tuple #[t13, t10]) w)
set_option maxRecDepth 100000 in
theorem store_Store_Row.sound {a0 a1 : Value} {w : World} {K : Value → World → Prop} (h : store_Store_Row.sh a0 a1 w K) : Calls Try.prog 10 #[a0, a1] w (retP K) :=
  calls_of_sem mixed Try.func10 (by kernel_rfl) (phL := fun _ => []) (phJ := fun _ => none) (args := [a0, a1]) (by kernel_rfl) (cast (by kernel_rfl) h)

-- (*rutter/store.Store).Find
abbrev store_Store_Find.id : Nat := 11
set_option maxRecDepth 100000 in
def store_Store_Find.sh (a0 a1 : Value) (w : World) (K : Value → World → Prop) : Prop :=
 al #[(.int .i64 0), (.int .u64 0), (.int .i64 0), (.int .i64 0), (.int .i64 0), (.int .i64 0), (.int .i64 0), (.int .i64 0), (.int .i64 0)] 33 w fun t1 w =>
 fc 17 #[a0] w fun t2 w =>
 ln 1 t2 w fun t3 =>
 LoopS (fun s4 w k5 => ∀ _ : List Value,
 pv (bn .lss 3 (nth s4 0) t3) fun t6 =>
 cnd t6 (
 iz 9 t2 (nth s4 0) fun t7 =>
 la 9 t7 w fun t8 =>
 al #[(.int .i64 0), (.int .u64 0), (.int .i64 0), (.int .i64 0), (.int .i64 0), (.int .i64 0), (.int .i64 0), (.int .i64 0), (.int .i64 0)] 33 w fun t9 w =>
 sa 9 t9 t8 w fun _ w =>
 fx t9 6 fun t10 =>
 l1 t10 w fun t11 =>
 pv (be .neq 31 true t11 (.int .i64 3)) fun t12 =>
 gq t12 true (fx t9 1) fun t13 =>
 gq t12 true (l1 t13 w) fun t14 =>
 gq t12 true (pv (mv a1)) fun t15 =>
 gq t12 true (pv (be .eql 24 false t14 t15)) fun t16 =>
 pv (pk t12 t16 (.bool false)) fun t17 =>
 cnd t17 (
 la 9 t9 w fun t18 =>
 sa 9 t1 t18 w fun _ w =>
 la 9 t1 w fun t19 =>
 K (.tuple #[t19, (.bool true)]) w) (
 pv (bn .add 3 (nth s4 0) (.int .i64 1)) fun t20 =>
 k5 [t20] w)) (
 pv (bd 33 #[]) fun t21 =>
 sa 9 t1 t21 w fun _ w =>
 la 9 t1 w fun t22 =>
 K (.tuple #[t22, (.bool false)]) w))
 [(.int .i64 0)] w
set_option maxRecDepth 100000 in
theorem store_Store_Find.sound {a0 a1 : Value} {w : World} {K : Value → World → Prop} (h : store_Store_Find.sh a0 a1 w K) : Calls Try.prog 11 #[a0, a1] w (retP K) :=
  calls_of_sem mixed Try.func11 (by kernel_rfl) (phL := fun n => bif Nat.beq n 2 then [11] else []) (phJ := fun _ => none) (args := [a0, a1]) (by kernel_rfl) (cast (by kernel_rfl) h)

-- (*rutter/store.Store).Add
abbrev store_Store_Add.id : Nat := 12
set_option maxRecDepth 100000 in
def store_Store_Add.sh (a0 a1 : Value) (w : World) (K : Value → World → Prop) : Prop :=
 pv (be .eql 27 true a0 (.pointer none)) fun t1 =>
 gq t1 false (pv (mv a1)) fun t2 =>
 gq t1 false (pv (bn .lss 3 t2 (.int .i64 0))) fun t3 =>
 pv (pk t1 (.bool true) t3) fun t4 =>
 gq t4 false (pv (mv a1)) fun t5 =>
 gq t4 false (pv (bn .geq 3 t5 (.int .i64 16))) fun t6 =>
 pv (pk t4 (.bool true) t6) fun t7 =>
 cnd t7 (
 K (.int .i64 1) w) (
 pv (nc a0) fun t8 =>
 fx t8 0 fun t9 =>
 l1 t9 w fun t10 =>
 wv (lk 60 t10 a1 false) w fun t11 =>
 pv (bn .gtr 3 t11 (.int .i64 0)) fun t12 =>
 cnd t12 (
 K (.int .i64 5) w) (
 pv (nc a0) fun t13 =>
 fx t13 0 fun t14 =>
 l1 t14 w fun t15 =>
 o (mu 60 t15 a1 (.int .i64 1)) w fun _ w =>
 K (.int .i64 0) w))
set_option maxRecDepth 100000 in
theorem store_Store_Add.sound {a0 a1 : Value} {w : World} {K : Value → World → Prop} (h : store_Store_Add.sh a0 a1 w K) : Calls Try.prog 12 #[a0, a1] w (retP K) :=
  calls_of_sem mixed Try.func12 (by kernel_rfl) (phL := fun _ => []) (phJ := fun _ => none) (args := [a0, a1]) (by kernel_rfl) (cast (by kernel_rfl) h)

-- (*rutter/store.Store).Remove
abbrev store_Store_Remove.id : Nat := 13
set_option maxRecDepth 100000 in
def store_Store_Remove.sh (a0 a1 : Value) (w : World) (K : Value → World → Prop) : Prop :=
 pv (be .eql 27 true a0 (.pointer none)) fun t1 =>
 cnd t1 (
 K (.int .i64 1) w) (
 pv (nc a0) fun t2 =>
 fx t2 0 fun t3 =>
 l1 t3 w fun t4 =>
 wv (lk 60 t4 a1 false) w fun t5 =>
 pv (be .eql 3 true t5 (.int .i64 0)) fun t6 =>
 cnd t6 (
 K (.int .i64 4) w) (
 pv (nc a0) fun t7 =>
 fx t7 1 fun t8 =>
 l1 t8 w fun t9 =>
 o (rg 61 t9) w fun t10 w =>
 LoopS (fun _ w k12 => ∀ _ : List Value,
 o (nx t10 false 0) w fun t13 w =>
 pv (ex t13 0) fun t14 =>
 cnd t14 (
 o (en t10) w fun t15 w =>
 pv (ex t15 1) fun t16 =>
 al #[(.int .i64 0), (.int .u64 0), (.int .i64 0), (.int .i64 0), (.int .i64 0), (.int .i64 0), (.int .i64 0), (.int .i64 0), (.int .i64 0)] 33 w fun t17 w =>
 sa 9 t17 t16 w fun _ w =>
 la 9 t17 w fun t18 =>
 fc 33 #[t18] w fun t19 w =>
 fc 32 #[t19, a1] w fun t20 w =>
 cnd t20 (
 K (.int .i64 11) w) (
 k12 [] w)) (
 pv (nc a0) fun t21 =>
 fx t21 0 fun t22 =>
 l1 t22 w fun t23 =>
 o (bi .delete #[60, 3] 0 #[false, false] #[t23, a1]) w fun _ w =>
 K (.int .i64 0) w))
 [] w))
set_option maxRecDepth 100000 in
theorem store_Store_Remove.sound {a0 a1 : Value} {w : World} {K : Value → World → Prop} (h : store_Store_Remove.sh a0 a1 w K) : Calls Try.prog 13 #[a0, a1] w (retP K) :=
  calls_of_sem mixed Try.func13 (by kernel_rfl) (phL := fun n => bif Nat.beq n 6 then [] else []) (phJ := fun _ => none) (args := [a0, a1]) (by kernel_rfl) (cast (by kernel_rfl) h)

-- (*rutter/store.Store).Apply
abbrev store_Store_Apply.id : Nat := 14
set_option maxRecDepth 100000 in
def store_Store_Apply.sh (a0 a1 : Value) (w : World) (K : Value → World → Prop) : Prop :=
 pv (be .eql 27 true a0 (.pointer none)) fun t1 =>
 cnd t1 (
 K (.int .i64 1) w) (
 pv (nc a0) fun t2 =>
 fx t2 1 fun t3 =>
 l1 t3 w fun t4 =>
 fc 34 #[t4] w fun t5 w =>
 ln 1 a1 w fun t6 =>
 LoopS (fun s7 w k8 => ∀ _ : List Value,
 pv (bn .lss 3 (nth s7 0) t6) fun t9 =>
 cnd t9 (
 iz 10 a1 (nth s7 0) fun t10 =>
 la 10 t10 w fun t11 =>
 al #[(.int .i64 0), (.int .u64 0), (.int .i64 0), (.int .i64 0), (.int .i64 0), (.int .i64 0), (.int .i64 0), (.int .i64 0), (.int .i64 0), (.int .i64 0)] 59 w fun t12 w =>
 sa 10 t12 t11 w fun _ w =>
 la 10 t12 w fun t13 =>
 fc 35 #[a0, t5, t13] w fun t14 w =>
 pv (be .neq 45 true t14 (.int .i64 0)) fun t15 =>
 cnd t15 (
 K t14 w) (
 fx t12 0 fun t16 =>
 fx t16 0 fun t17 =>
 l1 t17 w fun t18 =>
 fx t12 0 fun t19 =>
 la 9 t19 w fun t20 =>
 o (mu 61 t5 t18 t20) w fun _ w =>
 pv (bn .add 3 (nth s7 0) (.int .i64 1)) fun t21 =>
 k8 [t21] w)) (
 pv (nc a0) fun t22 =>
 fx t22 1 fun t23 =>
 sw t23 t5 w fun _ w =>
 K (.int .i64 0) w))
 [(.int .i64 0)] w)
set_option maxRecDepth 100000 in
theorem store_Store_Apply.sound {a0 a1 : Value} {w : World} {K : Value → World → Prop} (h : store_Store_Apply.sh a0 a1 w K) : Calls Try.prog 14 #[a0, a1] w (retP K) :=
  calls_of_sem mixed Try.func14 (by kernel_rfl) (phL := fun n => bif Nat.beq n 5 then [18] else []) (phJ := fun _ => none) (args := [a0, a1]) (by kernel_rfl) (cast (by kernel_rfl) h)

-- (*rutter/store.Store).Has
abbrev store_Store_Has.id : Nat := 15
set_option maxRecDepth 100000 in
def store_Store_Has.sh (a0 a1 : Value) (w : World) (K : Value → World → Prop) : Prop :=
 pv (be .neq 27 true a0 (.pointer none)) fun t1 =>
 gq t1 true (pv (mv a0)) fun t2 =>
 gq t1 true (pv (nc t2)) fun t3 =>
 gq t1 true (fx t3 0) fun t4 =>
 gq t1 true (l1 t4 w) fun t5 =>
 gq t1 true (pv (mv a1)) fun t6 =>
 gq t1 true (wv (lk 60 t5 t6 false) w) fun t7 =>
 gq t1 true (pv (bn .gtr 3 t7 (.int .i64 0))) fun t8 =>
 pv (pk t1 t8 (.bool false)) fun t9 =>
 K t9 w
set_option maxRecDepth 100000 in
theorem store_Store_Has.sound {a0 a1 : Value} {w : World} {K : Value → World → Prop} (h : store_Store_Has.sh a0 a1 w K) : Calls Try.prog 15 #[a0, a1] w (retP K) :=
  calls_of_sem mixed Try.func15 (by kernel_rfl) (phL := fun _ => []) (phJ := fun _ => none) (args := [a0, a1]) (by kernel_rfl) (cast (by kernel_rfl) h)

-- (*rutter/store.Store).Chassis
abbrev store_Store_Chassis.id : Nat := 16
set_option maxRecDepth 100000 in
def store_Store_Chassis.sh (a0 : Value) (w : World) (K : Value → World → Prop) : Prop :=
 pv (be .eql 27 true a0 (.pointer none)) fun t1 =>
 cnd t1 (
 K (.slice none 0 0) w) (
 pv (nc a0) fun t2 =>
 fx t2 0 fun t3 =>
 l1 t3 w fun t4 =>
 fc 37 #[t4] w fun t5 w =>
 fc 36 #[t5] w fun t6 w =>
 K t6 w)
set_option maxRecDepth 100000 in
theorem store_Store_Chassis.sound {a0 : Value} {w : World} {K : Value → World → Prop} (h : store_Store_Chassis.sh a0 w K) : Calls Try.prog 16 #[a0] w (retP K) :=
  calls_of_sem mixed Try.func16 (by kernel_rfl) (phL := fun _ => []) (phJ := fun _ => none) (args := [a0]) (by kernel_rfl) (cast (by kernel_rfl) h)

-- (*rutter/store.Store).Rows
abbrev store_Store_Rows.id : Nat := 17
set_option maxRecDepth 100000 in
def store_Store_Rows.sh (a0 : Value) (w : World) (K : Value → World → Prop) : Prop :=
 pv (be .eql 27 true a0 (.pointer none)) fun t1 =>
 cnd t1 (
 K (.slice none 0 0) w) (
 pv (nc a0) fun t2 =>
 fx t2 1 fun t3 =>
 l1 t3 w fun t4 =>
 fc 38 #[t4] w fun t5 w =>
 fc 36 #[t5] w fun t6 w =>
 ln 1 t6 w fun t7 =>
 LoopS (fun s8 w k9 => ∀ _ : List Value,
 pv (bn .lss 3 (nth s8 1) t7) fun t10 =>
 cnd t10 (
 iz 1 t6 (nth s8 1) fun t11 =>
 l1 t11 w fun t12 =>
 pv (nc a0) fun t13 =>
 fx t13 1 fun t14 =>
 l1 t14 w fun t15 =>
 wv (lk 61 t15 t12 false) w fun t16 =>
 o (bs 51 1 #[(0, t16)]) w fun t17 w =>
 o (ap #[51, 51] 51 #[false, false] (nth s8 0) t17) w fun t18 w =>
 pv (bn .add 3 (nth s8 1) (.int .i64 1)) fun t19 =>
 k9 [t18, t19] w) (
 K (nth s8 0) w))
 [(.slice none 0 0), (.int .i64 0)] w)
set_option maxRecDepth 100000 in
theorem store_Store_Rows.sound {a0 : Value} {w : World} {K : Value → World → Prop} (h : store_Store_Rows.sh a0 w K) : Calls Try.prog 17 #[a0] w (retP K) :=
  calls_of_sem mixed Try.func17 (by kernel_rfl) (phL := fun n => bif Nat.beq n 5 then [3, 15] else []) (phJ := fun _ => none) (args := [a0]) (by kernel_rfl) (cast (by kernel_rfl) h)

-- (*rutter/store.Store).Late
abbrev store_Store_Late.id : Nat := 18
set_option maxRecDepth 100000 in
def store_Store_Late.sh (a0 a1 a2 : Value) (w : World) (K : Value → World → Prop) : Prop :=
 fc 17 #[a0] w fun t1 w =>
 ln 1 t1 w fun t2 =>
 LoopS (fun s3 w k4 => ∀ _ : List Value,
 pv (bn .lss 3 (nth s3 1) t2) fun t5 =>
 cnd t5 (
 JoinS (fun k6 =>
 iz 9 t1 (nth s3 1) fun t8 =>
 la 9 t8 w fun t9 =>
 al #[(.int .i64 0), (.int .u64 0), (.int .i64 0), (.int .i64 0), (.int .i64 0), (.int .i64 0), (.int .i64 0), (.int .i64 0), (.int .i64 0)] 33 w fun t10 w =>
 sa 9 t10 t9 w fun _ w =>
 la 9 t10 w fun t11 =>
 fc 39 #[t11, a1, a2] w fun t12 w =>
 pv (ex t12 0) fun t13 =>
 pv (ex t12 1) fun t14 =>
 al #[(.int .i64 0), (.int .u64 0), (.int .i64 0), (.int .i64 0), (.int .i64 0), (.int .i64 0), (.int .i64 0), (.int .i64 0), (.int .i64 0)] 33 w fun t15 w =>
 sa 9 t15 t13 w fun _ w =>
 cnd t14 (
 la 9 t15 w fun t16 =>
 fx t10 7 fun t17 =>
 l1 t17 w fun t18 =>
 pv (bd 59 #[(0, t16), (1, t18)]) fun t19 =>
 o (bs 38 1 #[(0, t19)]) w fun t20 w =>
 o (ap #[38, 38] 38 #[false, false] (nth s3 0) t20) w fun t21 w =>
 k6 [t21] w) (
 k6 [(nth s3 0)] w))
 (fun s7 w => ∀ _ : List Value,
 pv (bn .add 3 (nth s3 1) (.int .i64 1)) fun t22 =>
 k4 [(nth s7 0), t22] w)) (
 K (nth s3 0) w))
 [(.slice none 0 0), (.int .i64 0)] w
set_option maxRecDepth 100000 in
theorem store_Store_Late.sound {a0 a1 a2 : Value} {w : World} {K : Value → World → Prop} (h : store_Store_Late.sh a0 a1 a2 w K) : Calls Try.prog 18 #[a0, a1, a2] w (retP K) :=
  calls_of_sem mixed Try.func18 (by kernel_rfl) (phL := fun n => bif Nat.beq n 3 then [7, 15] else []) (phJ := fun n => bif Nat.beq n 8 then some [7] else none) (args := [a0, a1, a2]) (by kernel_rfl) (cast (by kernel_rfl) h)

-- rutter/rutterref10.Same
abbrev rutterref10_Same.id : Nat := 19
set_option maxRecDepth 100000 in
def rutterref10_Same.sh (a0 a1 : Value) (w : World) (K : Value → World → Prop) : Prop :=
 ln 1 a0 w fun t1 =>
 ln 1 a1 w fun t2 =>
 pv (be .neq 3 false t1 t2) fun t3 =>
 cnd t3 (
 K (.bool false) w) (
 LoopS (fun s4 w k5 => ∀ _ : List Value,
 ln 1 a0 w fun t6 =>
 pv (bn .lss 3 (nth s4 0) t6) fun t7 =>
 cnd t7 (
 (fun w : World =>
 iz 9 a0 (nth s4 0) fun t8 =>
 la 9 t8 w fun t9 =>
 iz 9 a1 (nth s4 0) fun t10 =>
 la 9 t10 w fun t11 =>
 pv (be .neq 33 false t9 t11) fun t12 =>
 cnd t12 (
 K (.bool false) w) (
 pv (bn .add 3 (nth s4 0) (.int .i64 1)) fun t13 =>
 k5 [t13] w)) w.drew) (
 K (.bool true) w))
 [(.int .i64 0)] w)
set_option maxRecDepth 100000 in
theorem rutterref10_Same.sound {a0 a1 : Value} {w : World} {K : Value → World → Prop} (h : rutterref10_Same.sh a0 a1 w K) : Calls Try.prog 19 #[a0, a1] w (retP K) :=
  calls_of_sem mixed Try.func19 (by kernel_rfl) (phL := fun n => bif Nat.beq n 4 then [5] else []) (phJ := fun _ => none) (args := [a0, a1]) (by kernel_rfl) (cast (by kernel_rfl) h)

-- rutter/rutterref10.Ints
abbrev rutterref10_Ints.id : Nat := 20
set_option maxRecDepth 100000 in
def rutterref10_Ints.sh (a0 a1 : Value) (w : World) (K : Value → World → Prop) : Prop :=
 ln 1 a0 w fun t1 =>
 ln 1 a1 w fun t2 =>
 pv (be .neq 3 false t1 t2) fun t3 =>
 cnd t3 (
 K (.bool false) w) (
 LoopS (fun s4 w k5 => ∀ _ : List Value,
 ln 1 a0 w fun t6 =>
 pv (bn .lss 3 (nth s4 0) t6) fun t7 =>
 cnd t7 (
 (fun w : World =>
 iz 1 a0 (nth s4 0) fun t8 =>
 l1 t8 w fun t9 =>
 iz 1 a1 (nth s4 0) fun t10 =>
 l1 t10 w fun t11 =>
 pv (be .neq 3 false t9 t11) fun t12 =>
 cnd t12 (
 K (.bool false) w) (
 pv (bn .add 3 (nth s4 0) (.int .i64 1)) fun t13 =>
 k5 [t13] w)) w.drew) (
 K (.bool true) w))
 [(.int .i64 0)] w)
set_option maxRecDepth 100000 in
theorem rutterref10_Ints.sound {a0 a1 : Value} {w : World} {K : Value → World → Prop} (h : rutterref10_Ints.sh a0 a1 w K) : Calls Try.prog 20 #[a0, a1] w (retP K) :=
  calls_of_sem mixed Try.func20 (by kernel_rfl) (phL := fun n => bif Nat.beq n 4 then [5] else []) (phJ := fun _ => none) (args := [a0, a1]) (by kernel_rfl) (cast (by kernel_rfl) h)

-- rutter/rutterlaw10.sound
abbrev rutterlaw10_sound.id : Nat := 21
set_option maxRecDepth 100000 in
def rutterlaw10_sound.sh (a0 : Value) (w : World) (K : Value → World → Prop) : Prop :=
 fc 17 #[a0] w fun t1 w =>
 LoopS (fun s2 w k3 => ∀ _ : List Value,
 ln 1 t1 w fun t4 =>
 pv (bn .lss 3 (nth s2 0) t4) fun t5 =>
 cnd t5 (
 iz 9 t1 (nth s2 0) fun t6 =>
 la 9 t6 w fun t7 =>
 al #[(.int .i64 0), (.int .u64 0), (.int .i64 0), (.int .i64 0), (.int .i64 0), (.int .i64 0), (.int .i64 0), (.int .i64 0), (.int .i64 0)] 33 w fun t8 w =>
 sa 9 t8 t7 w fun _ w =>
 fx t8 2 fun t9 =>
 l1 t9 w fun t10 =>
 pv (bn .geq 3 t10 (.int .i64 0)) fun t11 =>
 gq t11 true (pv (mv a0)) fun t12 =>
 gq t11 true (fx t8 2) fun t13 =>
 gq t11 true (l1 t13 w) fun t14 =>
 ge t11 true (fc 15 #[t12, t14] w) w fun t15 w =>
 gq t11 true (pv (un .not t15)) fun t16 =>
 pv (pk t11 t16 (.bool false)) fun t17 =>
 gq t17 false (fx t8 3) fun t18 =>
 gq t17 false (l1 t18 w) fun t19 =>
 gq t17 false (pv (bn .geq 3 t19 (.int .i64 0))) fun t20 =>
 gq t17 false (pv (mv t20)) fun t21 =>
 gq t21 true (pv (mv a0)) fun t22 =>
 gq t21 true (fx t8 3) fun t23 =>
 gq t21 true (l1 t23 w) fun t24 =>
 ge t21 true (fc 15 #[t22, t24] w) w fun t25 w =>
 gq t21 true (pv (un .not t25)) fun t26 =>
 gq t17 false (pv (pk t21 t26 (.bool false))) fun t27 =>
 pv (pk t17 (.bool true) t27) fun t28 =>
 gq t28 false (fx t8 4) fun t29 =>
 gq t28 false (l1 t29 w) fun t30 =>
 gq t28 false (pv (bn .geq 3 t30 (.int .i64 0))) fun t31 =>
 gq t28 false (pv (mv t31)) fun t32 =>
 gq t32 true (pv (mv a0)) fun t33 =>
 gq t32 true (fx t8 4) fun t34 =>
 gq t32 true (l1 t34 w) fun t35 =>
 ge t32 true (fc 15 #[t33, t35] w) w fun t36 w =>
 gq t32 true (pv (un .not t36)) fun t37 =>
 gq t28 false (pv (pk t32 t37 (.bool false))) fun t38 =>
 pv (pk t28 (.bool true) t38) fun t39 =>
 cnd t39 (
 K (.bool false) w) (
 LoopS (fun s40 w k41 => ∀ _ : List Value,
 pv (bn .lss 3 (nth s40 0) (nth s2 0)) fun t42 =>
 cnd t42 (
 (fun w : World =>
 fx t8 6 fun t43 =>
 l1 t43 w fun t44 =>
 pv (be .neq 31 true t44 (.int .i64 3)) fun t45 =>
 gq t45 true (pv (mv t1)) fun t46 =>
 gq t45 true (pv (mv (nth s40 0))) fun t47 =>
 gq t45 true (iz 9 t46 t47) fun t48 =>
 gq t45 true (fx t48 6) fun t49 =>
 gq t45 true (l1 t49 w) fun t50 =>
 gq t45 true (pv (be .neq 31 true t50 (.int .i64 3))) fun t51 =>
 pv (pk t45 t51 (.bool false)) fun t52 =>
 gq t52 true (fx t8 1) fun t53 =>
 gq t52 true (l1 t53 w) fun t54 =>
 gq t52 true (pv (mv t1)) fun t55 =>
 gq t52 true (pv (mv (nth s40 0))) fun t56 =>
 gq t52 true (iz 9 t55 t56) fun t57 =>
 gq t52 true (fx t57 1) fun t58 =>
 gq t52 true (l1 t58 w) fun t59 =>
 gq t52 true (pv (be .eql 24 false t54 t59)) fun t60 =>
 pv (pk t52 t60 (.bool false)) fun t61 =>
 gq t61 false (pv (mv t1)) fun t62 =>
 gq t61 false (pv (mv (nth s40 0))) fun t63 =>
 gq t61 false (iz 9 t62 t63) fun t64 =>
 gq t61 false (fx t64 0) fun t65 =>
 gq t61 false (l1 t65 w) fun t66 =>
 gq t61 false (fx t8 0) fun t67 =>
 gq t61 false (l1 t67 w) fun t68 =>
 gq t61 false (pv (bn .geq 3 t66 t68)) fun t69 =>
 pv (pk t61 (.bool true) t69) fun t70 =>
 cnd t70 (
 K (.bool false) w) (
 pv (bn .add 3 (nth s40 0) (.int .i64 1)) fun t71 =>
 k41 [t71] w)) w.drew) (
 pv (bn .add 3 (nth s2 0) (.int .i64 1)) fun t72 =>
 k3 [t72] w))
 [(.int .i64 0)] w)) (
 K (.bool true) w))
 [(.int .i64 0)] w
set_option maxRecDepth 100000 in
theorem rutterlaw10_sound.sound {a0 : Value} {w : World} {K : Value → World → Prop} (h : rutterlaw10_sound.sh a0 w K) : Calls Try.prog 21 #[a0] w (retP K) :=
  calls_of_sem mixed Try.func21 (by kernel_rfl) (phL := fun n => bif Nat.beq n 9 then [6] else bif Nat.beq n 3 then [4] else []) (phJ := fun _ => none) (args := [a0]) (by kernel_rfl) (cast (by kernel_rfl) h)

-- (*rutter/rutterref10.Store).Add
abbrev rutterref10_Store_Add.id : Nat := 22
set_option maxRecDepth 100000 in
def rutterref10_Store_Add.sh (a0 a1 : Value) (w : World) (K : Value → World → Prop) : Prop :=
 pv (bn .lss 3 a1 (.int .i64 0)) fun t1 =>
 gq t1 false (pv (mv a1)) fun t2 =>
 gq t1 false (pv (bn .gtr 3 t2 (.int .i64 15))) fun t3 =>
 pv (pk t1 (.bool true) t3) fun t4 =>
 cnd t4 (
 K (.int .i64 1) w) (
 pv (nc a0) fun t5 =>
 fx t5 0 fun t6 =>
 ja 16 1 t6 a1 fun t7 =>
 l1 t7 w fun t8 =>
 cnd t8 (
 K (.int .i64 5) w) (
 pv (nc a0) fun t9 =>
 fx t9 0 fun t10 =>
 ja 16 1 t10 a1 fun t11 =>
 sw t11 (.bool true) w fun _ w =>
 K (.int .i64 0) w))
set_option maxRecDepth 100000 in
theorem rutterref10_Store_Add.sound {a0 a1 : Value} {w : World} {K : Value → World → Prop} (h : rutterref10_Store_Add.sh a0 a1 w K) : Calls Try.prog 22 #[a0, a1] w (retP K) :=
  calls_of_sem mixed Try.func22 (by kernel_rfl) (phL := fun _ => []) (phJ := fun _ => none) (args := [a0, a1]) (by kernel_rfl) (cast (by kernel_rfl) h)

-- (*rutter/rutterref10.Store).Remove
abbrev rutterref10_Store_Remove.id : Nat := 23
set_option maxRecDepth 100000 in
def rutterref10_Store_Remove.sh (a0 a1 : Value) (w : World) (K : Value → World → Prop) : Prop :=
 fc 30 #[a0, a1] w fun t1 w =>
 pv (un .not t1) fun t2 =>
 cnd t2 (
 K (.int .i64 4) w) (
 LoopS (fun s3 w k4 => ∀ _ : List Value,
 pv (bn .lss 3 (nth s3 0) (.int .i64 32)) fun t5 =>
 cnd t5 (
 pv (nc a0) fun t6 =>
 fx t6 16 fun t7 =>
 ja 32 9 t7 (nth s3 0) fun t8 =>
 la 9 t8 w fun t9 =>
 fc 40 #[t9, a1] w fun t10 w =>
 cnd t10 (
 K (.int .i64 11) w) (
 pv (bn .add 3 (nth s3 0) (.int .i64 1)) fun t11 =>
 k4 [t11] w)) (
 pv (nc a0) fun t12 =>
 fx t12 0 fun t13 =>
 ja 16 1 t13 a1 fun t14 =>
 sw t14 (.bool false) w fun _ w =>
 K (.int .i64 0) w))
 [(.int .i64 0)] w)
set_option maxRecDepth 100000 in
theorem rutterref10_Store_Remove.sound {a0 a1 : Value} {w : World} {K : Value → World → Prop} (h : rutterref10_Store_Remove.sh a0 a1 w K) : Calls Try.prog 23 #[a0, a1] w (retP K) :=
  calls_of_sem mixed Try.func23 (by kernel_rfl) (phL := fun n => bif Nat.beq n 5 then [6] else []) (phJ := fun _ => none) (args := [a0, a1]) (by kernel_rfl) (cast (by kernel_rfl) h)

-- (*rutter/rutterref10.Store).Apply
abbrev rutterref10_Store_Apply.id : Nat := 24
set_option maxRecDepth 100000 in
def rutterref10_Store_Apply.sh (a0 a1 : Value) (w : World) (K : Value → World → Prop) : Prop :=
 (fun w : World =>
 pv (nc a0) fun t1 =>
 fx t1 0 fun t2 =>
 la 16 t2 w fun t3 =>
 pv (nc a0) fun t4 =>
 fx t4 16 fun t5 =>
 la 288 t5 w fun t6 =>
 pv (bd 36 #[(0, t3), (1, t6)]) fun t7 =>
 bx 36 t7 w fun t8 w =>
 LoopS (fun s9 w k10 => ∀ _ : List Value,
 ln 1 a1 w fun t11 =>
 pv (bn .lss 3 (nth s9 0) t11) fun t12 =>
 cnd t12 (
 iz 10 a1 (nth s9 0) fun t13 =>
 la 10 t13 w fun t14 =>
 fc 41 #[t8, t14] w fun t15 w =>
 pv (be .neq 45 true t15 (.int .i64 0)) fun t16 =>
 cnd t16 (
 K t15 w) (
 (fun w : World =>
 iz 10 a1 (nth s9 0) fun t17 =>
 fx t17 0 fun t18 =>
 fx t18 0 fun t19 =>
 l1 t19 w fun t20 =>
 iz 10 a1 (nth s9 0) fun t21 =>
 fx t21 0 fun t22 =>
 la 9 t22 w fun t23 =>
 pv (nc t8) fun t24 =>
 fx t24 16 fun t25 =>
 ja 32 9 t25 t20 fun t26 =>
 sa 9 t26 t23 w fun _ w =>
 pv (bn .add 3 (nth s9 0) (.int .i64 1)) fun t27 =>
 k10 [t27] w) w.drew)) (
 pv (nc t8) fun t28 =>
 fx t28 16 fun t29 =>
 la 288 t29 w fun t30 =>
 pv (nc a0) fun t31 =>
 fx t31 16 fun t32 =>
 sa 288 t32 t30 w fun _ w =>
 K (.int .i64 0) w))
 [(.int .i64 0)] w) w.drew
set_option maxRecDepth 100000 in
theorem rutterref10_Store_Apply.sound {a0 a1 : Value} {w : World} {K : Value → World → Prop} (h : rutterref10_Store_Apply.sh a0 a1 w K) : Calls Try.prog 24 #[a0, a1] w (retP K) :=
  calls_of_sem mixed Try.func24 (by kernel_rfl) (phL := fun n => bif Nat.beq n 3 then [6] else []) (phJ := fun _ => none) (args := [a0, a1]) (by kernel_rfl) (cast (by kernel_rfl) h)

-- rutter/rutterlaw10.of
abbrev rutterlaw10_of.id : Nat := 25
set_option maxRecDepth 100000 in
def rutterlaw10_of.sh (a0 : Value) (w : World) (K : Value → World → Prop) : Prop :=
 LoopS (fun s1 w k2 => ∀ _ : List Value,
 ln 1 a0 w fun t3 =>
 pv (bn .lss 3 (nth s1 1) t3) fun t4 =>
 cnd t4 (
 (fun w : World =>
 iz 10 a0 (nth s1 1) fun t5 =>
 fx t5 0 fun t6 =>
 la 9 t6 w fun t7 =>
 iz 10 a0 (nth s1 1) fun t8 =>
 fx t8 9 fun t9 =>
 l1 t9 w fun t10 =>
 pv (bd 68 #[(0, t7), (1, t10)]) fun t11 =>
 o (bs 65 1 #[(0, t11)]) w fun t12 w =>
 o (ap #[65, 65] 65 #[false, false] (nth s1 0) t12) w fun t13 w =>
 pv (bn .add 3 (nth s1 1) (.int .i64 1)) fun t14 =>
 k2 [t13, t14] w) w.drew) (
 K (nth s1 0) w))
 [(.slice none 0 0), (.int .i64 0)] w
set_option maxRecDepth 100000 in
theorem rutterlaw10_of.sound {a0 : Value} {w : World} {K : Value → World → Prop} (h : rutterlaw10_of.sh a0 w K) : Calls Try.prog 25 #[a0] w (retP K) :=
  calls_of_sem mixed Try.func25 (by kernel_rfl) (phL := fun n => bif Nat.beq n 3 then [3, 4] else []) (phJ := fun _ => none) (args := [a0]) (by kernel_rfl) (cast (by kernel_rfl) h)

-- (*rutter/rutterref10.Store).Rows
abbrev rutterref10_Store_Rows.id : Nat := 26
set_option maxRecDepth 100000 in
def rutterref10_Store_Rows.sh (a0 : Value) (w : World) (K : Value → World → Prop) : Prop :=
 LoopS (fun s1 w k2 => ∀ _ : List Value,
 pv (bn .lss 3 (nth s1 1) (.int .i64 32)) fun t3 =>
 cnd t3 (
 JoinS (fun k4 =>
 pv (nc a0) fun t6 =>
 fx t6 16 fun t7 =>
 ja 32 9 t7 (nth s1 1) fun t8 =>
 fx t8 7 fun t9 =>
 l1 t9 w fun t10 =>
 pv (bn .gtr 3 t10 (.int .i64 0)) fun t11 =>
 cnd t11 (
 pv (nc a0) fun t12 =>
 fx t12 16 fun t13 =>
 ja 32 9 t13 (nth s1 1) fun t14 =>
 la 9 t14 w fun t15 =>
 o (bs 51 1 #[(0, t15)]) w fun t16 w =>
 o (ap #[51, 51] 51 #[false, false] (nth s1 0) t16) w fun t17 w =>
 k4 [t17] w) (
 k4 [(nth s1 0)] w))
 (fun s5 w => ∀ _ : List Value,
 pv (bn .add 3 (nth s1 1) (.int .i64 1)) fun t18 =>
 k2 [(nth s5 0), t18] w)) (
 K (nth s1 0) w))
 [(.slice none 0 0), (.int .i64 0)] w
set_option maxRecDepth 100000 in
theorem rutterref10_Store_Rows.sound {a0 : Value} {w : World} {K : Value → World → Prop} (h : rutterref10_Store_Rows.sh a0 w K) : Calls Try.prog 26 #[a0] w (retP K) :=
  calls_of_sem mixed Try.func26 (by kernel_rfl) (phL := fun n => bif Nat.beq n 3 then [3, 4] else []) (phJ := fun n => bif Nat.beq n 4 then some [3] else none) (args := [a0]) (by kernel_rfl) (cast (by kernel_rfl) h)

-- (*rutter/rutterref10.Store).Chassis
abbrev rutterref10_Store_Chassis.id : Nat := 27
set_option maxRecDepth 100000 in
def rutterref10_Store_Chassis.sh (a0 : Value) (w : World) (K : Value → World → Prop) : Prop :=
 LoopS (fun s1 w k2 => ∀ _ : List Value,
 pv (bn .lss 3 (nth s1 1) (.int .i64 16)) fun t3 =>
 cnd t3 (
 JoinS (fun k4 =>
 pv (nc a0) fun t6 =>
 fx t6 0 fun t7 =>
 ja 16 1 t7 (nth s1 1) fun t8 =>
 l1 t8 w fun t9 =>
 cnd t9 (
 o (bs 49 1 #[(0, (nth s1 1))]) w fun t10 w =>
 o (ap #[49, 49] 49 #[false, false] (nth s1 0) t10) w fun t11 w =>
 k4 [t11] w) (
 k4 [(nth s1 0)] w))
 (fun s5 w => ∀ _ : List Value,
 pv (bn .add 3 (nth s1 1) (.int .i64 1)) fun t12 =>
 k2 [(nth s5 0), t12] w)) (
 K (nth s1 0) w))
 [(.slice none 0 0), (.int .i64 0)] w
set_option maxRecDepth 100000 in
theorem rutterref10_Store_Chassis.sound {a0 : Value} {w : World} {K : Value → World → Prop} (h : rutterref10_Store_Chassis.sh a0 w K) : Calls Try.prog 27 #[a0] w (retP K) :=
  calls_of_sem mixed Try.func27 (by kernel_rfl) (phL := fun n => bif Nat.beq n 3 then [3, 4] else []) (phJ := fun n => bif Nat.beq n 4 then some [3] else none) (args := [a0]) (by kernel_rfl) (cast (by kernel_rfl) h)

-- (*rutter/rutterref10.Store).Row
abbrev rutterref10_Store_Row.id : Nat := 28
set_option maxRecDepth 100000 in
def rutterref10_Store_Row.sh (a0 a1 : Value) (w : World) (K : Value → World → Prop) : Prop :=
 al #[(.int .i64 0), (.int .u64 0), (.int .i64 0), (.int .i64 0), (.int .i64 0), (.int .i64 0), (.int .i64 0), (.int .i64 0), (.int .i64 0)] 33 w fun t1 w =>
 pv (bn .lss 3 a1 (.int .i64 0)) fun t2 =>
 gq t2 false (pv (mv a1)) fun t3 =>
 gq t2 false (pv (bn .gtr 3 t3 (.int .i64 31))) fun t4 =>
 pv (pk t2 (.bool true) t4) fun t5 =>
 gq t5 false (pv (mv a0)) fun t6 =>
 gq t5 false (pv (mv a1)) fun t7 =>
 gq t5 false (pv (nc t6)) fun t8 =>
 gq t5 false (fx t8 16) fun t9 =>
 gq t5 false (ja 32 9 t9 t7) fun t10 =>
 gq t5 false (fx t10 7) fun t11 =>
 gq t5 false (l1 t11 w) fun t12 =>
 gq t5 false (pv (be .eql 3 true t12 (.int .i64 0))) fun t13 =>
 pv (pk t5 (.bool true) t13) fun t14 =>
 cnd t14 (
 pv (bd 33 #[]) fun t15 =>
 sa 9 t1 t15 w fun _ w =>
 la 9 t1 w fun t16 =>
 K (.tuple #[t16, (.bool false)]) w) (
 pv (nc a0) fun t17 =>
 fx t17 16 fun t18 =>
 ja 32 9 t18 a1 fun t19 =>
 la 9 t19 w fun t20 =>
 sa 9 t1 t20 w fun _ w =>
 la 9 t1 w fun t21 =>
 K (.tuple #[t21, (.bool true)]) w)
set_option maxRecDepth 100000 in
theorem rutterref10_Store_Row.sound {a0 a1 : Value} {w : World} {K : Value → World → Prop} (h : rutterref10_Store_Row.sh a0 a1 w K) : Calls Try.prog 28 #[a0, a1] w (retP K) :=
  calls_of_sem mixed Try.func28 (by kernel_rfl) (phL := fun _ => []) (phJ := fun _ => none) (args := [a0, a1]) (by kernel_rfl) (cast (by kernel_rfl) h)

-- (*rutter/rutterref10.Store).Find
abbrev rutterref10_Store_Find.id : Nat := 29
set_option maxRecDepth 100000 in
def rutterref10_Store_Find.sh (a0 a1 : Value) (w : World) (K : Value → World → Prop) : Prop :=
 al #[(.int .i64 0), (.int .u64 0), (.int .i64 0), (.int .i64 0), (.int .i64 0), (.int .i64 0), (.int .i64 0), (.int .i64 0), (.int .i64 0)] 33 w fun t1 w =>
 LoopS (fun s2 w k3 => ∀ _ : List Value,
 pv (bn .lss 3 (nth s2 0) (.int .i64 32)) fun t4 =>
 cnd t4 (
 pv (nc a0) fun t5 =>
 fx t5 16 fun t6 =>
 ja 32 9 t6 (nth s2 0) fun t7 =>
 fx t7 7 fun t8 =>
 l1 t8 w fun t9 =>
 pv (bn .gtr 3 t9 (.int .i64 0)) fun t10 =>
 gq t10 true (pv (mv a0)) fun t11 =>
 gq t10 true (pv (mv (nth s2 0))) fun t12 =>
 gq t10 true (pv (nc t11)) fun t13 =>
 gq t10 true (fx t13 16) fun t14 =>
 gq t10 true (ja 32 9 t14 t12) fun t15 =>
 gq t10 true (fx t15 6) fun t16 =>
 gq t10 true (l1 t16 w) fun t17 =>
 gq t10 true (pv (be .neq 31 true t17 (.int .i64 3))) fun t18 =>
 pv (pk t10 t18 (.bool false)) fun t19 =>
 gq t19 true (pv (mv a0)) fun t20 =>
 gq t19 true (pv (mv (nth s2 0))) fun t21 =>
 gq t19 true (pv (nc t20)) fun t22 =>
 gq t19 true (fx t22 16) fun t23 =>
 gq t19 true (ja 32 9 t23 t21) fun t24 =>
 gq t19 true (fx t24 1) fun t25 =>
 gq t19 true (l1 t25 w) fun t26 =>
 gq t19 true (pv (mv a1)) fun t27 =>
 gq t19 true (pv (be .eql 24 false t26 t27)) fun t28 =>
 pv (pk t19 t28 (.bool false)) fun t29 =>
 cnd t29 (
 pv (nc a0) fun t30 =>
 fx t30 16 fun t31 =>
 ja 32 9 t31 (nth s2 0) fun t32 =>
 la 9 t32 w fun t33 =>
 sa 9 t1 t33 w fun _ w =>
 la 9 t1 w fun t34 =>
 K (.tuple #[t34, (.bool true)]) w) (
 pv (bn .add 3 (nth s2 0) (.int .i64 1)) fun t35 =>
 k3 [t35] w)) (
 pv (bd 33 #[]) fun t36 =>
 sa 9 t1 t36 w fun _ w =>
 la 9 t1 w fun t37 =>
 K (.tuple #[t37, (.bool false)]) w))
 [(.int .i64 0)] w
set_option maxRecDepth 100000 in
theorem rutterref10_Store_Find.sound {a0 a1 : Value} {w : World} {K : Value → World → Prop} (h : rutterref10_Store_Find.sh a0 a1 w K) : Calls Try.prog 29 #[a0, a1] w (retP K) :=
  calls_of_sem mixed Try.func29 (by kernel_rfl) (phL := fun n => bif Nat.beq n 2 then [6] else []) (phJ := fun _ => none) (args := [a0, a1]) (by kernel_rfl) (cast (by kernel_rfl) h)

-- (*rutter/rutterref10.Store).Has
abbrev rutterref10_Store_Has.id : Nat := 30
set_option maxRecDepth 100000 in
def rutterref10_Store_Has.sh (a0 a1 : Value) (w : World) (K : Value → World → Prop) : Prop :=
 pv (bn .geq 3 a1 (.int .i64 0)) fun t1 =>
 gq t1 true (pv (mv a1)) fun t2 =>
 gq t1 true (pv (bn .lss 3 t2 (.int .i64 16))) fun t3 =>
 pv (pk t1 t3 (.bool false)) fun t4 =>
 gq t4 true (pv (mv a0)) fun t5 =>
 gq t4 true (pv (mv a1)) fun t6 =>
 gq t4 true (pv (nc t5)) fun t7 =>
 gq t4 true (fx t7 0) fun t8 =>
 gq t4 true (ja 16 1 t8 t6) fun t9 =>
 gq t4 true (l1 t9 w) fun t10 =>
 pv (pk t4 t10 (.bool false)) fun t11 =>
 K t11 w
set_option maxRecDepth 100000 in
theorem rutterref10_Store_Has.sound {a0 a1 : Value} {w : World} {K : Value → World → Prop} (h : rutterref10_Store_Has.sh a0 a1 w K) : Calls Try.prog 30 #[a0, a1] w (retP K) :=
  calls_of_sem mixed Try.func30 (by kernel_rfl) (phL := fun _ => []) (phJ := fun _ => none) (args := [a0, a1]) (by kernel_rfl) (cast (by kernel_rfl) h)

-- (*rutter/rutterref10.Store).Late
abbrev rutterref10_Store_Late.id : Nat := 31
set_option maxRecDepth 100000 in
def rutterref10_Store_Late.sh (a0 a1 a2 : Value) (w : World) (K : Value → World → Prop) : Prop :=
 LoopS (fun s1 w k2 => ∀ _ : List Value,
 pv (bn .lss 3 (nth s1 1) (.int .i64 32)) fun t3 =>
 cnd t3 (
 JoinS (fun k4 =>
 pv (nc a0) fun t6 =>
 fx t6 16 fun t7 =>
 ja 32 9 t7 (nth s1 1) fun t8 =>
 fx t8 7 fun t9 =>
 l1 t9 w fun t10 =>
 pv (be .eql 3 true t10 (.int .i64 0)) fun t11 =>
 cnd t11 (
 k4 [(nth s1 0)] w) (
 pv (nc a0) fun t12 =>
 fx t12 16 fun t13 =>
 ja 32 9 t13 (nth s1 1) fun t14 =>
 la 9 t14 w fun t15 =>
 fc 42 #[t15, a1, a2] w fun t16 w =>
 pv (ex t16 0) fun t17 =>
 pv (ex t16 1) fun t18 =>
 al #[(.int .i64 0), (.int .u64 0), (.int .i64 0), (.int .i64 0), (.int .i64 0), (.int .i64 0), (.int .i64 0), (.int .i64 0), (.int .i64 0)] 33 w fun t19 w =>
 sa 9 t19 t17 w fun _ w =>
 cnd t18 (
 (fun w : World =>
 la 9 t19 w fun t20 =>
 pv (nc a0) fun t21 =>
 fx t21 16 fun t22 =>
 ja 32 9 t22 (nth s1 1) fun t23 =>
 fx t23 7 fun t24 =>
 l1 t24 w fun t25 =>
 pv (bd 68 #[(0, t20), (1, t25)]) fun t26 =>
 o (bs 65 1 #[(0, t26)]) w fun t27 w =>
 o (ap #[65, 65] 65 #[false, false] (nth s1 0) t27) w fun t28 w =>
 k4 [t28] w) w.drew) (
 k4 [(nth s1 0)] w)))
 (fun s5 w => ∀ _ : List Value,
 pv (bn .add 3 (nth s1 1) (.int .i64 1)) fun t29 =>
 k2 [(nth s5 0), t29] w)) (
 K (nth s1 0) w))
 [(.slice none 0 0), (.int .i64 0)] w
set_option maxRecDepth 100000 in
theorem rutterref10_Store_Late.sound {a0 a1 a2 : Value} {w : World} {K : Value → World → Prop} (h : rutterref10_Store_Late.sh a0 a1 a2 w K) : Calls Try.prog 31 #[a0, a1, a2] w (retP K) :=
  calls_of_sem mixed Try.func31 (by kernel_rfl) (phL := fun n => bif Nat.beq n 3 then [7, 8] else []) (phJ := fun n => bif Nat.beq n 4 then some [7] else none) (args := [a0, a1, a2]) (by kernel_rfl) (cast (by kernel_rfl) h)

-- slices.Contains[[]int,int]
abbrev slices_Contains_int.id : Nat := 32
set_option maxRecDepth 100000 in
def slices_Contains_int.sh (a0 a1 : Value) (w : World) (K : Value → World → Prop) : Prop :=
 fc 43 #[a0, a1] w fun t1 w =>
 pv (bn .geq 3 t1 (.int .i64 0)) fun t2 =>
 K t2 w
set_option maxRecDepth 100000 in
theorem slices_Contains_int.sound {a0 a1 : Value} {w : World} {K : Value → World → Prop} (h : slices_Contains_int.sh a0 a1 w K) : Calls Try.prog 32 #[a0, a1] w (retP K) :=
  calls_of_sem mixed Try.func32 (by kernel_rfl) (phL := fun _ => []) (phJ := fun _ => none) (args := [a0, a1]) (by kernel_rfl) (cast (by kernel_rfl) h)

-- rutter/store.names
abbrev store_names.id : Nat := 33
set_option maxRecDepth 100000 in
def store_names.sh (a0 : Value) (w : World) (K : Value → World → Prop) : Prop :=
 bx 33 a0 w fun t1 w =>
 fx t1 2 fun t2 =>
 l1 t2 w fun t3 =>
 fx t1 3 fun t4 =>
 l1 t4 w fun t5 =>
 fx t1 4 fun t6 =>
 l1 t6 w fun t7 =>
 o (bs 49 3 #[(0, t3), (1, t5), (2, t7)]) w fun t8 w =>
 fc 44 #[t8, (.func (.func 45) #[] #[])] w fun t9 w =>
 K t9 w
set_option maxRecDepth 100000 in
theorem store_names.sound {a0 : Value} {w : World} {K : Value → World → Prop} (h : store_names.sh a0 w K) : Calls Try.prog 33 #[a0] w (retP K) :=
  calls_of_sem mixed Try.func33 (by kernel_rfl) (phL := fun _ => []) (phJ := fun _ => none) (args := [a0]) (by kernel_rfl) (cast (by kernel_rfl) h)

-- (*rutter/store.Store).wrong
abbrev store_Store_wrong.id : Nat := 35
set_option maxRecDepth 100000 in
def store_Store_wrong.sh (a0 a1 a2 : Value) (w : World) (K : Value → World → Prop) : Prop :=
 bx 27 a0 w fun t1 w =>
 bx 59 a2 w fun t2 w =>
 fx t2 0 fun t3 =>
 la 9 t3 w fun t4 =>
 al #[(.int .i64 0), (.int .u64 0), (.int .i64 0), (.int .i64 0), (.int .i64 0), (.int .i64 0), (.int .i64 0), (.int .i64 0), (.int .i64 0)] 33 w fun t5 w =>
 sa 9 t5 t4 w fun _ w =>
 la 9 t5 w fun t6 =>
 fc 47 #[t6] w fun t7 w =>
 pv (un .not t7) fun t8 =>
 gq t8 false (fx t5 7) fun t9 =>
 gq t8 false (l1 t9 w) fun t10 =>
 gq t8 false (fx t2 9) fun t11 =>
 gq t8 false (l1 t11 w) fun t12 =>
 gq t8 false (pv (bn .leq 3 t10 t12)) fun t13 =>
 pv (pk t8 (.bool true) t13) fun t14 =>
 cnd t14 (
 K (.int .i64 1) w) (
 la 9 t5 w fun t15 =>
 fc 33 #[t15] w fun t16 w =>
 pv (mf (.func 49) #[] #[t1]) fun t17 =>
 fc 48 #[t16, t17] w fun t18 w =>
 cnd t18 (
 K (.int .i64 4) w) (
 fx t5 0 fun t19 =>
 l1 t19 w fun t20 =>
 wv (lk 61 a1 t20 false) w fun t21 =>
 pv (fi 33 t21 7) fun t22 =>
 fx t2 9 fun t23 =>
 l1 t23 w fun t24 =>
 pv (be .neq 3 false t22 t24) fun t25 =>
 cnd t25 (
 K (.int .i64 7) w) (
 o (rg 61 a1) w fun t26 w =>
 LoopS (fun _ w k28 => ∀ _ : List Value,
 o (nx t26 false 0) w fun t29 w =>
 pv (ex t29 0) fun t30 =>
 cnd t30 (
 o (en t26) w fun t31 w =>
 pv (ex t31 0) fun t32 =>
 pv (ex t31 1) fun t33 =>
 al #[(.int .i64 0), (.int .u64 0), (.int .i64 0), (.int .i64 0), (.int .i64 0), (.int .i64 0), (.int .i64 0), (.int .i64 0), (.int .i64 0)] 33 w fun t34 w =>
 sa 9 t34 t33 w fun _ w =>
 fx t5 0 fun t35 =>
 l1 t35 w fun t36 =>
 pv (be .neq 3 false t32 t36) fun t37 =>
 gq t37 true (fx t34 6) fun t38 =>
 gq t37 true (l1 t38 w) fun t39 =>
 gq t37 true (pv (be .neq 31 true t39 (.int .i64 3))) fun t40 =>
 pv (pk t37 t40 (.bool false)) fun t41 =>
 gq t41 true (fx t5 6) fun t42 =>
 gq t41 true (l1 t42 w) fun t43 =>
 gq t41 true (pv (be .neq 31 true t43 (.int .i64 3))) fun t44 =>
 pv (pk t41 t44 (.bool false)) fun t45 =>
 gq t45 true (fx t34 1) fun t46 =>
 gq t45 true (l1 t46 w) fun t47 =>
 gq t45 true (fx t5 1) fun t48 =>
 gq t45 true (l1 t48 w) fun t49 =>
 gq t45 true (pv (be .eql 24 false t47 t49)) fun t50 =>
 pv (pk t45 t50 (.bool false)) fun t51 =>
 cnd t51 (
 K (.int .i64 5) w) (
 k28 [] w)) (
 K (.int .i64 0) w))
 [] w)))
set_option maxRecDepth 100000 in
theorem store_Store_wrong.sound {a0 a1 a2 : Value} {w : World} {K : Value → World → Prop} (h : store_Store_wrong.sh a0 a1 a2 w K) : Calls Try.prog 35 #[a0, a1, a2] w (retP K) :=
  calls_of_sem mixed Try.func35 (by kernel_rfl) (phL := fun n => bif Nat.beq n 9 then [] else []) (phJ := fun _ => none) (args := [a0, a1, a2]) (by kernel_rfl) (cast (by kernel_rfl) h)

-- rutter/phase.Late
abbrev phase_Late.id : Nat := 39
set_option maxRecDepth 100000 in
def phase_Late.sh (a0 a1 a2 : Value) (w : World) (K : Value → World → Prop) : Prop :=
 bx 33 a0 w fun t1 w =>
 al #[(.int .i64 0), (.int .u64 0), (.int .i64 0), (.int .i64 0), (.int .i64 0), (.int .i64 0), (.int .i64 0), (.int .i64 0), (.int .i64 0)] 33 w fun t2 w =>
 fx t1 6 fun t3 =>
 l1 t3 w fun t4 =>
 pv (be .neq 31 true t4 (.int .i64 1)) fun t5 =>
 gq t5 true (fx t1 6) fun t6 =>
 gq t5 true (l1 t6 w) fun t7 =>
 gq t5 true (pv (be .neq 31 true t7 (.int .i64 2))) fun t8 =>
 pv (pk t5 t8 (.bool false)) fun t9 =>
 gq t9 false (pv (mv a1)) fun t10 =>
 gq t9 false (fx t1 8) fun t11 =>
 gq t9 false (l1 t11 w) fun t12 =>
 gq t9 false (pv (bn .lss 3 t10 t12)) fun t13 =>
 pv (pk t9 (.bool true) t13) fun t14 =>
 gq t14 false (pv (mv a1)) fun t15 =>
 gq t14 false (fx t1 8) fun t16 =>
 gq t14 false (l1 t16 w) fun t17 =>
 gq t14 false (pv (bn .sub 3 t15 t17)) fun t18 =>
 gq t14 false (pv (mv a2)) fun t19 =>
 gq t14 false (wv (bi .max #[3, 3] 3 #[false, true] #[t19, (.int .i64 0)]) w) fun t20 =>
 gq t14 false (pv (bn .lss 3 t18 t20)) fun t21 =>
 pv (pk t14 (.bool true) t21) fun t22 =>
 cnd t22 (
 la 9 t1 w fun t23 =>
 sa 9 t2 t23 w fun _ w =>
 la 9 t2 w fun t24 =>
 K (.tuple #[t24, (.bool false)]) w) (
 JoinS (fun k25 =>
 fx t1 6 fun t27 =>
 l1 t27 w fun t28 =>
 pv (be .eql 31 true t28 (.int .i64 1)) fun t29 =>
 cnd t29 (
 k25 [(.func (.func 55) #[] #[])] w) (
 k25 [(.func (.func 54) #[] #[])] w))
 (fun s26 w => ∀ _ : List Value,
 la 9 t1 w fun t30 =>
 vc (nth s26 0) #[t30, a1] w fun t31 w =>
 pv (ex t31 0) fun t32 =>
 pv (ex t31 1) fun t33 =>
 al #[(.int .i64 0), (.int .u64 0), (.int .i64 0), (.int .i64 0), (.int .i64 0), (.int .i64 0), (.int .i64 0), (.int .i64 0), (.int .i64 0)] 33 w fun t34 w =>
 sa 9 t34 t32 w fun _ w =>
 pv (be .neq 45 true t33 (.int .i64 0)) fun t35 =>
 cnd t35 (
 la 9 t1 w fun t36 =>
 sa 9 t2 t36 w fun _ w =>
 la 9 t2 w fun t37 =>
 K (.tuple #[t37, (.bool false)]) w) (
 la 9 t34 w fun t38 =>
 sa 9 t2 t38 w fun _ w =>
 la 9 t2 w fun t39 =>
 K (.tuple #[t39, (.bool true)]) w)))
set_option maxRecDepth 100000 in
theorem phase_Late.sound {a0 a1 a2 : Value} {w : World} {K : Value → World → Prop} (h : phase_Late.sh a0 a1 a2 w K) : Calls Try.prog 39 #[a0, a1, a2] w (retP K) :=
  calls_of_sem mixed Try.func39 (by kernel_rfl) (phL := fun _ => []) (phJ := fun n => bif Nat.beq n 6 then some [8] else none) (args := [a0, a1, a2]) (by kernel_rfl) (cast (by kernel_rfl) h)

-- rutter/rutterref10.used
abbrev rutterref10_used.id : Nat := 40
set_option maxRecDepth 100000 in
def rutterref10_used.sh (a0 a1 : Value) (w : World) (K : Value → World → Prop) : Prop :=
 bx 33 a0 w fun t1 w =>
 fx t1 7 fun t2 =>
 l1 t2 w fun t3 =>
 pv (bn .gtr 3 t3 (.int .i64 0)) fun t4 =>
 gq t4 true (fx t1 2) fun t5 =>
 gq t4 true (l1 t5 w) fun t6 =>
 gq t4 true (pv (mv a1)) fun t7 =>
 gq t4 true (pv (be .eql 3 false t6 t7)) fun t8 =>
 gq t4 true (pv (mv t8)) fun t9 =>
 gq t9 false (fx t1 3) fun t10 =>
 gq t9 false (l1 t10 w) fun t11 =>
 gq t9 false (pv (mv a1)) fun t12 =>
 gq t9 false (pv (be .eql 3 false t11 t12)) fun t13 =>
 gq t4 true (pv (pk t9 (.bool true) t13)) fun t14 =>
 gq t4 true (pv (mv t14)) fun t15 =>
 gq t15 false (fx t1 4) fun t16 =>
 gq t15 false (l1 t16 w) fun t17 =>
 gq t15 false (pv (mv a1)) fun t18 =>
 gq t15 false (pv (be .eql 3 false t17 t18)) fun t19 =>
 gq t4 true (pv (pk t15 (.bool true) t19)) fun t20 =>
 pv (pk t4 t20 (.bool false)) fun t21 =>
 K t21 w
set_option maxRecDepth 100000 in
theorem rutterref10_used.sound {a0 a1 : Value} {w : World} {K : Value → World → Prop} (h : rutterref10_used.sh a0 a1 w K) : Calls Try.prog 40 #[a0, a1] w (retP K) :=
  calls_of_sem mixed Try.func40 (by kernel_rfl) (phL := fun _ => []) (phJ := fun _ => none) (args := [a0, a1]) (by kernel_rfl) (cast (by kernel_rfl) h)

-- (*rutter/rutterref10.Store).wrong
abbrev rutterref10_Store_wrong.id : Nat := 41
set_option maxRecDepth 100000 in
def rutterref10_Store_wrong.sh (a0 a1 : Value) (w : World) (K : Value → World → Prop) : Prop :=
 bx 68 a1 w fun t1 w =>
 fx t1 0 fun t2 =>
 la 9 t2 w fun t3 =>
 fc 56 #[t3] w fun t4 w =>
 pv (un .not t4) fun t5 =>
 gq t5 false (fx t1 0) fun t6 =>
 gq t5 false (fx t6 7) fun t7 =>
 gq t5 false (l1 t7 w) fun t8 =>
 gq t5 false (fx t1 9) fun t9 =>
 gq t5 false (l1 t9 w) fun t10 =>
 gq t5 false (pv (bn .leq 3 t8 t10)) fun t11 =>
 pv (pk t5 (.bool true) t11) fun t12 =>
 cnd t12 (
 K (.int .i64 1) w) (
 fx t1 0 fun t13 =>
 la 9 t13 w fun t14 =>
 fc 57 #[a0, t14] w fun t15 w =>
 pv (un .not t15) fun t16 =>
 cnd t16 (
 K (.int .i64 4) w) (
 (fun w : World =>
 fx t1 0 fun t17 =>
 fx t17 0 fun t18 =>
 l1 t18 w fun t19 =>
 pv (nc a0) fun t20 =>
 fx t20 16 fun t21 =>
 ja 32 9 t21 t19 fun t22 =>
 fx t22 7 fun t23 =>
 l1 t23 w fun t24 =>
 fx t1 9 fun t25 =>
 l1 t25 w fun t26 =>
 pv (be .neq 3 false t24 t26) fun t27 =>
 cnd t27 (
 K (.int .i64 7) w) (
 LoopS (fun s28 w k29 => ∀ _ : List Value,
 pv (bn .lss 3 (nth s28 0) (.int .i64 32)) fun t30 =>
 cnd t30 (
 pv (nc a0) fun t31 =>
 fx t31 16 fun t32 =>
 ja 32 9 t32 (nth s28 0) fun t33 =>
 la 9 t33 w fun t34 =>
 al #[(.int .i64 0), (.int .u64 0), (.int .i64 0), (.int .i64 0), (.int .i64 0), (.int .i64 0), (.int .i64 0), (.int .i64 0), (.int .i64 0)] 33 w fun t35 w =>
 sa 9 t35 t34 w fun _ w =>
 fx t1 0 fun t36 =>
 fx t36 0 fun t37 =>
 l1 t37 w fun t38 =>
 pv (be .neq 3 false (nth s28 0) t38) fun t39 =>
 gq t39 true (fx t35 7) fun t40 =>
 gq t39 true (l1 t40 w) fun t41 =>
 gq t39 true (pv (bn .gtr 3 t41 (.int .i64 0))) fun t42 =>
 pv (pk t39 t42 (.bool false)) fun t43 =>
 gq t43 true (fx t35 6) fun t44 =>
 gq t43 true (l1 t44 w) fun t45 =>
 gq t43 true (pv (be .neq 31 true t45 (.int .i64 3))) fun t46 =>
 pv (pk t43 t46 (.bool false)) fun t47 =>
 gq t47 true (fx t1 0) fun t48 =>
 gq t47 true (fx t48 6) fun t49 =>
 gq t47 true (l1 t49 w) fun t50 =>
 gq t47 true (pv (be .neq 31 true t50 (.int .i64 3))) fun t51 =>
 pv (pk t47 t51 (.bool false)) fun t52 =>
 gq t52 true (fx t35 1) fun t53 =>
 gq t52 true (l1 t53 w) fun t54 =>
 gq t52 true (fx t1 0) fun t55 =>
 gq t52 true (fx t55 1) fun t56 =>
 gq t52 true (l1 t56 w) fun t57 =>
 gq t52 true (pv (be .eql 24 false t54 t57)) fun t58 =>
 pv (pk t52 t58 (.bool false)) fun t59 =>
 cnd t59 (
 K (.int .i64 5) w) (
 pv (bn .add 3 (nth s28 0) (.int .i64 1)) fun t60 =>
 k29 [t60] w)) (
 K (.int .i64 0) w))
 [(.int .i64 0)] w)) w.drew))
set_option maxRecDepth 100000 in
theorem rutterref10_Store_wrong.sound {a0 a1 : Value} {w : World} {K : Value → World → Prop} (h : rutterref10_Store_wrong.sh a0 a1 w K) : Calls Try.prog 41 #[a0, a1] w (retP K) :=
  calls_of_sem mixed Try.func41 (by kernel_rfl) (phL := fun n => bif Nat.beq n 10 then [7] else []) (phJ := fun _ => none) (args := [a0, a1]) (by kernel_rfl) (cast (by kernel_rfl) h)

-- rutter/rutterref09.Late
abbrev rutterref09_Late.id : Nat := 42
set_option maxRecDepth 100000 in
def rutterref09_Late.sh (a0 a1 a2 : Value) (w : World) (K : Value → World → Prop) : Prop :=
 bx 33 a0 w fun t1 w =>
 al #[(.int .i64 0), (.int .u64 0), (.int .i64 0), (.int .i64 0), (.int .i64 0), (.int .i64 0), (.int .i64 0), (.int .i64 0), (.int .i64 0)] 33 w fun t2 w =>
 wv (bi .max #[3, 3] 3 #[false, true] #[a2, (.int .i64 0)]) w fun t3 =>
 la 9 t1 w fun t4 =>
 fc 58 #[t4, a1] w fun t5 w =>
 pv (un .not t5) fun t6 =>
 gq t6 false (pv (mv a1)) fun t7 =>
 gq t6 false (fx t1 8) fun t8 =>
 gq t6 false (l1 t8 w) fun t9 =>
 gq t6 false (pv (bn .lss 3 t7 t9)) fun t10 =>
 pv (pk t6 (.bool true) t10) fun t11 =>
 gq t11 false (pv (mv a1)) fun t12 =>
 gq t11 false (fx t1 8) fun t13 =>
 gq t11 false (l1 t13 w) fun t14 =>
 gq t11 false (pv (bn .sub 3 t12 t14)) fun t15 =>
 gq t11 false (pv (mv t3)) fun t16 =>
 gq t11 false (pv (bn .lss 3 t15 t16)) fun t17 =>
 pv (pk t11 (.bool true) t17) fun t18 =>
 cnd t18 (
 la 9 t1 w fun t19 =>
 sa 9 t2 t19 w fun _ w =>
 la 9 t2 w fun t20 =>
 K (.tuple #[t20, (.bool false)]) w) (
 pv (bd 33 #[]) fun t21 =>
 al #[(.int .i64 0), (.int .u64 0), (.int .i64 0), (.int .i64 0), (.int .i64 0), (.int .i64 0), (.int .i64 0), (.int .i64 0), (.int .i64 0)] 33 w fun t22 w =>
 sa 9 t22 t21 w fun _ w =>
 JoinS (fun k23 =>
 fx t1 6 fun t25 =>
 l1 t25 w fun t26 =>
 pv (be .eql 31 true t26 (.int .i64 1)) fun t27 =>
 cnd t27 (
 la 9 t1 w fun t28 =>
 fc 59 #[t28, a1] w fun t29 w =>
 pv (ex t29 0) fun t30 =>
 pv (ex t29 1) fun t31 =>
 sa 9 t22 t30 w fun _ w =>
 k23 [t31] w) (
 k23 [(.int .i64 8)] w))
 (fun s24 w => ∀ _ : List Value,
 JoinS (fun k32 =>
 fx t1 6 fun t34 =>
 l1 t34 w fun t35 =>
 pv (be .eql 31 true t35 (.int .i64 2)) fun t36 =>
 cnd t36 (
 la 9 t1 w fun t37 =>
 fc 60 #[t37, a1] w fun t38 w =>
 pv (ex t38 0) fun t39 =>
 pv (ex t38 1) fun t40 =>
 sa 9 t22 t39 w fun _ w =>
 k32 [t40] w) (
 k32 [(nth s24 0)] w))
 (fun s33 w => ∀ _ : List Value,
 pv (be .neq 45 true (nth s33 0) (.int .i64 0)) fun t41 =>
 cnd t41 (
 la 9 t1 w fun t42 =>
 sa 9 t2 t42 w fun _ w =>
 la 9 t2 w fun t43 =>
 K (.tuple #[t43, (.bool false)]) w) (
 la 9 t22 w fun t44 =>
 sa 9 t2 t44 w fun _ w =>
 la 9 t2 w fun t45 =>
 K (.tuple #[t45, (.bool true)]) w))))
set_option maxRecDepth 100000 in
theorem rutterref09_Late.sound {a0 a1 a2 : Value} {w : World} {K : Value → World → Prop} (h : rutterref09_Late.sh a0 a1 a2 w K) : Calls Try.prog 42 #[a0, a1, a2] w (retP K) :=
  calls_of_sem mixed Try.func42 (by kernel_rfl) (phL := fun _ => []) (phJ := fun n => bif Nat.beq n 11 then some [11] else bif Nat.beq n 9 then some [11] else none) (args := [a0, a1, a2]) (by kernel_rfl) (cast (by kernel_rfl) h)

-- slices.Index[[]int,int]
abbrev slices_Index_int.id : Nat := 43
set_option maxRecDepth 100000 in
def slices_Index_int.sh (a0 a1 : Value) (w : World) (K : Value → World → Prop) : Prop :=
 ln 1 a0 w fun t1 =>
 LoopS (fun s2 w k3 => ∀ _ : List Value,
 pv (bn .lss 3 (nth s2 0) t1) fun t4 =>
 cnd t4 (
 iz 1 a0 (nth s2 0) fun t5 =>
 l1 t5 w fun t6 =>
 pv (be .eql 3 false a1 t6) fun t7 =>
 cnd t7 (
 K (nth s2 0) w) (
 pv (bn .add 3 (nth s2 0) (.int .i64 1)) fun t8 =>
 k3 [t8] w)) (
 K (.int .i64 (-1)) w))
 [(.int .i64 0)] w
set_option maxRecDepth 100000 in
theorem slices_Index_int.sound {a0 a1 : Value} {w : World} {K : Value → World → Prop} (h : slices_Index_int.sh a0 a1 w K) : Calls Try.prog 43 #[a0, a1] w (retP K) :=
  calls_of_sem mixed Try.func43 (by kernel_rfl) (phL := fun n => bif Nat.beq n 2 then [8] else []) (phJ := fun _ => none) (args := [a0, a1]) (by kernel_rfl) (cast (by kernel_rfl) h)

-- slices.DeleteFunc[[]int,int]
abbrev slices_DeleteFunc_int.id : Nat := 44
set_option maxRecDepth 100000 in
def slices_DeleteFunc_int.sh (a0 a1 : Value) (w : World) (K : Value → World → Prop) : Prop :=
 fc 61 #[a0, a1] w fun t1 w =>
 pv (be .eql 3 true t1 (.int .i64 (-1))) fun t2 =>
 cnd t2 (
 K a0 w) (
 pv (bn .add 3 t1 (.int .i64 1)) fun t3 =>
 LoopS (fun s4 w k5 => ∀ _ : List Value,
 ln 1 a0 w fun t6 =>
 pv (bn .lss 3 (nth s4 1) t6) fun t7 =>
 cnd t7 (
 JoinS (fun k8 =>
 iz 1 a0 (nth s4 1) fun t10 =>
 l1 t10 w fun t11 =>
 vc a1 #[t11] w fun t12 w =>
 pv (un .not t12) fun t13 =>
 cnd t13 (
 iz 1 a0 (nth s4 0) fun t14 =>
 sw t14 t11 w fun _ w =>
 pv (bn .add 3 (nth s4 0) (.int .i64 1)) fun t15 =>
 k8 [t15] w) (
 k8 [(nth s4 0)] w))
 (fun s9 w => ∀ _ : List Value,
 pv (bn .add 3 (nth s4 1) (.int .i64 1)) fun t16 =>
 k5 [(nth s9 0), t16] w)) (
 pv (sl 49 a0 (some (nth s4 0)) none none) fun t17 =>
 o (bi .clear #[49] 0 #[false] #[t17]) w fun _ w =>
 pv (sl 49 a0 none (some (nth s4 0)) none) fun t18 =>
 K t18 w))
 [t1, t3] w)
set_option maxRecDepth 100000 in
theorem slices_DeleteFunc_int.sound {a0 a1 : Value} {w : World} {K : Value → World → Prop} (h : slices_DeleteFunc_int.sh a0 a1 w K) : Calls Try.prog 44 #[a0, a1] w (retP K) :=
  calls_of_sem mixed Try.func44 (by kernel_rfl) (phL := fun n => bif Nat.beq n 5 then [5, 6] else []) (phJ := fun n => bif Nat.beq n 6 then some [5] else none) (args := [a0, a1]) (by kernel_rfl) (cast (by kernel_rfl) h)

-- rutter/store.names$1
abbrev store_names_1.id : Nat := 45
set_option maxRecDepth 100000 in
def store_names_1.sh (a0 : Value) (w : World) (K : Value → World → Prop) : Prop :=
 pv (be .eql 3 true a0 (.int .i64 (-1))) fun t1 =>
 K t1 w
set_option maxRecDepth 100000 in
theorem store_names_1.sound {a0 : Value} {w : World} {K : Value → World → Prop} (h : store_names_1.sh a0 w K) : Calls Try.prog 45 #[a0] w (retP K) :=
  calls_of_sem mixed Try.func45 (by kernel_rfl) (phL := fun _ => []) (phJ := fun _ => none) (args := [a0]) (by kernel_rfl) (cast (by kernel_rfl) h)

-- rutter/control.Row
abbrev control_Row.id : Nat := 47
set_option maxRecDepth 100000 in
def control_Row.sh (a0 : Value) (w : World) (K : Value → World → Prop) : Prop :=
 bx 33 a0 w fun t1 w =>
 JoinS (fun k2 =>
 fx t1 6 fun t4 =>
 l1 t4 w fun t5 =>
 pv (be .eql 31 true t5 (.int .i64 0)) fun t6 =>
 cnd t6 (
 fx t1 2 fun t7 =>
 l1 t7 w fun t8 =>
 fc 62 #[t8, (.int .i64 0), (.int .i64 15)] w fun t9 w =>
 gq t9 true (fx t1 3) fun t10 =>
 gq t9 true (l1 t10 w) fun t11 =>
 gq t9 true (pv (be .eql 3 true t11 (.int .i64 (-1)))) fun t12 =>
 pv (pk t9 t12 (.bool false)) fun t13 =>
 gq t13 true (fx t1 4) fun t14 =>
 gq t13 true (l1 t14 w) fun t15 =>
 gq t13 true (pv (be .eql 3 true t15 (.int .i64 (-1)))) fun t16 =>
 pv (pk t13 t16 (.bool false)) fun t17 =>
 k2 [t17] w) (
 pv (be .eql 31 true t5 (.int .i64 1)) fun t18 =>
 cnd t18 (
 fx t1 2 fun t19 =>
 l1 t19 w fun t20 =>
 fx t1 3 fun t21 =>
 l1 t21 w fun t22 =>
 fc 63 #[t20, t22] w fun t23 w =>
 gq t23 true (fx t1 4) fun t24 =>
 gq t23 true (l1 t24 w) fun t25 =>
 gq t23 true (pv (be .eql 3 true t25 (.int .i64 (-1)))) fun t26 =>
 pv (pk t23 t26 (.bool false)) fun t27 =>
 k2 [t27] w) (
 pv (be .eql 31 true t5 (.int .i64 2)) fun t28 =>
 cnd t28 (
 fx t1 2 fun t29 =>
 l1 t29 w fun t30 =>
 fx t1 4 fun t31 =>
 l1 t31 w fun t32 =>
 fc 63 #[t30, t32] w fun t33 w =>
 gq t33 true (fx t1 3) fun t34 =>
 gq t33 true (l1 t34 w) fun t35 =>
 gq t33 true (pv (be .eql 3 true t35 (.int .i64 (-1)))) fun t36 =>
 pv (pk t33 t36 (.bool false)) fun t37 =>
 k2 [t37] w) (
 pv (be .eql 31 true t5 (.int .i64 3)) fun t38 =>
 cnd t38 (
 fx t1 2 fun t39 =>
 l1 t39 w fun t40 =>
 pv (be .eql 3 true t40 (.int .i64 (-1))) fun t41 =>
 gq t41 true (fx t1 3) fun t42 =>
 gq t41 true (l1 t42 w) fun t43 =>
 gq t41 true (pv (be .eql 3 true t43 (.int .i64 (-1)))) fun t44 =>
 pv (pk t41 t44 (.bool false)) fun t45 =>
 gq t45 true (fx t1 4) fun t46 =>
 gq t45 true (l1 t46 w) fun t47 =>
 gq t45 true (pv (be .eql 3 true t47 (.int .i64 (-1)))) fun t48 =>
 pv (pk t45 t48 (.bool false)) fun t49 =>
 k2 [t49] w) (
 k2 [(.bool false)] w)))))
 (fun s3 w => ∀ _ : List Value,
 gq (nth s3 0) true (fx t1 0) fun t50 =>
 gq (nth s3 0) true (l1 t50 w) fun t51 =>
 ge (nth s3 0) true (fc 62 #[t51, (.int .i64 0), (.int .i64 31)] w) w fun t52 w =>
 pv (pk (nth s3 0) t52 (.bool false)) fun t53 =>
 gq t53 true (fx t1 1) fun t54 =>
 gq t53 true (l1 t54 w) fun t55 =>
 gq t53 true (pv (bn .leq 24 t55 (.int .u64 281474976710655))) fun t56 =>
 pv (pk t53 t56 (.bool false)) fun t57 =>
 gq t57 true (fx t1 5) fun t58 =>
 gq t57 true (l1 t58 w) fun t59 =>
 ge t57 true (fc 62 #[t59, (.int .i64 1), (.int .i64 4294967296)] w) w fun t60 w =>
 pv (pk t57 t60 (.bool false)) fun t61 =>
 gq t61 true (fx t1 7) fun t62 =>
 gq t61 true (l1 t62 w) fun t63 =>
 ge t61 true (fc 62 #[t63, (.int .i64 1), (.int .i64 1099511627776)] w) w fun t64 w =>
 pv (pk t61 t64 (.bool false)) fun t65 =>
 gq t65 true (fx t1 8) fun t66 =>
 gq t65 true (l1 t66 w) fun t67 =>
 ge t65 true (fc 62 #[t67, (.int .i64 0), (.int .i64 1099511627776)] w) w fun t68 w =>
 pv (pk t65 t68 (.bool false)) fun t69 =>
 K t69 w)
set_option maxRecDepth 100000 in
theorem control_Row.sound {a0 : Value} {w : World} {K : Value → World → Prop} (h : control_Row.sh a0 w K) : Calls Try.prog 47 #[a0] w (retP K) :=
  calls_of_sem mixed Try.func47 (by kernel_rfl) (phL := fun _ => []) (phJ := fun n => bif Nat.beq n 11 then some [3] else none) (args := [a0]) (by kernel_rfl) (cast (by kernel_rfl) h)

-- slices.ContainsFunc[[]int,int]
abbrev slices_ContainsFunc_int.id : Nat := 48
set_option maxRecDepth 100000 in
def slices_ContainsFunc_int.sh (a0 a1 : Value) (w : World) (K : Value → World → Prop) : Prop :=
 fc 61 #[a0, a1] w fun t1 w =>
 pv (bn .geq 3 t1 (.int .i64 0)) fun t2 =>
 K t2 w
set_option maxRecDepth 100000 in
theorem slices_ContainsFunc_int.sound {a0 a1 : Value} {w : World} {K : Value → World → Prop} (h : slices_ContainsFunc_int.sh a0 a1 w K) : Calls Try.prog 48 #[a0, a1] w (retP K) :=
  calls_of_sem mixed Try.func48 (by kernel_rfl) (phL := fun _ => []) (phJ := fun _ => none) (args := [a0, a1]) (by kernel_rfl) (cast (by kernel_rfl) h)

-- (*rutter/store.Store).wrong$1
abbrev store_Store_wrong_1.id : Nat := 49
set_option maxRecDepth 100000 in
def store_Store_wrong_1.sh (a0 a1 : Value) (w : World) (K : Value → World → Prop) : Prop :=
 l1 a1 w fun t1 =>
 pv (nc t1) fun t2 =>
 fx t2 0 fun t3 =>
 l1 t3 w fun t4 =>
 wv (lk 60 t4 a0 false) w fun t5 =>
 pv (be .eql 3 true t5 (.int .i64 0)) fun t6 =>
 K t6 w
set_option maxRecDepth 100000 in
theorem store_Store_wrong_1.sound {a0 a1 : Value} {w : World} {K : Value → World → Prop} (h : store_Store_wrong_1.sh a0 a1 w K) : Calls Try.prog 49 #[a0, a1] w (retP K) :=
  calls_of_sem mixed Try.func49 (by kernel_rfl) (phL := fun _ => []) (phJ := fun _ => none) (args := [a0, a1]) (by kernel_rfl) (cast (by kernel_rfl) h)

-- rutter/phase.Commit
abbrev phase_Commit.id : Nat := 54
set_option maxRecDepth 100000 in
def phase_Commit.sh (a0 a1 : Value) (w : World) (K : Value → World → Prop) : Prop :=
 bx 33 a0 w fun t1 w =>
 al #[(.int .i64 0), (.int .u64 0), (.int .i64 0), (.int .i64 0), (.int .i64 0), (.int .i64 0), (.int .i64 0), (.int .i64 0), (.int .i64 0)] 33 w fun t2 w =>
 la 9 t1 w fun t3 =>
 fc 67 #[t3, a1, (.bool false), (.func (.func 68) #[] #[])] w fun t4 w =>
 pv (ex t4 0) fun t5 =>
 pv (ex t4 1) fun t6 =>
 sa 9 t2 t5 w fun _ w =>
 la 9 t2 w fun t7 =>
 K (.tuple #[t7, t6]) w
set_option maxRecDepth 100000 in
theorem phase_Commit.sound {a0 a1 : Value} {w : World} {K : Value → World → Prop} (h : phase_Commit.sh a0 a1 w K) : Calls Try.prog 54 #[a0, a1] w (retP K) :=
  calls_of_sem mixed Try.func54 (by kernel_rfl) (phL := fun _ => []) (phJ := fun _ => none) (args := [a0, a1]) (by kernel_rfl) (cast (by kernel_rfl) h)

-- rutter/phase.Abort
abbrev phase_Abort.id : Nat := 55
set_option maxRecDepth 100000 in
def phase_Abort.sh (a0 a1 : Value) (w : World) (K : Value → World → Prop) : Prop :=
 bx 33 a0 w fun t1 w =>
 al #[(.int .i64 0), (.int .u64 0), (.int .i64 0), (.int .i64 0), (.int .i64 0), (.int .i64 0), (.int .i64 0), (.int .i64 0), (.int .i64 0)] 33 w fun t2 w =>
 (fun w : World =>
 la 9 t1 w fun t3 =>
 fc 70 #[(.int .i64 1), (.int .i64 0), (.func (.func 71) #[] #[])] w fun t4 w =>
 rk (la 9 t1 w) t3 <|
 fc 67 #[t3, a1, (.bool false), t4] w fun t5 w =>
 pv (ex t5 0) fun t6 =>
 pv (ex t5 1) fun t7 =>
 sa 9 t2 t6 w fun _ w =>
 la 9 t2 w fun t8 =>
 K (.tuple #[t8, t7]) w) w.drew
set_option maxRecDepth 100000 in
theorem phase_Abort.sound {a0 a1 : Value} {w : World} {K : Value → World → Prop} (h : phase_Abort.sh a0 a1 w K) : Calls Try.prog 55 #[a0, a1] w (retP K) :=
  calls_of_sem mixed Try.func55 (by kernel_rfl) (phL := fun _ => []) (phJ := fun _ => none) (args := [a0, a1]) (by kernel_rfl) (cast (by kernel_rfl) h)

-- rutter/rutterref06.Row
abbrev rutterref06_Row.id : Nat := 56
set_option maxRecDepth 100000 in
def rutterref06_Row.sh (a0 : Value) (w : World) (K : Value → World → Prop) : Prop :=
 bx 33 a0 w fun t1 w =>
 la 9 t1 w fun t2 =>
 fc 72 #[t2] w fun t3 w =>
 fx t1 0 fun t4 =>
 l1 t4 w fun t5 =>
 fc 73 #[t5, (.int .i64 0), (.int .i64 31)] w fun t6 w =>
 gq t6 true (fx t1 5) fun t7 =>
 gq t6 true (l1 t7 w) fun t8 =>
 ge t6 true (fc 73 #[t8, (.int .i64 1), (.int .i64 4294967296)] w) w fun t9 w =>
 pv (pk t6 t9 (.bool false)) fun t10 =>
 gq t10 true (fx t1 7) fun t11 =>
 gq t10 true (l1 t11 w) fun t12 =>
 ge t10 true (fc 73 #[t12, (.int .i64 1), (.int .i64 1099511627776)] w) w fun t13 w =>
 pv (pk t10 t13 (.bool false)) fun t14 =>
 gq t14 true (fx t1 8) fun t15 =>
 gq t14 true (l1 t15 w) fun t16 =>
 ge t14 true (fc 73 #[t16, (.int .i64 0), (.int .i64 1099511627776)] w) w fun t17 w =>
 pv (pk t14 t17 (.bool false)) fun t18 =>
 gq t3 true (pv (mv t18)) fun t19 =>
 pv (pk t3 t19 (.bool false)) fun t20 =>
 gq t20 true (fx t1 1) fun t21 =>
 gq t20 true (l1 t21 w) fun t22 =>
 gq t20 true (pv (bn .leq 24 t22 (.int .u64 281474976710655))) fun t23 =>
 pv (pk t20 t23 (.bool false)) fun t24 =>
 K t24 w
set_option maxRecDepth 100000 in
theorem rutterref06_Row.sound {a0 : Value} {w : World} {K : Value → World → Prop} (h : rutterref06_Row.sh a0 w K) : Calls Try.prog 56 #[a0] w (retP K) :=
  calls_of_sem mixed Try.func56 (by kernel_rfl) (phL := fun _ => []) (phJ := fun _ => none) (args := [a0]) (by kernel_rfl) (cast (by kernel_rfl) h)

-- (*rutter/rutterref10.Store).named
abbrev rutterref10_Store_named.id : Nat := 57
set_option maxRecDepth 100000 in
def rutterref10_Store_named.sh (a0 a1 : Value) (w : World) (K : Value → World → Prop) : Prop :=
 bx 33 a1 w fun t1 w =>
 fx t1 2 fun t2 =>
 l1 t2 w fun t3 =>
 fc 30 #[a0, t3] w fun t4 w =>
 fx t1 3 fun t5 =>
 l1 t5 w fun t6 =>
 fc 30 #[a0, t6] w fun t7 w =>
 fx t1 4 fun t8 =>
 l1 t8 w fun t9 =>
 fc 30 #[a0, t9] w fun t10 w =>
 fx t1 2 fun t11 =>
 l1 t11 w fun t12 =>
 pv (bn .lss 3 t12 (.int .i64 0)) fun t13 =>
 gq t13 false (pv (mv t4)) fun t14 =>
 pv (pk t13 (.bool true) t14) fun t15 =>
 gq t15 true (fx t1 3) fun t16 =>
 gq t15 true (l1 t16 w) fun t17 =>
 gq t15 true (pv (bn .lss 3 t17 (.int .i64 0))) fun t18 =>
 gq t15 true (pv (mv t18)) fun t19 =>
 gq t19 false (pv (mv t7)) fun t20 =>
 gq t15 true (pv (pk t19 (.bool true) t20)) fun t21 =>
 pv (pk t15 t21 (.bool false)) fun t22 =>
 gq t22 true (fx t1 4) fun t23 =>
 gq t22 true (l1 t23 w) fun t24 =>
 gq t22 true (pv (bn .lss 3 t24 (.int .i64 0))) fun t25 =>
 gq t22 true (pv (mv t25)) fun t26 =>
 gq t26 false (pv (mv t10)) fun t27 =>
 gq t22 true (pv (pk t26 (.bool true) t27)) fun t28 =>
 pv (pk t22 t28 (.bool false)) fun t29 =>
 K t29 w
set_option maxRecDepth 100000 in
theorem rutterref10_Store_named.sound {a0 a1 : Value} {w : World} {K : Value → World → Prop} (h : rutterref10_Store_named.sh a0 a1 w K) : Calls Try.prog 57 #[a0, a1] w (retP K) :=
  calls_of_sem mixed Try.func57 (by kernel_rfl) (phL := fun _ => []) (phJ := fun _ => none) (args := [a0, a1]) (by kernel_rfl) (cast (by kernel_rfl) h)

-- rutter/rutterref09.may
abbrev rutterref09_may.id : Nat := 58
set_option maxRecDepth 100000 in
def rutterref09_may.sh (a0 a1 : Value) (w : World) (K : Value → World → Prop) : Prop :=
 bx 33 a0 w fun t1 w =>
 la 9 t1 w fun t2 =>
 fc 56 #[t2] w fun t3 w =>
 gq t3 true (pv (mv a1)) fun t4 =>
 ge t3 true (fc 74 #[t4] w) w fun t5 w =>
 pv (pk t3 t5 (.bool false)) fun t6 =>
 K t6 w
set_option maxRecDepth 100000 in
theorem rutterref09_may.sound {a0 a1 : Value} {w : World} {K : Value → World → Prop} (h : rutterref09_may.sh a0 a1 w K) : Calls Try.prog 58 #[a0, a1] w (retP K) :=
  calls_of_sem mixed Try.func58 (by kernel_rfl) (phL := fun _ => []) (phJ := fun _ => none) (args := [a0, a1]) (by kernel_rfl) (cast (by kernel_rfl) h)

-- rutter/rutterref09.Abort
abbrev rutterref09_Abort.id : Nat := 59
set_option maxRecDepth 100000 in
def rutterref09_Abort.sh (a0 a1 : Value) (w : World) (K : Value → World → Prop) : Prop :=
 bx 33 a0 w fun t1 w =>
 al #[(.int .i64 0), (.int .u64 0), (.int .i64 0), (.int .i64 0), (.int .i64 0), (.int .i64 0), (.int .i64 0), (.int .i64 0), (.int .i64 0)] 33 w fun t2 w =>
 la 9 t1 w fun t3 =>
 fc 58 #[t3, a1] w fun t4 w =>
 pv (un .not t4) fun t5 =>
 cnd t5 (
 pv (bd 33 #[]) fun t6 =>
 sa 9 t2 t6 w fun _ w =>
 la 9 t2 w fun t7 =>
 K (.tuple #[t7, (.int .i64 1)]) w) (
 fx t1 6 fun t8 =>
 l1 t8 w fun t9 =>
 pv (be .neq 31 true t9 (.int .i64 1)) fun t10 =>
 cnd t10 (
 pv (bd 33 #[]) fun t11 =>
 sa 9 t2 t11 w fun _ w =>
 la 9 t2 w fun t12 =>
 K (.tuple #[t12, (.int .i64 8)]) w) (
 fx t1 3 fun t13 =>
 sw t13 (.int .i64 (-1)) w fun _ w =>
 fx t1 6 fun t14 =>
 sw t14 (.int .i64 0) w fun _ w =>
 la 9 t1 w fun t15 =>
 fc 75 #[t15, a1] w fun t16 w =>
 pv (ex t16 0) fun t17 =>
 pv (ex t16 1) fun t18 =>
 sa 9 t2 t17 w fun _ w =>
 la 9 t2 w fun t19 =>
 K (.tuple #[t19, t18]) w))
set_option maxRecDepth 100000 in
theorem rutterref09_Abort.sound {a0 a1 : Value} {w : World} {K : Value → World → Prop} (h : rutterref09_Abort.sh a0 a1 w K) : Calls Try.prog 59 #[a0, a1] w (retP K) :=
  calls_of_sem mixed Try.func59 (by kernel_rfl) (phL := fun _ => []) (phJ := fun _ => none) (args := [a0, a1]) (by kernel_rfl) (cast (by kernel_rfl) h)

-- rutter/rutterref09.Commit
abbrev rutterref09_Commit.id : Nat := 60
set_option maxRecDepth 100000 in
def rutterref09_Commit.sh (a0 a1 : Value) (w : World) (K : Value → World → Prop) : Prop :=
 bx 33 a0 w fun t1 w =>
 al #[(.int .i64 0), (.int .u64 0), (.int .i64 0), (.int .i64 0), (.int .i64 0), (.int .i64 0), (.int .i64 0), (.int .i64 0), (.int .i64 0)] 33 w fun t2 w =>
 la 9 t1 w fun t3 =>
 fc 58 #[t3, a1] w fun t4 w =>
 pv (un .not t4) fun t5 =>
 cnd t5 (
 pv (bd 33 #[]) fun t6 =>
 sa 9 t2 t6 w fun _ w =>
 la 9 t2 w fun t7 =>
 K (.tuple #[t7, (.int .i64 1)]) w) (
 fx t1 6 fun t8 =>
 l1 t8 w fun t9 =>
 pv (be .eql 31 true t9 (.int .i64 1)) fun t10 =>
 cnd t10 (
 la 9 t1 w fun t11 =>
 fc 76 #[t11, a1] w fun t12 w =>
 pv (ex t12 0) fun t13 =>
 pv (ex t12 1) fun t14 =>
 sa 9 t2 t13 w fun _ w =>
 la 9 t2 w fun t15 =>
 K (.tuple #[t15, t14]) w) (
 fx t1 6 fun t16 =>
 l1 t16 w fun t17 =>
 pv (be .neq 31 true t17 (.int .i64 2)) fun t18 =>
 cnd t18 (
 pv (bd 33 #[]) fun t19 =>
 sa 9 t2 t19 w fun _ w =>
 la 9 t2 w fun t20 =>
 K (.tuple #[t20, (.int .i64 8)]) w) (
 fx t1 4 fun t21 =>
 sw t21 (.int .i64 (-1)) w fun _ w =>
 fx t1 6 fun t22 =>
 sw t22 (.int .i64 0) w fun _ w =>
 la 9 t1 w fun t23 =>
 fc 75 #[t23, a1] w fun t24 w =>
 pv (ex t24 0) fun t25 =>
 pv (ex t24 1) fun t26 =>
 sa 9 t2 t25 w fun _ w =>
 la 9 t2 w fun t27 =>
 K (.tuple #[t27, t26]) w)))
set_option maxRecDepth 100000 in
theorem rutterref09_Commit.sound {a0 a1 : Value} {w : World} {K : Value → World → Prop} (h : rutterref09_Commit.sh a0 a1 w K) : Calls Try.prog 60 #[a0, a1] w (retP K) :=
  calls_of_sem mixed Try.func60 (by kernel_rfl) (phL := fun _ => []) (phJ := fun _ => none) (args := [a0, a1]) (by kernel_rfl) (cast (by kernel_rfl) h)

-- slices.IndexFunc[[]int,int]
abbrev slices_IndexFunc_int.id : Nat := 61
set_option maxRecDepth 100000 in
def slices_IndexFunc_int.sh (a0 a1 : Value) (w : World) (K : Value → World → Prop) : Prop :=
 ln 1 a0 w fun t1 =>
 LoopS (fun s2 w k3 => ∀ _ : List Value,
 pv (bn .lss 3 (nth s2 0) t1) fun t4 =>
 cnd t4 (
 iz 1 a0 (nth s2 0) fun t5 =>
 l1 t5 w fun t6 =>
 vc a1 #[t6] w fun t7 w =>
 cnd t7 (
 K (nth s2 0) w) (
 pv (bn .add 3 (nth s2 0) (.int .i64 1)) fun t8 =>
 k3 [t8] w)) (
 K (.int .i64 (-1)) w))
 [(.int .i64 0)] w
set_option maxRecDepth 100000 in
theorem slices_IndexFunc_int.sound {a0 a1 : Value} {w : World} {K : Value → World → Prop} (h : slices_IndexFunc_int.sh a0 a1 w K) : Calls Try.prog 61 #[a0, a1] w (retP K) :=
  calls_of_sem mixed Try.func61 (by kernel_rfl) (phL := fun n => bif Nat.beq n 2 then [8] else []) (phJ := fun _ => none) (args := [a0, a1]) (by kernel_rfl) (cast (by kernel_rfl) h)

-- rutter/control.upto
abbrev control_upto.id : Nat := 62
set_option maxRecDepth 100000 in
def control_upto.sh (a0 a1 a2 : Value) (w : World) (K : Value → World → Prop) : Prop :=
 pv (bn .geq 3 a0 a1) fun t1 =>
 gq t1 true (pv (mv a0)) fun t2 =>
 gq t1 true (pv (mv a2)) fun t3 =>
 gq t1 true (pv (bn .leq 3 t2 t3)) fun t4 =>
 pv (pk t1 t4 (.bool false)) fun t5 =>
 K t5 w
set_option maxRecDepth 100000 in
theorem control_upto.sound {a0 a1 a2 : Value} {w : World} {K : Value → World → Prop} (h : control_upto.sh a0 a1 a2 w K) : Calls Try.prog 62 #[a0, a1, a2] w (retP K) :=
  calls_of_sem mixed Try.func62 (by kernel_rfl) (phL := fun _ => []) (phJ := fun _ => none) (args := [a0, a1, a2]) (by kernel_rfl) (cast (by kernel_rfl) h)

-- rutter/control.chassis
abbrev control_chassis.id : Nat := 63
set_option maxRecDepth 100000 in
def control_chassis.sh (a0 a1 : Value) (w : World) (K : Value → World → Prop) : Prop :=
 fc 62 #[a0, (.int .i64 0), (.int .i64 15)] w fun t1 w =>
 gq t1 true (pv (mv a1)) fun t2 =>
 ge t1 true (fc 62 #[t2, (.int .i64 0), (.int .i64 15)] w) w fun t3 w =>
 pv (pk t1 t3 (.bool false)) fun t4 =>
 gq t4 true (pv (mv a0)) fun t5 =>
 gq t4 true (pv (mv a1)) fun t6 =>
 gq t4 true (pv (be .neq 3 false t5 t6)) fun t7 =>
 pv (pk t4 t7 (.bool false)) fun t8 =>
 K t8 w
set_option maxRecDepth 100000 in
theorem control_chassis.sound {a0 a1 : Value} {w : World} {K : Value → World → Prop} (h : control_chassis.sh a0 a1 w K) : Calls Try.prog 63 #[a0, a1] w (retP K) :=
  calls_of_sem mixed Try.func63 (by kernel_rfl) (phL := fun _ => []) (phJ := fun _ => none) (args := [a0, a1]) (by kernel_rfl) (cast (by kernel_rfl) h)

-- rutter/phase.do
abbrev phase_do.id : Nat := 67
set_option maxRecDepth 100000 in
def phase_do.sh (a0 a1 a2 a3 : Value) (w : World) (K : Value → World → Prop) : Prop :=
 bx 33 a0 w fun t1 w =>
 al #[(.int .i64 0), (.int .u64 0), (.int .i64 0), (.int .i64 0), (.int .i64 0), (.int .i64 0), (.int .i64 0), (.int .i64 0), (.int .i64 0)] 33 w fun t2 w =>
 gq a2 false (la 9 t1 w) fun t3 =>
 ge a2 false (fc 47 #[t3] w) w fun t4 w =>
 gq a2 false (pv (un .not t4)) fun t5 =>
 pv (pk a2 (.bool true) t5) fun t6 =>
 gq t6 false (pv (mv a1)) fun t7 =>
 gq t6 false (pv (bn .lss 3 t7 (.int .i64 0))) fun t8 =>
 pv (pk t6 (.bool true) t8) fun t9 =>
 gq t9 false (pv (mv a1)) fun t10 =>
 gq t9 false (pv (bn .gtr 3 t10 (.int .i64 1099511627776))) fun t11 =>
 pv (pk t9 (.bool true) t11) fun t12 =>
 cnd t12 (
 pv (bd 33 #[]) fun t13 =>
 sa 9 t2 t13 w fun _ w =>
 la 9 t2 w fun t14 =>
 K (.tuple #[t14, (.int .i64 1)]) w) (
 vc a3 #[t1] w fun t15 w =>
 pv (be .neq 45 true t15 (.int .i64 0)) fun t16 =>
 cnd t16 (
 pv (bd 33 #[]) fun t17 =>
 sa 9 t2 t17 w fun _ w =>
 la 9 t2 w fun t18 =>
 K (.tuple #[t18, t15]) w) (
 fx t1 7 fun t19 =>
 l1 t19 w fun t20 =>
 pv (bn .add 3 t20 (.int .i64 1)) fun t21 =>
 fx t1 7 fun t22 =>
 sw t22 t21 w fun _ w =>
 fx t1 8 fun t23 =>
 sw t23 a1 w fun _ w =>
 la 9 t1 w fun t24 =>
 fc 47 #[t24] w fun t25 w =>
 pv (un .not t25) fun t26 =>
 cnd t26 (
 pv (bd 33 #[]) fun t27 =>
 sa 9 t2 t27 w fun _ w =>
 la 9 t2 w fun t28 =>
 K (.tuple #[t28, (.int .i64 1)]) w) (
 la 9 t1 w fun t29 =>
 sa 9 t2 t29 w fun _ w =>
 la 9 t2 w fun t30 =>
 K (.tuple #[t30, (.int .i64 0)]) w)))
set_option maxRecDepth 100000 in
theorem phase_do.sound {a0 a1 a2 a3 : Value} {w : World} {K : Value → World → Prop} (h : phase_do.sh a0 a1 a2 a3 w K) : Calls Try.prog 67 #[a0, a1, a2, a3] w (retP K) :=
  calls_of_sem mixed Try.func67 (by kernel_rfl) (phL := fun _ => []) (phJ := fun _ => none) (args := [a0, a1, a2, a3]) (by kernel_rfl) (cast (by kernel_rfl) h)

-- rutter/phase.Commit$1
abbrev phase_Commit_1.id : Nat := 68
set_option maxRecDepth 100000 in
def phase_Commit_1.sh (a0 : Value) (w : World) (K : Value → World → Prop) : Prop :=
 pv (nc a0) fun t1 =>
 fx t1 6 fun t2 =>
 l1 t2 w fun t3 =>
 pv (be .eql 31 true t3 (.int .i64 1)) fun t4 =>
 cnd t4 (
 fc 69 #[a0] w fun t5 w =>
 K t5 w) (
 pv (be .eql 31 true t3 (.int .i64 2)) fun t6 =>
 cnd t6 (
 pv (nc a0) fun t7 =>
 fx t7 6 fun t8 =>
 sw t8 (.int .i64 0) w fun _ w =>
 pv (nc a0) fun t9 =>
 fx t9 4 fun t10 =>
 sw t10 (.int .i64 (-1)) w fun _ w =>
 K (.int .i64 0) w) (
 K (.int .i64 8) w))
set_option maxRecDepth 100000 in
theorem phase_Commit_1.sound {a0 : Value} {w : World} {K : Value → World → Prop} (h : phase_Commit_1.sh a0 w K) : Calls Try.prog 68 #[a0] w (retP K) :=
  calls_of_sem mixed Try.func68 (by kernel_rfl) (phL := fun _ => []) (phJ := fun _ => none) (args := [a0]) (by kernel_rfl) (cast (by kernel_rfl) h)

-- rutter/phase.move
abbrev phase_move.id : Nat := 69
set_option maxRecDepth 100000 in
def phase_move.sh (a0 : Value) (w : World) (K : Value → World → Prop) : Prop :=
 (fun w : World =>
 pv (nc a0) fun t1 =>
 fx t1 2 fun t2 =>
 l1 t2 w fun t3 =>
 pv (nc a0) fun t4 =>
 fx t4 3 fun t5 =>
 l1 t5 w fun t6 =>
 pv (nc a0) fun t7 =>
 fx t7 5 fun t8 =>
 l1 t8 w fun t9 =>
 pv (bn .add 3 t9 (.int .i64 1)) fun t10 =>
 pv (nc a0) fun t11 =>
 fx t11 6 fun t12 =>
 sw t12 (.int .i64 2) w fun _ w =>
 pv (nc a0) fun t13 =>
 fx t13 4 fun t14 =>
 sw t14 t3 w fun _ w =>
 pv (nc a0) fun t15 =>
 fx t15 2 fun t16 =>
 sw t16 t6 w fun _ w =>
 pv (nc a0) fun t17 =>
 fx t17 3 fun t18 =>
 sw t18 (.int .i64 (-1)) w fun _ w =>
 pv (nc a0) fun t19 =>
 fx t19 5 fun t20 =>
 sw t20 t10 w fun _ w =>
 K (.int .i64 0) w) w.drew
set_option maxRecDepth 100000 in
theorem phase_move.sound {a0 : Value} {w : World} {K : Value → World → Prop} (h : phase_move.sh a0 w K) : Calls Try.prog 69 #[a0] w (retP K) :=
  calls_of_sem mixed Try.func69 (by kernel_rfl) (phL := fun _ => []) (phJ := fun _ => none) (args := [a0]) (by kernel_rfl) (cast (by kernel_rfl) h)

-- rutter/phase.from
abbrev phase_from.id : Nat := 70
set_option maxRecDepth 100000 in
def phase_from.sh (a0 a1 a2 : Value) (w : World) (K : Value → World → Prop) : Prop :=
 bx 31 a0 w fun t1 w =>
 bx 31 a1 w fun t2 w =>
 bx 100 a2 w fun t3 w =>
 pv (mf (.func 88) #[] #[t1, t2, t3]) fun t4 =>
 K t4 w
set_option maxRecDepth 100000 in
theorem phase_from.sound {a0 a1 a2 : Value} {w : World} {K : Value → World → Prop} (h : phase_from.sh a0 a1 a2 w K) : Calls Try.prog 70 #[a0, a1, a2] w (retP K) :=
  calls_of_sem mixed Try.func70 (by kernel_rfl) (phL := fun _ => []) (phJ := fun _ => none) (args := [a0, a1, a2]) (by kernel_rfl) (cast (by kernel_rfl) h)

-- rutter/phase.Abort$1
abbrev phase_Abort_1.id : Nat := 71
set_option maxRecDepth 100000 in
def phase_Abort_1.sh (a0 : Value) (w : World) (K : Value → World → Prop) : Prop :=
 pv (nc a0) fun t1 =>
 fx t1 3 fun t2 =>
 sw t2 (.int .i64 (-1)) w fun _ w =>
 K (.tuple #[]) w
set_option maxRecDepth 100000 in
theorem phase_Abort_1.sound {a0 : Value} {w : World} {K : Value → World → Prop} (h : phase_Abort_1.sh a0 w K) : Calls Try.prog 71 #[a0] w (retP K) :=
  calls_of_sem mixed Try.func71 (by kernel_rfl) (phL := fun _ => []) (phJ := fun _ => none) (args := [a0]) (by kernel_rfl) (cast (by kernel_rfl) h)

-- rutter/rutterref06.who
abbrev rutterref06_who.id : Nat := 72
set_option maxRecDepth 100000 in
def rutterref06_who.sh (a0 : Value) (w : World) (K : Value → World → Prop) : Prop :=
 bx 33 a0 w fun t1 w =>
 fx t1 2 fun t2 =>
 l1 t2 w fun t3 =>
 fc 89 #[t3] w fun t4 w =>
 fx t1 3 fun t5 =>
 l1 t5 w fun t6 =>
 fc 89 #[t6] w fun t7 w =>
 fx t1 4 fun t8 =>
 l1 t8 w fun t9 =>
 fc 89 #[t9] w fun t10 w =>
 fx t1 6 fun t11 =>
 l1 t11 w fun t12 =>
 pv (be .eql 31 true t12 (.int .i64 0)) fun t13 =>
 cnd t13 (
 gq t4 true (fx t1 3) fun t14 =>
 gq t4 true (l1 t14 w) fun t15 =>
 gq t4 true (pv (be .eql 3 true t15 (.int .i64 (-1)))) fun t16 =>
 pv (pk t4 t16 (.bool false)) fun t17 =>
 gq t17 true (fx t1 4) fun t18 =>
 gq t17 true (l1 t18 w) fun t19 =>
 gq t17 true (pv (be .eql 3 true t19 (.int .i64 (-1)))) fun t20 =>
 pv (pk t17 t20 (.bool false)) fun t21 =>
 K t21 w) (
 pv (be .eql 31 true t12 (.int .i64 1)) fun t22 =>
 cnd t22 (
 gq t4 true (pv (mv t7)) fun t23 =>
 pv (pk t4 t23 (.bool false)) fun t24 =>
 gq t24 true (fx t1 4) fun t25 =>
 gq t24 true (l1 t25 w) fun t26 =>
 gq t24 true (pv (be .eql 3 true t26 (.int .i64 (-1)))) fun t27 =>
 pv (pk t24 t27 (.bool false)) fun t28 =>
 gq t28 true (fx t1 2) fun t29 =>
 gq t28 true (l1 t29 w) fun t30 =>
 gq t28 true (fx t1 3) fun t31 =>
 gq t28 true (l1 t31 w) fun t32 =>
 gq t28 true (pv (be .neq 3 false t30 t32)) fun t33 =>
 pv (pk t28 t33 (.bool false)) fun t34 =>
 K t34 w) (
 pv (be .eql 31 true t12 (.int .i64 2)) fun t35 =>
 cnd t35 (
 gq t4 true (pv (mv t10)) fun t36 =>
 pv (pk t4 t36 (.bool false)) fun t37 =>
 gq t37 true (fx t1 3) fun t38 =>
 gq t37 true (l1 t38 w) fun t39 =>
 gq t37 true (pv (be .eql 3 true t39 (.int .i64 (-1)))) fun t40 =>
 pv (pk t37 t40 (.bool false)) fun t41 =>
 gq t41 true (fx t1 2) fun t42 =>
 gq t41 true (l1 t42 w) fun t43 =>
 gq t41 true (fx t1 4) fun t44 =>
 gq t41 true (l1 t44 w) fun t45 =>
 gq t41 true (pv (be .neq 3 false t43 t45)) fun t46 =>
 pv (pk t41 t46 (.bool false)) fun t47 =>
 K t47 w) (
 pv (be .eql 31 true t12 (.int .i64 3)) fun t48 =>
 cnd t48 (
 fx t1 2 fun t49 =>
 l1 t49 w fun t50 =>
 pv (be .eql 3 true t50 (.int .i64 (-1))) fun t51 =>
 gq t51 true (fx t1 3) fun t52 =>
 gq t51 true (l1 t52 w) fun t53 =>
 gq t51 true (pv (be .eql 3 true t53 (.int .i64 (-1)))) fun t54 =>
 pv (pk t51 t54 (.bool false)) fun t55 =>
 gq t55 true (fx t1 4) fun t56 =>
 gq t55 true (l1 t56 w) fun t57 =>
 gq t55 true (pv (be .eql 3 true t57 (.int .i64 (-1)))) fun t58 =>
 pv (pk t55 t58 (.bool false)) fun t59 =>
 K t59 w) (
 K (.bool false) w))))
set_option maxRecDepth 100000 in
theorem rutterref06_who.sound {a0 : Value} {w : World} {K : Value → World → Prop} (h : rutterref06_who.sh a0 w K) : Calls Try.prog 72 #[a0] w (retP K) :=
  calls_of_sem mixed Try.func72 (by kernel_rfl) (phL := fun _ => []) (phJ := fun _ => none) (args := [a0]) (by kernel_rfl) (cast (by kernel_rfl) h)

-- rutter/rutterref05.In
abbrev rutterref05_In.id : Nat := 73
set_option maxRecDepth 100000 in
def rutterref05_In.sh (a0 a1 a2 : Value) (w : World) (K : Value → World → Prop) : Prop :=
 pv (bn .geq 3 a0 a1) fun t1 =>
 gq t1 true (pv (mv a0)) fun t2 =>
 gq t1 true (pv (mv a2)) fun t3 =>
 gq t1 true (pv (bn .leq 3 t2 t3)) fun t4 =>
 pv (pk t1 t4 (.bool false)) fun t5 =>
 K t5 w
set_option maxRecDepth 100000 in
theorem rutterref05_In.sound {a0 a1 a2 : Value} {w : World} {K : Value → World → Prop} (h : rutterref05_In.sh a0 a1 a2 w K) : Calls Try.prog 73 #[a0, a1, a2] w (retP K) :=
  calls_of_sem mixed Try.func73 (by kernel_rfl) (phL := fun _ => []) (phJ := fun _ => none) (args := [a0, a1, a2]) (by kernel_rfl) (cast (by kernel_rfl) h)

-- rutter/rutterref09.time
abbrev rutterref09_time.id : Nat := 74
set_option maxRecDepth 100000 in
def rutterref09_time.sh (a0 : Value) (w : World) (K : Value → World → Prop) : Prop :=
 fc 73 #[a0, (.int .i64 0), (.int .i64 1099511627776)] w fun t1 w =>
 K t1 w
set_option maxRecDepth 100000 in
theorem rutterref09_time.sound {a0 : Value} {w : World} {K : Value → World → Prop} (h : rutterref09_time.sh a0 w K) : Calls Try.prog 74 #[a0] w (retP K) :=
  calls_of_sem mixed Try.func74 (by kernel_rfl) (phL := fun _ => []) (phJ := fun _ => none) (args := [a0]) (by kernel_rfl) (cast (by kernel_rfl) h)

-- rutter/rutterref09.next
abbrev rutterref09_next.id : Nat := 75
set_option maxRecDepth 100000 in
def rutterref09_next.sh (a0 a1 : Value) (w : World) (K : Value → World → Prop) : Prop :=
 bx 33 a0 w fun t1 w =>
 al #[(.int .i64 0), (.int .u64 0), (.int .i64 0), (.int .i64 0), (.int .i64 0), (.int .i64 0), (.int .i64 0), (.int .i64 0), (.int .i64 0)] 33 w fun t2 w =>
 fx t1 7 fun t3 =>
 l1 t3 w fun t4 =>
 pv (bn .add 3 t4 (.int .i64 1)) fun t5 =>
 fx t1 7 fun t6 =>
 sw t6 t5 w fun _ w =>
 fx t1 8 fun t7 =>
 sw t7 a1 w fun _ w =>
 la 9 t1 w fun t8 =>
 fc 56 #[t8] w fun t9 w =>
 pv (un .not t9) fun t10 =>
 cnd t10 (
 pv (bd 33 #[]) fun t11 =>
 sa 9 t2 t11 w fun _ w =>
 la 9 t2 w fun t12 =>
 K (.tuple #[t12, (.int .i64 1)]) w) (
 la 9 t1 w fun t13 =>
 sa 9 t2 t13 w fun _ w =>
 la 9 t2 w fun t14 =>
 K (.tuple #[t14, (.int .i64 0)]) w)
set_option maxRecDepth 100000 in
theorem rutterref09_next.sound {a0 a1 : Value} {w : World} {K : Value → World → Prop} (h : rutterref09_next.sh a0 a1 w K) : Calls Try.prog 75 #[a0, a1] w (retP K) :=
  calls_of_sem mixed Try.func75 (by kernel_rfl) (phL := fun _ => []) (phJ := fun _ => none) (args := [a0, a1]) (by kernel_rfl) (cast (by kernel_rfl) h)

-- rutter/rutterref09.moved
abbrev rutterref09_moved.id : Nat := 76
set_option maxRecDepth 100000 in
def rutterref09_moved.sh (a0 a1 : Value) (w : World) (K : Value → World → Prop) : Prop :=
 bx 33 a0 w fun t1 w =>
 al #[(.int .i64 0), (.int .u64 0), (.int .i64 0), (.int .i64 0), (.int .i64 0), (.int .i64 0), (.int .i64 0), (.int .i64 0), (.int .i64 0)] 33 w fun t2 w =>
 fx t1 2 fun t3 =>
 l1 t3 w fun t4 =>
 fx t1 4 fun t5 =>
 sw t5 t4 w fun _ w =>
 fx t1 3 fun t6 =>
 l1 t6 w fun t7 =>
 fx t1 2 fun t8 =>
 sw t8 t7 w fun _ w =>
 fx t1 3 fun t9 =>
 sw t9 (.int .i64 (-1)) w fun _ w =>
 fx t1 6 fun t10 =>
 sw t10 (.int .i64 2) w fun _ w =>
 fx t1 5 fun t11 =>
 l1 t11 w fun t12 =>
 pv (bn .add 3 t12 (.int .i64 1)) fun t13 =>
 fx t1 5 fun t14 =>
 sw t14 t13 w fun _ w =>
 la 9 t1 w fun t15 =>
 fc 75 #[t15, a1] w fun t16 w =>
 pv (ex t16 0) fun t17 =>
 pv (ex t16 1) fun t18 =>
 sa 9 t2 t17 w fun _ w =>
 la 9 t2 w fun t19 =>
 K (.tuple #[t19, t18]) w
set_option maxRecDepth 100000 in
theorem rutterref09_moved.sound {a0 a1 : Value} {w : World} {K : Value → World → Prop} (h : rutterref09_moved.sh a0 a1 w K) : Calls Try.prog 76 #[a0, a1] w (retP K) :=
  calls_of_sem mixed Try.func76 (by kernel_rfl) (phL := fun _ => []) (phJ := fun _ => none) (args := [a0, a1]) (by kernel_rfl) (cast (by kernel_rfl) h)

-- rutter/phase.from$1
abbrev phase_from_1.id : Nat := 88
set_option maxRecDepth 100000 in
def phase_from_1.sh (a0 a1 a2 a3 : Value) (w : World) (K : Value → World → Prop) : Prop :=
 (fun w : World =>
 pv (nc a0) fun t1 =>
 fx t1 6 fun t2 =>
 l1 t2 w fun t3 =>
 l1 a1 w fun t4 =>
 pv (be .neq 31 false t3 t4) fun t5 =>
 cnd t5 (
 K (.int .i64 8) w) (
 l1 a2 w fun t6 =>
 pv (nc a0) fun t7 =>
 fx t7 6 fun t8 =>
 sw t8 t6 w fun _ w =>
 l1 a3 w fun t9 =>
 vc t9 #[a0] w fun _ w =>
 K (.int .i64 0) w)) w.drew
set_option maxRecDepth 100000 in
theorem phase_from_1.sound {a0 a1 a2 a3 : Value} {w : World} {K : Value → World → Prop} (h : phase_from_1.sh a0 a1 a2 a3 w K) : Calls Try.prog 88 #[a0, a1, a2, a3] w (retP K) :=
  calls_of_sem mixed Try.func88 (by kernel_rfl) (phL := fun _ => []) (phJ := fun _ => none) (args := [a0, a1, a2, a3]) (by kernel_rfl) (cast (by kernel_rfl) h)

-- rutter/rutterref06.chassis
abbrev rutterref06_chassis.id : Nat := 89
set_option maxRecDepth 100000 in
def rutterref06_chassis.sh (a0 : Value) (w : World) (K : Value → World → Prop) : Prop :=
 fc 73 #[a0, (.int .i64 0), (.int .i64 15)] w fun t1 w =>
 K t1 w
set_option maxRecDepth 100000 in
theorem rutterref06_chassis.sound {a0 : Value} {w : World} {K : Value → World → Prop} (h : rutterref06_chassis.sh a0 w K) : Calls Try.prog 89 #[a0] w (retP K) :=
  calls_of_sem mixed Try.func89 (by kernel_rfl) (phL := fun _ => []) (phJ := fun _ => none) (args := [a0]) (by kernel_rfl) (cast (by kernel_rfl) h)

@[go_sem] theorem bd_33_  {K : Value → Prop} : pv (bd 33 #[]) K = K (.agg #[(.int .i64 0), (.int .u64 0), (.int .i64 0), (.int .i64 0), (.int .i64 0), (.int .i64 0), (.int .i64 0), (.int .i64 0), (.int .i64 0)]) := pv_of fun _ => by kernel_rfl
@[go_sem] theorem bd_33_0_1_2_3_4_5_7 (x0 : Int) (x1 : Int) (x2 : Int) (x3 : Int) (x4 : Int) (x5 : Int) (x7 : Int) {K : Value → Prop} : pv (bd 33 #[(0, (.int .i64 x0)), (1, (.int .u64 x1)), (2, (.int .i64 x2)), (3, (.int .i64 x3)), (4, (.int .i64 x4)), (5, (.int .i64 x5)), (7, (.int .i64 x7))]) K = K (.agg #[(.int .i64 x0), (.int .u64 x1), (.int .i64 x2), (.int .i64 x3), (.int .i64 x4), (.int .i64 x5), (.int .i64 0), (.int .i64 x7), (.int .i64 0)]) := pv_of fun _ => by kernel_rfl
@[go_sem] theorem bd_36_  {K : Value → Prop} : pv (bd 36 #[]) K = K (.agg #[(.bool false), (.bool false), (.bool false), (.bool false), (.bool false), (.bool false), (.bool false), (.bool false), (.bool false), (.bool false), (.bool false), (.bool false), (.bool false), (.bool false), (.bool false), (.bool false), (.int .i64 0), (.int .u64 0), (.int .i64 0), (.int .i64 0), (.int .i64 0), (.int .i64 0), (.int .i64 0), (.int .i64 0), (.int .i64 0), (.int .i64 0), (.int .u64 0), (.int .i64 0), (.int .i64 0), (.int .i64 0), (.int .i64 0), (.int .i64 0), (.int .i64 0), (.int .i64 0), (.int .i64 0), (.int .u64 0), (.int .i64 0), (.int .i64 0), (.int .i64 0), (.int .i64 0), (.int .i64 0), (.int .i64 0), (.int .i64 0), (.int .i64 0), (.int .u64 0), (.int .i64 0), (.int .i64 0), (.int .i64 0), (.int .i64 0), (.int .i64 0), (.int .i64 0), (.int .i64 0), (.int .i64 0), (.int .u64 0), (.int .i64 0), (.int .i64 0), (.int .i64 0), (.int .i64 0), (.int .i64 0), (.int .i64 0), (.int .i64 0), (.int .i64 0), (.int .u64 0), (.int .i64 0), (.int .i64 0), (.int .i64 0), (.int .i64 0), (.int .i64 0), (.int .i64 0), (.int .i64 0), (.int .i64 0), (.int .u64 0), (.int .i64 0), (.int .i64 0), (.int .i64 0), (.int .i64 0), (.int .i64 0), (.int .i64 0), (.int .i64 0), (.int .i64 0), (.int .u64 0), (.int .i64 0), (.int .i64 0), (.int .i64 0), (.int .i64 0), (.int .i64 0), (.int .i64 0), (.int .i64 0), (.int .i64 0), (.int .u64 0), (.int .i64 0), (.int .i64 0), (.int .i64 0), (.int .i64 0), (.int .i64 0), (.int .i64 0), (.int .i64 0), (.int .i64 0), (.int .u64 0), (.int .i64 0), (.int .i64 0), (.int .i64 0), (.int .i64 0), (.int .i64 0), (.int .i64 0), (.int .i64 0), (.int .i64 0), (.int .u64 0), (.int .i64 0), (.int .i64 0), (.int .i64 0), (.int .i64 0), (.int .i64 0), (.int .i64 0), (.int .i64 0), (.int .i64 0), (.int .u64 0), (.int .i64 0), (.int .i64 0), (.int .i64 0), (.int .i64 0), (.int .i64 0), (.int .i64 0), (.int .i64 0), (.int .i64 0), (.int .u64 0), (.int .i64 0), (.int .i64 0), (.int .i64 0), (.int .i64 0), (.int .i64 0), (.int .i64 0), (.int .i64 0), (.int .i64 0), (.int .u64 0), (.int .i64 0), (.int .i64 0), (.int .i64 0), (.int .i64 0), (.int .i64 0), (.int .i64 0), (.int .i64 0), (.int .i64 0), (.int .u64 0), (.int .i64 0), (.int .i64 0), (.int .i64 0), (.int .i64 0), (.int .i64 0), (.int .i64 0), (.int .i64 0), (.int .i64 0), (.int .u64 0), (.int .i64 0), (.int .i64 0), (.int .i64 0), (.int .i64 0), (.int .i64 0), (.int .i64 0), (.int .i64 0), (.int .i64 0), (.int .u64 0), (.int .i64 0), (.int .i64 0), (.int .i64 0), (.int .i64 0), (.int .i64 0), (.int .i64 0), (.int .i64 0), (.int .i64 0), (.int .u64 0), (.int .i64 0), (.int .i64 0), (.int .i64 0), (.int .i64 0), (.int .i64 0), (.int .i64 0), (.int .i64 0), (.int .i64 0), (.int .u64 0), (.int .i64 0), (.int .i64 0), (.int .i64 0), (.int .i64 0), (.int .i64 0), (.int .i64 0), (.int .i64 0), (.int .i64 0), (.int .u64 0), (.int .i64 0), (.int .i64 0), (.int .i64 0), (.int .i64 0), (.int .i64 0), (.int .i64 0), (.int .i64 0), (.int .i64 0), (.int .u64 0), (.int .i64 0), (.int .i64 0), (.int .i64 0), (.int .i64 0), (.int .i64 0), (.int .i64 0), (.int .i64 0), (.int .i64 0), (.int .u64 0), (.int .i64 0), (.int .i64 0), (.int .i64 0), (.int .i64 0), (.int .i64 0), (.int .i64 0), (.int .i64 0), (.int .i64 0), (.int .u64 0), (.int .i64 0), (.int .i64 0), (.int .i64 0), (.int .i64 0), (.int .i64 0), (.int .i64 0), (.int .i64 0), (.int .i64 0), (.int .u64 0), (.int .i64 0), (.int .i64 0), (.int .i64 0), (.int .i64 0), (.int .i64 0), (.int .i64 0), (.int .i64 0), (.int .i64 0), (.int .u64 0), (.int .i64 0), (.int .i64 0), (.int .i64 0), (.int .i64 0), (.int .i64 0), (.int .i64 0), (.int .i64 0), (.int .i64 0), (.int .u64 0), (.int .i64 0), (.int .i64 0), (.int .i64 0), (.int .i64 0), (.int .i64 0), (.int .i64 0), (.int .i64 0), (.int .i64 0), (.int .u64 0), (.int .i64 0), (.int .i64 0), (.int .i64 0), (.int .i64 0), (.int .i64 0), (.int .i64 0), (.int .i64 0), (.int .i64 0), (.int .u64 0), (.int .i64 0), (.int .i64 0), (.int .i64 0), (.int .i64 0), (.int .i64 0), (.int .i64 0), (.int .i64 0), (.int .i64 0), (.int .u64 0), (.int .i64 0), (.int .i64 0), (.int .i64 0), (.int .i64 0), (.int .i64 0), (.int .i64 0), (.int .i64 0), (.int .i64 0), (.int .u64 0), (.int .i64 0), (.int .i64 0), (.int .i64 0), (.int .i64 0), (.int .i64 0), (.int .i64 0), (.int .i64 0), (.int .i64 0), (.int .u64 0), (.int .i64 0), (.int .i64 0), (.int .i64 0), (.int .i64 0), (.int .i64 0), (.int .i64 0), (.int .i64 0), (.int .i64 0), (.int .u64 0), (.int .i64 0), (.int .i64 0), (.int .i64 0), (.int .i64 0), (.int .i64 0), (.int .i64 0), (.int .i64 0)]) := pv_of fun _ => by kernel_rfl
@[go_sem] theorem bd_36_0_1 (x0_0 x0_1 x0_2 x0_3 x0_4 x0_5 x0_6 x0_7 x0_8 x0_9 x0_10 x0_11 x0_12 x0_13 x0_14 x0_15 : Value) (x1_0 x1_1 x1_2 x1_3 x1_4 x1_5 x1_6 x1_7 x1_8 x1_9 x1_10 x1_11 x1_12 x1_13 x1_14 x1_15 x1_16 x1_17 x1_18 x1_19 x1_20 x1_21 x1_22 x1_23 x1_24 x1_25 x1_26 x1_27 x1_28 x1_29 x1_30 x1_31 x1_32 x1_33 x1_34 x1_35 x1_36 x1_37 x1_38 x1_39 x1_40 x1_41 x1_42 x1_43 x1_44 x1_45 x1_46 x1_47 x1_48 x1_49 x1_50 x1_51 x1_52 x1_53 x1_54 x1_55 x1_56 x1_57 x1_58 x1_59 x1_60 x1_61 x1_62 x1_63 x1_64 x1_65 x1_66 x1_67 x1_68 x1_69 x1_70 x1_71 x1_72 x1_73 x1_74 x1_75 x1_76 x1_77 x1_78 x1_79 x1_80 x1_81 x1_82 x1_83 x1_84 x1_85 x1_86 x1_87 x1_88 x1_89 x1_90 x1_91 x1_92 x1_93 x1_94 x1_95 x1_96 x1_97 x1_98 x1_99 x1_100 x1_101 x1_102 x1_103 x1_104 x1_105 x1_106 x1_107 x1_108 x1_109 x1_110 x1_111 x1_112 x1_113 x1_114 x1_115 x1_116 x1_117 x1_118 x1_119 x1_120 x1_121 x1_122 x1_123 x1_124 x1_125 x1_126 x1_127 x1_128 x1_129 x1_130 x1_131 x1_132 x1_133 x1_134 x1_135 x1_136 x1_137 x1_138 x1_139 x1_140 x1_141 x1_142 x1_143 x1_144 x1_145 x1_146 x1_147 x1_148 x1_149 x1_150 x1_151 x1_152 x1_153 x1_154 x1_155 x1_156 x1_157 x1_158 x1_159 x1_160 x1_161 x1_162 x1_163 x1_164 x1_165 x1_166 x1_167 x1_168 x1_169 x1_170 x1_171 x1_172 x1_173 x1_174 x1_175 x1_176 x1_177 x1_178 x1_179 x1_180 x1_181 x1_182 x1_183 x1_184 x1_185 x1_186 x1_187 x1_188 x1_189 x1_190 x1_191 x1_192 x1_193 x1_194 x1_195 x1_196 x1_197 x1_198 x1_199 x1_200 x1_201 x1_202 x1_203 x1_204 x1_205 x1_206 x1_207 x1_208 x1_209 x1_210 x1_211 x1_212 x1_213 x1_214 x1_215 x1_216 x1_217 x1_218 x1_219 x1_220 x1_221 x1_222 x1_223 x1_224 x1_225 x1_226 x1_227 x1_228 x1_229 x1_230 x1_231 x1_232 x1_233 x1_234 x1_235 x1_236 x1_237 x1_238 x1_239 x1_240 x1_241 x1_242 x1_243 x1_244 x1_245 x1_246 x1_247 x1_248 x1_249 x1_250 x1_251 x1_252 x1_253 x1_254 x1_255 x1_256 x1_257 x1_258 x1_259 x1_260 x1_261 x1_262 x1_263 x1_264 x1_265 x1_266 x1_267 x1_268 x1_269 x1_270 x1_271 x1_272 x1_273 x1_274 x1_275 x1_276 x1_277 x1_278 x1_279 x1_280 x1_281 x1_282 x1_283 x1_284 x1_285 x1_286 x1_287 : Value) {K : Value → Prop} : pv (bd 36 #[(0, (.agg #[x0_0, x0_1, x0_2, x0_3, x0_4, x0_5, x0_6, x0_7, x0_8, x0_9, x0_10, x0_11, x0_12, x0_13, x0_14, x0_15])), (1, (.agg #[x1_0, x1_1, x1_2, x1_3, x1_4, x1_5, x1_6, x1_7, x1_8, x1_9, x1_10, x1_11, x1_12, x1_13, x1_14, x1_15, x1_16, x1_17, x1_18, x1_19, x1_20, x1_21, x1_22, x1_23, x1_24, x1_25, x1_26, x1_27, x1_28, x1_29, x1_30, x1_31, x1_32, x1_33, x1_34, x1_35, x1_36, x1_37, x1_38, x1_39, x1_40, x1_41, x1_42, x1_43, x1_44, x1_45, x1_46, x1_47, x1_48, x1_49, x1_50, x1_51, x1_52, x1_53, x1_54, x1_55, x1_56, x1_57, x1_58, x1_59, x1_60, x1_61, x1_62, x1_63, x1_64, x1_65, x1_66, x1_67, x1_68, x1_69, x1_70, x1_71, x1_72, x1_73, x1_74, x1_75, x1_76, x1_77, x1_78, x1_79, x1_80, x1_81, x1_82, x1_83, x1_84, x1_85, x1_86, x1_87, x1_88, x1_89, x1_90, x1_91, x1_92, x1_93, x1_94, x1_95, x1_96, x1_97, x1_98, x1_99, x1_100, x1_101, x1_102, x1_103, x1_104, x1_105, x1_106, x1_107, x1_108, x1_109, x1_110, x1_111, x1_112, x1_113, x1_114, x1_115, x1_116, x1_117, x1_118, x1_119, x1_120, x1_121, x1_122, x1_123, x1_124, x1_125, x1_126, x1_127, x1_128, x1_129, x1_130, x1_131, x1_132, x1_133, x1_134, x1_135, x1_136, x1_137, x1_138, x1_139, x1_140, x1_141, x1_142, x1_143, x1_144, x1_145, x1_146, x1_147, x1_148, x1_149, x1_150, x1_151, x1_152, x1_153, x1_154, x1_155, x1_156, x1_157, x1_158, x1_159, x1_160, x1_161, x1_162, x1_163, x1_164, x1_165, x1_166, x1_167, x1_168, x1_169, x1_170, x1_171, x1_172, x1_173, x1_174, x1_175, x1_176, x1_177, x1_178, x1_179, x1_180, x1_181, x1_182, x1_183, x1_184, x1_185, x1_186, x1_187, x1_188, x1_189, x1_190, x1_191, x1_192, x1_193, x1_194, x1_195, x1_196, x1_197, x1_198, x1_199, x1_200, x1_201, x1_202, x1_203, x1_204, x1_205, x1_206, x1_207, x1_208, x1_209, x1_210, x1_211, x1_212, x1_213, x1_214, x1_215, x1_216, x1_217, x1_218, x1_219, x1_220, x1_221, x1_222, x1_223, x1_224, x1_225, x1_226, x1_227, x1_228, x1_229, x1_230, x1_231, x1_232, x1_233, x1_234, x1_235, x1_236, x1_237, x1_238, x1_239, x1_240, x1_241, x1_242, x1_243, x1_244, x1_245, x1_246, x1_247, x1_248, x1_249, x1_250, x1_251, x1_252, x1_253, x1_254, x1_255, x1_256, x1_257, x1_258, x1_259, x1_260, x1_261, x1_262, x1_263, x1_264, x1_265, x1_266, x1_267, x1_268, x1_269, x1_270, x1_271, x1_272, x1_273, x1_274, x1_275, x1_276, x1_277, x1_278, x1_279, x1_280, x1_281, x1_282, x1_283, x1_284, x1_285, x1_286, x1_287]))]) K = K (.agg #[x0_0, x0_1, x0_2, x0_3, x0_4, x0_5, x0_6, x0_7, x0_8, x0_9, x0_10, x0_11, x0_12, x0_13, x0_14, x0_15, x1_0, x1_1, x1_2, x1_3, x1_4, x1_5, x1_6, x1_7, x1_8, x1_9, x1_10, x1_11, x1_12, x1_13, x1_14, x1_15, x1_16, x1_17, x1_18, x1_19, x1_20, x1_21, x1_22, x1_23, x1_24, x1_25, x1_26, x1_27, x1_28, x1_29, x1_30, x1_31, x1_32, x1_33, x1_34, x1_35, x1_36, x1_37, x1_38, x1_39, x1_40, x1_41, x1_42, x1_43, x1_44, x1_45, x1_46, x1_47, x1_48, x1_49, x1_50, x1_51, x1_52, x1_53, x1_54, x1_55, x1_56, x1_57, x1_58, x1_59, x1_60, x1_61, x1_62, x1_63, x1_64, x1_65, x1_66, x1_67, x1_68, x1_69, x1_70, x1_71, x1_72, x1_73, x1_74, x1_75, x1_76, x1_77, x1_78, x1_79, x1_80, x1_81, x1_82, x1_83, x1_84, x1_85, x1_86, x1_87, x1_88, x1_89, x1_90, x1_91, x1_92, x1_93, x1_94, x1_95, x1_96, x1_97, x1_98, x1_99, x1_100, x1_101, x1_102, x1_103, x1_104, x1_105, x1_106, x1_107, x1_108, x1_109, x1_110, x1_111, x1_112, x1_113, x1_114, x1_115, x1_116, x1_117, x1_118, x1_119, x1_120, x1_121, x1_122, x1_123, x1_124, x1_125, x1_126, x1_127, x1_128, x1_129, x1_130, x1_131, x1_132, x1_133, x1_134, x1_135, x1_136, x1_137, x1_138, x1_139, x1_140, x1_141, x1_142, x1_143, x1_144, x1_145, x1_146, x1_147, x1_148, x1_149, x1_150, x1_151, x1_152, x1_153, x1_154, x1_155, x1_156, x1_157, x1_158, x1_159, x1_160, x1_161, x1_162, x1_163, x1_164, x1_165, x1_166, x1_167, x1_168, x1_169, x1_170, x1_171, x1_172, x1_173, x1_174, x1_175, x1_176, x1_177, x1_178, x1_179, x1_180, x1_181, x1_182, x1_183, x1_184, x1_185, x1_186, x1_187, x1_188, x1_189, x1_190, x1_191, x1_192, x1_193, x1_194, x1_195, x1_196, x1_197, x1_198, x1_199, x1_200, x1_201, x1_202, x1_203, x1_204, x1_205, x1_206, x1_207, x1_208, x1_209, x1_210, x1_211, x1_212, x1_213, x1_214, x1_215, x1_216, x1_217, x1_218, x1_219, x1_220, x1_221, x1_222, x1_223, x1_224, x1_225, x1_226, x1_227, x1_228, x1_229, x1_230, x1_231, x1_232, x1_233, x1_234, x1_235, x1_236, x1_237, x1_238, x1_239, x1_240, x1_241, x1_242, x1_243, x1_244, x1_245, x1_246, x1_247, x1_248, x1_249, x1_250, x1_251, x1_252, x1_253, x1_254, x1_255, x1_256, x1_257, x1_258, x1_259, x1_260, x1_261, x1_262, x1_263, x1_264, x1_265, x1_266, x1_267, x1_268, x1_269, x1_270, x1_271, x1_272, x1_273, x1_274, x1_275, x1_276, x1_277, x1_278, x1_279, x1_280, x1_281, x1_282, x1_283, x1_284, x1_285, x1_286, x1_287]) := pv_of fun _ => by kernel_rfl
@[go_sem] theorem bd_59_0 (x0_0 x0_1 x0_2 x0_3 x0_4 x0_5 x0_6 x0_7 x0_8 : Value) {K : Value → Prop} : pv (bd 59 #[(0, (.agg #[x0_0, x0_1, x0_2, x0_3, x0_4, x0_5, x0_6, x0_7, x0_8]))]) K = K (.agg #[x0_0, x0_1, x0_2, x0_3, x0_4, x0_5, x0_6, x0_7, x0_8, (.int .i64 0)]) := pv_of fun _ => by kernel_rfl
@[go_sem] theorem bd_59_0_1 (x0_0 x0_1 x0_2 x0_3 x0_4 x0_5 x0_6 x0_7 x0_8 : Value) (x1 : Int) {K : Value → Prop} : pv (bd 59 #[(0, (.agg #[x0_0, x0_1, x0_2, x0_3, x0_4, x0_5, x0_6, x0_7, x0_8])), (1, (.int .i64 x1))]) K = K (.agg #[x0_0, x0_1, x0_2, x0_3, x0_4, x0_5, x0_6, x0_7, x0_8, (.int .i64 x1)]) := pv_of fun _ => by kernel_rfl
@[go_sem] theorem bd_63_0_1 (x0 : Option Nat) (x1 : Option Nat) {K : Value → Prop} : pv (bd 63 #[(0, (.map x0)), (1, (.map x1))]) K = K (.agg #[(.map x0), (.map x1)]) := pv_of fun _ => by kernel_rfl
@[go_sem] theorem bd_68_0_1 (x0_0 x0_1 x0_2 x0_3 x0_4 x0_5 x0_6 x0_7 x0_8 : Value) (x1 : Int) {K : Value → Prop} : pv (bd 68 #[(0, (.agg #[x0_0, x0_1, x0_2, x0_3, x0_4, x0_5, x0_6, x0_7, x0_8])), (1, (.int .i64 x1))]) K = K (.agg #[x0_0, x0_1, x0_2, x0_3, x0_4, x0_5, x0_6, x0_7, x0_8, (.int .i64 x1)]) := pv_of fun _ => by kernel_rfl
end Go.Proofs.Ytbkgijnmckchbaa
