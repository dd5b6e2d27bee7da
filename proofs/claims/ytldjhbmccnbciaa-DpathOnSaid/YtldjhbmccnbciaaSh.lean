import Derived.Test.YtldjhbmccnbciaaBy
namespace Go.Proofs.Ytldjhbmccnbciaa
open Go
set_option linter.unusedVariables false
instance : ITy 3 .i64 := ⟨by kernel_rfl⟩
instance : ITy 5 .u8 := ⟨by kernel_rfl⟩
instance : STy 9 := ⟨by kernel_rfl⟩
instance : SlT 22 70 11 := .of (by kernel_rfl) (by kernel_rfl) (by decide) (by decide)
instance : ITy 23 .u64 := ⟨by kernel_rfl⟩
instance : SlT 24 5 1 := .of (by kernel_rfl) (by kernel_rfl) (by decide) (by decide)
instance : PTy 31 := ⟨⟨72, by kernel_rfl⟩⟩
instance : ITy 32 .i64 := ⟨by kernel_rfl⟩
instance : ITy 35 .i64 := ⟨by kernel_rfl⟩
instance : SlT 46 92 11 := .of (by kernel_rfl) (by kernel_rfl) (by decide) (by decide)
instance : SlT 55 65 9 := .of (by kernel_rfl) (by kernel_rfl) (by decide) (by decide)
instance : SlT 60 3 1 := .of (by kernel_rfl) (by kernel_rfl) (by decide) (by decide)
instance : ITy 63 .i64 := ⟨by kernel_rfl⟩
instance : PTy 102 := ⟨⟨104, by kernel_rfl⟩⟩
instance : ITy 112 .u64 := ⟨by kernel_rfl⟩
instance : SlT 120 23 1 := .of (by kernel_rfl) (by kernel_rfl) (by decide) (by decide)
-- rutter/rutterlaw15.DpathGuest
abbrev rutterlaw15_DpathGuest.id : Nat := 3
set_option maxRecDepth 100000 in
def rutterlaw15_DpathGuest.sh (a0 a1 a2 : Value) (w : World) (K : Value → World → Prop) : Prop :=
 bx 26 a1 w fun t1 w =>
 bx 28 a2 w fun t2 w =>
 la 4 t1 w fun t3 =>
 fc 6 #[t3] w fun t4 w =>
 ln 1 a0 w fun t5 =>
 pv (bn .gtr 3 t5 (.int .i64 100)) fun t6 =>
 gq t6 false (pv (mv t4)) fun t7 =>
 gq t6 false (pv (un .not t7)) fun t8 =>
 pv (pk t6 (.bool true) t8) fun t9 =>
 cnd t9 (
 fc 7 #[] w fun t10 w =>
 K t10 w) (
 fc 8 #[a0] w fun t11 w =>
 pv (ex t11 0) fun t12 =>
 pv (ex t11 1) fun _ =>
 fx t2 0 fun t14 =>
 l1 t14 w fun t15 =>
 la 4 t1 w fun t16 =>
 fx t2 1 fun t17 =>
 l1 t17 w fun t18 =>
 fc 9 #[t12, t15, t16, t18] w fun t19 w =>
 pv (ex t19 0) fun t20 =>
 pv (ex t19 1) fun t21 =>
 al #[(.int .i64 0), (.int .i64 0), (.int .i64 0), (.int .i64 0), (.slice none 0 0), (.int .i64 0), (.int .i64 0), (.int .i64 0), (.int .i64 0), (.int .i64 0), (.int .i64 0), (.int .i64 0), (.slice none 0 0)] 39 w fun t22 w =>
 sa 13 t22 t20 w fun _ w =>
 (fun w : World =>
 fx t2 0 fun t23 =>
 l1 t23 w fun t24 =>
 la 4 t1 w fun t25 =>
 fx t2 1 fun t26 =>
 l1 t26 w fun t27 =>
 (fc 11 #[a0] w fun t28 w =>
 rk (l1 t23 w) t24 <|
 rk (la 4 t1 w) t25 <|
 rk (l1 t26 w) t27 <|
 (fc 10 #[t28, t24, t25, t27] w fun t29 w =>
 pv (ex t29 0) fun t30 =>
 pv (ex t29 1) fun t31 =>
 al #[(.int .i64 0), (.int .i64 0), (.int .i64 0), (.int .i64 0), (Go.Value.string { data := #[] }), (.int .i64 0), (.int .i64 0), (.int .i64 0), (.int .i64 0), (.int .i64 0), (.int .i64 0), (.int .i64 0), (.slice none 0 0)] 43 w fun t32 w =>
 sa 13 t32 t30 w fun _ w =>
 (fun w : World =>
 la 13 t22 w fun t33 =>
 la 13 t32 w fun t34 =>
 fc 13 #[t33] w fun t35 w =>
 rk (la 13 t32 w) t34 <|
 fc 12 #[t35, t34] w fun t36 w =>
 fc 7 #[] w fun t37 w =>
 gq t37 true (pv (mv t36)) fun t38 =>
 pv (pk t37 t38 (.bool false)) fun t39 =>
 gq t39 true (pv (mv t21)) fun t40 =>
 gq t39 true (pv (mv t31)) fun t41 =>
 gq t39 true (pv (be .eql 32 false t40 t41)) fun t42 =>
 pv (pk t39 t42 (.bool false)) fun t43 =>
 K t43 w) w.drew) ∧ (al #[(.int .i64 0), (.int .i64 0), (.int .i64 0), (.int .i64 0), (Go.Value.string { data := #[] }), (.int .i64 0), (.int .i64 0), (.int .i64 0), (.int .i64 0), (.int .i64 0), (.int .i64 0), (.int .i64 0), (.slice none 0 0)] 43 w fun t44 w =>
 rk (l1 t23 w) t24 <|
 rk (la 4 t1 w) t25 <|
 rk (l1 t26 w) t27 <|
 fc 10 #[t28, t24, t25, t27] w fun t45 w =>
 pv (ex t45 0) fun t46 =>
 pv (ex t45 1) fun t47 =>
 sa 13 t44 t46 w fun _ w =>
 (fun w : World =>
 la 13 t22 w fun t48 =>
 la 13 t44 w fun t49 =>
 fc 13 #[t48] w fun t50 w =>
 rk (la 13 t44 w) t49 <|
 fc 12 #[t50, t49] w fun t51 w =>
 fc 7 #[] w fun t52 w =>
 gq t52 true (pv (mv t51)) fun t53 =>
 pv (pk t52 t53 (.bool false)) fun t54 =>
 gq t54 true (pv (mv t21)) fun t55 =>
 gq t54 true (pv (mv t47)) fun t56 =>
 gq t54 true (pv (be .eql 32 false t55 t56)) fun t57 =>
 pv (pk t54 t57 (.bool false)) fun t58 =>
 K t58 w) w.drew)) ∧ (al #[(.int .i64 0), (.int .i64 0), (.int .i64 0), (.int .i64 0), (Go.Value.string { data := #[] }), (.int .i64 0), (.int .i64 0), (.int .i64 0), (.int .i64 0), (.int .i64 0), (.int .i64 0), (.int .i64 0), (.slice none 0 0)] 43 w fun t59 w =>
 rk (l1 t23 w) t24 <|
 rk (la 4 t1 w) t25 <|
 rk (l1 t26 w) t27 <|
 fc 11 #[a0] w fun t60 w =>
 rk (l1 t23 w) t24 <|
 rk (la 4 t1 w) t25 <|
 rk (l1 t26 w) t27 <|
 fc 10 #[t60, t24, t25, t27] w fun t61 w =>
 pv (ex t61 0) fun t62 =>
 pv (ex t61 1) fun t63 =>
 sa 13 t59 t62 w fun _ w =>
 (fun w : World =>
 la 13 t22 w fun t64 =>
 la 13 t59 w fun t65 =>
 fc 13 #[t64] w fun t66 w =>
 rk (la 13 t59 w) t65 <|
 fc 12 #[t66, t65] w fun t67 w =>
 fc 7 #[] w fun t68 w =>
 gq t68 true (pv (mv t67)) fun t69 =>
 pv (pk t68 t69 (.bool false)) fun t70 =>
 gq t70 true (pv (mv t21)) fun t71 =>
 gq t70 true (pv (mv t63)) fun t72 =>
 gq t70 true (pv (be .eql 32 false t71 t72)) fun t73 =>
 pv (pk t70 t73 (.bool false)) fun t74 =>
 K t74 w) w.drew)) w.drew)
set_option maxRecDepth 100000 in
theorem rutterlaw15_DpathGuest.sound {a0 a1 a2 : Value} {w : World} {K : Value → World → Prop} (h : rutterlaw15_DpathGuest.sh a0 a1 a2 w K) : Calls Try.prog 3 #[a0, a1, a2] w (retP K) :=
  calls_of_sem mixed Try.func3 (by kernel_rfl) (phL := fun _ => []) (phJ := fun _ => none) (args := [a0, a1, a2]) (by kernel_rfl) (cast (by kernel_rfl) h)

-- rutter/rutterlaw15.DpathTunnel
abbrev rutterlaw15_DpathTunnel.id : Nat := 4
set_option maxRecDepth 100000 in
def rutterlaw15_DpathTunnel.sh (a0 a1 a2 : Value) (w : World) (K : Value → World → Prop) : Prop :=
 bx 37 a1 w fun t1 w =>
 la 8 t1 w fun t2 =>
 fc 14 #[t2] w fun t3 w =>
 ln 1 a0 w fun t4 =>
 pv (bn .gtr 3 t4 (.int .i64 100)) fun t5 =>
 gq t5 false (pv (mv t3)) fun t6 =>
 gq t5 false (pv (un .not t6)) fun t7 =>
 pv (pk t5 (.bool true) t7) fun t8 =>
 cnd t8 (
 fc 7 #[] w fun t9 w =>
 K t9 w) (
 fc 8 #[a0] w fun t10 w =>
 pv (ex t10 0) fun t11 =>
 pv (ex t10 1) fun _ =>
 la 8 t1 w fun t13 =>
 fc 15 #[t11, a2, t13] w fun t14 w =>
 pv (ex t14 0) fun t15 =>
 pv (ex t14 1) fun t16 =>
 al #[(.int .i64 0), (.int .i64 0), (.int .i64 0), (.int .i64 0), (.slice none 0 0), (.int .i64 0), (.int .i64 0), (.int .i64 0), (.int .i64 0), (.int .i64 0), (.int .i64 0), (.int .i64 0), (.slice none 0 0)] 39 w fun t17 w =>
 sa 13 t17 t15 w fun _ w =>
 (fun w : World =>
 la 8 t1 w fun t18 =>
 (fc 11 #[a0] w fun t19 w =>
 rk (la 8 t1 w) t18 <|
 (fc 16 #[t19, a2, t18] w fun t20 w =>
 pv (ex t20 0) fun t21 =>
 pv (ex t20 1) fun t22 =>
 al #[(.int .i64 0), (.int .i64 0), (.int .i64 0), (.int .i64 0), (Go.Value.string { data := #[] }), (.int .i64 0), (.int .i64 0), (.int .i64 0), (.int .i64 0), (.int .i64 0), (.int .i64 0), (.int .i64 0), (.slice none 0 0)] 43 w fun t23 w =>
 sa 13 t23 t21 w fun _ w =>
 (fun w : World =>
 la 13 t17 w fun t24 =>
 la 13 t23 w fun t25 =>
 fc 13 #[t24] w fun t26 w =>
 rk (la 13 t23 w) t25 <|
 fc 12 #[t26, t25] w fun t27 w =>
 la 8 t1 w fun t28 =>
 fc 15 #[(.pointer none), a2, t28] w fun t29 w =>
 pv (ex t29 0) fun t30 =>
 pv (ex t29 1) fun t31 =>
 al #[(.int .i64 0), (.int .i64 0), (.int .i64 0), (.int .i64 0), (.slice none 0 0), (.int .i64 0), (.int .i64 0), (.int .i64 0), (.int .i64 0), (.int .i64 0), (.int .i64 0), (.int .i64 0), (.slice none 0 0)] 39 w fun t32 w =>
 sa 13 t32 t30 w fun _ w =>
 fc 7 #[] w fun t33 w =>
 gq t33 true (pv (mv t27)) fun t34 =>
 pv (pk t33 t34 (.bool false)) fun t35 =>
 gq t35 true (pv (mv t16)) fun t36 =>
 gq t35 true (pv (mv t22)) fun t37 =>
 gq t35 true (pv (be .eql 32 false t36 t37)) fun t38 =>
 pv (pk t35 t38 (.bool false)) fun t39 =>
 gq t39 true (pv (mv t31)) fun t40 =>
 gq t39 true (pv (mv t16)) fun t41 =>
 gq t39 true (pv (be .eql 32 false t40 t41)) fun t42 =>
 pv (pk t39 t42 (.bool false)) fun t43 =>
 gq t43 true (fx t32 0) fun t44 =>
 gq t43 true (l1 t44 w) fun t45 =>
 gq t43 true (pv (be .eql 3 true t45 (.int .i64 0))) fun t46 =>
 pv (pk t43 t46 (.bool false)) fun t47 =>
 K t47 w) w.drew) ∧ (al #[(.int .i64 0), (.int .i64 0), (.int .i64 0), (.int .i64 0), (Go.Value.string { data := #[] }), (.int .i64 0), (.int .i64 0), (.int .i64 0), (.int .i64 0), (.int .i64 0), (.int .i64 0), (.int .i64 0), (.slice none 0 0)] 43 w fun t48 w =>
 rk (la 8 t1 w) t18 <|
 fc 16 #[t19, a2, t18] w fun t49 w =>
 pv (ex t49 0) fun t50 =>
 pv (ex t49 1) fun t51 =>
 sa 13 t48 t50 w fun _ w =>
 (fun w : World =>
 la 13 t17 w fun t52 =>
 la 13 t48 w fun t53 =>
 fc 13 #[t52] w fun t54 w =>
 rk (la 13 t48 w) t53 <|
 fc 12 #[t54, t53] w fun t55 w =>
 la 8 t1 w fun t56 =>
 fc 15 #[(.pointer none), a2, t56] w fun t57 w =>
 pv (ex t57 0) fun t58 =>
 pv (ex t57 1) fun t59 =>
 al #[(.int .i64 0), (.int .i64 0), (.int .i64 0), (.int .i64 0), (.slice none 0 0), (.int .i64 0), (.int .i64 0), (.int .i64 0), (.int .i64 0), (.int .i64 0), (.int .i64 0), (.int .i64 0), (.slice none 0 0)] 39 w fun t60 w =>
 sa 13 t60 t58 w fun _ w =>
 fc 7 #[] w fun t61 w =>
 gq t61 true (pv (mv t55)) fun t62 =>
 pv (pk t61 t62 (.bool false)) fun t63 =>
 gq t63 true (pv (mv t16)) fun t64 =>
 gq t63 true (pv (mv t51)) fun t65 =>
 gq t63 true (pv (be .eql 32 false t64 t65)) fun t66 =>
 pv (pk t63 t66 (.bool false)) fun t67 =>
 gq t67 true (pv (mv t59)) fun t68 =>
 gq t67 true (pv (mv t16)) fun t69 =>
 gq t67 true (pv (be .eql 32 false t68 t69)) fun t70 =>
 pv (pk t67 t70 (.bool false)) fun t71 =>
 gq t71 true (fx t60 0) fun t72 =>
 gq t71 true (l1 t72 w) fun t73 =>
 gq t71 true (pv (be .eql 3 true t73 (.int .i64 0))) fun t74 =>
 pv (pk t71 t74 (.bool false)) fun t75 =>
 K t75 w) w.drew)) ∧ (al #[(.int .i64 0), (.int .i64 0), (.int .i64 0), (.int .i64 0), (Go.Value.string { data := #[] }), (.int .i64 0), (.int .i64 0), (.int .i64 0), (.int .i64 0), (.int .i64 0), (.int .i64 0), (.int .i64 0), (.slice none 0 0)] 43 w fun t76 w =>
 rk (la 8 t1 w) t18 <|
 fc 11 #[a0] w fun t77 w =>
 rk (la 8 t1 w) t18 <|
 fc 16 #[t77, a2, t18] w fun t78 w =>
 pv (ex t78 0) fun t79 =>
 pv (ex t78 1) fun t80 =>
 sa 13 t76 t79 w fun _ w =>
 (fun w : World =>
 la 13 t17 w fun t81 =>
 la 13 t76 w fun t82 =>
 fc 13 #[t81] w fun t83 w =>
 rk (la 13 t76 w) t82 <|
 fc 12 #[t83, t82] w fun t84 w =>
 la 8 t1 w fun t85 =>
 fc 15 #[(.pointer none), a2, t85] w fun t86 w =>
 pv (ex t86 0) fun t87 =>
 pv (ex t86 1) fun t88 =>
 al #[(.int .i64 0), (.int .i64 0), (.int .i64 0), (.int .i64 0), (.slice none 0 0), (.int .i64 0), (.int .i64 0), (.int .i64 0), (.int .i64 0), (.int .i64 0), (.int .i64 0), (.int .i64 0), (.slice none 0 0)] 39 w fun t89 w =>
 sa 13 t89 t87 w fun _ w =>
 fc 7 #[] w fun t90 w =>
 gq t90 true (pv (mv t84)) fun t91 =>
 pv (pk t90 t91 (.bool false)) fun t92 =>
 gq t92 true (pv (mv t16)) fun t93 =>
 gq t92 true (pv (mv t80)) fun t94 =>
 gq t92 true (pv (be .eql 32 false t93 t94)) fun t95 =>
 pv (pk t92 t95 (.bool false)) fun t96 =>
 gq t96 true (pv (mv t88)) fun t97 =>
 gq t96 true (pv (mv t16)) fun t98 =>
 gq t96 true (pv (be .eql 32 false t97 t98)) fun t99 =>
 pv (pk t96 t99 (.bool false)) fun t100 =>
 gq t100 true (fx t89 0) fun t101 =>
 gq t100 true (l1 t101 w) fun t102 =>
 gq t100 true (pv (be .eql 3 true t102 (.int .i64 0))) fun t103 =>
 pv (pk t100 t103 (.bool false)) fun t104 =>
 K t104 w) w.drew)) w.drew)
set_option maxRecDepth 100000 in
theorem rutterlaw15_DpathTunnel.sound {a0 a1 a2 : Value} {w : World} {K : Value → World → Prop} (h : rutterlaw15_DpathTunnel.sh a0 a1 a2 w K) : Calls Try.prog 4 #[a0, a1, a2] w (retP K) :=
  calls_of_sem mixed Try.func4 (by kernel_rfl) (phL := fun _ => []) (phJ := fun _ => none) (args := [a0, a1, a2]) (by kernel_rfl) (cast (by kernel_rfl) h)

-- rutter/rutterlaw15.DpathOn
abbrev rutterlaw15_DpathOn.id : Nat := 5
set_option maxRecDepth 100000 in
def rutterlaw15_DpathOn.sh (a0 a1 a2 : Value) (w : World) (K : Value → World → Prop) : Prop :=
 bx 57 a0 w fun t1 w =>
 bx 26 a1 w fun t2 w =>
 bx 28 a2 w fun t3 w =>
 la 4 t2 w fun t4 =>
 fc 6 #[t4] w fun t5 w =>
 gq t5 true (la 4 t2 w) fun t6 =>
 ge t5 true (fc 17 #[t6] w) w fun t7 w =>
 pv (pk t5 t7 (.bool false)) fun t8 =>
 LoopS (fun s9 w k10 => ∀ _ : List Value,
 pv (bn .lss 3 (nth s9 1) (.int .i64 3)) fun t11 =>
 cnd t11 (
 ja 3 1 t1 (nth s9 1) fun t12 =>
 l1 t12 w fun t13 =>
 ln 1 t13 w fun t14 =>
 pv (bn .leq 3 t14 (.int .i64 100)) fun t15 =>
 gq t15 true (pv (mv (nth s9 1))) fun t16 =>
 gq t15 true (ja 3 1 t1 t16) fun t17 =>
 gq t15 true (l1 t17 w) fun t18 =>
 ge t15 true (fc 18 #[t18] w) w fun t19 w =>
 pv (pk t15 t19 (.bool false)) fun t20 =>
 gq (nth s9 0) true (pv (mv t20)) fun t21 =>
 pv (pk (nth s9 0) t21 (.bool false)) fun t22 =>
 pv (bn .add 3 (nth s9 1) (.int .i64 1)) fun t23 =>
 k10 [t22, t23] w) (
 pv (un .not (nth s9 0)) fun t24 =>
 gq t24 false (fx t3 0) fun t25 =>
 gq t24 false (l1 t25 w) fun t26 =>
 gq t24 false (pv (bn .lss 3 t26 (.int .i64 0))) fun t27 =>
 pv (pk t24 (.bool true) t27) fun t28 =>
 gq t28 false (fx t3 0) fun t29 =>
 gq t28 false (l1 t29 w) fun t30 =>
 gq t28 false (pv (bn .gtr 3 t30 (.int .i64 15))) fun t31 =>
 pv (pk t28 (.bool true) t31) fun t32 =>
 gq t32 false (fx t3 1) fun t33 =>
 gq t32 false (l1 t33 w) fun t34 =>
 gq t32 false (pv (bn .lss 3 t34 (.int .i64 0))) fun t35 =>
 pv (pk t32 (.bool true) t35) fun t36 =>
 gq t36 false (fx t3 1) fun t37 =>
 gq t36 false (l1 t37 w) fun t38 =>
 gq t36 false (pv (bn .gtr 3 t38 (.int .i64 1099511627776))) fun t39 =>
 pv (pk t36 (.bool true) t39) fun t40 =>
 cnd t40 (
 fc 7 #[] w fun t41 w =>
 K t41 w) (
 la 4 t2 w fun t42 =>
 fc 19 #[t42] w fun t43 w =>
 fx t3 0 fun t44 =>
 l1 t44 w fun t45 =>
 o (bs 60 1 #[(0, t45)]) w fun t46 w =>
 fx t3 0 fun t47 =>
 l1 t47 w fun t48 =>
 ja 3 1 t1 (.int .i64 0) fun t49 =>
 l1 t49 w fun t50 =>
 fc 20 #[t48, t50] w fun t51 w =>
 pv (ex t51 0) fun t52 =>
 pv (ex t51 1) fun _ =>
 fx t3 0 fun t54 =>
 l1 t54 w fun t55 =>
 la 4 t2 w fun t56 =>
 fx t3 1 fun t57 =>
 l1 t57 w fun t58 =>
 fc 9 #[t52, t55, t56, t58] w fun t59 w =>
 pv (ex t59 0) fun t60 =>
 pv (ex t59 1) fun t61 =>
 al #[(.int .i64 0), (.int .i64 0), (.int .i64 0), (.int .i64 0), (.slice none 0 0), (.int .i64 0), (.int .i64 0), (.int .i64 0), (.int .i64 0), (.int .i64 0), (.int .i64 0), (.int .i64 0), (.slice none 0 0)] 39 w fun t62 w =>
 sa 13 t62 t60 w fun _ w =>
 LoopS (fun s63 w k64 => ∀ _ : List Value,
 pv (bn .lss 3 (nth s63 1) (.int .i64 3)) fun t65 =>
 gq t65 true (fx t62 0) fun t66 =>
 gq t65 true (l1 t66 w) fun t67 =>
 gq t65 true (pv (be .eql 3 true t67 (.int .i64 2))) fun t68 =>
 pv (pk t65 t68 (.bool false)) fun t69 =>
 cnd t69 (
 fx t62 5 fun t70 =>
 la 8 t70 w fun t71 =>
 al #[(.int .i64 0), (.int .i64 0), (.int .i64 0), (.int .i64 0), (.int .i64 0), (.int .i64 0), (.int .i64 0), (.slice none 0 0)] 37 w fun t72 w =>
 sa 8 t72 t71 w fun _ w =>
 fx t72 3 fun t73 =>
 l1 t73 w fun t74 =>
 o (bs 60 1 #[(0, t74)]) w fun t75 w =>
 o (ap #[60, 60] 60 #[false, false] (nth s63 0) t75) w fun t76 w =>
 (fun w : World =>
 fx t72 3 fun t77 =>
 l1 t77 w fun t78 =>
 ja 3 1 t1 (nth s63 1) fun t79 =>
 l1 t79 w fun t80 =>
 fc 20 #[t78, t80] w fun t81 w =>
 pv (ex t81 0) fun t82 =>
 pv (ex t81 1) fun _ =>
 fx t72 3 fun t84 =>
 l1 t84 w fun t85 =>
 la 8 t72 w fun t86 =>
 fc 15 #[t82, t85, t86] w fun t87 w =>
 pv (ex t87 0) fun t88 =>
 pv (ex t87 1) fun t89 =>
 al #[(.int .i64 0), (.int .i64 0), (.int .i64 0), (.int .i64 0), (.slice none 0 0), (.int .i64 0), (.int .i64 0), (.int .i64 0), (.int .i64 0), (.int .i64 0), (.int .i64 0), (.int .i64 0), (.slice none 0 0)] 39 w fun t90 w =>
 sa 13 t90 t88 w fun _ w =>
 pv (be .neq 32 true t89 (.int .i64 0)) fun t91 =>
 gq t91 false (fx t72 7) fun t92 =>
 gq t91 false (l1 t92 w) fun t93 =>
 gq t91 false (wv (cv 24 9 t93) w) fun t94 =>
 gq t91 false (pv (mv t43)) fun t95 =>
 gq t91 false (wv (cv 24 9 t95) w) fun t96 =>
 gq t91 false (pv (be .neq 9 false t94 t96)) fun t97 =>
 pv (pk t91 (.bool true) t97) fun t98 =>
 gq t98 false (fx t72 6) fun t99 =>
 gq t98 false (l1 t99 w) fun t100 =>
 gq t98 false (fx t3 1) fun t101 =>
 gq t98 false (l1 t101 w) fun t102 =>
 gq t98 false (pv (be .neq 3 false t100 t102)) fun t103 =>
 pv (pk t98 (.bool true) t103) fun t104 =>
 gq t104 false (fx t72 0) fun t105 =>
 gq t104 false (l1 t105 w) fun t106 =>
 gq t104 false (pv (be .eql 35 true t106 (.int .i64 2))) fun t107 =>
 gq t104 false (pv (mv t107)) fun t108 =>
 gq t108 true (fx t90 0) fun t109 =>
 gq t108 true (l1 t109 w) fun t110 =>
 gq t108 true (pv (be .eql 3 true t110 (.int .i64 2))) fun t111 =>
 gq t104 false (pv (pk t108 t111 (.bool false))) fun t112 =>
 pv (pk t104 (.bool true) t112) fun t113 =>
 cnd t113 (
 K (.bool false) w) (
 la 13 t90 w fun t114 =>
 sa 13 t62 t114 w fun _ w =>
 pv (bn .add 3 (nth s63 1) (.int .i64 1)) fun t115 =>
 k64 [t76, t115] w)) w.drew) (
 LoopS (fun s116 w k117 => ∀ _ : List Value,
 ln 1 (nth s63 0) w fun t118 =>
 pv (bn .lss 3 (nth s116 0) t118) fun t119 =>
 cnd t119 (
 LoopS (fun s120 w k121 => ∀ _ : List Value,
 pv (bn .lss 3 (nth s120 0) (nth s116 0)) fun t122 =>
 cnd t122 (
 (fun w : World =>
 iz 1 (nth s63 0) (nth s116 0) fun t123 =>
 l1 t123 w fun t124 =>
 iz 1 (nth s63 0) (nth s120 0) fun t125 =>
 l1 t125 w fun t126 =>
 pv (be .eql 3 false t124 t126) fun t127 =>
 cnd t127 (
 K (.bool false) w) (
 pv (bn .add 3 (nth s120 0) (.int .i64 1)) fun t128 =>
 k121 [t128] w)) w.drew) (
 pv (bn .add 3 (nth s116 0) (.int .i64 1)) fun t129 =>
 k117 [t129] w))
 [(.int .i64 0)] w) (
 fc 7 #[] w fun t130 w =>
 gq t130 true (pv (mv t61)) fun t131 =>
 gq t130 true (pv (be .eql 32 true t131 (.int .i64 0))) fun t132 =>
 pv (pk t130 t132 (.bool false)) fun t133 =>
 gq t133 true (fx t62 0) fun t134 =>
 gq t133 true (l1 t134 w) fun t135 =>
 gq t133 true (pv (be .neq 3 true t135 (.int .i64 2))) fun t136 =>
 pv (pk t133 t136 (.bool false)) fun t137 =>
 gq t137 true (fx t62 0) fun t138 =>
 gq t137 true (l1 t138 w) fun t139 =>
 gq t137 true (pv (be .neq 3 true t139 (.int .i64 1))) fun t140 =>
 gq t137 true (pv (mv t140)) fun t141 =>
 gq t141 false (fx t62 2) fun t142 =>
 gq t141 false (l1 t142 w) fun t143 =>
 gq t141 false (fx t62 3) fun t144 =>
 gq t141 false (l1 t144 w) fun t145 =>
 gq t141 false (pv (bn .geq 3 t143 t145)) fun t146 =>
 gq t141 false (pv (mv t146)) fun t147 =>
 gq t147 true (fx t62 4) fun t148 =>
 gq t147 true (l1 t148 w) fun t149 =>
 gq t147 true (wv (cv 24 9 t149) w) fun t150 =>
 gq t147 true (pv (mv t43)) fun t151 =>
 gq t147 true (wv (cv 24 9 t151) w) fun t152 =>
 gq t147 true (pv (be .eql 9 false t150 t152)) fun t153 =>
 gq t141 false (pv (pk t147 t153 (.bool false))) fun t154 =>
 gq t137 true (pv (pk t141 (.bool true) t154)) fun t155 =>
 pv (pk t137 t155 (.bool false)) fun t156 =>
 K t156 w))
 [(.int .i64 0)] w))
 [t46, (.int .i64 1)] w)))
 [t8, (.int .i64 0)] w
set_option maxRecDepth 100000 in
theorem rutterlaw15_DpathOn.sound {a0 a1 a2 : Value} {w : World} {K : Value → World → Prop} (h : rutterlaw15_DpathOn.sh a0 a1 a2 w K) : Calls Try.prog 5 #[a0, a1, a2] w (retP K) :=
  calls_of_sem mixed Try.func5 (by kernel_rfl) (phL := fun n => bif Nat.beq n 28 then [24] else bif Nat.beq n 25 then [23] else bif Nat.beq n 15 then [12, 17] else bif Nat.beq n 4 then [8, 9] else []) (phJ := fun _ => none) (args := [a0, a1, a2]) (by kernel_rfl) (cast (by kernel_rfl) h)

-- rutter/rutterlaw02.Fits
abbrev rutterlaw02_Fits.id : Nat := 6
set_option maxRecDepth 100000 in
def rutterlaw02_Fits.sh (a0 : Value) (w : World) (K : Value → World → Prop) : Prop :=
 bx 26 a0 w fun t1 w =>
 fx t1 3 fun t2 =>
 l1 t2 w fun t3 =>
 ln 1 t3 w fun t4 =>
 pv (bn .leq 3 t4 (.int .i64 3000)) fun t5 =>
 K t5 w
set_option maxRecDepth 100000 in
theorem rutterlaw02_Fits.sound {a0 : Value} {w : World} {K : Value → World → Prop} (h : rutterlaw02_Fits.sh a0 w K) : Calls Try.prog 6 #[a0] w (retP K) :=
  calls_of_sem mixed Try.func6 (by kernel_rfl) (phL := fun _ => []) (phJ := fun _ => none) (args := [a0]) (by kernel_rfl) (cast (by kernel_rfl) h)

-- rutter/rutterlaw15.alive
abbrev rutterlaw15_alive.id : Nat := 7
set_option maxRecDepth 100000 in
def rutterlaw15_alive.sh (w : World) (K : Value → World → Prop) : Prop :=
 pv (bd 65 #[(0, (.int .i64 3)), (1, (.int .u64 7)), (2, (.int .i64 2)), (3, (.int .i64 (-1))), (4, (.int .i64 1)), (5, (.int .i64 5)), (6, (.int .i64 2)), (7, (.int .i64 9))]) fun t1 =>
 al #[(.int .i64 0), (.int .u64 0), (.int .i64 0), (.int .i64 0), (.int .i64 0), (.int .i64 0), (.int .i64 0), (.int .i64 0), (.int .i64 0)] 65 w fun t2 w =>
 sa 9 t2 t1 w fun _ w =>
 la 9 t2 w fun t3 =>
 o (bs 55 1 #[(0, t3)]) w fun t4 w =>
 fc 20 #[(.int .i64 0), t4] w fun t5 w =>
 pv (ex t5 0) fun t6 =>
 pv (ex t5 1) fun _ =>
 la 9 t2 w fun t8 =>
 o (bs 55 1 #[(0, t8)]) w fun t9 w =>
 fc 20 #[(.int .i64 1), t9] w fun t10 w =>
 pv (ex t10 0) fun t11 =>
 pv (ex t10 1) fun _ =>
 la 9 t2 w fun t13 =>
 o (bs 55 1 #[(0, t13)]) w fun t14 w =>
 fc 20 #[(.int .i64 2), t14] w fun t15 w =>
 pv (ex t15 0) fun t16 =>
 pv (ex t15 1) fun _ =>
 pv (bd 26 #[(0, (.int .u64 7))]) fun t18 =>
 fc 9 #[t6, (.int .i64 0), t18, (.int .i64 4)] w fun t19 w =>
 pv (ex t19 0) fun t20 =>
 pv (ex t19 1) fun t21 =>
 al #[(.int .i64 0), (.int .i64 0), (.int .i64 0), (.int .i64 0), (.slice none 0 0), (.int .i64 0), (.int .i64 0), (.int .i64 0), (.int .i64 0), (.int .i64 0), (.int .i64 0), (.int .i64 0), (.slice none 0 0)] 39 w fun t22 w =>
 sa 13 t22 t20 w fun _ w =>
 o (ms 24 (.int .i64 14) (.int .i64 14)) w fun t23 w =>
 pv (bd 37 #[(0, (.int .i64 1)), (1, (.int .i64 0)), (2, (.int .i64 0)), (3, (.int .i64 1)), (4, (.int .i64 3)), (5, (.int .i64 4)), (6, (.int .i64 4)), (7, t23)]) fun t24 =>
 al #[(.int .i64 0), (.int .i64 0), (.int .i64 0), (.int .i64 0), (.int .i64 0), (.int .i64 0), (.int .i64 0), (.slice none 0 0)] 37 w fun t25 w =>
 sa 8 t25 t24 w fun _ w =>
 la 8 t25 w fun t26 =>
 fc 15 #[t11, (.int .i64 1), t26] w fun t27 w =>
 pv (ex t27 0) fun t28 =>
 pv (ex t27 1) fun t29 =>
 al #[(.int .i64 0), (.int .i64 0), (.int .i64 0), (.int .i64 0), (.slice none 0 0), (.int .i64 0), (.int .i64 0), (.int .i64 0), (.int .i64 0), (.int .i64 0), (.int .i64 0), (.int .i64 0), (.slice none 0 0)] 39 w fun t30 w =>
 sa 13 t30 t28 w fun _ w =>
 fx t30 5 fun t31 =>
 la 8 t31 w fun t32 =>
 fc 15 #[t16, (.int .i64 2), t32] w fun t33 w =>
 pv (ex t33 0) fun t34 =>
 pv (ex t33 1) fun t35 =>
 al #[(.int .i64 0), (.int .i64 0), (.int .i64 0), (.int .i64 0), (.slice none 0 0), (.int .i64 0), (.int .i64 0), (.int .i64 0), (.int .i64 0), (.int .i64 0), (.int .i64 0), (.int .i64 0), (.slice none 0 0)] 39 w fun t36 w =>
 sa 13 t36 t34 w fun _ w =>
 la 8 t25 w fun t37 =>
 fc 15 #[t16, (.int .i64 2), t37] w fun t38 w =>
 pv (ex t38 0) fun t39 =>
 pv (ex t38 1) fun t40 =>
 al #[(.int .i64 0), (.int .i64 0), (.int .i64 0), (.int .i64 0), (.slice none 0 0), (.int .i64 0), (.int .i64 0), (.int .i64 0), (.int .i64 0), (.int .i64 0), (.int .i64 0), (.int .i64 0), (.slice none 0 0)] 39 w fun t41 w =>
 sa 13 t41 t39 w fun _ w =>
 pv (be .eql 32 true t21 (.int .i64 0)) fun t42 =>
 gq t42 true (fx t22 0) fun t43 =>
 gq t42 true (l1 t43 w) fun t44 =>
 gq t42 true (pv (be .eql 3 true t44 (.int .i64 2))) fun t45 =>
 pv (pk t42 t45 (.bool false)) fun t46 =>
 gq t46 true (fx t22 5) fun t47 =>
 gq t46 true (fx t47 3) fun t48 =>
 gq t46 true (l1 t48 w) fun t49 =>
 gq t46 true (pv (be .eql 3 true t49 (.int .i64 2))) fun t50 =>
 pv (pk t46 t50 (.bool false)) fun t51 =>
 gq t51 true (fx t22 5) fun t52 =>
 gq t51 true (fx t52 5) fun t53 =>
 gq t51 true (l1 t53 w) fun t54 =>
 gq t51 true (pv (be .eql 3 true t54 (.int .i64 5))) fun t55 =>
 pv (pk t51 t55 (.bool false)) fun t56 =>
 gq t56 true (pv (mv t29)) fun t57 =>
 gq t56 true (pv (be .eql 32 true t57 (.int .i64 0))) fun t58 =>
 pv (pk t56 t58 (.bool false)) fun t59 =>
 gq t59 true (fx t30 0) fun t60 =>
 gq t59 true (l1 t60 w) fun t61 =>
 gq t59 true (pv (be .eql 3 true t61 (.int .i64 2))) fun t62 =>
 pv (pk t59 t62 (.bool false)) fun t63 =>
 gq t63 true (fx t30 5) fun t64 =>
 gq t63 true (fx t64 0) fun t65 =>
 gq t63 true (l1 t65 w) fun t66 =>
 gq t63 true (pv (be .eql 35 true t66 (.int .i64 2))) fun t67 =>
 pv (pk t63 t67 (.bool false)) fun t68 =>
 gq t68 true (fx t30 5) fun t69 =>
 gq t68 true (fx t69 2) fun t70 =>
 gq t68 true (l1 t70 w) fun t71 =>
 gq t68 true (pv (be .eql 3 true t71 (.int .i64 1))) fun t72 =>
 pv (pk t68 t72 (.bool false)) fun t73 =>
 gq t73 true (pv (mv t35)) fun t74 =>
 gq t73 true (pv (be .eql 32 true t74 (.int .i64 0))) fun t75 =>
 pv (pk t73 t75 (.bool false)) fun t76 =>
 gq t76 true (fx t36 0) fun t77 =>
 gq t76 true (l1 t77 w) fun t78 =>
 gq t76 true (pv (be .eql 3 true t78 (.int .i64 1))) fun t79 =>
 pv (pk t76 t79 (.bool false)) fun t80 =>
 gq t80 true (fx t36 2) fun t81 =>
 gq t80 true (l1 t81 w) fun t82 =>
 gq t80 true (pv (be .eql 3 true t82 (.int .i64 5))) fun t83 =>
 pv (pk t80 t83 (.bool false)) fun t84 =>
 gq t84 true (fx t36 3) fun t85 =>
 gq t84 true (l1 t85 w) fun t86 =>
 gq t84 true (pv (be .eql 3 true t86 (.int .i64 5))) fun t87 =>
 pv (pk t84 t87 (.bool false)) fun t88 =>
 gq t88 true (fx t36 4) fun t89 =>
 gq t88 true (l1 t89 w) fun t90 =>
 gq t88 true (ln 1 t90 w) fun t91 =>
 gq t88 true (pv (be .eql 3 true t91 (.int .i64 14))) fun t92 =>
 pv (pk t88 t92 (.bool false)) fun t93 =>
 gq t93 true (pv (mv t40)) fun t94 =>
 gq t93 true (pv (be .eql 32 true t94 (.int .i64 1))) fun t95 =>
 pv (pk t93 t95 (.bool false)) fun t96 =>
 K t96 w
set_option maxRecDepth 100000 in
theorem rutterlaw15_alive.sound {w : World} {K : Value → World → Prop} (h : rutterlaw15_alive.sh w K) : Calls Try.prog 7 #[] w (retP K) :=
  calls_of_sem mixed Try.func7 (by kernel_rfl) (phL := fun _ => []) (phJ := fun _ => none) (args := []) (by kernel_rfl) (cast (by kernel_rfl) h)

-- rutter/flow.New
abbrev flow_New.id : Nat := 8
set_option maxRecDepth 100000 in
def flow_New.sh (a0 : Value) (w : World) (K : Value → World → Prop) : Prop :=
 ln 1 a0 w fun t1 =>
 pv (bn .gtr 3 t1 (.int .i64 256)) fun t2 =>
 cnd t2 (
 K (.tuple #[(.pointer none), (.int .i64 3)]) w) (
 fc 21 #[a0] w fun t3 w =>
 fc 21 #[a0] w fun t4 w =>
 pv (bd 72 #[(0, t3), (1, t4)]) fun t5 =>
 bx 72 t5 w fun t6 w =>
 pv (nc t6) fun t7 =>
 fx t7 1 fun t8 =>
 l1 t8 w fun t9 =>
 fc 22 #[t9, (.func (.func 23) #[] #[])] w fun _ w =>
 K (.tuple #[t6, (.int .i64 0)]) w)
set_option maxRecDepth 100000 in
theorem flow_New.sound {a0 : Value} {w : World} {K : Value → World → Prop} (h : flow_New.sh a0 w K) : Calls Try.prog 8 #[a0] w (retP K) :=
  calls_of_sem mixed Try.func8 (by kernel_rfl) (phL := fun _ => []) (phJ := fun _ => none) (args := [a0]) (by kernel_rfl) (cast (by kernel_rfl) h)

-- rutter/dpath.Guest
abbrev dpath_Guest.id : Nat := 9
set_option maxRecDepth 100000 in
def dpath_Guest.sh (a0 a1 a2 a3 : Value) (w : World) (K : Value → World → Prop) : Prop :=
 bx 3 a1 w fun t1 w =>
 bx 26 a2 w fun t2 w =>
 bx 3 a3 w fun t3 w =>
 al #[(.int .i64 0), (.int .i64 0), (.int .i64 0), (.int .i64 0), (.slice none 0 0), (.int .i64 0), (.int .i64 0), (.int .i64 0), (.int .i64 0), (.int .i64 0), (.int .i64 0), (.int .i64 0), (.slice none 0 0)] 39 w fun t4 w =>
 la 4 t2 w fun t5 =>
 fc 25 #[t5] w fun t6 w =>
 pv (ex t6 0) fun t7 =>
 pv (ex t6 1) fun t8 =>
 al #[(.slice none 0 0)] 24 w fun t9 w =>
 sw t9 t7 w fun _ w =>
 pv (be .neq 32 true t8 (.int .i64 0)) fun t10 =>
 gq t10 false (l1 t1 w) fun t11 =>
 gq t10 false (pv (bn .lss 3 t11 (.int .i64 0))) fun t12 =>
 pv (pk t10 (.bool true) t12) fun t13 =>
 gq t13 false (l1 t1 w) fun t14 =>
 gq t13 false (pv (bn .geq 3 t14 (.int .i64 16))) fun t15 =>
 pv (pk t13 (.bool true) t15) fun t16 =>
 gq t16 false (l1 t3 w) fun t17 =>
 gq t16 false (pv (bn .lss 3 t17 (.int .i64 0))) fun t18 =>
 pv (pk t16 (.bool true) t18) fun t19 =>
 gq t19 false (l1 t3 w) fun t20 =>
 gq t19 false (pv (bn .gtr 3 t20 (.int .i64 1099511627776))) fun t21 =>
 pv (pk t19 (.bool true) t21) fun t22 =>
 cnd t22 (
 pv (bd 39 #[]) fun t23 =>
 sa 13 t4 t23 w fun _ w =>
 la 13 t4 w fun t24 =>
 K (.tuple #[t24, (.int .i64 1)]) w) (
 pv (mf (.func 26) #[] #[t9]) fun t25 =>
 pv (mf (.func 27) #[] #[t1, t3, t9]) fun t26 =>
 pv (bd 81 #[(1, t25), (2, t26)]) fun t27 =>
 al #[.nilFunc, .nilFunc, .nilFunc] 81 w fun t28 w =>
 sa 3 t28 t27 w fun _ w =>
 la 3 t28 w fun t29 =>
 fx t2 0 fun t30 =>
 l1 t30 w fun t31 =>
 pv (bd 84 #[(1, t31), (4, (.int .i64 (-1)))]) fun t32 =>
 fc 29 #[t29, a0, t32] w fun t33 w =>
 sa 13 t4 t33 w fun _ w =>
 la 13 t4 w fun t34 =>
 K (.tuple #[t34, (.int .i64 0)]) w)
set_option maxRecDepth 100000 in
theorem dpath_Guest.sound {a0 a1 a2 a3 : Value} {w : World} {K : Value → World → Prop} (h : dpath_Guest.sh a0 a1 a2 a3 w K) : Calls Try.prog 9 #[a0, a1, a2, a3] w (retP K) :=
  calls_of_sem mixed Try.func9 (by kernel_rfl) (phL := fun _ => []) (phJ := fun _ => none) (args := [a0, a1, a2, a3]) (by kernel_rfl) (cast (by kernel_rfl) h)

-- rutter/rutterref15.Guest
abbrev rutterref15_Guest.id : Nat := 10
set_option maxRecDepth 100000 in
def rutterref15_Guest.sh (a0 a1 a2 a3 : Value) (w : World) (K : Value → World → Prop) : Prop :=
 bx 26 a2 w fun t1 w =>
 al #[(.int .i64 0), (.int .i64 0), (.int .i64 0), (.int .i64 0), (Go.Value.string { data := #[] }), (.int .i64 0), (.int .i64 0), (.int .i64 0), (.int .i64 0), (.int .i64 0), (.int .i64 0), (.int .i64 0), (.slice none 0 0)] 43 w fun t2 w =>
 la 4 t1 w fun t3 =>
 fc 17 #[t3] w fun t4 w =>
 pv (un .not t4) fun t5 =>
 gq t5 false (pv (mv a1)) fun t6 =>
 gq t5 false (pv (bn .lss 3 t6 (.int .i64 0))) fun t7 =>
 pv (pk t5 (.bool true) t7) fun t8 =>
 gq t8 false (pv (mv a1)) fun t9 =>
 gq t8 false (pv (bn .gtr 3 t9 (.int .i64 15))) fun t10 =>
 pv (pk t8 (.bool true) t10) fun t11 =>
 gq t11 false (pv (mv a3)) fun t12 =>
 gq t11 false (pv (bn .lss 3 t12 (.int .i64 0))) fun t13 =>
 pv (pk t11 (.bool true) t13) fun t14 =>
 gq t14 false (pv (mv a3)) fun t15 =>
 gq t14 false (pv (bn .gtr 3 t15 (.int .i64 1099511627776))) fun t16 =>
 pv (pk t14 (.bool true) t16) fun t17 =>
 cnd t17 (
 pv (bd 43 #[]) fun t18 =>
 sa 13 t2 t18 w fun _ w =>
 la 13 t2 w fun t19 =>
 K (.tuple #[t19, (.int .i64 1)]) w) (
 la 4 t1 w fun t20 =>
 fc 19 #[t20] w fun t21 w =>
 fx t1 0 fun t22 =>
 l1 t22 w fun t23 =>
 pv (bd 88 #[(1, t23), (4, (.int .i64 (-1)))]) fun t24 =>
 fc 30 #[a0, t24] w fun t25 w =>
 pv (ex t25 0) fun t26 =>
 pv (ex t25 1) fun _ =>
 al #[(.int .i64 0), (.int .i64 0), (.int .i64 0), (.int .i64 0)] 85 w fun t28 w =>
 sa 4 t28 t26 w fun _ w =>
 fx t28 0 fun t29 =>
 l1 t29 w fun t30 =>
 pv (be .eql 3 true t30 (.int .i64 1)) fun t31 =>
 cnd t31 (
 fx t28 1 fun t32 =>
 l1 t32 w fun t33 =>
 fx t28 3 fun t34 =>
 l1 t34 w fun t35 =>
 fx t28 3 fun t36 =>
 l1 t36 w fun t37 =>
 wv (cv 24 9 t21) w fun t38 =>
 pv (bd 43 #[(0, (.int .i64 1)), (1, t33), (2, t35), (3, t37), (4, t38)]) fun t39 =>
 sa 13 t2 t39 w fun _ w =>
 la 13 t2 w fun t40 =>
 K (.tuple #[t40, (.int .i64 0)]) w) (
 pv (be .eql 3 true t30 (.int .i64 2)) fun t41 =>
 cnd t41 (
 fx t28 2 fun t42 =>
 l1 t42 w fun t43 =>
 fx t28 1 fun t44 =>
 l1 t44 w fun t45 =>
 fx t28 3 fun t46 =>
 l1 t46 w fun t47 =>
 pv (bd 37 #[(0, (.int .i64 1)), (1, a1), (2, a1), (3, t43), (4, t45), (5, t47), (6, a3), (7, t21)]) fun t48 =>
 fc 31 #[t48] w fun t49 w =>
 sa 13 t2 t49 w fun _ w =>
 la 13 t2 w fun t50 =>
 K (.tuple #[t50, (.int .i64 0)]) w) (
 pv (bd 43 #[]) fun t51 =>
 sa 13 t2 t51 w fun _ w =>
 la 13 t2 w fun t52 =>
 K (.tuple #[t52, (.int .i64 0)]) w)))
set_option maxRecDepth 100000 in
theorem rutterref15_Guest.sound {a0 a1 a2 a3 : Value} {w : World} {K : Value → World → Prop} (h : rutterref15_Guest.sh a0 a1 a2 a3 w K) : Calls Try.prog 10 #[a0, a1, a2, a3] w (retP K) :=
  calls_of_sem mixed Try.func10 (by kernel_rfl) (phL := fun _ => []) (phJ := fun _ => none) (args := [a0, a1, a2, a3]) (by kernel_rfl) (cast (by kernel_rfl) h)

-- rutter/rutterlaw13.Of
abbrev rutterlaw13_Of.id : Nat := 11
set_option maxRecDepth 100000 in
def rutterlaw13_Of.sh (a0 : Value) (w : World) (K : Value → World → Prop) : Prop :=
 LoopS (fun s1 w k2 => ∀ _ : List Value,
 ln 1 a0 w fun t3 =>
 pv (bn .lss 3 (nth s1 1) t3) fun t4 =>
 cnd t4 (
 iz 11 a0 (nth s1 1) fun t5 =>
 la 11 t5 w fun t6 =>
 al #[(.int .i64 0), (.int .i64 0), (.int .u64 0), (.int .i64 0), (.int .i64 0), (.int .i64 0), (.int .i64 0), (.int .i64 0), (.int .i64 0), (.int .i64 0), (.int .i64 0)] 70 w fun t7 w =>
 sa 11 t7 t6 w fun _ w =>
 (fun w : World =>
 fx t7 0 fun t8 =>
 l1 t8 w fun t9 =>
 fx t7 1 fun t10 =>
 l1 t10 w fun t11 =>
 fx t7 2 fun t12 =>
 l1 t12 w fun t13 =>
 fx t7 3 fun t14 =>
 l1 t14 w fun t15 =>
 fx t7 4 fun t16 =>
 l1 t16 w fun t17 =>
 fx t7 5 fun t18 =>
 l1 t18 w fun t19 =>
 fx t7 6 fun t20 =>
 l1 t20 w fun t21 =>
 fx t7 7 fun t22 =>
 la 4 t22 w fun t23 =>
 fc 32 #[t23] w fun t24 w =>
 rk (l1 t8 w) t9 <|
 rk (l1 t10 w) t11 <|
 rk (l1 t12 w) t13 <|
 rk (l1 t14 w) t15 <|
 rk (l1 t16 w) t17 <|
 rk (l1 t18 w) t19 <|
 rk (l1 t20 w) t21 <|
 pv (bd 92 #[(0, t9), (1, t11), (2, t13), (3, t15), (4, t17), (5, t19), (6, t21), (7, t24)]) fun t25 =>
 o (bs 46 1 #[(0, t25)]) w fun t26 w =>
 o (ap #[46, 46] 46 #[false, false] (nth s1 0) t26) w fun t27 w =>
 pv (bn .add 3 (nth s1 1) (.int .i64 1)) fun t28 =>
 k2 [t27, t28] w) w.drew) (
 K (nth s1 0) w))
 [(.slice none 0 0), (.int .i64 0)] w
set_option maxRecDepth 100000 in
theorem rutterlaw13_Of.sound {a0 : Value} {w : World} {K : Value → World → Prop} (h : rutterlaw13_Of.sh a0 w K) : Calls Try.prog 11 #[a0] w (retP K) :=
  calls_of_sem mixed Try.func11 (by kernel_rfl) (phL := fun n => bif Nat.beq n 3 then [3, 4] else []) (phJ := fun _ => none) (args := [a0]) (by kernel_rfl) (cast (by kernel_rfl) h)

-- rutter/rutterref15.Same
abbrev rutterref15_Same.id : Nat := 12
set_option maxRecDepth 100000 in
def rutterref15_Same.sh (a0 a1 : Value) (w : World) (K : Value → World → Prop) : Prop :=
 bx 43 a0 w fun t1 w =>
 bx 43 a1 w fun t2 w =>
 fx t1 5 fun t3 =>
 la 8 t3 w fun t4 =>
 fx t2 5 fun t5 =>
 la 8 t5 w fun t6 =>
 fc 33 #[t4, t6] w fun t7 w =>
 fx t1 0 fun t8 =>
 l1 t8 w fun t9 =>
 fx t2 0 fun t10 =>
 l1 t10 w fun t11 =>
 pv (be .eql 3 false t9 t11) fun t12 =>
 gq t12 true (fx t1 1) fun t13 =>
 gq t12 true (l1 t13 w) fun t14 =>
 gq t12 true (fx t2 1) fun t15 =>
 gq t12 true (l1 t15 w) fun t16 =>
 gq t12 true (pv (be .eql 3 false t14 t16)) fun t17 =>
 pv (pk t12 t17 (.bool false)) fun t18 =>
 gq t18 true (fx t1 2) fun t19 =>
 gq t18 true (l1 t19 w) fun t20 =>
 gq t18 true (fx t2 2) fun t21 =>
 gq t18 true (l1 t21 w) fun t22 =>
 gq t18 true (pv (be .eql 3 false t20 t22)) fun t23 =>
 pv (pk t18 t23 (.bool false)) fun t24 =>
 gq t24 true (fx t1 3) fun t25 =>
 gq t24 true (l1 t25 w) fun t26 =>
 gq t24 true (fx t2 3) fun t27 =>
 gq t24 true (l1 t27 w) fun t28 =>
 gq t24 true (pv (be .eql 3 false t26 t28)) fun t29 =>
 pv (pk t24 t29 (.bool false)) fun t30 =>
 gq t30 true (fx t1 4) fun t31 =>
 gq t30 true (l1 t31 w) fun t32 =>
 gq t30 true (fx t2 4) fun t33 =>
 gq t30 true (l1 t33 w) fun t34 =>
 gq t30 true (pv (be .eql 9 false t32 t34)) fun t35 =>
 pv (pk t30 t35 (.bool false)) fun t36 =>
 gq t36 true (pv (mv t7)) fun t37 =>
 pv (pk t36 t37 (.bool false)) fun t38 =>
 K t38 w
set_option maxRecDepth 100000 in
theorem rutterref15_Same.sound {a0 a1 : Value} {w : World} {K : Value → World → Prop} (h : rutterref15_Same.sh a0 a1 w K) : Calls Try.prog 12 #[a0, a1] w (retP K) :=
  calls_of_sem mixed Try.func12 (by kernel_rfl) (phL := fun _ => []) (phJ := fun _ => none) (args := [a0, a1]) (by kernel_rfl) (cast (by kernel_rfl) h)

-- rutter/rutterlaw15.Of
abbrev rutterlaw15_Of.id : Nat := 13
set_option maxRecDepth 100000 in
def rutterlaw15_Of.sh (a0 : Value) (w : World) (K : Value → World → Prop) : Prop :=
 bx 39 a0 w fun t1 w =>
 al #[(.int .i64 0), (.int .i64 0), (.int .i64 0), (.int .i64 0), (Go.Value.string { data := #[] }), (.int .i64 0), (.int .i64 0), (.int .i64 0), (.int .i64 0), (.int .i64 0), (.int .i64 0), (.int .i64 0), (.slice none 0 0)] 43 w fun t2 w =>
 fx t1 0 fun t3 =>
 l1 t3 w fun t4 =>
 fx t1 1 fun t5 =>
 l1 t5 w fun t6 =>
 fx t1 2 fun t7 =>
 l1 t7 w fun t8 =>
 fx t1 3 fun t9 =>
 l1 t9 w fun t10 =>
 fx t1 4 fun t11 =>
 l1 t11 w fun t12 =>
 wv (cv 24 9 t12) w fun t13 =>
 fx t1 5 fun t14 =>
 la 8 t14 w fun t15 =>
 pv (bd 43 #[(0, t4), (1, t6), (2, t8), (3, t10), (4, t13), (5, t15)]) fun t16 =>
 sa 13 t2 t16 w fun _ w =>
 la 13 t2 w fun t17 =>
 K t17 w
set_option maxRecDepth 100000 in
theorem rutterlaw15_Of.sound {a0 : Value} {w : World} {K : Value → World → Prop} (h : rutterlaw15_Of.sh a0 w K) : Calls Try.prog 13 #[a0] w (retP K) :=
  calls_of_sem mixed Try.func13 (by kernel_rfl) (phL := fun _ => []) (phJ := fun _ => none) (args := [a0]) (by kernel_rfl) (cast (by kernel_rfl) h)

-- rutter/rutterlaw05.Fits
abbrev rutterlaw05_Fits.id : Nat := 14
set_option maxRecDepth 100000 in
def rutterlaw05_Fits.sh (a0 : Value) (w : World) (K : Value → World → Prop) : Prop :=
 bx 37 a0 w fun t1 w =>
 fx t1 7 fun t2 =>
 l1 t2 w fun t3 =>
 ln 1 t3 w fun t4 =>
 pv (bn .leq 3 t4 (.int .i64 3000)) fun t5 =>
 K t5 w
set_option maxRecDepth 100000 in
theorem rutterlaw05_Fits.sound {a0 : Value} {w : World} {K : Value → World → Prop} (h : rutterlaw05_Fits.sh a0 w K) : Calls Try.prog 14 #[a0] w (retP K) :=
  calls_of_sem mixed Try.func14 (by kernel_rfl) (phL := fun _ => []) (phJ := fun _ => none) (args := [a0]) (by kernel_rfl) (cast (by kernel_rfl) h)

-- rutter/dpath.Tunnel
abbrev dpath_Tunnel.id : Nat := 15
set_option maxRecDepth 100000 in
def dpath_Tunnel.sh (a0 a1 a2 : Value) (w : World) (K : Value → World → Prop) : Prop :=
 bx 37 a2 w fun t1 w =>
 al #[(.int .i64 0), (.int .i64 0), (.int .i64 0), (.int .i64 0), (.slice none 0 0), (.int .i64 0), (.int .i64 0), (.int .i64 0), (.int .i64 0), (.int .i64 0), (.int .i64 0), (.int .i64 0), (.slice none 0 0)] 39 w fun t2 w =>
 la 8 t1 w fun t3 =>
 fc 34 #[t3] w fun t4 w =>
 pv (un .not t4) fun t5 =>
 gq t5 false (fx t1 3) fun t6 =>
 gq t5 false (l1 t6 w) fun t7 =>
 gq t5 false (pv (mv a1)) fun t8 =>
 gq t5 false (pv (be .neq 3 false t7 t8)) fun t9 =>
 pv (pk t5 (.bool true) t9) fun t10 =>
 cnd t10 (
 pv (bd 39 #[]) fun t11 =>
 sa 13 t2 t11 w fun _ w =>
 la 13 t2 w fun t12 =>
 K (.tuple #[t12, (.int .i64 1)]) w) (
 pv (mf (.func 35) #[] #[t1]) fun t13 =>
 pv (mf (.func 37) #[] #[t1]) fun t14 =>
 pv (bd 81 #[(1, t13), (2, t14)]) fun t15 =>
 al #[.nilFunc, .nilFunc, .nilFunc] 81 w fun t16 w =>
 sa 3 t16 t15 w fun _ w =>
 la 3 t16 w fun t17 =>
 fx t1 0 fun t18 =>
 l1 t18 w fun t19 =>
 fx t1 4 fun t20 =>
 l1 t20 w fun t21 =>
 fx t1 5 fun t22 =>
 l1 t22 w fun t23 =>
 fx t1 1 fun t24 =>
 l1 t24 w fun t25 =>
 pv (bd 84 #[(0, t19), (2, t21), (3, t23), (4, t25)]) fun t26 =>
 fc 29 #[t17, a0, t26] w fun t27 w =>
 sa 13 t2 t27 w fun _ w =>
 la 13 t2 w fun t28 =>
 K (.tuple #[t28, (.int .i64 0)]) w)
set_option maxRecDepth 100000 in
theorem dpath_Tunnel.sound {a0 a1 a2 : Value} {w : World} {K : Value → World → Prop} (h : dpath_Tunnel.sh a0 a1 a2 w K) : Calls Try.prog 15 #[a0, a1, a2] w (retP K) :=
  calls_of_sem mixed Try.func15 (by kernel_rfl) (phL := fun _ => []) (phJ := fun _ => none) (args := [a0, a1, a2]) (by kernel_rfl) (cast (by kernel_rfl) h)

-- rutter/rutterref15.Tunnel
abbrev rutterref15_Tunnel.id : Nat := 16
set_option maxRecDepth 100000 in
def rutterref15_Tunnel.sh (a0 a1 a2 : Value) (w : World) (K : Value → World → Prop) : Prop :=
 bx 37 a2 w fun t1 w =>
 al #[(.int .i64 0), (.int .i64 0), (.int .i64 0), (.int .i64 0), (Go.Value.string { data := #[] }), (.int .i64 0), (.int .i64 0), (.int .i64 0), (.int .i64 0), (.int .i64 0), (.int .i64 0), (.int .i64 0), (.slice none 0 0)] 43 w fun t2 w =>
 la 8 t1 w fun t3 =>
 fc 39 #[t3] w fun t4 w =>
 pv (un .not t4) fun t5 =>
 gq t5 false (fx t1 3) fun t6 =>
 gq t5 false (l1 t6 w) fun t7 =>
 gq t5 false (pv (mv a1)) fun t8 =>
 gq t5 false (pv (be .neq 3 false t7 t8)) fun t9 =>
 pv (pk t5 (.bool true) t9) fun t10 =>
 cnd t10 (
 pv (bd 43 #[]) fun t11 =>
 sa 13 t2 t11 w fun _ w =>
 la 13 t2 w fun t12 =>
 K (.tuple #[t12, (.int .i64 1)]) w) (
 fx t1 0 fun t13 =>
 l1 t13 w fun t14 =>
 fx t1 4 fun t15 =>
 l1 t15 w fun t16 =>
 fx t1 5 fun t17 =>
 l1 t17 w fun t18 =>
 fx t1 1 fun t19 =>
 l1 t19 w fun t20 =>
 pv (bd 88 #[(0, t14), (2, t16), (3, t18), (4, t20)]) fun t21 =>
 fc 30 #[a0, t21] w fun t22 w =>
 pv (ex t22 0) fun t23 =>
 pv (ex t22 1) fun _ =>
 al #[(.int .i64 0), (.int .i64 0), (.int .i64 0), (.int .i64 0)] 85 w fun t25 w =>
 sa 4 t25 t23 w fun _ w =>
 fx t25 0 fun t26 =>
 l1 t26 w fun t27 =>
 pv (be .eql 3 true t27 (.int .i64 1)) fun t28 =>
 cnd t28 (
 fx t25 1 fun t29 =>
 l1 t29 w fun t30 =>
 fx t25 3 fun t31 =>
 l1 t31 w fun t32 =>
 fx t1 5 fun t33 =>
 l1 t33 w fun t34 =>
 fx t1 7 fun t35 =>
 l1 t35 w fun t36 =>
 wv (cv 24 9 t36) w fun t37 =>
 pv (bd 43 #[(0, (.int .i64 1)), (1, t30), (2, t32), (3, t34), (4, t37)]) fun t38 =>
 sa 13 t2 t38 w fun _ w =>
 la 13 t2 w fun t39 =>
 K (.tuple #[t39, (.int .i64 0)]) w) (
 pv (be .eql 3 true t27 (.int .i64 2)) fun t40 =>
 cnd t40 (
 la 8 t1 w fun t41 =>
 fx t25 2 fun t42 =>
 l1 t42 w fun t43 =>
 fx t25 3 fun t44 =>
 l1 t44 w fun t45 =>
 fc 40 #[t41, t43, t45] w fun t46 w =>
 pv (ex t46 0) fun t47 =>
 pv (ex t46 1) fun t48 =>
 al #[(.int .i64 0), (.int .i64 0), (.int .i64 0), (.int .i64 0), (.int .i64 0), (.int .i64 0), (.int .i64 0), (.slice none 0 0)] 37 w fun t49 w =>
 sa 8 t49 t47 w fun _ w =>
 pv (be .neq 32 true t48 (.int .i64 0)) fun t50 =>
 cnd t50 (
 pv (bd 43 #[]) fun t51 =>
 sa 13 t2 t51 w fun _ w =>
 la 13 t2 w fun t52 =>
 K (.tuple #[t52, (.int .i64 0)]) w) (
 la 8 t49 w fun t53 =>
 fc 31 #[t53] w fun t54 w =>
 sa 13 t2 t54 w fun _ w =>
 la 13 t2 w fun t55 =>
 K (.tuple #[t55, (.int .i64 0)]) w)) (
 pv (bd 43 #[]) fun t56 =>
 sa 13 t2 t56 w fun _ w =>
 la 13 t2 w fun t57 =>
 K (.tuple #[t57, (.int .i64 0)]) w)))
set_option maxRecDepth 100000 in
theorem rutterref15_Tunnel.sound {a0 a1 a2 : Value} {w : World} {K : Value → World → Prop} (h : rutterref15_Tunnel.sh a0 a1 a2 w K) : Calls Try.prog 16 #[a0, a1, a2] w (retP K) :=
  calls_of_sem mixed Try.func16 (by kernel_rfl) (phL := fun _ => []) (phJ := fun _ => none) (args := [a0, a1, a2]) (by kernel_rfl) (cast (by kernel_rfl) h)

-- rutter/rutterref02.Right
abbrev rutterref02_Right.id : Nat := 17
set_option maxRecDepth 100000 in
def rutterref02_Right.sh (a0 : Value) (w : World) (K : Value → World → Prop) : Prop :=
 bx 26 a0 w fun t1 w =>
 fx t1 0 fun t2 =>
 l1 t2 w fun t3 =>
 pv (bn .leq 23 t3 (.int .u64 281474976710655)) fun t4 =>
 gq t4 true (fx t1 1) fun t5 =>
 gq t4 true (l1 t5 w) fun t6 =>
 gq t4 true (pv (bn .leq 23 t6 (.int .u64 281474976710655))) fun t7 =>
 pv (pk t4 t7 (.bool false)) fun t8 =>
 gq t8 true (fx t1 2) fun t9 =>
 gq t8 true (l1 t9 w) fun t10 =>
 gq t8 true (pv (bn .geq 3 t10 (.int .i64 0))) fun t11 =>
 pv (pk t8 t11 (.bool false)) fun t12 =>
 gq t12 true (fx t1 2) fun t13 =>
 gq t12 true (l1 t13 w) fun t14 =>
 gq t12 true (pv (bn .leq 3 t14 (.int .i64 65535))) fun t15 =>
 pv (pk t12 t15 (.bool false)) fun t16 =>
 gq t16 true (fx t1 3) fun t17 =>
 gq t16 true (l1 t17 w) fun t18 =>
 gq t16 true (ln 1 t18 w) fun t19 =>
 gq t16 true (pv (bn .leq 3 t19 (.int .i64 1500))) fun t20 =>
 pv (pk t16 t20 (.bool false)) fun t21 =>
 K t21 w
set_option maxRecDepth 100000 in
theorem rutterref02_Right.sound {a0 : Value} {w : World} {K : Value → World → Prop} (h : rutterref02_Right.sh a0 w K) : Calls Try.prog 17 #[a0] w (retP K) :=
  calls_of_sem mixed Try.func17 (by kernel_rfl) (phL := fun _ => []) (phJ := fun _ => none) (args := [a0]) (by kernel_rfl) (cast (by kernel_rfl) h)

-- rutter/rutterref14.Stand
abbrev rutterref14_Stand.id : Nat := 18
set_option maxRecDepth 100000 in
def rutterref14_Stand.sh (a0 : Value) (w : World) (K : Value → World → Prop) : Prop :=
 LoopS (fun s1 w k2 => ∀ _ : List Value,
 ln 1 a0 w fun t3 =>
 pv (bn .lss 3 (nth s1 0) t3) fun t4 =>
 cnd t4 (
 iz 9 a0 (nth s1 0) fun t5 =>
 la 9 t5 w fun t6 =>
 fc 41 #[t6] w fun t7 w =>
 pv (un .not t7) fun t8 =>
 cnd t8 (
 K (.bool false) w) (
 LoopS (fun s9 w k10 => ∀ _ : List Value,
 pv (bn .lss 3 (nth s9 0) (nth s1 0)) fun t11 =>
 cnd t11 (
 (fun w : World =>
 iz 9 a0 (nth s9 0) fun t12 =>
 fx t12 0 fun t13 =>
 l1 t13 w fun t14 =>
 iz 9 a0 (nth s1 0) fun t15 =>
 fx t15 0 fun t16 =>
 l1 t16 w fun t17 =>
 pv (be .eql 3 false t14 t17) fun t18 =>
 cnd t18 (
 K (.bool false) w) (
 pv (bn .add 3 (nth s9 0) (.int .i64 1)) fun t19 =>
 k10 [t19] w)) w.drew) (
 pv (bn .add 3 (nth s1 0) (.int .i64 1)) fun t20 =>
 k2 [t20] w))
 [(.int .i64 0)] w)) (
 K (.bool true) w))
 [(.int .i64 0)] w
set_option maxRecDepth 100000 in
theorem rutterref14_Stand.sound {a0 : Value} {w : World} {K : Value → World → Prop} (h : rutterref14_Stand.sh a0 w K) : Calls Try.prog 18 #[a0] w (retP K) :=
  calls_of_sem mixed Try.func18 (by kernel_rfl) (phL := fun n => bif Nat.beq n 8 then [5] else bif Nat.beq n 2 then [3] else []) (phJ := fun _ => none) (args := [a0]) (by kernel_rfl) (cast (by kernel_rfl) h)

-- rutter/rutterref02.Bytes
abbrev rutterref02_Bytes.id : Nat := 19
set_option maxRecDepth 100000 in
def rutterref02_Bytes.sh (a0 : Value) (w : World) (K : Value → World → Prop) : Prop :=
 bx 26 a0 w fun t1 w =>
 fx t1 0 fun t2 =>
 l1 t2 w fun t3 =>
 wv (cv 23 3 t3) w fun t4 =>
 fc 42 #[(.int .i64 6), t4] w fun t5 w =>
 fx t1 1 fun t6 =>
 l1 t6 w fun t7 =>
 wv (cv 23 3 t7) w fun t8 =>
 fc 42 #[(.int .i64 6), t8] w fun t9 w =>
 o (ap #[24, 24] 24 #[false, false] t5 t9) w fun t10 w =>
 fx t1 2 fun t11 =>
 l1 t11 w fun t12 =>
 fc 42 #[(.int .i64 2), t12] w fun t13 w =>
 o (ap #[24, 24] 24 #[false, false] t10 t13) w fun t14 w =>
 fx t1 3 fun t15 =>
 l1 t15 w fun t16 =>
 o (ap #[24, 24] 24 #[false, false] t14 t16) w fun t17 w =>
 K t17 w
set_option maxRecDepth 100000 in
theorem rutterref02_Bytes.sound {a0 : Value} {w : World} {K : Value → World → Prop} (h : rutterref02_Bytes.sh a0 w K) : Calls Try.prog 19 #[a0] w (retP K) :=
  calls_of_sem mixed Try.func19 (by kernel_rfl) (phL := fun _ => []) (phJ := fun _ => none) (args := [a0]) (by kernel_rfl) (cast (by kernel_rfl) h)

-- rutter/bind.Table
abbrev bind_Table.id : Nat := 20
set_option maxRecDepth 100000 in
def bind_Table.sh (a0 a1 : Value) (w : World) (K : Value → World → Prop) : Prop :=
 fc 43 #[a0, a1] w fun t1 w =>
 fc 8 #[t1] w fun t2 w =>
 pv (ex t2 0) fun t3 =>
 pv (ex t2 1) fun t4 =>
 K (.tuple #[t3, t4]) w
set_option maxRecDepth 100000 in
theorem bind_Table.sound {a0 a1 : Value} {w : World} {K : Value → World → Prop} (h : bind_Table.sh a0 a1 w K) : Calls Try.prog 20 #[a0, a1] w (retP K) :=
  calls_of_sem mixed Try.func20 (by kernel_rfl) (phL := fun _ => []) (phJ := fun _ => none) (args := [a0, a1]) (by kernel_rfl) (cast (by kernel_rfl) h)

-- slices.Clone[[]rutter/flow.Entry,rutter/flow.Entry]
abbrev slices_Clone_flow_Entry.id : Nat := 21
set_option maxRecDepth 100000 in
def slices_Clone_flow_Entry.sh (a0 : Value) (w : World) (K : Value → World → Prop) : Prop :=
 pv (be .eql 22 true a0 (.slice none 0 0)) fun t1 =>
 cnd t1 (
 K (.slice none 0 0) w) (
 o (bs 22 0 #[]) w fun t2 w =>
 o (ap #[22, 22] 22 #[false, false] t2 a0) w fun t3 w =>
 K t3 w)
set_option maxRecDepth 100000 in
theorem slices_Clone_flow_Entry.sound {a0 : Value} {w : World} {K : Value → World → Prop} (h : slices_Clone_flow_Entry.sh a0 w K) : Calls Try.prog 21 #[a0] w (retP K) :=
  calls_of_sem mixed Try.func21 (by kernel_rfl) (phL := fun _ => []) (phJ := fun _ => none) (args := [a0]) (by kernel_rfl) (cast (by kernel_rfl) h)

-- slices.SortStableFunc[[]rutter/flow.Entry,rutter/flow.Entry]
abbrev slices_SortStableFunc_flow_Entry.id : Nat := 22
set_option maxRecDepth 100000 in
def slices_SortStableFunc_flow_Entry.sh (a0 a1 : Value) (w : World) (K : Value → World → Prop) : Prop :=
 ln 1 a0 w fun t1 =>
 fc 44 #[a0, t1, a1] w fun _ w =>
 K (.tuple #[]) w
set_option maxRecDepth 100000 in
theorem slices_SortStableFunc_flow_Entry.sound {a0 a1 : Value} {w : World} {K : Value → World → Prop} (h : slices_SortStableFunc_flow_Entry.sh a0 a1 w K) : Calls Try.prog 22 #[a0, a1] w (retP K) :=
  calls_of_sem mixed Try.func22 (by kernel_rfl) (phL := fun _ => []) (phJ := fun _ => none) (args := [a0, a1]) (by kernel_rfl) (cast (by kernel_rfl) h)

-- rutter/flow.New$1
abbrev flow_New_1.id : Nat := 23
set_option maxRecDepth 100000 in
def flow_New_1.sh (a0 a1 : Value) (w : World) (K : Value → World → Prop) : Prop :=
 bx 70 a0 w fun t1 w =>
 bx 70 a1 w fun t2 w =>
 fx t2 0 fun t3 =>
 l1 t3 w fun t4 =>
 fx t1 0 fun t5 =>
 l1 t5 w fun t6 =>
 fc 24 #[t4, t6] w fun t7 w =>
 K t7 w
set_option maxRecDepth 100000 in
theorem flow_New_1.sound {a0 a1 : Value} {w : World} {K : Value → World → Prop} (h : flow_New_1.sh a0 a1 w K) : Calls Try.prog 23 #[a0, a1] w (retP K) :=
  calls_of_sem mixed Try.func23 (by kernel_rfl) (phL := fun _ => []) (phJ := fun _ => none) (args := [a0, a1]) (by kernel_rfl) (cast (by kernel_rfl) h)

-- cmp.Compare[int]
abbrev cmp_Compare_int.id : Nat := 24
set_option maxRecDepth 100000 in
def cmp_Compare_int.sh (a0 a1 : Value) (w : World) (K : Value → World → Prop) : Prop :=
 fc 45 #[a0] w fun t1 w =>
 fc 45 #[a1] w fun t2 w =>
 cnd t1 (
 cnd t2 (
 K (.int .i64 0) w) (
 K (.int .i64 (-1)) w)) (
 cnd t2 (
 K (.int .i64 1) w) (
 pv (bn .lss 3 a0 a1) fun t3 =>
 cnd t3 (
 K (.int .i64 (-1)) w) (
 pv (bn .gtr 3 a0 a1) fun t4 =>
 cnd t4 (
 K (.int .i64 1) w) (
 K (.int .i64 0) w))))
set_option maxRecDepth 100000 in
theorem cmp_Compare_int.sound {a0 a1 : Value} {w : World} {K : Value → World → Prop} (h : cmp_Compare_int.sh a0 a1 w K) : Calls Try.prog 24 #[a0, a1] w (retP K) :=
  calls_of_sem mixed Try.func24 (by kernel_rfl) (phL := fun _ => []) (phJ := fun _ => none) (args := [a0, a1]) (by kernel_rfl) (cast (by kernel_rfl) h)

-- rutter/ether.Encode
abbrev ether_Encode.id : Nat := 25
set_option maxRecDepth 100000 in
def ether_Encode.sh (a0 : Value) (w : World) (K : Value → World → Prop) : Prop :=
 bx 26 a0 w fun t1 w =>
 la 4 t1 w fun t2 =>
 fc 46 #[t2] w fun t3 w =>
 pv (un .not t3) fun t4 =>
 cnd t4 (
 K (.tuple #[(.slice none 0 0), (.int .i64 1)]) w) (
 (fun w : World =>
 pv (bd 104 #[]) fun t5 =>
 fx t1 0 fun t6 =>
 l1 t6 w fun t7 =>
 wv (cv 23 3 t7) w fun t8 =>
 fx t1 1 fun t9 =>
 l1 t9 w fun t10 =>
 wv (cv 23 3 t10) w fun t11 =>
 fx t1 2 fun t12 =>
 l1 t12 w fun t13 =>
 (bx 104 t5 w fun t14 w =>
 rk (l1 t6 w) t7 <|
 rk (wv (cv 23 3 t7) w) t8 <|
 rk (l1 t9 w) t10 <|
 rk (wv (cv 23 3 t10) w) t11 <|
 rk (l1 t12 w) t13 <|
 (o (bs 60 2 #[(0, t8), (1, t11)]) w fun t15 w =>
 rk (l1 t12 w) t13 <|
 (fc 47 #[t14, (.int .i64 6), t15] w fun t16 w =>
 rk (l1 t12 w) t13 <|
 o (bs 60 1 #[(0, t13)]) w fun t17 w =>
 fc 47 #[t16, (.int .i64 2), t17] w fun t18 w =>
 fc 48 #[t18] w fun t19 w =>
 pv (ex t19 0) fun t20 =>
 pv (ex t19 1) fun t21 =>
 fx t1 3 fun t22 =>
 l1 t22 w fun t23 =>
 o (ap #[24, 24] 24 #[false, false] t20 t23) w fun t24 w =>
 K (.tuple #[t24, t21]) w) ∧ (o (bs 60 1 #[(0, t13)]) w fun t25 w =>
 fc 47 #[t14, (.int .i64 6), t15] w fun t26 w =>
 fc 47 #[t26, (.int .i64 2), t25] w fun t27 w =>
 fc 48 #[t27] w fun t28 w =>
 pv (ex t28 0) fun t29 =>
 pv (ex t28 1) fun t30 =>
 fx t1 3 fun t31 =>
 l1 t31 w fun t32 =>
 o (ap #[24, 24] 24 #[false, false] t29 t32) w fun t33 w =>
 K (.tuple #[t33, t30]) w)) ∧ (o (bs 60 1 #[(0, t13)]) w fun t34 w =>
 rk (l1 t6 w) t7 <|
 rk (wv (cv 23 3 t7) w) t8 <|
 rk (l1 t9 w) t10 <|
 rk (wv (cv 23 3 t10) w) t11 <|
 o (bs 60 2 #[(0, t8), (1, t11)]) w fun t35 w =>
 fc 47 #[t14, (.int .i64 6), t35] w fun t36 w =>
 fc 47 #[t36, (.int .i64 2), t34] w fun t37 w =>
 fc 48 #[t37] w fun t38 w =>
 pv (ex t38 0) fun t39 =>
 pv (ex t38 1) fun t40 =>
 fx t1 3 fun t41 =>
 l1 t41 w fun t42 =>
 o (ap #[24, 24] 24 #[false, false] t39 t42) w fun t43 w =>
 K (.tuple #[t43, t40]) w)) ∧ (o (bs 60 2 #[(0, t8), (1, t11)]) w fun t44 w =>
 rk (l1 t12 w) t13 <|
 (bx 104 t5 w fun t45 w =>
 rk (l1 t12 w) t13 <|
 (fc 47 #[t45, (.int .i64 6), t44] w fun t46 w =>
 rk (l1 t12 w) t13 <|
 o (bs 60 1 #[(0, t13)]) w fun t47 w =>
 fc 47 #[t46, (.int .i64 2), t47] w fun t48 w =>
 fc 48 #[t48] w fun t49 w =>
 pv (ex t49 0) fun t50 =>
 pv (ex t49 1) fun t51 =>
 fx t1 3 fun t52 =>
 l1 t52 w fun t53 =>
 o (ap #[24, 24] 24 #[false, false] t50 t53) w fun t54 w =>
 K (.tuple #[t54, t51]) w) ∧ (o (bs 60 1 #[(0, t13)]) w fun t55 w =>
 fc 47 #[t45, (.int .i64 6), t44] w fun t56 w =>
 fc 47 #[t56, (.int .i64 2), t55] w fun t57 w =>
 fc 48 #[t57] w fun t58 w =>
 pv (ex t58 0) fun t59 =>
 pv (ex t58 1) fun t60 =>
 fx t1 3 fun t61 =>
 l1 t61 w fun t62 =>
 o (ap #[24, 24] 24 #[false, false] t59 t62) w fun t63 w =>
 K (.tuple #[t63, t60]) w)) ∧ (o (bs 60 1 #[(0, t13)]) w fun t64 w =>
 bx 104 t5 w fun t65 w =>
 fc 47 #[t65, (.int .i64 6), t44] w fun t66 w =>
 fc 47 #[t66, (.int .i64 2), t64] w fun t67 w =>
 fc 48 #[t67] w fun t68 w =>
 pv (ex t68 0) fun t69 =>
 pv (ex t68 1) fun t70 =>
 fx t1 3 fun t71 =>
 l1 t71 w fun t72 =>
 o (ap #[24, 24] 24 #[false, false] t69 t72) w fun t73 w =>
 K (.tuple #[t73, t70]) w)) ∧ (o (bs 60 1 #[(0, t13)]) w fun t74 w =>
 rk (l1 t6 w) t7 <|
 rk (wv (cv 23 3 t7) w) t8 <|
 rk (l1 t9 w) t10 <|
 rk (wv (cv 23 3 t10) w) t11 <|
 (bx 104 t5 w fun t75 w =>
 rk (l1 t6 w) t7 <|
 rk (wv (cv 23 3 t7) w) t8 <|
 rk (l1 t9 w) t10 <|
 rk (wv (cv 23 3 t10) w) t11 <|
 o (bs 60 2 #[(0, t8), (1, t11)]) w fun t76 w =>
 fc 47 #[t75, (.int .i64 6), t76] w fun t77 w =>
 fc 47 #[t77, (.int .i64 2), t74] w fun t78 w =>
 fc 48 #[t78] w fun t79 w =>
 pv (ex t79 0) fun t80 =>
 pv (ex t79 1) fun t81 =>
 fx t1 3 fun t82 =>
 l1 t82 w fun t83 =>
 o (ap #[24, 24] 24 #[false, false] t80 t83) w fun t84 w =>
 K (.tuple #[t84, t81]) w) ∧ (o (bs 60 2 #[(0, t8), (1, t11)]) w fun t85 w =>
 bx 104 t5 w fun t86 w =>
 fc 47 #[t86, (.int .i64 6), t85] w fun t87 w =>
 fc 47 #[t87, (.int .i64 2), t74] w fun t88 w =>
 fc 48 #[t88] w fun t89 w =>
 pv (ex t89 0) fun t90 =>
 pv (ex t89 1) fun t91 =>
 fx t1 3 fun t92 =>
 l1 t92 w fun t93 =>
 o (ap #[24, 24] 24 #[false, false] t90 t93) w fun t94 w =>
 K (.tuple #[t94, t91]) w))) w.drew)
set_option maxRecDepth 100000 in
theorem ether_Encode.sound {a0 : Value} {w : World} {K : Value → World → Prop} (h : ether_Encode.sh a0 w K) : Calls Try.prog 25 #[a0] w (retP K) :=
  calls_of_sem mixed Try.func25 (by kernel_rfl) (phL := fun _ => []) (phJ := fun _ => none) (args := [a0]) (by kernel_rfl) (cast (by kernel_rfl) h)

-- rutter/dpath.Guest$1
abbrev dpath_Guest_1.id : Nat := 26
set_option maxRecDepth 100000 in
def dpath_Guest_1.sh (a0 a1 : Value) (w : World) (K : Value → World → Prop) : Prop :=
 bx 68 a0 w fun t1 w =>
 al #[(.int .i64 0), (.int .i64 0), (.int .i64 0), (.int .i64 0), (.slice none 0 0), (.int .i64 0), (.int .i64 0), (.int .i64 0), (.int .i64 0), (.int .i64 0), (.int .i64 0), (.int .i64 0), (.slice none 0 0)] 39 w fun t2 w =>
 fx t1 1 fun t3 =>
 l1 t3 w fun t4 =>
 fx t1 3 fun t5 =>
 l1 t5 w fun t6 =>
 fx t1 3 fun t7 =>
 l1 t7 w fun t8 =>
 l1 a1 w fun t9 =>
 pv (bd 39 #[(0, (.int .i64 1)), (1, t4), (2, t6), (3, t8), (4, t9)]) fun t10 =>
 sa 13 t2 t10 w fun _ w =>
 la 13 t2 w fun t11 =>
 K t11 w
set_option maxRecDepth 100000 in
theorem dpath_Guest_1.sound {a0 a1 : Value} {w : World} {K : Value → World → Prop} (h : dpath_Guest_1.sh a0 a1 w K) : Calls Try.prog 26 #[a0, a1] w (retP K) :=
  calls_of_sem mixed Try.func26 (by kernel_rfl) (phL := fun _ => []) (phJ := fun _ => none) (args := [a0, a1]) (by kernel_rfl) (cast (by kernel_rfl) h)

-- rutter/dpath.Guest$2
abbrev dpath_Guest_2.id : Nat := 27
set_option maxRecDepth 100000 in
def dpath_Guest_2.sh (a0 a1 a2 a3 : Value) (w : World) (K : Value → World → Prop) : Prop :=
 bx 68 a0 w fun t1 w =>
 al #[(.int .i64 0), (.int .i64 0), (.int .i64 0), (.int .i64 0), (.slice none 0 0), (.int .i64 0), (.int .i64 0), (.int .i64 0), (.int .i64 0), (.int .i64 0), (.int .i64 0), (.int .i64 0), (.slice none 0 0)] 39 w fun t2 w =>
 l1 a1 w fun t3 =>
 l1 a1 w fun t4 =>
 fx t1 2 fun t5 =>
 l1 t5 w fun t6 =>
 fx t1 1 fun t7 =>
 l1 t7 w fun t8 =>
 fx t1 3 fun t9 =>
 l1 t9 w fun t10 =>
 l1 a2 w fun t11 =>
 l1 a3 w fun t12 =>
 pv (bd 37 #[(0, (.int .i64 1)), (1, t3), (2, t4), (3, t6), (4, t8), (5, t10), (6, t11), (7, t12)]) fun t13 =>
 fc 28 #[t13, (.int .i64 0)] w fun t14 w =>
 sa 13 t2 t14 w fun _ w =>
 la 13 t2 w fun t15 =>
 K t15 w
set_option maxRecDepth 100000 in
theorem dpath_Guest_2.sound {a0 a1 a2 a3 : Value} {w : World} {K : Value → World → Prop} (h : dpath_Guest_2.sh a0 a1 a2 a3 w K) : Calls Try.prog 27 #[a0, a1, a2, a3] w (retP K) :=
  calls_of_sem mixed Try.func27 (by kernel_rfl) (phL := fun _ => []) (phJ := fun _ => none) (args := [a0, a1, a2, a3]) (by kernel_rfl) (cast (by kernel_rfl) h)

-- rutter/dpath.send
abbrev dpath_send.id : Nat := 28
set_option maxRecDepth 100000 in
def dpath_send.sh (a0 a1 : Value) (w : World) (K : Value → World → Prop) : Prop :=
 bx 37 a0 w fun t1 w =>
 al #[(.int .i64 0), (.int .i64 0), (.int .i64 0), (.int .i64 0), (.slice none 0 0), (.int .i64 0), (.int .i64 0), (.int .i64 0), (.int .i64 0), (.int .i64 0), (.int .i64 0), (.int .i64 0), (.slice none 0 0)] 39 w fun t2 w =>
 pv (be .neq 32 true a1 (.int .i64 0)) fun t3 =>
 gq t3 false (la 8 t1 w) fun t4 =>
 ge t3 false (fc 34 #[t4] w) w fun t5 w =>
 gq t3 false (pv (un .not t5)) fun t6 =>
 pv (pk t3 (.bool true) t6) fun t7 =>
 cnd t7 (
 pv (bd 39 #[]) fun t8 =>
 sa 13 t2 t8 w fun _ w =>
 la 13 t2 w fun t9 =>
 K t9 w) (
 la 8 t1 w fun t10 =>
 pv (bd 39 #[(0, (.int .i64 2)), (5, t10)]) fun t11 =>
 sa 13 t2 t11 w fun _ w =>
 la 13 t2 w fun t12 =>
 K t12 w)
set_option maxRecDepth 100000 in
theorem dpath_send.sound {a0 a1 : Value} {w : World} {K : Value → World → Prop} (h : dpath_send.sh a0 a1 w K) : Calls Try.prog 28 #[a0, a1] w (retP K) :=
  calls_of_sem mixed Try.func28 (by kernel_rfl) (phL := fun _ => []) (phJ := fun _ => none) (args := [a0, a1]) (by kernel_rfl) (cast (by kernel_rfl) h)

-- (rutter/dpath.ways).do
abbrev dpath_ways_do.id : Nat := 29
set_option maxRecDepth 100000 in
def dpath_ways_do.sh (a0 a1 a2 : Value) (w : World) (K : Value → World → Prop) : Prop :=
 bx 81 a0 w fun t1 w =>
 bx 84 a2 w fun t2 w =>
 al #[(.int .i64 0), (.int .i64 0), (.int .i64 0), (.int .i64 0), (.slice none 0 0), (.int .i64 0), (.int .i64 0), (.int .i64 0), (.int .i64 0), (.int .i64 0), (.int .i64 0), (.int .i64 0), (.slice none 0 0)] 39 w fun t3 w =>
 la 5 t2 w fun t4 =>
 fc 49 #[a1, t4] w fun t5 w =>
 pv (ex t5 0) fun t6 =>
 pv (ex t5 1) fun _ =>
 al #[(.int .i64 0), (.int .i64 0), (.int .i64 0), (.int .i64 0)] 68 w fun t8 w =>
 sa 4 t8 t6 w fun _ w =>
 fx t8 0 fun t9 =>
 l1 t9 w fun t10 =>
 pv (bn .leq 3 t10 (.int .i64 0)) fun t11 =>
 gq t11 false (fx t8 0) fun t12 =>
 gq t11 false (l1 t12 w) fun t13 =>
 gq t11 false (pv (bn .geq 3 t13 (.int .i64 3))) fun t14 =>
 pv (pk t11 (.bool true) t14) fun t15 =>
 cnd t15 (
 pv (bd 39 #[]) fun t16 =>
 sa 13 t3 t16 w fun _ w =>
 la 13 t3 w fun t17 =>
 K t17 w) (
 (fun w : World =>
 fx t8 0 fun t18 =>
 l1 t18 w fun t19 =>
 ja 3 1 t1 t19 fun t20 =>
 l1 t20 w fun t21 =>
 la 4 t8 w fun t22 =>
 vc t21 #[t22] w fun t23 w =>
 sa 13 t3 t23 w fun _ w =>
 la 13 t3 w fun t24 =>
 K t24 w) w.drew)
set_option maxRecDepth 100000 in
theorem dpath_ways_do.sound {a0 a1 a2 : Value} {w : World} {K : Value → World → Prop} (h : dpath_ways_do.sh a0 a1 a2 w K) : Calls Try.prog 29 #[a0, a1, a2] w (retP K) :=
  calls_of_sem mixed Try.func29 (by kernel_rfl) (phL := fun _ => []) (phJ := fun _ => none) (args := [a0, a1, a2]) (by kernel_rfl) (cast (by kernel_rfl) h)

-- rutter/rutterref13.Look
abbrev rutterref13_Look.id : Nat := 30
set_option maxRecDepth 100000 in
def rutterref13_Look.sh (a0 a1 : Value) (w : World) (K : Value → World → Prop) : Prop :=
 bx 88 a1 w fun t1 w =>
 al #[(.int .i64 0), (.int .i64 0), (.int .i64 0), (.int .i64 0)] 85 w fun t2 w =>
 LoopS (fun s3 w k4 => ∀ _ : List Value,
 ln 1 a0 w fun t5 =>
 pv (bn .lss 3 (nth s3 1) t5) fun t6 =>
 cnd t6 (
 JoinS (fun k7 =>
 (fun w : World =>
 iz 11 a0 (nth s3 1) fun t9 =>
 la 11 t9 w fun t10 =>
 la 5 t1 w fun t11 =>
 fc 50 #[t10, t11] w fun t12 w =>
 (fun w : World =>
 gq t12 true (pv (mv (nth s3 0))) fun t13 =>
 gq t12 true (pv (bn .lss 3 t13 (.int .i64 0))) fun t14 =>
 gq t12 true (pv (mv t14)) fun t15 =>
 gq t15 false (pv (mv a0)) fun t16 =>
 gq t15 false (pv (mv (nth s3 1))) fun t17 =>
 gq t15 false (iz 11 t16 t17) fun t18 =>
 gq t15 false (fx t18 0) fun t19 =>
 gq t15 false (l1 t19 w) fun t20 =>
 gq t15 false (pv (mv a0)) fun t21 =>
 gq t15 false (pv (mv (nth s3 0))) fun t22 =>
 gq t15 false (iz 11 t21 t22) fun t23 =>
 gq t15 false (fx t23 0) fun t24 =>
 gq t15 false (l1 t24 w) fun t25 =>
 gq t15 false (pv (bn .gtr 3 t20 t25)) fun t26 =>
 gq t12 true (pv (pk t15 (.bool true) t26)) fun t27 =>
 pv (pk t12 t27 (.bool false)) fun t28 =>
 cnd t28 (
 k7 [(nth s3 1)] w) (
 k7 [(nth s3 0)] w)) w.drew) w.drew)
 (fun s8 w => ∀ _ : List Value,
 pv (bn .add 3 (nth s3 1) (.int .i64 1)) fun t29 =>
 k4 [(nth s8 0), t29] w)) (
 pv (bn .lss 3 (nth s3 0) (.int .i64 0)) fun t30 =>
 cnd t30 (
 pv (bd 85 #[]) fun t31 =>
 sa 4 t2 t31 w fun _ w =>
 la 4 t2 w fun t32 =>
 K (.tuple #[t32, (.bool false)]) w) (
 iz 11 a0 (nth s3 0) fun t33 =>
 fx t33 7 fun t34 =>
 la 4 t34 w fun t35 =>
 sa 4 t2 t35 w fun _ w =>
 la 4 t2 w fun t36 =>
 K (.tuple #[t36, (.bool true)]) w)))
 [(.int .i64 (-1)), (.int .i64 0)] w
set_option maxRecDepth 100000 in
theorem rutterref13_Look.sound {a0 a1 : Value} {w : World} {K : Value → World → Prop} (h : rutterref13_Look.sh a0 a1 w K) : Calls Try.prog 30 #[a0, a1] w (retP K) :=
  calls_of_sem mixed Try.func30 (by kernel_rfl) (phL := fun n => bif Nat.beq n 3 then [6, 7] else []) (phJ := fun n => bif Nat.beq n 4 then some [6] else none) (args := [a0, a1]) (by kernel_rfl) (cast (by kernel_rfl) h)

-- rutter/rutterref15.sent
abbrev rutterref15_sent.id : Nat := 31
set_option maxRecDepth 100000 in
def rutterref15_sent.sh (a0 : Value) (w : World) (K : Value → World → Prop) : Prop :=
 bx 37 a0 w fun t1 w =>
 al #[(.int .i64 0), (.int .i64 0), (.int .i64 0), (.int .i64 0), (Go.Value.string { data := #[] }), (.int .i64 0), (.int .i64 0), (.int .i64 0), (.int .i64 0), (.int .i64 0), (.int .i64 0), (.int .i64 0), (.slice none 0 0)] 43 w fun t2 w =>
 la 8 t1 w fun t3 =>
 fc 39 #[t3] w fun t4 w =>
 pv (un .not t4) fun t5 =>
 cnd t5 (
 pv (bd 43 #[]) fun t6 =>
 sa 13 t2 t6 w fun _ w =>
 la 13 t2 w fun t7 =>
 K t7 w) (
 la 8 t1 w fun t8 =>
 pv (bd 43 #[(0, (.int .i64 2)), (5, t8)]) fun t9 =>
 sa 13 t2 t9 w fun _ w =>
 la 13 t2 w fun t10 =>
 K t10 w)
set_option maxRecDepth 100000 in
theorem rutterref15_sent.sound {a0 : Value} {w : World} {K : Value → World → Prop} (h : rutterref15_sent.sh a0 w K) : Calls Try.prog 31 #[a0] w (retP K) :=
  calls_of_sem mixed Try.func31 (by kernel_rfl) (phL := fun _ => []) (phJ := fun _ => none) (args := [a0]) (by kernel_rfl) (cast (by kernel_rfl) h)

-- rutter/rutterlaw13.Act
abbrev rutterlaw13_Act.id : Nat := 32
set_option maxRecDepth 100000 in
def rutterlaw13_Act.sh (a0 : Value) (w : World) (K : Value → World → Prop) : Prop :=
 bx 68 a0 w fun t1 w =>
 al #[(.int .i64 0), (.int .i64 0), (.int .i64 0), (.int .i64 0)] 85 w fun t2 w =>
 fx t1 0 fun t3 =>
 l1 t3 w fun t4 =>
 fx t1 1 fun t5 =>
 l1 t5 w fun t6 =>
 fx t1 2 fun t7 =>
 l1 t7 w fun t8 =>
 fx t1 3 fun t9 =>
 l1 t9 w fun t10 =>
 pv (bd 85 #[(0, t4), (1, t6), (2, t8), (3, t10)]) fun t11 =>
 sa 4 t2 t11 w fun _ w =>
 la 4 t2 w fun t12 =>
 K t12 w
set_option maxRecDepth 100000 in
theorem rutterlaw13_Act.sound {a0 : Value} {w : World} {K : Value → World → Prop} (h : rutterlaw13_Act.sh a0 w K) : Calls Try.prog 32 #[a0] w (retP K) :=
  calls_of_sem mixed Try.func32 (by kernel_rfl) (phL := fun _ => []) (phJ := fun _ => none) (args := [a0]) (by kernel_rfl) (cast (by kernel_rfl) h)

-- rutter/rutterref05.Same
abbrev rutterref05_Same.id : Nat := 33
set_option maxRecDepth 100000 in
def rutterref05_Same.sh (a0 a1 : Value) (w : World) (K : Value → World → Prop) : Prop :=
 bx 37 a0 w fun t1 w =>
 bx 37 a1 w fun t2 w =>
 fx t1 0 fun t3 =>
 l1 t3 w fun t4 =>
 fx t2 0 fun t5 =>
 l1 t5 w fun t6 =>
 pv (be .eql 35 false t4 t6) fun t7 =>
 gq t7 true (fx t1 1) fun t8 =>
 gq t7 true (l1 t8 w) fun t9 =>
 gq t7 true (fx t2 1) fun t10 =>
 gq t7 true (l1 t10 w) fun t11 =>
 gq t7 true (pv (be .eql 3 false t9 t11)) fun t12 =>
 pv (pk t7 t12 (.bool false)) fun t13 =>
 gq t13 true (fx t1 2) fun t14 =>
 gq t13 true (l1 t14 w) fun t15 =>
 gq t13 true (fx t2 2) fun t16 =>
 gq t13 true (l1 t16 w) fun t17 =>
 gq t13 true (pv (be .eql 3 false t15 t17)) fun t18 =>
 pv (pk t13 t18 (.bool false)) fun t19 =>
 gq t19 true (fx t1 3) fun t20 =>
 gq t19 true (l1 t20 w) fun t21 =>
 gq t19 true (fx t2 3) fun t22 =>
 gq t19 true (l1 t22 w) fun t23 =>
 gq t19 true (pv (be .eql 3 false t21 t23)) fun t24 =>
 pv (pk t19 t24 (.bool false)) fun t25 =>
 gq t25 true (fx t1 4) fun t26 =>
 gq t25 true (l1 t26 w) fun t27 =>
 gq t25 true (fx t2 4) fun t28 =>
 gq t25 true (l1 t28 w) fun t29 =>
 gq t25 true (pv (be .eql 3 false t27 t29)) fun t30 =>
 pv (pk t25 t30 (.bool false)) fun t31 =>
 gq t31 true (fx t1 5) fun t32 =>
 gq t31 true (l1 t32 w) fun t33 =>
 gq t31 true (fx t2 5) fun t34 =>
 gq t31 true (l1 t34 w) fun t35 =>
 gq t31 true (pv (be .eql 3 false t33 t35)) fun t36 =>
 pv (pk t31 t36 (.bool false)) fun t37 =>
 gq t37 true (fx t1 6) fun t38 =>
 gq t37 true (l1 t38 w) fun t39 =>
 gq t37 true (fx t2 6) fun t40 =>
 gq t37 true (l1 t40 w) fun t41 =>
 gq t37 true (pv (be .eql 3 false t39 t41)) fun t42 =>
 pv (pk t37 t42 (.bool false)) fun t43 =>
 gq t43 true (fx t1 7) fun t44 =>
 gq t43 true (l1 t44 w) fun t45 =>
 gq t43 true (wv (cv 24 9 t45) w) fun t46 =>
 gq t43 true (fx t2 7) fun t47 =>
 gq t43 true (l1 t47 w) fun t48 =>
 gq t43 true (wv (cv 24 9 t48) w) fun t49 =>
 gq t43 true (pv (be .eql 9 false t46 t49)) fun t50 =>
 pv (pk t43 t50 (.bool false)) fun t51 =>
 K t51 w
set_option maxRecDepth 100000 in
theorem rutterref05_Same.sound {a0 a1 : Value} {w : World} {K : Value → World → Prop} (h : rutterref05_Same.sh a0 a1 w K) : Calls Try.prog 33 #[a0, a1] w (retP K) :=
  calls_of_sem mixed Try.func33 (by kernel_rfl) (phL := fun _ => []) (phJ := fun _ => none) (args := [a0, a1]) (by kernel_rfl) (cast (by kernel_rfl) h)

-- rutter/tunnel.Right
abbrev tunnel_Right.id : Nat := 34
set_option maxRecDepth 100000 in
def tunnel_Right.sh (a0 : Value) (w : World) (K : Value → World → Prop) : Prop :=
 bx 37 a0 w fun t1 w =>
 fx t1 1 fun t2 =>
 l1 t2 w fun t3 =>
 fx t1 2 fun t4 =>
 l1 t4 w fun t5 =>
 fx t1 3 fun t6 =>
 l1 t6 w fun t7 =>
 o (bs 60 3 #[(0, t3), (1, t5), (2, t7)]) w fun t8 w =>
 fc 51 #[t8] w fun t9 w =>
 gq t9 true (la 8 t1 w) fun t10 =>
 ge t9 true (fc 52 #[t10] w) w fun t11 w =>
 pv (pk t9 t11 (.bool false)) fun t12 =>
 gq t12 true (fx t1 4) fun t13 =>
 gq t12 true (l1 t13 w) fun t14 =>
 gq t12 true (pv (bn .geq 3 t14 (.int .i64 0))) fun t15 =>
 pv (pk t12 t15 (.bool false)) fun t16 =>
 gq t16 true (fx t1 4) fun t17 =>
 gq t16 true (l1 t17 w) fun t18 =>
 gq t16 true (pv (bn .lss 3 t18 (.int .i64 32))) fun t19 =>
 pv (pk t16 t19 (.bool false)) fun t20 =>
 gq t20 true (fx t1 5) fun t21 =>
 gq t20 true (l1 t21 w) fun t22 =>
 gq t20 true (pv (bn .geq 3 t22 (.int .i64 1))) fun t23 =>
 pv (pk t20 t23 (.bool false)) fun t24 =>
 gq t24 true (fx t1 5) fun t25 =>
 gq t24 true (l1 t25 w) fun t26 =>
 gq t24 true (pv (bn .leq 3 t26 (.int .i64 4294967296))) fun t27 =>
 pv (pk t24 t27 (.bool false)) fun t28 =>
 gq t28 true (fx t1 6) fun t29 =>
 gq t28 true (l1 t29 w) fun t30 =>
 gq t28 true (pv (bn .geq 3 t30 (.int .i64 0))) fun t31 =>
 pv (pk t28 t31 (.bool false)) fun t32 =>
 gq t32 true (fx t1 6) fun t33 =>
 gq t32 true (l1 t33 w) fun t34 =>
 gq t32 true (pv (bn .leq 3 t34 (.int .i64 1099511627776))) fun t35 =>
 pv (pk t32 t35 (.bool false)) fun t36 =>
 gq t36 true (fx t1 7) fun t37 =>
 gq t36 true (l1 t37 w) fun t38 =>
 gq t36 true (ln 1 t38 w) fun t39 =>
 gq t36 true (pv (bn .geq 3 t39 (.int .i64 14))) fun t40 =>
 pv (pk t36 t40 (.bool false)) fun t41 =>
 gq t41 true (fx t1 7) fun t42 =>
 gq t41 true (l1 t42 w) fun t43 =>
 gq t41 true (ln 1 t43 w) fun t44 =>
 gq t41 true (pv (bn .leq 3 t44 (.int .i64 1514))) fun t45 =>
 pv (pk t41 t45 (.bool false)) fun t46 =>
 K t46 w
set_option maxRecDepth 100000 in
theorem tunnel_Right.sound {a0 : Value} {w : World} {K : Value → World → Prop} (h : tunnel_Right.sh a0 w K) : Calls Try.prog 34 #[a0] w (retP K) :=
  calls_of_sem mixed Try.func34 (by kernel_rfl) (phL := fun _ => []) (phJ := fun _ => none) (args := [a0]) (by kernel_rfl) (cast (by kernel_rfl) h)

-- rutter/dpath.Tunnel$1
abbrev dpath_Tunnel_1.id : Nat := 35
set_option maxRecDepth 100000 in
def dpath_Tunnel_1.sh (a0 a1 : Value) (w : World) (K : Value → World → Prop) : Prop :=
 bx 68 a0 w fun t1 w =>
 al #[(.int .i64 0), (.int .i64 0), (.int .i64 0), (.int .i64 0), (.slice none 0 0), (.int .i64 0), (.int .i64 0), (.int .i64 0), (.int .i64 0), (.int .i64 0), (.int .i64 0), (.int .i64 0), (.slice none 0 0)] 39 w fun t2 w =>
 (fun w : World =>
 fx t1 1 fun t3 =>
 l1 t3 w fun t4 =>
 fx t1 3 fun t5 =>
 l1 t5 w fun t6 =>
 fx a1 5 fun t7 =>
 l1 t7 w fun t8 =>
 fx a1 7 fun t9 =>
 l1 t9 w fun t10 =>
 fc 36 #[t10] w fun t11 w =>
 rk (l1 t3 w) t4 <|
 rk (l1 t5 w) t6 <|
 rk (l1 t7 w) t8 <|
 pv (bd 39 #[(0, (.int .i64 1)), (1, t4), (2, t6), (3, t8), (4, t11)]) fun t12 =>
 sa 13 t2 t12 w fun _ w =>
 la 13 t2 w fun t13 =>
 K t13 w) w.drew
set_option maxRecDepth 100000 in
theorem dpath_Tunnel_1.sound {a0 a1 : Value} {w : World} {K : Value → World → Prop} (h : dpath_Tunnel_1.sh a0 a1 w K) : Calls Try.prog 35 #[a0, a1] w (retP K) :=
  calls_of_sem mixed Try.func35 (by kernel_rfl) (phL := fun _ => []) (phJ := fun _ => none) (args := [a0, a1]) (by kernel_rfl) (cast (by kernel_rfl) h)

-- bytes.Clone
abbrev bytes_Clone.id : Nat := 36
set_option maxRecDepth 100000 in
def bytes_Clone.sh (a0 : Value) (w : World) (K : Value → World → Prop) : Prop :=
 pv (be .eql 24 true a0 (.slice none 0 0)) fun t1 =>
 cnd t1 (
 K (.slice none 0 0) w) (
 o (bs 24 0 #[]) w fun t2 w =>
 o (ap #[24, 24] 24 #[false, false] t2 a0) w fun t3 w =>
 K t3 w)
set_option maxRecDepth 100000 in
theorem bytes_Clone.sound {a0 : Value} {w : World} {K : Value → World → Prop} (h : bytes_Clone.sh a0 w K) : Calls Try.prog 36 #[a0] w (retP K) :=
  calls_of_sem mixed Try.func36 (by kernel_rfl) (phL := fun _ => []) (phJ := fun _ => none) (args := [a0]) (by kernel_rfl) (cast (by kernel_rfl) h)

-- rutter/dpath.Tunnel$2
abbrev dpath_Tunnel_2.id : Nat := 37
set_option maxRecDepth 100000 in
def dpath_Tunnel_2.sh (a0 a1 : Value) (w : World) (K : Value → World → Prop) : Prop :=
 bx 68 a0 w fun t1 w =>
 al #[(.int .i64 0), (.int .i64 0), (.int .i64 0), (.int .i64 0), (.slice none 0 0), (.int .i64 0), (.int .i64 0), (.int .i64 0), (.int .i64 0), (.int .i64 0), (.int .i64 0), (.int .i64 0), (.slice none 0 0)] 39 w fun t2 w =>
 la 8 a1 w fun t3 =>
 fx t1 2 fun t4 =>
 l1 t4 w fun t5 =>
 fx t1 3 fun t6 =>
 l1 t6 w fun t7 =>
 fc 38 #[t3, t5, t7] w fun t8 w =>
 pv (ex t8 0) fun t9 =>
 pv (ex t8 1) fun t10 =>
 fc 28 #[t9, t10] w fun t11 w =>
 sa 13 t2 t11 w fun _ w =>
 la 13 t2 w fun t12 =>
 K t12 w
set_option maxRecDepth 100000 in
theorem dpath_Tunnel_2.sound {a0 a1 : Value} {w : World} {K : Value → World → Prop} (h : dpath_Tunnel_2.sh a0 a1 w K) : Calls Try.prog 37 #[a0, a1] w (retP K) :=
  calls_of_sem mixed Try.func37 (by kernel_rfl) (phL := fun _ => []) (phJ := fun _ => none) (args := [a0, a1]) (by kernel_rfl) (cast (by kernel_rfl) h)

-- rutter/tunnel.Again
abbrev tunnel_Again.id : Nat := 38
set_option maxRecDepth 100000 in
def tunnel_Again.sh (a0 a1 a2 : Value) (w : World) (K : Value → World → Prop) : Prop :=
 bx 37 a0 w fun t1 w =>
 al #[(.int .i64 0), (.int .i64 0), (.int .i64 0), (.int .i64 0), (.int .i64 0), (.int .i64 0), (.int .i64 0), (.slice none 0 0)] 37 w fun t2 w =>
 la 8 t1 w fun t3 =>
 fc 34 #[t3] w fun t4 w =>
 pv (un .not t4) fun t5 =>
 cnd t5 (
 pv (bd 37 #[]) fun t6 =>
 sa 8 t2 t6 w fun _ w =>
 la 8 t2 w fun t7 =>
 K (.tuple #[t7, (.int .i64 1)]) w) (
 fx t1 0 fun t8 =>
 l1 t8 w fun t9 =>
 pv (be .neq 35 true t9 (.int .i64 1)) fun t10 =>
 cnd t10 (
 pv (bd 37 #[]) fun t11 =>
 sa 8 t2 t11 w fun _ w =>
 la 8 t2 w fun t12 =>
 K (.tuple #[t12, (.int .i64 8)]) w) (
 fx t1 3 fun t13 =>
 l1 t13 w fun t14 =>
 fx t1 0 fun t15 =>
 sw t15 (.int .i64 2) w fun _ w =>
 fx t1 2 fun t16 =>
 sw t16 t14 w fun _ w =>
 fx t1 3 fun t17 =>
 sw t17 a1 w fun _ w =>
 fx t1 5 fun t18 =>
 sw t18 a2 w fun _ w =>
 la 8 t1 w fun t19 =>
 fc 34 #[t19] w fun t20 w =>
 pv (un .not t20) fun t21 =>
 cnd t21 (
 pv (bd 37 #[]) fun t22 =>
 sa 8 t2 t22 w fun _ w =>
 la 8 t2 w fun t23 =>
 K (.tuple #[t23, (.int .i64 1)]) w) (
 fx t1 7 fun t24 =>
 l1 t24 w fun t25 =>
 fc 36 #[t25] w fun t26 w =>
 fx t1 7 fun t27 =>
 sw t27 t26 w fun _ w =>
 la 8 t1 w fun t28 =>
 sa 8 t2 t28 w fun _ w =>
 la 8 t2 w fun t29 =>
 K (.tuple #[t29, (.int .i64 0)]) w)))
set_option maxRecDepth 100000 in
theorem tunnel_Again.sound {a0 a1 a2 : Value} {w : World} {K : Value → World → Prop} (h : tunnel_Again.sh a0 a1 a2 w K) : Calls Try.prog 38 #[a0, a1, a2] w (retP K) :=
  calls_of_sem mixed Try.func38 (by kernel_rfl) (phL := fun _ => []) (phJ := fun _ => none) (args := [a0, a1, a2]) (by kernel_rfl) (cast (by kernel_rfl) h)

-- rutter/rutterref05.Right
abbrev rutterref05_Right.id : Nat := 39
set_option maxRecDepth 100000 in
def rutterref05_Right.sh (a0 : Value) (w : World) (K : Value → World → Prop) : Prop :=
 bx 37 a0 w fun t1 w =>
 fx t1 1 fun t2 =>
 l1 t2 w fun t3 =>
 fc 53 #[t3, (.int .i64 0), (.int .i64 15)] w fun t4 w =>
 gq t4 true (fx t1 2) fun t5 =>
 gq t4 true (l1 t5 w) fun t6 =>
 ge t4 true (fc 53 #[t6, (.int .i64 0), (.int .i64 15)] w) w fun t7 w =>
 pv (pk t4 t7 (.bool false)) fun t8 =>
 gq t8 true (fx t1 3) fun t9 =>
 gq t8 true (l1 t9 w) fun t10 =>
 ge t8 true (fc 53 #[t10, (.int .i64 0), (.int .i64 15)] w) w fun t11 w =>
 pv (pk t8 t11 (.bool false)) fun t12 =>
 gq t12 true (fx t1 2) fun t13 =>
 gq t12 true (l1 t13 w) fun t14 =>
 gq t12 true (fx t1 3) fun t15 =>
 gq t12 true (l1 t15 w) fun t16 =>
 gq t12 true (pv (be .neq 3 false t14 t16)) fun t17 =>
 pv (pk t12 t17 (.bool false)) fun t18 =>
 fx t1 4 fun t19 =>
 l1 t19 w fun t20 =>
 fc 53 #[t20, (.int .i64 0), (.int .i64 31)] w fun t21 w =>
 gq t21 true (fx t1 5) fun t22 =>
 gq t21 true (l1 t22 w) fun t23 =>
 ge t21 true (fc 53 #[t23, (.int .i64 1), (.int .i64 4294967296)] w) w fun t24 w =>
 pv (pk t21 t24 (.bool false)) fun t25 =>
 gq t25 true (fx t1 6) fun t26 =>
 gq t25 true (l1 t26 w) fun t27 =>
 ge t25 true (fc 53 #[t27, (.int .i64 0), (.int .i64 1099511627776)] w) w fun t28 w =>
 pv (pk t25 t28 (.bool false)) fun t29 =>
 gq t29 true (fx t1 7) fun t30 =>
 gq t29 true (l1 t30 w) fun t31 =>
 gq t29 true (ln 1 t31 w) fun t32 =>
 ge t29 true (fc 53 #[t32, (.int .i64 14), (.int .i64 1514)] w) w fun t33 w =>
 pv (pk t29 t33 (.bool false)) fun t34 =>
 fx t1 0 fun t35 =>
 l1 t35 w fun t36 =>
 pv (be .eql 35 true t36 (.int .i64 1)) fun t37 =>
 gq t37 true (fx t1 2) fun t38 =>
 gq t37 true (l1 t38 w) fun t39 =>
 gq t37 true (fx t1 1) fun t40 =>
 gq t37 true (l1 t40 w) fun t41 =>
 gq t37 true (pv (be .eql 3 false t39 t41)) fun t42 =>
 pv (pk t37 t42 (.bool false)) fun t43 =>
 gq t43 false (fx t1 0) fun t44 =>
 gq t43 false (l1 t44 w) fun t45 =>
 gq t43 false (pv (be .eql 35 true t45 (.int .i64 2))) fun t46 =>
 gq t43 false (pv (mv t46)) fun t47 =>
 gq t47 true (fx t1 2) fun t48 =>
 gq t47 true (l1 t48 w) fun t49 =>
 gq t47 true (fx t1 1) fun t50 =>
 gq t47 true (l1 t50 w) fun t51 =>
 gq t47 true (pv (be .neq 3 false t49 t51)) fun t52 =>
 gq t43 false (pv (pk t47 t52 (.bool false))) fun t53 =>
 gq t43 false (pv (mv t53)) fun t54 =>
 gq t54 true (fx t1 3) fun t55 =>
 gq t54 true (l1 t55 w) fun t56 =>
 gq t54 true (fx t1 1) fun t57 =>
 gq t54 true (l1 t57 w) fun t58 =>
 gq t54 true (pv (be .neq 3 false t56 t58)) fun t59 =>
 gq t43 false (pv (pk t54 t59 (.bool false))) fun t60 =>
 pv (pk t43 (.bool true) t60) fun t61 =>
 gq t18 true (pv (mv t34)) fun t62 =>
 pv (pk t18 t62 (.bool false)) fun t63 =>
 gq t63 true (pv (mv t61)) fun t64 =>
 pv (pk t63 t64 (.bool false)) fun t65 =>
 K t65 w
set_option maxRecDepth 100000 in
theorem rutterref05_Right.sound {a0 : Value} {w : World} {K : Value → World → Prop} (h : rutterref05_Right.sh a0 w K) : Calls Try.prog 39 #[a0] w (retP K) :=
  calls_of_sem mixed Try.func39 (by kernel_rfl) (phL := fun _ => []) (phJ := fun _ => none) (args := [a0]) (by kernel_rfl) (cast (by kernel_rfl) h)

-- rutter/rutterref05.Again
abbrev rutterref05_Again.id : Nat := 40
set_option maxRecDepth 100000 in
def rutterref05_Again.sh (a0 a1 a2 : Value) (w : World) (K : Value → World → Prop) : Prop :=
 bx 37 a0 w fun t1 w =>
 al #[(.int .i64 0), (.int .i64 0), (.int .i64 0), (.int .i64 0), (.int .i64 0), (.int .i64 0), (.int .i64 0), (.slice none 0 0)] 37 w fun t2 w =>
 la 8 t1 w fun t3 =>
 fc 39 #[t3] w fun t4 w =>
 pv (un .not t4) fun t5 =>
 cnd t5 (
 pv (bd 37 #[]) fun t6 =>
 sa 8 t2 t6 w fun _ w =>
 la 8 t2 w fun t7 =>
 K (.tuple #[t7, (.int .i64 1)]) w) (
 fx t1 0 fun t8 =>
 l1 t8 w fun t9 =>
 pv (be .eql 35 true t9 (.int .i64 2)) fun t10 =>
 cnd t10 (
 pv (bd 37 #[]) fun t11 =>
 sa 8 t2 t11 w fun _ w =>
 la 8 t2 w fun t12 =>
 K (.tuple #[t12, (.int .i64 8)]) w) (
 la 8 t1 w fun t13 =>
 al #[(.int .i64 0), (.int .i64 0), (.int .i64 0), (.int .i64 0), (.int .i64 0), (.int .i64 0), (.int .i64 0), (.slice none 0 0)] 37 w fun t14 w =>
 sa 8 t14 t13 w fun _ w =>
 fx t14 0 fun t15 =>
 sw t15 (.int .i64 2) w fun _ w =>
 fx t1 3 fun t16 =>
 l1 t16 w fun t17 =>
 fx t14 2 fun t18 =>
 sw t18 t17 w fun _ w =>
 fx t14 3 fun t19 =>
 sw t19 a1 w fun _ w =>
 fx t14 5 fun t20 =>
 sw t20 a2 w fun _ w =>
 la 8 t14 w fun t21 =>
 fc 39 #[t21] w fun t22 w =>
 pv (un .not t22) fun t23 =>
 cnd t23 (
 pv (bd 37 #[]) fun t24 =>
 sa 8 t2 t24 w fun _ w =>
 la 8 t2 w fun t25 =>
 K (.tuple #[t25, (.int .i64 1)]) w) (
 la 8 t14 w fun t26 =>
 sa 8 t2 t26 w fun _ w =>
 la 8 t2 w fun t27 =>
 K (.tuple #[t27, (.int .i64 0)]) w)))
set_option maxRecDepth 100000 in
theorem rutterref05_Again.sound {a0 a1 a2 : Value} {w : World} {K : Value → World → Prop} (h : rutterref05_Again.sh a0 a1 a2 w K) : Calls Try.prog 40 #[a0, a1, a2] w (retP K) :=
  calls_of_sem mixed Try.func40 (by kernel_rfl) (phL := fun _ => []) (phJ := fun _ => none) (args := [a0, a1, a2]) (by kernel_rfl) (cast (by kernel_rfl) h)

-- rutter/rutterref06.Row
abbrev rutterref06_Row.id : Nat := 41
set_option maxRecDepth 100000 in
def rutterref06_Row.sh (a0 : Value) (w : World) (K : Value → World → Prop) : Prop :=
 bx 65 a0 w fun t1 w =>
 la 9 t1 w fun t2 =>
 fc 54 #[t2] w fun t3 w =>
 fx t1 0 fun t4 =>
 l1 t4 w fun t5 =>
 fc 53 #[t5, (.int .i64 0), (.int .i64 31)] w fun t6 w =>
 gq t6 true (fx t1 5) fun t7 =>
 gq t6 true (l1 t7 w) fun t8 =>
 ge t6 true (fc 53 #[t8, (.int .i64 1), (.int .i64 4294967296)] w) w fun t9 w =>
 pv (pk t6 t9 (.bool false)) fun t10 =>
 gq t10 true (fx t1 7) fun t11 =>
 gq t10 true (l1 t11 w) fun t12 =>
 ge t10 true (fc 53 #[t12, (.int .i64 1), (.int .i64 1099511627776)] w) w fun t13 w =>
 pv (pk t10 t13 (.bool false)) fun t14 =>
 gq t14 true (fx t1 8) fun t15 =>
 gq t14 true (l1 t15 w) fun t16 =>
 ge t14 true (fc 53 #[t16, (.int .i64 0), (.int .i64 1099511627776)] w) w fun t17 w =>
 pv (pk t14 t17 (.bool false)) fun t18 =>
 gq t3 true (pv (mv t18)) fun t19 =>
 pv (pk t3 t19 (.bool false)) fun t20 =>
 gq t20 true (fx t1 1) fun t21 =>
 gq t20 true (l1 t21 w) fun t22 =>
 gq t20 true (pv (bn .leq 23 t22 (.int .u64 281474976710655))) fun t23 =>
 pv (pk t20 t23 (.bool false)) fun t24 =>
 K t24 w
set_option maxRecDepth 100000 in
theorem rutterref06_Row.sound {a0 : Value} {w : World} {K : Value → World → Prop} (h : rutterref06_Row.sh a0 w K) : Calls Try.prog 41 #[a0] w (retP K) :=
  calls_of_sem mixed Try.func41 (by kernel_rfl) (phL := fun _ => []) (phJ := fun _ => none) (args := [a0]) (by kernel_rfl) (cast (by kernel_rfl) h)

-- rutter/rutterref01.One
abbrev rutterref01_One.id : Nat := 42
set_option maxRecDepth 100000 in
def rutterref01_One.sh (a0 a1 : Value) (w : World) (K : Value → World → Prop) : Prop :=
 pv (bn .sub 3 a0 (.int .i64 1)) fun t1 =>
 LoopS (fun s2 w k3 => ∀ _ : List Value,
 pv (bn .geq 3 (nth s2 1) (.int .i64 0)) fun t4 =>
 cnd t4 (
 pv (bn .mul 3 (.int .i64 8) (nth s2 1)) fun t5 =>
 wv (cv 3 112 t5) w fun t6 =>
 pv (bn .shr 3 a1 t6) fun t7 =>
 wv (cv 3 5 t7) w fun t8 =>
 o (bs 24 1 #[(0, t8)]) w fun t9 w =>
 o (ap #[24, 24] 24 #[false, false] (nth s2 0) t9) w fun t10 w =>
 pv (bn .sub 3 (nth s2 1) (.int .i64 1)) fun t11 =>
 k3 [t10, t11] w) (
 K (nth s2 0) w))
 [(.slice none 0 0), t1] w
set_option maxRecDepth 100000 in
theorem rutterref01_One.sound {a0 a1 : Value} {w : World} {K : Value → World → Prop} (h : rutterref01_One.sh a0 a1 w K) : Calls Try.prog 42 #[a0, a1] w (retP K) :=
  calls_of_sem mixed Try.func42 (by kernel_rfl) (phL := fun n => bif Nat.beq n 3 then [5, 6] else []) (phJ := fun _ => none) (args := [a0, a1]) (by kernel_rfl) (cast (by kernel_rfl) h)

-- rutter/bind.Compile
abbrev bind_Compile.id : Nat := 43
set_option maxRecDepth 100000 in
def bind_Compile.sh (a0 a1 : Value) (w : World) (K : Value → World → Prop) : Prop :=
 ln 1 a1 w fun t1 =>
 LoopS (fun s2 w k3 => ∀ _ : List Value,
 pv (bn .lss 3 (nth s2 1) t1) fun t4 =>
 cnd t4 (
 JoinS (fun k5 =>
 iz 9 a1 (nth s2 1) fun t7 =>
 la 9 t7 w fun t8 =>
 al #[(.int .i64 0), (.int .u64 0), (.int .i64 0), (.int .i64 0), (.int .i64 0), (.int .i64 0), (.int .i64 0), (.int .i64 0), (.int .i64 0)] 65 w fun t9 w =>
 sa 9 t9 t8 w fun _ w =>
 fx t9 6 fun t10 =>
 l1 t10 w fun t11 =>
 pv (be .eql 63 true t11 (.int .i64 3)) fun t12 =>
 cnd t12 (
 k5 [(nth s2 0)] w) (
 fx t9 2 fun t13 =>
 l1 t13 w fun t14 =>
 pv (be .eql 3 false t14 a0) fun t15 =>
 cnd t15 (
 la 9 t9 w fun t16 =>
 fc 55 #[t16, (.int .i64 7), (.int .i64 (-2)), (.int .i64 1)] w fun t17 w =>
 o (bs 22 1 #[(0, t17)]) w fun t18 w =>
 o (ap #[22, 22] 22 #[false, false] (nth s2 0) t18) w fun t19 w =>
 k5 [t19] w) (
 la 9 t9 w fun t20 =>
 fc 55 #[t20, (.int .i64 1), (.int .i64 (-2)), (.int .i64 2)] w fun t21 w =>
 o (bs 22 1 #[(0, t21)]) w fun t22 w =>
 o (ap #[22, 22] 22 #[false, false] (nth s2 0) t22) w fun t23 w =>
 fx t9 6 fun t24 =>
 l1 t24 w fun t25 =>
 pv (be .eql 63 true t25 (.int .i64 2)) fun t26 =>
 gq t26 true (fx t9 4) fun t27 =>
 gq t26 true (l1 t27 w) fun t28 =>
 gq t26 true (pv (mv a0)) fun t29 =>
 gq t26 true (pv (be .eql 3 false t28 t29)) fun t30 =>
 pv (pk t26 t30 (.bool false)) fun t31 =>
 cnd t31 (
 la 9 t9 w fun t32 =>
 fx t9 2 fun t33 =>
 l1 t33 w fun t34 =>
 fc 55 #[t32, (.int .i64 2), t34, (.int .i64 2)] w fun t35 w =>
 o (bs 22 1 #[(0, t35)]) w fun t36 w =>
 o (ap #[22, 22] 22 #[false, false] t23 t36) w fun t37 w =>
 k5 [t37] w) (
 k5 [t23] w))))
 (fun s6 w => ∀ _ : List Value,
 pv (bn .add 3 (nth s2 1) (.int .i64 1)) fun t38 =>
 k3 [(nth s6 0), t38] w)) (
 K (nth s2 0) w))
 [(.slice none 0 0), (.int .i64 0)] w
set_option maxRecDepth 100000 in
theorem bind_Compile.sound {a0 a1 : Value} {w : World} {K : Value → World → Prop} (h : bind_Compile.sh a0 a1 w K) : Calls Try.prog 43 #[a0, a1] w (retP K) :=
  calls_of_sem mixed Try.func43 (by kernel_rfl) (phL := fun n => bif Nat.beq n 3 then [5, 10] else []) (phJ := fun n => bif Nat.beq n 11 then some [5] else none) (args := [a0, a1]) (by kernel_rfl) (cast (by kernel_rfl) h)

-- slices.stableCmpFunc[rutter/flow.Entry]
abbrev slices_stableCmpFunc_flow_Entry.id : Nat := 44
set_option maxRecDepth 100000 in
def slices_stableCmpFunc_flow_Entry.sh (a0 a1 a2 : Value) (w : World) (K : Value → World → Prop) : Prop :=
 LoopS (fun s1 w k2 => ∀ _ : List Value,
 pv (bn .leq 3 (nth s1 1) a1) fun t3 =>
 cnd t3 (
 fc 56 #[a0, (nth s1 0), (nth s1 1), a2] w fun _ w =>
 pv (bn .add 3 (nth s1 1) (.int .i64 20)) fun t5 =>
 k2 [(nth s1 1), t5] w) (
 fc 56 #[a0, (nth s1 0), a1, a2] w fun _ w =>
 LoopS (fun s7 w k8 => ∀ _ : List Value,
 pv (bn .lss 3 (nth s7 0) a1) fun t9 =>
 cnd t9 (
 pv (bn .mul 3 (.int .i64 2) (nth s7 0)) fun t10 =>
 LoopS (fun s11 w k12 => ∀ _ : List Value,
 pv (bn .leq 3 (nth s11 1) a1) fun t13 =>
 cnd t13 (
 pv (bn .add 3 (nth s11 0) (nth s7 0)) fun t14 =>
 fc 57 #[a0, (nth s11 0), t14, (nth s11 1), a2] w fun _ w =>
 pv (bn .mul 3 (.int .i64 2) (nth s7 0)) fun t16 =>
 pv (bn .add 3 (nth s11 1) t16) fun t17 =>
 k12 [(nth s11 1), t17] w) (
 JoinS (fun k18 =>
 pv (bn .add 3 (nth s11 0) (nth s7 0)) fun t20 =>
 pv (bn .lss 3 t20 a1) fun t21 =>
 cnd t21 (
 fc 57 #[a0, (nth s11 0), t20, a1, a2] w fun _ w =>
 k18 [] w) (
 k18 [] w))
 (fun _ w => ∀ _ : List Value,
 pv (bn .mul 3 (nth s7 0) (.int .i64 2)) fun t23 =>
 k8 [t23] w)))
 [(.int .i64 0), t10] w) (
 K (.tuple #[]) w))
 [(.int .i64 20)] w))
 [(.int .i64 0), (.int .i64 20)] w
set_option maxRecDepth 100000 in
theorem slices_stableCmpFunc_flow_Entry.sound {a0 a1 a2 : Value} {w : World} {K : Value → World → Prop} (h : slices_stableCmpFunc_flow_Entry.sh a0 a1 a2 w K) : Calls Try.prog 44 #[a0, a1, a2] w (retP K) :=
  calls_of_sem mixed Try.func44 (by kernel_rfl) (phL := fun n => bif Nat.beq n 9 then [7, 8] else bif Nat.beq n 7 then [6] else bif Nat.beq n 2 then [7, 8] else []) (phJ := fun n => bif Nat.beq n 16 then some [] else none) (args := [a0, a1, a2]) (by kernel_rfl) (cast (by kernel_rfl) h)

-- cmp.isNaN[int]
abbrev cmp_isNaN_int.id : Nat := 45
set_option maxRecDepth 100000 in
def cmp_isNaN_int.sh (a0 : Value) (w : World) (K : Value → World → Prop) : Prop :=
 pv (be .neq 3 false a0 a0) fun t1 =>
 K t1 w
set_option maxRecDepth 100000 in
theorem cmp_isNaN_int.sound {a0 : Value} {w : World} {K : Value → World → Prop} (h : cmp_isNaN_int.sh a0 w K) : Calls Try.prog 45 #[a0] w (retP K) :=
  calls_of_sem mixed Try.func45 (by kernel_rfl) (phL := fun _ => []) (phJ := fun _ => none) (args := [a0]) (by kernel_rfl) (cast (by kernel_rfl) h)

-- rutter/ether.Right
abbrev ether_Right.id : Nat := 46
set_option maxRecDepth 100000 in
def ether_Right.sh (a0 : Value) (w : World) (K : Value → World → Prop) : Prop :=
 bx 26 a0 w fun t1 w =>
 fx t1 0 fun t2 =>
 l1 t2 w fun t3 =>
 fx t1 1 fun t4 =>
 l1 t4 w fun t5 =>
 o (bs 120 2 #[(0, t3), (1, t5)]) w fun t6 w =>
 fc 58 #[(.int .u64 281474976710655), t6] w fun t7 w =>
 gq t7 true (fx t1 2) fun t8 =>
 gq t7 true (l1 t8 w) fun t9 =>
 gq t7 true (wv (cv 3 23 t9) w) fun t10 =>
 ge t7 true (o (bs 120 1 #[(0, t10)]) w) w fun t11 w =>
 ge t7 true (fc 58 #[(.int .u64 65535), t11] w) w fun t12 w =>
 pv (pk t7 t12 (.bool false)) fun t13 =>
 gq t13 true (fx t1 3) fun t14 =>
 gq t13 true (l1 t14 w) fun t15 =>
 gq t13 true (ln 1 t15 w) fun t16 =>
 gq t13 true (pv (bn .leq 3 t16 (.int .i64 1500))) fun t17 =>
 pv (pk t13 t17 (.bool false)) fun t18 =>
 K t18 w
set_option maxRecDepth 100000 in
theorem ether_Right.sound {a0 : Value} {w : World} {K : Value → World → Prop} (h : ether_Right.sh a0 w K) : Calls Try.prog 46 #[a0] w (retP K) :=
  calls_of_sem mixed Try.func46 (by kernel_rfl) (phL := fun _ => []) (phJ := fun _ => none) (args := [a0]) (by kernel_rfl) (cast (by kernel_rfl) h)

-- (*rutter/buf.Writer).Put
abbrev buf_Writer_Put.id : Nat := 47
set_option maxRecDepth 100000 in
def buf_Writer_Put.sh (a0 a1 a2 : Value) (w : World) (K : Value → World → Prop) : Prop :=
 pv (be .eql 102 true a0 (.pointer none)) fun t1 =>
 cnd t1 (
 K (.pointer none) w) (
 pv (bn .lss 3 a1 (.int .i64 1)) fun t2 =>
 gq t2 false (pv (mv a1)) fun t3 =>
 gq t2 false (pv (bn .gtr 3 t3 (.int .i64 8))) fun t4 =>
 pv (pk t2 (.bool true) t4) fun t5 =>
 cnd t5 (
 pv (nc a0) fun t6 =>
 fx t6 1 fun t7 =>
 sw t7 (.bool true) w fun _ w =>
 K a0 w) (
 ln 1 a2 w fun t8 =>
 LoopS (fun s9 w k10 => ∀ _ : List Value,
 pv (bn .lss 3 (nth s9 0) t8) fun t11 =>
 cnd t11 (
 JoinS (fun k12 =>
 iz 1 a2 (nth s9 0) fun t14 =>
 l1 t14 w fun t15 =>
 pv (bn .lss 3 t15 (.int .i64 0)) fun t16 =>
 gq t16 false (pv (mv a1)) fun t17 =>
 gq t16 false (pv (bn .lss 3 t17 (.int .i64 8))) fun t18 =>
 gq t16 false (pv (mv t18)) fun t19 =>
 gq t19 true (pv (mv t15)) fun t20 =>
 gq t19 true (pv (mv a1)) fun t21 =>
 gq t19 true (pv (bn .mul 3 (.int .i64 8) t21)) fun t22 =>
 gq t19 true (pv (bn .shr 3 t20 t22)) fun t23 =>
 gq t19 true (pv (bn .gtr 3 t23 (.int .i64 0))) fun t24 =>
 gq t16 false (pv (pk t19 t24 (.bool false))) fun t25 =>
 pv (pk t16 (.bool true) t25) fun t26 =>
 cnd t26 (
 pv (nc a0) fun t27 =>
 fx t27 1 fun t28 =>
 sw t28 (.bool true) w fun _ w =>
 k12 [] w) (
 pv (bn .sub 3 a1 (.int .i64 1)) fun t29 =>
 LoopS (fun s30 w k31 => ∀ _ : List Value,
 pv (bn .geq 3 (nth s30 0) (.int .i64 0)) fun t32 =>
 cnd t32 (
 (fun w : World =>
 pv (nc a0) fun t33 =>
 fx t33 0 fun t34 =>
 l1 t34 w fun t35 =>
 pv (bn .mul 3 (.int .i64 8) (nth s30 0)) fun t36 =>
 pv (bn .shr 3 t15 t36) fun t37 =>
 wv (cv 3 5 t37) w fun t38 =>
 o (bs 24 1 #[(0, t38)]) w fun t39 w =>
 rk (l1 t34 w) t35 <|
 o (ap #[24, 24] 24 #[false, false] t35 t39) w fun t40 w =>
 pv (nc a0) fun t41 =>
 fx t41 0 fun t42 =>
 sw t42 t40 w fun _ w =>
 pv (bn .sub 3 (nth s30 0) (.int .i64 1)) fun t43 =>
 k31 [t43] w) w.drew) (
 k12 [] w))
 [t29] w))
 (fun _ w => ∀ _ : List Value,
 pv (bn .add 3 (nth s9 0) (.int .i64 1)) fun t44 =>
 k10 [t44] w)) (
 K a0 w))
 [(.int .i64 0)] w))
set_option maxRecDepth 100000 in
theorem buf_Writer_Put.sound {a0 a1 a2 : Value} {w : World} {K : Value → World → Prop} (h : buf_Writer_Put.sh a0 a1 a2 w K) : Calls Try.prog 47 #[a0, a1, a2] w (retP K) :=
  calls_of_sem mixed Try.func47 (by kernel_rfl) (phL := fun n => bif Nat.beq n 12 then [9] else bif Nat.beq n 7 then [24] else []) (phJ := fun n => bif Nat.beq n 15 then some [] else none) (args := [a0, a1, a2]) (by kernel_rfl) (cast (by kernel_rfl) h)

-- (*rutter/buf.Writer).Done
abbrev buf_Writer_Done.id : Nat := 48
set_option maxRecDepth 100000 in
def buf_Writer_Done.sh (a0 : Value) (w : World) (K : Value → World → Prop) : Prop :=
 pv (be .eql 102 true a0 (.pointer none)) fun t1 =>
 gq t1 false (pv (mv a0)) fun t2 =>
 gq t1 false (pv (nc t2)) fun t3 =>
 gq t1 false (fx t3 1) fun t4 =>
 gq t1 false (l1 t4 w) fun t5 =>
 pv (pk t1 (.bool true) t5) fun t6 =>
 cnd t6 (
 K (.tuple #[(.slice none 0 0), (.int .i64 1)]) w) (
 pv (nc a0) fun t7 =>
 fx t7 0 fun t8 =>
 l1 t8 w fun t9 =>
 fc 59 #[t9] w fun t10 w =>
 K (.tuple #[t10, (.int .i64 0)]) w)
set_option maxRecDepth 100000 in
theorem buf_Writer_Done.sound {a0 : Value} {w : World} {K : Value → World → Prop} (h : buf_Writer_Done.sh a0 w K) : Calls Try.prog 48 #[a0] w (retP K) :=
  calls_of_sem mixed Try.func48 (by kernel_rfl) (phL := fun _ => []) (phJ := fun _ => none) (args := [a0]) (by kernel_rfl) (cast (by kernel_rfl) h)

-- (*rutter/flow.Table).Look
abbrev flow_Table_Look.id : Nat := 49
set_option maxRecDepth 100000 in
def flow_Table_Look.sh (a0 a1 : Value) (w : World) (K : Value → World → Prop) : Prop :=
 bx 84 a1 w fun t1 w =>
 al #[(.int .i64 0), (.int .i64 0), (.int .i64 0), (.int .i64 0)] 68 w fun t2 w =>
 pv (be .eql 31 true a0 (.pointer none)) fun t3 =>
 cnd t3 (
 pv (bd 68 #[]) fun t4 =>
 sa 4 t2 t4 w fun _ w =>
 la 4 t2 w fun t5 =>
 K (.tuple #[t5, (.bool false)]) w) (
 pv (nc a0) fun t6 =>
 fx t6 1 fun t7 =>
 l1 t7 w fun t8 =>
 pv (mf (.func 61) #[] #[t1]) fun t9 =>
 fc 60 #[t8, t9] w fun t10 w =>
 pv (bn .lss 3 t10 (.int .i64 0)) fun t11 =>
 cnd t11 (
 pv (bd 68 #[]) fun t12 =>
 sa 4 t2 t12 w fun _ w =>
 la 4 t2 w fun t13 =>
 K (.tuple #[t13, (.bool false)]) w) (
 pv (nc a0) fun t14 =>
 fx t14 1 fun t15 =>
 l1 t15 w fun t16 =>
 iz 11 t16 t10 fun t17 =>
 fx t17 7 fun t18 =>
 la 4 t18 w fun t19 =>
 sa 4 t2 t19 w fun _ w =>
 la 4 t2 w fun t20 =>
 K (.tuple #[t20, (.bool true)]) w))
set_option maxRecDepth 100000 in
theorem flow_Table_Look.sound {a0 a1 : Value} {w : World} {K : Value → World → Prop} (h : flow_Table_Look.sh a0 a1 w K) : Calls Try.prog 49 #[a0, a1] w (retP K) :=
  calls_of_sem mixed Try.func49 (by kernel_rfl) (phL := fun _ => []) (phJ := fun _ => none) (args := [a0, a1]) (by kernel_rfl) (cast (by kernel_rfl) h)

-- rutter/rutterref13.Fits
abbrev rutterref13_Fits.id : Nat := 50
set_option maxRecDepth 100000 in
def rutterref13_Fits.sh (a0 a1 : Value) (w : World) (K : Value → World → Prop) : Prop :=
 bx 92 a0 w fun t1 w =>
 bx 88 a1 w fun t2 w =>
 fx t2 0 fun t3 =>
 l1 t3 w fun t4 =>
 pv (be .eql 3 true t4 (.int .i64 0)) fun t5 =>
 gq t5 true (fx t1 1) fun t6 =>
 gq t5 true (l1 t6 w) fun t7 =>
 gq t5 true (pv (bn .and 3 t7 (.int .i64 1))) fun t8 =>
 gq t5 true (pv (be .neq 3 true t8 (.int .i64 0))) fun t9 =>
 pv (pk t5 t9 (.bool false)) fun t10 =>
 gq t10 false (fx t2 0) fun t11 =>
 gq t10 false (l1 t11 w) fun t12 =>
 gq t10 false (pv (be .eql 3 true t12 (.int .i64 1))) fun t13 =>
 gq t10 false (pv (mv t13)) fun t14 =>
 gq t14 true (fx t1 1) fun t15 =>
 gq t14 true (l1 t15 w) fun t16 =>
 gq t14 true (pv (bn .and 3 t16 (.int .i64 2))) fun t17 =>
 gq t14 true (pv (be .neq 3 true t17 (.int .i64 0))) fun t18 =>
 gq t10 false (pv (pk t14 t18 (.bool false))) fun t19 =>
 pv (pk t10 (.bool true) t19) fun t20 =>
 gq t20 false (fx t2 0) fun t21 =>
 gq t20 false (l1 t21 w) fun t22 =>
 gq t20 false (pv (be .eql 3 true t22 (.int .i64 2))) fun t23 =>
 gq t20 false (pv (mv t23)) fun t24 =>
 gq t24 true (fx t1 1) fun t25 =>
 gq t24 true (l1 t25 w) fun t26 =>
 gq t24 true (pv (bn .and 3 t26 (.int .i64 4))) fun t27 =>
 gq t24 true (pv (be .neq 3 true t27 (.int .i64 0))) fun t28 =>
 gq t20 false (pv (pk t24 t28 (.bool false))) fun t29 =>
 pv (pk t20 (.bool true) t29) fun t30 =>
 fx t2 0 fun t31 =>
 l1 t31 w fun t32 =>
 pv (be .eql 3 true t32 (.int .i64 0)) fun t33 =>
 gq t33 true (fx t1 2) fun t34 =>
 gq t33 true (l1 t34 w) fun t35 =>
 gq t33 true (fx t2 1) fun t36 =>
 gq t33 true (l1 t36 w) fun t37 =>
 gq t33 true (pv (be .eql 23 false t35 t37)) fun t38 =>
 pv (pk t33 t38 (.bool false)) fun t39 =>
 gq t39 false (fx t2 0) fun t40 =>
 gq t39 false (l1 t40 w) fun t41 =>
 gq t39 false (pv (be .neq 3 true t41 (.int .i64 0))) fun t42 =>
 gq t39 false (pv (mv t42)) fun t43 =>
 gq t43 true (fx t1 3) fun t44 =>
 gq t43 true (l1 t44 w) fun t45 =>
 gq t43 true (fx t2 2) fun t46 =>
 gq t43 true (l1 t46 w) fun t47 =>
 gq t43 true (pv (be .eql 3 false t45 t47)) fun t48 =>
 gq t39 false (pv (pk t43 t48 (.bool false))) fun t49 =>
 pv (pk t39 (.bool true) t49) fun t50 =>
 gq t30 true (pv (mv t50)) fun t51 =>
 pv (pk t30 t51 (.bool false)) fun t52 =>
 gq t52 true (fx t2 3) fun t53 =>
 gq t52 true (l1 t53 w) fun t54 =>
 gq t52 true (fx t1 4) fun t55 =>
 gq t52 true (l1 t55 w) fun t56 =>
 gq t52 true (pv (bn .geq 3 t54 t56)) fun t57 =>
 pv (pk t52 t57 (.bool false)) fun t58 =>
 gq t58 true (fx t2 3) fun t59 =>
 gq t58 true (l1 t59 w) fun t60 =>
 gq t58 true (fx t1 5) fun t61 =>
 gq t58 true (l1 t61 w) fun t62 =>
 gq t58 true (pv (bn .leq 3 t60 t62)) fun t63 =>
 pv (pk t58 t63 (.bool false)) fun t64 =>
 gq t64 true (fx t2 4) fun t65 =>
 gq t64 true (l1 t65 w) fun t66 =>
 gq t64 true (fx t1 6) fun t67 =>
 gq t64 true (l1 t67 w) fun t68 =>
 gq t64 true (pv (be .neq 3 false t66 t68)) fun t69 =>
 pv (pk t64 t69 (.bool false)) fun t70 =>
 K t70 w
set_option maxRecDepth 100000 in
theorem rutterref13_Fits.sound {a0 a1 : Value} {w : World} {K : Value → World → Prop} (h : rutterref13_Fits.sh a0 a1 w K) : Calls Try.prog 50 #[a0, a1] w (retP K) :=
  calls_of_sem mixed Try.func50 (by kernel_rfl) (phL := fun _ => []) (phJ := fun _ => none) (args := [a0, a1]) (by kernel_rfl) (cast (by kernel_rfl) h)

-- rutter/tunnel.chassis
abbrev tunnel_chassis.id : Nat := 51
set_option maxRecDepth 100000 in
def tunnel_chassis.sh (a0 : Value) (w : World) (K : Value → World → Prop) : Prop :=
 ln 1 a0 w fun t1 =>
 LoopS (fun s2 w k3 => ∀ _ : List Value,
 pv (bn .lss 3 (nth s2 0) t1) fun t4 =>
 cnd t4 (
 iz 1 a0 (nth s2 0) fun t5 =>
 l1 t5 w fun t6 =>
 pv (bn .lss 3 t6 (.int .i64 0)) fun t7 =>
 gq t7 false (pv (mv t6)) fun t8 =>
 gq t7 false (pv (bn .geq 3 t8 (.int .i64 16))) fun t9 =>
 pv (pk t7 (.bool true) t9) fun t10 =>
 cnd t10 (
 K (.bool false) w) (
 pv (bn .add 3 (nth s2 0) (.int .i64 1)) fun t11 =>
 k3 [t11] w)) (
 K (.bool true) w))
 [(.int .i64 0)] w
set_option maxRecDepth 100000 in
theorem tunnel_chassis.sound {a0 : Value} {w : World} {K : Value → World → Prop} (h : tunnel_chassis.sh a0 w K) : Calls Try.prog 51 #[a0] w (retP K) :=
  calls_of_sem mixed Try.func51 (by kernel_rfl) (phL := fun n => bif Nat.beq n 2 then [7] else []) (phJ := fun _ => none) (args := [a0]) (by kernel_rfl) (cast (by kernel_rfl) h)

-- rutter/tunnel.way
abbrev tunnel_way.id : Nat := 52
set_option maxRecDepth 100000 in
def tunnel_way.sh (a0 : Value) (w : World) (K : Value → World → Prop) : Prop :=
 bx 37 a0 w fun t1 w =>
 fx t1 0 fun t2 =>
 l1 t2 w fun t3 =>
 pv (be .eql 35 true t3 (.int .i64 1)) fun t4 =>
 cnd t4 (
 fx t1 2 fun t5 =>
 l1 t5 w fun t6 =>
 fx t1 1 fun t7 =>
 l1 t7 w fun t8 =>
 pv (be .eql 3 false t6 t8) fun t9 =>
 gq t9 true (fx t1 3) fun t10 =>
 gq t9 true (l1 t10 w) fun t11 =>
 gq t9 true (fx t1 2) fun t12 =>
 gq t9 true (l1 t12 w) fun t13 =>
 gq t9 true (pv (be .neq 3 false t11 t13)) fun t14 =>
 pv (pk t9 t14 (.bool false)) fun t15 =>
 K t15 w) (
 pv (be .eql 35 true t3 (.int .i64 2)) fun t16 =>
 cnd t16 (
 fx t1 2 fun t17 =>
 l1 t17 w fun t18 =>
 fx t1 1 fun t19 =>
 l1 t19 w fun t20 =>
 pv (be .neq 3 false t18 t20) fun t21 =>
 gq t21 true (fx t1 3) fun t22 =>
 gq t21 true (l1 t22 w) fun t23 =>
 gq t21 true (fx t1 1) fun t24 =>
 gq t21 true (l1 t24 w) fun t25 =>
 gq t21 true (pv (be .neq 3 false t23 t25)) fun t26 =>
 pv (pk t21 t26 (.bool false)) fun t27 =>
 gq t27 true (fx t1 3) fun t28 =>
 gq t27 true (l1 t28 w) fun t29 =>
 gq t27 true (fx t1 2) fun t30 =>
 gq t27 true (l1 t30 w) fun t31 =>
 gq t27 true (pv (be .neq 3 false t29 t31)) fun t32 =>
 pv (pk t27 t32 (.bool false)) fun t33 =>
 K t33 w) (
 K (.bool false) w))
set_option maxRecDepth 100000 in
theorem tunnel_way.sound {a0 : Value} {w : World} {K : Value → World → Prop} (h : tunnel_way.sh a0 w K) : Calls Try.prog 52 #[a0] w (retP K) :=
  calls_of_sem mixed Try.func52 (by kernel_rfl) (phL := fun _ => []) (phJ := fun _ => none) (args := [a0]) (by kernel_rfl) (cast (by kernel_rfl) h)

-- rutter/rutterref05.In
abbrev rutterref05_In.id : Nat := 53
set_option maxRecDepth 100000 in
def rutterref05_In.sh (a0 a1 a2 : Value) (w : World) (K : Value → World → Prop) : Prop :=
 pv (bn .geq 3 a0 a1) fun t1 =>
 gq t1 true (pv (mv a0)) fun t2 =>
 gq t1 true (pv (mv a2)) fun t3 =>
 gq t1 true (pv (bn .leq 3 t2 t3)) fun t4 =>
 pv (pk t1 t4 (.bool false)) fun t5 =>
 K t5 w
set_option maxRecDepth 100000 in
theorem rutterref05_In.sound {a0 a1 a2 : Value} {w : World} {K : Value → World → Prop} (h : rutterref05_In.sh a0 a1 a2 w K) : Calls Try.prog 53 #[a0, a1, a2] w (retP K) :=
  calls_of_sem mixed Try.func53 (by kernel_rfl) (phL := fun _ => []) (phJ := fun _ => none) (args := [a0, a1, a2]) (by kernel_rfl) (cast (by kernel_rfl) h)

-- rutter/rutterref06.who
abbrev rutterref06_who.id : Nat := 54
set_option maxRecDepth 100000 in
def rutterref06_who.sh (a0 : Value) (w : World) (K : Value → World → Prop) : Prop :=
 bx 65 a0 w fun t1 w =>
 fx t1 2 fun t2 =>
 l1 t2 w fun t3 =>
 fc 63 #[t3] w fun t4 w =>
 fx t1 3 fun t5 =>
 l1 t5 w fun t6 =>
 fc 63 #[t6] w fun t7 w =>
 fx t1 4 fun t8 =>
 l1 t8 w fun t9 =>
 fc 63 #[t9] w fun t10 w =>
 fx t1 6 fun t11 =>
 l1 t11 w fun t12 =>
 pv (be .eql 63 true t12 (.int .i64 0)) fun t13 =>
 cnd t13 (
 gq t4 true (fx t1 3) fun t14 =>
 gq t4 true (l1 t14 w) fun t15 =>
 gq t4 true (pv (be .eql 3 true t15 (.int .i64 (-1)))) fun t16 =>
 pv (pk t4 t16 (.bool false)) fun t17 =>
 gq t17 true (fx t1 4) fun t18 =>
 gq t17 true (l1 t18 w) fun t19 =>
 gq t17 true (pv (be .eql 3 true t19 (.int .i64 (-1)))) fun t20 =>
 pv (pk t17 t20 (.bool false)) fun t21 =>
 K t21 w) (
 pv (be .eql 63 true t12 (.int .i64 1)) fun t22 =>
 cnd t22 (
 gq t4 true (pv (mv t7)) fun t23 =>
 pv (pk t4 t23 (.bool false)) fun t24 =>
 gq t24 true (fx t1 4) fun t25 =>
 gq t24 true (l1 t25 w) fun t26 =>
 gq t24 true (pv (be .eql 3 true t26 (.int .i64 (-1)))) fun t27 =>
 pv (pk t24 t27 (.bool false)) fun t28 =>
 gq t28 true (fx t1 2) fun t29 =>
 gq t28 true (l1 t29 w) fun t30 =>
 gq t28 true (fx t1 3) fun t31 =>
 gq t28 true (l1 t31 w) fun t32 =>
 gq t28 true (pv (be .neq 3 false t30 t32)) fun t33 =>
 pv (pk t28 t33 (.bool false)) fun t34 =>
 K t34 w) (
 pv (be .eql 63 true t12 (.int .i64 2)) fun t35 =>
 cnd t35 (
 gq t4 true (pv (mv t10)) fun t36 =>
 pv (pk t4 t36 (.bool false)) fun t37 =>
 gq t37 true (fx t1 3) fun t38 =>
 gq t37 true (l1 t38 w) fun t39 =>
 gq t37 true (pv (be .eql 3 true t39 (.int .i64 (-1)))) fun t40 =>
 pv (pk t37 t40 (.bool false)) fun t41 =>
 gq t41 true (fx t1 2) fun t42 =>
 gq t41 true (l1 t42 w) fun t43 =>
 gq t41 true (fx t1 4) fun t44 =>
 gq t41 true (l1 t44 w) fun t45 =>
 gq t41 true (pv (be .neq 3 false t43 t45)) fun t46 =>
 pv (pk t41 t46 (.bool false)) fun t47 =>
 K t47 w) (
 pv (be .eql 63 true t12 (.int .i64 3)) fun t48 =>
 cnd t48 (
 fx t1 2 fun t49 =>
 l1 t49 w fun t50 =>
 pv (be .eql 3 true t50 (.int .i64 (-1))) fun t51 =>
 gq t51 true (fx t1 3) fun t52 =>
 gq t51 true (l1 t52 w) fun t53 =>
 gq t51 true (pv (be .eql 3 true t53 (.int .i64 (-1)))) fun t54 =>
 pv (pk t51 t54 (.bool false)) fun t55 =>
 gq t55 true (fx t1 4) fun t56 =>
 gq t55 true (l1 t56 w) fun t57 =>
 gq t55 true (pv (be .eql 3 true t57 (.int .i64 (-1)))) fun t58 =>
 pv (pk t55 t58 (.bool false)) fun t59 =>
 K t59 w) (
 K (.bool false) w))))
set_option maxRecDepth 100000 in
theorem rutterref06_who.sound {a0 : Value} {w : World} {K : Value → World → Prop} (h : rutterref06_who.sh a0 w K) : Calls Try.prog 54 #[a0] w (retP K) :=
  calls_of_sem mixed Try.func54 (by kernel_rfl) (phL := fun _ => []) (phJ := fun _ => none) (args := [a0]) (by kernel_rfl) (cast (by kernel_rfl) h)

-- rutter/bind.entry
abbrev bind_entry.id : Nat := 55
set_option maxRecDepth 100000 in
def bind_entry.sh (a0 a1 a2 a3 : Value) (w : World) (K : Value → World → Prop) : Prop :=
 bx 65 a0 w fun t1 w =>
 al #[(.int .i64 0), (.int .i64 0), (.int .u64 0), (.int .i64 0), (.int .i64 0), (.int .i64 0), (.int .i64 0), (.int .i64 0), (.int .i64 0), (.int .i64 0), (.int .i64 0)] 70 w fun t2 w =>
 fx t1 1 fun t3 =>
 l1 t3 w fun t4 =>
 fx t1 0 fun t5 =>
 l1 t5 w fun t6 =>
 fx t1 5 fun t7 =>
 l1 t7 w fun t8 =>
 fx t1 0 fun t9 =>
 l1 t9 w fun t10 =>
 fx t1 2 fun t11 =>
 l1 t11 w fun t12 =>
 fx t1 5 fun t13 =>
 l1 t13 w fun t14 =>
 pv (bd 68 #[(0, a3), (1, t10), (2, t12), (3, t14)]) fun t15 =>
 pv (bd 70 #[(0, (.int .i64 1)), (1, a1), (2, t4), (3, t6), (5, t8), (6, a2), (7, t15)]) fun t16 =>
 sa 11 t2 t16 w fun _ w =>
 la 11 t2 w fun t17 =>
 K t17 w
set_option maxRecDepth 100000 in
theorem bind_entry.sound {a0 a1 a2 a3 : Value} {w : World} {K : Value → World → Prop} (h : bind_entry.sh a0 a1 a2 a3 w K) : Calls Try.prog 55 #[a0, a1, a2, a3] w (retP K) :=
  calls_of_sem mixed Try.func55 (by kernel_rfl) (phL := fun _ => []) (phJ := fun _ => none) (args := [a0, a1, a2, a3]) (by kernel_rfl) (cast (by kernel_rfl) h)

-- slices.insertionSortCmpFunc[rutter/flow.Entry]
abbrev slices_insertionSortCmpFunc_flow_Entry.id : Nat := 56
set_option maxRecDepth 100000 in
def slices_insertionSortCmpFunc_flow_Entry.sh (a0 a1 a2 a3 : Value) (w : World) (K : Value → World → Prop) : Prop :=
 pv (bn .add 3 a1 (.int .i64 1)) fun t1 =>
 LoopS (fun s2 w k3 => ∀ _ : List Value,
 pv (bn .lss 3 (nth s2 0) a2) fun t4 =>
 cnd t4 (
 LoopS (fun s5 w k6 => ∀ _ : List Value,
 (fun w : World =>
 pv (bn .gtr 3 (nth s5 0) a1) fun t7 =>
 gq t7 true (pv (mv a3)) fun t8 =>
 gq t7 true (pv (mv a0)) fun t9 =>
 gq t7 true (pv (mv (nth s5 0))) fun t10 =>
 gq t7 true (iz 11 t9 t10) fun t11 =>
 gq t7 true (la 11 t11 w) fun t12 =>
 gq t7 true (pv (mv a0)) fun t13 =>
 gq t7 true (pv (mv (nth s5 0))) fun t14 =>
 gq t7 true (pv (bn .sub 3 t14 (.int .i64 1))) fun t15 =>
 gq t7 true (iz 11 t13 t15) fun t16 =>
 gq t7 true (la 11 t16 w) fun t17 =>
 ge t7 true (vc t8 #[t12, t17] w) w fun t18 w =>
 gq t7 true (pv (bn .lss 3 t18 (.int .i64 0))) fun t19 =>
 pv (pk t7 t19 (.bool false)) fun t20 =>
 cnd t20 (
 (fun w : World =>
 pv (bn .sub 3 (nth s5 0) (.int .i64 1)) fun t21 =>
 pv (bn .sub 3 (nth s5 0) (.int .i64 1)) fun t22 =>
 iz 11 a0 t22 fun t23 =>
 la 11 t23 w fun t24 =>
 iz 11 a0 (nth s5 0) fun t25 =>
 la 11 t25 w fun t26 =>
 iz 11 a0 (nth s5 0) fun t27 =>
 sa 11 t27 t24 w fun _ w =>
 iz 11 a0 t21 fun t28 =>
 sa 11 t28 t26 w fun _ w =>
 pv (bn .sub 3 (nth s5 0) (.int .i64 1)) fun t29 =>
 k6 [t29] w) w.drew) (
 pv (bn .add 3 (nth s2 0) (.int .i64 1)) fun t30 =>
 k3 [t30] w)) w.drew)
 [(nth s2 0)] w) (
 K (.tuple #[]) w))
 [t1] w
set_option maxRecDepth 100000 in
theorem slices_insertionSortCmpFunc_flow_Entry.sound {a0 a1 a2 a3 : Value} {w : World} {K : Value → World → Prop} (h : slices_insertionSortCmpFunc_flow_Entry.sh a0 a1 a2 a3 w K) : Calls Try.prog 56 #[a0, a1, a2, a3] w (retP K) :=
  calls_of_sem mixed Try.func56 (by kernel_rfl) (phL := fun n => bif Nat.beq n 4 then [9] else bif Nat.beq n 1 then [8] else []) (phJ := fun _ => none) (args := [a0, a1, a2, a3]) (by kernel_rfl) (cast (by kernel_rfl) h)

-- slices.symMergeCmpFunc[rutter/flow.Entry]
abbrev slices_symMergeCmpFunc_flow_Entry.id : Nat := 57
set_option maxRecDepth 100000 in
def slices_symMergeCmpFunc_flow_Entry.sh (a0 a1 a2 a3 a4 : Value) (w : World) (K : Value → World → Prop) : Prop :=
 pv (bn .sub 3 a2 a1) fun t1 =>
 pv (be .eql 3 true t1 (.int .i64 1)) fun t2 =>
 cnd t2 (
 LoopS (fun s3 w k4 => ∀ _ : List Value,
 pv (bn .lss 3 (nth s3 0) (nth s3 1)) fun t5 =>
 cnd t5 (
 pv (bn .add 3 (nth s3 0) (nth s3 1)) fun t6 =>
 wv (cv 3 112 t6) w fun t7 =>
 pv (bn .shr 112 t7 (.int .u64 1)) fun t8 =>
 wv (cv 112 3 t8) w fun t9 =>
 (fun w : World =>
 iz 11 a0 t9 fun t10 =>
 la 11 t10 w fun t11 =>
 iz 11 a0 a1 fun t12 =>
 la 11 t12 w fun t13 =>
 vc a4 #[t11, t13] w fun t14 w =>
 pv (bn .lss 3 t14 (.int .i64 0)) fun t15 =>
 cnd t15 (
 pv (bn .add 3 t9 (.int .i64 1)) fun t16 =>
 k4 [t16, (nth s3 1)] w) (
 k4 [(nth s3 0), t9] w)) w.drew) (
 LoopS (fun s17 w k18 => ∀ _ : List Value,
 pv (bn .sub 3 (nth s3 0) (.int .i64 1)) fun t19 =>
 pv (bn .lss 3 (nth s17 0) t19) fun t20 =>
 cnd t20 (
 (fun w : World =>
 pv (bn .add 3 (nth s17 0) (.int .i64 1)) fun t21 =>
 pv (bn .add 3 (nth s17 0) (.int .i64 1)) fun t22 =>
 iz 11 a0 t22 fun t23 =>
 la 11 t23 w fun t24 =>
 iz 11 a0 (nth s17 0) fun t25 =>
 la 11 t25 w fun t26 =>
 iz 11 a0 (nth s17 0) fun t27 =>
 sa 11 t27 t24 w fun _ w =>
 iz 11 a0 t21 fun t28 =>
 sa 11 t28 t26 w fun _ w =>
 pv (bn .add 3 (nth s17 0) (.int .i64 1)) fun t29 =>
 k18 [t29] w) w.drew) (
 K (.tuple #[]) w))
 [a1] w))
 [a2, a3] w) (
 pv (bn .sub 3 a3 a2) fun t30 =>
 pv (be .eql 3 true t30 (.int .i64 1)) fun t31 =>
 cnd t31 (
 LoopS (fun s32 w k33 => ∀ _ : List Value,
 pv (bn .lss 3 (nth s32 0) (nth s32 1)) fun t34 =>
 cnd t34 (
 pv (bn .add 3 (nth s32 0) (nth s32 1)) fun t35 =>
 wv (cv 3 112 t35) w fun t36 =>
 pv (bn .shr 112 t36 (.int .u64 1)) fun t37 =>
 wv (cv 112 3 t37) w fun t38 =>
 (fun w : World =>
 iz 11 a0 a2 fun t39 =>
 la 11 t39 w fun t40 =>
 iz 11 a0 t38 fun t41 =>
 la 11 t41 w fun t42 =>
 vc a4 #[t40, t42] w fun t43 w =>
 pv (bn .lss 3 t43 (.int .i64 0)) fun t44 =>
 pv (un .not t44) fun t45 =>
 cnd t45 (
 pv (bn .add 3 t38 (.int .i64 1)) fun t46 =>
 k33 [t46, (nth s32 1)] w) (
 k33 [(nth s32 0), t38] w)) w.drew) (
 LoopS (fun s47 w k48 => ∀ _ : List Value,
 pv (bn .gtr 3 (nth s47 0) (nth s32 0)) fun t49 =>
 cnd t49 (
 (fun w : World =>
 pv (bn .sub 3 (nth s47 0) (.int .i64 1)) fun t50 =>
 pv (bn .sub 3 (nth s47 0) (.int .i64 1)) fun t51 =>
 iz 11 a0 t51 fun t52 =>
 la 11 t52 w fun t53 =>
 iz 11 a0 (nth s47 0) fun t54 =>
 la 11 t54 w fun t55 =>
 iz 11 a0 (nth s47 0) fun t56 =>
 sa 11 t56 t53 w fun _ w =>
 iz 11 a0 t50 fun t57 =>
 sa 11 t57 t55 w fun _ w =>
 pv (bn .sub 3 (nth s47 0) (.int .i64 1)) fun t58 =>
 k48 [t58] w) w.drew) (
 K (.tuple #[]) w))
 [a2] w))
 [a1, a2] w) (
 pv (bn .add 3 a1 a3) fun t59 =>
 wv (cv 3 112 t59) w fun t60 =>
 pv (bn .shr 112 t60 (.int .u64 1)) fun t61 =>
 wv (cv 112 3 t61) w fun t62 =>
 pv (bn .add 3 t62 a2) fun t63 =>
 JoinS (fun k64 =>
 pv (bn .gtr 3 a2 t62) fun t66 =>
 cnd t66 (
 pv (bn .sub 3 t63 a3) fun t67 =>
 k64 [t67, t62] w) (
 k64 [a1, a2] w))
 (fun s65 w => ∀ _ : List Value,
 pv (bn .sub 3 t63 (.int .i64 1)) fun t68 =>
 LoopS (fun s69 w k70 => ∀ _ : List Value,
 pv (bn .lss 3 (nth s69 0) (nth s69 1)) fun t71 =>
 cnd t71 (
 pv (bn .add 3 (nth s69 0) (nth s69 1)) fun t72 =>
 wv (cv 3 112 t72) w fun t73 =>
 pv (bn .shr 112 t73 (.int .u64 1)) fun t74 =>
 wv (cv 112 3 t74) w fun t75 =>
 (fun w : World =>
 pv (bn .sub 3 t68 t75) fun t76 =>
 iz 11 a0 t76 fun t77 =>
 la 11 t77 w fun t78 =>
 iz 11 a0 t75 fun t79 =>
 la 11 t79 w fun t80 =>
 vc a4 #[t78, t80] w fun t81 w =>
 pv (bn .lss 3 t81 (.int .i64 0)) fun t82 =>
 pv (un .not t82) fun t83 =>
 cnd t83 (
 pv (bn .add 3 t75 (.int .i64 1)) fun t84 =>
 k70 [t84, (nth s69 1)] w) (
 k70 [(nth s69 0), t75] w)) w.drew) (
 pv (bn .sub 3 t63 (nth s69 0)) fun t85 =>
 JoinS (fun k86 =>
 pv (bn .lss 3 (nth s69 0) a2) fun t88 =>
 gq t88 true (pv (mv a2)) fun t89 =>
 gq t88 true (pv (mv t85)) fun t90 =>
 gq t88 true (pv (bn .lss 3 t89 t90)) fun t91 =>
 pv (pk t88 t91 (.bool false)) fun t92 =>
 cnd t92 (
 fc 64 #[a0, (nth s69 0), a2, t85, a4] w fun _ w =>
 k86 [] w) (
 k86 [] w))
 (fun _ w => ∀ _ : List Value,
 JoinS (fun k94 =>
 pv (bn .lss 3 a1 (nth s69 0)) fun t96 =>
 gq t96 true (pv (mv (nth s69 0))) fun t97 =>
 gq t96 true (pv (mv t62)) fun t98 =>
 gq t96 true (pv (bn .lss 3 t97 t98)) fun t99 =>
 pv (pk t96 t99 (.bool false)) fun t100 =>
 cnd t100 (
 fc 57 #[a0, a1, (nth s69 0), t62, a4] w fun _ w =>
 k94 [] w) (
 k94 [] w))
 (fun _ w => ∀ _ : List Value,
 pv (bn .lss 3 t62 t85) fun t102 =>
 gq t102 true (pv (mv t85)) fun t103 =>
 gq t102 true (pv (mv a3)) fun t104 =>
 gq t102 true (pv (bn .lss 3 t103 t104)) fun t105 =>
 pv (pk t102 t105 (.bool false)) fun t106 =>
 cnd t106 (
 fc 57 #[a0, t62, t85, a3, a4] w fun _ w =>
 K (.tuple #[]) w) (
 K (.tuple #[]) w)))))
 [(nth s65 0), (nth s65 1)] w)))
set_option maxRecDepth 100000 in
theorem slices_symMergeCmpFunc_flow_Entry.sound {a0 a1 a2 a3 a4 : Value} {w : World} {K : Value → World → Prop} (h : slices_symMergeCmpFunc_flow_Entry.sh a0 a1 a2 a3 a4 w K) : Calls Try.prog 57 #[a0, a1, a2, a3, a4] w (retP K) :=
  calls_of_sem mixed Try.func57 (by kernel_rfl) (phL := fun n => bif Nat.beq n 33 then [20, 21] else bif Nat.beq n 21 then [17] else bif Nat.beq n 15 then [14, 15] else bif Nat.beq n 9 then [13] else bif Nat.beq n 3 then [10, 11] else []) (phJ := fun n => bif Nat.beq n 43 then some [] else bif Nat.beq n 41 then some [] else bif Nat.beq n 32 then some [20, 21] else none) (args := [a0, a1, a2, a3, a4]) (by kernel_rfl) (cast (by kernel_rfl) h)

-- rutter/ether.upto
abbrev ether_upto.id : Nat := 58
set_option maxRecDepth 100000 in
def ether_upto.sh (a0 a1 : Value) (w : World) (K : Value → World → Prop) : Prop :=
 ln 1 a1 w fun t1 =>
 LoopS (fun s2 w k3 => ∀ _ : List Value,
 pv (bn .lss 3 (nth s2 0) t1) fun t4 =>
 cnd t4 (
 iz 1 a1 (nth s2 0) fun t5 =>
 l1 t5 w fun t6 =>
 pv (bn .gtr 23 t6 a0) fun t7 =>
 cnd t7 (
 K (.bool false) w) (
 pv (bn .add 3 (nth s2 0) (.int .i64 1)) fun t8 =>
 k3 [t8] w)) (
 K (.bool true) w))
 [(.int .i64 0)] w
set_option maxRecDepth 100000 in
theorem ether_upto.sound {a0 a1 : Value} {w : World} {K : Value → World → Prop} (h : ether_upto.sh a0 a1 w K) : Calls Try.prog 58 #[a0, a1] w (retP K) :=
  calls_of_sem mixed Try.func58 (by kernel_rfl) (phL := fun n => bif Nat.beq n 2 then [9] else []) (phJ := fun _ => none) (args := [a0, a1]) (by kernel_rfl) (cast (by kernel_rfl) h)

-- slices.Clone[[]byte,byte]
abbrev slices_Clone_byte.id : Nat := 59
set_option maxRecDepth 100000 in
def slices_Clone_byte.sh (a0 : Value) (w : World) (K : Value → World → Prop) : Prop :=
 pv (be .eql 24 true a0 (.slice none 0 0)) fun t1 =>
 cnd t1 (
 K (.slice none 0 0) w) (
 o (bs 24 0 #[]) w fun t2 w =>
 o (ap #[24, 24] 24 #[false, false] t2 a0) w fun t3 w =>
 K t3 w)
set_option maxRecDepth 100000 in
theorem slices_Clone_byte.sound {a0 : Value} {w : World} {K : Value → World → Prop} (h : slices_Clone_byte.sh a0 w K) : Calls Try.prog 59 #[a0] w (retP K) :=
  calls_of_sem mixed Try.func59 (by kernel_rfl) (phL := fun _ => []) (phJ := fun _ => none) (args := [a0]) (by kernel_rfl) (cast (by kernel_rfl) h)

-- slices.IndexFunc[[]rutter/flow.Entry,rutter/flow.Entry]
abbrev slices_IndexFunc_flow_Entry.id : Nat := 60
set_option maxRecDepth 100000 in
def slices_IndexFunc_flow_Entry.sh (a0 a1 : Value) (w : World) (K : Value → World → Prop) : Prop :=
 ln 1 a0 w fun t1 =>
 LoopS (fun s2 w k3 => ∀ _ : List Value,
 pv (bn .lss 3 (nth s2 0) t1) fun t4 =>
 cnd t4 (
 iz 11 a0 (nth s2 0) fun t5 =>
 la 11 t5 w fun t6 =>
 vc a1 #[t6] w fun t7 w =>
 cnd t7 (
 K (nth s2 0) w) (
 pv (bn .add 3 (nth s2 0) (.int .i64 1)) fun t8 =>
 k3 [t8] w)) (
 K (.int .i64 (-1)) w))
 [(.int .i64 0)] w
set_option maxRecDepth 100000 in
theorem slices_IndexFunc_flow_Entry.sound {a0 a1 : Value} {w : World} {K : Value → World → Prop} (h : slices_IndexFunc_flow_Entry.sh a0 a1 w K) : Calls Try.prog 60 #[a0, a1] w (retP K) :=
  calls_of_sem mixed Try.func60 (by kernel_rfl) (phL := fun n => bif Nat.beq n 2 then [8] else []) (phJ := fun _ => none) (args := [a0, a1]) (by kernel_rfl) (cast (by kernel_rfl) h)

-- (*rutter/flow.Table).Look$1
abbrev flow_Table_Look_1.id : Nat := 61
set_option maxRecDepth 100000 in
def flow_Table_Look_1.sh (a0 a1 : Value) (w : World) (K : Value → World → Prop) : Prop :=
 bx 70 a0 w fun t1 w =>
 la 11 t1 w fun t2 =>
 la 5 a1 w fun t3 =>
 fc 62 #[t2, t3] w fun t4 w =>
 K t4 w
set_option maxRecDepth 100000 in
theorem flow_Table_Look_1.sound {a0 a1 : Value} {w : World} {K : Value → World → Prop} (h : flow_Table_Look_1.sh a0 a1 w K) : Calls Try.prog 61 #[a0, a1] w (retP K) :=
  calls_of_sem mixed Try.func61 (by kernel_rfl) (phL := fun _ => []) (phJ := fun _ => none) (args := [a0, a1]) (by kernel_rfl) (cast (by kernel_rfl) h)

-- rutter/flow.Fits
abbrev flow_Fits.id : Nat := 62
set_option maxRecDepth 100000 in
def flow_Fits.sh (a0 a1 : Value) (w : World) (K : Value → World → Prop) : Prop :=
 bx 70 a0 w fun t1 w =>
 bx 84 a1 w fun t2 w =>
 fx t2 0 fun t3 =>
 l1 t3 w fun t4 =>
 pv (bn .lss 3 t4 (.int .i64 0)) fun t5 =>
 gq t5 false (fx t2 0) fun t6 =>
 gq t5 false (l1 t6 w) fun t7 =>
 gq t5 false (pv (bn .geq 3 t7 (.int .i64 3))) fun t8 =>
 pv (pk t5 (.bool true) t8) fun t9 =>
 gq t9 false (fx t1 1) fun t10 =>
 gq t9 false (l1 t10 w) fun t11 =>
 gq t9 false (fx t2 0) fun t12 =>
 gq t9 false (l1 t12 w) fun t13 =>
 gq t9 false (pv (bn .shr 3 t11 t13)) fun t14 =>
 gq t9 false (pv (bn .and 3 t14 (.int .i64 1))) fun t15 =>
 gq t9 false (pv (be .eql 3 true t15 (.int .i64 0))) fun t16 =>
 pv (pk t9 (.bool true) t16) fun t17 =>
 cnd t17 (
 K (.bool false) w) (
 fx t1 3 fun t18 =>
 l1 t18 w fun t19 =>
 fx t2 2 fun t20 =>
 l1 t20 w fun t21 =>
 pv (be .eql 3 false t19 t21) fun t22 =>
 JoinS (fun k23 =>
 fx t2 0 fun t25 =>
 l1 t25 w fun t26 =>
 pv (be .eql 3 true t26 (.int .i64 0)) fun t27 =>
 cnd t27 (
 fx t1 2 fun t28 =>
 l1 t28 w fun t29 =>
 fx t2 1 fun t30 =>
 l1 t30 w fun t31 =>
 pv (be .eql 23 false t29 t31) fun t32 =>
 k23 [t32] w) (
 k23 [t22] w))
 (fun s24 w => ∀ _ : List Value,
 gq (nth s24 0) true (fx t2 3) fun t33 =>
 gq (nth s24 0) true (l1 t33 w) fun t34 =>
 gq (nth s24 0) true (fx t1 4) fun t35 =>
 gq (nth s24 0) true (l1 t35 w) fun t36 =>
 gq (nth s24 0) true (pv (bn .geq 3 t34 t36)) fun t37 =>
 pv (pk (nth s24 0) t37 (.bool false)) fun t38 =>
 gq t38 true (fx t2 3) fun t39 =>
 gq t38 true (l1 t39 w) fun t40 =>
 gq t38 true (fx t1 5) fun t41 =>
 gq t38 true (l1 t41 w) fun t42 =>
 gq t38 true (pv (bn .leq 3 t40 t42)) fun t43 =>
 pv (pk t38 t43 (.bool false)) fun t44 =>
 gq t44 true (fx t2 4) fun t45 =>
 gq t44 true (l1 t45 w) fun t46 =>
 gq t44 true (fx t1 6) fun t47 =>
 gq t44 true (l1 t47 w) fun t48 =>
 gq t44 true (pv (be .neq 3 false t46 t48)) fun t49 =>
 pv (pk t44 t49 (.bool false)) fun t50 =>
 K t50 w))
set_option maxRecDepth 100000 in
theorem flow_Fits.sound {a0 a1 : Value} {w : World} {K : Value → World → Prop} (h : flow_Fits.sh a0 a1 w K) : Calls Try.prog 62 #[a0, a1] w (retP K) :=
  calls_of_sem mixed Try.func62 (by kernel_rfl) (phL := fun _ => []) (phJ := fun n => bif Nat.beq n 6 then some [5] else none) (args := [a0, a1]) (by kernel_rfl) (cast (by kernel_rfl) h)

-- rutter/rutterref06.chassis
abbrev rutterref06_chassis.id : Nat := 63
set_option maxRecDepth 100000 in
def rutterref06_chassis.sh (a0 : Value) (w : World) (K : Value → World → Prop) : Prop :=
 fc 53 #[a0, (.int .i64 0), (.int .i64 15)] w fun t1 w =>
 K t1 w
set_option maxRecDepth 100000 in
theorem rutterref06_chassis.sound {a0 : Value} {w : World} {K : Value → World → Prop} (h : rutterref06_chassis.sh a0 w K) : Calls Try.prog 63 #[a0] w (retP K) :=
  calls_of_sem mixed Try.func63 (by kernel_rfl) (phL := fun _ => []) (phJ := fun _ => none) (args := [a0]) (by kernel_rfl) (cast (by kernel_rfl) h)

-- slices.rotateCmpFunc[rutter/flow.Entry]
abbrev slices_rotateCmpFunc_flow_Entry.id : Nat := 64
set_option maxRecDepth 100000 in
def slices_rotateCmpFunc_flow_Entry.sh (a0 a1 a2 a3 a4 : Value) (w : World) (K : Value → World → Prop) : Prop :=
 pv (bn .sub 3 a2 a1) fun t1 =>
 pv (bn .sub 3 a3 a2) fun t2 =>
 LoopS (fun s3 w k4 => ∀ _ : List Value,
 pv (be .neq 3 false (nth s3 0) (nth s3 1)) fun t5 =>
 cnd t5 (
 pv (bn .gtr 3 (nth s3 0) (nth s3 1)) fun t6 =>
 cnd t6 (
 pv (bn .sub 3 a2 (nth s3 0)) fun t7 =>
 fc 65 #[a0, t7, a2, (nth s3 1), a4] w fun _ w =>
 pv (bn .sub 3 (nth s3 0) (nth s3 1)) fun t9 =>
 k4 [t9, (nth s3 1)] w) (
 pv (bn .sub 3 a2 (nth s3 0)) fun t10 =>
 pv (bn .add 3 a2 (nth s3 1)) fun t11 =>
 pv (bn .sub 3 t11 (nth s3 0)) fun t12 =>
 fc 65 #[a0, t10, t12, (nth s3 0), a4] w fun _ w =>
 pv (bn .sub 3 (nth s3 1) (nth s3 0)) fun t14 =>
 k4 [(nth s3 0), t14] w)) (
 pv (bn .sub 3 a2 (nth s3 0)) fun t15 =>
 fc 65 #[a0, t15, a2, (nth s3 0), a4] w fun _ w =>
 K (.tuple #[]) w))
 [t1, t2] w
set_option maxRecDepth 100000 in
theorem slices_rotateCmpFunc_flow_Entry.sound {a0 a1 a2 a3 a4 : Value} {w : World} {K : Value → World → Prop} (h : slices_rotateCmpFunc_flow_Entry.sh a0 a1 a2 a3 a4 w K) : Calls Try.prog 64 #[a0, a1, a2, a3, a4] w (retP K) :=
  calls_of_sem mixed Try.func64 (by kernel_rfl) (phL := fun n => bif Nat.beq n 2 then [10, 11] else []) (phJ := fun _ => none) (args := [a0, a1, a2, a3, a4]) (by kernel_rfl) (cast (by kernel_rfl) h)

-- slices.swapRangeCmpFunc[rutter/flow.Entry]
abbrev slices_swapRangeCmpFunc_flow_Entry.id : Nat := 65
set_option maxRecDepth 100000 in
def slices_swapRangeCmpFunc_flow_Entry.sh (a0 a1 a2 a3 a4 : Value) (w : World) (K : Value → World → Prop) : Prop :=
 LoopS (fun s1 w k2 => ∀ _ : List Value,
 pv (bn .lss 3 (nth s1 0) a3) fun t3 =>
 cnd t3 (
 (fun w : World =>
 pv (bn .add 3 a1 (nth s1 0)) fun t4 =>
 pv (bn .add 3 a2 (nth s1 0)) fun t5 =>
 pv (bn .add 3 a2 (nth s1 0)) fun t6 =>
 iz 11 a0 t6 fun t7 =>
 la 11 t7 w fun t8 =>
 pv (bn .add 3 a1 (nth s1 0)) fun t9 =>
 iz 11 a0 t9 fun t10 =>
 la 11 t10 w fun t11 =>
 iz 11 a0 t4 fun t12 =>
 sa 11 t12 t8 w fun _ w =>
 iz 11 a0 t5 fun t13 =>
 sa 11 t13 t11 w fun _ w =>
 pv (bn .add 3 (nth s1 0) (.int .i64 1)) fun t14 =>
 k2 [t14] w) w.drew) (
 K (.tuple #[]) w))
 [(.int .i64 0)] w
set_option maxRecDepth 100000 in
theorem slices_swapRangeCmpFunc_flow_Entry.sound {a0 a1 a2 a3 a4 : Value} {w : World} {K : Value → World → Prop} (h : slices_swapRangeCmpFunc_flow_Entry.sh a0 a1 a2 a3 a4 w K) : Calls Try.prog 65 #[a0, a1, a2, a3, a4] w (retP K) :=
  calls_of_sem mixed Try.func65 (by kernel_rfl) (phL := fun n => bif Nat.beq n 1 then [10] else []) (phJ := fun _ => none) (args := [a0, a1, a2, a3, a4]) (by kernel_rfl) (cast (by kernel_rfl) h)

@[go_sem] theorem bd_26_0 (x0 : Int) {K : Value → Prop} : pv (bd 26 #[(0, (.int .u64 x0))]) K = K (.agg #[(.int .u64 x0), (.int .u64 0), (.int .i64 0), (.slice none 0 0)]) := pv_of fun _ => by kernel_rfl
@[go_sem] theorem bd_37_  {K : Value → Prop} : pv (bd 37 #[]) K = K (.agg #[(.int .i64 0), (.int .i64 0), (.int .i64 0), (.int .i64 0), (.int .i64 0), (.int .i64 0), (.int .i64 0), (.slice none 0 0)]) := pv_of fun _ => by kernel_rfl
@[go_sem] theorem bd_37_0_1_2_3_4_5_6_7 (x0 : Int) (x1 : Int) (x2 : Int) (x3 : Int) (x4 : Int) (x5 : Int) (x6 : Int) (x7a : Option Addr) (x7n x7c : Nat) {K : Value → Prop} : pv (bd 37 #[(0, (.int .i64 x0)), (1, (.int .i64 x1)), (2, (.int .i64 x2)), (3, (.int .i64 x3)), (4, (.int .i64 x4)), (5, (.int .i64 x5)), (6, (.int .i64 x6)), (7, (.slice x7a x7n x7c))]) K = K (.agg #[(.int .i64 x0), (.int .i64 x1), (.int .i64 x2), (.int .i64 x3), (.int .i64 x4), (.int .i64 x5), (.int .i64 x6), (.slice x7a x7n x7c)]) := pv_of fun _ => by kernel_rfl
@[go_sem] theorem bd_39_  {K : Value → Prop} : pv (bd 39 #[]) K = K (.agg #[(.int .i64 0), (.int .i64 0), (.int .i64 0), (.int .i64 0), (.slice none 0 0), (.int .i64 0), (.int .i64 0), (.int .i64 0), (.int .i64 0), (.int .i64 0), (.int .i64 0), (.int .i64 0), (.slice none 0 0)]) := pv_of fun _ => by kernel_rfl
@[go_sem] theorem bd_39_0_1_2_3_4 (x0 : Int) (x1 : Int) (x2 : Int) (x3 : Int) (x4a : Option Addr) (x4n x4c : Nat) {K : Value → Prop} : pv (bd 39 #[(0, (.int .i64 x0)), (1, (.int .i64 x1)), (2, (.int .i64 x2)), (3, (.int .i64 x3)), (4, (.slice x4a x4n x4c))]) K = K (.agg #[(.int .i64 x0), (.int .i64 x1), (.int .i64 x2), (.int .i64 x3), (.slice x4a x4n x4c), (.int .i64 0), (.int .i64 0), (.int .i64 0), (.int .i64 0), (.int .i64 0), (.int .i64 0), (.int .i64 0), (.slice none 0 0)]) := pv_of fun _ => by kernel_rfl
@[go_sem] theorem bd_39_0_5 (x0 : Int) (x5_0 x5_1 x5_2 x5_3 x5_4 x5_5 x5_6 x5_7 : Value) {K : Value → Prop} : pv (bd 39 #[(0, (.int .i64 x0)), (5, (.agg #[x5_0, x5_1, x5_2, x5_3, x5_4, x5_5, x5_6, x5_7]))]) K = K (.agg #[(.int .i64 x0), (.int .i64 0), (.int .i64 0), (.int .i64 0), (.slice none 0 0), x5_0, x5_1, x5_2, x5_3, x5_4, x5_5, x5_6, x5_7]) := pv_of fun _ => by kernel_rfl
@[go_sem] theorem bd_43_  {K : Value → Prop} : pv (bd 43 #[]) K = K (.agg #[(.int .i64 0), (.int .i64 0), (.int .i64 0), (.int .i64 0), (Go.Value.string { data := #[] }), (.int .i64 0), (.int .i64 0), (.int .i64 0), (.int .i64 0), (.int .i64 0), (.int .i64 0), (.int .i64 0), (.slice none 0 0)]) := pv_of fun _ => by kernel_rfl
@[go_sem] theorem bd_43_0_1_2_3_4 (x0 : Int) (x1 : Int) (x2 : Int) (x3 : Int) (x4 : ByteArray) {K : Value → Prop} : pv (bd 43 #[(0, (.int .i64 x0)), (1, (.int .i64 x1)), (2, (.int .i64 x2)), (3, (.int .i64 x3)), (4, (.string x4))]) K = K (.agg #[(.int .i64 x0), (.int .i64 x1), (.int .i64 x2), (.int .i64 x3), (.string x4), (.int .i64 0), (.int .i64 0), (.int .i64 0), (.int .i64 0), (.int .i64 0), (.int .i64 0), (.int .i64 0), (.slice none 0 0)]) := pv_of fun _ => by kernel_rfl
@[go_sem] theorem bd_43_0_1_2_3_4_5 (x0 : Int) (x1 : Int) (x2 : Int) (x3 : Int) (x4 : ByteArray) (x5_0 x5_1 x5_2 x5_3 x5_4 x5_5 x5_6 x5_7 : Value) {K : Value → Prop} : pv (bd 43 #[(0, (.int .i64 x0)), (1, (.int .i64 x1)), (2, (.int .i64 x2)), (3, (.int .i64 x3)), (4, (.string x4)), (5, (.agg #[x5_0, x5_1, x5_2, x5_3, x5_4, x5_5, x5_6, x5_7]))]) K = K (.agg #[(.int .i64 x0), (.int .i64 x1), (.int .i64 x2), (.int .i64 x3), (.string x4), x5_0, x5_1, x5_2, x5_3, x5_4, x5_5, x5_6, x5_7]) := pv_of fun _ => by kernel_rfl
@[go_sem] theorem bd_43_0_5 (x0 : Int) (x5_0 x5_1 x5_2 x5_3 x5_4 x5_5 x5_6 x5_7 : Value) {K : Value → Prop} : pv (bd 43 #[(0, (.int .i64 x0)), (5, (.agg #[x5_0, x5_1, x5_2, x5_3, x5_4, x5_5, x5_6, x5_7]))]) K = K (.agg #[(.int .i64 x0), (.int .i64 0), (.int .i64 0), (.int .i64 0), (Go.Value.string { data := #[] }), x5_0, x5_1, x5_2, x5_3, x5_4, x5_5, x5_6, x5_7]) := pv_of fun _ => by kernel_rfl
@[go_sem] theorem bd_65_0_1_2_3_4_5_6_7 (x0 : Int) (x1 : Int) (x2 : Int) (x3 : Int) (x4 : Int) (x5 : Int) (x6 : Int) (x7 : Int) {K : Value → Prop} : pv (bd 65 #[(0, (.int .i64 x0)), (1, (.int .u64 x1)), (2, (.int .i64 x2)), (3, (.int .i64 x3)), (4, (.int .i64 x4)), (5, (.int .i64 x5)), (6, (.int .i64 x6)), (7, (.int .i64 x7))]) K = K (.agg #[(.int .i64 x0), (.int .u64 x1), (.int .i64 x2), (.int .i64 x3), (.int .i64 x4), (.int .i64 x5), (.int .i64 x6), (.int .i64 x7), (.int .i64 0)]) := pv_of fun _ => by kernel_rfl
@[go_sem] theorem bd_68_  {K : Value → Prop} : pv (bd 68 #[]) K = K (.agg #[(.int .i64 0), (.int .i64 0), (.int .i64 0), (.int .i64 0)]) := pv_of fun _ => by kernel_rfl
@[go_sem] theorem bd_68_0_1_2_3 (x0 : Int) (x1 : Int) (x2 : Int) (x3 : Int) {K : Value → Prop} : pv (bd 68 #[(0, (.int .i64 x0)), (1, (.int .i64 x1)), (2, (.int .i64 x2)), (3, (.int .i64 x3))]) K = K (.agg #[(.int .i64 x0), (.int .i64 x1), (.int .i64 x2), (.int .i64 x3)]) := pv_of fun _ => by kernel_rfl
@[go_sem] theorem bd_70_0_1_2_3_5_6_7 (x0 : Int) (x1 : Int) (x2 : Int) (x3 : Int) (x5 : Int) (x6 : Int) (x7_0 x7_1 x7_2 x7_3 : Value) {K : Value → Prop} : pv (bd 70 #[(0, (.int .i64 x0)), (1, (.int .i64 x1)), (2, (.int .u64 x2)), (3, (.int .i64 x3)), (5, (.int .i64 x5)), (6, (.int .i64 x6)), (7, (.agg #[x7_0, x7_1, x7_2, x7_3]))]) K = K (.agg #[(.int .i64 x0), (.int .i64 x1), (.int .u64 x2), (.int .i64 x3), (.int .i64 0), (.int .i64 x5), (.int .i64 x6), x7_0, x7_1, x7_2, x7_3]) := pv_of fun _ => by kernel_rfl
@[go_sem] theorem bd_72_0_1 (x0a : Option Addr) (x0n x0c : Nat) (x1a : Option Addr) (x1n x1c : Nat) {K : Value → Prop} : pv (bd 72 #[(0, (.slice x0a x0n x0c)), (1, (.slice x1a x1n x1c))]) K = K (.agg #[(.slice x0a x0n x0c), (.slice x1a x1n x1c)]) := pv_of fun _ => by kernel_rfl
@[go_sem] theorem bd_81_1_2 (x1f : Fn) (x1a x1b : Array Value) (x2f : Fn) (x2a x2b : Array Value) {K : Value → Prop} : pv (bd 81 #[(1, (.func x1f x1a x1b)), (2, (.func x2f x2a x2b))]) K = K (.agg #[.nilFunc, (.func x1f x1a x1b), (.func x2f x2a x2b)]) := pv_of fun _ => by kernel_rfl
@[go_sem] theorem bd_84_0_2_3_4 (x0 : Int) (x2 : Int) (x3 : Int) (x4 : Int) {K : Value → Prop} : pv (bd 84 #[(0, (.int .i64 x0)), (2, (.int .i64 x2)), (3, (.int .i64 x3)), (4, (.int .i64 x4))]) K = K (.agg #[(.int .i64 x0), (.int .u64 0), (.int .i64 x2), (.int .i64 x3), (.int .i64 x4)]) := pv_of fun _ => by kernel_rfl
@[go_sem] theorem bd_84_1_4 (x1 : Int) (x4 : Int) {K : Value → Prop} : pv (bd 84 #[(1, (.int .u64 x1)), (4, (.int .i64 x4))]) K = K (.agg #[(.int .i64 0), (.int .u64 x1), (.int .i64 0), (.int .i64 0), (.int .i64 x4)]) := pv_of fun _ => by kernel_rfl
@[go_sem] theorem bd_85_  {K : Value → Prop} : pv (bd 85 #[]) K = K (.agg #[(.int .i64 0), (.int .i64 0), (.int .i64 0), (.int .i64 0)]) := pv_of fun _ => by kernel_rfl
@[go_sem] theorem bd_85_0_1_2_3 (x0 : Int) (x1 : Int) (x2 : Int) (x3 : Int) {K : Value → Prop} : pv (bd 85 #[(0, (.int .i64 x0)), (1, (.int .i64 x1)), (2, (.int .i64 x2)), (3, (.int .i64 x3))]) K = K (.agg #[(.int .i64 x0), (.int .i64 x1), (.int .i64 x2), (.int .i64 x3)]) := pv_of fun _ => by kernel_rfl
@[go_sem] theorem bd_88_0_2_3_4 (x0 : Int) (x2 : Int) (x3 : Int) (x4 : Int) {K : Value → Prop} : pv (bd 88 #[(0, (.int .i64 x0)), (2, (.int .i64 x2)), (3, (.int .i64 x3)), (4, (.int .i64 x4))]) K = K (.agg #[(.int .i64 x0), (.int .u64 0), (.int .i64 x2), (.int .i64 x3), (.int .i64 x4)]) := pv_of fun _ => by kernel_rfl
@[go_sem] theorem bd_88_1_4 (x1 : Int) (x4 : Int) {K : Value → Prop} : pv (bd 88 #[(1, (.int .u64 x1)), (4, (.int .i64 x4))]) K = K (.agg #[(.int .i64 0), (.int .u64 x1), (.int .i64 0), (.int .i64 0), (.int .i64 x4)]) := pv_of fun _ => by kernel_rfl
@[go_sem] theorem bd_92_0_1_2_3_4_5_6_7 (x0 : Int) (x1 : Int) (x2 : Int) (x3 : Int) (x4 : Int) (x5 : Int) (x6 : Int) (x7_0 x7_1 x7_2 x7_3 : Value) {K : Value → Prop} : pv (bd 92 #[(0, (.int .i64 x0)), (1, (.int .i64 x1)), (2, (.int .u64 x2)), (3, (.int .i64 x3)), (4, (.int .i64 x4)), (5, (.int .i64 x5)), (6, (.int .i64 x6)), (7, (.agg #[x7_0, x7_1, x7_2, x7_3]))]) K = K (.agg #[(.int .i64 x0), (.int .i64 x1), (.int .u64 x2), (.int .i64 x3), (.int .i64 x4), (.int .i64 x5), (.int .i64 x6), x7_0, x7_1, x7_2, x7_3]) := pv_of fun _ => by kernel_rfl
@[go_sem] theorem bd_104_  {K : Value → Prop} : pv (bd 104 #[]) K = K (.agg #[(.slice none 0 0), (.bool false)]) := pv_of fun _ => by kernel_rfl
end Go.Proofs.Ytldjhbmccnbciaa
