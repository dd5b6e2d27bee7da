/- The engine: a Go function's code, read as a plain Lean proposition with named values (no frames); sound over the kit's 'Code.wp'. -/
import Derived.Test.YtbkgijnmckchbaaProg
import Derived.WalkKit
import Derived.Orders
import Derived.KernelRfl
namespace Go.Proofs.Ytbkgijnmckchbaa
open Go
set_option linter.unusedSimpArgs false
set_option linter.unusedVariables false
abbrev Env := Nat → Value
def upd (e : Env) (d : Nat) (v : Value) : Env := fun t => bif Nat.beq t d then v else e t
def updO (e : Env) (d : Option Nat) (v : Value) : Env := match d with | some d => upd e d v | none => e
def ev (e : Env) : Operand → Value
  | .tmp t => e t
  | .const v => v
  | .global g => .pointer (some ⟨g, 0, none⟩)
  | .func f => .func (.func f) #[] #[]
def retP (K : Value → World → Prop) : Ending → World → Prop
  | .returned v, w => K v w
  | _, _ => False
def resS (P : Program) (r : Result Next) (K : Value → World → Prop) : Prop :=
  match r with
  | .ok (.value v) w => K v w
  | .ok .skip w => K undef w
  | .ok (.enter f args) w => Calls P f args w (retP K)
  | .ok (.row row args) w => Rows P row args w K
  | _ => False
/- ### what is asked of the program's tables, worked out where the text is made -/
/-- the type's variables: one cell, or an aggregate of so many -/
def aggN (P : Program) (t : TypeId) : Option (Option Nat) :=
  match P.underlying t, P.info? t with
  | some (.struct _), some i => some (some i.size)
  | some (.array _ _), some i => some (some i.size)
  | some _, some i => bif Nat.beq i.size 1 then some none else none
  | _, _ => none
/-- a field's place -/
def fOff (P : Program) (t : TypeId) (i : Nat) : Option Nat :=
  match P.underlying t with
  | some (.struct fs) => match fs[i]? with
    | some f => match P.info? f.type with
      | some x => bif Nat.beq x.size 0 then none else some f.offset
      | none => none
    | none => none
  | _ => none
/-- what is indexed: a slice (none) or an array of so many; an element's cells -/
def ixOf (P : Program) (t : TypeId) : Option (Option Nat × Nat) :=
  match P.underlying t with
  | some (.slice e) => (P.info? e).map fun i => (none, i.size)
  | some (.array n e) => (P.info? e).map fun i => (some n, i.size)
  | _ => none
def lnOf (P : Program) (t : TypeId) : Nat := match P.underlying t with | some (.slice _) => 1 | some .string => 2 | some (.map _ _) => 3 | _ => 0
def zc (P : Program) (t : TypeId) : Option (Array Value) := match P.info? t with | some i => i.zero.map (·.cells) | none => none
def bodyOk (P : Program) (f : FuncId) : Bool := match P.funcs[f]? with | some fn => !(fn.name == "runtime.NumGoroutine") && fn.body.isSome | none => false
/- ### the operations, each said of blocks -/
/-- what makes simp leave K as it stands (-dsimp) -/
def Tok {α : Type} (_K : α) : Type := Unit
def atS (c : Option Value) (K : Value → Prop) (_u : Tok K := ⟨⟩) : Prop := match c with | some v => K v | none => False
def blk (w : World) (b : Nat) : Option (Array Value) := match w.heap[b]? with | some (.cells c _ _) => some c | _ => none
/-- a block that may be written -/
def blk0 (w : World) (b : Nat) : Option (Array Value) := match w.heap[b]? with | some (.cells c _ (0, 0)) => some c | _ => none
def faS (d : Option Nat) (p : Value) (K : Value → Prop) : Prop :=
  match d, p with
  | some d, .pointer (some ⟨b, off, none⟩) => K (.pointer (some ⟨b, off + d, none⟩))
  | _, _ => False
def iaS (d : Option (Option Nat × Nat)) (x i : Value) (K : Value → Prop) : Prop :=
  match d, x, i with
  | some (none, k), .slice (some ⟨b, off, none⟩) len _, .int _ n => (0 ≤ n ∧ n < len) ∧ K (.pointer (some ⟨b, off + n.toNat * k, none⟩))
  | some (some len, k), .pointer (some ⟨b, off, none⟩), .int _ n => (0 ≤ n ∧ n < len) ∧ K (.pointer (some ⟨b, off + n.toNat * k, none⟩))
  | _, _, _ => False
def ldS (d : Option (Option Nat)) (p : Value) (w : World) (K : Value → Prop) : Prop :=
  match d, p with
  | some none, .pointer (some ⟨b, off, none⟩) => atS ((blk w b).bind fun cs => cs[off]?) K
  | some (some n), .pointer (some ⟨b, off, none⟩) => match blk w b with | some cs => off + n ≤ cs.size ∧ K (.agg (cs.extract off (off + n))) | none => False
  | _, _ => False
def lnS (d : Nat) (x : Value) (w : World) (K : Value → Prop) : Prop :=
  match d, x with
  | 1, .slice _ n _ => K (.int .i64 n)
  | 2, .string s => K (.int .i64 s.size)
  | 3, .map none => K (.int .i64 0)
  | 3, .map (some r) => match w.heap[r]? with | some (.map es _) => K (.int .i64 es.size) | _ => False
  | _, _ => False
/-- a row's cells from off on, written anew -/
def spl (cs : Array Value) (off : Nat) (vs : Array Value) : Array Value := (cs.toList.take off ++ vs.toList ++ cs.toList.drop (off + vs.size)).toArray
def stS (d : Option (Option Nat)) (p v : Value) (w : World) (K : Value → World → Prop) : Prop :=
  match d, p with
  | some none, .pointer (some ⟨b, off, none⟩) => match blk0 w b with | some cs => (off < cs.size ∧ v.oneCell' = true) ∧ K undef (w.setRow b (cs.setIfInBounds off v)) | none => False
  | some (some n), .pointer (some ⟨b, off, none⟩) => match blk0 w b with | some cs => (off + n ≤ cs.size ∧ v.cells.size = n ∧ v.cells.all (·.oneCell') = true) ∧ K undef (w.setRow b (spl cs off v.cells)) | none => False
  | _, _ => False
def bxS (t : TypeId) (v : Value) (w : World) (K : Value → World → Prop) : Prop := K (.pointer (some ⟨w.heap.size, 0, none⟩)) (w.alloc (.cells v.cells t))
def alS (z : Option (Array Value)) (t : TypeId) (w : World) (K : Value → World → Prop) : Prop := match z with | some z => K (.pointer (some ⟨w.heap.size, 0, none⟩)) (w.alloc (.cells z t)) | none => False
def fcS (P : Program) (ok : Bool) (f : FuncId) (args : Array Value) (w : World) (K : Value → World → Prop) : Prop := bif ok then Calls P f args w (retP K) else False
def vcS (P : Program) (f : Value) (args : Array Value) (w : World) (K : Value → World → Prop) : Prop :=
  match f with
  | .func (.func g) first cap => bodyOk P g = true ∧ Calls P g (first ++ args ++ cap) w (retP K)
  | _ => False
/-- a guarded operation: X where the guard's slot x holds b, else Y -/
def gdS (x : Value) (b : Bool) (X Y : Prop) : Prop :=
  match x, b with
  | .bool c, true => (c = true → X) ∧ (c = false → Y)
  | .bool c, false => (c = true → Y) ∧ (c = false → X)
  | _, _ => Y
/- ### which operations only look -/
def isEvent : Op → Bool
  | .move _ | .assign _ | .pick .. | .build .. | .load .. | .nilCheck _ | .binOp .. | .unOp .. | .convert .. | .makeInterface .. | .makeFunc ..
  | .slice .. | .fieldAddr .. | .field .. | .indexAddr .. | .index .. | .lookup .. | .extract .. | .typeAssert .. => false
  | .call { callee := .builtin .len, .. } | .call { callee := .builtin .cap, .. } | .call { callee := .builtin .min, .. } | .call { callee := .builtin .max, .. } => false
  | _ => true
def worldly : Op → Bool
  | .load .. | .lookup .. | .call _ | .convert .. | .typeAssert .. => true
  | _ => false
def condS (v : Value) (X Y : Prop) : Prop := match v with | .bool b => (b = true → X) ∧ (b = false → Y) | _ => False
/- each of these under a name that nothing unfolds -/
structure FaS (d : Option Nat) (p : Value) (K : Value → Prop) : Prop where h : faS d p K
structure IaS (d : Option (Option Nat × Nat)) (x i : Value) (K : Value → Prop) : Prop where h : iaS d x i K
structure LdS (d : Option (Option Nat)) (p : Value) (w : World) (K : Value → Prop) : Prop where h : ldS d p w K
structure LnS (d : Nat) (x : Value) (w : World) (K : Value → Prop) : Prop where h : lnS d x w K
structure StS (d : Option (Option Nat)) (p v : Value) (w : World) (K : Value → World → Prop) : Prop where h : stS d p v w K
structure BxS (t : TypeId) (v : Value) (w : World) (K : Value → World → Prop) : Prop where h : bxS t v w K
structure AlS (z : Option (Array Value)) (t : TypeId) (w : World) (K : Value → World → Prop) : Prop where h : alS z t w K
structure FcS (P : Program) (ok : Bool) (f : FuncId) (args : Array Value) (w : World) (K : Value → World → Prop) : Prop where h : fcS P ok f args w K
structure VcS (P : Program) (f : Value) (args : Array Value) (w : World) (K : Value → World → Prop) : Prop where h : vcS P f args w K
structure GqS (x : Value) (b : Bool) (F : (Value → Prop) → Prop) (K : Value → Prop) : Prop where h : gdS x b (F K) (K undef)
structure GeS (x : Value) (b : Bool) (F : (Value → World → Prop) → Prop) (w : World) (K : Value → World → Prop) : Prop where h : gdS x b (F K) (K undef w)
structure WvS (r : Result Next) (w : World) (K : Value → Prop) : Prop where h : ∃ v, r = .ok (.value v) w ∧ K v
structure PvS (r : World → Result Next) (K : Value → Prop) : Prop where h : ∃ v, (∀ w, r w = .ok (.value v) w) ∧ K v
structure EvS (P : Program) (r : Result Next) (K : Value → World → Prop) : Prop where h : resS P r K
structure CondS (v : Value) (X Y : Prop) : Prop where h : condS v X Y
structure LoopS (body : List Value → World → (List Value → World → Prop) → Prop) (s0 : List Value) (w0 : World) : Prop where
  h : ∃ (I : List Value → World → Prop) (μ : List Value → World → Nat), I s0 w0 ∧ ∀ s w, I s w → body s w (fun s' w' => I s' w' ∧ μ s' w' < μ s w)
/-- the ways through A meet in B -/
structure JoinS (A : (List Value → World → Prop) → Prop) (B : List Value → World → Prop) : Prop where h : A B
def gval (ops : Array Oper) (env : Env) (j : Nat) : Value := match (ops[j]?).bind (·.dst) with | some d => env d | none => undef
def gR (v : Value) (b : Bool) (w : World) (r : Result Next) : Result Next :=
  match v with
  | .bool b' => bif b' == b then r else .ok (.value undef) w
  | _ => .ok (.value undef) w
def runO (P : Program) (ops : Array Oper) (o : Oper) (env : Env) (w : World) : Result Next :=
  match o.guard with
  | none => (execOp (ev env) o).run P w
  | some (j, b) => gR (gval ops env j) b w ((execOp (ev env) o).run P w)
/-- an operation that only looks -/
def qS (P : Program) (o : Oper) (ρ : Operand → Value) (w : World) (K : Value → Prop) : Prop :=
  match o.op with
  | .fieldAddr t x i => FaS (fOff P t i) (ρ x) K
  | .indexAddr t x i => IaS (ixOf P t) (ρ x) (ρ i) K
  | .load t x => LdS (aggN P t) (ρ x) w K
  | .call { callee := .builtin .len, args := ⟨[x]⟩, argTypes := ⟨[t]⟩ } => LnS (lnOf P t) (ρ x) w K
  | op => bif worldly op then WvS ((execOp ρ o).run P w) w K else PvS (fun w => (execOp ρ o).run P w) K
def quietS (P : Program) (ops : Array Oper) (o : Oper) (env : Env) (w : World) (K : Value → Prop) : Prop :=
  match o.guard with
  | none => qS P o (ev env) w K
  | some (j, b) => GqS (gval ops env j) b (qS P o (ev env) w) K
/-- an operation that may turn the world -/
def eS (P : Program) (o : Oper) (ρ : Operand → Value) (w : World) (K : Value → World → Prop) : Prop :=
  match o.op with
  | .box t x => BxS t (ρ x) w K
  | .alloc t => AlS (zc P t) t w K
  | .store t a x => StS (aggN P t) (ρ a) (ρ x) w K
  | .call { callee := .value (.func f), args, .. } => FcS P (bodyOk P f) f (args.map ρ) w K
  | .call { callee := .value f, args, .. } => VcS P (ρ f) (args.map ρ) w K
  | _ => EvS P ((execOp ρ o).run P w) K
def eventS (P : Program) (ops : Array Oper) (o : Oper) (env : Env) (w : World) (K : Value → World → Prop) : Prop :=
  match o.guard with
  | none => eS P o (ev env) w K
  | some (j, b) => GeS (gval ops env j) b (eS P o (ev env) w) w K
def moveOf (o : Oper) : Option Operand := match o.guard, o.op with | none, .move x => some x | none, .assign x => some x | _, _ => none
def semL (P : Program) (ops : Array Oper) : List Oper → (Env → World → Prop) → Env → World → Prop
  | [], Q, env, w => Q env w
  | o :: l, Q, env, w =>
    match moveOf o with
    | some x => semL P ops l Q (updO env o.dst (ev env x)) w
    | none =>
      bif isEvent o.op then eventS P ops o env w fun v w' => semL P ops l Q (updO env o.dst v) w'
      else quietS P ops o env w fun v => semL P ops l Q (updO env o.dst v) w
def nth (s : List Value) (i : Nat) : Value := s.getD i undef
def setL (env : Env) (vals : List Value) : List Nat → Nat → Env
  | [], _ => env
  | d :: ds, i => fun t => bif Nat.beq t d then nth vals i else setL env vals ds (i + 1) t
def writes : Code → List Nat
  | .region _ ops _ => ops.toList.filterMap (·.dst)
  | .seq a b | .cond _ a b => writes a ++ writes b
  | .block _ c | .loop c | .scope c => writes c
  | _ => []
def key : Code → Nat
  | .region id _ _ => id
  | .seq a _ => key a
  | .cond _ a _ => key a
  | .block _ c | .loop c | .scope c => key c
  | _ => 0
def outside (W L : List Nat) : List Nat := W.filter fun t => !L.contains t
/- ### a region that draws its order -/
def afterOf (o : Oper) : List Nat := (o.after.toList.filter (Region.binds .any)).map (·.on)
def gslot (ops : Array Oper) (o : Oper) : List Nat := match o.guard with | some (j, _) => ((ops[j]?).bind (·.dst)).toList | none => []
def reads (ops : Array Oper) (o : Oper) : List Nat := (o.op.operands.toList.filterMap fun | .tmp t => some t | _ => none) ++ gslot ops o
/-- is slot t written by an operation that o stands behind? -/
def behind (ops : Array Oper) (o : Oper) (t : Nat) : Bool := (afterOf o).any fun j => ((ops[j]?).bind (·.dst)) == some t
def refE (ops : Array Oper) (o : Oper) (env0 env : Env) : Env := fun t => bif behind ops o t then env t else env0 t
def passD (P : Program) (ops : Array Oper) (env0 : Env) (w : World) : List (Oper × Nat) → List Nat → Env → (List Nat → Env → Prop) → Prop
  | [], E, env, K => K E env
  | (o, i) :: l, E, env, K =>
    bif !isEvent o.op && !E.contains i && (afterOf o).all (E.contains ·) then
      match moveOf o with
      | some x => passD P ops env0 w l (i :: E) (updO env o.dst (ev (refE ops o env0 env) x)) K
      | none => quietS P ops o (refE ops o env0 env) w fun v => passD P ops env0 w l (i :: E) (updO env o.dst v) K
    else passD P ops env0 w l E env K
def rechkD (P : Program) (ops : Array Oper) (env0 : Env) (w : World) (E T : List Nat) (env : Env) : List (Oper × Nat) → Prop → Prop
  | [], K => K
  | (o, i) :: l, K =>
    bif !isEvent o.op && worldly o.op && E.contains i && !T.contains i then
      quietS P ops o (refE ops o env0 env) w (fun v => v = env (o.dst.getD 0)) ∧ rechkD P ops env0 w E T env l K
    else rechkD P ops env0 w E T env l K
def closeD : List (Oper × Nat) → List Nat → List Nat    -- over the operations from the last to the first
  | [], T => T
  | (o, i) :: l, T => bif T.contains i then closeD l (T ++ afterOf o) else closeD l T
def allS : List Nat → (Nat → Prop) → Prop
  | [], _ => True
  | [i], F => F i
  | i :: j :: l, F => F i ∧ allS (j :: l) F
def readyD (E : List Nat) (l : List (Oper × Nat)) : List Nat := (l.filter fun (o, i) => isEvent o.op && !E.contains i && (afterOf o).all (E.contains ·)).map (·.2)
def semD (P : Program) (ops : Array Oper) (env0 : Env) (Q : Env → World → Prop) : Nat → List Nat → List Nat → Env → World → Prop
  | 0, _, _, _, _ => False
  | f + 1, E, T, env, w =>
    rechkD P ops env0 w E T env ops.toList.zipIdx <|
    passD P ops env0 w ops.toList.zipIdx E env fun E' env' =>
      bif (readyD E' ops.toList.zipIdx).isEmpty then Q env' w
      else allS (readyD E' ops.toList.zipIdx) fun x =>
        eventS P ops (ops.getD x default) (refE ops (ops.getD x default) env0 env') w fun v w' =>
          semD P ops env0 Q f (x :: E') (closeD ops.toList.zipIdx.reverse (x :: T)) (updO env' (ops.getD x default).dst v) w'
/-- what the rule asks of a region that draws: edges lead back; each slot is written once; who reads a slot that another writes stands before or behind it; who is read by a guard stands before. -/
def fineD (ops : Array Oper) : Bool :=
  ops.toList.zipIdx.all fun (o, i) =>
    (match o.op with | .select .. => false | _ => true) &&
    (afterOf o).all (· < i) &&
    (isEvent o.op || o.dst.isSome) &&
    ops.toList.zipIdx.all fun (p, j) =>
      (i == j) ||
      ((o.dst.isNone || !(o.dst == p.dst)) &&
       (p.dst.isNone || !(reads ops o).contains (p.dst.getD 0) || (afterOf o).contains j || (afterOf p).contains i))
def sem (P : Program) (phL : Nat → List Nat) (phJ : Nat → Option (List Nat)) : Code → (Exit → Env → World → Prop) → Env → World → Prop
  | .skip, Q, env, w => Q .normal env w
  | .label _, Q, env, w => Q .normal env w
  | .ret, Q, env, w => Q .ret env w
  | .exit id, Q, env, w => Q (.exit id) env w
  | .seq a b, Q, env, w =>
    match phJ (key b) with
    | none => sem P phL phJ a (fun e env w => match e with | .normal => sem P phL phJ b Q env w | e => Q e env w) env w
    | some L => JoinS (fun k => sem P phL phJ a (fun e env w => match e with | .normal => k (L.map env) w | e => Q e env w) env w)
        (fun s w => ∀ j : List Value, sem P phL phJ b Q (setL (setL env j (outside (writes a) L) 0) s L 0) w)
  | .cond c x y, Q, env, w => CondS (ev env c) (sem P phL phJ x Q env w) (sem P phL phJ y Q env w)
  | .block id c, Q, env, w => sem P phL phJ c (fun e env w => match e with | .exit i => bif Nat.beq i id then Q .normal env w else Q (.exit i) env w | e => Q e env w) env w
  | .loop c, Q, env, w =>
    LoopS (fun s w next => ∀ j : List Value, sem P phL phJ c (fun e env w => match e with | .normal => next ((phL (key c)).map env) w | e => Q e env w)
      (setL (setL env j (outside (writes c) (phL (key c))) 0) s (phL (key c)) 0) w) ((phL (key c)).map env) w
  | .region _ ops false, Q, env, w => semL P ops ops.toList (Q .normal) env w
  | .region _ ops true, Q, env, w => bif fineD ops then semD P ops env (Q .normal) (ops.size + 1) [] [] env w.drew else False
  | _, _, _, _ => False
def retsS (P : Program) (env : Env) (w : World) (K : Value → World → Prop) : List ResultVar → List Value → Prop
  | [], [v] => K v w
  | [], vs => K (.tuple vs.toArray) w
  | .tmp t :: rs, vs => retsS P env w K rs (vs ++ [env t])
  | .cell p ty :: rs, vs => LdS (aggN P ty) (env p) w fun v => retsS P env w K rs (vs ++ [v])
def bodyS (P : Program) (rs : List ResultVar) (K : Value → World → Prop) : Exit → Env → World → Prop
  | .normal, env, w => retsS P env w K rs []
  | .ret, env, w => retsS P env w K rs []
  | _, _, _ => False
def envL (l : List Value) : Env := fun t => nth l t
def okC (n : Nat) : Code → Bool
  | .region _ ops _ => ops.toList.all fun o => match o.dst with | some d => Nat.blt d n | none => true
  | .seq a b | .cond _ a b => okC n a && okC n b
  | .block _ c | .loop c | .scope c => okC n c
  | _ => true
end Go.Proofs.Ytbkgijnmckchbaa
