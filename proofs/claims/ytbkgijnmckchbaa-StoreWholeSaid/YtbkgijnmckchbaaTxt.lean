/- The words of a function's text: one for each operation of the model. -/
import Derived.Test.YtbkgijnmckchbaaSnd6
namespace Go.Proofs.Ytbkgijnmckchbaa
open Go
set_option linter.unusedSimpArgs false
set_option linter.unusedVariables false
theorem mixed : Try.prog.follows .mixedOrders = true := by kernel_rfl
def fx (p : Value) (d : Nat) (K : Value → Prop) (_u : Tok K := ⟨⟩) : Prop := FaS (some d) p K
def iz (k : Nat) (x i : Value) (K : Value → Prop) (_u : Tok K := ⟨⟩) : Prop := IaS (some (none, k)) x i K
def ja (n k : Nat) (x i : Value) (K : Value → Prop) (_u : Tok K := ⟨⟩) : Prop := IaS (some (some n, k)) x i K
def l1 (p : Value) (w : World) (K : Value → Prop) (_u : Tok K := ⟨⟩) : Prop := LdS (some none) p w K
def la (n : Nat) (p : Value) (w : World) (K : Value → Prop) (_u : Tok K := ⟨⟩) : Prop := LdS (some (some n)) p w K
def ln (d : Nat) (x : Value) (w : World) (K : Value → Prop) (_u : Tok K := ⟨⟩) : Prop := LnS d x w K
def bx (t : TypeId) (v : Value) (w : World) (K : Value → World → Prop) (_u : Tok K := ⟨⟩) : Prop := BxS t v w K
def al (z : Array Value) (t : TypeId) (w : World) (K : Value → World → Prop) (_u : Tok K := ⟨⟩) : Prop := AlS (some z) t w K
def sw (p v : Value) (w : World) (K : Value → World → Prop) (_u : Tok K := ⟨⟩) : Prop := StS (some none) p v w K
def sa (n : Nat) (p v : Value) (w : World) (K : Value → World → Prop) (_u : Tok K := ⟨⟩) : Prop := StS (some (some n)) p v w K
def fc (f : FuncId) (a : Array Value) (w : World) (K : Value → World → Prop) (_u : Tok K := ⟨⟩) : Prop := FcS Try.prog true f a w K
def vc (f : Value) (a : Array Value) (w : World) (K : Value → World → Prop) (_u : Tok K := ⟨⟩) : Prop := VcS Try.prog f a w K
def pv (m : Sem Next) (K : Value → Prop) (_u : Tok K := ⟨⟩) : Prop := PvS (fun w => m.run Try.prog w) K
def wv (m : Sem Next) (w : World) (K : Value → Prop) (_u : Tok K := ⟨⟩) : Prop := WvS (m.run Try.prog w) w K
def o (m : Sem Next) (w : World) (K : Value → World → Prop) (_u : Tok K := ⟨⟩) : Prop := EvS Try.prog (m.run Try.prog w) K
def gq (x : Value) (b : Bool) (F : (Value → Prop) → Prop) (K : Value → Prop) (_u : Tok K := ⟨⟩) : Prop := GqS x b F K
def ge (x : Value) (b : Bool) (F : (Value → World → Prop) → Prop) (w : World) (K : Value → World → Prop) (_u : Tok K := ⟨⟩) : Prop := GeS x b F w K
def cnd (v : Value) (X Y : Prop) (_u : Tok X := ⟨⟩) (_t : Tok Y := ⟨⟩) : Prop := CondS v X Y
def rk (F : (Value → Prop) → Prop) (v : Value) (K : Prop) : Prop := F (fun u => u = v) ∧ K
def vN (s : Sem Value) : Sem Next := do pure (.value (← s))
def uN (s : Sem Unit) : Sem Next := do s; pure .skip
def mv (x : Value) : Sem Next := pure (.value x)
def pk (c a b : Value) : Sem Next := do pure (.value (if ← asBool c then a else b))
def bd (t : TypeId) (ps : Array (Nat × Value)) : Sem Next := vN (Instr.build t ps)
def bs (t : TypeId) (n : Nat) (ps : Array (Nat × Value)) : Sem Next := vN (Instr.buildSlice t n ps)
def nc (x : Value) : Sem Next := execOp (fun | .const v => v | _ => undef) { dst := none, op := .nilCheck (.const x), type := 0, pos := "", after := #[], guard := none }
def bn (op : BinOp) (t : TypeId) (a b : Value) : Sem Next := vN (binOp op t a b)
def be (op : BinOp) (t : TypeId) (c : Bool) (a b : Value) : Sem Next := vN (do eqGuard op t (bif c then .const undef else .tmp 0) (.tmp 0) a b; binOp op t a b)
def un (op : UnOp) (x : Value) : Sem Next := vN (Op.unary op x)
def cv (s d : TypeId) (x : Value) : Sem Next := vN (convert s d x)
def mi (t : TypeId) (x : Value) : Sem Next := vN (Instr.makeInterface t x)
def mf (f : Fn) (a b : Array Value) : Sem Next := vN (Instr.makeFunc f a b)
def mm (t : TypeId) (r : Option Value) : Sem Next := vN (Instr.makeMap t r)
def ms (t : TypeId) (l c : Value) : Sem Next := vN (Instr.makeSlice t l c)
def sl (t : TypeId) (x : Value) (l h m : Option Value) : Sem Next := vN (Instr.sliceAt t x l h m)
def fi (t : TypeId) (x : Value) (i : Nat) : Sem Next := vN (Instr.field t x i)
def ix (t : TypeId) (x i : Value) : Sem Next := vN (Instr.index t x i)
def lk (t : TypeId) (x i : Value) (ok : Bool) : Sem Next := vN (Instr.lookup t x i ok)
def mu (t : TypeId) (m k v : Value) : Sem Next := uN (Instr.mapUpdate t m k v)
def ex (x : Value) (i : Nat) : Sem Next := vN (Instr.extract x i)
def rg (t : TypeId) (x : Value) : Sem Next := vN (Instr.range t x)
def nx (x : Value) (s : Bool) (t : TypeId) : Sem Next := vN (Instr.next x s t)
def pn (x : Value) : Sem Next := vN (Instr.panic x)
def iv (r : Value) (n : String) (a : Array Value) : Sem Next := invoke (.fn (.method n) #[]) (#[r] ++ a)
def ap (ts : Array TypeId) (ty : TypeId) (cs : Array Bool) (a b : Value) : Sem Next := builtin .append ts ty cs #[a, b]
def bi (b : Builtin) (ts : Array TypeId) (ty : TypeId) (cs : Array Bool) (a : Array Value) : Sem Next := builtin b ts ty cs a
end Go.Proofs.Ytbkgijnmckchbaa
