/- The rules: what each word of a text comes to, at values that are known. -/
import Derived.Test.YtbkgijnmckchbaaTxt
namespace Go.Proofs.Ytbkgijnmckchbaa
open Go
set_option linter.unusedSimpArgs false
set_option linter.unusedVariables false
/-- one value or another, by a test that isn't decided -/
def sel (c : Bool) (x y : Value) : Value := if c = true then x else y
def selP (c : Bool) (x y : Prop) : Prop := if c = true then x else y
section rules
variable {b off d n k : Nat} {w : World} {K : Value → Prop} {L : Value → World → Prop} {v : Value}
@[go_sem] theorem fx_r : fx (.pointer (some ⟨b, off, none⟩)) d K = K (.pointer (some ⟨b, off + d, none⟩)) := propext ⟨fun h => h.h, fun h => ⟨h⟩⟩
@[go_sem] theorem iz_r {c : Nat} {q : IntKind} {i : Int} : iz k (.slice (some ⟨b, off, none⟩) n c) (.int q i) K = ((0 ≤ i ∧ i < n) ∧ K (.pointer (some ⟨b, off + i.toNat * k, none⟩))) := propext ⟨fun h => h.h, fun h => ⟨h⟩⟩
@[go_sem] theorem ja_r {q : IntKind} {i : Int} : ja n k (.pointer (some ⟨b, off, none⟩)) (.int q i) K = ((0 ≤ i ∧ i < n) ∧ K (.pointer (some ⟨b, off + i.toNat * k, none⟩))) := propext ⟨fun h => h.h, fun h => ⟨h⟩⟩
@[go_sem] theorem l1_r : l1 (.pointer (some ⟨b, off, none⟩)) w K = atS ((blk w b).bind fun cs => cs[off]?) K := propext ⟨fun h => h.h, fun h => ⟨h⟩⟩
/-- what is done with a block's cells -/
def blkS (c : Option (Array Value)) (F : Array Value → Prop) (_u : Tok F := ⟨⟩) : Prop := match c with | some cs => F cs | none => False
@[go_sem] theorem blkS_r {cs : Array Value} {F : Array Value → Prop} : blkS (some cs) F = F cs := rfl
/-- so many cells from off on, as one value -/
def agx (cs : Array Value) (off n : Nat) : Value := .agg (cs.extract off (off + n))
@[go_sem] theorem agx_all {cs : Array Value} (h : cs.size = n) : agx cs 0 n = .agg cs := by unfold agx; rw [Nat.zero_add, ← h]; simp
@[go_sem] theorem agx_list {l : List Value} : agx l.toArray off n = .agg ((l.drop off).take n).toArray := by
  unfold agx
  congr 1
  apply Array.ext'
  simp [List.extract]
@[go_sem] theorem rk_k {P : Prop} : rk (fun K => K v) v P = P := by simp [rk]
@[go_sem] theorem la_r : la n (.pointer (some ⟨b, off, none⟩)) w K = blkS (blk w b) fun cs => off + n ≤ cs.size ∧ K (agx cs off n) := by
  refine propext ⟨fun h => ?_, fun h => ⟨?_⟩⟩
  · have := h.h; unfold ldS at this; unfold blkS; exact this
  · unfold blkS at h; unfold ldS; exact h
@[go_sem] theorem ln_sl {a : Option Addr} {c : Nat} : ln 1 (.slice a n c) w K = K (.int .i64 n) := propext ⟨fun h => h.h, fun h => ⟨h⟩⟩
@[go_sem] theorem ln_st {s : ByteArray} : ln 2 (.string s) w K = K (.int .i64 s.size) := propext ⟨fun h => h.h, fun h => ⟨h⟩⟩
@[go_sem] theorem bx_r : bx n v w L = L (.pointer (some ⟨w.heap.size, 0, none⟩)) (w.alloc (.cells v.cells n)) := propext ⟨fun h => h.h, fun h => ⟨h⟩⟩
@[go_sem] theorem al_r {z : Array Value} : al z n w L = L (.pointer (some ⟨w.heap.size, 0, none⟩)) (w.alloc (.cells z n)) := propext ⟨fun h => h.h, fun h => ⟨h⟩⟩
@[go_sem] theorem sw_r : sw (.pointer (some ⟨b, off, none⟩)) v w L = blkS (blk0 w b) fun cs => (off < cs.size ∧ v.oneCell' = true) ∧ L undef (w.setRow b (cs.setIfInBounds off v)) := by
  refine propext ⟨fun h => ?_, fun h => ⟨?_⟩⟩
  · have := h.h; unfold stS at this; unfold blkS; exact this
  · unfold blkS at h; unfold stS; exact h
def oneL : List Value → Prop
  | [] => True
  | v :: l => v.oneCell' = true ∧ oneL l
/-- a value that fills n cells -/
def fit (v : Value) (n : Nat) : Prop := v.cells.size = n ∧ oneL v.cells.toList
@[go_sem] theorem oneL_nil : oneL [] = True := rfl
@[go_sem] theorem oneL_cons {l : List Value} : oneL (v :: l) = (v.oneCell' = true ∧ oneL l) := rfl
theorem oneL_iff {l : List Value} : oneL l ↔ ∀ u ∈ l, u.oneCell' = true := by
  induction l with
  | nil => simp [oneL]
  | cons v l ih => simp [oneL, ih]
@[go_sem] theorem fit_agg {l : List Value} : fit (.agg ⟨l⟩) n = (l.length = n ∧ oneL l) := rfl
@[go_sem] theorem one_int {q : IntKind} {x : Int} : (Value.int q x).oneCell' = true := rfl
@[go_sem] theorem one_bool {x : Bool} : (Value.bool x).oneCell' = true := rfl
@[go_sem] theorem one_string {x : ByteArray} : (Value.string x).oneCell' = true := rfl
@[go_sem] theorem one_ptr {x : Option Addr} : (Value.pointer x).oneCell' = true := rfl
@[go_sem] theorem one_slice {x : Option Addr} {a c : Nat} : (Value.slice x a c).oneCell' = true := rfl
@[go_sem] theorem one_map {x : Option Nat} : (Value.map x).oneCell' = true := rfl
@[go_sem] theorem one_func {f : Fn} {a c : Array Value} : (Value.func f a c).oneCell' = true := rfl
theorem cells_agg {cs : Array Value} : (Value.agg cs).cells = cs := rfl
theorem cells_int {q : IntKind} {x : Int} : (Value.int q x).cells = #[.int q x] := rfl
theorem cells_bool {x : Bool} : (Value.bool x).cells = #[.bool x] := rfl
theorem cells_string {x : ByteArray} : (Value.string x).cells = #[.string x] := rfl
theorem cells_ptr {x : Option Addr} : (Value.pointer x).cells = #[.pointer x] := rfl
theorem cells_slice {x : Option Addr} {a c : Nat} : (Value.slice x a c).cells = #[.slice x a c] := rfl
theorem cells_map {x : Option Nat} : (Value.map x).cells = #[.map x] := rfl
theorem cells_func {f : Fn} {a c : Array Value} : (Value.func f a c).cells = #[.func f a c] := rfl
theorem fit_iff : (v.cells.size = n ∧ v.cells.all (·.oneCell') = true) = fit v n := by
  unfold fit
  rw [oneL_iff, eq_iff_iff]
  refine and_congr_right fun _ => ⟨fun h u hu => ?_, fun h => ?_⟩
  · exact Array.all_eq_true_iff_forall_mem.1 h u (Array.mem_def.2 hu)
  · exact Array.all_eq_true_iff_forall_mem.2 fun u hu => h u (Array.mem_def.1 hu)
@[go_sem] theorem sa_r : sa n (.pointer (some ⟨b, off, none⟩)) v w L = blkS (blk0 w b) fun cs => (off + n ≤ cs.size ∧ fit v n) ∧ L undef (w.setRow b (spl cs off v.cells)) := by
  have key : stS (some (some n)) (.pointer (some ⟨b, off, none⟩)) v w L = blkS (blk0 w b) fun cs => (off + n ≤ cs.size ∧ fit v n) ∧ L undef (w.setRow b (spl cs off v.cells)) := by
    rw [← fit_iff]
    rfl
  exact propext ⟨fun h => key ▸ h.h, fun h => ⟨key ▸ h⟩⟩
@[go_sem] theorem spl_all {cs vs : Array Value} (h : cs.size = vs.size) : spl cs 0 vs = vs := by
  unfold spl
  rw [List.drop_eq_nil_of_le (by simp [h])]
  simp
@[go_sem] theorem fc_r {f : Nat} {a : Array Value} : fc f a w L = Calls Try.prog f a w (retP L) := propext ⟨fun h => h.h, fun h => ⟨h⟩⟩
theorem vc_r {g : Nat} {fst cap a : Array Value} (hg : bodyOk Try.prog g = true) : vc (.func (.func g) fst cap) a w L = Calls Try.prog g (fst ++ a ++ cap) w (retP L) := propext ⟨fun h => h.h.2, fun h => ⟨hg, h⟩⟩
@[go_sem] theorem atS_r : atS (some v) K = K v := rfl
@[go_sem] theorem cnd_t {X Y : Prop} : cnd (.bool true) X Y = X := propext ⟨fun h => h.h.1 rfl, fun h => ⟨⟨fun _ => h, fun e => by cases e⟩⟩⟩
@[go_sem] theorem cnd_f {X Y : Prop} : cnd (.bool false) X Y = Y := propext ⟨fun h => h.h.2 rfl, fun h => ⟨⟨fun e => (by cases e), fun _ => h⟩⟩⟩
theorem cnd_i {c : Bool} {X Y : Prop} (h1 : c = true → X) (h2 : c = false → Y) : cnd (.bool c) X Y := ⟨⟨h1, h2⟩⟩
section guards
variable {c e : Bool} {F : (Value → Prop) → Prop} {G : (Value → World → Prop) → Prop} {u : Value}
@[go_sem] theorem gq_tt : gq (.bool true) true F K = F K := propext ⟨fun h => h.h.1 rfl, fun h => ⟨⟨fun _ => h, fun e => by cases e⟩⟩⟩
@[go_sem] theorem gq_ft : gq (.bool false) true F K = K undef := propext ⟨fun h => h.h.2 rfl, fun h => ⟨⟨fun e => (by cases e), fun _ => h⟩⟩⟩
@[go_sem] theorem gq_tf : gq (.bool true) false F K = K undef := propext ⟨fun h => h.h.1 rfl, fun h => ⟨⟨fun _ => h, fun e => by cases e⟩⟩⟩
@[go_sem] theorem gq_ff : gq (.bool false) false F K = F K := propext ⟨fun h => h.h.2 rfl, fun h => ⟨⟨fun e => (by cases e), fun _ => h⟩⟩⟩
@[go_sem] theorem ge_tt : ge (.bool true) true G w L = G L := propext ⟨fun h => h.h.1 rfl, fun h => ⟨⟨fun _ => h, fun e => by cases e⟩⟩⟩
@[go_sem] theorem ge_ft : ge (.bool false) true G w L = L undef w := propext ⟨fun h => h.h.2 rfl, fun h => ⟨⟨fun e => (by cases e), fun _ => h⟩⟩⟩
@[go_sem] theorem ge_tf : ge (.bool true) false G w L = L undef w := propext ⟨fun h => h.h.1 rfl, fun h => ⟨⟨fun _ => h, fun e => by cases e⟩⟩⟩
@[go_sem] theorem ge_ff : ge (.bool false) false G w L = G L := propext ⟨fun h => h.h.2 rfl, fun h => ⟨⟨fun e => (by cases e), fun _ => h⟩⟩⟩
/- a guarded word whose value is known where it is wanted: no parting of the ways -/
theorem gqt {c : Bool} : gq (.bool c) true F K = ((c = true → F K) ∧ (c = false → K undef)) := propext ⟨fun h => h.h, fun h => ⟨h⟩⟩
theorem gqf {c : Bool} : gq (.bool c) false F K = ((c = true → K undef) ∧ (c = false → F K)) := propext ⟨fun h => h.h, fun h => ⟨h⟩⟩
@[go_sem] theorem gqt_k : gq (.bool c) true (fun K => K v) K = K (sel c v undef) := by rw [gqt]; cases c <;> simp [sel]
@[go_sem] theorem gqf_k : gq (.bool c) false (fun K => K v) K = K (sel c undef v) := by rw [gqf]; cases c <;> simp [sel]
@[go_sem] theorem gqt_and {A : Prop} {H : (Value → Prop) → Prop} : gq (.bool c) true (fun K => A ∧ H K) K = ((c = true → A) ∧ gq (.bool c) true (fun K => H K) K) := by rw [gqt, gqt]; cases c <;> simp
@[go_sem] theorem gqf_and {A : Prop} {H : (Value → Prop) → Prop} : gq (.bool c) false (fun K => A ∧ H K) K = ((c = false → A) ∧ gq (.bool c) false (fun K => H K) K) := by rw [gqf, gqf]; cases c <;> simp
@[go_sem] theorem gqt_sel {A B : (Value → Prop) → Prop} : gq (.bool c) true (fun K => selP c (A K) (B K)) K = gq (.bool c) true (fun K => A K) K := by rw [gqt, gqt]; cases c <;> simp [selP]
@[go_sem] theorem gqf_sel {A B : (Value → Prop) → Prop} : gq (.bool c) false (fun K => selP c (A K) (B K)) K = gq (.bool c) false (fun K => B K) K := by rw [gqf, gqf]; cases c <;> simp [selP]
@[go_sem] theorem fx_sel : fx (sel c v u) d K = selP c (fx v d K) (fx u d K) := by cases c <;> rfl
@[go_sem] theorem l1_sel : l1 (sel c v u) w K = selP c (l1 v w K) (l1 u w K) := by cases c <;> rfl
@[go_sem] theorem la_sel : la n (sel c v u) w K = selP c (la n v w K) (la n u w K) := by cases c <;> rfl
@[go_sem] theorem ln_sel : ln n (sel c v u) w K = selP c (ln n v w K) (ln n u w K) := by cases c <;> rfl
@[go_sem] theorem iz1_sel {x : Value} : iz n (sel c v u) x K = selP c (iz n v x K) (iz n u x K) := by cases c <;> rfl
@[go_sem] theorem iz2_sel {x : Value} : iz n x (sel c v u) K = selP c (iz n x v K) (iz n x u K) := by cases c <;> rfl
@[go_sem] theorem bn1_sel {p : BinOp} {x : Value} : pv (bn p n (sel c v u) x) K = selP c (pv (bn p n v x) K) (pv (bn p n u x) K) := by cases c <;> rfl
@[go_sem] theorem bn2_sel {p : BinOp} {x : Value} : pv (bn p n x (sel c v u)) K = selP c (pv (bn p n x v) K) (pv (bn p n x u) K) := by cases c <;> rfl
@[go_sem] theorem be1_sel {p : BinOp} {f : Bool} {x : Value} : pv (be p n f (sel c v u) x) K = selP c (pv (be p n f v x) K) (pv (be p n f u x) K) := by cases c <;> rfl
@[go_sem] theorem be2_sel {p : BinOp} {f : Bool} {x : Value} : pv (be p n f x (sel c v u)) K = selP c (pv (be p n f x v) K) (pv (be p n f x u) K) := by cases c <;> rfl
@[go_sem] theorem un_sel {p : UnOp} : pv (un p (sel c v u)) K = selP c (pv (un p v) K) (pv (un p u) K) := by cases c <;> rfl
@[go_sem] theorem ex_sel {i : Nat} : pv (ex (sel c v u) i) K = selP c (pv (ex v i) K) (pv (ex u i) K) := by cases c <;> rfl
@[go_sem] theorem sel_t : sel true v u = v := rfl
@[go_sem] theorem sel_f : sel false v u = u := rfl
@[go_sem] theorem gq_u : gq undef e F K = K undef := propext ⟨fun h => h.h, fun h => ⟨h⟩⟩
@[go_sem] theorem ge_u : ge undef e G w L = L undef w := propext ⟨fun h => h.h, fun h => ⟨h⟩⟩
@[go_sem] theorem selP_same {A B C : Prop} : selP c (selP c A B) C = selP c A C := by cases c <;> rfl
@[go_sem] theorem selP_same2 {A B C : Prop} : selP c A (selP c B C) = selP c A C := by cases c <;> rfl
end guards
/-- a word that only reckons: what it comes to -/
theorem pv_of {m : Sem Next} (h : ∀ w, m.run Try.prog w = .ok (.value v) w) : pv m K = K v :=
  propext ⟨fun ⟨u, hu, hk⟩ => by have := (h w0).symm.trans (hu w0); cases this; exact hk, fun hk => ⟨⟨v, h, hk⟩⟩⟩
where w0 : World := default
theorem wv_of {m : Sem Next} (h : m.run Try.prog w = .ok (.value v) w) : wv m w K = K v :=
  propext ⟨fun ⟨u, hu, hk⟩ => by have := h.symm.trans hu; cases this; exact hk, fun hk => ⟨⟨v, h, hk⟩⟩⟩
section bin
variable {t : Nat} {q : IntKind} {x y : Int} {c : Bool}
@[go_sem] theorem bn_lss : pv (bn .lss t (.int q x) (.int q y)) K = K (.bool (decide (x < y))) := pv_of fun _ => by simp [bn, vN, go_sem]
@[go_sem] theorem bn_leq : pv (bn .leq t (.int q x) (.int q y)) K = K (.bool (decide (x ≤ y))) := pv_of fun _ => by simp [bn, vN, go_sem]
@[go_sem] theorem bn_gtr : pv (bn .gtr t (.int q x) (.int q y)) K = K (.bool (decide (y < x))) := pv_of fun _ => by simp [bn, vN, go_sem]
@[go_sem] theorem bn_geq : pv (bn .geq t (.int q x) (.int q y)) K = K (.bool (decide (y ≤ x))) := pv_of fun _ => by simp [bn, vN, go_sem]
@[go_sem] theorem be_eql : pv (be .eql t c (.int q x) (.int q y)) K = K (.bool (x == y)) := pv_of fun _ => by simp [be, vN, go_sem]
@[go_sem] theorem be_neq : pv (be .neq t c (.int q x) (.int q y)) K = K (.bool (x != y)) := pv_of fun _ => by simp [be, vN, go_sem]
@[go_sem] theorem bn_add : pv (bn .add t (.int q x) (.int q y)) K = K (.int q (q.wrap (x + y))) := pv_of fun _ => by cases q <;> simp [bn, vN, binOp, Op.intArith]
@[go_sem] theorem bn_sub : pv (bn .sub t (.int q x) (.int q y)) K = K (.int q (q.wrap (x - y))) := pv_of fun _ => by cases q <;> simp [bn, vN, binOp, Op.intArith]
@[go_sem] theorem bn_mul : pv (bn .mul t (.int q x) (.int q y)) K = K (.int q (q.wrap (x * y))) := pv_of fun _ => by cases q <;> simp [bn, vN, binOp, Op.intArith]
@[go_sem] theorem pk_t {u z : Value} : pv (pk (.bool true) u z) K = K u := pv_of fun _ => by simp [pk, asBool]
@[go_sem] theorem pk_f {u z : Value} : pv (pk (.bool false) u z) K = K z := pv_of fun _ => by simp [pk, asBool]
theorem pk_b {u z : Value} {e : Bool} : pv (pk (.bool e) u z) K = K (if e = true then u else z) := pv_of fun _ => by cases e <;> simp [pk, asBool]
@[go_sem] theorem pk_or {c e : Bool} : pv (pk (.bool c) (.bool true) (sel c undef (.bool e))) K = K (.bool (c || e)) := by cases c <;> simp [sel, pk_t, pk_f]
@[go_sem] theorem pk_and {c e : Bool} : pv (pk (.bool c) (sel c (.bool e) undef) (.bool false)) K = K (.bool (c && e)) := by cases c <;> simp [sel, pk_t, pk_f]
@[go_sem] theorem mv_r {u : Value} : pv (mv u) K = K u := pv_of fun _ => by simp [mv]
@[go_sem] theorem un_not {e : Bool} : pv (un .not (.bool e)) K = K (.bool !e) := pv_of fun _ => by simp [un, vN, Op.unary]
@[go_sem] theorem nc_p {a : Addr} : pv (nc (.pointer (some a))) K = K (.pointer (some a)) := pv_of fun _ => by simp [nc, execOp]
theorem be_gen {u z : Value} {r : Bool} (hg : ∀ w, (eqGuard .eql t (bif c then .const undef else .tmp 0) (.tmp 0) u z).run Try.prog w = .ok () w) (h : ∀ w, (Op.equal t u z).run Try.prog w = .ok r w) (hb : binOp .eql t u z = (do pure (.bool (← Op.equal t u z)))) : pv (be .eql t c u z) K = K (.bool r) := pv_of fun w => by
  simp only [be, vN, Sem.run_bind, hg, Result.andThen_ok, hb, h, Sem.run_pure]
theorem be_pn {e : Nat} {p : Option Addr} (ht : Try.prog.underlying t = some (.pointer e)) : pv (be .eql t c (.pointer p) (.pointer none)) K = K (.bool p.isNone) :=
  be_gen (fun _ => rfl) (fun w => by unfold Op.equal; rw [show Op.maxDepth = 9999 + 1 from rfl, Op.equalIn]; cases p <;> simp only [Sem.run_bind, run_underlying ht, Result.andThen_ok, Sem.run_pure, Option.isNone]) rfl
theorem be_sn {e n cp : Nat} {p : Option Addr} (ht : Try.prog.underlying t = some (.slice e)) : pv (be .eql t c (.slice p n cp) (.slice none 0 0)) K = K (.bool p.isNone) :=
  be_gen (fun _ => rfl) (fun w => by unfold Op.equal; rw [show Op.maxDepth = 9999 + 1 from rfl, Op.equalIn]; cases p <;> simp only [Sem.run_bind, run_underlying ht, Result.andThen_ok, Sem.run_pure, Option.isNone]) rfl
theorem be_bb {x y : Bool} (ht : Try.prog.underlying t = some .bool) : pv (be .eql t c (.bool x) (.bool y)) K = K (.bool (x == y)) :=
  be_gen (fun _ => rfl) (fun w => by unfold Op.equal; rw [show Op.maxDepth = 9999 + 1 from rfl, Op.equalIn]; simp only [Sem.run_bind, run_underlying ht, Result.andThen_ok, Sem.run_pure]) rfl
@[go_sem] theorem mf_r {f : Fn} {a z : Array Value} : pv (mf f a z) K = K (.func f a z) := pv_of fun _ => by simp [mf, vN, Instr.makeFunc]
theorem ex_r {vs : Array Value} {i : Nat} {u : Value} (h : vs[i]? = some u) : pv (ex (.tuple vs) i) K = K u := pv_of fun _ => by simp [ex, vN, Instr.extract, h]
@[go_sem] theorem ex_0 {u z : Value} : pv (ex (.tuple #[u, z]) 0) K = K u := ex_r rfl
@[go_sem] theorem ex_1 {u z : Value} : pv (ex (.tuple #[u, z]) 1) K = K z := ex_r rfl
end bin
end rules
section heap
variable {w w' : World} {b : Nat} {cs : Array Value} {t : TypeId} {ob : Obj}
theorem blk_new (h : b = w.heap.size) : blk (w.alloc (.cells cs t)) b = some cs := by subst h; unfold blk; rw [heap_alloc_new]
theorem blk_old (h : b < w.heap.size) : blk (w.alloc ob) b = blk w b := by unfold blk; rw [heap_alloc_old w ob h]
theorem blk0_new (h : b = w.heap.size) : blk0 (w.alloc (.cells cs t)) b = some cs := by subst h; unfold blk0; rw [heap_alloc_new]; rfl
theorem blk0_old (h : b < w.heap.size) : blk0 (w.alloc ob) b = blk0 w b := by unfold blk0; rw [heap_alloc_old w ob h]
theorem blk_of0 (h : blk0 w b = some cs) : blk w b = some cs := by
  unfold blk0 at h; unfold blk
  split at h
  · rename_i hh; rw [hh]; exact h
  · cases h
@[go_sem] theorem blk_drew : blk w.drew b = blk w b := rfl
@[go_sem] theorem blk0_drew : blk0 w.drew b = blk0 w b := rfl
theorem blk0_lt (h : blk0 w b = some cs) : b < w.heap.size := by
  unfold blk0 at h
  split at h
  · rename_i hh; exact (Array.getElem?_eq_some_iff.1 hh).1
  · cases h
theorem blk_lt (h : blk w b = some cs) : b < w.heap.size := by
  unfold blk at h
  split at h
  · rename_i hh; exact (Array.getElem?_eq_some_iff.1 hh).1
  · cases h
/-- all that w has w' has, as it was -/
abbrev Ext (w w' : World) : Prop := Go.RowKit.Below w.heap.size w w'
theorem Ext.heap (h : Ext w w') (hb : b < w.heap.size) : w'.heap[b]? = w.heap[b]? := h.block b hb
theorem Ext.blk (h : Ext w w') (hb : b < w.heap.size) : blk w' b = blk w b := by unfold Go.Proofs.Ytbkgijnmckchbaa.blk; rw [h.block b hb]
theorem Ext.blk0 (h : Ext w w') (hb : b < w.heap.size) : blk0 w' b = blk0 w b := by unfold Go.Proofs.Ytbkgijnmckchbaa.blk0; rw [h.block b hb]
theorem Ext.blkS (h : Ext w w') (hb : Go.Proofs.Ytbkgijnmckchbaa.blk w b = some cs) : Go.Proofs.Ytbkgijnmckchbaa.blk w' b = some cs := by rw [h.blk (blk_lt hb)]; exact hb
theorem Ext.refl (w : World) : Ext w w := Go.RowKit.Below.refl _ _
theorem Ext.tr {w1 w2 w3 : World} (h : Ext w1 w2) (k : Ext w2 w3) : Ext w1 w3 := Go.RowKit.Below.trans h (k.mono h.size)
theorem Ext.alloc {w1 : World} (h : Ext w w1) (ob : Obj) : Ext w (w1.alloc ob) := Go.RowKit.Below.alloc h h.size ob
theorem Ext.drew {w1 : World} (h : Ext w w1) : Ext w w1.drew := Go.RowKit.Below.drew h
/-- a store into a block of one's own -/
theorem Ext.setRow {w1 : World} (h : Ext w w1) (hb : w.heap.size ≤ b) (cs : Array Value) : Ext w (w1.setRow b cs) :=
  Go.RowKit.Below.trans h ⟨rfl, rfl, rfl, by simp, fun k hk => by
    simp only [World.setRow, Array.getElem?_modify]
    rw [if_neg (by omega)]⟩
theorem setRow_new {cs' : Array Value} (h : b = w.heap.size) : (w.alloc (.cells cs t)).setRow b cs' = w.alloc (.cells cs' t) := by
  subst h
  unfold World.setRow World.alloc
  congr 1
  apply Array.ext
  · simp
  · intro i h1 h2
    rw [Array.getElem_modify]
    simp only [Array.getElem_push]
    by_cases hi : i < w.heap.size
    · simp [hi, Nat.ne_of_gt hi]
    · have : i = w.heap.size := by simp at h2; omega
      subst this
      simp
theorem setRow_old {cs' : Array Value} (h : b < w.heap.size) : (w.alloc ob).setRow b cs' = (w.setRow b cs').alloc ob := by
  unfold World.setRow World.alloc
  congr 1
  apply Array.ext
  · simp
  · intro i h1 h2
    rw [Array.getElem_modify]
    simp only [Array.getElem_push, Array.size_modify]
    by_cases hi : i < w.heap.size
    · simp only [hi, dif_pos, Array.getElem_modify]
    · have : i = w.heap.size := by simp at h2; omega
      subst this
      simp [Nat.ne_of_lt h]
theorem setRow_drew {cs' : Array Value} : w.drew.setRow b cs' = (w.setRow b cs').drew := rfl
theorem blk_set {cs' : Array Value} (h : blk w b = some cs) : blk (w.setRow b cs') b = some cs' := by
  unfold blk at h ⊢
  split at h
  · rename_i hh; rw [setRow_heap _ _ _ _ _ _ hh]
  · cases h
theorem blk0_set {cs' : Array Value} (h : blk0 w b = some cs) : blk0 (w.setRow b cs') b = some cs' := by
  unfold blk0 at h ⊢
  split at h
  · rename_i hh; rw [setRow_heap _ _ _ _ _ _ hh]; rfl
  · cases h
theorem blk_set_ne {b' : Nat} {cs' : Array Value} (h : b' ≠ b) : blk (w.setRow b cs') b' = blk w b' := by
  unfold blk; rw [setRow_other _ _ _ _ h]
theorem blk0_set_ne {b' : Nat} {cs' : Array Value} (h : b' ≠ b) : blk0 (w.setRow b cs') b' = blk0 w b' := by
  unfold blk0; rw [setRow_other _ _ _ _ h]
@[go_sem] theorem blk_setS {cs' : Array Value} : blk (w.setRow b cs') b = (blk w b).bind fun _ => some cs' := by
  cases h : blk w b with
  | some cs => rw [blk_set h]; rfl
  | none =>
    unfold blk at h ⊢
    simp only [World.setRow, Array.getElem?_modify, if_pos]
    cases hh : w.heap[b]? with
    | none => rfl
    | some ob => rw [hh] at h; cases ob <;> simp at h ⊢
@[go_sem] theorem blk0_setS {cs' : Array Value} : blk0 (w.setRow b cs') b = (blk0 w b).bind fun _ => some cs' := by
  cases h : blk0 w b with
  | some cs => rw [blk0_set h]; rfl
  | none =>
    unfold blk0 at h ⊢
    simp only [World.setRow, Array.getElem?_modify, if_pos]
    cases hh : w.heap[b]? with
    | none => rfl
    | some ob =>
      rw [hh] at h
      cases ob with
      | cells c t f => simp at h ⊢; split at h <;> simp_all
      | _ => simp
end heap
attribute [go_sem] List.drop_succ_cons List.drop_zero List.take_succ_cons List.take_zero blk_set_ne blk0_set_ne World.size_alloc size_setRow blk_new blk_old blk0_new blk0_old setRow_new setRow_old setRow_drew Option.bind_some Nat.zero_add Nat.add_zero List.getElem?_toArray List.getElem?_cons_zero List.getElem?_cons_succ cells_agg cells_int cells_ptr cells_slice cells_bool cells_string cells_func cells_map
  List.size_toArray List.length_cons List.length_nil List.setIfInBounds_toArray List.set_cons_zero List.set_cons_succ true_and and_true List.size_toArray Bool.and_self Bool.true_and Bool.true_or Bool.or_true Bool.or_false Bool.false_or Bool.and_true Bool.and_false Bool.false_and Bool.not_true Bool.not_false decide_true decide_false
end Go.Proofs.Ytbkgijnmckchbaa
