/- The library of steps for the walks: one lemma for each kind of operation, regions that draw their order, joins. No conditions. -/
import Derived.Tactics2
import Derived.OrdersHeld
import Derived.BigCall
import Derived.Below
import Derived.Laws.AppendOwn
import Derived.Deep.LoopGhost
import Derived.KernelRfl
import Derived.Laws.Cells
import Derived.Laws.CopyRow
import Derived.Laws.MakeOwn
import Derived.Laws.OwnMore
import Derived.Maps.AppendAt
import Derived.ChangeKeysEq
import Derived.Laws.StructEq
namespace Go.Proofs.Ytoogcdmdbogkeaa.G
open Go Go.RowKit

/-! ## 1. What is known of the temporaries: a list, the newest first -/
abbrev Env := List (Nat × Value)
def Env.get : Env → Nat → Option Value
  | [], _ => none
  | (i, v) :: r, t => bif Nat.beq i t then some v else Env.get r t
structure Has (n : Nat) (E : Env) (a : Act) : Prop where
  size : a.tmps.size = n
  dfr : a.defers = []
  get : ∀ t v, Env.get E t = some v → a.tmps.getD t undef = v
def ev (E : Env) : Operand → Option Value
  | .tmp t => Env.get E t
  | .const v => some v
  | .global g => some (.pointer (some ⟨g, 0, none⟩))
  | .func f => some (.func (.func f) #[] #[])
variable {P : Program} {n : Nat} {E : Env} {a : Act} {w w' : World} {ops : Array Oper} {Q : Exit → Act → World → Prop} {rest : List Oper} {C : Act → World → Prop}

theorem beq_ne {i j : Nat} (h : ¬ i = j) : Nat.beq i j = false := by
  cases e : Nat.beq i j with
  | false => rfl
  | true => exact absurd (Nat.eq_of_beq_eq_true e) h
theorem Has.ev (h : Has n E a) {x : Operand} {v : Value} (hx : ev E x = some v) : a.eval x = v := by
  cases x with
  | tmp t => exact h.get t v hx
  | const u => exact Option.some.inj hx
  | global g => exact Option.some.inj hx
  | func f => exact Option.some.inj hx
theorem Has.put (h : Has n E a) {d : Nat} (hd : d < n) (v : Value) : Has n ((d, v) :: E) (a.put (some d) v) := by
  refine ⟨by simp [Act.put, h.size], by simp [Act.put, h.dfr], fun t u ht => ?_⟩
  simp only [Env.get] at ht
  by_cases e : d = t
  · subst e
    simp only [Nat.beq_refl, cond_true, Option.some.injEq] at ht
    subst ht
    have : d < a.tmps.size := by rw [h.size]; exact hd
    simp [Act.put, this]
  · have hb := beq_ne e
    rw [hb] at ht
    have := h.get t u ht
    simpa [Act.put, Array.getElem?_setIfInBounds_ne e] using this
/-- More of what holds: an entry whose value is equal to another one's. -/
theorem Has.re (h : Has n E a) {t : Nat} {v u : Value} (ht : Env.get E t = some v) (e : v = u) : Has n ((t, u) :: E) a := by
  subst e
  refine ⟨h.size, h.dfr, fun s x hs => ?_⟩
  simp only [Env.get] at hs
  by_cases e : t = s
  · subst e
    simp only [Nat.beq_refl, cond_true, Option.some.injEq] at hs
    subst hs
    exact h.get t v ht
  · have hb := beq_ne e
    rw [hb] at hs
    exact h.get s x hs
theorem Has.nil (h : Has n E a) : Has n [] a := ⟨h.size, h.dfr, fun _ _ h => by cases h⟩
theorem Has.cons {E' : Env} (h : Has n E' a) {t : Nat} {v : Value} (hv : a.tmps.getD t undef = v) : Has n ((t, v) :: E') a := by
  refine ⟨h.size, h.dfr, fun s x hs => ?_⟩
  simp only [Env.get] at hs
  by_cases e : t = s
  · subst e
    simp only [Nat.beq_refl, cond_true, Option.some.injEq] at hs
    subst hs
    exact hv
  · have hb := beq_ne e
    rw [hb] at hs
    exact h.get s x hs

/-! ## 2. One operation, what follows behind C -/
def Go1 (P : Program) (ops : Array Oper) (Q : Exit → Act → World → Prop) (o : Oper) (C : Act → World → Prop) (a : Act) (w : World) : Prop :=
  if Region.wanted o (yielded ops a.tmps) then o.wp P a w C Q ∨ (o.asks P a w ∧ LetsOut Q) else C (a.put o.dst undef) w
theorem Go1.plain {o : Oper} (hg : o.guard = none) (h : o.wp P a w C Q) : Go1 P ops Q o C a w := by
  unfold Go1
  rw [if_pos (by simp [Region.wanted, hg])]
  exact .inl h
/-- in the order of the text -/
theorem L1 {o : Oper} (h : Go1 P ops Q o (wpList P ops Q rest) a w) : wpList P ops Q (o :: rest) a w := h
theorem stv {d : Nat} {op : Op} {ty : TypeId} {pos : String} {af : Array Edge} {v : Value} (hA : Has n E a) (hd : d < n)
    (hrun : (execOp a.eval ⟨some d, op, ty, pos, af, none⟩).run P w = .ok (.value v) w')
    (K : ∀ a', Has n ((d, v) :: E) a' → C a' w') : Go1 P ops Q ⟨some d, op, ty, pos, af, none⟩ C a w := by
  refine Go1.plain rfl ?_
  unfold Oper.wp
  rw [hrun]
  exact K _ (hA.put hd v)
/-- No temporary is written: a store. -/
theorem sts {op : Op} {ty : TypeId} {pos : String} {af : Array Edge} (hA : Has n E a)
    (hrun : (execOp a.eval ⟨none, op, ty, pos, af, none⟩).run P w = .ok .skip w')
    (K : ∀ a', Has n E a' → C a' w') : Go1 P ops Q ⟨none, op, ty, pos, af, none⟩ C a w := by
  refine Go1.plain rfl ?_
  unfold Oper.wp
  rw [hrun]
  exact K _ hA
/-- A guard that is met, one that is not. -/
theorem gate_on {o : Oper} {j d : Nat} {b : Bool} (hg : o.guard = some (j, b)) (hj : (ops[j]?).bind (·.dst) = some d) (hA : Has n E a) (hd : d < n) (hb : Env.get E d = some (.bool b))
    (h : Go1 P ops Q { o with guard := none } C a w) : Go1 P ops Q o C a w := by
  have hy : yielded ops a.tmps j = some b := by
    have h1 := hA.get d _ hb
    have h2 : d < a.tmps.size := by rw [hA.size]; exact hd
    have h3 : a.tmps[d]? = some (.bool b) := by
      rw [Array.getElem?_eq_getElem h2]
      congr 1
      simpa [h2] using h1
    unfold yielded
    rw [hj]
    simp [h3]
  have h1 : Region.wanted o (yielded ops a.tmps) = true := by simp [Region.wanted, hg, hy]
  have h2 : Region.wanted { o with guard := none } (yielded ops a.tmps) = true := rfl
  unfold Go1 at h ⊢
  rw [if_pos h1]
  rw [if_pos h2] at h
  exact h
theorem gate_off {dst : Option Tmp} {op : Op} {ty : TypeId} {pos : String} {af : Array Edge} {j d e : Nat} {b c : Bool} (hd' : dst = some e) (he : e < n) (hj : (ops[j]?).bind (·.dst) = some d) (hA : Has n E a) (hd : d < n) (hb : Env.get E d = some (.bool c)) (hne : (c == b) = false)
    (K : ∀ a', Has n ((e, undef) :: E) a' → C a' w) : Go1 P ops Q ⟨dst, op, ty, pos, af, some (j, b)⟩ C a w := by
  have hy : yielded ops a.tmps j = some c := by
    have h1 := hA.get d _ hb
    have h2 : d < a.tmps.size := by rw [hA.size]; exact hd
    have h3 : a.tmps[d]? = some (.bool c) := by
      rw [Array.getElem?_eq_getElem h2]
      congr 1
      simpa [h2] using h1
    unfold yielded
    rw [hj]
    simp [h3]
  have h1 : Region.wanted (⟨dst, op, ty, pos, af, some (j, b)⟩ : Oper) (yielded ops a.tmps) = false := by simpa [Region.wanted, hy] using hne
  subst hd'
  unfold Go1
  rw [if_neg (by rw [h1]; exact Bool.noConfusion)]
  exact K _ (hA.put he undef)

/-! ## 3. Entering and leaving a function; tests -/
theorem enter {f : FuncId} {fn : Func} {c : Code} {args : Array Value} {R : Ending → World → Prop} (E0 : Env) (hf : P.funcs[f]? = some fn) (hb : fn.body = some c) (hn : fn.ntmps = n) (hs : args.size ≤ n)
    (hE : ∀ t v, Env.get E0 t = some v → args[t]? = some v)
    (h : ∀ a, Has n E0 a → c.wp P (bodyPost P fn R) a w) : Calls P f args w R := by
  refine calls_of_wp hf hb (h _ ⟨by simp [hn]; omega, rfl, fun t v ht => ?_⟩)
  have h1 := hE t v ht
  have h2 : t < args.size := by
    rcases Nat.lt_or_ge t args.size with h | h
    · exact h
    · rw [Array.getElem?_eq_none h] at h1; cases h1
  simp [Array.getElem?_append_left h2, h1]
theorem ret1 {fn : Func} {R : Ending → World → Prop} {t : Nat} {v : Value} (hA : Has n E a) (hr : fn.results = #[.tmp t]) (hv : Env.get E t = some v) (h : R (.returned v) w) : Code.ret.wp P (bodyPost P fn R) a w := by
  refine wp_ret ⟨hA.dfr, v, ?_, h⟩
  have := hA.get t v hv
  simp at this
  simp [results, hr, this]
theorem tcond {c : Operand} {x y : Code} {b : Bool} (hA : Has n E a) (hc : ev E c = some (.bool b)) (ht : b = true → x.wp P Q a w) (hf : b = false → y.wp P Q a w) : (Code.cond c x y).wp P Q a w :=
  wp_cond_split (hA.ev hc) ht hf

/-! ## 4. Operations that only compute -/
section
variable {d : Nat} {ty : TypeId} {pos : String} {af : Array Edge} {k : IntKind} {x y : Operand} {t yt : TypeId} {m l : Int} {v u : Value}
theorem run_move (hx : a.eval x = v) : (execOp a.eval ⟨some d, .move x, ty, pos, af, none⟩).run P w = .ok (.value v) w := by rw [← hx]; rfl
theorem run_assign (hx : a.eval x = v) : (execOp a.eval ⟨some d, .assign x, ty, pos, af, none⟩).run P w = .ok (.value v) w := by rw [← hx]; rfl
theorem run_pick {c : Operand} {b : Bool} (hc : a.eval c = .bool b) (hx : b = true → a.eval x = v) (hy : b = false → a.eval y = v) : (execOp a.eval ⟨some d, .pick c x y, ty, pos, af, none⟩).run P w = .ok (.value v) w := by
  cases b with
  | true => have h2 := hx rfl; simp [execOp, hc, asBool, h2]
  | false => have h2 := hy rfl; simp [execOp, hc, asBool, h2]
theorem run_shl {k' : IntKind} (hx : a.eval x = .int k m) (hy : a.eval y = .int k' l) (h0 : 0 ≤ l) : (execOp a.eval ⟨some d, .binOp .shl t x y yt, ty, pos, af, none⟩).run P w = .ok (.value (.int k (k.wrap (m * 2 ^ (min l.toNat k.bits))))) w := by
  have h3 : ¬ l < 0 := by omega
  simp [execOp, hx, hy, binOp, Op.shift, h3, eqGuard]
theorem run_shr {k' : IntKind} (hx : a.eval x = .int k m) (hy : a.eval y = .int k' l) (h0 : 0 ≤ l) : (execOp a.eval ⟨some d, .binOp .shr t x y yt, ty, pos, af, none⟩).run P w = .ok (.value (.int k (m.fdiv (2 ^ (min l.toNat k.bits))))) w := by
  have h3 : ¬ l < 0 := by omega
  simp [execOp, hx, hy, binOp, Op.shift, h3, eqGuard]
theorem run_not {b : Bool} (hx : a.eval x = .bool b) : (execOp a.eval ⟨some d, .unOp .not t x, ty, pos, af, none⟩).run P w = .ok (.value (.bool (!b))) w := by
  simp [execOp, hx, Op.unary]
theorem run_neg (hx : a.eval x = .int k m) : (execOp a.eval ⟨some d, .unOp .neg t x, ty, pos, af, none⟩).run P w = .ok (.value (.int k (k.wrap (0 - m)))) w := by
  simp [execOp, hx, Op.unary, Op.intArith]
theorem run_conv {src dst : TypeId} {ds : TypeDesc} {k' : IntKind} (hs : P.underlying src = some ds) (ht : P.underlying dst = some (.int k')) (hx : a.eval x = .int k m) :
    (execOp a.eval ⟨some d, .convert src dst x, ty, pos, af, none⟩).run P w = .ok (.value (.int k' (k'.wrap m))) w := by
  simp only [execOp, hx, convert, Sem.run_bind, run_underlying hs, run_underlying ht, Result.andThen_ok]
  cases ds <;> simp [Conv.intToInt]
theorem run_ext {vs : Array Value} {i : Nat} (hx : a.eval x = .tuple vs) (hi : vs[i]? = some v) : (execOp a.eval ⟨some d, .extract x i, ty, pos, af, none⟩).run P w = .ok (.value v) w := by
  simp [execOp, hx, Instr.extract, hi]
theorem run_len_slice {e : TypeId} {A : Option Addr} {c q : Nat} (ht : P.underlying t = some (.slice e)) (hx : a.eval x = .slice A q c) :
    (execOp a.eval ⟨some d, .call { callee := .builtin .len, args := #[x], argTypes := #[t] }, ty, pos, af, none⟩).run P w = .ok (.value (.int .i64 (q : Int))) w := by
  simp [execOp, resolve, invoke, builtin, Builtin.len_, hx, run_underlying ht, goInt]
theorem run_len_str {s : ByteArray} (ht : P.underlying t = some .string) (hx : a.eval x = .string s) :
    (execOp a.eval ⟨some d, .call { callee := .builtin .len, args := #[x], argTypes := #[t] }, ty, pos, af, none⟩).run P w = .ok (.value (.int .i64 (s.size : Int))) w := by
  simp [execOp, resolve, invoke, builtin, Builtin.len_, hx, run_underlying ht, goInt]
theorem run_min (hx : a.eval x = .int k m) (hy : a.eval y = .int k l) {ats : Array TypeId} :
    (execOp a.eval ⟨some d, .call { callee := .builtin .min, args := #[x, y], argTypes := ats }, ty, pos, af, none⟩).run P w = .ok (.value (.int k (if l < m then l else m))) w := by
  simp [execOp, resolve, invoke, builtin, Builtin.min_, Builtin.min2, hx, hy]
theorem run_max (hx : a.eval x = .int k m) (hy : a.eval y = .int k l) {ats : Array TypeId} :
    (execOp a.eval ⟨some d, .call { callee := .builtin .max, args := #[x, y], argTypes := ats }, ty, pos, af, none⟩).run P w = .ok (.value (.int k (if l > m then l else m))) w := by
  simp [execOp, resolve, invoke, builtin, Builtin.max_, Builtin.max2, hx, hy]
theorem run_eqbool {b c : Bool} (ht : P.underlying t = some .bool) (hx : a.eval x = .bool b) (hy : a.eval y = .bool c) :
    (execOp a.eval ⟨some d, .binOp .eql t x y yt, ty, pos, af, none⟩).run P w = .ok (.value (.bool (b == c))) w := by
  simp [execOp, hx, hy, eqGuard, binOp, Op.equal, Op.maxDepth, run_equalIn_bool' w 9999 t b c ht]
theorem run_nebool {b c : Bool} (ht : P.underlying t = some .bool) (hx : a.eval x = .bool b) (hy : a.eval y = .bool c) :
    (execOp a.eval ⟨some d, .binOp .neq t x y yt, ty, pos, af, none⟩).run P w = .ok (.value (.bool (!(b == c)))) w := by
  simp [execOp, hx, hy, eqGuard, binOp, Op.equal, Op.maxDepth, run_equalIn_bool' w 9999 t b c ht]
theorem run_eqstr {b c : ByteArray} (hx : a.eval x = .string b) (hy : a.eval y = .string c) :
    (execOp a.eval ⟨some d, .binOp .eql t x y yt, ty, pos, af, none⟩).run P w = .ok (.value (.bool (b.toList == c.toList))) w := by
  simp [execOp, hx, hy, eqGuard, binOp, Op.stringOp]
theorem run_nestr {b c : ByteArray} (hx : a.eval x = .string b) (hy : a.eval y = .string c) :
    (execOp a.eval ⟨some d, .binOp .neq t x y yt, ty, pos, af, none⟩).run P w = .ok (.value (.bool (!(b.toList == c.toList)))) w := by
  simp [execOp, hx, hy, eqGuard, binOp, Op.stringOp]
theorem eqNil (d' : Nat) {t e : TypeId} (ht : P.underlying t = some (.slice e)) (A : Option Addr) (q c : Nat) (w : World) : (Op.equalIn (d' + 1) t (.slice A q c) (.slice none 0 0)).run P w = .ok A.isNone w := by
  cases A with
  | none => simp only [Op.equalIn, Sem.run_bind, run_underlying ht, Result.andThen_ok]; rfl
  | some a => simp only [Op.equalIn, Sem.run_bind, run_underlying ht, Result.andThen_ok]; rfl
theorem run_isnil {A : Option Addr} {q c : Nat} {e : TypeId} (ht : P.underlying t = some (.slice e)) (hx : a.eval x = .slice A q c) (hy : a.eval y = .slice none 0 0) :
    (execOp a.eval ⟨some d, .binOp .eql t x y yt, ty, pos, af, none⟩).run P w = .ok (.value (.bool A.isNone)) w := by
  simp [execOp, hx, hy, eqGuard, binOp, Op.equal, Op.maxDepth, eqNil (P := P) 9999 ht A q c w]
theorem run_fn {fn : Fn} {fs cs : Array Operand} {us vs : Array Value} (hf : fs.map a.eval = us) (hc : cs.map a.eval = vs) : (execOp a.eval ⟨some d, .makeFunc fn fs cs, ty, pos, af, none⟩).run P w = .ok (.value (.func fn us vs)) w := by
  subst hf; subst hc
  simp [execOp, Instr.makeFunc]
theorem st_move (hA : Has n E a) (hx : ev E x = some v) (hd : d < n) (K : ∀ a', Has n ((d, v) :: E) a' → C a' w) : Go1 P ops Q ⟨some d, .move x, ty, pos, af, none⟩ C a w :=
  stv hA hd (by rw [← hA.ev hx]; rfl) K
theorem st_assign (hA : Has n E a) (hx : ev E x = some v) (hd : d < n) (K : ∀ a', Has n ((d, v) :: E) a' → C a' w) : Go1 P ops Q ⟨some d, .assign x, ty, pos, af, none⟩ C a w :=
  stv hA hd (by rw [← hA.ev hx]; rfl) K
theorem st_pick {c : Operand} {b : Bool} {vx : Value} (hA : Has n E a) (hc : ev E c = some (.bool b)) (hx : b = true → ev E x = some vx) (hy : b = false → ev E y = some vx) (hd : d < n) (K : ∀ a', Has n ((d, vx) :: E) a' → C a' w) : Go1 P ops Q ⟨some d, .pick c x y, ty, pos, af, none⟩ C a w := by
  refine stv hA hd ?_ K
  have h1 := hA.ev hc
  cases b with
  | true => have h2 := hA.ev (hx rfl); simp [execOp, h1, asBool, h2]
  | false => have h2 := hA.ev (hy rfl); simp [execOp, h1, asBool, h2]
theorem run_bin {op : BinOp} (hx : a.eval x = .int k m) (hy : a.eval y = .int k l) (hr : (binOp op t (.int k m) (.int k l)).run P w = .ok v w) :
    (execOp a.eval ⟨some d, .binOp op t x y yt, ty, pos, af, none⟩).run P w = .ok (.value v) w := by
  have hq : (eqGuard op t x y (.int k m) (.int k l)).run P w = .ok () w := by
    unfold eqGuard
    cases op <;> rfl
  simp only [execOp, hx, hy, Sem.run_bind, hq, hr, Result.andThen_ok, Sem.run_pure]
theorem st_int {op : BinOp} (hA : Has n E a) (hx : ev E x = some (.int k m)) (hy : ev E y = some (.int k l)) (hd : d < n) (hr : (binOp op t (.int k m) (.int k l)).run P w = .ok v w)
    (K : ∀ a', Has n ((d, v) :: E) a' → C a' w) : Go1 P ops Q ⟨some d, .binOp op t x y yt, ty, pos, af, none⟩ C a w :=
  stv hA hd (run_bin (hA.ev hx) (hA.ev hy) hr) K
end
theorem bin_add (k : IntKind) (t : TypeId) (m l : Int) : (binOp .add t (.int k m) (.int k l)).run P w = .ok (.int k (k.wrap (m + l))) w := by simp [binOp, Op.intArith]
theorem bin_sub (k : IntKind) (t : TypeId) (m l : Int) : (binOp .sub t (.int k m) (.int k l)).run P w = .ok (.int k (k.wrap (m - l))) w := by simp [binOp, Op.intArith]
theorem bin_mul (k : IntKind) (t : TypeId) (m l : Int) : (binOp .mul t (.int k m) (.int k l)).run P w = .ok (.int k (k.wrap (m * l))) w := by simp [binOp, Op.intArith]
theorem bin_quo (k : IntKind) (t : TypeId) (m l : Int) (h : ¬ l = 0) : (binOp .quo t (.int k m) (.int k l)).run P w = .ok (.int k (k.wrap (m.tdiv l))) w := by simp [binOp, Op.intDiv, h]
theorem bin_rem (k : IntKind) (t : TypeId) (m l : Int) (h : ¬ l = 0) : (binOp .rem t (.int k m) (.int k l)).run P w = .ok (.int k (m.tmod l)) w := by simp [binOp, Op.intDiv, h]
def iand (k : IntKind) (x y : Int) : Int := k.wrap (BitVec.ofInt k.bits x &&& BitVec.ofInt k.bits y).toNat
def ior (k : IntKind) (x y : Int) : Int := k.wrap (BitVec.ofInt k.bits x ||| BitVec.ofInt k.bits y).toNat
def ixor (k : IntKind) (x y : Int) : Int := k.wrap (BitVec.ofInt k.bits x ^^^ BitVec.ofInt k.bits y).toNat
def iandnot (k : IntKind) (x y : Int) : Int := k.wrap (BitVec.ofInt k.bits x &&& ~~~ BitVec.ofInt k.bits y).toNat
def ishl (k : IntKind) (x y : Int) : Int := k.wrap (x * 2 ^ (min y.toNat k.bits))
def ishr (k : IntKind) (x y : Int) : Int := x.fdiv (2 ^ (min y.toNat k.bits))
theorem bin_and (k : IntKind) (t : TypeId) (m l : Int) : (binOp .and t (.int k m) (.int k l)).run P w = .ok (.int k (iand k m l)) w := by simp [binOp, Op.intBits, iand]
theorem bin_or (k : IntKind) (t : TypeId) (m l : Int) : (binOp .or t (.int k m) (.int k l)).run P w = .ok (.int k (ior k m l)) w := by simp [binOp, Op.intBits, ior]
theorem bin_xor (k : IntKind) (t : TypeId) (m l : Int) : (binOp .xor t (.int k m) (.int k l)).run P w = .ok (.int k (ixor k m l)) w := by simp [binOp, Op.intBits, ixor]
theorem bin_andNot (k : IntKind) (t : TypeId) (m l : Int) : (binOp .andNot t (.int k m) (.int k l)).run P w = .ok (.int k (iandnot k m l)) w := by simp [binOp, Op.intBits, iandnot]
theorem bin_eql (k : IntKind) (t : TypeId) (m l : Int) : (binOp .eql t (.int k m) (.int k l)).run P w = .ok (.bool (m == l)) w := by simp [binOp, Op.intCmp]
theorem bin_neq (k : IntKind) (t : TypeId) (m l : Int) : (binOp .neq t (.int k m) (.int k l)).run P w = .ok (.bool (m != l)) w := by simp [binOp, Op.intCmp]
theorem bin_lss (k : IntKind) (t : TypeId) (m l : Int) : (binOp .lss t (.int k m) (.int k l)).run P w = .ok (.bool (decide (m < l))) w := by simp [binOp, Op.intCmp]
theorem bin_leq (k : IntKind) (t : TypeId) (m l : Int) : (binOp .leq t (.int k m) (.int k l)).run P w = .ok (.bool (decide (m ≤ l))) w := by simp [binOp, Op.intCmp]
theorem bin_gtr (k : IntKind) (t : TypeId) (m l : Int) : (binOp .gtr t (.int k m) (.int k l)).run P w = .ok (.bool (decide (m > l))) w := by simp [binOp, Op.intCmp]
theorem bin_geq (k : IntKind) (t : TypeId) (m l : Int) : (binOp .geq t (.int k m) (.int k l)).run P w = .ok (.bool (decide (m ≥ l))) w := by simp [binOp, Op.intCmp]
section
variable {d : Nat} {ty : TypeId} {pos : String} {af : Array Edge} {k : IntKind} {x y : Operand} {t yt : TypeId} {m l : Int} {v u : Value}
/-- shifts: the counts' kind is its own. -/
theorem st_shl {k' : IntKind} (hA : Has n E a) (hx : ev E x = some (.int k m)) (hy : ev E y = some (.int k' l)) (hd : d < n) (h0 : 0 ≤ l)
    (K : ∀ a', Has n ((d, .int k (ishl k m l)) :: E) a' → C a' w) : Go1 P ops Q ⟨some d, .binOp .shl t x y yt, ty, pos, af, none⟩ C a w := by
  refine stv hA hd ?_ K
  have h1 := hA.ev hx
  have h2 := hA.ev hy
  have h3 : ¬ l < 0 := by omega
  simp [execOp, h1, h2, binOp, Op.shift, h3, eqGuard, ishl]
theorem st_shr {k' : IntKind} (hA : Has n E a) (hx : ev E x = some (.int k m)) (hy : ev E y = some (.int k' l)) (hd : d < n) (h0 : 0 ≤ l)
    (K : ∀ a', Has n ((d, .int k (ishr k m l)) :: E) a' → C a' w) : Go1 P ops Q ⟨some d, .binOp .shr t x y yt, ty, pos, af, none⟩ C a w := by
  refine stv hA hd ?_ K
  have h1 := hA.ev hx
  have h2 := hA.ev hy
  have h3 : ¬ l < 0 := by omega
  simp [execOp, h1, h2, binOp, Op.shift, h3, eqGuard, ishr]
theorem st_not {b : Bool} (hA : Has n E a) (hx : ev E x = some (.bool b)) (hd : d < n) (K : ∀ a', Has n ((d, .bool (!b)) :: E) a' → C a' w) : Go1 P ops Q ⟨some d, .unOp .not t x, ty, pos, af, none⟩ C a w := by
  refine stv hA hd ?_ K
  have h1 := hA.ev hx
  simp [execOp, h1, Op.unary]
theorem st_conv {src dst : TypeId} {ds : TypeDesc} {k' : IntKind} (hs : P.underlying src = some ds) (ht : P.underlying dst = some (.int k')) (hA : Has n E a) (hx : ev E x = some (.int k m)) (hd : d < n)
    (K : ∀ a', Has n ((d, .int k' (k'.wrap m)) :: E) a' → C a' w) : Go1 P ops Q ⟨some d, .convert src dst x, ty, pos, af, none⟩ C a w := by
  refine stv hA hd ?_ K
  have h1 := hA.ev hx
  simp only [execOp, h1, convert, Sem.run_bind, run_underlying hs, run_underlying ht, Result.andThen_ok]
  cases ds <;> simp [Conv.intToInt]
theorem st_ext {vs : Array Value} {i : Nat} (hA : Has n E a) (hx : ev E x = some (.tuple vs)) (hi : vs[i]? = some v) (hd : d < n) (K : ∀ a', Has n ((d, v) :: E) a' → C a' w) : Go1 P ops Q ⟨some d, .extract x i, ty, pos, af, none⟩ C a w := by
  refine stv hA hd ?_ K
  have h1 := hA.ev hx
  simp [execOp, h1, Instr.extract, hi]
theorem st_len_slice {e : TypeId} {A : Option Addr} {c q : Nat} (ht : P.underlying t = some (.slice e)) (hA : Has n E a) (hx : ev E x = some (.slice A q c)) (hd : d < n) (K : ∀ a', Has n ((d, .int .i64 (q : Int)) :: E) a' → C a' w) :
    Go1 P ops Q ⟨some d, .call { callee := .builtin .len, args := #[x], argTypes := #[t] }, ty, pos, af, none⟩ C a w := by
  refine stv hA hd ?_ K
  have h1 := hA.ev hx
  simp [execOp, resolve, invoke, builtin, Builtin.len_, h1, run_underlying ht, goInt]
theorem st_len_str {s : ByteArray} (ht : P.underlying t = some .string) (hA : Has n E a) (hx : ev E x = some (.string s)) (hd : d < n) (K : ∀ a', Has n ((d, .int .i64 (s.size : Int)) :: E) a' → C a' w) :
    Go1 P ops Q ⟨some d, .call { callee := .builtin .len, args := #[x], argTypes := #[t] }, ty, pos, af, none⟩ C a w := by
  refine stv hA hd ?_ K
  have h1 := hA.ev hx
  simp [execOp, resolve, invoke, builtin, Builtin.len_, h1, run_underlying ht, goInt]
/-- A call of a Go function. -/
theorem st_call {f : FuncId} {xs : Array Operand} {ats : Array TypeId} {R : Value → World → Prop} (hcall : ∀ as w, (callFunc f as).run P w = .ok (.enter f as) w) (hA : Has n E a) (args : List Value)
    (hx : xs.toList.map (ev E) = args.map some) (hd : d < n) (hc : Calls P f args.toArray w fun e w' => ∃ v, e = .returned v ∧ R v w')
    (K : ∀ v w', R v w' → ∀ a', Has n ((d, v) :: E) a' → C a' w') :
    Go1 P ops Q ⟨some d, .call { callee := .value (.func f), args := xs, argTypes := ats }, ty, pos, af, none⟩ C a w := by
  refine Go1.plain rfl ?_
  have hargs : xs.map a.eval = args.toArray := by
    apply Array.toList_inj.1
    rw [Array.toList_map]
    clear hc K hcall
    revert args
    induction xs.toList with
    | nil =>
      intro args hx
      cases args with
      | nil => rfl
      | cons _ _ => simp at hx
    | cons x xs ih =>
      intro args hx
      cases args with
      | nil => simp at hx
      | cons b args =>
        simp only [List.map_cons, List.cons.injEq] at hx
        have := ih args hx.2
        simp only [List.map_cons, hA.ev hx.1, this]
  unfold Oper.wp
  rw [execOp_call_go, hargs]
  have e : #[] ++ args.toArray ++ #[] = args.toArray := by simp
  rw [e, hcall, Oper.upon_enter]
  refine hc.mono fun e w' he => ?_
  obtain ⟨v, rfl, hR⟩ := he
  exact K v w' hR _ (hA.put hd v)
end

/-! ## 5. Memory: cells at an address, plain data, rows of them -/
def At (w : World) (ad : Addr) (cs : List Value) : Prop := ∀ (j : Nat) (v : Value), cs[j]? = some v → w.cell? (ad.add j) = some v
theorem add_add (ad : Addr) (i j : Nat) : (ad.add i).add j = ad.add (i + j) := by
  unfold Addr.add
  by_cases hi : i = 0
  · subst hi; simp
  · by_cases hj : j = 0
    · subst hj; simp
    · rw [if_neg hi, if_neg hj, if_neg (by omega)]; simp [Nat.add_assoc]
theorem add_zero (ad : Addr) : ad.add 0 = ad := rfl
theorem At.left {ad : Addr} {c1 c2 : List Value} (h : At w ad (c1 ++ c2)) : At w ad c1 := fun j v hv => by
  have hj : j < c1.length := by
    rcases Nat.lt_or_ge j c1.length with g | g
    · exact g
    · rw [List.getElem?_eq_none g] at hv; cases hv
  refine h j v ?_
  rw [List.getElem?_append_left hj]
  exact hv
theorem At.right {ad : Addr} {c1 c2 : List Value} {m : Nat} (h : At w ad (c1 ++ c2)) (hm : c1.length = m) : At w (ad.add m) c2 := fun j v hv => by
  rw [add_add]
  refine h (m + j) v ?_
  rw [List.getElem?_append_right (by omega), hm, Nat.add_sub_cancel_left]
  exact hv
theorem At.ext {ad : Addr} {cs : List Value} (h : At w ad cs) (hb : ∀ b, b < w.heap.size → w'.heap[b]? = w.heap[b]?) : At w' ad cs := fun j v hv => by
  have h1 := h j v hv
  have h2 := World.block_lt_of_cell? w _ h1
  rw [World.cell?_of_block (hb _ h2)]
  exact h1
/-- a block that is another one is written -/
theorem At.far {ad : Addr} {cs : List Value} {g : Nat} (h : At w ad cs) (hb : ∀ b, b < w.heap.size → b ≠ g → w'.heap[b]? = w.heap[b]?) (hg : ad.block ≠ g) : At w' ad cs := fun j v hv => by
  have h1 := h j v hv
  have h2 := World.block_lt_of_cell? w _ h1
  have h3 : (ad.add j).block = ad.block := by unfold Addr.add; split <;> rfl
  rw [World.cell?_of_block (hb _ h2 (by rw [h3]; exact hg))]
  exact h1
theorem At.box {g : Nat} {cs : Array Value} {T : TypeId} {fr : Nat × Nat} (h : w.heap[g]? = some (.cells cs T fr)) : At w ⟨g, 0, none⟩ cs.toList := fun j v hv => by
  have hadd : (⟨g, 0, none⟩ : Addr).add j = ⟨g, j, none⟩ := by unfold Addr.add; split <;> simp_all
  rw [hadd, cell_of_row w g j cs T fr h]
  simpa using hv

structure Pl (α : Type) where
  sz : Nat
  enc : α → List Value
  len : ∀ x, (enc x).length = sz
  one : ∀ x, ∀ u ∈ enc x, u.oneCell' = true
  pos : 0 < sz
def Pl.int (k : IntKind) : Pl Int := ⟨1, fun x => [.int k x], fun _ => rfl, fun _ u hu => by rw [List.mem_singleton.1 hu]; rfl, Nat.one_pos⟩
def Pl.bool : Pl Bool := ⟨1, fun x => [.bool x], fun _ => rfl, fun _ u hu => by rw [List.mem_singleton.1 hu]; rfl, Nat.one_pos⟩
def Pl.str : Pl ByteArray := ⟨1, fun x => [.string x], fun _ => rfl, fun _ u hu => by rw [List.mem_singleton.1 hu]; rfl, Nat.one_pos⟩
def Pl.flat {α : Type} (p : Pl α) (xs : List α) : List Value := xs.flatMap p.enc
section
variable {α : Type} {p : Pl α}
theorem Pl.flat_len (p : Pl α) (xs : List α) : (p.flat xs).length = xs.length * p.sz := by
  unfold Pl.flat
  induction xs with
  | nil => simp
  | cons x xs ih => simp only [List.flatMap_cons, List.length_append, List.length_cons, ih, p.len]; rw [Nat.succ_mul]; omega
theorem Pl.flat_one (p : Pl α) (xs : List α) : ∀ u ∈ p.flat xs, u.oneCell' = true := fun u hu => by
  obtain ⟨x, _, hx⟩ := List.mem_flatMap.1 hu
  exact p.one x u hx
theorem Pl.flat_append (p : Pl α) (xs ys : List α) : p.flat (xs ++ ys) = p.flat xs ++ p.flat ys := List.flatMap_append
theorem Pl.flat_cons (p : Pl α) (x : α) (xs : List α) : p.flat (x :: xs) = p.enc x ++ p.flat xs := List.flatMap_cons
theorem Pl.flat_one1 (p : Pl α) (x : α) : p.flat [x] = p.enc x := by simp [Pl.flat]
/-- element i -/
theorem Pl.flat_split (p : Pl α) (xs : List α) (i : Nat) (h : i < xs.length) : p.flat xs = p.flat (xs.take i) ++ (p.enc xs[i] ++ p.flat (xs.drop (i + 1))) := by
  rw [← Pl.flat_cons, ← Pl.flat_append, ← List.drop_eq_getElem_cons h, List.take_append_drop]

/-- a slice of plain data, as it is read -/
def Row (p : Pl α) (w : World) (A : Option Addr) (xs : List α) : Prop := (A = none → xs = []) ∧ ∀ ad, A = some ad → At w ad (p.flat xs)
theorem Row.ext {A : Option Addr} {xs : List α} (h : Row p w A xs) (hb : Below w.heap.size w w') : Row p w' A xs := ⟨h.1, fun ad e => (h.2 ad e).ext fun b hlt => hb.block b hlt⟩
theorem Row.nil (p : Pl α) (w : World) : Row p w none [] := ⟨fun _ => rfl, fun _ e => by cases e⟩
theorem At.elem {ad : Addr} {xs : List α} (h : At w ad (p.flat xs)) (i : Nat) (hi : i < xs.length) : At w (ad.add (i * p.sz)) (p.enc xs[i]) := by
  rw [p.flat_split xs i hi] at h
  have h1 := h.right (m := i * p.sz) (by rw [p.flat_len, List.length_take, Nat.min_eq_left (by omega)])
  exact h1.left
/-- element i, i an Int; z: what the list's reading gives outside. -/
theorem Row.elem {A : Option Addr} {xs : List α} (h : Row p w A xs) (z : α) (i : Int) (h0 : 0 ≤ i) (h1 : i < (xs.length : Int)) : ∃ ad, A = some ad ∧ At w (ad.add (i.toNat * p.sz)) (p.enc (xs.getD i.toNat z)) := by
  have hi : i.toNat < xs.length := by omega
  cases A with
  | none => rw [h.1 rfl] at h1; simp at h1; omega
  | some ad =>
    have h2 := (h.2 ad rfl).elem i.toNat hi
    refine ⟨ad, rfl, ?_⟩
    rw [List.getD_eq_getElem?_getD, List.getElem?_eq_getElem hi]
    exact h2

/-- a row of the call's own: N: the heap's size when the call began -/
def Own (p : Pl α) (e : TypeId) (N : Nat) (w : World) (v : Value) (xs : List α) : Prop := w.ownsRow N e p.sz v xs.length (p.flat xs)
theorem Own.nil (p : Pl α) (e : TypeId) (N : Nat) (w : World) : Own p e N w (.slice none 0 0) [] := World.ownsRow_nil w N e p.sz
theorem Own.form {e : TypeId} {N : Nat} {v : Value} {xs : List α} (h : Own p e N w v xs) : ∃ A c, v = .slice A xs.length c ∧ Row p w A xs ∧ xs.length ≤ c ∧ c ≤ maxLen := by
  obtain ⟨h1, h2⟩ := h
  rcases h2 with ⟨rfl, h3⟩ | ⟨g, cap, cur, rfl, hg, hh, hn, hm, hs, ht⟩
  · have : xs = [] := List.eq_nil_of_length_eq_zero h3
    subst this
    exact ⟨none, 0, rfl, Row.nil p w, Nat.le_refl _, by simp [maxLen]⟩
  · refine ⟨some ⟨g, 0, none⟩, cap, rfl, ⟨(fun e => by cases e), fun ad e => ?_⟩, hn, hm⟩
    cases e
    have hb := At.box hh
    rw [← ht]
    rw [← List.take_append_drop (xs.length * p.sz) cur.toList] at hb
    exact hb.left
theorem Own.ext {e : TypeId} {N : Nat} {v : Value} {xs : List α} (h : Own p e N w v xs) (hb : Below w.heap.size w w') : Own p e N w' v xs := by
  refine World.ownsRow.kept h (w' := w') (row := none) ⟨hb.os, hb.tape, hb.output, hb.size, fun k hk _ => hb.block k hk⟩ ?_
  cases v.ownBlock <;> simp
theorem Own.kept {e : TypeId} {N : Nat} {v : Value} {xs : List α} {row : Option Nat} (h : Own p e N w v xs) (hg : w.grownBy w' row) (hne : ∀ k, v.ownBlock = some k → some k ≠ row) : Own p e N w' v xs := by
  refine World.ownsRow.kept h hg ?_
  cases hv : v.ownBlock with
  | none => exact .inl rfl
  | some k => exact .inr (hne k hv)
theorem Own.lt {e : TypeId} {N : Nat} {v : Value} {xs : List α} (h : Own p e N w v xs) : ∀ k, v.ownBlock = some k → N ≤ k ∧ k < w.heap.size := World.ownsRow.lt h
theorem Own.base {e : TypeId} {N N' : Nat} {v : Value} {xs : List α} (h : Own p e N w v xs) (hN : N' ≤ N) : Own p e N' w v xs := by
  refine ⟨h.1, ?_⟩
  rcases h.2 with h2 | ⟨g, cap, cur, e1, hg, r⟩
  · exact .inl h2
  · exact .inr ⟨g, cap, cur, e1, Nat.le_trans hN hg, r⟩
end

/-! ## 6. Loads, addresses -/
theorem run_load1 {T : TypeId} {ad : Addr} {v : Value} (hagg : (isAgg T).run P w = .ok false w) (h : w.cell? ad = some v) : (loadVar T ad).run P w = .ok v w := by
  simp [loadVar, hagg, load, Sem.run, h]
theorem run_loadN {T : TypeId} {ad : Addr} {cs : List Value} (hagg : (isAgg T).run P w = .ok true w) (hs : (sizeOf T).run P w = .ok cs.length w) (h : At w ad cs) : (loadVar T ad).run P w = .ok (.agg cs.toArray) w := by
  have := run_loadCells_list (P := P) w ad cs h
  simp [loadVar, hagg, hs, this]
theorem run_loadP {α : Type} {p : Pl α} {T : TypeId} {ad : Addr} {x : α} (hagg : ∀ w, (isAgg T).run P w = .ok true w) (hs : ∀ w, (sizeOf T).run P w = .ok p.sz w) (h : At w ad (p.enc x)) : (loadVar T ad).run P w = .ok (.agg (p.enc x).toArray) w :=
  run_loadN (hagg w) (by rw [p.len]; exact hs w) h
theorem run_loadS {T : TypeId} {ad : Addr} {v : Value} (hagg : ∀ w, (isAgg T).run P w = .ok false w) (h : At w ad [v]) : (loadVar T ad).run P w = .ok v w :=
  run_load1 (hagg w) (h 0 v rfl)
theorem At.box' {g : Nat} {cs : List Value} {T : TypeId} {fr : Nat × Nat} (h : w.heap[g]? = some (.cells cs.toArray T fr)) : At w ⟨g, 0, none⟩ cs := At.box h
section
variable {d : Nat} {ty : TypeId} {pos : String} {af : Array Edge} {x y : Operand} {v u : Value} {T : TypeId} {ad : Addr}
theorem run_ld (hx : a.eval x = .pointer (some ad)) (hl : (loadVar T ad).run P w = .ok v w) : (execOp a.eval ⟨some d, .load T x, ty, pos, af, none⟩).run P w = .ok (.value v) w := by
  simp [execOp, hx, Instr.loadAt, Instr.sureAddr, hl]
theorem run_nilchk (hx : a.eval x = .pointer (some ad)) : (execOp a.eval ⟨some d, .nilCheck x, ty, pos, af, none⟩).run P w = .ok (.value (.pointer (some ad))) w := by
  simp [execOp, hx]
theorem st_load (hA : Has n E a) (hx : ev E x = some (.pointer (some ad))) (hd : d < n) (hl : (loadVar T ad).run P w = .ok v w) (K : ∀ a', Has n ((d, v) :: E) a' → C a' w) : Go1 P ops Q ⟨some d, .load T x, ty, pos, af, none⟩ C a w := by
  refine stv hA hd ?_ K
  have h1 := hA.ev hx
  simp [execOp, h1, Instr.loadAt, Instr.sureAddr, hl]
theorem run_field {S : TypeId} {fs : Array Field} {f : Field} {i m : Nat} (hu : P.underlying S = some (.struct fs)) (hf : fs[i]? = some f) (hs : (sizeOf f.type).run P w = .ok m w) (hm : ¬ m = 0) (hx : a.eval x = .pointer (some ad)) :
    (execOp a.eval ⟨some d, .fieldAddr S x i, ty, pos, af, none⟩).run P w = .ok (.value (.pointer (some (ad.add f.offset)))) w := by
  simp [execOp, hx, Instr.fieldAt, run_underlying hu, hf, Instr.sureAddr, fieldPlace, hs, hm]
theorem st_field {S : TypeId} {fs : Array Field} {f : Field} {i m off : Nat} (hu : P.underlying S = some (.struct fs)) (hf : fs[i]? = some f) (ho : f.offset = off) (hs : ∀ w, (sizeOf f.type).run P w = .ok m w) (hm : ¬ m = 0) (hA : Has n E a) (hx : ev E x = some (.pointer (some ad))) (hd : d < n)
    (K : ∀ a', Has n ((d, .pointer (some (ad.add off))) :: E) a' → C a' w) : Go1 P ops Q ⟨some d, .fieldAddr S x i, ty, pos, af, none⟩ C a w := by
  subst ho
  exact stv hA hd (run_field hu hf (hs w) hm (hA.ev hx)) K
theorem run_index {t e : TypeId} {k : IntKind} {i : Int} {q c m : Nat} (hu : P.underlying t = some (.slice e)) (hs : (sizeOf e).run P w = .ok m w) (hx : a.eval x = .slice (some ad) q c) (hy : a.eval y = .int k i) (h0 : 0 ≤ i) (h1 : i < (q : Int)) :
    (execOp a.eval ⟨some d, .indexAddr t x y, ty, pos, af, none⟩).run P w = .ok (.value (.pointer (some (ad.add (i.toNat * m))))) w := by
  simp [execOp, hx, hy, Instr.indexAt, asIntOf, run_underlying hu, h0, h1, hs]
theorem run_idx {t e : TypeId} {k : IntKind} {i : Int} {q c m : Nat} {A : Option Addr} (hu : P.underlying t = some (.slice e)) (hs : ∀ w, (sizeOf e).run P w = .ok m w) (hx : a.eval x = .slice A q c) (hq : A = some ad) (hy : a.eval y = .int k i) (h0 : 0 ≤ i) (h1 : i < (q : Int)) :
    (execOp a.eval ⟨some d, .indexAddr t x y, ty, pos, af, none⟩).run P w = .ok (.value (.pointer (some (ad.add (i.toNat * m))))) w := by
  subst hq
  exact run_index hu (hs w) hx hy h0 h1
theorem st_index {t e : TypeId} {k : IntKind} {i : Int} {q c m : Nat} (hu : P.underlying t = some (.slice e)) (hs : ∀ w, (sizeOf e).run P w = .ok m w) (hA : Has n E a) (hx : ev E x = some (.slice (some ad) q c)) (hy : ev E y = some (.int k i)) (h0 : 0 ≤ i) (h1 : i < (q : Int)) (hd : d < n)
    (K : ∀ a', Has n ((d, .pointer (some (ad.add (i.toNat * m)))) :: E) a' → C a' w) : Go1 P ops Q ⟨some d, .indexAddr t x y, ty, pos, af, none⟩ C a w :=
  stv hA hd (run_index hu (hs w) (hA.ev hx) (hA.ev hy) h0 h1) K
theorem st_nilcheck (hA : Has n E a) (hx : ev E x = some (.pointer (some ad))) (hd : d < n) (K : ∀ a', Has n ((d, .pointer (some ad)) :: E) a' → C a' w) : Go1 P ops Q ⟨some d, .nilCheck x, ty, pos, af, none⟩ C a w := by
  refine stv hA hd ?_ K
  have h1 := hA.ev hx
  simp [execOp, h1]
/-! ## 7. New blocks -/
theorem Below.new (w : World) (o : Obj) : Below w.heap.size w (w.alloc o) := (Below.refl _ w).alloc (Nat.le_refl _) o
theorem st_box {cs : Array Value} (hA : Has n E a) (hx : ev E x = some v) (hc : v.cells = cs) (hd : d < n)
    (K : ∀ w' g, g = w.heap.size → w'.heap.size = g + 1 → w'.heap[g]? = some (.cells cs T (0, 0)) → Below w.heap.size w w' → ∀ a', Has n ((d, .pointer (some ⟨g, 0, none⟩)) :: E) a' → C a' w') : Go1 P ops Q ⟨some d, .box T x, ty, pos, af, none⟩ C a w := by
  subst hc
  refine stv (w' := w.alloc (.cells v.cells T)) hA hd ?_ (K _ w.heap.size rfl (by simp) (heap_alloc_new w _) (Below.new w _))
  have h1 := hA.ev hx
  simp [execOp, h1, Instr.box, newVar, newRow]
theorem st_alloc {z : Value} {cs : Array Value} (hz : ∀ w, (zeroValue T).run P w = .ok z w) (hc : z.cells = cs) (hA : Has n E a) (hd : d < n)
    (K : ∀ w' g, g = w.heap.size → w'.heap.size = g + 1 → w'.heap[g]? = some (.cells cs T (0, 0)) → Below w.heap.size w w' → ∀ a', Has n ((d, .pointer (some ⟨g, 0, none⟩)) :: E) a' → C a' w') : Go1 P ops Q ⟨some d, .alloc T, ty, pos, af, none⟩ C a w := by
  subst hc
  refine stv (w' := w.alloc (.cells z.cells T)) hA hd ?_ (K _ w.heap.size rfl (by simp) (heap_alloc_new w _) (Below.new w _))
  simp [execOp, Instr.alloc, hz, newVar, newRow]
end

/-! ## 8. Parts in line; filling; stores -/
theorem At.seg {ad : Addr} {segs : List (List Value)} {s : List Value} {off : Nat} (h : At w ad segs.flatten) (i : Nat) (hi : segs[i]? = some s) (ho : (segs.take i).flatten.length = off) : At w (ad.add off) s := by
  have hl : i < segs.length := (List.getElem?_eq_some_iff.1 hi).1
  have hs : segs[i] = s := (List.getElem?_eq_some_iff.1 hi).2
  have e : segs.flatten = (segs.take i).flatten ++ (s ++ (segs.drop (i + 1)).flatten) := by
    rw [← List.flatten_cons, ← List.flatten_append, ← hs, ← List.drop_eq_getElem_cons hl, List.take_append_drop]
  rw [e] at h
  exact (h.right ho).left
def splice (cells : Array Value) (off : Nat) (c : Array Value) : Array Value := (cells.toList.take off ++ c.toList ++ cells.toList.drop (off + c.size)).toArray
theorem splice_mid (A B C : List Value) (c : Array Value) (off : Nat) (hA : A.length = off) (hB : B.length = c.size) : splice (A ++ (B ++ C)).toArray off c = (A ++ (c.toList ++ C)).toArray := by
  subst hA
  unfold splice
  have e1 : (A ++ (B ++ C)).take A.length = A := List.take_left' rfl
  have e2 : (A ++ (B ++ C)).drop (A.length + c.size) = C := by
    rw [← List.drop_drop, List.drop_left' rfl, ← hB, List.drop_left' rfl]
  simp only [e1, e2, List.append_assoc]
theorem splice_seg (segs : List (List Value)) (i : Nat) (c : Array Value) (off : Nat) {s : List Value} (hi : segs[i]? = some s) (ho : (segs.take i).flatten.length = off) (hs : s.length = c.size) : splice segs.flatten.toArray off c = (segs.set i c.toList).flatten.toArray := by
  have hl : i < segs.length := (List.getElem?_eq_some_iff.1 hi).1
  have hs' : segs[i] = s := (List.getElem?_eq_some_iff.1 hi).2
  have e : segs.flatten = (segs.take i).flatten ++ (s ++ (segs.drop (i + 1)).flatten) := by
    rw [← List.flatten_cons, ← List.flatten_append, ← hs', ← List.drop_eq_getElem_cons hl, List.take_append_drop]
  rw [e, splice_mid _ _ _ c off ho hs]
  congr 1
  rw [← List.flatten_cons, ← List.flatten_append]
  congr 1
  rw [List.set_eq_take_append_cons_drop, if_pos hl]
theorem fold_set (off : Nat) : ∀ (cs : List Value) (k : Nat) (pre suf : List Value), pre.length = off + k → cs.length ≤ suf.length →
    (cs.zipIdx k).foldl (fun (a : Array Value) (p : Value × Nat) => a.setIfInBounds (off + p.2) p.1) (pre ++ suf).toArray = (pre ++ (cs ++ suf.drop cs.length)).toArray
  | [], k, pre, suf, _, _ => by simp
  | c :: cs, k, pre, suf, hp, hl => by
    cases suf with
    | nil => simp at hl
    | cons s suf =>
      have ih := fold_set off cs (k + 1) (pre ++ [c]) suf (by simp; omega) (by simpa using hl)
      simp only [List.zipIdx_cons, List.foldl_cons]
      have e : (pre ++ s :: suf).toArray.setIfInBounds (off + k) c = (pre ++ [c] ++ suf).toArray := by
        simp [← hp]
      rw [e, ih]
      simp
theorem fill_cons {place : Nat → Option (Nat × Nat)} {cells : Array Value} {i off size : Nat} {v : Value} {rest : List (Nat × Value)} (hp : place i = some (off, size)) (hs : v.cells.size = size) (hl : off + size ≤ cells.size) :
    Instr.fill place cells ((i, v) :: rest) = Instr.fill place (splice cells off v.cells) rest := by
  subst hs
  have h1 : ¬ (v.cells.size ≠ v.cells.size ∨ off + v.cells.size > cells.size) := by omega
  have key : v.cells.zipIdx.foldl (fun (cs : Array Value) (p : Value × Nat) => cs.setIfInBounds (off + p.2) p.1) cells = splice cells off v.cells := by
    have hf := fold_set off v.cells.toList 0 (cells.toList.take off) (cells.toList.drop off) (by simp; omega) (by simp; omega)
    rw [List.take_append_drop] at hf
    have e1 : v.cells.zipIdx.foldl (fun (cs : Array Value) (p : Value × Nat) => cs.setIfInBounds (off + p.2) p.1) cells = (v.cells.toList.zipIdx 0).foldl (fun (cs : Array Value) (p : Value × Nat) => cs.setIfInBounds (off + p.2) p.1) cells.toList.toArray := by
      rw [← Array.foldl_toList]; simp
    rw [e1, hf]
    unfold splice
    simp [List.drop_drop]
  rw [Instr.fill]
  simp only [hp]
  rw [if_neg (by simpa using h1)]
  exact congrArg (fun c => Instr.fill place c rest) key
theorem fill_nil {place : Nat → Option (Nat × Nat)} {cells : Array Value} : Instr.fill place cells [] = some cells := rfl
theorem add_mk (g o off : Nat) : (⟨g, o, none⟩ : Addr).add off = ⟨g, o + off, none⟩ := by
  unfold Addr.add
  split <;> simp_all
theorem run_store {T T0 : TypeId} {g off m : Nat} {cur : Array Value} {v : Value} (hs : (sizeOf T).run P w = .ok m w) (hm : v.cells.size = m) (h1 : ∀ u ∈ v.cells.toList, u.oneCell' = true) (hg : w.heap[g]? = some (.cells cur T0 (0, 0))) (hl : off + m ≤ cur.size) :
    ∃ w', (storeVar T ⟨g, off, none⟩ v).run P w = .ok () w' ∧ w'.heap[g]? = some (.cells (splice cur off v.cells) T0 (0, 0)) ∧ w.grownBy w' (some g) ∧ w'.heap.size = w.heap.size := by
  subst hm
  refine ⟨w.setRow g (splice cur off v.cells), ?_, setRow_heap w g cur _ T0 _ hg, ⟨rfl, rfl, rfl, by simp, fun k _ hk => setRow_other w g k _ (fun e => hk (by rw [e]))⟩, by simp⟩
  have h := run_storeCells_at P g off T0 v.cells.toList 0 cur w hg (by simpa using hl) h1
  simp only [Nat.add_zero, Array.length_toList] at h
  simp only [storeVar, Sem.run_bind, hs, Result.andThen_ok, ne_eq, not_true_eq_false, if_false, h]
  rfl
section
variable {d : Nat} {ty : TypeId} {pos : String} {af : Array Edge} {x y : Operand} {v u : Value} {T : TypeId}
theorem st_store {T0 : TypeId} {ad : Addr} {g off m : Nat} {cur : Array Value} (hs : ∀ w, (sizeOf T).run P w = .ok m w) (hA : Has n E a) (hx : ev E x = some (.pointer (some ad))) (he : ad = ⟨g, off, none⟩) (hy : ev E y = some v) (hm : v.cells.size = m) (h1 : ∀ u ∈ v.cells.toList, u.oneCell' = true) (hg : w.heap[g]? = some (.cells cur T0 (0, 0))) (hl : off + m ≤ cur.size)
    (K : ∀ w', w'.heap[g]? = some (.cells (splice cur off v.cells) T0 (0, 0)) → w.grownBy w' (some g) → w'.heap.size = w.heap.size → ∀ a', Has n E a' → C a' w') : Go1 P ops Q ⟨none, .store T x y, ty, pos, af, none⟩ C a w := by
  obtain ⟨w', hr, hg', hgr, hsz⟩ := run_store (P := P) (hs w) hm h1 hg hl
  refine sts (w' := w') hA ?_ (K w' hg' hgr hsz)
  subst he
  have e1 := hA.ev hx
  have e2 := hA.ev hy
  simp [execOp, e1, e2, Instr.storeAt, Instr.sureAddr, hr]
end

/-! ## 9. append; literals -/
structure Elt {α : Type} (P : Program) (p : Pl α) (t e : TypeId) (z : Value) (bytes : Nat) : Prop where
  ht : P.underlying t = some (.slice e)
  hinfo : (P.info? e).map (fun i => (i.zero, i.size, i.bytes)) = some (some z, p.sz, bytes)
  hz : z.cells.size = p.sz
  hb : 0 < bytes
section
variable {α : Type} {p : Pl α} {t e : TypeId} {z : Value} {bytes N : Nat}
theorem Elt.info (h : Elt P p t e z bytes) : ∃ i, P.info? e = some i ∧ i.zero = some z ∧ i.size = p.sz ∧ i.bytes = bytes := by
  obtain ⟨i, hi, hz⟩ := Option.map_eq_some_iff.1 h.hinfo
  simp only [Prod.mk.injEq] at hz
  exact ⟨i, hi, hz.1, hz.2.1, hz.2.2⟩
theorem Elt.size (h : Elt P p t e z bytes) (w : World) : (sizeOf e).run P w = .ok p.sz w := by
  obtain ⟨i, hi, _, hs, _⟩ := h.info
  simp [sizeOf, typeInfo, hi, hs]
theorem run_app {ty : TypeId} {v : Value} {xs ys : List α} {A : Option Addr} {c : Nat} (h : Elt P p t e z bytes) (hO : Own p e N w v xs) (hR : Row p w A ys) (hl : (xs.length + ys.length) * bytes ≤ 140737488355328) (hN : N ≤ w.heap.size) :
    ∃ v' w', (Builtin.append_ #[t, t] ty #[v, .slice A ys.length c]).run P w = .ok v' w' ∧ Own p e N w' v' (xs ++ ys) ∧ w.grownBy w' v.ownBlock ∧ (v'.ownBlock = v.ownBlock ∨ v'.ownBlock = some w.heap.size) := by
  obtain ⟨i, hi, hz, hs, hby⟩ := h.info
  have hb := h.hb
  have hlen : xs.length + ys.length ≤ 140737488355328 := Nat.le_trans (Nat.le_mul_of_pos_right _ hb) hl
  cases A with
  | none =>
    have hy : ys = [] := hR.1 rfl
    subst hy
    obtain ⟨A', c', rfl, hrow, hle, _⟩ := hO.form
    have hr : (Builtin.append_ #[t, t] ty #[.slice A' xs.length c', .slice none 0 c]).run P w = .ok (.slice A' xs.length c') w := by
      cases A' <;> simp [Builtin.append_, run_underlying h.ht, sizeOf, typeInfo, hi, Builtin.lenOf, hle, Builtin.firstCells, storeCells]
    refine ⟨_, w, hr, by simpa using hO, ⟨rfl, rfl, rfl, Nat.le_refl _, fun _ _ _ => rfl⟩, .inl rfl⟩
  | some ad =>
    obtain ⟨v', w', hr, ho, hg, _, hat⟩ := run_append_own_at (P := P) w N t ty e i z p.sz bytes h.ht hi hz hs hby h.hz p.pos v xs.length (p.flat xs) hO ad ys.length c (p.flat ys) (p.flat_len ys) (hR.2 ad rfl) (p.flat_one ys) (by simp only [maxLen]; omega) hl hN
    refine ⟨v', w', hr, ?_, hg, hat⟩
    unfold Own
    rw [p.flat_append, List.length_append]
    exact ho
variable {d : Nat} {ty : TypeId} {pos : String} {af : Array Edge} {x y : Operand} {v : Value}
theorem eop_builtin (ρ : Operand → Value) (dst : Option Tmp) (b : Builtin) (xs : Array Operand) (ats : Array TypeId) (ty : TypeId) (pos : String) (after : Array Edge) (guard : Option (Nat × Bool)) :
    execOp ρ { dst, op := .call { callee := .builtin b, args := xs, argTypes := ats }, type := ty, pos, after, guard } = builtin b ats ty (xs.map fun | .const _ => true | _ => false) (xs.map ρ) := rfl
theorem st_append {xs ys : List α} {A : Option Addr} {c : Nat} (h : Elt P p t e z bytes) (hO : Own p e N w v xs) (hR : Row p w A ys) (hl : (xs.length + ys.length) * bytes ≤ 140737488355328) (hN : N ≤ w.heap.size) (hA : Has n E a) (hx : ev E x = some v) (hy : ev E y = some (.slice A ys.length c)) (hd : d < n)
    (K : ∀ v' w', Own p e N w' v' (xs ++ ys) → w.grownBy w' v.ownBlock → (v'.ownBlock = v.ownBlock ∨ v'.ownBlock = some w.heap.size) → ∀ a', Has n ((d, v') :: E) a' → C a' w') :
    Go1 P ops Q ⟨some d, .call { callee := .builtin .append, args := #[x, y], argTypes := #[t, t] }, ty, pos, af, none⟩ C a w := by
  obtain ⟨v', w', hr, ho, hg, hat⟩ := run_app (ty := ty) (c := c) h hO hR hl hN
  refine stv (v := v') (w' := w') hA hd ?_ (K v' w' ho hg hat)
  have e1 := hA.ev hx
  have e2 := hA.ev hy
  rw [eop_builtin]
  simp [builtin, e1, e2, hr]
/-- a literal of elements, all given in line: one element (a variadic's box), or none -/
theorem st_lit1 {x1 : α} {sty : TypeId} (h : Elt P p t e z bytes) (hs16 : p.sz ≤ 16777216) (hA : Has n E a) (hx : ev E x = some v) (hv : v.cells = (p.enc x1).toArray) (hd : d < n)
    (K : ∀ w' g, g = w.heap.size → w'.heap.size = g + 1 → Own p e w.heap.size w' (.slice (some ⟨g, 0, none⟩) 1 1) [x1] → Below w.heap.size w w' → ∀ a', Has n ((d, .slice (some ⟨g, 0, none⟩) 1 1) :: E) a' → C a' w') :
    Go1 P ops Q ⟨some d, .buildSlice t 1 #[(0, x)], sty, pos, af, none⟩ C a w := by
  obtain ⟨i, hi, hz, hs, hby⟩ := h.info
  have hlen := p.len x1
  have e1 := hA.ev hx
  refine stv (v := .slice (some ⟨w.heap.size, 0, none⟩) 1 1) (w' := w.alloc (.cells (p.enc x1).toArray e)) hA hd ?_ (K _ w.heap.size rfl (by simp) ?_ (Below.new w _))
  · have hp := p.pos
    have hf : Instr.fill (fun i => some (i * p.sz, p.sz)) ((Array.range (1 * p.sz)).map (z.cells[· % z.cells.size]!)) [(0, v)] = some (p.enc x1).toArray := by
      rw [fill_cons (off := 0) (size := p.sz) (by simp) (by rw [hv]; simp [hlen]) (by simp)]
      rw [fill_nil, hv]
      congr 1
      unfold splice
      simp [hlen]
    have h24 : ¬ (1 * p.sz > 2 ^ 24) := by omega
    have h0 : ¬ (1 * p.sz = 0) := by omega
    simp only [execOp, Instr.buildSlice, Sem.run_bind, run_underlying h.ht, Result.andThen_ok, h.size w, if_neg h24, if_neg h0, Sem.run_pure, zeroValue, typeInfo, program]
    rw [Nat.one_mul] at hf
    simp [hi, hz, e1, hf, newRow, Sem.run]
  · have ho := World.ownsRow_lit (base := w.heap.size) (size := p.sz) (e := e) w (p.enc x1).toArray 1 (Nat.le_refl _) (by simp [maxLen]) (by simp [hlen])
    unfold Own
    rw [p.flat_one1]
    simpa using ho
end

/-! ## 9b. Equality of plain data -/
def Pl.vec (n : Nat) (k : IntKind) (hn : 0 < n) : Pl (Vector Int n) := ⟨n, fun v => v.toList.map (Value.int k), fun v => by simp, fun v u hu => by obtain ⟨x, _, rfl⟩ := List.mem_map.1 hu; rfl, hn⟩
theorem eqItems_ints {e : TypeId} {k : IntKind} (d : Nat) (hagg : ∀ w, (isAgg e).run P w = .ok false w) (he : P.underlying e = some (.int k)) (xs ys : List Int) (hl : xs.length = ys.length) (w : World) :
    ∀ (js : List Nat), (∀ j ∈ js, j < xs.length) → (Op.eqItems (d + 1) e 1 (xs.map (Value.int k)).toArray (ys.map (Value.int k)).toArray js).run P w = .ok (js.all fun j => xs.getD j 0 == ys.getD j 0) w
  | [], _ => by simp [Op.eqItems]
  | j :: js, hj => by
    have hx : j < xs.length := hj j (by simp)
    have hy : j < ys.length := by omega
    have ih := eqItems_ints d hagg he xs ys hl w js (fun i hi => hj i (by simp [hi]))
    have p1 : (part e (xs.map (Value.int k)).toArray (j * 1)).run P w = .ok (.int k (xs.getD j 0)) w := by simp [part, hagg, hx]
    have p2 : (part e (ys.map (Value.int k)).toArray (j * 1)).run P w = .ok (.int k (ys.getD j 0)) w := by simp [part, hagg, hy]
    have p3 := run_equalIn_int (P := P) w d e k k (xs.getD j 0) (ys.getD j 0) he
    simp only [Op.eqItems, Sem.run_bind, p1, p2, p3, Result.andThen_ok, List.all_cons]
    cases hc : (xs.getD j 0 == ys.getD j 0) with
    | true => simp [ih]
    | false => simp
theorem eq_vec {T e : TypeId} {n : Nat} {k : IntKind} (hn : 0 < n) (d : Nat) (hu : P.underlying T = some (.array n e)) (hagg : ∀ w, (isAgg e).run P w = .ok false w) (he : P.underlying e = some (.int k)) (hc : P.cellsOf e = 1) (hi : (P.info? e).isSome = true) (x y : Vector Int n) (w : World) :
    (Op.equalIn (d + 2) T (.agg ((Pl.vec n k hn).enc x).toArray) (.agg ((Pl.vec n k hn).enc y).toArray)).run P w = .ok (x == y) w := by
  obtain ⟨i, hi⟩ := Option.isSome_iff_exists.1 hi
  rw [run_equalIn_array w (d + 1) _ _ hu hi, hc]
  have h := eqItems_ints (P := P) d hagg he x.toList y.toList (by simp) w (List.range n) (fun j hj => by simpa using hj)
  simp only [Pl.vec]
  rw [h]
  congr 1
  rw [Bool.eq_iff_iff]
  simp only [List.all_eq_true, List.mem_range, beq_iff_eq]
  constructor
  · intro h
    apply Vector.ext
    intro j hj
    have := h j hj
    simpa [hj] using this
  · rintro rfl j _
    rfl
/-- '==' and '!=' of two values of one type that is told by its parts; m: how deep the parts lie. -/
def EqOk {α : Type} (P : Program) (T : TypeId) (p : Pl α) (m : Nat) [BEq α] : Prop := ∀ (d : Nat) (x y : α) (w : World), (Op.equalIn (d + m) T (.agg (p.enc x).toArray) (.agg (p.enc y).toArray)).run P w = .ok (x == y) w
theorem run_aggeql {α : Type} [BEq α] {p : Pl α} {T yt ty : TypeId} {d m : Nat} {pos : String} {af : Array Edge} {x y : Operand} {u v : α} (h : EqOk P T p m) (hm : Nat.ble m 10000 = true) (hg : P.eqGuardType P.depth T = false) (hx : a.eval x = .agg (p.enc u).toArray) (hy : a.eval y = .agg (p.enc v).toArray) :
    (execOp a.eval ⟨some d, .binOp .eql T x y yt, ty, pos, af, none⟩).run P w = .ok (.value (.bool (u == v))) w := by
  have h1 := run_eqGuard_agg (P := P) w .eql T x y (p.enc u).toArray (p.enc v).toArray hg
  have h2 := run_eql_struct (P := P) w T (p.enc u).toArray (p.enc v).toArray
  have h3 := h (10000 - m) u v w
  rw [Nat.sub_add_cancel (Nat.le_of_ble_eq_true hm)] at h3
  rw [h3] at h2
  simp only [execOp, hx, hy, Sem.run_bind, h1, h2, Result.andThen_ok, Sem.run_pure]
theorem run_aggneq {α : Type} [BEq α] {p : Pl α} {T yt ty : TypeId} {d m : Nat} {pos : String} {af : Array Edge} {x y : Operand} {u v : α} (h : EqOk P T p m) (hm : Nat.ble m 10000 = true) (hg : P.eqGuardType P.depth T = false) (hx : a.eval x = .agg (p.enc u).toArray) (hy : a.eval y = .agg (p.enc v).toArray) :
    (execOp a.eval ⟨some d, .binOp .neq T x y yt, ty, pos, af, none⟩).run P w = .ok (.value (.bool (!(u == v)))) w := by
  have h1 := run_eqGuard_agg (P := P) w .neq T x y (p.enc u).toArray (p.enc v).toArray hg
  have h2 := run_neq_struct (P := P) w T (p.enc u).toArray (p.enc v).toArray
  have h3 := h (10000 - m) u v w
  rw [Nat.sub_add_cancel (Nat.le_of_ble_eq_true hm)] at h3
  rw [h3] at h2
  simp only [execOp, hx, hy, Sem.run_bind, h1, h2, Result.andThen_ok, Sem.run_pure]
theorem seg_split (segs : List (List Value)) (i : Nat) {s : List Value} (hi : segs[i]? = some s) : segs.flatten = (segs.take i).flatten ++ (s ++ (segs.drop (i + 1)).flatten) := by
  have hl : i < segs.length := (List.getElem?_eq_some_iff.1 hi).1
  have hs : segs[i] = s := (List.getElem?_eq_some_iff.1 hi).2
  rw [← List.flatten_cons, ← List.flatten_append, ← hs, ← List.drop_eq_getElem_cons hl, List.take_append_drop]
theorem part_agg {T : TypeId} {off m : Nat} {s : List Value} (hagg : ∀ w, (isAgg T).run P w = .ok true w) (hs : ∀ w, (sizeOf T).run P w = .ok m w) (segs : List (List Value)) (i : Nat) (hi : segs[i]? = some s) (ho : (segs.take i).flatten.length = off) (hm : s.length = m) : (part T segs.flatten.toArray off).run P w = .ok (.agg s.toArray) w := by
  have e : List.take m (List.drop off segs.flatten) = s := by
    rw [seg_split segs i hi]
    subst hm; subst ho
    rw [List.drop_left' rfl, List.take_left' rfl]
  simp [part, hagg, hs, e]
theorem part_one {T : TypeId} {off : Nat} {v : Value} (hagg : ∀ w, (isAgg T).run P w = .ok false w) (segs : List (List Value)) (i : Nat) (hi : segs[i]? = some [v]) (ho : (segs.take i).flatten.length = off) : (part T segs.flatten.toArray off).run P w = .ok v w := by
  have e : segs.flatten.toArray[off]? = some v := by
    rw [seg_split segs i hi]
    subst ho
    simp
  simp [part, hagg, e]
theorem eqf_nil {d : Nat} {xs ys : Array Value} : (Op.eqFields d xs ys []).run P w = .ok true w := by simp [Op.eqFields]
theorem eqf_cons {d : Nat} {xs ys : Array Value} {f : Field} {fs : List Field} {x y : Value} {r s : Bool} (hn : f.name ≠ "_") (hx : (part f.type xs f.offset).run P w = .ok x w) (hy : (part f.type ys f.offset).run P w = .ok y w) (he : (Op.equalIn d f.type x y).run P w = .ok r w) (h : (Op.eqFields d xs ys fs).run P w = .ok s w) : (Op.eqFields d xs ys (f :: fs)).run P w = .ok (r && s) w := by
  simp only [Op.eqFields, if_pos hn, Sem.run_bind, hx, hy, he, Result.andThen_ok]
  cases r <;> simp [h]
theorem eq_struct {T : TypeId} {fs : Array Field} {d : Nat} {xs ys : Array Value} {r : Bool} (hu : P.underlying T = some (.struct fs)) (hp : P.stoodInHeld T = false) (h : (Op.eqFields d xs ys fs.toList).run P w = .ok r w) : (Op.equalIn (d + 1) T (.agg xs) (.agg ys)).run P w = .ok r w := by
  have hf : P.fieldsOf T = fs := by simp [Program.fieldsOf, hu]
  rw [run_equalIn_struct w d T xs ys (by rw [hf]; exact hu) hp, hf]
  exact h

/-! ## 10. A region that draws its order: what yields its value in every world that meets S may be taken first. S is asked for behind each operation that is not one of the late ones, T; every other operation that is taken first stands ahead of those. -/
def noLate (T : List Nat) (L : Array Bool) : Bool := T.all fun t => !(L.getD t true)
def AnyF (P : Program) (ops : Array Oper) (Q : Exit → Act → World → Prop) (S : World → Prop) (T : List Nat) : Nat → Array Bool → Act → World → Prop
  | 0, L, a, w => Region.ready .any ops L = [] ∧ Q .normal a w
  | f + 1, L, a, w => (Region.ready .any ops L = [] → Q .normal a w) ∧
    ∀ i ∈ Region.ready .any ops L, wpOp P ops Q i (fun a' w' => (noLate T (L.setIfInBounds i true) = true → S w') ∧ AnyF P ops Q S T f (L.setIfInBounds i true) a' w') a w
theorem noLate_set {T : List Nat} {L : Array Bool} {i : Nat} (hi : T.contains i = false) (h : noLate T L = true) : noLate T (L.setIfInBounds i true) = true := by
  simp only [noLate, List.all_eq_true] at h ⊢
  intro t ht
  have hne : i ≠ t := fun e => by subst e; simp [ht] at hi
  rw [getD_set_ne true hne]
  exact h t ht
theorem noLate_of_set {T : List Nat} {L : Array Bool} {i : Nat} (h : noLate T (L.setIfInBounds i true) = true) : noLate T L = true := by
  simp only [noLate, List.all_eq_true] at h ⊢
  intro t ht
  have h1 := h t ht
  by_cases hne : i = t
  · subst hne
    by_cases hl : i < L.size
    · simp [hl] at h1
    · rw [Array.setIfInBounds_eq_of_size_le (by omega)] at h1; exact h1
  · rw [getD_set_ne true hne] at h1; exact h1
/-- every late operation waits for i -/
def lateOk (ops : Array Oper) (T : List Nat) (i : Nat) : Bool :=
  !T.contains i && T.all fun j => (ops[j]?).all fun o => o.after.any fun e => Region.binds .any e && e.on == i
section
variable {S : World → Prop} {T : List Nat}
theorem AnyF.any : ∀ (f : Nat) (L : Array Bool) (a : Act) (w : World), AnyF P ops Q S T f L a w → wpAny P .any ops Q f L a w
  | 0, _, _, _, h => h
  | f + 1, _, _, _, h => ⟨h.1, fun i hi => wpOp_mono (fun a' w' h' => AnyF.any f _ a' w' h'.2) (h.2 i hi)⟩
theorem AnyF.first {i : Nat} {o : Oper} {v : Value} (hi : ops[i]? = some o) (hT : lateOk ops T i = true) (hsel : ∀ (j : Nat) (o : Oper) cs b, ops[j]? = some o → o.op ≠ .select cs b)
    (hQ : ∀ c a w, Q (.panic c) (a.put o.dst v) w → Q (.panic c) a w) : ∀ (f : Nat) (L : Array Bool) (a : Act) (w : World),
      (∀ j oj, ops[j]? = some oj → j ≠ i → L.getD j true = false → (∀ e ∈ oj.after, Region.binds .any e = true → e.on ≠ i) → o.apart ops oj = true) →
      i ∈ Region.ready .any ops L → YieldsIf P ops S o v a → noLate T L = true → S w → AnyF P ops Q S T f (L.setIfInBounds i true) (a.put o.dst v) w → AnyF P ops Q S T (f + 1) L a w := by
  intro f
  induction f with
  | zero =>
    intro L a w _ hr hy _ hS H
    refine ⟨fun h => absurd hr (by rw [h]; exact List.not_mem_nil), fun j hj => ?_⟩
    by_cases hji : j = i
    · subst hji; exact hy.wpOp hi hS ⟨fun _ => hS, H⟩
    · exact absurd (ready_mono hj hji) (by rw [H.1]; exact List.not_mem_nil)
  | succ f ih =>
    intro L a w hfree hr hy hN hS H
    refine ⟨fun h => absurd hr (by rw [h]; exact List.not_mem_nil), fun j hj => ?_⟩
    by_cases hji : j = i
    · subst hji; exact hy.wpOp hi hS ⟨fun _ => hS, H⟩
    · have h1 := H.2 j (ready_mono hj hji)
      obtain ⟨hun, oj, hoj, hall⟩ := mem_ready.1 hj
      have hno : ∀ e ∈ oj.after, Region.binds .any e = true → e.on ≠ i := fun e he hb heq => by
        have h2 := hall e he hb
        have h3 := (mem_ready.1 hr).1
        rw [heq] at h2
        rcases Nat.lt_or_ge i L.size with hlt | hge
        · simp [hlt] at h2 h3; rw [h3] at h2; cases h2
        · simp [Array.getElem?_eq_none hge] at h2
      have hjT : T.contains j = false := by
        cases hc : T.contains j with
        | false => rfl
        | true =>
          simp only [lateOk, Bool.and_eq_true, List.all_eq_true] at hT
          have h4 := hT.2 j (by simpa using hc)
          rw [hoj] at h4
          simp only [Option.all_some, Array.any_eq_true] at h4
          obtain ⟨q, hq, h5⟩ := h4
          simp only [Bool.and_eq_true, beq_iff_eq] at h5
          exact absurd h5.2 (hno _ (Array.getElem_mem hq) h5.1)
      have hiT : T.contains i = false := by
        simp only [lateOk, Bool.and_eq_true] at hT
        simpa using hT.1
      have h2 := wpOp_putIf hoj (hfree j oj hoj hji hun hno) (fun cs b => hsel i o cs b hi) (fun cs b => hsel j oj cs b hoj) hQ hy h1
      refine wpOp_mono (fun a' w' h3 => ?_) h2
      obtain ⟨h4, h5, h6⟩ := h3
      have hN' := noLate_set hjT hN
      have hS' := h5 (by rw [Array.setIfInBounds_comm _ _ (Ne.symm hji)]; exact noLate_set hiT hN')
      refine ⟨fun _ => hS', ih (L.setIfInBounds j true) a' w' ?_ (ready_mono hr (Ne.symm hji)) h4 hN' hS' ?_⟩
      · intro k ok hk hki hunk hnok
        refine hfree k ok hk hki ?_ hnok
        by_cases hjk : j = k
        · subst hjk; exact hun
        · rw [getD_set_ne true hjk] at hunk; exact hunk
      · rw [Array.setIfInBounds_comm _ _ hji]; exact h6
/-- one that reads no memory -/
theorem AnyF.firstF {i : Nat} {o : Oper} {v : Value} (hi : ops[i]? = some o) (hiT : T.contains i = false) (hsel : ∀ (j : Nat) (o : Oper) cs b, ops[j]? = some o → o.op ≠ .select cs b)
    (hQ : ∀ c a w, Q (.panic c) (a.put o.dst v) w → Q (.panic c) a w) : ∀ (f : Nat) (L : Array Bool) (a : Act) (w : World),
      (∀ j oj, ops[j]? = some oj → j ≠ i → L.getD j true = false → (∀ e ∈ oj.after, Region.binds .any e = true → e.on ≠ i) → o.apart ops oj = true) →
      i ∈ Region.ready .any ops L → YieldsIf P ops (fun _ => True) o v a → (noLate T L = true → S w) → AnyF P ops Q S T f (L.setIfInBounds i true) (a.put o.dst v) w → AnyF P ops Q S T (f + 1) L a w := by
  intro f
  induction f with
  | zero =>
    intro L a w _ hr hy hS H
    refine ⟨fun h => absurd hr (by rw [h]; exact List.not_mem_nil), fun j hj => ?_⟩
    by_cases hji : j = i
    · subst hji; exact hy.wpOp hi trivial ⟨fun h => hS (noLate_of_set h), H⟩
    · exact absurd (ready_mono hj hji) (by rw [H.1]; exact List.not_mem_nil)
  | succ f ih =>
    intro L a w hfree hr hy hS H
    refine ⟨fun h => absurd hr (by rw [h]; exact List.not_mem_nil), fun j hj => ?_⟩
    by_cases hji : j = i
    · subst hji; exact hy.wpOp hi trivial ⟨fun h => hS (noLate_of_set h), H⟩
    · have h1 := H.2 j (ready_mono hj hji)
      obtain ⟨hun, oj, hoj, hall⟩ := mem_ready.1 hj
      have hno : ∀ e ∈ oj.after, Region.binds .any e = true → e.on ≠ i := fun e he hb heq => by
        have h2 := hall e he hb
        have h3 := (mem_ready.1 hr).1
        rw [heq] at h2
        rcases Nat.lt_or_ge i L.size with hlt | hge
        · simp [hlt] at h2 h3; rw [h3] at h2; cases h2
        · simp [Array.getElem?_eq_none hge] at h2
      have h2 := wpOp_putIf hoj (hfree j oj hoj hji hun hno) (fun cs b => hsel i o cs b hi) (fun cs b => hsel j oj cs b hoj) hQ hy h1
      refine wpOp_mono (fun a' w' h3 => ?_) h2
      obtain ⟨h4, h5, h6⟩ := h3
      have hS2 : noLate T (L.setIfInBounds j true) = true → S w' := fun hc => h5 (by rw [Array.setIfInBounds_comm _ _ (Ne.symm hji)]; exact noLate_set hiT hc)
      refine ⟨hS2, ih (L.setIfInBounds j true) a' w' ?_ (ready_mono hr (Ne.symm hji)) h4 hS2 ?_⟩
      · intro k ok hk hki hunk hnok
        refine hfree k ok hk hki ?_ hnok
        by_cases hjk : j = k
        · subst hjk; exact hun
        · rw [getD_set_ne true hjk] at hunk; exact hunk
      · rw [Array.setIfInBounds_comm _ _ hji]; exact h6
/-- the beginning; the tests of the region's form are Bools -/
theorem draw {id : Nat} {l : List Oper} (S : World → Prop) (T : List Nat) (hm : P.follows .mixedOrders = true) (h : ∀ w', w'.heap = w.heap → Below w.heap.size w w' → AnyF P l.toArray Q S T l.length (Array.replicate l.length false) a w') : (Code.region id l.toArray true).wp P Q a w := by
  refine wp_region_any hm ?_
  have := AnyF.any _ _ _ _ (h { w with drawn := w.drawn + 1 } rfl ((Below.refl _ w).drew))
  simpa using this
theorem d_take {i d : Nat} {op : Op} {ty : TypeId} {pos : String} {af : Array Edge} {v : Value} {f : Nat} {L L' : Array Bool} (hi : ops[i]? = some ⟨some d, op, ty, pos, af, none⟩) (hs : (Region.noSelect ops && lateOk ops T i && Region.free .any ops L i && (Region.ready .any ops L).contains i) = true) (hL : L.setIfInBounds i true = L')
    (hQ : ∀ c a w, Q (.panic c) (a.put (some d) v) w → Q (.panic c) a w) (hA : Has n E a) (hd : d < n) (hN : noLate T L = true) (hS : S w) (hrun : ∀ a' w', Has n E a' → S w' → (execOp a'.eval ⟨some d, op, ty, pos, af, none⟩).run P w' = .ok (.value v) w')
    (K : ∀ a', Has n ((d, v) :: E) a' → AnyF P ops Q S T f L' a' w) : AnyF P ops Q S T (f + 1) L a w := by
  simp only [Bool.and_eq_true] at hs
  obtain ⟨⟨⟨h1, h2⟩, h3⟩, h4⟩ := hs
  refine AnyF.first hi h2 (Region.noSelect_spec h1) hQ f L a w (Region.free_spec hi h3) (by simpa using h4) (.inl ⟨by simp [Region.wanted], fun w' hw' => hrun a w' hA hw'⟩) hN hS ?_
  rw [hL]
  exact K _ (hA.put hd v)
theorem d_takef {i d : Nat} {op : Op} {ty : TypeId} {pos : String} {af : Array Edge} {v : Value} {f : Nat} {L L' : Array Bool} (hi : ops[i]? = some ⟨some d, op, ty, pos, af, none⟩) (hs : (Region.noSelect ops && !T.contains i && Region.free .any ops L i && (Region.ready .any ops L).contains i) = true) (hL : L.setIfInBounds i true = L')
    (hQ : ∀ c a w, Q (.panic c) (a.put (some d) v) w → Q (.panic c) a w) (hA : Has n E a) (hd : d < n) (hS : noLate T L = true → S w) (hrun : ∀ a' w', Has n E a' → (execOp a'.eval ⟨some d, op, ty, pos, af, none⟩).run P w' = .ok (.value v) w')
    (K : ∀ a', Has n ((d, v) :: E) a' → AnyF P ops Q S T f L' a' w) : AnyF P ops Q S T (f + 1) L a w := by
  simp only [Bool.and_eq_true] at hs
  obtain ⟨⟨⟨h1, h2⟩, h3⟩, h4⟩ := hs
  refine AnyF.firstF hi (by simpa using h2) (Region.noSelect_spec h1) hQ f L a w (Region.free_spec hi h3) (by simpa using h4) (.inl ⟨by simp [Region.wanted], fun w' _ => hrun a w' hA⟩) hS ?_
  rw [hL]
  exact K _ (hA.put hd v)
/-- one that alone may come up: an effect -/
theorem d_one {i : Nat} {o : Oper} {f : Nat} {L L' : Array Bool} (hr : Region.ready .any ops L = [i]) (hi : ops[i]? = some o) (hL : L.setIfInBounds i true = L')
    (h : Go1 P ops Q o (fun a' w' => (noLate T L' = true → S w') ∧ AnyF P ops Q S T f L' a' w') a w) : AnyF P ops Q S T (f + 1) L a w := by
  refine ⟨fun h0 => (by rw [hr] at h0; cases h0), fun j hj => ?_⟩
  rw [hr, List.mem_singleton] at hj
  subst hj
  unfold wpOp
  simp only [hi]
  rw [hL]
  exact h
theorem d_done {f : Nat} {L : Array Bool} (hr : Region.ready .any ops L = []) (h : Q .normal a w) : AnyF P ops Q S T f L a w := by
  cases f with
  | zero => exact ⟨hr, h⟩
  | succ f => exact ⟨fun _ => h, by rw [hr]; simp⟩
end

/-! ## 11. Ways of control -/
theorem cutC {c : Code} (Mid : Act → World → Prop) (h1 : c.wp P (Exit.then Mid Q) a w) (h2 : ∀ a w, Mid a w → Q .normal a w) : c.wp P Q a w :=
  wp_mono h1 fun e a w h => by
    cases e with
    | normal => exact h2 _ _ h
    | exit => exact h
    | goto => exact h
    | ret => exact h
    | panic => exact h
    | outgrown => exact h
theorem ite_t {α : Type} {c : Bool} {x y r : α} (hb : c = true) (H : (if c = true then x else y) = r) : x = r := by rw [if_pos hb] at H; exact H
theorem ite_f {α : Type} {c : Bool} {x y r : α} (hb : c = false) (H : (if c = true then x else y) = r) : y = r := by rw [hb, if_neg Bool.false_ne_true] at H; exact H
theorem ret_post1 {fn : Func} {R : Ending → World → Prop} {t : Nat} {v : Value} (hA : Has n E a) (hr : fn.results = #[.tmp t]) (hv : Env.get E t = some v) (h : R (.returned v) w) : bodyPost P fn R .ret a w := by
  have := hA.get t v hv
  simp at this
  exact ⟨hA.dfr, v, by simp [results, hr, this], h⟩
inductive Out (ρ σ : Type) where
  | ret (r : ρ)
  | go (s : σ)
theorem ite_some {α : Type} {c : Prop} [Decidable c] {x : Option α} {r : α} (h : (if c then x else none) = some r) : c ∧ x = some r := by
  split at h
  · exact ⟨‹_›, h⟩
  · cases h
section
variable {N : Act → World → Prop} {i j : Nat}
theorem LN (h : N a w) : wpList P ops (Exit.then N Q) [] a w := h
theorem LQ (h : Q .normal a w) : wpList P ops Q [] a w := h
theorem TX (h : Q (.exit i) a w) : Exit.then N Q (.exit i) a w := h
theorem TN (h : N a w) : Exit.then N Q .normal a w := h
theorem TR (h : Q .ret a w) : Exit.then N Q .ret a w := h
theorem BX (h : Q .normal a w) : Exit.inBlock i Q (.exit i) a w := by simpa [Exit.inBlock] using h
theorem BO (hne : (j == i) = false) (h : Q (.exit j) a w) : Exit.inBlock i Q (.exit j) a w := by
  have : ¬ j = i := by simpa using hne
  simpa [Exit.inBlock, this] using h
theorem BN (h : Q .normal a w) : Exit.inBlock i Q .normal a w := h
theorem BR (h : Q .ret a w) : Exit.inBlock i Q .ret a w := h
end

/-! ## 12. What the printed walks use -/
def envOf : Nat → List Value → Env
  | _, [] => []
  | i, v :: r => (i, v) :: envOf (i + 1) r
theorem envOf_get : ∀ (vs : List Value) (i t : Nat) (v : Value), Env.get (envOf i vs) t = some v → i ≤ t ∧ vs[t - i]? = some v
  | [], _, _, _, h => by cases h
  | u :: r, i, t, v, h => by
    simp only [envOf, Env.get] at h
    by_cases e : i = t
    · subst e
      simp only [Nat.beq_refl, cond_true, Option.some.injEq] at h
      subst h
      simp
    · rw [beq_ne e, cond_false] at h
      obtain ⟨h1, h2⟩ := envOf_get r (i + 1) t v h
      refine ⟨by omega, ?_⟩
      rw [show t - i = (t - (i + 1)) + 1 by omega]
      simpa using h2
theorem enterL {f : FuncId} {fn : Func} {c : Code} {R : Ending → World → Prop} (vs : List Value) (hf : P.funcs[f]? = some fn) (hb : fn.body = some c) (hn : fn.ntmps = n) (hs : Nat.ble vs.length n = true)
    (h : ∀ a, Has n (envOf 0 vs) a → c.wp P (bodyPost P fn R) a w) : Calls P f vs.toArray w R :=
  enter (envOf 0 vs) hf hb hn (by simpa using Nat.le_of_ble_eq_true hs) (fun t v ht => by
    have := (envOf_get vs 0 t v ht).2
    simpa using this) h
theorem nret {fn : Func} {R : Ending → World → Prop} (h : bodyPost P fn R .ret a w) : bodyPost P fn R .normal a w := h
theorem ret_post0 {fn : Func} {R : Ending → World → Prop} (hA : Has n E a) (hr : fn.results = #[]) (h : R (.returned (.tuple #[])) w) : bodyPost P fn R .ret a w :=
  ⟨hA.dfr, .tuple #[], by simp [results, hr], h⟩
theorem ret_post2 {fn : Func} {R : Ending → World → Prop} {t t2 : Nat} {v v2 : Value} (hA : Has n E a) (hr : fn.results = #[.tmp t, .tmp t2]) (hv : Env.get E t = some v) (hv2 : Env.get E t2 = some v2) (h : R (.returned (.tuple #[v, v2])) w) : bodyPost P fn R .ret a w := by
  have h1 := hA.get t v hv
  have h2 := hA.get t2 v2 hv2
  simp at h1 h2
  exact ⟨hA.dfr, _, by simp [results, hr, h1, h2], h⟩
theorem ret_post3 {fn : Func} {R : Ending → World → Prop} {t t2 t3 : Nat} {v v2 v3 : Value} (hA : Has n E a) (hr : fn.results = #[.tmp t, .tmp t2, .tmp t3]) (hv : Env.get E t = some v) (hv2 : Env.get E t2 = some v2) (hv3 : Env.get E t3 = some v3) (h : R (.returned (.tuple #[v, v2, v3])) w) : bodyPost P fn R .ret a w := by
  have h1 := hA.get t v hv
  have h2 := hA.get t2 v2 hv2
  have h3 := hA.get t3 v3 hv3
  simp at h1 h2 h3
  exact ⟨hA.dfr, _, by simp [results, hr, h1, h2, h3], h⟩
theorem ret_cell {fn : Func} {R : Ending → World → Prop} {t : Nat} {T : TypeId} {v : Value} {ad : Addr} (hA : Has n E a) (hr : fn.results = #[.cell t T]) (hv : Env.get E t = some (.pointer (some ad))) (hl : (loadVar T ad).run P w = .ok v w) (h : R (.returned v) w) : bodyPost P fn R .ret a w := by
  have h1 := hA.get t _ hv
  simp at h1
  exact ⟨hA.dfr, _, by simp [results, hr, h1, asAddr, hl], h⟩
theorem tcond_t {c : Operand} {x y : Code} (hA : Has n E a) (hc : ev E c = some (.bool true)) (h : x.wp P Q a w) : (Code.cond c x y).wp P Q a w := wp_cond_true (hA.ev hc) h
theorem tcond_f {c : Operand} {x y : Code} (hA : Has n E a) (hc : ev E c = some (.bool false)) (h : y.wp P Q a w) : (Code.cond c x y).wp P Q a w := wp_cond_false (hA.ev hc) h
theorem tcond_kt {c : Operand} {x y : Code} {b : Bool} (hA : Has n E a) (hc : ev E c = some (.bool b)) (hb : b = true) (h : x.wp P Q a w) : (Code.cond c x y).wp P Q a w := by subst hb; exact wp_cond_true (hA.ev hc) h
theorem tcond_kf {c : Operand} {x y : Code} {b : Bool} (hA : Has n E a) (hc : ev E c = some (.bool b)) (hb : b = false) (h : y.wp P Q a w) : (Code.cond c x y).wp P Q a w := by subst hb; exact wp_cond_false (hA.ev hc) h
theorem bsplit {p : Prop} {b : Bool} (h1 : b = true → p) (h2 : b = false → p) : p := by cases b <;> simp_all
/-! blocks apart -/
def Sep (u v : Option Nat) : Prop := ∀ k, u = some k → some k ≠ v
theorem Sep.symm {u v : Option Nat} (h : Sep u v) : Sep v u := fun k hk e => h k e.symm hk.symm
theorem sep_none {u : Option Nat} : Sep u none := fun _ _ e => by cases e
theorem sep_none' {u : Option Nat} : Sep none u := fun _ e => by cases e
theorem sep_box {g h : Nat} (e : g ≠ h) : Sep (some g) (some h) := fun k hk e' => by cases hk; cases e'; exact e rfl
theorem sep_lt {u : Option Nat} {g : Nat} (h : ∀ k, u = some k → k < w.heap.size) (hg : g = w.heap.size) : Sep u (some g) := fun k hk e => by
  have := h k hk
  cases e
  omega
theorem sep_app {u v v1 : Option Nat} (hs : Sep u v) (h : ∀ k, u = some k → k < w.heap.size) (hat : v1 = v ∨ v1 = some w.heap.size) : Sep u v1 := by
  rcases hat with rfl | rfl
  · exact hs
  · exact sep_lt h rfl
theorem sep_app0 {u v1 : Option Nat} {q c : Nat} (h : ∀ k, u = some k → k < w.heap.size) (hat : v1 = Value.ownBlock (.slice none q c) ∨ v1 = some w.heap.size) : Sep u v1 := by
  rcases hat with rfl | rfl
  · exact sep_none
  · exact sep_lt h rfl
theorem sep_new {u v : Option Nat} (h : ∀ k, u = some k → k < w.heap.size) (h2 : ∀ k, v = some k → w.heap.size ≤ k) : Sep u v := fun k hk e => by
  have h3 := h k hk
  have h4 := h2 k e.symm
  omega
theorem lt_some {g : Nat} {o : Obj} (h : w.heap[g]? = some o) : g < w.heap.size := (Array.getElem?_eq_some_iff.1 h).1
theorem lt_box {g : Nat} {o : Obj} (h : w.heap[g]? = some o) : ∀ k, some g = some k → k < w.heap.size := fun k e => by cases e; exact lt_some h
theorem one_val {v : Value} (h : v.oneCell' = true) : ∀ u ∈ v.cells.toList, u.oneCell' = true := by
  cases v <;> simp_all [Value.cells, Value.oneCell']
theorem splice_all (cs c : Array Value) (h : cs.size = c.size) : splice cs 0 c = c := by
  unfold splice
  rw [Nat.zero_add, List.drop_of_length_le (by simp [h])]
  simp
theorem grown_refl (w : World) (row : Option Nat) : w.grownBy w row := ⟨rfl, rfl, rfl, Nat.le_refl _, fun _ _ _ => rfl⟩
theorem grown_trans {w1 w2 : World} {row : Option Nat} (h : w.grownBy w1 row) (h2 : w1.grownBy w2 row) : w.grownBy w2 row :=
  ⟨h2.os.trans h.os, h2.tape.trans h.tape, h2.output.trans h.output, Nat.le_trans h.size h2.size, fun k hk hne => (h2.block k (Nat.lt_of_lt_of_le hk h.size) hne).trans (h.block k hk hne)⟩
theorem grown_E {w1 w2 : World} {row : Option Nat} (h : w.grownBy w1 row) (h2 : Below w1.heap.size w1 w2) : w.grownBy w2 row :=
  grown_trans h ⟨h2.os, h2.tape, h2.output, h2.size, fun k hk _ => h2.block k hk⟩
theorem grown_new {w1 w2 : World} {row r2 : Option Nat} (h : w.grownBy w1 row) (h2 : w1.grownBy w2 r2) (hn : ∀ k, r2 = some k → w.heap.size ≤ k) : w.grownBy w2 row :=
  ⟨h2.os.trans h.os, h2.tape.trans h.tape, h2.output.trans h.output, Nat.le_trans h.size h2.size, fun k hk hne => (h2.block k (Nat.lt_of_lt_of_le hk h.size) (fun e => by have := hn k e.symm; omega)).trans (h.block k hk hne)⟩
theorem run_field' {d : Nat} {ty : TypeId} {pos : String} {af : Array Edge} {x : Operand} {ad : Addr} {S : TypeId} {fs : Array Field} {f : Field} {i m off : Nat} (hu : P.underlying S = some (.struct fs)) (hf : fs[i]? = some f) (ho : f.offset = off) (hs : ∀ w, (sizeOf f.type).run P w = .ok m w) (hm : ¬ m = 0) (hx : a.eval x = .pointer (some ad)) :
    (execOp a.eval ⟨some d, .fieldAddr S x i, ty, pos, af, none⟩).run P w = .ok (.value (.pointer (some (ad.add off)))) w := by
  subst ho
  exact run_field hu hf (hs w) hm hx
/-- field j of a block all of whose fields are of one cell -/
theorem At.seg1 {ad : Addr} {cs : List Value} {v : Value} (h : At w ad cs) (j : Nat) (hj : cs[j]? = some v) : At w (ad.add j) [v] := fun i u hu => by
  cases i with
  | zero =>
    cases hu
    rw [add_add]
    exact h j v hj
  | succ i => simp at hu
section
variable {α : Type} {p : Pl α} {t e : TypeId} {z : Value} {bytes N : Nat} {d : Nat} {ty : TypeId} {pos : String} {af : Array Edge} {x y : Operand} {v : Value}
theorem Own.form1 {e : TypeId} {N : Nat} {v : Value} {xs : List α} (h : Own p e N w v xs) : ∃ A c, v = .slice A xs.length c := by
  obtain ⟨A, c, h1, _⟩ := h.form
  exact ⟨A, c, h1⟩
theorem Own.row {e : TypeId} {N : Nat} {A : Option Addr} {q c : Nat} {xs : List α} (h : Own p e N w (.slice A q c) xs) : Row p w A xs := by
  obtain ⟨A', c', h1, h2, _⟩ := h.form
  injection h1 with h1
  subst h1
  exact h2
theorem st_lit0 {sty : TypeId} (h : Elt P p t e z bytes) (hA : Has n E a) (hd : d < n)
    (K : ∀ w' g, g = w.heap.size → w'.heap.size = g + 1 → Own p e w.heap.size w' (.slice (some ⟨g, 0, none⟩) 0 0) [] → Below w.heap.size w w' → ∀ a', Has n ((d, .slice (some ⟨g, 0, none⟩) 0 0) :: E) a' → C a' w') :
    Go1 P ops Q ⟨some d, .buildSlice t 0 #[], sty, pos, af, none⟩ C a w := by
  obtain ⟨i, hi, hz, hs, hby⟩ := h.info
  refine stv (v := .slice (some ⟨w.heap.size, 0, none⟩) 0 0) (w' := w.alloc (.cells #[] e)) hA hd ?_ (K _ w.heap.size rfl (by simp) ?_ (Below.new w _))
  · simp [execOp, Instr.buildSlice, run_underlying h.ht, h.size w, Instr.fill, newRow]
    exact congrArg (fun c => w.alloc (Obj.cells c e)) (by simp [Array.range])
  · have ho := World.ownsRow_lit (base := w.heap.size) (size := p.sz) (e := e) w #[] 0 (Nat.le_refl _) (by simp [maxLen]) (by simp)
    unfold Own
    simpa [Pl.flat] using ho
theorem st_setrow {T : TypeId} {bytes : Nat} {xs : List α} {y1 : α} {ad : Addr} {A : Option Addr} {q c : Nat} {i : Int} (h : Elt P p t T z bytes) (hO : Own p T N w (.slice A q c) xs) (hA : Has n E a) (hx : ev E x = some (.pointer (some (ad.add (i.toNat * p.sz))))) (hq : A = some ad) (hy : ev E y = some v) (hv : v.cells = (p.enc y1).toArray) (h0 : 0 ≤ i) (h1 : i < (xs.length : Int))
    (K : ∀ w', Own p T N w' (.slice A (xs.set i.toNat y1).length c) (xs.set i.toNat y1) → w.grownBy w' (Value.ownBlock (.slice A q c)) → ∀ a', Has n E a' → C a' w') : Go1 P ops Q ⟨none, .store T x y, ty, pos, af, none⟩ C a w := by
  subst hq
  have hlen := p.len y1
  have hi : i.toNat < xs.length := by omega
  obtain ⟨hl, hO2⟩ := hO
  rcases hO2 with ⟨h2, _⟩ | ⟨g, cap, cur, h2, hg, hh, hn, hm, hs, ht⟩
  · cases h2
  injection h2 with e1 e2 e3
  injection e1 with e1
  subst e1; subst e2; subst e3
  have hm1 : (i.toNat + 1) * p.sz ≤ xs.length * p.sz := Nat.mul_le_mul_right _ (by omega)
  have hm2 : xs.length * p.sz ≤ c * p.sz := Nat.mul_le_mul_right _ hn
  have hm3 : (i.toNat + 1) * p.sz = i.toNat * p.sz + p.sz := Nat.succ_mul _ _
  obtain ⟨w', hr, hg', hgr, hsz⟩ := run_store (P := P) (T := T) (g := g) (off := i.toNat * p.sz) (h.size w) (by rw [hv]; simp [hlen]) (by rw [hv]; exact fun u hu => p.one y1 u hu) hh (by rw [hs]; omega)
  refine sts (w' := w') hA ?_ (K w' ?_ hgr)
  · have e1 := hA.ev hx
    have e2 := hA.ev hy
    rw [add_mk, Nat.zero_add] at e1
    simp [execOp, e1, e2, Instr.storeAt, Instr.sureAddr, hr]
  · refine ⟨by rw [p.flat_len], .inr ⟨g, c, _, by rw [List.length_set], hg, hg', by simpa using hn, hm, ?_, ?_⟩⟩
    · unfold splice
      rw [hv]
      simp only [List.size_toArray, List.length_append, List.length_take, Array.length_toList, List.length_drop, hlen]
      omega
    · rw [hv]
      have hlt : (p.flat xs) = cur.toList.take (xs.length * p.sz) := ht.symm
      have e3 : cur.toList = p.flat xs ++ cur.toList.drop (xs.length * p.sz) := by rw [hlt, List.take_append_drop]
      have e4 := p.flat_split xs i.toNat hi
      have hA1 : (p.flat (xs.take i.toNat)).length = i.toNat * p.sz := by rw [p.flat_len, List.length_take, Nat.min_eq_left (by omega)]
      have e5 : cur.toList = p.flat (xs.take i.toNat) ++ (p.enc xs[i.toNat] ++ (p.flat (xs.drop (i.toNat + 1)) ++ cur.toList.drop (xs.length * p.sz))) := by
        conv => lhs; rw [e3, e4]
        simp [List.append_assoc]
      have e6 := splice_mid (p.flat (xs.take i.toNat)) (p.enc xs[i.toNat]) (p.flat (xs.drop (i.toNat + 1)) ++ cur.toList.drop (xs.length * p.sz)) (p.enc y1).toArray (i.toNat * p.sz) hA1 (by simp [p.len])
      have e7 : p.flat (xs.set i.toNat y1) = p.flat (xs.take i.toNat) ++ (p.enc y1 ++ p.flat (xs.drop (i.toNat + 1))) := by
        rw [List.set_eq_take_append_cons_drop, if_pos hi, p.flat_append, p.flat_cons]
      have e8 : (splice cur (i.toNat * p.sz) (p.enc y1).toArray).toList = p.flat (xs.set i.toNat y1) ++ cur.toList.drop (xs.length * p.sz) := by
        have e9 : splice cur (i.toNat * p.sz) (p.enc y1).toArray = splice cur.toList.toArray (i.toNat * p.sz) (p.enc y1).toArray := rfl
        rw [e9, congrArg List.toArray e5, e6, e7]
        simp [List.append_assoc]
      show (splice cur (i.toNat * p.sz) (p.enc y1).toArray).toList.take _ = _
      rw [e8, List.take_left' (p.flat_len _)]
end
section
variable {S : World → Prop} {T : List Nat}
theorem yielded_of {j dd : Nat} {b : Bool} (hj : (ops[j]?).bind (·.dst) = some dd) (hA : Has n E a) (hdd : dd < n) (hb : Env.get E dd = some (.bool b)) : yielded ops a.tmps j = some b := by
  have h1 := hA.get dd _ hb
  have h2 : dd < a.tmps.size := by rw [hA.size]; exact hdd
  have h3 : a.tmps[dd]? = some (.bool b) := by
    rw [Array.getElem?_eq_getElem h2]
    congr 1
    simpa [h2] using h1
  unfold yielded
  rw [hj]
  simp [h3]
theorem d_takeg {i d j dd : Nat} {b : Bool} {op : Op} {ty : TypeId} {pos : String} {af : Array Edge} {v : Value} {f : Nat} {L L' : Array Bool} (hi : ops[i]? = some ⟨some d, op, ty, pos, af, some (j, b)⟩) (hs : (Region.noSelect ops && lateOk ops T i && Region.free .any ops L i && (Region.ready .any ops L).contains i) = true) (hL : L.setIfInBounds i true = L')
    (hQ : ∀ c a w, Q (.panic c) (a.put (some d) v) w → Q (.panic c) a w) (hj : (ops[j]?).bind (·.dst) = some dd) (hA : Has n E a) (hd : d < n) (hdd : dd < n) (hb : Env.get E dd = some (.bool b)) (hN : noLate T L = true) (hS : S w) (hrun : ∀ a' w', Has n E a' → S w' → (execOp a'.eval ⟨some d, op, ty, pos, af, none⟩).run P w' = .ok (.value v) w')
    (K : ∀ a', Has n ((d, v) :: E) a' → AnyF P ops Q S T f L' a' w) : AnyF P ops Q S T (f + 1) L a w := by
  simp only [Bool.and_eq_true] at hs
  obtain ⟨⟨⟨h1, h2⟩, h3⟩, h4⟩ := hs
  have hy := yielded_of hj hA hdd hb
  refine AnyF.first hi h2 (Region.noSelect_spec h1) hQ f L a w (Region.free_spec hi h3) (by simpa using h4) (.inl ⟨by simp [Region.wanted, hy], fun w' hw' => hrun a w' hA hw'⟩) hN hS ?_
  rw [hL]
  exact K _ (hA.put hd v)
theorem d_takegf {i d j dd : Nat} {b : Bool} {op : Op} {ty : TypeId} {pos : String} {af : Array Edge} {v : Value} {f : Nat} {L L' : Array Bool} (hi : ops[i]? = some ⟨some d, op, ty, pos, af, some (j, b)⟩) (hs : (Region.noSelect ops && !T.contains i && Region.free .any ops L i && (Region.ready .any ops L).contains i) = true) (hL : L.setIfInBounds i true = L')
    (hQ : ∀ c a w, Q (.panic c) (a.put (some d) v) w → Q (.panic c) a w) (hj : (ops[j]?).bind (·.dst) = some dd) (hA : Has n E a) (hd : d < n) (hdd : dd < n) (hb : Env.get E dd = some (.bool b)) (hS : noLate T L = true → S w) (hrun : ∀ a' w', Has n E a' → (execOp a'.eval ⟨some d, op, ty, pos, af, none⟩).run P w' = .ok (.value v) w')
    (K : ∀ a', Has n ((d, v) :: E) a' → AnyF P ops Q S T f L' a' w) : AnyF P ops Q S T (f + 1) L a w := by
  simp only [Bool.and_eq_true] at hs
  obtain ⟨⟨⟨h1, h2⟩, h3⟩, h4⟩ := hs
  have hy := yielded_of hj hA hdd hb
  refine AnyF.firstF hi (by simpa using h2) (Region.noSelect_spec h1) hQ f L a w (Region.free_spec hi h3) (by simpa using h4) (.inl ⟨by simp [Region.wanted, hy], fun w' _ => hrun a w' hA⟩) hS ?_
  rw [hL]
  exact K _ (hA.put hd v)
theorem d_skip {i d j dd : Nat} {b c : Bool} {op : Op} {ty : TypeId} {pos : String} {af : Array Edge} {f : Nat} {L L' : Array Bool} (hi : ops[i]? = some ⟨some d, op, ty, pos, af, some (j, b)⟩) (hs : (Region.noSelect ops && !T.contains i && Region.free .any ops L i && (Region.ready .any ops L).contains i) = true) (hL : L.setIfInBounds i true = L')
    (hQ : ∀ c a w, Q (.panic c) (a.put (some d) undef) w → Q (.panic c) a w) (hj : (ops[j]?).bind (·.dst) = some dd) (hA : Has n E a) (hd : d < n) (hdd : dd < n) (hb : Env.get E dd = some (.bool c)) (hne : (c == b) = false) (hS : noLate T L = true → S w)
    (K : ∀ a', Has n ((d, undef) :: E) a' → AnyF P ops Q S T f L' a' w) : AnyF P ops Q S T (f + 1) L a w := by
  simp only [Bool.and_eq_true] at hs
  obtain ⟨⟨⟨h1, h2⟩, h3⟩, h4⟩ := hs
  have hy := yielded_of hj hA hdd hb
  refine AnyF.firstF (v := undef) hi (by simpa using h2) (Region.noSelect_spec h1) hQ f L a w (Region.free_spec hi h3) (by simpa using h4) (.inr ⟨by simpa [Region.wanted, hy] using hne, rfl⟩) hS ?_
  rw [hL]
  exact K _ (hA.put hd undef)
end

/-! ## 13. Arrays of numbers, in memory and as values; structs and arrays built; zero values -/
def vg {n : Nat} (v : Vector Int n) (i : Int) : Int := v.toList.getD i.toNat 0
def vs {n : Nat} (v : Vector Int n) (i x : Int) : Vector Int n := v.setIfInBounds i.toNat x
def sg (s : ByteArray) (i : Int) : Int := ((s.data.toList.getD i.toNat 0).toNat : Int)
section
variable {m : Nat} {k : IntKind} {hn : 0 < m} {v : Vector Int m} {ad : Addr} {i : Int}
theorem vec_get (v : Vector Int m) (h1 : i.toNat < m) : ((Pl.vec m k hn).enc v)[i.toNat]? = some (.int k (vg v i)) := by
  have hl : i.toNat < v.toList.length := by simpa using h1
  show (v.toList.map (Value.int k))[i.toNat]? = _
  unfold vg
  rw [List.getElem?_map, List.getElem?_eq_getElem hl, List.getD_eq_getElem?_getD, List.getElem?_eq_getElem hl]
  rfl
theorem vec_at (h : At w ad ((Pl.vec m k hn).enc v)) (h0 : 0 ≤ i) (h1 : i < (m : Int)) : At w (ad.add (i.toNat * 1)) [.int k (vg v i)] := by
  rw [Nat.mul_one]
  exact At.seg1 h i.toNat (vec_get v (by omega))
theorem vec_splice' (v : Vector Int m) (x : Int) (j : Nat) (h1 : j < m) : splice ((Pl.vec m k hn).enc v).toArray j #[.int k x] = ((Pl.vec m k hn).enc (v.setIfInBounds j x)).toArray := by
  have hl : j < v.toList.length := by simpa using h1
  unfold splice
  show ((v.toList.map (Value.int k)).take j ++ [Value.int k x] ++ (v.toList.map (Value.int k)).drop (j + 1)).toArray = ((v.setIfInBounds j x).toList.map (Value.int k)).toArray
  rw [Vector.toList_setIfInBounds, List.map_set, List.set_eq_take_append_cons_drop, if_pos (by simpa using h1)]
  simp
theorem vec_splice (v : Vector Int m) (x : Int) (h0 : 0 ≤ i) (h1 : i < (m : Int)) : splice ((Pl.vec m k hn).enc v).toArray (i.toNat * 1) #[.int k x] = ((Pl.vec m k hn).enc (vs v i x)).toArray := by
  rw [Nat.mul_one]
  exact vec_splice' v x i.toNat (by omega)
end
section
variable {d : Nat} {ty : TypeId} {pos : String} {af : Array Edge} {x y : Operand} {t e T : TypeId} {k : IntKind} {i : Int} {ad : Addr}
theorem run_idxarr {q m : Nat} (hu : P.underlying t = some (.array q e)) (hs : ∀ w, (sizeOf e).run P w = .ok m w) (hx : a.eval x = .pointer (some ad)) (hy : a.eval y = .int k i) (h0 : 0 ≤ i) (h1 : i < (q : Int)) :
    (execOp a.eval ⟨some d, .indexAddr t x y, ty, pos, af, none⟩).run P w = .ok (.value (.pointer (some (ad.add (i.toNat * m))))) w := by
  simp [execOp, hx, hy, Instr.indexAt, asIntOf, run_underlying hu, h0, h1, hs, Instr.sureAddr]
theorem run_index_vec {q : Nat} {hn : 0 < q} {k' : IntKind} {v : Vector Int q} (hu : P.underlying t = some (.array q e)) (hagg : ∀ w, (isAgg e).run P w = .ok false w) (hs : ∀ w, (sizeOf e).run P w = .ok 1 w) (hx : a.eval x = .agg ((Pl.vec q k hn).enc v).toArray) (hy : a.eval y = .int k' i) (h0 : 0 ≤ i) (h1 : i < (q : Int)) :
    (execOp a.eval ⟨some d, .index t x y, ty, pos, af, none⟩).run P w = .ok (.value (.int k (vg v i))) w := by
  have hg := vec_get (k := k) (hn := hn) (i := i) v (by omega)
  have hp : (part e ((Pl.vec q k hn).enc v).toArray (i.toNat * 1)).run P w = .ok (.int k (vg v i)) w := by
    have hg' : (((Pl.vec q k hn).enc v).toArray)[i.toNat * 1]? = some (.int k (vg v i)) := by rw [Nat.mul_one]; simpa using hg
    simp only [part, Sem.run_bind, hagg, Result.andThen_ok, hg']
    rfl
  simp only [execOp, hx, hy, Instr.index, asIntOf, Sem.run_bind, Sem.run_pure, Result.andThen_ok, run_underlying hu, hs, hp, h0, h1, and_self, if_true]
theorem run_index_str {s : ByteArray} {k' : IntKind} (hu : P.underlying t = some .string) (hx : a.eval x = .string s) (hy : a.eval y = .int k' i) (h0 : 0 ≤ i) (h1 : i < (s.size : Int)) :
    (execOp a.eval ⟨some d, .index t x y, ty, pos, af, none⟩).run P w = .ok (.value (.int .u8 (sg s i))) w := by
  have hl : i.toNat < s.size := by omega
  have hg : s[i.toNat]? = some (s.data.toList.getD i.toNat 0) := by
    rw [getElem?_pos s i.toNat hl, List.getD_eq_getElem?_getD]
    have hl' : i.toNat < s.data.toList.length := by simpa using hl
    rw [List.getElem?_eq_getElem hl']
    simp [ByteArray.getElem_eq_getElem_data]
  simp only [execOp, hx, hy, Instr.index, asIntOf, Sem.run_bind, Sem.run_pure, Result.andThen_ok, run_underlying hu, h0, if_true, hg]
  rfl
theorem run_zero {z : Value} (h : (P.info? T).map (fun i => i.zero) = some (some z)) (w : World) : (zeroValue T).run P w = .ok z w := by
  obtain ⟨i, hi, hz⟩ := Option.map_eq_some_iff.1 h
  simp [zeroValue, typeInfo, hi, hz]
def SizesOk (P : Program) : List Field → List Nat → Prop
  | [], [] => True
  | f :: fs, s :: ss => (∀ w, (sizeOf f.type).run P w = .ok s w) ∧ SizesOk P fs ss
  | _, _ => False
def places : List Field → List Nat → List (Nat × Nat)
  | f :: fs, s :: ss => (f.offset, s) :: places fs ss
  | _, _ => []
theorem mapM_sizes : ∀ (fs : List Field) (ss : List Nat) (w : World), SizesOk P fs ss → (fs.mapM fun f => (do pure (f.offset, ← sizeOf f.type) : Sem (Nat × Nat))).run P w = .ok (places fs ss) w
  | [], [], w, _ => by simp [places]
  | [], _ :: _, _, h => h.elim
  | _ :: _, [], _, h => h.elim
  | f :: fs, s :: ss, w, h => by
    have ih := mapM_sizes fs ss w h.2
    simp only [List.mapM_cons, Sem.run_bind, h.1, Result.andThen_ok, Sem.run_pure, ih, places]
theorem parts_ev {parts : Array (Nat × Operand)} {us : List (Nat × Value)} (hA : Has n E a) (hv : parts.toList.map (fun p => (p.1, ev E p.2)) = us.map (fun q => (q.1, some q.2))) : (parts.map fun (i, x) => (i, a.eval x)).toList = us := by
  rw [Array.toList_map]
  revert us
  induction parts.toList with
  | nil => intro us h; cases us with
    | nil => rfl
    | cons _ _ => simp at h
  | cons p ps ih =>
    intro us h
    cases us with
    | nil => simp at h
    | cons u us =>
      simp only [List.map_cons, List.cons.injEq, Prod.mk.injEq] at h
      simp only [List.map_cons, ih h.2, hA.ev h.1.2, h.1.1]
theorem run_build {z : Value} {fs : Array Field} {ss : List Nat} {parts : Array (Nat × Operand)} (us : List (Nat × Value)) {cells : Array Value} (hz : ∀ w, (zeroValue T).run P w = .ok z w) (hu : P.underlying T = some (.struct fs)) (hs : SizesOk P fs.toList ss) (hA : Has n E a) (hv : parts.toList.map (fun p => (p.1, ev E p.2)) = us.map (fun q => (q.1, some q.2)))
    (hf : Instr.fill ((places fs.toList ss).toArray[·]?) z.cells us = some cells) : (execOp a.eval ⟨some d, .build T parts, ty, pos, af, none⟩).run P w = .ok (.value (.agg cells)) w := by
  have h1 := parts_ev hA hv
  have h2 := mapM_sizes (P := P) fs.toList ss w hs
  have h3 : (fs.mapM fun f => (do pure (f.offset, ← sizeOf f.type) : Sem (Nat × Nat))).run P w = .ok (places fs.toList ss).toArray w := by
    rw [Array.mapM_eq_mapM_toList]
    simp only [Sem.run_map, h2]
    rfl
  simp only [execOp, Instr.build, Sem.run_bind, hz, run_underlying hu, h3, Result.andThen_ok, h1, hf, Sem.run_pure]
theorem run_build_arr {z : Value} {q m : Nat} {parts : Array (Nat × Operand)} (us : List (Nat × Value)) {cells : Array Value} (hz : ∀ w, (zeroValue T).run P w = .ok z w) (hu : P.underlying T = some (.array q e)) (hs : ∀ w, (sizeOf e).run P w = .ok m w) (hA : Has n E a) (hv : parts.toList.map (fun p => (p.1, ev E p.2)) = us.map (fun q => (q.1, some q.2)))
    (hf : Instr.fill (fun i => some (i * m, m)) z.cells us = some cells) : (execOp a.eval ⟨some d, .build T parts, ty, pos, af, none⟩).run P w = .ok (.value (.agg cells)) w := by
  have h1 := parts_ev hA hv
  simp only [execOp, Instr.build, Sem.run_bind, hz, run_underlying hu, hs, Result.andThen_ok, h1, hf, Sem.run_pure]
/-- one part more -/
theorem fill_step {place : Nat → Option (Nat × Nat)} {cells c' : Array Value} {i off size : Nat} {v : Value} {rest : List (Nat × Value)} {r : Option (Array Value)} (hp : place i = some (off, size)) (hs : v.cells.size = size) (hl : Nat.ble (off + size) cells.size = true) (he : splice cells off v.cells = c') (h : Instr.fill place c' rest = r) :
    Instr.fill place cells ((i, v) :: rest) = r := by
  rw [fill_cons hp hs (Nat.le_of_ble_eq_true hl), he, h]
end

/-! ## 14. More of the same -/
theorem getD_getD {α : Type} (xs : List α) (i : Nat) (z : α) : xs.getD i (xs.getD i z) = xs.getD i z := by
  simp only [List.getD_eq_getElem?_getD]
  cases xs[i]? <;> rfl
theorem len_set {α : Type} {A : Option Addr} {c : Nat} (xs : List α) (i : Nat) (y : α) : Value.slice A xs.length c = .slice A (xs.set i y).length c := by rw [List.length_set]
theorem low_app {N : Nat} {u v1 : Option Nat} (h : ∀ k, u = some k → N ≤ k) (hat : v1 = u ∨ v1 = some w.heap.size) (hN : N ≤ w.heap.size) : ∀ k, v1 = some k → N ≤ k := fun k hk => by
  rcases hat with e | e
  · exact h k (e ▸ hk)
  · rw [e] at hk; cases hk; exact hN
theorem sep_ge {u : Option Nat} {g : Nat} (h : ∀ k, u = some k → k < w.heap.size) (hg : w.heap.size ≤ g) : Sep u (some g) := fun k hk e => by
  have := h k hk
  cases e
  omega
theorem sep_lenR {u : Option Nat} {A : Option Addr} {q q' c : Nat} (h : Sep u (Value.ownBlock (.slice A q c))) : Sep u (Value.ownBlock (.slice A q' c)) := by cases A <;> exact h
theorem sep_lenL {u : Option Nat} {A : Option Addr} {q q' c : Nat} (h : Sep (Value.ownBlock (.slice A q c)) u) : Sep (Value.ownBlock (.slice A q' c)) u := by cases A <;> exact h
theorem agg_one {α : Type} (p : Pl α) (x : α) : ∀ u ∈ (Value.agg (p.enc x).toArray).cells.toList, u.oneCell' = true := fun u hu => p.one x u (by simpa [Value.cells] using hu)
theorem agg_size {α : Type} (p : Pl α) (x : α) : (Value.agg (p.enc x).toArray).cells.size = p.sz := by simp [Value.cells, p.len]
theorem agg_same {α : Type} (p : Pl α) (x y : α) : (p.enc x).toArray.size = (Value.agg (p.enc y).toArray).cells.size := by simp [Value.cells, p.len]
theorem enc_fit {α : Type} (p : Pl α) (x : α) {m : Nat} (h : Nat.ble m p.sz = true) : Nat.ble m (p.enc x).toArray.size = true := by
  rw [List.size_toArray, p.len]; exact h
theorem enc_fit' {α : Type} (p : Pl α) (x : α) {m : Nat} (h : Nat.ble m p.sz = true) : Nat.ble m (Value.agg (p.enc x).toArray).cells.size = true := enc_fit p x h
section
variable {S : World → Prop} {T : List Nat}
theorem yielded_undef {j dd : Nat} (hj : (ops[j]?).bind (·.dst) = some dd) (hA : Has n E a) (hdd : dd < n) (hb : Env.get E dd = some undef) : yielded ops a.tmps j = none := by
  have h1 := hA.get dd _ hb
  have h2 : dd < a.tmps.size := by rw [hA.size]; exact hdd
  have h3 : a.tmps[dd]? = some undef := by
    rw [Array.getElem?_eq_getElem h2]
    congr 1
    simpa [h2] using h1
  unfold yielded
  rw [hj]
  simp [h3, undef]
theorem gate_undef {dst : Option Tmp} {op : Op} {ty : TypeId} {pos : String} {af : Array Edge} {j d e : Nat} {b : Bool} (hd' : dst = some e) (he : e < n) (hj : (ops[j]?).bind (·.dst) = some d) (hA : Has n E a) (hd : d < n) (hb : Env.get E d = some undef)
    (K : ∀ a', Has n ((e, undef) :: E) a' → C a' w) : Go1 P ops Q ⟨dst, op, ty, pos, af, some (j, b)⟩ C a w := by
  have hy := yielded_undef hj hA hd hb
  have h1 : Region.wanted (⟨dst, op, ty, pos, af, some (j, b)⟩ : Oper) (yielded ops a.tmps) = false := by simp [Region.wanted, hy]
  subst hd'
  unfold Go1
  rw [if_neg (by rw [h1]; exact Bool.noConfusion)]
  exact K _ (hA.put he undef)
theorem d_skipu {i d j dd : Nat} {b : Bool} {op : Op} {ty : TypeId} {pos : String} {af : Array Edge} {f : Nat} {L L' : Array Bool} (hi : ops[i]? = some ⟨some d, op, ty, pos, af, some (j, b)⟩) (hs : (Region.noSelect ops && !T.contains i && Region.free .any ops L i && (Region.ready .any ops L).contains i) = true) (hL : L.setIfInBounds i true = L')
    (hQ : ∀ c a w, Q (.panic c) (a.put (some d) undef) w → Q (.panic c) a w) (hj : (ops[j]?).bind (·.dst) = some dd) (hA : Has n E a) (hd : d < n) (hdd : dd < n) (hb : Env.get E dd = some undef) (hS : noLate T L = true → S w)
    (K : ∀ a', Has n ((d, undef) :: E) a' → AnyF P ops Q S T f L' a' w) : AnyF P ops Q S T (f + 1) L a w := by
  simp only [Bool.and_eq_true] at hs
  obtain ⟨⟨⟨h1, h2⟩, h3⟩, h4⟩ := hs
  have hy := yielded_undef hj hA hdd hb
  refine AnyF.firstF (v := undef) hi (by simpa using h2) (Region.noSelect_spec h1) hQ f L a w (Region.free_spec hi h3) (by simpa using h4) (.inr ⟨by simp [Region.wanted, hy], rfl⟩) hS ?_
  rw [hL]
  exact K _ (hA.put hd undef)
/-- several may come up -/
def Each (C : Nat → Prop) : List Nat → Prop
  | [] => True
  | i :: r => C i ∧ Each C r
theorem Each.mem {C : Nat → Prop} : ∀ {l : List Nat}, Each C l → ∀ i ∈ l, C i
  | [], _, i, hi => by cases hi
  | j :: l, h, i, hi => by
    rcases List.mem_cons.1 hi with rfl | hi
    · exact h.1
    · exact Each.mem h.2 i hi
theorem d_many {is : List Nat} {f : Nat} {L : Array Bool} (hr : Region.ready .any ops L = is) (hne : is ≠ [])
    (h : Each (fun i => wpOp P ops Q i (fun a' w' => (noLate T (L.setIfInBounds i true) = true → S w') ∧ AnyF P ops Q S T f (L.setIfInBounds i true) a' w') a w) is) : AnyF P ops Q S T (f + 1) L a w :=
  ⟨fun h0 => absurd (hr.symm.trans h0) hne, fun i hi => h.mem i (hr ▸ hi)⟩
theorem d_op {i : Nat} {o : Oper} {f : Nat} {L L' : Array Bool} (hi : ops[i]? = some o) (hL : L.setIfInBounds i true = L')
    (h : Go1 P ops Q o (fun a' w' => (noLate T L' = true → S w') ∧ AnyF P ops Q S T f L' a' w') a w) : wpOp P ops Q i (fun a' w' => (noLate T (L.setIfInBounds i true) = true → S w') ∧ AnyF P ops Q S T f (L.setIfInBounds i true) a' w') a w := by
  unfold wpOp
  simp only [hi]
  rw [hL]
  exact h
end

/-! ## 15. Literals of several elements; a store into a part of an element -/
def enumV : Nat → List Value → List (Nat × Value)
  | _, [] => []
  | i, v :: r => (i, v) :: enumV (i + 1) r
section
variable {α : Type} {p : Pl α} {t e : TypeId} {z : Value} {bytes N : Nat} {d : Nat} {ty : TypeId} {pos : String} {af : Array Edge} {x y : Operand} {v : Value}
theorem fill_row (p : Pl α) : ∀ (xs : List α) (us : List Value) (dn : List α) (rest : List Value), us.map (·.cells) = xs.map (fun x => (p.enc x).toArray) → rest.length = xs.length * p.sz →
    Instr.fill (fun i => some (i * p.sz, p.sz)) (p.flat dn ++ rest).toArray (enumV dn.length us) = some (p.flat (dn ++ xs)).toArray
  | [], us, dn, rest, hu, hr => by
    have : us = [] := by simpa using hu
    subst this
    have : rest = [] := List.eq_nil_of_length_eq_zero (by simpa using hr)
    subst this
    simp [enumV, Instr.fill]
  | x :: xs, us, dn, rest, hu, hr => by
    cases us with
    | nil => simp at hu
    | cons u us =>
      simp only [List.map_cons, List.cons.injEq] at hu
      have hlen := p.len x
      have hm : (xs.length + 1) * p.sz = xs.length * p.sz + p.sz := Nat.succ_mul _ _
      simp only [List.length_cons] at hr
      have ih := fill_row p xs us (dn ++ [x]) (rest.drop p.sz) hu.2 (by rw [List.length_drop]; omega)
      rw [show (dn ++ [x]).length = dn.length + 1 by simp] at ih
      have hf := p.flat_len dn
      rw [enumV, fill_cons (off := dn.length * p.sz) (size := p.sz) rfl (by rw [hu.1]; simp [hlen]) (by simp [hf]; omega)]
      have e1 : rest = rest.take p.sz ++ rest.drop p.sz := (List.take_append_drop _ _).symm
      have e2 : splice (p.flat dn ++ rest).toArray (dn.length * p.sz) u.cells = (p.flat (dn ++ [x]) ++ rest.drop p.sz).toArray := by
        rw [show p.flat dn ++ rest = p.flat dn ++ (rest.take p.sz ++ rest.drop p.sz) by rw [← e1], splice_mid _ _ _ _ _ hf (by rw [hu.1, List.length_take]; simp [hlen]; omega), hu.1, p.flat_append, p.flat_one1]
        simp [List.append_assoc]
      rw [e2, ih]
      simp [List.append_assoc]
theorem st_litN {sty : TypeId} {k : Nat} {parts : Array (Nat × Operand)} (xs : List α) (us : List Value) (h : Elt P p t e z bytes) (hk : xs.length = k) (hs16 : k * p.sz ≤ 16777216) (hA : Has n E a) (hv : parts.toList.map (fun p => (p.1, ev E p.2)) = (enumV 0 us).map (fun q => (q.1, some q.2))) (hc : us.map (·.cells) = xs.map (fun x => (p.enc x).toArray)) (hne : xs ≠ []) (hd : d < n)
    (K : ∀ w' g, g = w.heap.size → w'.heap.size = g + 1 → Own p e w.heap.size w' (.slice (some ⟨g, 0, none⟩) k k) xs → Below w.heap.size w w' → ∀ a', Has n ((d, .slice (some ⟨g, 0, none⟩) k k) :: E) a' → C a' w') :
    Go1 P ops Q ⟨some d, .buildSlice t k parts, sty, pos, af, none⟩ C a w := by
  subst hk
  obtain ⟨i, hi, hz, hs, hby⟩ := h.info
  have h1 := parts_ev hA hv
  have hfl := p.flat_len xs
  refine stv (v := .slice (some ⟨w.heap.size, 0, none⟩) xs.length xs.length) (w' := w.alloc (.cells (p.flat xs).toArray e)) hA hd ?_ (K _ w.heap.size rfl (by simp) ?_ (Below.new w _))
  · have hp := p.pos
    have hl : 0 < xs.length := by cases xs with
      | nil => exact absurd rfl hne
      | cons _ _ => simp
    have hf := fill_row p xs us [] (((Array.range (xs.length * p.sz)).map (z.cells[· % z.cells.size]!)).toList) hc (by simp)
    simp only [Pl.flat, List.flatMap_nil, List.nil_append, List.length_nil, Array.toArray_toList] at hf
    have h24 : ¬ (xs.length * p.sz > 2 ^ 24) := by omega
    have h0 : ¬ (xs.length * p.sz = 0) := by
      have := Nat.mul_pos hl hp
      omega
    simp only [execOp, Instr.buildSlice, Sem.run_bind, run_underlying h.ht, Result.andThen_ok, h.size w, if_neg h24, if_neg h0, Sem.run_pure, zeroValue, typeInfo, program, h1]
    simp [hi, hz, hf, newRow, Sem.run, Pl.flat]
  · by_cases hm : xs.length ≤ maxLen
    · have ho := World.ownsRow_lit (base := w.heap.size) (size := p.sz) (e := e) w (p.flat xs).toArray xs.length (Nat.le_refl _) hm (by simp [hfl])
      unfold Own
      simpa using ho
    · exfalso
      have := Nat.le_mul_of_pos_right xs.length p.pos
      simp only [maxLen] at hm
      omega
theorem st_setrowf {T F : TypeId} {bytes off m : Nat} {xs : List α} {x1 y1 : α} {ad pt : Addr} {A : Option Addr} {q c : Nat} {i : Int} (_h : Elt P p t T z bytes) (hO : Own p T N w (.slice A q c) xs) (hsF : ∀ w, (sizeOf F).run P w = .ok m w) (hm0 : v.cells.size = m) (hone : ∀ u ∈ v.cells.toList, u.oneCell' = true) (hA : Has n E a) (hx : ev E x = some (.pointer (some pt))) (hpt : pt = (ad.add (i.toNat * p.sz)).add off) (hq : A = some ad) (hy : ev E y = some v) (h0 : 0 ≤ i) (h1 : i < (xs.length : Int))
    (hx1 : xs.getD i.toNat x1 = x1) (hfit : off + m ≤ p.sz) (hv : splice (p.enc x1).toArray off v.cells = (p.enc y1).toArray)
    (K : ∀ w', Own p T N w' (.slice A (xs.set i.toNat y1).length c) (xs.set i.toNat y1) → w.grownBy w' (Value.ownBlock (.slice A q c)) → ∀ a', Has n E a' → C a' w') : Go1 P ops Q ⟨none, .store F x y, ty, pos, af, none⟩ C a w := by
  subst hq; subst hpt
  have hlen := p.len y1
  have hi : i.toNat < xs.length := by omega
  have hxi : xs[i.toNat] = x1 := by
    rw [List.getD_eq_getElem?_getD, List.getElem?_eq_getElem hi] at hx1
    simpa using hx1
  obtain ⟨hl, hO2⟩ := hO
  rcases hO2 with ⟨h2, _⟩ | ⟨g, cap, cur, h2, hg, hh, hn, hm, hs, ht⟩
  · cases h2
  injection h2 with e1 e2 e3
  injection e1 with e1
  subst e1; subst e2; subst e3
  have hm1 : (i.toNat + 1) * p.sz ≤ xs.length * p.sz := Nat.mul_le_mul_right _ (by omega)
  have hm2 : xs.length * p.sz ≤ c * p.sz := Nat.mul_le_mul_right _ hn
  have hm3 : (i.toNat + 1) * p.sz = i.toNat * p.sz + p.sz := Nat.succ_mul _ _
  obtain ⟨w', hr, hg', hgr, hsz⟩ := run_store (P := P) (T := F) (g := g) (off := i.toNat * p.sz + off) (hsF w) hm0 hone hh (by rw [hs]; omega)
  refine sts (w' := w') hA ?_ (K w' ?_ hgr)
  · have e1 := hA.ev hx
    have e2 := hA.ev hy
    rw [add_mk, add_mk, Nat.zero_add] at e1
    simp [execOp, e1, e2, Instr.storeAt, Instr.sureAddr, hr]
  · refine ⟨by rw [p.flat_len], .inr ⟨g, c, _, by rw [List.length_set], hg, hg', by simpa using hn, hm, ?_, ?_⟩⟩
    · unfold splice
      simp only [List.size_toArray, List.length_append, List.length_take, Array.length_toList, List.length_drop]
      omega
    · have hlt : (p.flat xs) = cur.toList.take (xs.length * p.sz) := ht.symm
      have e3 : cur.toList = p.flat xs ++ cur.toList.drop (xs.length * p.sz) := by rw [hlt, List.take_append_drop]
      have e4 := p.flat_split xs i.toNat hi
      rw [hxi] at e4
      have hA1 : (p.flat (xs.take i.toNat)).length = i.toNat * p.sz := by rw [p.flat_len, List.length_take, Nat.min_eq_left (by omega)]
      have e5 : cur.toList = p.flat (xs.take i.toNat) ++ (p.enc x1 ++ (p.flat (xs.drop (i.toNat + 1)) ++ cur.toList.drop (xs.length * p.sz))) := by
        conv => lhs; rw [e3, e4]
        simp [List.append_assoc]
      have hx1l := p.len x1
      have f1 : (p.enc x1).take off ++ v.cells.toList ++ (p.enc x1).drop (off + v.cells.size) = p.enc y1 := by
        have := congrArg Array.toList hv
        simpa [splice] using this
      have e7 : p.flat (xs.set i.toNat y1) = p.flat (xs.take i.toNat) ++ (p.enc y1 ++ p.flat (xs.drop (i.toNat + 1))) := by
        rw [List.set_eq_take_append_cons_drop, if_pos hi, p.flat_append, p.flat_cons]
      have f2 : p.enc x1 = (p.enc x1).take off ++ (((p.enc x1).drop off).take m ++ (p.enc x1).drop (off + m)) := by
        rw [← List.drop_drop, List.take_append_drop, List.take_append_drop]
      have e8 : (splice cur (i.toNat * p.sz + off) v.cells).toList = p.flat (xs.set i.toNat y1) ++ cur.toList.drop (xs.length * p.sz) := by
        have e9 : splice cur (i.toNat * p.sz + off) v.cells = splice cur.toList.toArray (i.toNat * p.sz + off) v.cells := rfl
        have e10 : cur.toList = (p.flat (xs.take i.toNat) ++ (p.enc x1).take off) ++ (((p.enc x1).drop off).take m ++ ((p.enc x1).drop (off + m) ++ (p.flat (xs.drop (i.toNat + 1)) ++ cur.toList.drop (xs.length * p.sz)))) := by
          rw [e5]
          conv => lhs; rw [f2]
          simp [List.append_assoc]
          rw [← e5]
        rw [e9, congrArg List.toArray e10, splice_mid _ _ _ v.cells _ (by rw [List.length_append, hA1, List.length_take, hx1l, Nat.min_eq_left (by omega)]) (by rw [List.length_take, List.length_drop, hx1l, hm0]; omega), e7, ← f1, hm0]
        simp [List.append_assoc]
      show (splice cur (i.toNat * p.sz + off) v.cells).toList.take _ = _
      rw [e8, List.take_left' (p.flat_len _)]
end

/-! ## 16. A law's arguments -/
theorem row_take {k : IntKind} {ad : Addr} {zs : List Int} {q : Nat} (h : ∀ i, i < zs.length → w.cell? (ad.add i) = some (.int k (zs.getD i 0))) (hq : q ≤ zs.length) : Row (Pl.int k) w (some ad) (zs.take q) := by
  refine ⟨(fun e => by cases e), fun a' e j v hv => ?_⟩
  cases e
  have e1 : (Pl.int k).flat (zs.take q) = (zs.take q).map (Value.int k) := by
    unfold Pl.flat
    induction zs.take q with
    | nil => rfl
    | cons x xs ih => simp only [List.flatMap_cons, ih, List.map_cons]; rfl
  rw [e1, List.getElem?_map] at hv
  obtain ⟨x, hx, rfl⟩ := Option.map_eq_some_iff.1 hv
  have hj : j < (zs.take q).length := (List.getElem?_eq_some_iff.1 hx).1
  rw [List.length_take] at hj
  have hj2 : j < zs.length := by omega
  have e2 : (zs.take q)[j]? = zs[j]? := by rw [List.getElem?_take, if_pos (by omega)]
  rw [e2] at hx
  rw [h j hj2, List.getD_eq_getElem?_getD, hx]
  rfl

/-! ## 17. Parts of slices -/
section
variable {α : Type} {p : Pl α} {t e : TypeId} {N : Nat}
theorem Own.cap {e : TypeId} {N : Nat} {A : Option Addr} {q c : Nat} {xs : List α} (h : Own p e N w (.slice A q c) xs) : xs.length ≤ c := by
  obtain ⟨A', c', h1, _, h3, _⟩ := h.form
  injection h1 with _ _ h1
  omega
theorem Own.take {e : TypeId} {N : Nat} {A : Option Addr} {q c : Nat} {xs : List α} (h : Own p e N w (.slice A q c) xs) (i : Nat) (hi : i ≤ xs.length) : Own p e N w (.slice A (xs.take i).length c) (xs.take i) := by
  obtain ⟨hl, h2⟩ := h
  have hlen : (xs.take i).length = i := by rw [List.length_take]; omega
  refine ⟨p.flat_len _, ?_⟩
  rcases h2 with ⟨h2, h3⟩ | ⟨g, cap, cur, h2, hg, hh, hn, hm, hs, ht⟩
  · injection h2 with e1 e2 e3
    subst e1; subst e3
    exact .inl ⟨by rw [hlen]; congr 1; omega, by omega⟩
  · injection h2 with e1 e2 e3
    subst e1; subst e3
    refine .inr ⟨g, c, cur, rfl, hg, hh, by omega, hm, hs, ?_⟩
    have h5 : (xs.take i).length * p.sz ≤ xs.length * p.sz := Nat.mul_le_mul_right _ (by omega)
    have h6 : p.flat (xs.take i) = (p.flat xs).take ((xs.take i).length * p.sz) := by
      conv => rhs; rw [← List.take_append_drop i xs, p.flat_append]
      rw [List.take_append_drop, List.take_left' (p.flat_len _)]
    rw [h6, ← ht, List.take_take, Nat.min_eq_left h5]
theorem Row.drop {A : Option Addr} {xs : List α} (h : Row p w A xs) (l : Nat) (hl : l ≤ xs.length) : Row p w (A.map (·.add (l * p.sz))) (xs.drop l) := by
  cases A with
  | none => rw [h.1 rfl]; exact ⟨fun _ => by simp, fun ad e => by cases e⟩
  | some ad =>
    refine ⟨(fun e => by cases e), fun ad' e => ?_⟩
    cases e
    have h1 := h.2 ad rfl
    rw [← List.take_append_drop l xs, p.flat_append] at h1
    exact h1.right (by rw [p.flat_len, List.length_take, Nat.min_eq_left hl])
theorem Row.take {A : Option Addr} {xs : List α} (h : Row p w A xs) (i : Nat) : Row p w A (xs.take i) := by
  refine ⟨fun e => by rw [h.1 e]; simp, fun ad e => ?_⟩
  have h1 := h.2 ad e
  rw [← List.take_append_drop i xs, p.flat_append] at h1
  exact h1.left
theorem slice_lo {A : Option Addr} {xs : List α} {c : Nat} {i : Int} {T : Nat} (hu : P.underlying t = some (.slice e)) (hs : ∀ w, (sizeOf e).run P w = .ok T w) (hT : T = p.sz) (hR : Row p w A xs) (hc : xs.length ≤ c) (h0 : 0 ≤ i) (h1 : i ≤ (xs.length : Int)) :
    ∃ A' c', Row p w A' (xs.drop i.toNat) ∧ (xs.drop i.toNat).length ≤ c' ∧ ∀ {a : Act} {w : World} {d : Nat} {ty : TypeId} {pos : String} {af : Array Edge} {x y : Operand} {k : IntKind}, a.eval x = .slice A xs.length c → a.eval y = .int k i →
      (execOp a.eval ⟨some d, .slice t x (some y) none none, ty, pos, af, none⟩).run P w = .ok (.value (.slice A' (xs.drop i.toNat).length c')) w := by
  subst hT
  have hi : i.toNat ≤ xs.length := by omega
  refine ⟨if c = i.toNat then A else A.map (·.add (i.toNat * p.sz)), c - i.toNat, ?_, by rw [List.length_drop]; omega, ?_⟩
  · by_cases hcl : c = i.toNat
    · rw [if_pos hcl]
      have : xs.drop i.toNat = [] := List.drop_of_length_le (by omega)
      rw [this]
      exact ⟨fun _ => rfl, fun ad _ j v hv => by simp [Pl.flat] at hv⟩
    · rw [if_neg hcl]; exact hR.drop _ hi
  · intro a w d ty pos af x y k hx hy
    have hne : ∀ n q, P.underlying t ≠ some (.array n q) := fun n q => by rw [hu]; exact fun e => by cases e
    simp only [execOp, hx, hy, Instr.sliceAt, Instr.slice, Instr.sliceBounds, Instr.sliceBound, asIntOf, Sem.run_bind, Sem.run_pure, Result.andThen_ok, run_underlying hu, hs, Option.map_some, Option.map_none, h0, h1, and_self, if_true, List.length_drop]
theorem slice_hi {A : Option Addr} {xs : List α} {c : Nat} {i : Int} {T : Nat} (hu : P.underlying t = some (.slice e)) (hs : ∀ w, (sizeOf e).run P w = .ok T w) (hc : xs.length ≤ c) (h0 : 0 ≤ i) (h1 : i ≤ (xs.length : Int)) {a : Act} {w : World} {d : Nat} {ty : TypeId} {pos : String} {af : Array Edge} {x y : Operand} {k : IntKind} (hx : a.eval x = .slice A xs.length c) (hy : a.eval y = .int k i) :
      (execOp a.eval ⟨some d, .slice t x none (some y) none, ty, pos, af, none⟩).run P w = .ok (.value (.slice A (xs.take i.toNat).length c)) w := by
  have h2 : i ≤ (c : Int) := by omega
  have hl : (xs.take i.toNat).length = i.toNat := by rw [List.length_take]; omega
  have hA : (if c = 0 then A else A.map (·.add (0 * T))) = A := by
    split
    · rfl
    · rw [Nat.zero_mul]; cases A <;> rfl
  simp only [execOp, hx, hy, Instr.sliceAt, Instr.slice, Instr.sliceBounds, Instr.sliceBound, asIntOf, Sem.run_bind, Sem.run_pure, Result.andThen_ok, run_underlying hu, hs, Option.map_some, Option.map_none, h0, h2, and_self, if_true, hl, hA, Nat.sub_zero, Option.isSome_none, Bool.false_eq_true, if_false]
end
end Go.Proofs.Ytoogcdmdbogkeaa.G
