/- For every tree and every line that the law builds the paths are the reference's: the law returns true. Conditions: none beyond the statement's own. -/
import Derived.Test.YtjjahfpamjmacaaRows
import Derived.Test.YtjjahfpamjmacaaFBranchPaths
import Derived.WalkKit
import Derived.ProofKit
import Derived.OpenShut
import Derived.ShutString
import Derived.ChangeOld
import Derived.Below
import Derived.SizedLaws
import Derived.Test.YtjjahfpamjmacaaWSized
import Derived.Test.YtjjahfpamjmacaaU
set_option linter.unusedVariables false
set_option linter.unusedSimpArgs false
namespace Go.Proofs.Ytjjahfpamjmacaa.PrintWords
/-- The name by which the row finds the word on a slice's weight. -/
theorem sized_ints {H : Type} {enc : TypeId × Value → H} {P : Program} {W : World} {base : Nat} {spare : Nat → Bool} {held : Bool} {t e : TypeId} {k : IntKind} {a : Option Addr} {len cap : Nat} {d : DataW H} {ps : List MemPlace} {ts : List TypeId} {ds : List (DataW H)} {j : Nat}
    (hsz : (DataW.weightsEach P ts ds).all (· ≤ reachBytes) = true) (ht : ts[j]? = some t) (hd : ds[j]? = some d) (hu : P.underlying t = some (.slice e)) (he : P.underlying e = some (.int k)) (hc : P.cellsOf e = 1) {B : Nat} (hB : P.bytesOf e = B)
    (h : DataW.Trod enc P W base spare held t (.slice a len cap) d ps) : len * B ≤ 140737488351232 :=
  Go.Proofs.YtjjahfpamjmacaaW.PrintWords.sized_ints hsz ht hd hu he hc hB h
end Go.Proofs.Ytjjahfpamjmacaa.PrintWords
namespace Go.Proofs.Ytjjahfpamjmacaa.G
open Go Go.RowKit Go.Proofs
/-! ## of all laws: enough fuel -/
def Ev (p : Nat → Prop) : Prop := ∃ K, ∀ k, K ≤ k → p k
theorem Ev.mono {p q : Nat → Prop} (h : Ev p) (f : ∀ k, p k → q k) : Ev q := by
  obtain ⟨K, hK⟩ := h
  exact ⟨K, fun k hk => f k (hK k hk)⟩
theorem Ev.and {p q : Nat → Prop} (h : Ev p) (h2 : Ev q) : Ev fun k => p k ∧ q k := by
  obtain ⟨K, hK⟩ := h
  obtain ⟨L, hL⟩ := h2
  exact ⟨max K L, fun k hk => ⟨hK k (by omega), hL k (by omega)⟩⟩
theorem Ev.of {p : Nat → Prop} (K : Nat) (h : ∀ k, p (k + K)) : Ev p := ⟨K, fun k hk => by have := h (k - K); rwa [Nat.sub_add_cancel hk] at this⟩
theorem Ev.all {p : Nat → Prop} (h : ∀ k, p k) : Ev p := ⟨0, fun k _ => h k⟩
/-- behind one round -/
theorem Ev.succ {p : Nat → Prop} (h : Ev fun k => p (k + 1)) : Ev p := by
  obtain ⟨K, hK⟩ := h
  refine ⟨K + 1, fun k hk => ?_⟩
  have h1 := hK (k - 1) (by omega)
  have e : k - 1 + 1 = k := by omega
  rw [← e]
  exact h1
theorem Ev.get {p : Nat → Prop} (h : Ev p) : ∃ k, p k := by
  obtain ⟨K, hK⟩ := h
  exact ⟨K, hK K (Nat.le_refl _)⟩
theorem wr {x : Int} (h0 : -9223372036854775808 ≤ x) (h1 : x < 9223372036854775808) : IntKind.i64.wrap x = x := by
  simp only [IntKind.wrap, IntKind.bits, IntKind.signed]
  simp
  omega
theorem wr8 {x : Int} (h0 : 0 ≤ x) (h1 : x < 256) : IntKind.u8.wrap x = x := by
  simp only [IntKind.wrap, IntKind.bits, IntKind.signed]
  simp
  omega
theorem wr8_lt (x : Int) : 0 ≤ IntKind.u8.wrap x ∧ IntKind.u8.wrap x < 256 := by
  simp only [IntKind.wrap, IntKind.bits, IntKind.signed]
  simp
  omega
theorem wu64 {x : Int} (h0 : 0 ≤ x) (h1 : x < 18446744073709551616) : IntKind.u64.wrap x = x := by
  simp only [IntKind.wrap, IntKind.bits, IntKind.signed]
  simp
  omega

/-! ## words as numbers -/
theorem wrapu (k : IntKind) (hk : k.signed = false) (x : Nat) (h : x < 2 ^ k.bits) : k.wrap (x : Int) = x := by
  cases k <;> simp [IntKind.signed] at hk <;> simp [IntKind.wrap, IntKind.bits, IntKind.signed] at h ⊢ <;> omega
theorem wrapi (k : IntKind) (x : Nat) (h : x < 2 ^ (k.bits - 1)) : k.wrap (x : Int) = x := by
  cases k <;> simp [IntKind.wrap, IntKind.bits, IntKind.signed] at h ⊢ <;> omega
theorem ofInt_nat (n : Nat) (x : Nat) : BitVec.ofInt n (x : Int) = BitVec.ofNat n x := by simp
theorem iand_i (k : IntKind) (x y : Nat) (hx : x < 2 ^ (k.bits - 1)) (hy : y < 2 ^ (k.bits - 1)) : iand k (x : Int) (y : Int) = ((x &&& y : Nat) : Int) := by
  have hle : 2 ^ (k.bits - 1) ≤ 2 ^ k.bits := Nat.pow_le_pow_right (by decide) (by omega)
  unfold iand
  rw [ofInt_nat, ofInt_nat, BitVec.toNat_and, BitVec.toNat_ofNat, BitVec.toNat_ofNat, Nat.mod_eq_of_lt (by omega), Nat.mod_eq_of_lt (by omega)]
  exact wrapi k _ (Nat.lt_of_le_of_lt Nat.and_le_left hx)
theorem iand_u (k : IntKind) (hk : k.signed = false) (x y : Nat) (hx : x < 2 ^ k.bits) (hy : y < 2 ^ k.bits) : iand k (x : Int) (y : Int) = ((x &&& y : Nat) : Int) := by
  unfold iand
  rw [ofInt_nat, ofInt_nat, BitVec.toNat_and, BitVec.toNat_ofNat, BitVec.toNat_ofNat, Nat.mod_eq_of_lt hx, Nat.mod_eq_of_lt hy]
  exact wrapu k hk _ (Nat.lt_of_le_of_lt Nat.and_le_left hx)
theorem ior_i (k : IntKind) (x y : Nat) (hx : x < 2 ^ (k.bits - 1)) (hy : y < 2 ^ (k.bits - 1)) : ior k (x : Int) (y : Int) = ((x ||| y : Nat) : Int) := by
  have hle : 2 ^ (k.bits - 1) ≤ 2 ^ k.bits := Nat.pow_le_pow_right (by decide) (by omega)
  unfold ior
  rw [ofInt_nat, ofInt_nat, BitVec.toNat_or, BitVec.toNat_ofNat, BitVec.toNat_ofNat, Nat.mod_eq_of_lt (by omega), Nat.mod_eq_of_lt (by omega)]
  exact wrapi k _ (Nat.or_lt_two_pow hx hy)
theorem ior_u (k : IntKind) (hk : k.signed = false) (x y : Nat) (hx : x < 2 ^ k.bits) (hy : y < 2 ^ k.bits) : ior k (x : Int) (y : Int) = ((x ||| y : Nat) : Int) := by
  unfold ior
  rw [ofInt_nat, ofInt_nat, BitVec.toNat_or, BitVec.toNat_ofNat, BitVec.toNat_ofNat, Nat.mod_eq_of_lt hx, Nat.mod_eq_of_lt hy]
  exact wrapu k hk _ (Nat.or_lt_two_pow hx hy)
theorem ixor_u (k : IntKind) (hk : k.signed = false) (x y : Nat) (hx : x < 2 ^ k.bits) (hy : y < 2 ^ k.bits) : ixor k (x : Int) (y : Int) = ((x ^^^ y : Nat) : Int) := by
  unfold ixor
  rw [ofInt_nat, ofInt_nat, BitVec.toNat_xor, BitVec.toNat_ofNat, BitVec.toNat_ofNat, Nat.mod_eq_of_lt hx, Nat.mod_eq_of_lt hy]
  exact wrapu k hk _ (Nat.xor_lt_two_pow hx hy)
theorem ishr_n (k : IntKind) (x s : Nat) (hs : s ≤ k.bits) : ishr k (x : Int) (s : Int) = ((x / 2 ^ s : Nat) : Int) := by
  unfold ishr
  rw [Int.toNat_natCast, Nat.min_eq_left hs, show (2 : Int) ^ s = ((2 ^ s : Nat) : Int) by simp, Int.fdiv_eq_ediv_of_nonneg _ (Int.natCast_nonneg _)]
  exact (Int.natCast_ediv _ _).symm
theorem ishl_i (k : IntKind) (x s : Nat) (hs : s ≤ k.bits) (h : x * 2 ^ s < 2 ^ (k.bits - 1)) : ishl k (x : Int) (s : Int) = ((x * 2 ^ s : Nat) : Int) := by
  unfold ishl
  rw [Int.toNat_natCast, Nat.min_eq_left hs, show (2 : Int) ^ s = ((2 ^ s : Nat) : Int) by simp, ← Int.natCast_mul]
  exact wrapi k _ h
theorem ishl_u (k : IntKind) (hk : k.signed = false) (x s : Nat) (hs : s ≤ k.bits) (h : x * 2 ^ s < 2 ^ k.bits) : ishl k (x : Int) (s : Int) = ((x * 2 ^ s : Nat) : Int) := by
  unfold ishl
  rw [Int.toNat_natCast, Nat.min_eq_left hs, show (2 : Int) ^ s = ((2 ^ s : Nat) : Int) by simp, ← Int.natCast_mul]
  exact wrapu k hk _ h
theorem wf_nat {k : IntKind} {x : Int} (hk : k.signed = false) (h : (Lit.int k x).wf = true) : ∃ n : Nat, x = n ∧ n < 2 ^ k.bits := by
  refine ⟨x.toNat, ?_⟩
  cases k <;> simp [IntKind.signed] at hk <;> simp [Lit.wf, IntKind.min, IntKind.max, IntKind.bits, IntKind.signed] at h ⊢ <;> omega

open Go.ChangeShapes Go.WideShapes
theorem opens_Hash : OpensAs Try.prog pHash 38 := opens_vec Try.underlying38 Try.underlying5 (by kernel_rfl) (by kernel_rfl)
theorem opens_U256 : OpensAs Try.prog pU256 44 := opens_vec Try.underlying44 Try.underlying42 (by kernel_rfl) (by kernel_rfl)
theorem opens_Header : OpensAs Try.prog pHeader 41 := ⟨by kernel_rfl, fun H enc w base sp held fuel cs x hl h => by
  have hl' : cs.length = 68 := hl
  obtain ⟨a0, e0⟩ := open_field (p := (Pl.int .u32)) Try.underlying41 h 0 _ rfl (opens_int Try.underlying39 (by kernel_rfl)) (by show 0 + 1 ≤ cs.length; omega)
  have e0 : (cs.drop 0).take 1 = ((Pl.int .u32)).enc a0 := e0
  have c0 : cs.drop 0 = (cs.drop 0).take 1 ++ cs.drop 1 := cut cs 0 1
  rw [e0] at c0
  obtain ⟨a1, e1⟩ := open_field (p := pHash) Try.underlying41 h 1 _ rfl (opens_Hash) (by show 1 + 32 ≤ cs.length; omega)
  have e1 : (cs.drop 1).take 32 = (pHash).enc a1 := e1
  have c1 : cs.drop 1 = (cs.drop 1).take 32 ++ cs.drop 33 := cut cs 1 32
  rw [e1] at c1
  obtain ⟨a2, e2⟩ := open_field (p := pHash) Try.underlying41 h 2 _ rfl (opens_Hash) (by show 33 + 32 ≤ cs.length; omega)
  have e2 : (cs.drop 33).take 32 = (pHash).enc a2 := e2
  have c2 : cs.drop 33 = (cs.drop 33).take 32 ++ cs.drop 65 := cut cs 33 32
  rw [e2] at c2
  obtain ⟨a3, e3⟩ := open_field (p := (Pl.int .u32)) Try.underlying41 h 3 _ rfl (opens_int Try.underlying39 (by kernel_rfl)) (by show 65 + 1 ≤ cs.length; omega)
  have e3 : (cs.drop 65).take 1 = ((Pl.int .u32)).enc a3 := e3
  have c3 : cs.drop 65 = (cs.drop 65).take 1 ++ cs.drop 66 := cut cs 65 1
  rw [e3] at c3
  obtain ⟨a4, e4⟩ := open_field (p := (Pl.int .u32)) Try.underlying41 h 4 _ rfl (opens_int Try.underlying39 (by kernel_rfl)) (by show 66 + 1 ≤ cs.length; omega)
  have e4 : (cs.drop 66).take 1 = ((Pl.int .u32)).enc a4 := e4
  have c4 : cs.drop 66 = (cs.drop 66).take 1 ++ cs.drop 67 := cut cs 66 1
  rw [e4] at c4
  obtain ⟨a5, e5⟩ := open_field (p := (Pl.int .u32)) Try.underlying41 h 5 _ rfl (opens_int Try.underlying39 (by kernel_rfl)) (by show 67 + 1 ≤ cs.length; omega)
  have e5 : (cs.drop 67).take 1 = ((Pl.int .u32)).enc a5 := e5
  have c5 : cs.drop 67 = (cs.drop 67).take 1 ++ cs.drop 68 := cut cs 67 1
  rw [e5] at c5
  have z : cs.drop 68 = [] := List.drop_of_length_le (by omega)
  rw [c1, c2, c3, c4, c5, z] at c0
  exact ⟨⟨a0, a1, a2, a3, a4, a5⟩, c0⟩⟩
theorem opens_Node : OpensAs Try.prog pNode 46 := ⟨by kernel_rfl, fun H enc w base sp held fuel cs x hl h => by
  have hl' : cs.length = 106 := hl
  obtain ⟨a0, e0⟩ := open_field (p := pHeader) Try.underlying46 h 0 _ rfl (opens_Header) (by show 0 + 68 ≤ cs.length; omega)
  have e0 : (cs.drop 0).take 68 = (pHeader).enc a0 := e0
  have c0 : cs.drop 0 = (cs.drop 0).take 68 ++ cs.drop 68 := cut cs 0 68
  rw [e0] at c0
  obtain ⟨a1, e1⟩ := open_field (p := pHash) Try.underlying46 h 1 _ rfl (opens_Hash) (by show 68 + 32 ≤ cs.length; omega)
  have e1 : (cs.drop 68).take 32 = (pHash).enc a1 := e1
  have c1 : cs.drop 68 = (cs.drop 68).take 32 ++ cs.drop 100 := cut cs 68 32
  rw [e1] at c1
  obtain ⟨a2, e2⟩ := open_field (p := (Pl.int .i64)) Try.underlying46 h 2 _ rfl (opens_int Try.underlying3 (by kernel_rfl)) (by show 100 + 1 ≤ cs.length; omega)
  have e2 : (cs.drop 100).take 1 = ((Pl.int .i64)).enc a2 := e2
  have c2 : cs.drop 100 = (cs.drop 100).take 1 ++ cs.drop 101 := cut cs 100 1
  rw [e2] at c2
  obtain ⟨a3, e3⟩ := open_field (p := (Pl.int .i64)) Try.underlying46 h 3 _ rfl (opens_int Try.underlying3 (by kernel_rfl)) (by show 101 + 1 ≤ cs.length; omega)
  have e3 : (cs.drop 101).take 1 = ((Pl.int .i64)).enc a3 := e3
  have c3 : cs.drop 101 = (cs.drop 101).take 1 ++ cs.drop 102 := cut cs 101 1
  rw [e3] at c3
  obtain ⟨a4, e4⟩ := open_field (p := pU256) Try.underlying46 h 4 _ rfl (opens_U256) (by show 102 + 4 ≤ cs.length; omega)
  have e4 : (cs.drop 102).take 4 = (pU256).enc a4 := e4
  have c4 : cs.drop 102 = (cs.drop 102).take 4 ++ cs.drop 106 := cut cs 102 4
  rw [e4] at c4
  have z : cs.drop 106 = [] := List.drop_of_length_le (by omega)
  rw [c1, c2, c3, c4, z] at c0
  exact ⟨⟨a0, a1, a2, a3, a4⟩, c0⟩⟩
instance : Inhabited Node := ⟨Node.z⟩
theorem open_tree {H : Type} {enc : TypeId × Value → H} {W : World} {base b0 : Nat} {sp : Nat → Bool} {held : Bool} {v : Value} {d : DataW H} {ps : List MemPlace} (hval : Value.okWide Try.prog W .any b0 24 v) (hd : DataW.Trod enc Try.prog W base sp held 24 v d ps) :
    ∃ (t : Tree) (A : Option Addr) (c : Nat), v = .agg #[.slice A t.Nodes.length c, .int .i64 t.Best] ∧ Row pNode W A t.Nodes ∧ t.Nodes.length ≤ c := by
  simp only [Value.okWide, Try.underlying24] at hval
  obtain ⟨cs, rfl, h2, _⟩ := hval
  obtain ⟨fuel, hf⟩ := hd
  have hf' : DataW.trod enc Try.prog W base sp held fuel 24 cs.toList = some (d, ps) := hf
  have hc2 : Try.prog.cellsOf 24 = 2 := by kernel_rfl
  have hl : cs.toList.length = 2 := by rw [Array.length_toList, h2, hc2]
  obtain ⟨v0, v1, ecs⟩ : ∃ v0 v1, cs.toList = [v0, v1] := by
    match cs.toList, hl with
    | [a, b], _ => exact ⟨a, b, rfl⟩
  rw [ecs] at hf'
  obtain ⟨xs, n, _, _, _, hlen, hfs⟩ := DataW.trod_struct Try.underlying24 hf'
  have hxl : xs.length = 2 := hlen
  have f0 := hfs 0 _ rfl
  have f1 := hfs 1 _ rfl
  rw [List.getElem?_eq_getElem (by omega)] at f0 f1
  have c22 : Try.prog.cellsOf 22 = 1 := by kernel_rfl
  have c3 : Try.prog.cellsOf 3 = 1 := by kernel_rfl
  have g0 : DataW.trod enc Try.prog W base sp held n 22 (([v0, v1].drop 0).take (Try.prog.cellsOf 22)) = _ := f0
  have g1 : DataW.trod enc Try.prog W base sp held n 3 (([v0, v1].drop 1).take (Try.prog.cellsOf 3)) = _ := f1
  rw [c22] at g0
  rw [c3] at g1
  have g0' : DataW.trod enc Try.prog W base sp held n 22 [v0] = _ := g0
  have g1' : DataW.trod enc Try.prog W base sp held n 3 [v1] = _ := g1
  obtain ⟨b, eb, _, _⟩ := DataW.trod_int Try.underlying3 g1'
  have eb' : v1 = .int .i64 b := (List.cons.inj eb).1
  have hs : ∃ A q c, v0 = .slice A q c := by
    rcases Go.Deep.open_slice Try.underlying22 g0' with ⟨e0, _⟩ | ⟨a, l, c, m, n, D, Pp, e0, _⟩
    · exact ⟨_, _, _, (List.cons.inj e0).1⟩
    · exact ⟨_, _, _, (List.cons.inj e0).1⟩
  obtain ⟨A, q, c, rfl⟩ := hs
  obtain ⟨ns, hq, hrow, hcap⟩ := open_rows (p := pNode) Try.underlying22 opens_Node g0'
  refine ⟨Tree.mk ns b, A, c, ?_, hrow, hcap⟩
  congr 1
  apply Array.toList_inj.1
  rw [ecs, eb']
  show _ = [Value.slice A ns.length c, Value.int .i64 b]
  rw [hq]

def PA (ns : List Node) (i : Nat) : Int := (ns.getD i Node.z).Parent
def HE (ns : List Node) (i : Nat) : Int := (ns.getD i Node.z).Height
/-- what a list of nodes must keep so that every node's line reaches the root -/
structure SN (ns : List Node) : Prop where
  one : 1 ≤ ns.length
  big : ns.length ≤ 4096
  p0 : PA ns 0 = -1
  h0 : HE ns 0 = 0
  low : ∀ i, 0 < i → i < ns.length → 0 ≤ PA ns i
  up : ∀ i, 0 < i → i < ns.length → PA ns i < i
  he : ∀ i, 0 < i → i < ns.length → HE ns i = IntKind.i64.wrap (HE ns (PA ns i).toNat + 1)
theorem SN.heR {ns : List Node} (h : SN ns) : ∀ i, i < ns.length → 0 ≤ HE ns i ∧ HE ns i ≤ i := by
  intro i
  induction i using Nat.strongRecOn with
  | ind i ih =>
    intro hi
    rcases Nat.eq_zero_or_pos i with rfl | hp
    · rw [h.h0]; omega
    · have h1 := h.low i hp hi
      have h2 := h.up i hp hi
      have h3 := ih (PA ns i).toNat (by omega) (by omega)
      have h4 := h.big
      rw [h.he i hp hi, wr (by omega) (by omega)]
      omega
theorem SN.he' {ns : List Node} (h : SN ns) (i : Nat) (hp : 0 < i) (hi : i < ns.length) : HE ns i = HE ns (PA ns i).toNat + 1 := by
  have h1 := h.low i hp hi
  have h2 := h.up i hp hi
  have h3 := h.heR (PA ns i).toNat (by omega)
  have h4 := h.big
  rw [h.he i hp hi, wr (by omega) (by omega)]
theorem SN.root {ns : List Node} (h : SN ns) (i : Nat) (hi : i < ns.length) (hz : HE ns i = 0) : i = 0 := by
  rcases Nat.eq_zero_or_pos i with rfl | hp
  · rfl
  · have h1 := h.low i hp hi
    have h2 := h.up i hp hi
    have h3 := h.heR (PA ns i).toNat (by omega)
    have h4 := h.he' i hp hi
    omega
def okN (ns : List Node) (i : Nat) : Bool :=
  if i = 0 then (PA ns 0 == -1 && HE ns 0 == 0) else (decide (0 ≤ PA ns i) && decide (PA ns i < i) && HE ns i == IntKind.i64.wrap (HE ns (PA ns i).toNat + 1))
def soundB (t : Tree) : Bool := decide (1 ≤ t.Nodes.length) && decide (t.Nodes.length ≤ 4096) && decide (0 ≤ t.Best) && decide (t.Best < (t.Nodes.length : Int)) && (List.range' 0 t.Nodes.length).all (okN t.Nodes)
theorem sound_loop (t : Tree) (hbig : t.Nodes.length ≤ 4096) : ∀ (m F i : Nat), i + m = t.Nodes.length → m + 1 ≤ F → branch_sound.l0 t F (i : Int) = some (if (List.range' i m).all (okN t.Nodes) then .go () else .ret false)
  | 0, F, i, h, hF => by
    obtain ⟨F, rfl⟩ : ∃ q, F = q + 1 := ⟨F - 1, by omega⟩
    rw [branch_sound.l0, if_neg (by simp; omega)]
    rfl
  | m + 1, F, i, h, hF => by
    obtain ⟨F, rfl⟩ : ∃ q, F = q + 1 := ⟨F - 1, by omega⟩
    have ih := sound_loop t hbig m F (i + 1) (by omega) (by omega)
    rw [branch_sound.l0, if_pos (by simp; omega), if_pos ⟨by omega, by omega⟩, List.range'_succ, List.all_cons, wr (x := (i : Int) + 1) (by omega) (by omega), show ((i : Int) + 1) = ((i + 1 : Nat) : Int) by omega]
    simp only [Int.toNat_natCast]
    change Option.bind (if ((i : Int) == 0) = true then (if (PA t.Nodes i != -1) = true then some true else some (HE t.Nodes i != 0)) else some false) _ = _
    rcases Nat.eq_zero_or_pos i with rfl | hp
    · rw [if_pos (by rfl)]
      by_cases h1 : PA t.Nodes 0 = -1
      · by_cases h2 : HE t.Nodes 0 = 0
        · rw [if_neg (by simp [h1]), Option.bind_some, if_neg (by simp [h2]), if_neg (by simp), Option.bind_some, if_neg (by decide), ih]
          have e : okN t.Nodes 0 = true := by simp [okN, h1, h2]
          rw [e, Bool.true_and]
        · rw [if_neg (by simp [h1]), Option.bind_some, if_pos (by simp [h2])]
          simp [okN, h2]
      · rw [if_pos (by simp [h1]), Option.bind_some, if_pos rfl]
        simp [okN, h1]
    · rw [if_neg (by simp; omega), Option.bind_some, if_neg (by decide), if_pos (by simp; omega)]
      change Option.bind (if decide (PA t.Nodes i < 0) = true then some true else if decide (PA t.Nodes i ≥ (i : Int)) = true then some true else if 0 ≤ PA t.Nodes i ∧ PA t.Nodes i < ((t.Nodes.length : Nat) : Int) then some (HE t.Nodes i != IntKind.i64.wrap (HE t.Nodes (PA t.Nodes i).toNat + 1)) else none) _ = _
      by_cases h1 : PA t.Nodes i < 0
      · rw [if_pos (by simpa using h1), Option.bind_some, if_pos rfl]
        simp [okN, show ¬ i = 0 by omega, show ¬ 0 ≤ PA t.Nodes i by omega]
      · by_cases h2 : PA t.Nodes i < i
        · rw [if_neg (by simpa using h1), if_neg (by simpa using h2), if_pos ⟨by omega, by omega⟩, Option.bind_some]
          by_cases h3 : HE t.Nodes i = IntKind.i64.wrap (HE t.Nodes (PA t.Nodes i).toNat + 1)
          · rw [if_neg (by simp [← h3]), ih]
            have e : okN t.Nodes i = true := by simp only [okN, if_neg (show ¬ i = 0 by omega)]; rw [← h3]; simp; omega
            rw [e, Bool.true_and]
          · rw [if_pos (by simp [h3])]
            have e : okN t.Nodes i = false := by simp [okN, show ¬ i = 0 by omega, h3]
            simp [e]
        · rw [if_neg (by simpa using h1), if_pos (by simp; omega), Option.bind_some, if_pos rfl]
          have e : okN t.Nodes i = false := by simp [okN, show ¬ i = 0 by omega, h2]
          simp [e]
theorem refSound_loop (t : Tree) (hbig : t.Nodes.length ≤ 4096) : ∀ (m F i : Nat), 0 < i → i + m = t.Nodes.length → m + 1 ≤ F → ref16_Sound.l0 t F (i : Int) = some (if (List.range' i m).all (okN t.Nodes) then .go () else .ret false)
  | 0, F, i, hp, h, hF => by
    obtain ⟨F, rfl⟩ : ∃ q, F = q + 1 := ⟨F - 1, by omega⟩
    rw [ref16_Sound.l0, if_neg (by simp; omega)]
    rfl
  | m + 1, F, i, hp, h, hF => by
    obtain ⟨F, rfl⟩ : ∃ q, F = q + 1 := ⟨F - 1, by omega⟩
    have ih := refSound_loop t hbig m F (i + 1) (by omega) (by omega) (by omega)
    rw [ref16_Sound.l0, if_pos (by simp; omega), if_pos ⟨by omega, by omega⟩, List.range'_succ, List.all_cons, wr (x := (i : Int) + 1) (by omega) (by omega), show ((i : Int) + 1) = ((i + 1 : Nat) : Int) by omega]
    simp only [Int.toNat_natCast]
    change Option.bind (if decide (PA t.Nodes i < 0) = true then some true else if decide (PA t.Nodes i ≥ (i : Int)) = true then some true else if 0 ≤ (i : Int) ∧ (i : Int) < ((t.Nodes.length : Nat) : Int) then (if 0 ≤ PA t.Nodes i ∧ PA t.Nodes i < ((t.Nodes.length : Nat) : Int) then some (HE t.Nodes i != IntKind.i64.wrap (HE t.Nodes (PA t.Nodes i).toNat + 1)) else none) else none) _ = _
    by_cases h1 : PA t.Nodes i < 0
    · rw [if_pos (by simpa using h1), Option.bind_some, if_pos rfl]
      simp [okN, show ¬ i = 0 by omega, show ¬ 0 ≤ PA t.Nodes i by omega]
    · by_cases h2 : PA t.Nodes i < i
      · rw [if_neg (by simpa using h1), if_neg (by simpa using h2), if_pos ⟨by omega, by omega⟩, if_pos ⟨by omega, by omega⟩, Option.bind_some]
        by_cases h3 : HE t.Nodes i = IntKind.i64.wrap (HE t.Nodes (PA t.Nodes i).toNat + 1)
        · rw [if_neg (by simp [← h3]), ih]
          have e : okN t.Nodes i = true := by simp only [okN, if_neg (show ¬ i = 0 by omega)]; rw [← h3]; simp; omega
          rw [e, Bool.true_and]
        · rw [if_pos (by simp [h3])]
          have e : okN t.Nodes i = false := by simp [okN, show ¬ i = 0 by omega, h3]
          simp [e]
      · rw [if_neg (by simpa using h1), if_pos (by simp; omega), Option.bind_some, if_pos rfl]
        have e : okN t.Nodes i = false := by simp [okN, show ¬ i = 0 by omega, h2]
        simp [e]
theorem sound_ok (t : Tree) : Ev fun k => branch_sound.f k t = some (soundB t) := by
  by_cases hb : 1 ≤ t.Nodes.length ∧ t.Nodes.length ≤ 4096 ∧ 0 ≤ t.Best ∧ t.Best < (t.Nodes.length : Int)
  · obtain ⟨a, b, c, d⟩ := hb
    refine Ev.of (t.Nodes.length + 1) fun k => ?_
    have e : branch_sound.l0 t (k + (t.Nodes.length + 1)) 0 = _ := sound_loop t b t.Nodes.length (k + (t.Nodes.length + 1)) 0 (by omega) (by omega)
    unfold branch_sound.f soundB
    rw [if_neg (by simp; omega), if_neg (by simp; omega), if_neg (by simp; omega), Option.bind_some, if_neg (by simp; omega), e, Option.bind_some]
    rw [decide_eq_true a, decide_eq_true b, decide_eq_true c, decide_eq_true d]
    simp only [Bool.true_and]
    cases (List.range' 0 t.Nodes.length).all (okN t.Nodes) <;> rfl
  · refine Ev.all fun k => ?_
    have e : soundB t = false := by
      unfold soundB
      by_cases a : 1 ≤ t.Nodes.length
      · by_cases b : t.Nodes.length ≤ 4096
        · by_cases c : 0 ≤ t.Best
          · have d : ¬ t.Best < (t.Nodes.length : Int) := fun d => hb ⟨a, b, c, d⟩
            simp [d]
          · simp [c]
        · simp [b]
      · simp [a]
    rw [e]
    unfold branch_sound.f
    by_cases a : t.Nodes.length < 1
    · rw [if_pos (by simp; omega), Option.bind_some, if_pos rfl]
    · by_cases b : t.Nodes.length > 4096
      · rw [if_neg (by simp; omega), if_pos (by simp; omega), Option.bind_some, if_pos rfl]
      · by_cases c : t.Best < 0
        · rw [if_neg (by simp; omega), if_neg (by simp; omega), if_pos (by simpa using c), Option.bind_some, if_pos rfl]
        · rw [if_neg (by simp; omega), if_neg (by simp; omega), if_neg (by simpa using c), Option.bind_some, if_pos (by simp; omega)]
theorem refSound_ok (t : Tree) : Ev fun k => ref16_Sound.f k t = some (soundB t) := by
  by_cases hb : 1 ≤ t.Nodes.length ∧ t.Nodes.length ≤ 4096 ∧ 0 ≤ t.Best ∧ t.Best < (t.Nodes.length : Int)
  · obtain ⟨a, b, c, d⟩ := hb
    refine Ev.of (t.Nodes.length + 1) fun k => ?_
    have e : ref16_Sound.l0 t (k + (t.Nodes.length + 1)) 1 = _ := refSound_loop t b (t.Nodes.length - 1) (k + (t.Nodes.length + 1)) 1 (by omega) (by omega) (by omega)
    have hr : List.range' 0 t.Nodes.length = 0 :: List.range' 1 (t.Nodes.length - 1) := by
      obtain ⟨q, hq⟩ : ∃ q, t.Nodes.length = q + 1 := ⟨t.Nodes.length - 1, by omega⟩
      rw [hq, List.range'_succ]; rfl
    unfold ref16_Sound.f soundB
    rw [if_neg (by simp; omega), if_neg (by simp; omega), if_neg (by simp; omega), if_neg (by simp; omega), if_pos ⟨by omega, by omega⟩, decide_eq_true a, decide_eq_true b, decide_eq_true c, decide_eq_true d, hr, List.all_cons, e]
    simp only [Bool.true_and]
    change Option.bind (if (PA t.Nodes 0 != -1) = true then some true else if 0 ≤ (0 : Int) ∧ (0 : Int) < ((t.Nodes.length : Nat) : Int) then some (HE t.Nodes 0 != 0) else none) _ = _
    by_cases h1 : PA t.Nodes 0 = -1
    · by_cases h2 : HE t.Nodes 0 = 0
      · have e0 : okN t.Nodes 0 = true := by simp [okN, h1, h2]
        rw [if_neg (by simp [h1]), if_pos ⟨by omega, by omega⟩, Option.bind_some, if_neg (by simp [h2]), Option.bind_some, e0, Bool.true_and]
        cases (List.range' 1 (t.Nodes.length - 1)).all (okN t.Nodes) <;> rfl
      · rw [if_neg (by simp [h1]), if_pos ⟨by omega, by omega⟩, Option.bind_some, if_pos (by simp [h2])]
        simp [okN, h2]
    · rw [if_pos (by simp [h1]), Option.bind_some, if_pos rfl]
      simp [okN, h1]
  · refine Ev.all fun k => ?_
    have e : soundB t = false := by
      unfold soundB
      by_cases a : 1 ≤ t.Nodes.length
      · by_cases b : t.Nodes.length ≤ 4096
        · by_cases c : 0 ≤ t.Best
          · have d : ¬ t.Best < (t.Nodes.length : Int) := fun d => hb ⟨a, b, c, d⟩
            simp [d]
          · simp [c]
        · simp [b]
      · simp [a]
    rw [e]
    unfold ref16_Sound.f
    by_cases a : t.Nodes.length < 1
    · rw [if_pos (by simp; omega), Option.bind_some, if_pos rfl]
    · by_cases b : t.Nodes.length > 4096
      · rw [if_neg (by simp; omega), if_pos (by simp; omega), Option.bind_some, if_pos rfl]
      · by_cases c : t.Best < 0
        · rw [if_neg (by simp; omega), if_neg (by simp; omega), if_pos (by simpa using c), Option.bind_some, if_pos rfl]
        · rw [if_neg (by simp; omega), if_neg (by simp; omega), if_neg (by simpa using c), if_pos (by simp; omega), Option.bind_some, if_pos rfl]
structure SoundT (t : Tree) : Prop where
  sn : SN t.Nodes
  b0 : 0 ≤ t.Best
  b1 : t.Best < (t.Nodes.length : Int)
theorem soundT_of {t : Tree} (h : soundB t = true) : SoundT t := by
  simp only [soundB, Bool.and_eq_true, decide_eq_true_eq, List.all_eq_true, List.mem_range'_1] at h
  obtain ⟨⟨⟨⟨a, b⟩, c⟩, d⟩, e⟩ := h
  have e0 := e 0 ⟨by omega, by omega⟩
  simp only [okN, if_pos, Bool.and_eq_true, beq_iff_eq] at e0
  have e1 : ∀ i, 0 < i → i < t.Nodes.length → 0 ≤ PA t.Nodes i ∧ PA t.Nodes i < i ∧ HE t.Nodes i = IntKind.i64.wrap (HE t.Nodes (PA t.Nodes i).toNat + 1) := by
    intro i hp hi
    have := e i ⟨by omega, by omega⟩
    simp only [okN, if_neg (show ¬ i = 0 by omega), Bool.and_eq_true, beq_iff_eq, decide_eq_true_eq] at this
    exact ⟨this.1.1, this.1.2, this.2⟩
  exact ⟨⟨a, b, e0.1, e0.2, fun i p q => (e1 i p q).1, fun i p q => (e1 i p q).2.1, fun i p q => (e1 i p q).2.2⟩, c, d⟩
theorem soundB_of {t : Tree} (h : SoundT t) : soundB t = true := by
  simp only [soundB, Bool.and_eq_true, decide_eq_true_eq, List.all_eq_true, List.mem_range'_1]
  refine ⟨⟨⟨⟨h.sn.one, h.sn.big⟩, h.b0⟩, h.b1⟩, fun i hi => ?_⟩
  rcases Nat.eq_zero_or_pos i with rfl | hp
  · simp [okN, h.sn.p0, h.sn.h0]
  · simp only [okN, if_neg (show ¬ i = 0 by omega), Bool.and_eq_true, beq_iff_eq, decide_eq_true_eq]
    exact ⟨⟨h.sn.low i hp (by omega), h.sn.up i hp (by omega)⟩, h.sn.he i hp (by omega)⟩

/-- a node's line: the root first, the node last -/
def lineN (ns : List Node) : Nat → Int → List Int
  | 0, n => [n]
  | h + 1, n => lineN ns h (PA ns n.toNat) ++ [n]
def lineOf (ns : List Node) (n : Int) : List Int := lineN ns (HE ns n.toNat).toNat n
theorem length_lineN (ns : List Node) : ∀ (h : Nat) (n : Int), (lineN ns h n).length = h + 1
  | 0, n => rfl
  | h + 1, n => by rw [lineN, List.length_append, length_lineN ns h]; rfl
structure IsLine (ns : List Node) (L : List Int) (n : Nat) : Prop where
  len : (L.length : Int) = HE ns n + 1
  rng : ∀ j, j < L.length → ∃ q : Nat, L.getD j 0 = (q : Int) ∧ q < ns.length ∧ HE ns q = (j : Int)
  par : ∀ j, j + 1 < L.length → PA ns (L.getD (j + 1) 0).toNat = L.getD j 0
  last : L.getD (L.length - 1) 0 = (n : Int)
theorem getD_app_lt {α : Type} (a b : List α) (d : α) (i : Nat) (h : i < a.length) : (a ++ b).getD i d = a.getD i d := by
  rw [List.getD_eq_getElem?_getD, List.getD_eq_getElem?_getD, List.getElem?_append_left h]
theorem getD_app_len {α : Type} (a : List α) (x d : α) (i : Nat) (h : i = a.length) : (a ++ [x]).getD i d = x := by
  subst h
  rw [List.getD_eq_getElem?_getD, List.getElem?_append_right (Nat.le_refl _)]
  simp
theorem SN.nat {ns : List Node} (h : SN ns) (i : Nat) (hp : 0 < i) (hi : i < ns.length) : ∃ p : Nat, PA ns i = (p : Int) ∧ p < i ∧ HE ns i = HE ns p + 1 := by
  have h1 := h.low i hp hi
  have h2 := h.up i hp hi
  have h3 := h.he' i hp hi
  exact ⟨(PA ns i).toNat, by omega, by omega, h3⟩
theorem isLine {ns : List Node} (s : SN ns) : ∀ (h i : Nat), i < ns.length → HE ns i = (h : Int) → IsLine ns (lineN ns h (i : Int)) i
  | 0, i, hi, hh => by
    refine ⟨by rw [length_lineN, hh]; rfl, fun j hj => ?_, fun j hj => ?_, rfl⟩
    · have hj0 : j = 0 := by have : j < 1 := hj; omega
      subst hj0
      exact ⟨i, rfl, hi, hh⟩
    · have : j + 1 < 1 := hj
      omega
  | h + 1, i, hi, hh => by
    have hp : 0 < i := by
      rcases Nat.eq_zero_or_pos i with rfl | hp
      · have := s.h0; omega
      · exact hp
    obtain ⟨p, e1, e2, e3⟩ := s.nat i hp hi
    have ih := isLine s h p (by omega) (by omega)
    have hl := length_lineN ns h (p : Int)
    have el : lineN ns (h + 1) (i : Int) = lineN ns h (p : Int) ++ [(i : Int)] := by rw [lineN, Int.toNat_natCast, e1]
    rw [el]
    refine ⟨by rw [List.length_append, hl, hh]; simp, fun j hj => ?_, fun j hj => ?_, ?_⟩
    · rw [List.length_append, List.length_singleton] at hj
      by_cases hlt : j < (lineN ns h (p : Int)).length
      · rw [getD_app_lt _ _ _ _ hlt]; exact ih.rng j hlt
      · rw [getD_app_len _ _ _ _ (by omega)]; exact ⟨i, rfl, hi, by rw [hh]; omega⟩
    · rw [List.length_append, List.length_singleton] at hj
      by_cases hlt : j + 1 < (lineN ns h (p : Int)).length
      · rw [getD_app_lt _ _ _ _ hlt, getD_app_lt _ _ _ _ (by omega)]; exact ih.par j hlt
      · rw [getD_app_len _ _ _ _ (by omega), getD_app_lt _ _ _ _ (by omega), Int.toNat_natCast, e1]
        have := ih.last
        rw [show (lineN ns h (p : Int)).length - 1 = j by omega] at this
        exact this.symm
    · rw [List.length_append, List.length_singleton, Nat.add_sub_cancel, getD_app_len _ _ _ _ rfl]
theorem isLineOf {ns : List Node} (s : SN ns) (i : Nat) (hi : i < ns.length) : IsLine ns (lineOf ns (i : Int)) i := by
  have h := s.heR i hi
  unfold lineOf
  rw [Int.toNat_natCast]
  exact isLine s _ i hi (by omega)
theorem IsLine.zero {ns : List Node} (s : SN ns) {L : List Int} {n : Nat} (h : IsLine ns L n) (hl : 0 < L.length) : L.getD 0 0 = 0 := by
  obtain ⟨q, e, hq, hh⟩ := h.rng 0 hl
  have := s.root q hq (by simpa using hh)
  rw [e, this]; rfl
theorem set_rep (h : Nat) (x : Int) (rest : List Int) : (List.replicate (h + 1) (0 : Int) ++ rest).set h x = List.replicate h 0 ++ x :: rest := by
  have : List.replicate (h + 1) (0 : Int) ++ rest = List.replicate h 0 ++ 0 :: rest := by
    rw [List.replicate_succ', List.append_assoc]; rfl
  rw [this, List.set_append_right _ _ (by simp)]
  simp
theorem chain_loop (t : Tree) (s : SN t.Nodes) (n0 : Int) (cap : Nat) (hcap : (IntKind.i64.wrap (((t.Nodes.getD n0.toNat Node.z).Height) + 1)).toNat = cap) (hc : cap ≤ 5000) :
    ∀ (h k i : Nat) (rest : List Int), i < t.Nodes.length → HE t.Nodes i = (h : Int) → h + 1 ≤ cap →
      branch_chain.l0 t n0 (k + h + 2) (i : Int) (List.replicate (h + 1) 0 ++ rest) (h : Int) = some (lineN t.Nodes h (i : Int) ++ rest)
  | 0, k, i, rest, hi, hh, hr => by
    rw [show k + 0 + 2 = (k + 1) + 1 by omega, branch_chain.l0, hcap, if_pos (by simp), if_pos ⟨by omega, by omega⟩, if_pos ⟨by omega, by omega⟩, branch_chain.l0, wr (by omega) (by omega), if_neg (by simp)]
    simp [lineN]
  | h + 1, k, i, rest, hi, hh, hr => by
    have hp : 0 < i := by
      rcases Nat.eq_zero_or_pos i with rfl | hp
      · have := s.h0; omega
      · exact hp
    obtain ⟨p, e1, e2, e3⟩ := s.nat i hp hi
    have e1' : (t.Nodes.getD (i : Int).toNat Node.z).Parent = (p : Int) := e1
    have ih := chain_loop t s n0 cap hcap hc h k p ((i : Int) :: rest) (by omega) (by omega) (by omega)
    rw [show k + (h + 1) + 2 = (k + h + 2) + 1 by omega, branch_chain.l0, hcap, if_pos (by simp; omega), if_pos ⟨by omega, by omega⟩, if_pos ⟨by omega, by omega⟩, e1', Int.toNat_natCast, set_rep, wr (by omega) (by omega), show (((h + 1 : Nat) : Int) - 1) = (h : Int) by omega, ih, lineN, Int.toNat_natCast, e1]
    simp
theorem chain_ok (t : Tree) (s : SN t.Nodes) (i : Nat) (hi : i < t.Nodes.length) : Ev fun k => branch_chain.f k t (i : Int) = some (lineOf t.Nodes (i : Int)) := by
  have hr := s.heR i hi
  have hb := s.big
  obtain ⟨h, hh⟩ : ∃ h : Nat, HE t.Nodes i = (h : Int) := ⟨(HE t.Nodes i).toNat, by omega⟩
  have e : (t.Nodes.getD (i : Int).toNat Node.z).Height = (h : Int) := hh
  have hw : IntKind.i64.wrap ((h : Int) + 1) = ((h + 1 : Nat) : Int) := by rw [wr (by omega) (by omega)]; omega
  have hcap : (IntKind.i64.wrap (((t.Nodes.getD (i : Int).toNat Node.z).Height) + 1)).toNat = h + 1 := by rw [e, hw, Int.toNat_natCast]
  refine Ev.of (h + 2) fun k => ?_
  have hl := chain_loop t s (i : Int) (h + 1) hcap (by omega) h k i [] hi hh (by omega)
  unfold branch_chain.f
  rw [hcap, e, hw, if_pos ⟨by omega, by omega⟩, if_pos ⟨by omega, by omega⟩, wr (by omega) (by omega), show (((h + 1 : Nat) : Int) - 1) = (h : Int) by omega, ← List.append_nil (List.replicate (h + 1) (0 : Int)), ← Nat.add_assoc, hl, Option.bind_some, List.append_nil]
  unfold lineOf
  rw [Int.toNat_natCast, hh, Int.toNat_natCast]
theorem refLine_loop (t : Tree) (s : SN t.Nodes) (n0 : Int) (cap : Nat) (hcap : (IntKind.i64.wrap (((t.Nodes.getD n0.toNat Node.z).Height) + 1)).toNat = cap) (hc : cap ≤ 5000) :
    ∀ (h k i : Nat) (rest : List Int), i < t.Nodes.length → HE t.Nodes i = (h : Int) → h + 1 ≤ cap →
      ref16_line.l0 t n0 (k + h + 2) (i : Int) (List.replicate (h + 1) 0 ++ rest) = some (lineN t.Nodes h (i : Int) ++ rest)
  | 0, k, i, rest, hi, hh, hr => by
    have hz := s.root i hi (by simpa using hh)
    subst hz
    have e1 : (t.Nodes.getD ((0 : Nat) : Int).toNat Node.z).Parent = -1 := s.p0
    have e2 : (t.Nodes.getD ((0 : Nat) : Int).toNat Node.z).Height = 0 := s.h0
    rw [show k + 0 + 2 = (k + 1) + 1 by omega, ref16_line.l0, hcap, if_pos (by simp), if_pos ⟨by omega, by omega⟩, e2, if_pos ⟨by omega, by omega⟩, if_pos ⟨by omega, by omega⟩, e1, ref16_line.l0, if_neg (by simp)]
    simp [lineN]
  | h + 1, k, i, rest, hi, hh, hr => by
    have hp : 0 < i := by
      rcases Nat.eq_zero_or_pos i with rfl | hp
      · have := s.h0; omega
      · exact hp
    obtain ⟨p, e1, e2, e3⟩ := s.nat i hp hi
    have e1' : (t.Nodes.getD (i : Int).toNat Node.z).Parent = (p : Int) := e1
    have e2' : (t.Nodes.getD (i : Int).toNat Node.z).Height = ((h + 1 : Nat) : Int) := hh
    have ih := refLine_loop t s n0 cap hcap hc h k p ((i : Int) :: rest) (by omega) (by omega) (by omega)
    rw [show k + (h + 1) + 2 = (k + h + 2) + 1 by omega, ref16_line.l0, hcap, if_pos (by simp), if_pos ⟨by omega, by omega⟩, e2', if_pos ⟨by omega, by omega⟩, if_pos ⟨by omega, by omega⟩, e1', Int.toNat_natCast, set_rep, ih, lineN, Int.toNat_natCast, e1]
    simp
theorem refLine_ok (t : Tree) (s : SN t.Nodes) (i : Nat) (hi : i < t.Nodes.length) : Ev fun k => ref16_line.f k t (i : Int) = some (lineOf t.Nodes (i : Int)) := by
  have hr := s.heR i hi
  have hb := s.big
  obtain ⟨h, hh⟩ : ∃ h : Nat, HE t.Nodes i = (h : Int) := ⟨(HE t.Nodes i).toNat, by omega⟩
  have e : (t.Nodes.getD (i : Int).toNat Node.z).Height = (h : Int) := hh
  have hw : IntKind.i64.wrap ((h : Int) + 1) = ((h + 1 : Nat) : Int) := by rw [wr (by omega) (by omega)]; omega
  have hcap : (IntKind.i64.wrap (((t.Nodes.getD (i : Int).toNat Node.z).Height) + 1)).toNat = h + 1 := by rw [e, hw, Int.toNat_natCast]
  refine Ev.of (h + 2) fun k => ?_
  have hl := refLine_loop t s (i : Int) (h + 1) hcap (by omega) h k i [] hi hh (by omega)
  unfold ref16_line.f
  rw [hcap, e, hw, if_pos ⟨by omega, by omega⟩, if_pos ⟨by omega, by omega⟩, ← List.append_nil (List.replicate (h + 1) (0 : Int)), ← Nat.add_assoc, hl, Option.bind_some, List.append_nil]
  unfold lineOf
  rw [Int.toNat_natCast, hh, Int.toNat_natCast]

/-- how far two lists agree -/
def cp : List Int → List Int → Nat
  | x :: xs, y :: ys => if x = y then cp xs ys + 1 else 0
  | _, _ => 0
theorem cp_le : ∀ a b : List Int, cp a b ≤ a.length ∧ cp a b ≤ b.length
  | [], b => by simp [cp]
  | x :: xs, [] => by simp [cp]
  | x :: xs, y :: ys => by
    have := cp_le xs ys
    rw [cp]
    split <;> simp <;> omega
theorem cp_eq : ∀ (a b : List Int) (j : Nat), j < cp a b → a.getD j 0 = b.getD j 0
  | [], b, j, h => by simp [cp] at h
  | x :: xs, [], j, h => by simp [cp] at h
  | x :: xs, y :: ys, j, h => by
    rw [cp] at h
    split at h
    next e =>
      cases j with
      | zero => simpa using e
      | succ j =>
        have := cp_eq xs ys j (by omega)
        simpa using this
    next => omega
theorem cp_ne : ∀ (a b : List Int), cp a b < a.length → cp a b < b.length → a.getD (cp a b) 0 ≠ b.getD (cp a b) 0
  | [], b, h, _ => by simp at h
  | x :: xs, [], _, h => by simp at h
  | x :: xs, y :: ys, h1, h2 => by
    rw [cp] at h1 h2 ⊢
    by_cases e : x = y
    · rw [if_pos e] at h1 h2 ⊢
      have := cp_ne xs ys (by simpa using h1) (by simpa using h2)
      simpa using this
    · rw [if_neg e]
      simpa using e
theorem cp_comm : ∀ a b : List Int, cp a b = cp b a
  | [], [] => rfl
  | [], _ :: _ => rfl
  | _ :: _, [] => rfl
  | x :: xs, y :: ys => by
    rw [cp, cp, cp_comm xs ys]
    by_cases e : x = y
    · rw [if_pos e, if_pos e.symm]
    · rw [if_neg e, if_neg (fun h => e h.symm)]
theorem cp_pos {a b : List Int} (ha : 0 < a.length) (hb : 0 < b.length) (h : a.getD 0 0 = b.getD 0 0) : 0 < cp a b := by
  cases a with
  | nil => simp at ha
  | cons x xs =>
    cases b with
    | nil => simp at hb
    | cons y ys =>
      have e : x = y := by simpa using h
      rw [cp, if_pos e]; omega
theorem common_loop (a b : List Int) (ha : a.length ≤ 5000) : ∀ (m F h : Nat), h + 1 + m = cp a b → m + 1 ≤ F → branch_common.l0 a b F (h : Int) = some ((h + m : Nat) : Int)
  | 0, F, h, e, hF => by
    obtain ⟨F, rfl⟩ : ∃ q, F = q + 1 := ⟨F - 1, by omega⟩
    have hc := cp_le a b
    rw [branch_common.l0, wr (by omega) (by omega), show ((h : Int) + 1) = ((h + 1 : Nat) : Int) by omega]
    by_cases h1 : h + 1 < a.length
    · by_cases h2 : h + 1 < b.length
      · have hn := cp_ne a b (by omega) (by omega)
        rw [show cp a b = h + 1 by omega] at hn
        rw [if_pos (by simp; omega), if_pos (by simp; omega), if_pos ⟨by omega, by omega⟩, if_pos ⟨by omega, by omega⟩, Int.toNat_natCast, Option.bind_some, if_neg (by simpa using hn)]
        rfl
      · rw [if_pos (by simp; omega), if_neg (by simp; omega), Option.bind_some, if_neg (by decide)]
        rfl
    · rw [if_neg (by simp; omega), Option.bind_some, if_neg (by decide)]
      rfl
  | m + 1, F, h, e, hF => by
    obtain ⟨F, rfl⟩ : ∃ q, F = q + 1 := ⟨F - 1, by omega⟩
    have hc := cp_le a b
    have he := cp_eq a b (h + 1) (by omega)
    have ih := common_loop a b ha m F (h + 1) (by omega) (by omega)
    rw [branch_common.l0, wr (by omega) (by omega), show ((h : Int) + 1) = ((h + 1 : Nat) : Int) by omega, if_pos (by simp; omega), if_pos (by simp; omega), if_pos ⟨by omega, by omega⟩, if_pos ⟨by omega, by omega⟩, Int.toNat_natCast, he, Option.bind_some, if_pos (by simp), ih]
    congr 2
    omega
theorem common_ok (a b : List Int) (ha : a.length ≤ 5000) (h : 0 < cp a b) : Ev fun k => branch_common.f k a b = some ((cp a b - 1 : Nat) : Int) := by
  refine Ev.of (cp a b + 1) fun k => ?_
  have e : branch_common.l0 a b (k + (cp a b + 1)) 0 = _ := common_loop a b ha (cp a b - 1) (k + (cp a b + 1)) 0 (by omega) (by omega)
  unfold branch_common.f
  rw [e, Option.bind_some, Nat.zero_add]
theorem fork_loop (a b : List Int) (ha : a.length ≤ 5000) : ∀ (m F i : Nat) (out : Int), i + m = cp a b → m + 1 ≤ F → ref16_Fork.l0 a b F out (i : Int) = some (if m = 0 then out else a.getD (cp a b - 1) 0)
  | 0, F, i, out, e, hF => by
    obtain ⟨F, rfl⟩ : ∃ q, F = q + 1 := ⟨F - 1, by omega⟩
    have hc := cp_le a b
    rw [ref16_Fork.l0, if_pos rfl]
    by_cases h1 : i < a.length
    · by_cases h2 : i < b.length
      · have hn := cp_ne a b (by omega) (by omega)
        rw [show cp a b = i by omega] at hn
        rw [if_pos (by simp; omega), if_pos (by simp; omega), if_pos ⟨by omega, by omega⟩, if_pos ⟨by omega, by omega⟩, Int.toNat_natCast, Option.bind_some, if_neg (by simpa using hn)]
      · rw [if_pos (by simp; omega), if_neg (by simp; omega), Option.bind_some, if_neg (by decide)]
    · rw [if_neg (by simp; omega), Option.bind_some, if_neg (by decide)]
  | m + 1, F, i, out, e, hF => by
    obtain ⟨F, rfl⟩ : ∃ q, F = q + 1 := ⟨F - 1, by omega⟩
    have hc := cp_le a b
    have he := cp_eq a b i (by omega)
    have ih := fork_loop a b ha m F (i + 1) (a.getD i 0) (by omega) (by omega)
    rw [ref16_Fork.l0, if_pos (by simp; omega), if_pos (by simp; omega), if_pos ⟨by omega, by omega⟩, if_pos ⟨by omega, by omega⟩, Int.toNat_natCast, ← he, Option.bind_some, if_pos (by simp), if_pos ⟨by omega, by omega⟩, wr (by omega) (by omega), show ((i : Int) + 1) = ((i + 1 : Nat) : Int) by omega, ih, if_neg (show ¬ m + 1 = 0 by omega)]
    by_cases hm : m = 0
    · rw [if_pos hm, show cp a b - 1 = i by omega]
    · rw [if_neg hm]
theorem has_ok (t : Tree) (l : List Int) (hl : l.length ≤ 10) : Ev fun k => branch_has.f k t l = some (l.all (fun x => decide (0 ≤ x) && decide (x < (t.Nodes.length : Int))) && soundB t) := by
  have lp : ∀ (m F i : Nat), i + m = l.length → m + 1 ≤ F → branch_has.l0 t l F (i : Int) = some (if (l.drop i).all (fun x => decide (0 ≤ x) && decide (x < (t.Nodes.length : Int))) then .go () else .ret false) := by
    intro m
    induction m with
    | zero =>
      intro F i h hF
      obtain ⟨F, rfl⟩ : ∃ q, F = q + 1 := ⟨F - 1, by omega⟩
      rw [branch_has.l0, if_neg (by simp; omega), List.drop_of_length_le (by omega)]
      rfl
    | succ m ih =>
      intro F i h hF
      obtain ⟨F, rfl⟩ : ∃ q, F = q + 1 := ⟨F - 1, by omega⟩
      have hi : i < l.length := by omega
      have ih := ih F (i + 1) (by omega) (by omega)
      have hg : l.getD (i : Int).toNat 0 = l[i] := by rw [Int.toNat_natCast, List.getD_eq_getElem?_getD, List.getElem?_eq_getElem hi]; rfl
      rw [branch_has.l0, if_pos (by simp; omega), if_pos ⟨by omega, by omega⟩, hg, wr (by omega) (by omega), show ((i : Int) + 1) = ((i + 1 : Nat) : Int) by omega, List.drop_eq_getElem_cons hi, List.all_cons]
      by_cases h1 : l[i] < 0
      · rw [if_pos (by simpa using h1), Option.bind_some, if_pos rfl]
        simp [show ¬ 0 ≤ l[i] by omega]
      · by_cases h2 : l[i] < (t.Nodes.length : Int)
        · rw [if_neg (by simpa using h1), Option.bind_some, if_neg (by simpa using h2), ih, decide_eq_true (show 0 ≤ l[i] by omega), decide_eq_true h2, Bool.true_and, Bool.true_and]
        · rw [if_neg (by simpa using h1), Option.bind_some, if_pos (by simp; omega)]
          simp [h2]
  refine ((Ev.of (p := fun k => branch_has.l0 t l k ((0 : Nat) : Int) = some (if (l.drop 0).all (fun x => decide (0 ≤ x) && decide (x < (t.Nodes.length : Int))) then .go () else .ret false)) (l.length + 1) fun k => lp l.length (k + (l.length + 1)) 0 (by omega) (by omega)).and (sound_ok t)).mono fun k ⟨h1, h2⟩ => ?_
  have h1' : branch_has.l0 t l k 0 = _ := h1
  unfold branch_has.f
  rw [h1', Option.bind_some, List.drop_zero]
  cases l.all (fun x => decide (0 ≤ x) && decide (x < (t.Nodes.length : Int))) with
  | true =>
    have h2' : branch_sound.f k (Tree.mk t.Nodes t.Best) = _ := h2
    rw [if_pos rfl]
    dsimp only
    rw [h2', Option.bind_some, Bool.true_and]
  | false => rfl
theorem node_ok (t : Tree) (x : Int) : Ev fun k => ref16_node.f k t x = some ((decide (0 ≤ x) && decide (x < (t.Nodes.length : Int))) && soundB t) := by
  refine (refSound_ok t).mono fun k h => ?_
  have h' : ref16_Sound.f k (Tree.mk t.Nodes t.Best) = _ := h
  unfold ref16_node.f
  by_cases h1 : 0 ≤ x
  · by_cases h2 : x < (t.Nodes.length : Int)
    · rw [if_pos (by simpa using h1), if_pos (by simpa using h2), h', Option.bind_some, Option.bind_some, decide_eq_true h1, decide_eq_true h2, Bool.true_and, Bool.true_and]
    · rw [if_pos (by simpa using h1), if_neg (by simpa using h2), Option.bind_some]
      simp [h2]
  · rw [if_neg (by simpa using h1), Option.bind_some]
    simp [h1]
/-- the answers, as values -/
def inT (t : Tree) (x : Int) : Bool := decide (0 ≤ x) && decide (x < (t.Nodes.length : Int))
def mainV (t : Tree) : List Int := if soundB t then lineOf t.Nodes t.Best else []
def forkV (t : Tree) (a b : Int) : Int := if inT t a && inT t b && soundB t then (lineOf t.Nodes a).getD (cp (lineOf t.Nodes a) (lineOf t.Nodes b) - 1) 0 else -1
def ancV (t : Tree) (n h : Int) : Int := if inT t n && soundB t && decide (0 ≤ h) && decide (h ≤ HE t.Nodes n.toNat) then (lineOf t.Nodes n).getD h.toNat 0 else -1
def upV (t : Tree) (a b : Int) : List Int := if inT t a && inT t b && soundB t then ((lineOf t.Nodes a).drop (cp (lineOf t.Nodes a) (lineOf t.Nodes b))).reverse else []
def downV (t : Tree) (a b : Int) : List Int := if inT t a && inT t b && soundB t then (lineOf t.Nodes b).drop (cp (lineOf t.Nodes a) (lineOf t.Nodes b)) else []
theorem line_len {t : Tree} (s : SN t.Nodes) (i : Nat) (hi : i < t.Nodes.length) : ((lineOf t.Nodes (i : Int)).length : Int) = HE t.Nodes i + 1 ∧ (lineOf t.Nodes (i : Int)).length ≤ 4097 ∧ 0 < (lineOf t.Nodes (i : Int)).length := by
  have h1 := (isLineOf s i hi).len
  have h2 := s.heR i hi
  have h3 := s.big
  exact ⟨h1, by omega, by omega⟩
theorem lines_cp {t : Tree} (s : SN t.Nodes) (i j : Nat) (hi : i < t.Nodes.length) (hj : j < t.Nodes.length) : 0 < cp (lineOf t.Nodes (i : Int)) (lineOf t.Nodes (j : Int)) :=
  cp_pos (line_len s i hi).2.2 (line_len s j hj).2.2 (by rw [(isLineOf s i hi).zero s (line_len s i hi).2.2, (isLineOf s j hj).zero s (line_len s j hj).2.2])
theorem inT_nat {t : Tree} {x : Int} (h : inT t x = true) : ∃ i : Nat, x = (i : Int) ∧ i < t.Nodes.length := by
  simp only [inT, Bool.and_eq_true, decide_eq_true_eq] at h
  exact ⟨x.toNat, by omega, by omega⟩
theorem fork_ok (t : Tree) (a b : Int) : Ev fun k => branch_Fork.f k t a b = some (forkV t a b) := by
  have hh := has_ok t [a, b] (by simp)
  have eh : ([a, b].all (fun x => decide (0 ≤ x) && decide (x < (t.Nodes.length : Int))) && soundB t) = (inT t a && inT t b && soundB t) := by simp [inT]
  rw [eh] at hh
  cases hc : (inT t a && inT t b && soundB t) with
  | false =>
    refine hh.mono fun k h => ?_
    have h' : branch_has.f k (Tree.mk t.Nodes t.Best) [a, b] = _ := h
    unfold branch_Fork.f forkV
    rw [h', hc, Option.bind_some]
    rfl
  | true =>
    have hc' := hc
    simp only [Bool.and_eq_true] at hc'
    obtain ⟨i, rfl, hi⟩ := inT_nat hc'.1.1
    obtain ⟨j, rfl, hj⟩ := inT_nat hc'.1.2
    have s := (soundT_of hc'.2).sn
    have hl := line_len s i hi
    have hcp := lines_cp s i j hi hj
    have hle := cp_le (lineOf t.Nodes (i : Int)) (lineOf t.Nodes (j : Int))
    refine (hh.and ((chain_ok t s i hi).and ((chain_ok t s j hj).and (common_ok _ _ (by omega) hcp)))).mono fun k ⟨h, h1, h2, h3⟩ => ?_
    have h' : branch_has.f k (Tree.mk t.Nodes t.Best) [(i : Int), (j : Int)] = _ := h
    have h1' : branch_chain.f k (Tree.mk t.Nodes t.Best) (i : Int) = _ := h1
    have h2' : branch_chain.f k (Tree.mk t.Nodes t.Best) (j : Int) = _ := h2
    unfold branch_Fork.f forkV
    rw [h', hc, Option.bind_some, if_neg (by decide), h1', Option.bind_some, h2', Option.bind_some, h3, Option.bind_some, if_pos ⟨by omega, by omega⟩, if_pos rfl, Int.toNat_natCast]
theorem refFork_ok (t : Tree) (a b : Int) : Ev fun k => ref16_Fork.f k t a b = some (forkV t a b) := by
  have ha := node_ok t a
  have hb := node_ok t b
  change Ev fun k => ref16_node.f k t a = some (inT t a && soundB t) at ha
  change Ev fun k => ref16_node.f k t b = some (inT t b && soundB t) at hb
  cases hc : (inT t a && inT t b && soundB t) with
  | false =>
    refine (ha.and hb).mono fun k ⟨h1, h2⟩ => ?_
    have h1' : ref16_node.f k (Tree.mk t.Nodes t.Best) a = _ := h1
    have h2' : ref16_node.f k (Tree.mk t.Nodes t.Best) b = _ := h2
    unfold ref16_Fork.f forkV
    rw [h1', Option.bind_some, h2', hc]
    revert hc
    cases inT t a <;> cases inT t b <;> cases soundB t <;> intro hc <;> first | rfl | exact absurd hc (by decide)
  | true =>
    have hc' := hc
    simp only [Bool.and_eq_true] at hc'
    obtain ⟨i, rfl, hi⟩ := inT_nat hc'.1.1
    obtain ⟨j, rfl, hj⟩ := inT_nat hc'.1.2
    have s := (soundT_of hc'.2).sn
    have hl := line_len s i hi
    have hcp := lines_cp s i j hi hj
    have hfl := Ev.of (p := fun k => ref16_Fork.l0 (lineOf t.Nodes (i : Int)) (lineOf t.Nodes (j : Int)) k 0 0 = some (if cp (lineOf t.Nodes (i : Int)) (lineOf t.Nodes (j : Int)) = 0 then 0 else (lineOf t.Nodes (i : Int)).getD (cp (lineOf t.Nodes (i : Int)) (lineOf t.Nodes (j : Int)) - 1) 0)) (cp (lineOf t.Nodes (i : Int)) (lineOf t.Nodes (j : Int)) + 1) fun k => fork_loop _ _ (by omega) _ _ 0 0 (by omega) (by omega)
    refine (ha.and (hb.and ((refLine_ok t s i hi).and ((refLine_ok t s j hj).and hfl)))).mono fun k ⟨h1, h2, h3, h4, h5⟩ => ?_
    have h1' : ref16_node.f k (Tree.mk t.Nodes t.Best) (i : Int) = _ := h1
    have h2' : ref16_node.f k (Tree.mk t.Nodes t.Best) (j : Int) = _ := h2
    have h3' : ref16_line.f k (Tree.mk t.Nodes t.Best) (i : Int) = _ := h3
    have h4' : ref16_line.f k (Tree.mk t.Nodes t.Best) (j : Int) = _ := h4
    unfold ref16_Fork.f forkV
    rw [h1', h2', hc'.1.1, hc'.1.2, hc'.2, Option.bind_some]
    simp only [Bool.and_self, Bool.not_true, Option.bind_some, if_pos]
    rw [if_neg (by decide), Option.bind_some, if_neg (by decide), h3', Option.bind_some, h4', Option.bind_some, h5, Option.bind_some, if_neg (by omega)]

theorem main_ok (t : Tree) : Ev fun k => branch_Main.f k t = some (mainV t) := by
  have hh := sound_ok t
  cases hc : soundB t with
  | false =>
    refine hh.mono fun k h => ?_
    have h' : branch_sound.f k (Tree.mk t.Nodes t.Best) = _ := h
    unfold branch_Main.f mainV
    rw [h', hc, Option.bind_some]
    rfl
  | true =>
    have s := soundT_of hc
    obtain ⟨i, hi⟩ : ∃ i : Nat, t.Best = (i : Int) := ⟨t.Best.toNat, by have := s.b0; omega⟩
    have hlt : i < t.Nodes.length := by have := s.b1; omega
    refine (hh.and (chain_ok t s.sn i hlt)).mono fun k ⟨h, h1⟩ => ?_
    have h' : branch_sound.f k (Tree.mk t.Nodes t.Best) = _ := h
    have h1' : branch_chain.f k (Tree.mk t.Nodes t.Best) (i : Int) = _ := h1
    unfold branch_Main.f mainV
    rw [h', hc, Option.bind_some, if_neg (by decide)]
    rw [hi] at h1' ⊢
    rw [h1', Option.bind_some, if_pos rfl]
theorem getD_set_of (l : List Int) (i p : Nat) (v : Int) (h : i < l.length) : (l.set i v).getD p 0 = if p = i then v else l.getD p 0 := by
  rw [List.getD_eq_getElem?_getD, List.getD_eq_getElem?_getD, List.getElem?_set]
  by_cases e : i = p
  · subst e; rw [if_pos rfl, if_pos h, if_pos rfl]; rfl
  · rw [if_neg e, if_neg (fun h => e h.symm)]
theorem rev_getD (l : List Int) (i : Nat) (h : i < l.length) : l.reverse.getD i 0 = l.getD (l.length - 1 - i) 0 := by
  rw [List.getD_eq_getElem?_getD, List.getD_eq_getElem?_getD, List.getElem?_reverse h]
theorem drop_getD (l : List Int) (c i : Nat) : (l.drop c).getD i 0 = l.getD (c + i) 0 := by
  rw [List.getD_eq_getElem?_getD, List.getD_eq_getElem?_getD, List.getElem?_drop]
theorem ext_getD {a b : List Int} (hl : a.length = b.length) (h : ∀ p, p < a.length → a.getD p 0 = b.getD p 0) : a = b := by
  apply List.ext_getElem hl
  intro p h1 h2
  have := h p h1
  rw [List.getD_eq_getElem?_getD, List.getD_eq_getElem?_getD, List.getElem?_eq_getElem h1, List.getElem?_eq_getElem h2] at this
  exact this
theorem rev_loop (s : List Int) (hs : s.length ≤ 5000) : ∀ (m F i : Nat) (xs : List Int), i + m = s.length → m + 1 ≤ F → xs.length = s.length →
    (∀ p, p < s.length → xs.getD p 0 = if p < i ∨ s.length < p + 1 + i then s.getD (s.length - 1 - p) 0 else s.getD p 0) →
    slices_Reverse_int.l0 s F xs (i : Int) ((s.length : Int) - 1 - (i : Int)) = some s.reverse := by
  intro m
  induction m with
  | zero =>
    intro F i xs h hF hx inv
    obtain ⟨F, rfl⟩ : ∃ q, F = q + 1 := ⟨F - 1, by omega⟩
    rw [slices_Reverse_int.l0, if_neg (by simp; omega)]
    congr 1
    refine ext_getD (by simp [hx]) fun p hp => ?_
    rw [inv p (by omega), rev_getD _ _ (by omega), if_pos (by omega)]
  | succ m ih =>
    intro F i xs h hF hx inv
    obtain ⟨F, rfl⟩ : ∃ q, F = q + 1 := ⟨F - 1, by omega⟩
    by_cases hlt : i + i + 1 < s.length
    · obtain ⟨j, hj⟩ : ∃ j : Nat, j = s.length - 1 - i := ⟨_, rfl⟩
      have ej : (s.length : Int) - 1 - (i : Int) = (j : Int) := by omega
      rw [slices_Reverse_int.l0, ej, if_pos (by simp; omega), if_pos ⟨by omega, by omega⟩, if_pos ⟨by omega, by omega⟩, if_pos ⟨by omega, by omega⟩, if_pos ⟨by omega, by omega⟩, wr (by omega) (by omega), wr (by omega) (by omega), Int.toNat_natCast, Int.toNat_natCast, show ((i : Int) + 1) = ((i + 1 : Nat) : Int) by omega, show ((j : Int) - 1) = (s.length : Int) - 1 - ((i + 1 : Nat) : Int) by omega]
      refine ih F (i + 1) _ (by omega) (by omega) (by simp [hx]) fun p hp => ?_
      rw [getD_set_of _ _ _ _ (by simp; omega), getD_set_of _ _ _ _ (by omega)]
      have vi := inv i (by omega)
      have vj := inv j (by omega)
      rw [if_neg (by omega)] at vi vj
      by_cases e1 : p = j
      · rw [if_pos e1, if_pos (by omega), vi, e1, show s.length - 1 - j = i by omega]
      · by_cases e2 : p = i
        · rw [if_neg e1, if_pos e2, if_pos (by omega), vj, e2, show s.length - 1 - i = j by omega]
        · rw [if_neg e1, if_neg e2, inv p hp]
          by_cases e3 : p < i ∨ s.length < p + 1 + i
          · rw [if_pos e3, if_pos (by omega)]
          · rw [if_neg e3, if_neg (by omega)]
    · rw [slices_Reverse_int.l0, if_neg (by simp; omega)]
      congr 1
      refine ext_getD (by simp [hx]) fun p hp => ?_
      rw [inv p (by omega), rev_getD _ _ (by omega)]
      by_cases e : p < i ∨ s.length < p + 1 + i
      · rw [if_pos e]
      · rw [if_neg e, show s.length - 1 - p = p by omega]
theorem rev_ok (s : List Int) (hs : s.length ≤ 5000) : Ev fun k => slices_Reverse_int.f k s = some s.reverse := by
  refine Ev.of (s.length + 1) fun k => ?_
  have h := rev_loop s hs s.length (k + (s.length + 1)) 0 s (by omega) (by omega) rfl (fun p hp => by rw [if_neg (by omega)])
  have e : (s.length : Int) - 1 - ((0 : Nat) : Int) = (s.length : Int) - 1 := by omega
  rw [e] at h
  have h' : slices_Reverse_int.l0 s (k + (s.length + 1)) s 0 ((s.length : Int) - 1) = _ := h
  unfold slices_Reverse_int.f
  rw [wr (by omega) (by omega), h', Option.bind_some]
theorem path_ok (t : Tree) (a b : Int) : Ev fun k => branch_Path.f k t a b = some (upV t a b, downV t a b) := by
  have hh := has_ok t [a, b] (by simp)
  have eh : ([a, b].all (fun x => decide (0 ≤ x) && decide (x < (t.Nodes.length : Int))) && soundB t) = (inT t a && inT t b && soundB t) := by simp [inT]
  rw [eh] at hh
  cases hc : (inT t a && inT t b && soundB t) with
  | false =>
    refine hh.mono fun k h => ?_
    have h' : branch_has.f k (Tree.mk t.Nodes t.Best) [a, b] = _ := h
    unfold branch_Path.f upV downV
    rw [h', hc, Option.bind_some]
    rfl
  | true =>
    have hc' := hc
    simp only [Bool.and_eq_true] at hc'
    obtain ⟨i, rfl, hi⟩ := inT_nat hc'.1.1
    obtain ⟨j, rfl, hj⟩ := inT_nat hc'.1.2
    have s := (soundT_of hc'.2).sn
    have hl := line_len s i hi
    have hl2 := line_len s j hj
    have hcp := lines_cp s i j hi hj
    have hle := cp_le (lineOf t.Nodes (i : Int)) (lineOf t.Nodes (j : Int))
    refine (hh.and ((chain_ok t s i hi).and ((chain_ok t s j hj).and ((common_ok _ _ (by omega) hcp).and (rev_ok ((lineOf t.Nodes (i : Int)).drop (cp (lineOf t.Nodes (i : Int)) (lineOf t.Nodes (j : Int)))) (by rw [List.length_drop]; omega)))))).mono fun k ⟨h, h1, h2, h3, h4⟩ => ?_
    have h' : branch_has.f k (Tree.mk t.Nodes t.Best) [(i : Int), (j : Int)] = _ := h
    have h1' : branch_chain.f k (Tree.mk t.Nodes t.Best) (i : Int) = _ := h1
    have h2' : branch_chain.f k (Tree.mk t.Nodes t.Best) (j : Int) = _ := h2
    have hw : IntKind.i64.wrap (((cp (lineOf t.Nodes (i : Int)) (lineOf t.Nodes (j : Int)) - 1 : Nat) : Int) + 1) = ((cp (lineOf t.Nodes (i : Int)) (lineOf t.Nodes (j : Int)) : Nat) : Int) := by rw [wr (by omega) (by omega)]; omega
    unfold branch_Path.f upV downV
    rw [h', hc, Option.bind_some, if_neg (by decide), h1', Option.bind_some, h2', Option.bind_some, h3, Option.bind_some, hw, if_pos ⟨by omega, by omega⟩, if_pos ⟨by omega, by omega⟩, Int.toNat_natCast, h4, Option.bind_some, if_pos rfl, if_pos rfl]
theorem refPath_loop (t : Tree) (f : Int) (a : List Int) (c : Nat) (ha : a.length ≤ 5000) (hc : (t.Nodes.getD f.toNat Node.z).Height = (c : Int) - 1) : ∀ (m F : Nat) (xs : List Int), c + m ≤ a.length → m + 1 ≤ F → xs.length + m ≤ 10000 →
    ref16_Path.l0 t f a F xs ((c : Int) + (m : Int) - 1) = some (xs ++ ((a.drop c).take m).reverse)
  | 0, F, xs, h, hF, hx => by
    obtain ⟨F, rfl⟩ : ∃ q, F = q + 1 := ⟨F - 1, by omega⟩
    rw [ref16_Path.l0, hc, if_neg (by simp)]
    simp
  | m + 1, F, xs, h, hF, hx => by
    obtain ⟨F, rfl⟩ : ∃ q, F = q + 1 := ⟨F - 1, by omega⟩
    have e : (c : Int) + ((m + 1 : Nat) : Int) - 1 = ((c + m : Nat) : Int) := by omega
    have ih := refPath_loop t f a c ha hc m F (xs ++ [a.getD (c + m) 0]) (by omega) (by omega) (by simp; omega)
    rw [ref16_Path.l0, hc, e, if_pos (by simp; omega), if_pos ⟨by omega, by omega⟩, if_pos (by omega), Int.toNat_natCast, wr (by omega) (by omega), show (((c + m : Nat) : Int) - 1) = (c : Int) + (m : Int) - 1 by omega, ih]
    have hl : m < (a.drop c).length := by rw [List.length_drop]; omega
    have hg : (a.drop c)[m] = a.getD (c + m) 0 := by
      rw [← drop_getD, List.getD_eq_getElem?_getD, List.getElem?_eq_getElem hl]; rfl
    rw [List.take_succ_eq_append_getElem hl, hg, List.reverse_append, List.append_assoc]
    rfl
theorem refPath_ok (t : Tree) (a b : Int) : Ev fun k => ref16_Path.f k t a b = some (upV t a b, downV t a b) := by
  have ha := node_ok t a
  have hb := node_ok t b
  change Ev fun k => ref16_node.f k t a = some (inT t a && soundB t) at ha
  change Ev fun k => ref16_node.f k t b = some (inT t b && soundB t) at hb
  cases hc : (inT t a && inT t b && soundB t) with
  | false =>
    refine (ha.and hb).mono fun k ⟨h1, h2⟩ => ?_
    have h1' : ref16_node.f k (Tree.mk t.Nodes t.Best) a = _ := h1
    have h2' : ref16_node.f k (Tree.mk t.Nodes t.Best) b = _ := h2
    unfold ref16_Path.f upV downV
    rw [h1', Option.bind_some, h2', hc]
    revert hc
    cases inT t a <;> cases inT t b <;> cases soundB t <;> intro hc <;> first | rfl | exact absurd hc (by decide)
  | true =>
    have hc' := hc
    simp only [Bool.and_eq_true] at hc'
    obtain ⟨i, rfl, hi⟩ := inT_nat hc'.1.1
    obtain ⟨j, rfl, hj⟩ := inT_nat hc'.1.2
    have s := (soundT_of hc'.2).sn
    have hl := line_len s i hi
    have hl2 := line_len s j hj
    have hcp := lines_cp s i j hi hj
    have hle := cp_le (lineOf t.Nodes (i : Int)) (lineOf t.Nodes (j : Int))
    obtain ⟨q, eq, hq, hh⟩ := (isLineOf s i hi).rng (cp (lineOf t.Nodes (i : Int)) (lineOf t.Nodes (j : Int)) - 1) (by omega)
    have hfv : forkV t (i : Int) (j : Int) = (q : Int) := by unfold forkV; rw [hc, if_pos rfl, eq]
    have hH : (t.Nodes.getD (q : Int).toNat Node.z).Height = ((cp (lineOf t.Nodes (i : Int)) (lineOf t.Nodes (j : Int)) : Nat) : Int) - 1 := by
      have : HE t.Nodes q = _ := hh
      rw [Int.toNat_natCast]
      show HE t.Nodes q = _
      omega
    refine (ha.and (hb.and ((refLine_ok t s i hi).and ((refLine_ok t s j hj).and ((refFork_ok t (i : Int) (j : Int)).and (Ev.of (p := fun k => ref16_Path.l0 t (q : Int) (lineOf t.Nodes (i : Int)) k [] (((cp (lineOf t.Nodes (i : Int)) (lineOf t.Nodes (j : Int)) : Nat) : Int) + (((lineOf t.Nodes (i : Int)).length - cp (lineOf t.Nodes (i : Int)) (lineOf t.Nodes (j : Int)) : Nat) : Int) - 1) = some ([] ++ (((lineOf t.Nodes (i : Int)).drop (cp (lineOf t.Nodes (i : Int)) (lineOf t.Nodes (j : Int)))).take ((lineOf t.Nodes (i : Int)).length - cp (lineOf t.Nodes (i : Int)) (lineOf t.Nodes (j : Int)))).reverse)) ((lineOf t.Nodes (i : Int)).length + 1) fun k => refPath_loop t (q : Int) _ _ (by omega) hH _ _ _ (by omega) (by omega) (by simp; omega))))))).mono fun k ⟨h1, h2, h3, h4, h5, h6⟩ => ?_
    have h1' : ref16_node.f k (Tree.mk t.Nodes t.Best) (i : Int) = _ := h1
    have h2' : ref16_node.f k (Tree.mk t.Nodes t.Best) (j : Int) = _ := h2
    have h3' : ref16_line.f k (Tree.mk t.Nodes t.Best) (i : Int) = _ := h3
    have h4' : ref16_line.f k (Tree.mk t.Nodes t.Best) (j : Int) = _ := h4
    have h5' : ref16_Fork.f k (Tree.mk t.Nodes t.Best) (i : Int) (j : Int) = _ := h5
    have ei : IntKind.i64.wrap ((((lineOf t.Nodes (i : Int)).length : Nat) : Int) - 1) = ((cp (lineOf t.Nodes (i : Int)) (lineOf t.Nodes (j : Int)) : Nat) : Int) + (((lineOf t.Nodes (i : Int)).length - cp (lineOf t.Nodes (i : Int)) (lineOf t.Nodes (j : Int)) : Nat) : Int) - 1 := by rw [wr (by omega) (by omega)]; omega
    have ew : IntKind.i64.wrap (((cp (lineOf t.Nodes (i : Int)) (lineOf t.Nodes (j : Int)) : Nat) : Int) - 1 + 1) = ((cp (lineOf t.Nodes (i : Int)) (lineOf t.Nodes (j : Int)) : Nat) : Int) := by rw [wr (by omega) (by omega)]; omega
    unfold ref16_Path.f upV downV
    rw [h1', h2', hc'.1.1, hc'.1.2, hc'.2, Option.bind_some]
    simp only [Bool.and_self, Bool.not_true, Option.bind_some, if_pos]
    rw [if_neg (by decide), Option.bind_some, if_neg (by decide), h5', hfv, Option.bind_some, if_pos ⟨by omega, by omega⟩, h3', Option.bind_some, h4', Option.bind_some, ei, h6, Option.bind_some, hH, ew, if_pos ⟨by omega, by omega⟩, if_pos (by omega), Int.toNat_natCast, List.nil_append, List.take_of_length_le (by rw [List.length_drop]; omega)]
theorem same_ok (a : List Int) (ha : a.length ≤ 5000) : Ev fun k => ref16_SameInts.f k a a = some true := by
  have lp : ∀ (m F i : Nat), i + m = a.length → m + 1 ≤ F → ref16_SameInts.l0 a a F (i : Int) = some (.go ()) := by
    intro m
    induction m with
    | zero =>
      intro F i h hF
      obtain ⟨F, rfl⟩ : ∃ q, F = q + 1 := ⟨F - 1, by omega⟩
      rw [ref16_SameInts.l0, if_neg (by simp; omega)]
    | succ m ih =>
      intro F i h hF
      obtain ⟨F, rfl⟩ : ∃ q, F = q + 1 := ⟨F - 1, by omega⟩
      have ih := ih F (i + 1) (by omega) (by omega)
      rw [ref16_SameInts.l0, if_pos (by simp; omega), if_pos ⟨by omega, by omega⟩, if_pos ⟨by omega, by omega⟩, if_neg (by simp), wr (by omega) (by omega), show ((i : Int) + 1) = ((i + 1 : Nat) : Int) by omega, ih]
  refine Ev.of (a.length + 1) fun k => ?_
  have h : ref16_SameInts.l0 a a (k + (a.length + 1)) 0 = _ := lp a.length (k + (a.length + 1)) 0 (by omega) (by omega)
  unfold ref16_SameInts.f
  rw [if_neg (by simp), h, Option.bind_some]
theorem SN.snoc {xs : List Node} (s : SN xs) (hl : xs.length < 4096) (nd : Node) (p : Nat) (h1 : nd.Parent = (p : Int)) (h2 : p < xs.length) (h3 : nd.Height = IntKind.i64.wrap (HE xs p + 1)) : SN (xs ++ [nd]) := by
  have hone := s.one
  have eP : ∀ i, i < xs.length → PA (xs ++ [nd]) i = PA xs i := fun i hi => by unfold PA; rw [getD_app_lt _ _ _ _ hi]
  have eH : ∀ i, i < xs.length → HE (xs ++ [nd]) i = HE xs i := fun i hi => by unfold HE; rw [getD_app_lt _ _ _ _ hi]
  have lP : PA (xs ++ [nd]) xs.length = (p : Int) := by unfold PA; rw [getD_app_len _ _ _ _ rfl, h1]
  have lH : HE (xs ++ [nd]) xs.length = IntKind.i64.wrap (HE xs p + 1) := by unfold HE; rw [getD_app_len _ _ _ _ rfl, h3]; rfl
  have hll : (xs ++ [nd]).length = xs.length + 1 := by simp
  refine ⟨by omega, by omega, by rw [eP 0 (by omega), s.p0], by rw [eH 0 (by omega), s.h0], ?_, ?_, ?_⟩
  · intro i hp hi
    by_cases hlt : i < xs.length
    · rw [eP i hlt]; exact s.low i hp hlt
    · obtain rfl : i = xs.length := by omega
      rw [lP]; omega
  · intro i hp hi
    by_cases hlt : i < xs.length
    · rw [eP i hlt]; exact s.up i hp hlt
    · obtain rfl : i = xs.length := by omega
      rw [lP]; omega
  · intro i hp hi
    by_cases hlt : i < xs.length
    · have a := s.low i hp hlt
      have b := s.up i hp hlt
      rw [eP i hlt, eH i hlt, eH _ (by omega)]; exact s.he i hp hlt
    · obtain rfl : i = xs.length := by omega
      rw [lP, lH, Int.toNat_natCast, eH p h2]
theorem par_ok (s : Int) (h0 : 0 ≤ s) (h1 : s < 256) (t : Nat) (ht : t ≤ 100) : ∃ p : Nat, (if IntKind.i64.wrap ((t : Int) - (IntKind.i64.wrap ((IntKind.i64.wrap (s.tmod 4)) * (IntKind.i64.wrap (IntKind.u8.wrap (s.tdiv 64)))))) > 0 then IntKind.i64.wrap ((t : Int) - (IntKind.i64.wrap ((IntKind.i64.wrap (s.tmod 4)) * (IntKind.i64.wrap (IntKind.u8.wrap (s.tdiv 64)))))) else 0) = (p : Int) ∧ p ≤ t := by
  have e1 : IntKind.i64.wrap (s.tmod 4) = s % 4 := by rw [Int.tmod_eq_emod_of_nonneg h0, wr (by omega) (by omega)]
  have e2 : IntKind.i64.wrap (IntKind.u8.wrap (s.tdiv 64)) = s / 64 := by rw [Int.tdiv_eq_ediv_of_nonneg h0, wr8 (by omega) (by omega), wr (by omega) (by omega)]
  have b1 : 0 ≤ (s % 4) * (s / 64) := Int.mul_nonneg (by omega) (by omega)
  have b2 : (s % 4) * (s / 64) ≤ 3 * 3 := by
    have : (s % 4) * (s / 64) ≤ 3 * (s / 64) := Int.mul_le_mul_of_nonneg_right (by omega) (by omega)
    omega
  rw [e1, e2]
  generalize (s % 4) * (s / 64) = m at b1 b2
  rw [wr (x := m) (by omega) (by omega), wr (by omega) (by omega)]
  by_cases hg : (t : Int) - m > 0
  · rw [if_pos hg]; exact ⟨((t : Int) - m).toNat, by omega, by omega⟩
  · rw [if_neg hg]; exact ⟨0, rfl, by omega⟩
theorem line_loop (l0 l : List Int) (hl : ∀ x ∈ l, 0 ≤ x ∧ x < 256) (hcnt : (if 60 < ((l0.length : Nat) : Int) then (60 : Int) else ((l0.length : Nat) : Int)).toNat = l.length) (h60 : l.length ≤ 60) : ∀ (m t : Nat) (xs : List Node), t + m = l.length → xs.length = t + 1 → SN xs → ∃ ys, SN ys ∧ ys.length = l.length + 1 ∧ ∀ F, m + 1 ≤ F → law16_line.l0 l0 F xs l (t : Int) = some ys
  | 0, t, xs, h, hx, s => by
    refine ⟨xs, s, by omega, fun F hF => ?_⟩
    obtain ⟨F, rfl⟩ : ∃ q, F = q + 1 := ⟨F - 1, by omega⟩
    rw [law16_line.l0, hcnt, if_neg (by simp; omega)]
  | m + 1, t, xs, h, hx, s => by
    have ht : t < l.length := by omega
    have hg : l.getD (t : Int).toNat 0 = l[t] := by rw [Int.toNat_natCast, List.getD_eq_getElem?_getD, List.getElem?_eq_getElem ht]; rfl
    have hb := hl l[t] (List.getElem_mem ht)
    obtain ⟨p, ep, hp⟩ := par_ok l[t] hb.1 hb.2 t (by omega)
    obtain ⟨ys, h1, h2, h3⟩ := line_loop l0 l hl hcnt h60 m (t + 1) (xs ++ [({ { { { Node.z with Header_ := ({ Header.z with Nonce := IntKind.u32.wrap (t : Int) }) } with Hash := ((((Vector.replicate 32 0 : Vector Int 32).setIfInBounds 0 (IntKind.u8.wrap (t : Int))).setIfInBounds 1 1)) } with Parent := (p : Int) } with Height := IntKind.i64.wrap (((xs.getD (p : Int).toNat Node.z).Height) + 1) })]) (by omega) (by simp [hx]) (s.snoc (by omega) _ p rfl (by omega) rfl)
    refine ⟨ys, h1, h2, fun F hF => ?_⟩
    obtain ⟨F, rfl⟩ : ∃ q, F = q + 1 := ⟨F - 1, by omega⟩
    rw [law16_line.l0, hcnt, hg, ep, if_pos (by simp; omega), if_pos ⟨by omega, by omega⟩, if_pos ⟨by omega, by omega⟩, if_pos (by omega), wr (x := (t : Int) + 1) (by omega) (by omega), show ((t : Int) + 1) = ((t + 1 : Nat) : Int) by omega]
    exact h3 F (by omega)
theorem best_loop (xs : List Node) (hx : xs.length ≤ 4096) : ∀ (m t b : Nat), t + m = xs.length → b < xs.length → ∃ c : Nat, c < xs.length ∧ ∀ F, m + 1 ≤ F → law16_line.l1 xs F (b : Int) (t : Int) = some (c : Int)
  | 0, t, b, h, hb => by
    refine ⟨b, hb, fun F hF => ?_⟩
    obtain ⟨F, rfl⟩ : ∃ q, F = q + 1 := ⟨F - 1, by omega⟩
    rw [law16_line.l1, if_neg (by simp; omega)]
  | m + 1, t, b, h, hb => by
    by_cases hc : (decide (((xs.getD (t : Int).toNat Node.z).Height) > ((xs.getD (b : Int).toNat Node.z).Height))) = true
    · obtain ⟨c, h1, h2⟩ := best_loop xs hx m (t + 1) t (by omega) (by omega)
      refine ⟨c, h1, fun F hF => ?_⟩
      obtain ⟨F, rfl⟩ : ∃ q, F = q + 1 := ⟨F - 1, by omega⟩
      rw [law16_line.l1, if_pos (by simp; omega), if_pos ⟨by omega, by omega⟩, if_pos ⟨by omega, by omega⟩, if_pos hc, wr (x := (t : Int) + 1) (by omega) (by omega), show ((t : Int) + 1) = ((t + 1 : Nat) : Int) by omega, Option.bind_some]
      exact h2 F (by omega)
    · obtain ⟨c, h1, h2⟩ := best_loop xs hx m (t + 1) b (by omega) hb
      refine ⟨c, h1, fun F hF => ?_⟩
      obtain ⟨F, rfl⟩ : ∃ q, F = q + 1 := ⟨F - 1, by omega⟩
      rw [law16_line.l1, if_pos (by simp; omega), if_pos ⟨by omega, by omega⟩, if_pos ⟨by omega, by omega⟩, if_neg hc, wr (x := (t : Int) + 1) (by omega) (by omega), show ((t : Int) + 1) = ((t + 1 : Nat) : Int) by omega, Option.bind_some]
      exact h2 F (by omega)
def root16 : Node := { { Node.z with Hash := ((Vector.replicate 32 0 : Vector Int 32).setIfInBounds 0 255) } with Parent := (-1) }
theorem sn_root : SN [root16] := by
  refine ⟨by simp, by simp, rfl, rfl, ?_, ?_, ?_⟩ <;> (intro i hp hi; simp at hi; omega)
theorem line_ok (l : List Int) (wl : ∀ n ∈ l, (Lit.int .u8 n).wf = true) : ∃ t, SoundT t ∧ t.Nodes.length ≤ 61 ∧ Ev fun k => law16_line.f k l = some t := by
  have hl : ∀ x ∈ l, 0 ≤ x ∧ x < 256 := fun x hx => by
    obtain ⟨y, rfl, hy⟩ := wf_nat rfl (wl x hx)
    have : y < 256 := hy
    omega
  obtain ⟨c, hc⟩ : ∃ c : Nat, (if 60 < ((l.length : Nat) : Int) then (60 : Int) else ((l.length : Nat) : Int)) = (c : Int) := ⟨(if 60 < l.length then 60 else l.length), by split <;> split <;> omega⟩
  have hc60 : c ≤ 60 ∧ c ≤ l.length := by split at hc <;> omega
  have hcl : (l.take c).length = c := by rw [List.length_take]; omega
  obtain ⟨ys, s, hys, h1⟩ := line_loop l (l.take c) (fun x hx => hl x (List.mem_of_mem_take hx)) (by rw [hc, hcl, Int.toNat_natCast]) (by omega) c 0 [root16] (by omega) rfl sn_root
  obtain ⟨b, hb, h2⟩ := best_loop ys (by omega) ys.length 0 0 (by omega) (by omega)
  refine ⟨Tree.mk ys (b : Int), ⟨s, by show (0 : Int) ≤ (b : Int); omega, by show (b : Int) < (ys.length : Int); omega⟩, by show ys.length ≤ 61; omega, Ev.of (c + ys.length + 1) fun k => ?_⟩
  have h1' : law16_line.l0 l (k + (c + ys.length + 1)) [root16] (l.take c) 0 = _ := h1 _ (by omega)
  have h2' : law16_line.l1 ys (k + (c + ys.length + 1)) 0 0 = _ := h2 _ (by omega)
  unfold law16_line.f
  change (if _ then Option.bind (law16_line.l0 l (k + (c + ys.length + 1)) [root16] _ 0) _ else none) = _
  rw [hc, Int.toNat_natCast, if_pos ⟨by omega, by omega⟩, h1', Option.bind_some, h2', Option.bind_some]

set_option maxRecDepth 100000 in
theorem sane16 (k : Nat) : law16_sane.f (k + 200) = some true := by rfl

theorem keep_ok (k : Nat) (t : Tree) (n : Int) : keep_Tree.f k t n = some (decide (((t.Nodes.length : Nat) : Int) ≤ n)) := rfl
theorem upV_len (t : Tree) (a b : Int) : (upV t a b).length ≤ 5000 := by
  unfold upV
  by_cases h : (inT t a && inT t b && soundB t) = true
  · rw [if_pos h]
    simp only [Bool.and_eq_true] at h
    obtain ⟨i, rfl, hi⟩ := inT_nat h.1.1
    have := (line_len (soundT_of h.2).sn i hi).2.1
    rw [List.length_reverse, List.length_drop]
    omega
  · rw [if_neg h]; simp
theorem downV_len (t : Tree) (a b : Int) : (downV t a b).length ≤ 5000 := by
  unfold downV
  by_cases h : (inT t a && inT t b && soundB t) = true
  · rw [if_pos h]
    simp only [Bool.and_eq_true] at h
    obtain ⟨j, rfl, hj⟩ := inT_nat h.1.2
    have := (line_len (soundT_of h.2).sn j hj).2.1
    rw [List.length_drop]
    omega
  · rw [if_neg h]; simp
theorem paths_true (t : Tree) (l : List Int) (a b : Int) (wl : ∀ n ∈ l, (Lit.int .u8 n).wf = true) : ∃ k, law16_BranchPaths.f k t l a b = some true := by
  have hsane : Ev fun k => law16_sane.f k = some true := Ev.of 200 sane16
  obtain ⟨u, su, h61, hline⟩ := line_ok l wl
  obtain ⟨k, h1, h2, h3, h4, h5, h6, h7, h8, h9, h10⟩ := (hsane.and (hline.and ((path_ok t a b).and ((refPath_ok t a b).and ((same_ok _ (upV_len t a b)).and ((same_ok _ (downV_len t a b)).and ((path_ok u a b).and ((refPath_ok u a b).and ((same_ok _ (upV_len u a b)).and (same_ok _ (downV_len u a b))))))))))).get
  refine ⟨k, ?_⟩
  have h3' : branch_Path.f k (Tree.mk t.Nodes t.Best) a b = _ := h3
  have h4' : ref16_Path.f k (Tree.mk t.Nodes t.Best) a b = _ := h4
  have h7' : branch_Path.f k (Tree.mk u.Nodes u.Best) a b = _ := h7
  have h8' : ref16_Path.f k (Tree.mk u.Nodes u.Best) a b = _ := h8
  unfold law16_BranchPaths.f
  rw [h1, Option.bind_some, if_neg (by decide), keep_ok, Option.bind_some]
  split
  · rfl
  · rw [h2, Option.bind_some, h3', Option.bind_some, h4', Option.bind_some]
    dsimp only
    rw [h5, Option.bind_some, if_neg (by decide), h6, Option.bind_some, Option.bind_some, if_neg (by decide), h7', Option.bind_some, h8', Option.bind_some]
    dsimp only
    rw [h9, Option.bind_some, if_neg (by decide), h10, Option.bind_some, Option.bind_some, if_neg (by decide)]

end Go.Proofs.Ytjjahfpamjmacaa.G
namespace Go.Proofs.Ytjjahfpamjmacaa.branchPaths
open Go Go.ChangeShapes Go.WideShapes Go.ChangeAt Go.RowKit
open Go.ChangeMaps (open_string shut_string)
theorem own : ownKnob Try.prog.godebug = none := by kernel_rfl
theorem laidOut : laidOutB Try.prog = true := by kernel_rfl
set_option maxRecDepth 100000 in
theorem lifted (os : Os) (started : os.Started) (H : Type) (enc : TypeId × Value → H) :
    ReturnsInHanded {} Try.checked os 5 .any (Rows.branchPathsSpec.pre6 enc Try.prog Try.f5 Rows.branchPathsRow.domain false) (Rows.branchPathsSpec.post enc Try.prog Try.f5 false true false false) := by
  refine returnsInHanded_of_change_sized (C := Try.checked) own started (by kernel_rfl) Try.func5
    (ChangeSpec.witness6 (enc := enc) (C := Try.checked) false ⟨#[], #[.agg #[.slice none 0 0, .int .i64 0], .slice none 0 0, .int .i64 0, .int .i64 0], []⟩ 8 (by kernel_rfl) (by kernel_rfl) (by kernel_rfl) (by kernel_rfl)) ?_
  intro W base args ds gs before hval0 hW hcnd hsz0 _
  have hsz : (DataW.weightsEach Try.prog (Try.f5.params.toList ++ Rows.branchPathsSpec.plain.varTypes Try.prog) (ds ++ gs)).all (· ≤ reachBytes) = true := hsz0
  have hval : ∀ (j : Nat) t v, Try.f5.params[j]? = some t → args[j]? = some v → Value.okWide Try.prog W .any base t v := hval0
  have hW' := hW
  obtain ⟨p, q, hA0, hV, rfl, hfz, hnd⟩ := hW
  have hA : DataW.TrodAll enc Try.prog W 0 (fun _ => true) true Try.f5.params.toList args.toList ds p := hA0
  rw [Try.params5] at hA hval hsz
  obtain ⟨v0, vs0, d0, ds0, p0, q0, hargs, rfl, rfl, h0, r0⟩ := trodAll_cons hA
  obtain ⟨v1, vs1, d1, ds1, p1, q1, rfl, rfl, rfl, h1, r1⟩ := trodAll_cons r0
  obtain ⟨v2, vs2, d2, ds2, p2, q2, rfl, rfl, rfl, h2, r2⟩ := trodAll_cons r1
  obtain ⟨v3, vs3, d3, ds3, p3, q3, rfl, rfl, rfl, h3, r3⟩ := trodAll_cons r2
  obtain ⟨rfl, rfl, rfl⟩ := trodAll_nil r3
  obtain rfl : args = #[v0, v1, v2, v3] := by cases args; simp_all
  obtain ⟨rfl, rfl⟩ := trodVars_none hV
  have k0 := h0
  have lt0 : ∀ x ∈ p0, x.block < W.heap.size := by obtain ⟨m, hm⟩ := k0; exact DataW.trod_lt m _ _ _ hm
  obtain ⟨a0, A0, cap0, rfl, rw0, cf0⟩ := G.open_tree (hval 0 24 v0 rfl rfl) h0
  obtain ⟨A1, len1, cap1, rfl⟩ := okWide_slice Try.underlying25 (hval 1 25 v1 rfl rfl)
  have k1 := h1
  have lt1 : ∀ x ∈ p1, x.block < W.heap.size := by obtain ⟨m, hm⟩ := k1; exact DataW.trod_lt m _ _ _ hm
  have y1 : len1 * 1 ≤ 140737488351232 := PrintWords.sized_ints hsz (j := 1) (t := 25) rfl rfl Try.underlying25 Try.underlying5 (by kernel_rfl) (by kernel_rfl) h1
  obtain ⟨a1, hz1, rw1, cf1, wf1⟩ : ∃ zs : List Int, zs.length = len1 ∧ G.Row (G.Pl.int .u8) W A1 zs ∧ zs.length ≤ cap1 ∧ ∀ n ∈ zs, (Lit.int .u8 n).wf = true := by
    obtain ⟨fuel, hf⟩ := h1
    rcases open_ints Try.underlying25 Try.underlying5 (by kernel_rfl) hf with ⟨hcs, _⟩ | ⟨x, l, c, zs, hcs, _, hl, hm, hz, _, hcell, hwz⟩
    · simp [Value.cells] at hcs
      obtain ⟨rfl, rfl, rfl⟩ := hcs
      exact ⟨[], rfl, G.Row.nil _ _, Nat.zero_le _, fun _ h => by cases h⟩
    · simp [Value.cells] at hcs
      obtain ⟨rfl, rfl, rfl⟩ := hcs
      have hz' : zs.length = cap1 := by simpa using hz
      exact ⟨zs.take len1, by rw [List.length_take]; omega, G.row_take hcell (by omega), by rw [List.length_take]; omega, fun n hn => hwz n (List.mem_of_mem_take hn)⟩
  subst hz1
  obtain ⟨a2, rfl, rfl, rfl, w2⟩ := open_int Try.underlying3 (hval 2 3 v2 rfl rfl) h2
  obtain ⟨a3, rfl, rfl, rfl, w3⟩ := open_int Try.underlying3 (hval 3 3 v3 rfl rfl) h3
  clear hA0 hval0 hsz0 hsz
  obtain ⟨K, hK⟩ := G.paths_true a0 a1 a2 a3 wf1
  refine (G.law16_BranchPaths.calls K a0 a1 a2 a3 [] _ _ true W ⟨A0, cap0, rfl, G.Ro.of rw0, cf0⟩ ⟨A1, cap1, rfl, G.Ro.of rw1, cf1⟩ (G.Mem.nil W) hK).mono fun e W' he => ?_
  obtain ⟨v, rfl, rfl, hM⟩ := he
  have bel := hM.below
  exact ⟨_, rfl, _, _, _, [], _, [], hW', trodAll_mk1 (shut_bool Try.underlying4 _), (trodAll_cons_mk (Below.trod laidOut (by kernel_rfl) (of_decide_eq_true (by kernel_rfl)) k0 bel lt0) (trodAll_cons_mk (Below.trod laidOut (by kernel_rfl) (of_decide_eq_true (by kernel_rfl)) k1 bel lt1) (trodAll_cons_mk (shut_int Try.underlying3 w2) (trodAll_cons_mk (shut_int Try.underlying3 w3) trodAll_mk0)))), rfl, bel.frame _, fun h => by cases h⟩
theorem over : Rows.branchPathsRow.holds Try.pinned (OpenSpec.ofChange Rows.branchPathsSpec) :=
  OpenClaim.holds_of_wide 5 Try.f5 rfl rfl rfl rfl rfl rfl rfl ⟨rfl, rfl, rfl, rfl, rfl⟩ rfl rfl rfl rfl rfl (by kernel_rfl) Try.func5 (by kernel_rfl)
    (of_decide_eq_true (by kernel_rfl)) (by unfold Func.isWrapper; first | (rw [if_pos (by decide +kernel)]; kernel_rfl) | (rw [if_neg (by decide +kernel)]; exact ⟨rfl, rfl⟩))
    (fun os started H enc _ => lifted os started H enc)
theorem proved : Rows.BranchPathsSaid := over
#print axioms proved
end Go.Proofs.Ytjjahfpamjmacaa.branchPaths
namespace Go.Proofs.Ytjjahfpamjmacaa
/-- The row, under a short name, for the claim. -/
theorem branchPaths_holds : Rows.BranchPathsSaid := branchPaths.proved
end Go.Proofs.Ytjjahfpamjmacaa
