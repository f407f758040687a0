/- For every tree that the law builds and every one of its nodes the locator meets the best chain near the fork: the law returns true. Conditions: none beyond the statement's own. -/
import Derived.Test.YtjjahfpamjmacaaRows
import Derived.Test.YtjjahfpamjmacaaFBranchMeetsNear
import Derived.WalkKit
import Derived.ProofKit
import Derived.OpenShut
import Derived.ShutString
import Derived.ChangeOld
import Derived.Below
import Derived.SizedLaws
import Derived.Test.YtjjahfpamjmacaaWSized
set_option linter.unusedVariables false
set_option linter.unusedSimpArgs false
namespace Go.Proofs.Ytjjahfpamjmacaa.PrintWords
/-- The name by which the row finds the word on a slice's weight. -/
theorem sized_ints {H : Type} {enc : TypeId × Value → H} {P : Program} {W : World} {base : Nat} {spare : Nat → Bool} {held : Bool} {t e : TypeId} {k : IntKind} {a : Option Addr} {len cap : Nat} {d : DataW H} {ps : List MemPlace} {ts : List TypeId} {ds : List (DataW H)} {j : Nat}
    (hsz : (DataW.weightsEach P ts ds).all (· ≤ reachBytes) = true) (ht : ts[j]? = some t) (hd : ds[j]? = some d) (hu : P.underlying t = some (.slice e)) (he : P.underlying e = some (.int k)) (hc : P.cellsOf e = 1) {B : Nat} (hB : P.bytesOf e = B)
    (h : DataW.Trod enc P W base spare held t (.slice a len cap) d ps) : len * B ≤ 140737488351232 :=
  Go.Proofs.YtjjahfpamjmacaaW.PrintWords.sized_ints hsz ht hd hu he hc hB h
end Go.Proofs.Ytjjahfpamjmacaa.PrintWords
namespace Go.Proofs.Ytjjahfpamjmacaa.G
open Go Go.RowKit Go.Proofs
/-! ## of all laws: enough fuel -/
def Ev (p : Nat → Prop) : Prop := ∃ K, ∀ k, K ≤ k → p k
theorem Ev.mono {p q : Nat → Prop} (h : Ev p) (f : ∀ k, p k → q k) : Ev q := by
  obtain ⟨K, hK⟩ := h
  exact ⟨K, fun k hk => f k (hK k hk)⟩
theorem Ev.and {p q : Nat → Prop} (h : Ev p) (h2 : Ev q) : Ev fun k => p k ∧ q k := by
  obtain ⟨K, hK⟩ := h
  obtain ⟨L, hL⟩ := h2
  exact ⟨max K L, fun k hk => ⟨hK k (by omega), hL k (by omega)⟩⟩
theorem Ev.of {p : Nat → Prop} (K : Nat) (h : ∀ k, p (k + K)) : Ev p := ⟨K, fun k hk => by have := h (k - K); rwa [Nat.sub_add_cancel hk] at this⟩
theorem Ev.all {p : Nat → Prop} (h : ∀ k, p k) : Ev p := ⟨0, fun k _ => h k⟩
/-- behind one round -/
theorem Ev.succ {p : Nat → Prop} (h : Ev fun k => p (k + 1)) : Ev p := by
  obtain ⟨K, hK⟩ := h
  refine ⟨K + 1, fun k hk => ?_⟩
  have h1 := hK (k - 1) (by omega)
  have e : k - 1 + 1 = k := by omega
  rw [← e]
  exact h1
theorem Ev.get {p : Nat → Prop} (h : Ev p) : ∃ k, p k := by
  obtain ⟨K, hK⟩ := h
  exact ⟨K, hK K (Nat.le_refl _)⟩
theorem wr {x : Int} (h0 : -9223372036854775808 ≤ x) (h1 : x < 9223372036854775808) : IntKind.i64.wrap x = x := by
  simp only [IntKind.wrap, IntKind.bits, IntKind.signed]
  simp
  omega
theorem wr8 {x : Int} (h0 : 0 ≤ x) (h1 : x < 256) : IntKind.u8.wrap x = x := by
  simp only [IntKind.wrap, IntKind.bits, IntKind.signed]
  simp
  omega
theorem wr8_lt (x : Int) : 0 ≤ IntKind.u8.wrap x ∧ IntKind.u8.wrap x < 256 := by
  simp only [IntKind.wrap, IntKind.bits, IntKind.signed]
  simp
  omega
theorem wu64 {x : Int} (h0 : 0 ≤ x) (h1 : x < 18446744073709551616) : IntKind.u64.wrap x = x := by
  simp only [IntKind.wrap, IntKind.bits, IntKind.signed]
  simp
  omega

/-! ## words as numbers -/
theorem wrapu (k : IntKind) (hk : k.signed = false) (x : Nat) (h : x < 2 ^ k.bits) : k.wrap (x : Int) = x := by
  cases k <;> simp [IntKind.signed] at hk <;> simp [IntKind.wrap, IntKind.bits, IntKind.signed] at h ⊢ <;> omega
theorem wrapi (k : IntKind) (x : Nat) (h : x < 2 ^ (k.bits - 1)) : k.wrap (x : Int) = x := by
  cases k <;> simp [IntKind.wrap, IntKind.bits, IntKind.signed] at h ⊢ <;> omega
theorem ofInt_nat (n : Nat) (x : Nat) : BitVec.ofInt n (x : Int) = BitVec.ofNat n x := by simp
theorem iand_i (k : IntKind) (x y : Nat) (hx : x < 2 ^ (k.bits - 1)) (hy : y < 2 ^ (k.bits - 1)) : iand k (x : Int) (y : Int) = ((x &&& y : Nat) : Int) := by
  have hle : 2 ^ (k.bits - 1) ≤ 2 ^ k.bits := Nat.pow_le_pow_right (by decide) (by omega)
  unfold iand
  rw [ofInt_nat, ofInt_nat, BitVec.toNat_and, BitVec.toNat_ofNat, BitVec.toNat_ofNat, Nat.mod_eq_of_lt (by omega), Nat.mod_eq_of_lt (by omega)]
  exact wrapi k _ (Nat.lt_of_le_of_lt Nat.and_le_left hx)
theorem iand_u (k : IntKind) (hk : k.signed = false) (x y : Nat) (hx : x < 2 ^ k.bits) (hy : y < 2 ^ k.bits) : iand k (x : Int) (y : Int) = ((x &&& y : Nat) : Int) := by
  unfold iand
  rw [ofInt_nat, ofInt_nat, BitVec.toNat_and, BitVec.toNat_ofNat, BitVec.toNat_ofNat, Nat.mod_eq_of_lt hx, Nat.mod_eq_of_lt hy]
  exact wrapu k hk _ (Nat.lt_of_le_of_lt Nat.and_le_left hx)
theorem ior_i (k : IntKind) (x y : Nat) (hx : x < 2 ^ (k.bits - 1)) (hy : y < 2 ^ (k.bits - 1)) : ior k (x : Int) (y : Int) = ((x ||| y : Nat) : Int) := by
  have hle : 2 ^ (k.bits - 1) ≤ 2 ^ k.bits := Nat.pow_le_pow_right (by decide) (by omega)
  unfold ior
  rw [ofInt_nat, ofInt_nat, BitVec.toNat_or, BitVec.toNat_ofNat, BitVec.toNat_ofNat, Nat.mod_eq_of_lt (by omega), Nat.mod_eq_of_lt (by omega)]
  exact wrapi k _ (Nat.or_lt_two_pow hx hy)
theorem ior_u (k : IntKind) (hk : k.signed = false) (x y : Nat) (hx : x < 2 ^ k.bits) (hy : y < 2 ^ k.bits) : ior k (x : Int) (y : Int) = ((x ||| y : Nat) : Int) := by
  unfold ior
  rw [ofInt_nat, ofInt_nat, BitVec.toNat_or, BitVec.toNat_ofNat, BitVec.toNat_ofNat, Nat.mod_eq_of_lt hx, Nat.mod_eq_of_lt hy]
  exact wrapu k hk _ (Nat.or_lt_two_pow hx hy)
theorem ixor_u (k : IntKind) (hk : k.signed = false) (x y : Nat) (hx : x < 2 ^ k.bits) (hy : y < 2 ^ k.bits) : ixor k (x : Int) (y : Int) = ((x ^^^ y : Nat) : Int) := by
  unfold ixor
  rw [ofInt_nat, ofInt_nat, BitVec.toNat_xor, BitVec.toNat_ofNat, BitVec.toNat_ofNat, Nat.mod_eq_of_lt hx, Nat.mod_eq_of_lt hy]
  exact wrapu k hk _ (Nat.xor_lt_two_pow hx hy)
theorem ishr_n (k : IntKind) (x s : Nat) (hs : s ≤ k.bits) : ishr k (x : Int) (s : Int) = ((x / 2 ^ s : Nat) : Int) := by
  unfold ishr
  rw [Int.toNat_natCast, Nat.min_eq_left hs, show (2 : Int) ^ s = ((2 ^ s : Nat) : Int) by simp, Int.fdiv_eq_ediv_of_nonneg _ (Int.natCast_nonneg _)]
  exact (Int.natCast_ediv _ _).symm
theorem ishl_i (k : IntKind) (x s : Nat) (hs : s ≤ k.bits) (h : x * 2 ^ s < 2 ^ (k.bits - 1)) : ishl k (x : Int) (s : Int) = ((x * 2 ^ s : Nat) : Int) := by
  unfold ishl
  rw [Int.toNat_natCast, Nat.min_eq_left hs, show (2 : Int) ^ s = ((2 ^ s : Nat) : Int) by simp, ← Int.natCast_mul]
  exact wrapi k _ h
theorem ishl_u (k : IntKind) (hk : k.signed = false) (x s : Nat) (hs : s ≤ k.bits) (h : x * 2 ^ s < 2 ^ k.bits) : ishl k (x : Int) (s : Int) = ((x * 2 ^ s : Nat) : Int) := by
  unfold ishl
  rw [Int.toNat_natCast, Nat.min_eq_left hs, show (2 : Int) ^ s = ((2 ^ s : Nat) : Int) by simp, ← Int.natCast_mul]
  exact wrapu k hk _ h
theorem wf_nat {k : IntKind} {x : Int} (hk : k.signed = false) (h : (Lit.int k x).wf = true) : ∃ n : Nat, x = n ∧ n < 2 ^ k.bits := by
  refine ⟨x.toNat, ?_⟩
  cases k <;> simp [IntKind.signed] at hk <;> simp [Lit.wf, IntKind.min, IntKind.max, IntKind.bits, IntKind.signed] at h ⊢ <;> omega

def PA (ns : List Node) (i : Nat) : Int := (ns.getD i Node.z).Parent
def HE (ns : List Node) (i : Nat) : Int := (ns.getD i Node.z).Height
/-- what a list of nodes must keep so that every node's line reaches the root -/
structure SN (ns : List Node) : Prop where
  one : 1 ≤ ns.length
  big : ns.length ≤ 4096
  p0 : PA ns 0 = -1
  h0 : HE ns 0 = 0
  low : ∀ i, 0 < i → i < ns.length → 0 ≤ PA ns i
  up : ∀ i, 0 < i → i < ns.length → PA ns i < i
  he : ∀ i, 0 < i → i < ns.length → HE ns i = IntKind.i64.wrap (HE ns (PA ns i).toNat + 1)
theorem SN.heR {ns : List Node} (h : SN ns) : ∀ i, i < ns.length → 0 ≤ HE ns i ∧ HE ns i ≤ i := by
  intro i
  induction i using Nat.strongRecOn with
  | ind i ih =>
    intro hi
    rcases Nat.eq_zero_or_pos i with rfl | hp
    · rw [h.h0]; omega
    · have h1 := h.low i hp hi
      have h2 := h.up i hp hi
      have h3 := ih (PA ns i).toNat (by omega) (by omega)
      have h4 := h.big
      rw [h.he i hp hi, wr (by omega) (by omega)]
      omega
theorem SN.he' {ns : List Node} (h : SN ns) (i : Nat) (hp : 0 < i) (hi : i < ns.length) : HE ns i = HE ns (PA ns i).toNat + 1 := by
  have h1 := h.low i hp hi
  have h2 := h.up i hp hi
  have h3 := h.heR (PA ns i).toNat (by omega)
  have h4 := h.big
  rw [h.he i hp hi, wr (by omega) (by omega)]
theorem SN.root {ns : List Node} (h : SN ns) (i : Nat) (hi : i < ns.length) (hz : HE ns i = 0) : i = 0 := by
  rcases Nat.eq_zero_or_pos i with rfl | hp
  · rfl
  · have h1 := h.low i hp hi
    have h2 := h.up i hp hi
    have h3 := h.heR (PA ns i).toNat (by omega)
    have h4 := h.he' i hp hi
    omega
def okN (ns : List Node) (i : Nat) : Bool :=
  if i = 0 then (PA ns 0 == -1 && HE ns 0 == 0) else (decide (0 ≤ PA ns i) && decide (PA ns i < i) && HE ns i == IntKind.i64.wrap (HE ns (PA ns i).toNat + 1))
def soundB (t : Tree) : Bool := decide (1 ≤ t.Nodes.length) && decide (t.Nodes.length ≤ 4096) && decide (0 ≤ t.Best) && decide (t.Best < (t.Nodes.length : Int)) && (List.range' 0 t.Nodes.length).all (okN t.Nodes)
theorem sound_loop (t : Tree) (hbig : t.Nodes.length ≤ 4096) : ∀ (m F i : Nat), i + m = t.Nodes.length → m + 1 ≤ F → branch_sound.l0 t F (i : Int) = some (if (List.range' i m).all (okN t.Nodes) then .go () else .ret false)
  | 0, F, i, h, hF => by
    obtain ⟨F, rfl⟩ : ∃ q, F = q + 1 := ⟨F - 1, by omega⟩
    rw [branch_sound.l0, if_neg (by simp; omega)]
    rfl
  | m + 1, F, i, h, hF => by
    obtain ⟨F, rfl⟩ : ∃ q, F = q + 1 := ⟨F - 1, by omega⟩
    have ih := sound_loop t hbig m F (i + 1) (by omega) (by omega)
    rw [branch_sound.l0, if_pos (by simp; omega), if_pos ⟨by omega, by omega⟩, List.range'_succ, List.all_cons, wr (x := (i : Int) + 1) (by omega) (by omega), show ((i : Int) + 1) = ((i + 1 : Nat) : Int) by omega]
    simp only [Int.toNat_natCast]
    change Option.bind (if ((i : Int) == 0) = true then (if (PA t.Nodes i != -1) = true then some true else some (HE t.Nodes i != 0)) else some false) _ = _
    rcases Nat.eq_zero_or_pos i with rfl | hp
    · rw [if_pos (by rfl)]
      by_cases h1 : PA t.Nodes 0 = -1
      · by_cases h2 : HE t.Nodes 0 = 0
        · rw [if_neg (by simp [h1]), Option.bind_some, if_neg (by simp [h2]), if_neg (by simp), Option.bind_some, if_neg (by decide), ih]
          have e : okN t.Nodes 0 = true := by simp [okN, h1, h2]
          rw [e, Bool.true_and]
        · rw [if_neg (by simp [h1]), Option.bind_some, if_pos (by simp [h2])]
          simp [okN, h2]
      · rw [if_pos (by simp [h1]), Option.bind_some, if_pos rfl]
        simp [okN, h1]
    · rw [if_neg (by simp; omega), Option.bind_some, if_neg (by decide), if_pos (by simp; omega)]
      change Option.bind (if decide (PA t.Nodes i < 0) = true then some true else if decide (PA t.Nodes i ≥ (i : Int)) = true then some true else if 0 ≤ PA t.Nodes i ∧ PA t.Nodes i < ((t.Nodes.length : Nat) : Int) then some (HE t.Nodes i != IntKind.i64.wrap (HE t.Nodes (PA t.Nodes i).toNat + 1)) else none) _ = _
      by_cases h1 : PA t.Nodes i < 0
      · rw [if_pos (by simpa using h1), Option.bind_some, if_pos rfl]
        simp [okN, show ¬ i = 0 by omega, show ¬ 0 ≤ PA t.Nodes i by omega]
      · by_cases h2 : PA t.Nodes i < i
        · rw [if_neg (by simpa using h1), if_neg (by simpa using h2), if_pos ⟨by omega, by omega⟩, Option.bind_some]
          by_cases h3 : HE t.Nodes i = IntKind.i64.wrap (HE t.Nodes (PA t.Nodes i).toNat + 1)
          · rw [if_neg (by simp [← h3]), ih]
            have e : okN t.Nodes i = true := by simp only [okN, if_neg (show ¬ i = 0 by omega)]; rw [← h3]; simp; omega
            rw [e, Bool.true_and]
          · rw [if_pos (by simp [h3])]
            have e : okN t.Nodes i = false := by simp [okN, show ¬ i = 0 by omega, h3]
            simp [e]
        · rw [if_neg (by simpa using h1), if_pos (by simp; omega), Option.bind_some, if_pos rfl]
          have e : okN t.Nodes i = false := by simp [okN, show ¬ i = 0 by omega, h2]
          simp [e]
theorem sound_ok (t : Tree) : Ev fun k => branch_sound.f k t = some (soundB t) := by
  by_cases hb : 1 ≤ t.Nodes.length ∧ t.Nodes.length ≤ 4096 ∧ 0 ≤ t.Best ∧ t.Best < (t.Nodes.length : Int)
  · obtain ⟨a, b, c, d⟩ := hb
    refine Ev.of (t.Nodes.length + 1) fun k => ?_
    have e : branch_sound.l0 t (k + (t.Nodes.length + 1)) 0 = _ := sound_loop t b t.Nodes.length (k + (t.Nodes.length + 1)) 0 (by omega) (by omega)
    unfold branch_sound.f soundB
    rw [if_neg (by simp; omega), if_neg (by simp; omega), if_neg (by simp; omega), Option.bind_some, if_neg (by simp; omega), e, Option.bind_some]
    rw [decide_eq_true a, decide_eq_true b, decide_eq_true c, decide_eq_true d]
    simp only [Bool.true_and]
    cases (List.range' 0 t.Nodes.length).all (okN t.Nodes) <;> rfl
  · refine Ev.all fun k => ?_
    have e : soundB t = false := by
      unfold soundB
      by_cases a : 1 ≤ t.Nodes.length
      · by_cases b : t.Nodes.length ≤ 4096
        · by_cases c : 0 ≤ t.Best
          · have d : ¬ t.Best < (t.Nodes.length : Int) := fun d => hb ⟨a, b, c, d⟩
            simp [d]
          · simp [c]
        · simp [b]
      · simp [a]
    rw [e]
    unfold branch_sound.f
    by_cases a : t.Nodes.length < 1
    · rw [if_pos (by simp; omega), Option.bind_some, if_pos rfl]
    · by_cases b : t.Nodes.length > 4096
      · rw [if_neg (by simp; omega), if_pos (by simp; omega), Option.bind_some, if_pos rfl]
      · by_cases c : t.Best < 0
        · rw [if_neg (by simp; omega), if_neg (by simp; omega), if_pos (by simpa using c), Option.bind_some, if_pos rfl]
        · rw [if_neg (by simp; omega), if_neg (by simp; omega), if_neg (by simpa using c), Option.bind_some, if_pos (by simp; omega)]
structure SoundT (t : Tree) : Prop where
  sn : SN t.Nodes
  b0 : 0 ≤ t.Best
  b1 : t.Best < (t.Nodes.length : Int)
theorem soundT_of {t : Tree} (h : soundB t = true) : SoundT t := by
  simp only [soundB, Bool.and_eq_true, decide_eq_true_eq, List.all_eq_true, List.mem_range'_1] at h
  obtain ⟨⟨⟨⟨a, b⟩, c⟩, d⟩, e⟩ := h
  have e0 := e 0 ⟨by omega, by omega⟩
  simp only [okN, if_pos, Bool.and_eq_true, beq_iff_eq] at e0
  have e1 : ∀ i, 0 < i → i < t.Nodes.length → 0 ≤ PA t.Nodes i ∧ PA t.Nodes i < i ∧ HE t.Nodes i = IntKind.i64.wrap (HE t.Nodes (PA t.Nodes i).toNat + 1) := by
    intro i hp hi
    have := e i ⟨by omega, by omega⟩
    simp only [okN, if_neg (show ¬ i = 0 by omega), Bool.and_eq_true, beq_iff_eq, decide_eq_true_eq] at this
    exact ⟨this.1.1, this.1.2, this.2⟩
  exact ⟨⟨a, b, e0.1, e0.2, fun i p q => (e1 i p q).1, fun i p q => (e1 i p q).2.1, fun i p q => (e1 i p q).2.2⟩, c, d⟩
theorem soundB_of {t : Tree} (h : SoundT t) : soundB t = true := by
  simp only [soundB, Bool.and_eq_true, decide_eq_true_eq, List.all_eq_true, List.mem_range'_1]
  refine ⟨⟨⟨⟨h.sn.one, h.sn.big⟩, h.b0⟩, h.b1⟩, fun i hi => ?_⟩
  rcases Nat.eq_zero_or_pos i with rfl | hp
  · simp [okN, h.sn.p0, h.sn.h0]
  · simp only [okN, if_neg (show ¬ i = 0 by omega), Bool.and_eq_true, beq_iff_eq, decide_eq_true_eq]
    exact ⟨⟨h.sn.low i hp (by omega), h.sn.up i hp (by omega)⟩, h.sn.he i hp (by omega)⟩

/-- a node's line: the root first, the node last -/
def lineN (ns : List Node) : Nat → Int → List Int
  | 0, n => [n]
  | h + 1, n => lineN ns h (PA ns n.toNat) ++ [n]
def lineOf (ns : List Node) (n : Int) : List Int := lineN ns (HE ns n.toNat).toNat n
theorem length_lineN (ns : List Node) : ∀ (h : Nat) (n : Int), (lineN ns h n).length = h + 1
  | 0, n => rfl
  | h + 1, n => by rw [lineN, List.length_append, length_lineN ns h]; rfl
structure IsLine (ns : List Node) (L : List Int) (n : Nat) : Prop where
  len : (L.length : Int) = HE ns n + 1
  rng : ∀ j, j < L.length → ∃ q : Nat, L.getD j 0 = (q : Int) ∧ q < ns.length ∧ HE ns q = (j : Int)
  par : ∀ j, j + 1 < L.length → PA ns (L.getD (j + 1) 0).toNat = L.getD j 0
  last : L.getD (L.length - 1) 0 = (n : Int)
theorem getD_app_lt {α : Type} (a b : List α) (d : α) (i : Nat) (h : i < a.length) : (a ++ b).getD i d = a.getD i d := by
  rw [List.getD_eq_getElem?_getD, List.getD_eq_getElem?_getD, List.getElem?_append_left h]
theorem getD_app_len {α : Type} (a : List α) (x d : α) (i : Nat) (h : i = a.length) : (a ++ [x]).getD i d = x := by
  subst h
  rw [List.getD_eq_getElem?_getD, List.getElem?_append_right (Nat.le_refl _)]
  simp
theorem SN.nat {ns : List Node} (h : SN ns) (i : Nat) (hp : 0 < i) (hi : i < ns.length) : ∃ p : Nat, PA ns i = (p : Int) ∧ p < i ∧ HE ns i = HE ns p + 1 := by
  have h1 := h.low i hp hi
  have h2 := h.up i hp hi
  have h3 := h.he' i hp hi
  exact ⟨(PA ns i).toNat, by omega, by omega, h3⟩
theorem isLine {ns : List Node} (s : SN ns) : ∀ (h i : Nat), i < ns.length → HE ns i = (h : Int) → IsLine ns (lineN ns h (i : Int)) i
  | 0, i, hi, hh => by
    refine ⟨by rw [length_lineN, hh]; rfl, fun j hj => ?_, fun j hj => ?_, rfl⟩
    · have hj0 : j = 0 := by have : j < 1 := hj; omega
      subst hj0
      exact ⟨i, rfl, hi, hh⟩
    · have : j + 1 < 1 := hj
      omega
  | h + 1, i, hi, hh => by
    have hp : 0 < i := by
      rcases Nat.eq_zero_or_pos i with rfl | hp
      · have := s.h0; omega
      · exact hp
    obtain ⟨p, e1, e2, e3⟩ := s.nat i hp hi
    have ih := isLine s h p (by omega) (by omega)
    have hl := length_lineN ns h (p : Int)
    have el : lineN ns (h + 1) (i : Int) = lineN ns h (p : Int) ++ [(i : Int)] := by rw [lineN, Int.toNat_natCast, e1]
    rw [el]
    refine ⟨by rw [List.length_append, hl, hh]; simp, fun j hj => ?_, fun j hj => ?_, ?_⟩
    · rw [List.length_append, List.length_singleton] at hj
      by_cases hlt : j < (lineN ns h (p : Int)).length
      · rw [getD_app_lt _ _ _ _ hlt]; exact ih.rng j hlt
      · rw [getD_app_len _ _ _ _ (by omega)]; exact ⟨i, rfl, hi, by rw [hh]; omega⟩
    · rw [List.length_append, List.length_singleton] at hj
      by_cases hlt : j + 1 < (lineN ns h (p : Int)).length
      · rw [getD_app_lt _ _ _ _ hlt, getD_app_lt _ _ _ _ (by omega)]; exact ih.par j hlt
      · rw [getD_app_len _ _ _ _ (by omega), getD_app_lt _ _ _ _ (by omega), Int.toNat_natCast, e1]
        have := ih.last
        rw [show (lineN ns h (p : Int)).length - 1 = j by omega] at this
        exact this.symm
    · rw [List.length_append, List.length_singleton, Nat.add_sub_cancel, getD_app_len _ _ _ _ rfl]
theorem isLineOf {ns : List Node} (s : SN ns) (i : Nat) (hi : i < ns.length) : IsLine ns (lineOf ns (i : Int)) i := by
  have h := s.heR i hi
  unfold lineOf
  rw [Int.toNat_natCast]
  exact isLine s _ i hi (by omega)
theorem IsLine.zero {ns : List Node} (s : SN ns) {L : List Int} {n : Nat} (h : IsLine ns L n) (hl : 0 < L.length) : L.getD 0 0 = 0 := by
  obtain ⟨q, e, hq, hh⟩ := h.rng 0 hl
  have := s.root q hq (by simpa using hh)
  rw [e, this]; rfl
theorem set_rep (h : Nat) (x : Int) (rest : List Int) : (List.replicate (h + 1) (0 : Int) ++ rest).set h x = List.replicate h 0 ++ x :: rest := by
  have : List.replicate (h + 1) (0 : Int) ++ rest = List.replicate h 0 ++ 0 :: rest := by
    rw [List.replicate_succ', List.append_assoc]; rfl
  rw [this, List.set_append_right _ _ (by simp)]
  simp
theorem chain_loop (t : Tree) (s : SN t.Nodes) (n0 : Int) (cap : Nat) (hcap : (IntKind.i64.wrap (((t.Nodes.getD n0.toNat Node.z).Height) + 1)).toNat = cap) (hc : cap ≤ 5000) :
    ∀ (h k i : Nat) (rest : List Int), i < t.Nodes.length → HE t.Nodes i = (h : Int) → h + 1 ≤ cap →
      branch_chain.l0 t n0 (k + h + 2) (i : Int) (List.replicate (h + 1) 0 ++ rest) (h : Int) = some (lineN t.Nodes h (i : Int) ++ rest)
  | 0, k, i, rest, hi, hh, hr => by
    rw [show k + 0 + 2 = (k + 1) + 1 by omega, branch_chain.l0, hcap, if_pos (by simp), if_pos ⟨by omega, by omega⟩, if_pos ⟨by omega, by omega⟩, branch_chain.l0, wr (by omega) (by omega), if_neg (by simp)]
    simp [lineN]
  | h + 1, k, i, rest, hi, hh, hr => by
    have hp : 0 < i := by
      rcases Nat.eq_zero_or_pos i with rfl | hp
      · have := s.h0; omega
      · exact hp
    obtain ⟨p, e1, e2, e3⟩ := s.nat i hp hi
    have e1' : (t.Nodes.getD (i : Int).toNat Node.z).Parent = (p : Int) := e1
    have ih := chain_loop t s n0 cap hcap hc h k p ((i : Int) :: rest) (by omega) (by omega) (by omega)
    rw [show k + (h + 1) + 2 = (k + h + 2) + 1 by omega, branch_chain.l0, hcap, if_pos (by simp; omega), if_pos ⟨by omega, by omega⟩, if_pos ⟨by omega, by omega⟩, e1', Int.toNat_natCast, set_rep, wr (by omega) (by omega), show (((h + 1 : Nat) : Int) - 1) = (h : Int) by omega, ih, lineN, Int.toNat_natCast, e1]
    simp
theorem chain_ok (t : Tree) (s : SN t.Nodes) (i : Nat) (hi : i < t.Nodes.length) : Ev fun k => branch_chain.f k t (i : Int) = some (lineOf t.Nodes (i : Int)) := by
  have hr := s.heR i hi
  have hb := s.big
  obtain ⟨h, hh⟩ : ∃ h : Nat, HE t.Nodes i = (h : Int) := ⟨(HE t.Nodes i).toNat, by omega⟩
  have e : (t.Nodes.getD (i : Int).toNat Node.z).Height = (h : Int) := hh
  have hw : IntKind.i64.wrap ((h : Int) + 1) = ((h + 1 : Nat) : Int) := by rw [wr (by omega) (by omega)]; omega
  have hcap : (IntKind.i64.wrap (((t.Nodes.getD (i : Int).toNat Node.z).Height) + 1)).toNat = h + 1 := by rw [e, hw, Int.toNat_natCast]
  refine Ev.of (h + 2) fun k => ?_
  have hl := chain_loop t s (i : Int) (h + 1) hcap (by omega) h k i [] hi hh (by omega)
  unfold branch_chain.f
  rw [hcap, e, hw, if_pos ⟨by omega, by omega⟩, if_pos ⟨by omega, by omega⟩, wr (by omega) (by omega), show (((h + 1 : Nat) : Int) - 1) = (h : Int) by omega, ← List.append_nil (List.replicate (h + 1) (0 : Int)), ← Nat.add_assoc, hl, Option.bind_some, List.append_nil]
  unfold lineOf
  rw [Int.toNat_natCast, hh, Int.toNat_natCast]
/-- how far two lists agree -/
def cp : List Int → List Int → Nat
  | x :: xs, y :: ys => if x = y then cp xs ys + 1 else 0
  | _, _ => 0
theorem cp_le : ∀ a b : List Int, cp a b ≤ a.length ∧ cp a b ≤ b.length
  | [], b => by simp [cp]
  | x :: xs, [] => by simp [cp]
  | x :: xs, y :: ys => by
    have := cp_le xs ys
    rw [cp]
    split <;> simp <;> omega
theorem cp_eq : ∀ (a b : List Int) (j : Nat), j < cp a b → a.getD j 0 = b.getD j 0
  | [], b, j, h => by simp [cp] at h
  | x :: xs, [], j, h => by simp [cp] at h
  | x :: xs, y :: ys, j, h => by
    rw [cp] at h
    split at h
    next e =>
      cases j with
      | zero => simpa using e
      | succ j =>
        have := cp_eq xs ys j (by omega)
        simpa using this
    next => omega
theorem cp_ne : ∀ (a b : List Int), cp a b < a.length → cp a b < b.length → a.getD (cp a b) 0 ≠ b.getD (cp a b) 0
  | [], b, h, _ => by simp at h
  | x :: xs, [], _, h => by simp at h
  | x :: xs, y :: ys, h1, h2 => by
    rw [cp] at h1 h2 ⊢
    by_cases e : x = y
    · rw [if_pos e] at h1 h2 ⊢
      have := cp_ne xs ys (by simpa using h1) (by simpa using h2)
      simpa using this
    · rw [if_neg e]
      simpa using e
theorem cp_comm : ∀ a b : List Int, cp a b = cp b a
  | [], [] => rfl
  | [], _ :: _ => rfl
  | _ :: _, [] => rfl
  | x :: xs, y :: ys => by
    rw [cp, cp, cp_comm xs ys]
    by_cases e : x = y
    · rw [if_pos e, if_pos e.symm]
    · rw [if_neg e, if_neg (fun h => e h.symm)]
theorem cp_pos {a b : List Int} (ha : 0 < a.length) (hb : 0 < b.length) (h : a.getD 0 0 = b.getD 0 0) : 0 < cp a b := by
  cases a with
  | nil => simp at ha
  | cons x xs =>
    cases b with
    | nil => simp at hb
    | cons y ys =>
      have e : x = y := by simpa using h
      rw [cp, if_pos e]; omega
theorem common_loop (a b : List Int) (ha : a.length ≤ 5000) : ∀ (m F h : Nat), h + 1 + m = cp a b → m + 1 ≤ F → branch_common.l0 a b F (h : Int) = some ((h + m : Nat) : Int)
  | 0, F, h, e, hF => by
    obtain ⟨F, rfl⟩ : ∃ q, F = q + 1 := ⟨F - 1, by omega⟩
    have hc := cp_le a b
    rw [branch_common.l0, wr (by omega) (by omega), show ((h : Int) + 1) = ((h + 1 : Nat) : Int) by omega]
    by_cases h1 : h + 1 < a.length
    · by_cases h2 : h + 1 < b.length
      · have hn := cp_ne a b (by omega) (by omega)
        rw [show cp a b = h + 1 by omega] at hn
        rw [if_pos (by simp; omega), if_pos (by simp; omega), if_pos ⟨by omega, by omega⟩, if_pos ⟨by omega, by omega⟩, Int.toNat_natCast, Option.bind_some, if_neg (by simpa using hn)]
        rfl
      · rw [if_pos (by simp; omega), if_neg (by simp; omega), Option.bind_some, if_neg (by decide)]
        rfl
    · rw [if_neg (by simp; omega), Option.bind_some, if_neg (by decide)]
      rfl
  | m + 1, F, h, e, hF => by
    obtain ⟨F, rfl⟩ : ∃ q, F = q + 1 := ⟨F - 1, by omega⟩
    have hc := cp_le a b
    have he := cp_eq a b (h + 1) (by omega)
    have ih := common_loop a b ha m F (h + 1) (by omega) (by omega)
    rw [branch_common.l0, wr (by omega) (by omega), show ((h : Int) + 1) = ((h + 1 : Nat) : Int) by omega, if_pos (by simp; omega), if_pos (by simp; omega), if_pos ⟨by omega, by omega⟩, if_pos ⟨by omega, by omega⟩, Int.toNat_natCast, he, Option.bind_some, if_pos (by simp), ih]
    congr 2
    omega
theorem common_ok (a b : List Int) (ha : a.length ≤ 5000) (h : 0 < cp a b) : Ev fun k => branch_common.f k a b = some ((cp a b - 1 : Nat) : Int) := by
  refine Ev.of (cp a b + 1) fun k => ?_
  have e : branch_common.l0 a b (k + (cp a b + 1)) 0 = _ := common_loop a b ha (cp a b - 1) (k + (cp a b + 1)) 0 (by omega) (by omega)
  unfold branch_common.f
  rw [e, Option.bind_some, Nat.zero_add]
theorem has_ok (t : Tree) (l : List Int) (hl : l.length ≤ 10) : Ev fun k => branch_has.f k t l = some (l.all (fun x => decide (0 ≤ x) && decide (x < (t.Nodes.length : Int))) && soundB t) := by
  have lp : ∀ (m F i : Nat), i + m = l.length → m + 1 ≤ F → branch_has.l0 t l F (i : Int) = some (if (l.drop i).all (fun x => decide (0 ≤ x) && decide (x < (t.Nodes.length : Int))) then .go () else .ret false) := by
    intro m
    induction m with
    | zero =>
      intro F i h hF
      obtain ⟨F, rfl⟩ : ∃ q, F = q + 1 := ⟨F - 1, by omega⟩
      rw [branch_has.l0, if_neg (by simp; omega), List.drop_of_length_le (by omega)]
      rfl
    | succ m ih =>
      intro F i h hF
      obtain ⟨F, rfl⟩ : ∃ q, F = q + 1 := ⟨F - 1, by omega⟩
      have hi : i < l.length := by omega
      have ih := ih F (i + 1) (by omega) (by omega)
      have hg : l.getD (i : Int).toNat 0 = l[i] := by rw [Int.toNat_natCast, List.getD_eq_getElem?_getD, List.getElem?_eq_getElem hi]; rfl
      rw [branch_has.l0, if_pos (by simp; omega), if_pos ⟨by omega, by omega⟩, hg, wr (by omega) (by omega), show ((i : Int) + 1) = ((i + 1 : Nat) : Int) by omega, List.drop_eq_getElem_cons hi, List.all_cons]
      by_cases h1 : l[i] < 0
      · rw [if_pos (by simpa using h1), Option.bind_some, if_pos rfl]
        simp [show ¬ 0 ≤ l[i] by omega]
      · by_cases h2 : l[i] < (t.Nodes.length : Int)
        · rw [if_neg (by simpa using h1), Option.bind_some, if_neg (by simpa using h2), ih, decide_eq_true (show 0 ≤ l[i] by omega), decide_eq_true h2, Bool.true_and, Bool.true_and]
        · rw [if_neg (by simpa using h1), Option.bind_some, if_pos (by simp; omega)]
          simp [h2]
  refine ((Ev.of (p := fun k => branch_has.l0 t l k ((0 : Nat) : Int) = some (if (l.drop 0).all (fun x => decide (0 ≤ x) && decide (x < (t.Nodes.length : Int))) then .go () else .ret false)) (l.length + 1) fun k => lp l.length (k + (l.length + 1)) 0 (by omega) (by omega)).and (sound_ok t)).mono fun k ⟨h1, h2⟩ => ?_
  have h1' : branch_has.l0 t l k 0 = _ := h1
  unfold branch_has.f
  rw [h1', Option.bind_some, List.drop_zero]
  cases l.all (fun x => decide (0 ≤ x) && decide (x < (t.Nodes.length : Int))) with
  | true =>
    have h2' : branch_sound.f k (Tree.mk t.Nodes t.Best) = _ := h2
    rw [if_pos rfl]
    dsimp only
    rw [h2', Option.bind_some, Bool.true_and]
  | false => rfl
/-- the answers, as values -/
def inT (t : Tree) (x : Int) : Bool := decide (0 ≤ x) && decide (x < (t.Nodes.length : Int))
def mainV (t : Tree) : List Int := if soundB t then lineOf t.Nodes t.Best else []
def forkV (t : Tree) (a b : Int) : Int := if inT t a && inT t b && soundB t then (lineOf t.Nodes a).getD (cp (lineOf t.Nodes a) (lineOf t.Nodes b) - 1) 0 else -1
def ancV (t : Tree) (n h : Int) : Int := if inT t n && soundB t && decide (0 ≤ h) && decide (h ≤ HE t.Nodes n.toNat) then (lineOf t.Nodes n).getD h.toNat 0 else -1
def upV (t : Tree) (a b : Int) : List Int := if inT t a && inT t b && soundB t then ((lineOf t.Nodes a).drop (cp (lineOf t.Nodes a) (lineOf t.Nodes b))).reverse else []
def downV (t : Tree) (a b : Int) : List Int := if inT t a && inT t b && soundB t then (lineOf t.Nodes b).drop (cp (lineOf t.Nodes a) (lineOf t.Nodes b)) else []
theorem line_len {t : Tree} (s : SN t.Nodes) (i : Nat) (hi : i < t.Nodes.length) : ((lineOf t.Nodes (i : Int)).length : Int) = HE t.Nodes i + 1 ∧ (lineOf t.Nodes (i : Int)).length ≤ 4097 ∧ 0 < (lineOf t.Nodes (i : Int)).length := by
  have h1 := (isLineOf s i hi).len
  have h2 := s.heR i hi
  have h3 := s.big
  exact ⟨h1, by omega, by omega⟩
theorem lines_cp {t : Tree} (s : SN t.Nodes) (i j : Nat) (hi : i < t.Nodes.length) (hj : j < t.Nodes.length) : 0 < cp (lineOf t.Nodes (i : Int)) (lineOf t.Nodes (j : Int)) :=
  cp_pos (line_len s i hi).2.2 (line_len s j hj).2.2 (by rw [(isLineOf s i hi).zero s (line_len s i hi).2.2, (isLineOf s j hj).zero s (line_len s j hj).2.2])
theorem inT_nat {t : Tree} {x : Int} (h : inT t x = true) : ∃ i : Nat, x = (i : Int) ∧ i < t.Nodes.length := by
  simp only [inT, Bool.and_eq_true, decide_eq_true_eq] at h
  exact ⟨x.toNat, by omega, by omega⟩
theorem fork_ok (t : Tree) (a b : Int) : Ev fun k => branch_Fork.f k t a b = some (forkV t a b) := by
  have hh := has_ok t [a, b] (by simp)
  have eh : ([a, b].all (fun x => decide (0 ≤ x) && decide (x < (t.Nodes.length : Int))) && soundB t) = (inT t a && inT t b && soundB t) := by simp [inT]
  rw [eh] at hh
  cases hc : (inT t a && inT t b && soundB t) with
  | false =>
    refine hh.mono fun k h => ?_
    have h' : branch_has.f k (Tree.mk t.Nodes t.Best) [a, b] = _ := h
    unfold branch_Fork.f forkV
    rw [h', hc, Option.bind_some]
    rfl
  | true =>
    have hc' := hc
    simp only [Bool.and_eq_true] at hc'
    obtain ⟨i, rfl, hi⟩ := inT_nat hc'.1.1
    obtain ⟨j, rfl, hj⟩ := inT_nat hc'.1.2
    have s := (soundT_of hc'.2).sn
    have hl := line_len s i hi
    have hcp := lines_cp s i j hi hj
    have hle := cp_le (lineOf t.Nodes (i : Int)) (lineOf t.Nodes (j : Int))
    refine (hh.and ((chain_ok t s i hi).and ((chain_ok t s j hj).and (common_ok _ _ (by omega) hcp)))).mono fun k ⟨h, h1, h2, h3⟩ => ?_
    have h' : branch_has.f k (Tree.mk t.Nodes t.Best) [(i : Int), (j : Int)] = _ := h
    have h1' : branch_chain.f k (Tree.mk t.Nodes t.Best) (i : Int) = _ := h1
    have h2' : branch_chain.f k (Tree.mk t.Nodes t.Best) (j : Int) = _ := h2
    unfold branch_Fork.f forkV
    rw [h', hc, Option.bind_some, if_neg (by decide), h1', Option.bind_some, h2', Option.bind_some, h3, Option.bind_some, if_pos ⟨by omega, by omega⟩, if_pos rfl, Int.toNat_natCast]
theorem anc_ok (t : Tree) (n h : Int) : Ev fun k => branch_Ancestor.f k t n h = some (ancV t n h) := by
  have hh := has_ok t [n] (by simp)
  have eh : ([n].all (fun x => decide (0 ≤ x) && decide (x < (t.Nodes.length : Int))) && soundB t) = (inT t n && soundB t) := by simp [inT]
  rw [eh] at hh
  cases hc : (inT t n && soundB t) with
  | false =>
    refine hh.mono fun k h => ?_
    have h' : branch_has.f k (Tree.mk t.Nodes t.Best) [n] = _ := h
    unfold branch_Ancestor.f ancV
    rw [h', hc, Option.bind_some]
    rfl
  | true =>
    have hc' := hc
    simp only [Bool.and_eq_true] at hc'
    obtain ⟨i, rfl, hi⟩ := inT_nat hc'.1
    have s := (soundT_of hc'.2).sn
    have hl := line_len s i hi
    refine (hh.and (chain_ok t s i hi)).mono fun k ⟨h0, h1⟩ => ?_
    have h' : branch_has.f k (Tree.mk t.Nodes t.Best) [(i : Int)] = _ := h0
    have h1' : branch_chain.f k (Tree.mk t.Nodes t.Best) (i : Int) = _ := h1
    have eH : (t.Nodes.getD (i : Int).toNat Node.z).Height = HE t.Nodes i := rfl
    unfold branch_Ancestor.f ancV
    rw [h', hc, Option.bind_some, if_neg (by decide), Bool.true_and, eH, Int.toNat_natCast]
    by_cases h2 : 0 ≤ h
    · by_cases h3 : h ≤ HE t.Nodes i
      · rw [if_neg (by simpa using h2), if_pos ⟨by omega, by omega⟩, Option.bind_some, if_neg (by simp; omega), h1', Option.bind_some, if_pos ⟨by omega, by omega⟩, decide_eq_true h2, decide_eq_true h3, Bool.and_true, if_pos rfl]
      · rw [if_neg (by simpa using h2), if_pos ⟨by omega, by omega⟩, Option.bind_some, if_pos (by simp; omega), decide_eq_false h3, Bool.and_false]
        rfl
    · rw [if_pos (by simp; omega), Option.bind_some, if_pos rfl, decide_eq_false h2, Bool.false_and]
      rfl
theorem main_ok (t : Tree) : Ev fun k => branch_Main.f k t = some (mainV t) := by
  have hh := sound_ok t
  cases hc : soundB t with
  | false =>
    refine hh.mono fun k h => ?_
    have h' : branch_sound.f k (Tree.mk t.Nodes t.Best) = _ := h
    unfold branch_Main.f mainV
    rw [h', hc, Option.bind_some]
    rfl
  | true =>
    have s := soundT_of hc
    obtain ⟨i, hi⟩ : ∃ i : Nat, t.Best = (i : Int) := ⟨t.Best.toNat, by have := s.b0; omega⟩
    have hlt : i < t.Nodes.length := by have := s.b1; omega
    refine (hh.and (chain_ok t s.sn i hlt)).mono fun k ⟨h, h1⟩ => ?_
    have h' : branch_sound.f k (Tree.mk t.Nodes t.Best) = _ := h
    have h1' : branch_chain.f k (Tree.mk t.Nodes t.Best) (i : Int) = _ := h1
    unfold branch_Main.f mainV
    rw [h', hc, Option.bind_some, if_neg (by decide)]
    rw [hi] at h1' ⊢
    rw [h1', Option.bind_some, if_pos rfl]
theorem getD_set_of (l : List Int) (i p : Nat) (v : Int) (h : i < l.length) : (l.set i v).getD p 0 = if p = i then v else l.getD p 0 := by
  rw [List.getD_eq_getElem?_getD, List.getD_eq_getElem?_getD, List.getElem?_set]
  by_cases e : i = p
  · subst e; rw [if_pos rfl, if_pos h, if_pos rfl]; rfl
  · rw [if_neg e, if_neg (fun h => e h.symm)]
theorem rev_getD (l : List Int) (i : Nat) (h : i < l.length) : l.reverse.getD i 0 = l.getD (l.length - 1 - i) 0 := by
  rw [List.getD_eq_getElem?_getD, List.getD_eq_getElem?_getD, List.getElem?_reverse h]
theorem drop_getD (l : List Int) (c i : Nat) : (l.drop c).getD i 0 = l.getD (c + i) 0 := by
  rw [List.getD_eq_getElem?_getD, List.getD_eq_getElem?_getD, List.getElem?_drop]
theorem ext_getD {a b : List Int} (hl : a.length = b.length) (h : ∀ p, p < a.length → a.getD p 0 = b.getD p 0) : a = b := by
  apply List.ext_getElem hl
  intro p h1 h2
  have := h p h1
  rw [List.getD_eq_getElem?_getD, List.getD_eq_getElem?_getD, List.getElem?_eq_getElem h1, List.getElem?_eq_getElem h2] at this
  exact this
theorem rev_loop (s : List Int) (hs : s.length ≤ 5000) : ∀ (m F i : Nat) (xs : List Int), i + m = s.length → m + 1 ≤ F → xs.length = s.length →
    (∀ p, p < s.length → xs.getD p 0 = if p < i ∨ s.length < p + 1 + i then s.getD (s.length - 1 - p) 0 else s.getD p 0) →
    slices_Reverse_int.l0 s F xs (i : Int) ((s.length : Int) - 1 - (i : Int)) = some s.reverse := by
  intro m
  induction m with
  | zero =>
    intro F i xs h hF hx inv
    obtain ⟨F, rfl⟩ : ∃ q, F = q + 1 := ⟨F - 1, by omega⟩
    rw [slices_Reverse_int.l0, if_neg (by simp; omega)]
    congr 1
    refine ext_getD (by simp [hx]) fun p hp => ?_
    rw [inv p (by omega), rev_getD _ _ (by omega), if_pos (by omega)]
  | succ m ih =>
    intro F i xs h hF hx inv
    obtain ⟨F, rfl⟩ : ∃ q, F = q + 1 := ⟨F - 1, by omega⟩
    by_cases hlt : i + i + 1 < s.length
    · obtain ⟨j, hj⟩ : ∃ j : Nat, j = s.length - 1 - i := ⟨_, rfl⟩
      have ej : (s.length : Int) - 1 - (i : Int) = (j : Int) := by omega
      rw [slices_Reverse_int.l0, ej, if_pos (by simp; omega), if_pos ⟨by omega, by omega⟩, if_pos ⟨by omega, by omega⟩, if_pos ⟨by omega, by omega⟩, if_pos ⟨by omega, by omega⟩, wr (by omega) (by omega), wr (by omega) (by omega), Int.toNat_natCast, Int.toNat_natCast, show ((i : Int) + 1) = ((i + 1 : Nat) : Int) by omega, show ((j : Int) - 1) = (s.length : Int) - 1 - ((i + 1 : Nat) : Int) by omega]
      refine ih F (i + 1) _ (by omega) (by omega) (by simp [hx]) fun p hp => ?_
      rw [getD_set_of _ _ _ _ (by simp; omega), getD_set_of _ _ _ _ (by omega)]
      have vi := inv i (by omega)
      have vj := inv j (by omega)
      rw [if_neg (by omega)] at vi vj
      by_cases e1 : p = j
      · rw [if_pos e1, if_pos (by omega), vi, e1, show s.length - 1 - j = i by omega]
      · by_cases e2 : p = i
        · rw [if_neg e1, if_pos e2, if_pos (by omega), vj, e2, show s.length - 1 - i = j by omega]
        · rw [if_neg e1, if_neg e2, inv p hp]
          by_cases e3 : p < i ∨ s.length < p + 1 + i
          · rw [if_pos e3, if_pos (by omega)]
          · rw [if_neg e3, if_neg (by omega)]
    · rw [slices_Reverse_int.l0, if_neg (by simp; omega)]
      congr 1
      refine ext_getD (by simp [hx]) fun p hp => ?_
      rw [inv p (by omega), rev_getD _ _ (by omega)]
      by_cases e : p < i ∨ s.length < p + 1 + i
      · rw [if_pos e]
      · rw [if_neg e, show s.length - 1 - p = p by omega]
theorem rev_ok (s : List Int) (hs : s.length ≤ 5000) : Ev fun k => slices_Reverse_int.f k s = some s.reverse := by
  refine Ev.of (s.length + 1) fun k => ?_
  have h := rev_loop s hs s.length (k + (s.length + 1)) 0 s (by omega) (by omega) rfl (fun p hp => by rw [if_neg (by omega)])
  have e : (s.length : Int) - 1 - ((0 : Nat) : Int) = (s.length : Int) - 1 := by omega
  rw [e] at h
  have h' : slices_Reverse_int.l0 s (k + (s.length + 1)) s 0 ((s.length : Int) - 1) = _ := h
  unfold slices_Reverse_int.f
  rw [wr (by omega) (by omega), h', Option.bind_some]
theorem SN.snoc {xs : List Node} (s : SN xs) (hl : xs.length < 4096) (nd : Node) (p : Nat) (h1 : nd.Parent = (p : Int)) (h2 : p < xs.length) (h3 : nd.Height = IntKind.i64.wrap (HE xs p + 1)) : SN (xs ++ [nd]) := by
  have hone := s.one
  have eP : ∀ i, i < xs.length → PA (xs ++ [nd]) i = PA xs i := fun i hi => by unfold PA; rw [getD_app_lt _ _ _ _ hi]
  have eH : ∀ i, i < xs.length → HE (xs ++ [nd]) i = HE xs i := fun i hi => by unfold HE; rw [getD_app_lt _ _ _ _ hi]
  have lP : PA (xs ++ [nd]) xs.length = (p : Int) := by unfold PA; rw [getD_app_len _ _ _ _ rfl, h1]
  have lH : HE (xs ++ [nd]) xs.length = IntKind.i64.wrap (HE xs p + 1) := by unfold HE; rw [getD_app_len _ _ _ _ rfl, h3]; rfl
  have hll : (xs ++ [nd]).length = xs.length + 1 := by simp
  refine ⟨by omega, by omega, by rw [eP 0 (by omega), s.p0], by rw [eH 0 (by omega), s.h0], ?_, ?_, ?_⟩
  · intro i hp hi
    by_cases hlt : i < xs.length
    · rw [eP i hlt]; exact s.low i hp hlt
    · obtain rfl : i = xs.length := by omega
      rw [lP]; omega
  · intro i hp hi
    by_cases hlt : i < xs.length
    · rw [eP i hlt]; exact s.up i hp hlt
    · obtain rfl : i = xs.length := by omega
      rw [lP]; omega
  · intro i hp hi
    by_cases hlt : i < xs.length
    · have a := s.low i hp hlt
      have b := s.up i hp hlt
      rw [eP i hlt, eH i hlt, eH _ (by omega)]; exact s.he i hp hlt
    · obtain rfl : i = xs.length := by omega
      rw [lP, lH, Int.toNat_natCast, eH p h2]
theorem par_ok (s : Int) (h0 : 0 ≤ s) (h1 : s < 256) (t : Nat) (ht : t ≤ 100) : ∃ p : Nat, (if IntKind.i64.wrap ((t : Int) - (IntKind.i64.wrap ((IntKind.i64.wrap (s.tmod 4)) * (IntKind.i64.wrap (IntKind.u8.wrap (s.tdiv 64)))))) > 0 then IntKind.i64.wrap ((t : Int) - (IntKind.i64.wrap ((IntKind.i64.wrap (s.tmod 4)) * (IntKind.i64.wrap (IntKind.u8.wrap (s.tdiv 64)))))) else 0) = (p : Int) ∧ p ≤ t := by
  have e1 : IntKind.i64.wrap (s.tmod 4) = s % 4 := by rw [Int.tmod_eq_emod_of_nonneg h0, wr (by omega) (by omega)]
  have e2 : IntKind.i64.wrap (IntKind.u8.wrap (s.tdiv 64)) = s / 64 := by rw [Int.tdiv_eq_ediv_of_nonneg h0, wr8 (by omega) (by omega), wr (by omega) (by omega)]
  have b1 : 0 ≤ (s % 4) * (s / 64) := Int.mul_nonneg (by omega) (by omega)
  have b2 : (s % 4) * (s / 64) ≤ 3 * 3 := by
    have : (s % 4) * (s / 64) ≤ 3 * (s / 64) := Int.mul_le_mul_of_nonneg_right (by omega) (by omega)
    omega
  rw [e1, e2]
  generalize (s % 4) * (s / 64) = m at b1 b2
  rw [wr (x := m) (by omega) (by omega), wr (by omega) (by omega)]
  by_cases hg : (t : Int) - m > 0
  · rw [if_pos hg]; exact ⟨((t : Int) - m).toNat, by omega, by omega⟩
  · rw [if_neg hg]; exact ⟨0, rfl, by omega⟩
/-- the hash of node i of a line -/
def hv : Nat → Vector Int 32
  | 0 => (Vector.replicate 32 0 : Vector Int 32).setIfInBounds 0 255
  | i + 1 => (((Vector.replicate 32 0 : Vector Int 32).setIfInBounds 0 (IntKind.u8.wrap (i : Int))).setIfInBounds 1 1)
theorem line_loop (l0 l : List Int) (hl : ∀ x ∈ l, 0 ≤ x ∧ x < 256) (hcnt : (if 60 < ((l0.length : Nat) : Int) then (60 : Int) else ((l0.length : Nat) : Int)).toNat = l.length) (h60 : l.length ≤ 60) : ∀ (m t : Nat) (xs : List Node), t + m = l.length → xs.length = t + 1 → SN xs → (∀ i, i < xs.length → (xs.getD i Node.z).Hash = hv i) → ∃ ys, SN ys ∧ ys.length = l.length + 1 ∧ (∀ i, i < ys.length → (ys.getD i Node.z).Hash = hv i) ∧ ∀ F, m + 1 ≤ F → law16_line.l0 l0 F xs l (t : Int) = some ys
  | 0, t, xs, h, hx, s, hh => by
    refine ⟨xs, s, by omega, hh, fun F hF => ?_⟩
    obtain ⟨F, rfl⟩ : ∃ q, F = q + 1 := ⟨F - 1, by omega⟩
    rw [law16_line.l0, hcnt, if_neg (by simp; omega)]
  | m + 1, t, xs, h, hx, s, hh => by
    have ht : t < l.length := by omega
    have hg : l.getD (t : Int).toNat 0 = l[t] := by rw [Int.toNat_natCast, List.getD_eq_getElem?_getD, List.getElem?_eq_getElem ht]; rfl
    have hb := hl l[t] (List.getElem_mem ht)
    obtain ⟨p, ep, hp⟩ := par_ok l[t] hb.1 hb.2 t (by omega)
    obtain ⟨ys, h1, h2, hy, h3⟩ := line_loop l0 l hl hcnt h60 m (t + 1) (xs ++ [({ { { { Node.z with Header_ := ({ Header.z with Nonce := IntKind.u32.wrap (t : Int) }) } with Hash := ((((Vector.replicate 32 0 : Vector Int 32).setIfInBounds 0 (IntKind.u8.wrap (t : Int))).setIfInBounds 1 1)) } with Parent := (p : Int) } with Height := IntKind.i64.wrap (((xs.getD (p : Int).toNat Node.z).Height) + 1) })]) (by omega) (by simp [hx]) (s.snoc (by omega) _ p rfl (by omega) rfl) (fun i hi => by
        rw [List.length_append, List.length_singleton] at hi
        by_cases hlt : i < xs.length
        · rw [getD_app_lt _ _ _ _ hlt]; exact hh i hlt
        · obtain rfl : i = t + 1 := by omega
          rw [getD_app_len _ _ _ _ (by omega)]; rfl)
    refine ⟨ys, h1, h2, hy, fun F hF => ?_⟩
    obtain ⟨F, rfl⟩ : ∃ q, F = q + 1 := ⟨F - 1, by omega⟩
    rw [law16_line.l0, hcnt, hg, ep, if_pos (by simp; omega), if_pos ⟨by omega, by omega⟩, if_pos ⟨by omega, by omega⟩, if_pos (by omega), wr (x := (t : Int) + 1) (by omega) (by omega), show ((t : Int) + 1) = ((t + 1 : Nat) : Int) by omega]
    exact h3 F (by omega)
theorem best_loop (xs : List Node) (hx : xs.length ≤ 4096) : ∀ (m t b : Nat), t + m = xs.length → b < xs.length → ∃ c : Nat, c < xs.length ∧ ∀ F, m + 1 ≤ F → law16_line.l1 xs F (b : Int) (t : Int) = some (c : Int)
  | 0, t, b, h, hb => by
    refine ⟨b, hb, fun F hF => ?_⟩
    obtain ⟨F, rfl⟩ : ∃ q, F = q + 1 := ⟨F - 1, by omega⟩
    rw [law16_line.l1, if_neg (by simp; omega)]
  | m + 1, t, b, h, hb => by
    by_cases hc : (decide (((xs.getD (t : Int).toNat Node.z).Height) > ((xs.getD (b : Int).toNat Node.z).Height))) = true
    · obtain ⟨c, h1, h2⟩ := best_loop xs hx m (t + 1) t (by omega) (by omega)
      refine ⟨c, h1, fun F hF => ?_⟩
      obtain ⟨F, rfl⟩ : ∃ q, F = q + 1 := ⟨F - 1, by omega⟩
      rw [law16_line.l1, if_pos (by simp; omega), if_pos ⟨by omega, by omega⟩, if_pos ⟨by omega, by omega⟩, if_pos hc, wr (x := (t : Int) + 1) (by omega) (by omega), show ((t : Int) + 1) = ((t + 1 : Nat) : Int) by omega, Option.bind_some]
      exact h2 F (by omega)
    · obtain ⟨c, h1, h2⟩ := best_loop xs hx m (t + 1) b (by omega) hb
      refine ⟨c, h1, fun F hF => ?_⟩
      obtain ⟨F, rfl⟩ : ∃ q, F = q + 1 := ⟨F - 1, by omega⟩
      rw [law16_line.l1, if_pos (by simp; omega), if_pos ⟨by omega, by omega⟩, if_pos ⟨by omega, by omega⟩, if_neg hc, wr (x := (t : Int) + 1) (by omega) (by omega), show ((t : Int) + 1) = ((t + 1 : Nat) : Int) by omega, Option.bind_some]
      exact h2 F (by omega)
def root16 : Node := { { Node.z with Hash := ((Vector.replicate 32 0 : Vector Int 32).setIfInBounds 0 255) } with Parent := (-1) }
theorem sn_root : SN [root16] := by
  refine ⟨by simp, by simp, rfl, rfl, ?_, ?_, ?_⟩ <;> (intro i hp hi; simp at hi; omega)
theorem line_ok2 (l : List Int) (wl : ∀ n ∈ l, (Lit.int .u8 n).wf = true) : ∃ t, SoundT t ∧ t.Nodes.length ≤ 61 ∧ (∀ i, i < t.Nodes.length → (t.Nodes.getD i Node.z).Hash = hv i) ∧ Ev fun k => law16_line.f k l = some t := by
  have hl : ∀ x ∈ l, 0 ≤ x ∧ x < 256 := fun x hx => by
    obtain ⟨y, rfl, hy⟩ := wf_nat rfl (wl x hx)
    have : y < 256 := hy
    omega
  obtain ⟨c, hc⟩ : ∃ c : Nat, (if 60 < ((l.length : Nat) : Int) then (60 : Int) else ((l.length : Nat) : Int)) = (c : Int) := ⟨(if 60 < l.length then 60 else l.length), by split <;> split <;> omega⟩
  have hc60 : c ≤ 60 ∧ c ≤ l.length := by split at hc <;> omega
  have hcl : (l.take c).length = c := by rw [List.length_take]; omega
  obtain ⟨ys, s, hys, hyh, h1⟩ := line_loop l (l.take c) (fun x hx => hl x (List.mem_of_mem_take hx)) (by rw [hc, hcl, Int.toNat_natCast]) (by omega) c 0 [root16] (by omega) rfl sn_root (fun i hi => by
    have : i = 0 := by simp at hi; omega
    subst this; rfl)
  obtain ⟨b, hb, h2⟩ := best_loop ys (by omega) ys.length 0 0 (by omega) (by omega)
  refine ⟨Tree.mk ys (b : Int), ⟨s, by show (0 : Int) ≤ (b : Int); omega, by show (b : Int) < (ys.length : Int); omega⟩, by show ys.length ≤ 61; omega, hyh, Ev.of (c + ys.length + 1) fun k => ?_⟩
  have h1' : law16_line.l0 l (k + (c + ys.length + 1)) [root16] (l.take c) 0 = _ := h1 _ (by omega)
  have h2' : law16_line.l1 ys (k + (c + ys.length + 1)) 0 0 = _ := h2 _ (by omega)
  unfold law16_line.f
  change (if _ then Option.bind (law16_line.l0 l (k + (c + ys.length + 1)) [root16] _ 0) _ else none) = _
  rw [hc, Int.toNat_natCast, if_pos ⟨by omega, by omega⟩, h1', Option.bind_some, h2', Option.bind_some]
theorem line_ok (l : List Int) (wl : ∀ n ∈ l, (Lit.int .u8 n).wf = true) : ∃ t, SoundT t ∧ t.Nodes.length ≤ 61 ∧ Ev fun k => law16_line.f k l = some t := by
  obtain ⟨t, a, b, _, c⟩ := line_ok2 l wl
  exact ⟨t, a, b, c⟩

set_option maxRecDepth 100000 in
theorem sane16 (k : Nat) : law16_sane.f (k + 200) = some true := by rfl

theorem tmod_range (o n : Int) (wo : (Lit.int .u8 o).wf = true) (hn : 0 < n) : 0 ≤ (IntKind.i64.wrap o).tmod n ∧ (IntKind.i64.wrap o).tmod n < n := by
  obtain ⟨y, rfl, hy⟩ := wf_nat rfl wo
  have hy' : y < 256 := hy
  rw [wr (by omega) (by omega), Int.tmod_eq_emod_of_nonneg (by omega)]
  exact ⟨Int.emod_nonneg _ (by omega), Int.emod_lt_of_pos _ hn⟩
def locP : Nat → Nat → Nat → Int → Int → List Nat × Int
  | 0, _, _, _, last => ([], last)
  | F + 1, cnt, step, h, last => if 0 ≤ h then (h.toNat :: (locP F (cnt + 1) (if 10 ≤ cnt + 1 then step * 2 else step) (h - ((if 10 ≤ cnt + 1 then step * 2 else step : Nat) : Int)) h).1, (locP F (cnt + 1) (if 10 ≤ cnt + 1 then step * 2 else step) (h - ((if 10 ≤ cnt + 1 then step * 2 else step : Nat) : Int)) h).2) else ([], last)
def locHt (h : Nat) : List Nat := if (locP (h + 1) 0 1 (h : Int) ((h : Int) + 1)).2 > 0 then (locP (h + 1) 0 1 (h : Int) ((h : Int) + 1)).1 ++ [0] else (locP (h + 1) 0 1 (h : Int) ((h : Int) + 1)).1
def hashAt (t : Tree) (A : List Int) (g : Nat) : Vector Int 32 := (t.Nodes.getD (A.getD g 0).toNat Node.z).Hash
theorem loc_loop (t : Tree) (A : List Int) (hA : ∀ j, j < A.length → ∃ q : Nat, A.getD j 0 = (q : Int) ∧ q < t.Nodes.length) (hl : A.length ≤ 4097) :
    ∀ (F cnt step : Nat) (h last : Int) (xs : List (Vector Int 32)) (k : Nat), xs.length = cnt → cnt + F ≤ 100000 → h < F → h < A.length → 1 ≤ step → (h < 0 ∨ step ≤ 5000) →
      branch_Locator.l0 t A (k + F + 1) xs last h (step : Int) = some (xs ++ (locP F cnt step h last).1.map (hashAt t A), (locP F cnt step h last).2)
  | 0, cnt, step, h, last, xs, k, hx, hc, hF, hh, h1, h2 => by
    rw [branch_Locator.l0, if_neg (by simp; omega)]
    simp [locP]
  | F + 1, cnt, step, h, last, xs, k, hx, hc, hF, hh, h1, h2 => by
    by_cases h0 : 0 ≤ h
    · obtain ⟨q, eq, hq⟩ := hA h.toNat (by omega)
      have eh : (t.Nodes.getD q Node.z).Hash = hashAt t A h.toNat := by unfold hashAt; rw [eq, Int.toNat_natCast]
      have hsn : (xs ++ [hashAt t A h.toNat]).length = cnt + 1 := by simp [hx]
      rw [branch_Locator.l0, if_pos (by simpa using h0), if_pos ⟨h0, hh⟩, eq, if_pos ⟨by omega, by omega⟩, if_pos (by omega), Option.bind_some, Int.toNat_natCast, eh, hsn, locP, if_pos h0]
      by_cases h10 : 10 ≤ cnt + 1
      · have ih := loc_loop t A hA hl F (cnt + 1) (step * 2) (h - ((step * 2 : Nat) : Int)) h (xs ++ [hashAt t A h.toNat]) k hsn (by omega) (by omega) (by omega) (by omega) (by omega)
        rw [if_pos (by simp; omega), Option.bind_some, wr (x := (step : Int) * 2) (by omega) (by omega), show ((step : Int) * 2) = ((step * 2 : Nat) : Int) by omega, wr (by omega) (by omega), ← Nat.add_assoc, ih]
        simp only [if_pos h10]
        simp
      · have ih := loc_loop t A hA hl F (cnt + 1) step (h - ((step : Nat) : Int)) h (xs ++ [hashAt t A h.toNat]) k hsn (by omega) (by omega) (by omega) (by omega) (by omega)
        rw [if_neg (by simp; omega), Option.bind_some, wr (by omega) (by omega), ← Nat.add_assoc, ih]
        simp only [if_neg h10]
        simp
    · rw [branch_Locator.l0, if_neg (by simp; omega), locP, if_neg h0]
      simp
theorem locP_len : ∀ (F cnt step : Nat) (h last : Int), (locP F cnt step h last).1.length ≤ F
  | 0, _, _, _, _ => Nat.le_refl _
  | F + 1, cnt, step, h, last => by
    rw [locP]
    split
    · have := locP_len F (cnt + 1) (if 10 ≤ cnt + 1 then step * 2 else step) (h - ((if 10 ≤ cnt + 1 then step * 2 else step : Nat) : Int)) h
      simp only [List.length_cons]
      omega
    · simp
theorem locator_ok {t : Tree} (st : SoundT t) (i : Nat) (hi : i < t.Nodes.length) (h : Nat) (hh : HE t.Nodes i = (h : Int)) : Ev fun k => branch_Locator.f k t (i : Int) = some ((locHt h).map (hashAt t (lineOf t.Nodes (i : Int)))) := by
  have s := st.sn
  have hone := s.one
  have hH := has_ok t [(i : Int)] (by simp)
  have eh : ([(i : Int)].all (fun x => decide (0 ≤ x) && decide (x < (t.Nodes.length : Int))) && soundB t) = true := by simp [soundB_of st]; omega
  rw [eh] at hH
  have hl := line_len s i hi
  have hL := isLineOf s i hi
  have hz := hL.zero s hl.2.2
  have hlen : (lineOf t.Nodes (i : Int)).length = h + 1 := by omega
  have hpl := locP_len (h + 1) 0 1 (h : Int) ((h : Int) + 1)
  refine (hH.and ((chain_ok t s i hi).and (Ev.of (p := fun k => branch_Locator.l0 t (lineOf t.Nodes (i : Int)) k [] ((h : Int) + 1) (h : Int) ((1 : Nat) : Int) = some ([] ++ (locP (h + 1) 0 1 (h : Int) ((h : Int) + 1)).1.map (hashAt t (lineOf t.Nodes (i : Int))), (locP (h + 1) 0 1 (h : Int) ((h : Int) + 1)).2)) (h + 1 + 1) fun k => loc_loop t _ (fun j hj => let ⟨q, a, b, _⟩ := hL.rng j hj; ⟨q, a, b⟩) hl.2.1 (h + 1) 0 1 (h : Int) ((h : Int) + 1) [] k rfl (by omega) (by omega) (by omega) (by omega) (by omega)))).mono fun k ⟨h1, h2, h3⟩ => ?_
  have h1' : branch_has.f k (Tree.mk t.Nodes t.Best) [(i : Int)] = _ := h1
  have h2' : branch_chain.f k (Tree.mk t.Nodes t.Best) (i : Int) = _ := h2
  have h3' : branch_Locator.l0 t (lineOf t.Nodes (i : Int)) k [] ((h : Int) + 1) (h : Int) 1 = _ := h3
  unfold branch_Locator.f
  rw [h1', Option.bind_some, if_neg (by decide), h2', Option.bind_some, hlen, wr (by omega) (by omega), show (((h + 1 : Nat) : Int) - 1) = (h : Int) by omega, show ((h + 1 : Nat) : Int) = (h : Int) + 1 by omega, h3', Option.bind_some]
  dsimp only
  rw [List.nil_append]
  unfold locHt
  have e0 : (t.Nodes.getD (0 : Int).toNat Node.z).Hash = hashAt t (lineOf t.Nodes (i : Int)) 0 := by unfold hashAt; rw [hz]
  by_cases hp : (locP (h + 1) 0 1 (h : Int) ((h : Int) + 1)).2 > 0
  · rw [if_pos (by simpa using hp), if_pos ⟨by omega, by omega⟩, if_pos (by rw [List.length_map]; omega), Option.bind_some, if_pos hp, e0]
    simp
  · rw [if_neg (by simpa using hp), Option.bind_some, if_neg hp]
def locChk (h : Nat) : Bool := decide (0 < (locHt h).length) && decide ((locHt h).length ≤ 18) && ((locHt h).getD 0 0 == h) && ((locHt h).getD ((locHt h).length - 1) 0 == 0) && (List.range ((locHt h).length - 1)).all (fun j => decide ((locHt h).getD (j + 1) 0 < (locHt h).getD j 0))
theorem locChk_all : (List.range 61).all locChk = true := by decide +kernel
structure LocG (h : Nat) (hs : List Nat) : Prop where
  pos : 0 < hs.length
  le : hs.length ≤ 18
  head : hs.getD 0 0 = h
  last : hs.getD (hs.length - 1) 0 = 0
  dec : ∀ j, j + 1 < hs.length → hs.getD (j + 1) 0 < hs.getD j 0
theorem locG (h : Nat) (hh : h ≤ 60) : LocG h (locHt h) := by
  have := (List.all_eq_true.1 locChk_all) h (List.mem_range.2 (by omega))
  simp only [locChk, Bool.and_eq_true, decide_eq_true_eq, beq_iff_eq, List.all_eq_true, List.mem_range] at this
  exact ⟨this.1.1.1.1, this.1.1.1.2, this.1.1.2, this.1.2, fun j hj => this.2 j (by omega)⟩
theorem LocG.le_head {h : Nat} {hs : List Nat} (g : LocG h hs) : ∀ j, j < hs.length → hs.getD j 0 ≤ h
  | 0, _ => by rw [g.head]; omega
  | j + 1, hj => by
    have := g.le_head j (by omega)
    have := g.dec j hj
    omega
theorem Ev.upto {p : Nat → Nat → Prop} : ∀ (n : Nat), (∀ i, i < n → Ev (p i)) → Ev fun k => ∀ i, i < n → p i k
  | 0, _ => Ev.all fun k i hi => by omega
  | n + 1, h => by
    refine ((Ev.upto n fun i hi => h i (by omega)).and (h n (by omega))).mono fun k ⟨h1, h2⟩ i hi => ?_
    by_cases e : i = n
    · subst e; exact h2
    · exact h1 i (by omega)
theorem hash_getD (t : Tree) (A : List Int) (hs : List Nat) (j : Nat) (hj : j < hs.length) (d : Vector Int 32) : (hs.map (hashAt t A)).getD j d = hashAt t A (hs.getD j 0) := by
  rw [List.getD_eq_getElem?_getD, List.getElem?_map, List.getD_eq_getElem?_getD, List.getElem?_eq_getElem hj]
  rfl

theorem hv_inj (i j : Nat) (hi : i ≤ 60) (hj : j ≤ 60) (h : hv i = hv j) : i = j := by
  have h0 := congrArg (fun v : Vector Int 32 => v[0]) h
  have h1 := congrArg (fun v : Vector Int 32 => v[1]) h
  cases i with
  | zero =>
    cases j with
    | zero => rfl
    | succ j => simp [hv, Vector.getElem_setIfInBounds] at h1
  | succ i =>
    cases j with
    | zero => simp [hv, Vector.getElem_setIfInBounds] at h1
    | succ j =>
      have h2 : IntKind.u8.wrap (i : Int) = IntKind.u8.wrap (j : Int) := by simpa [hv, Vector.getElem_setIfInBounds] using h0
      rw [wr8 (by omega) (by omega), wr8 (by omega) (by omega)] at h2
      omega
section
variable {κ α : Type} [BEq κ] [LawfulBEq κ]
theorem mget_mput (m : List (κ × α)) (k : κ) (v : α) (q : κ) : mget (mput m k v) q = if q == k then some v else mget m q := by
  induction m with
  | nil => rfl
  | cons x xs ih =>
    rw [mput]
    by_cases h : (k == x.1) = true
    · rw [if_pos h, mget, mget]
      have e : k = x.1 := by simpa using h
      rw [← e]
      by_cases hq : (q == k) = true
      · rw [if_pos hq, if_pos hq]
      · rw [if_neg hq, if_neg hq, if_neg hq]
    · rw [if_neg h, mget, mget, ih]
      by_cases hq : (q == x.1) = true
      · have e : q = x.1 := by simpa using hq
        rw [if_pos hq, if_pos hq, if_neg]
        intro h2
        have e2 : q = k := by simpa using h2
        exact h (by rw [← e2]; exact hq)
      · rw [if_neg hq, if_neg hq]
end
theorem meet_fill (t : Tree) (r R : List Int) (hlen : r.length = R.length) (hR : ∀ j, j < R.length → ∃ q : Nat, R.getD j 0 = (q : Int) ∧ q < t.Nodes.length) (hl : R.length ≤ 5000)
    (hd : ∀ i j, i < t.Nodes.length → j < t.Nodes.length → (t.Nodes.getD i Node.z).Hash = (t.Nodes.getD j Node.z).Hash → i = j) :
    ∀ (m s : Nat) (mp : List ((Vector Int 32) × Int)), s + m = R.length → ∃ mp', (∀ F, m + 1 ≤ F → branch_Meet.l0 t r R F mp (s : Int) = some mp') ∧
      ∀ q, q < t.Nodes.length → mget mp' ((t.Nodes.getD q Node.z).Hash) = if (q : Int) ∈ R.drop s then some (q : Int) else mget mp ((t.Nodes.getD q Node.z).Hash)
  | 0, s, mp, h => by
    refine ⟨mp, fun F hF => ?_, fun q hq => ?_⟩
    · obtain ⟨F, rfl⟩ : ∃ q, F = q + 1 := ⟨F - 1, by omega⟩
      rw [branch_Meet.l0, hlen, if_neg (by simp; omega)]
    · rw [List.drop_of_length_le (by omega), if_neg (by simp)]
  | m + 1, s, mp, h => by
    obtain ⟨u, eu, hu⟩ := hR s (by omega)
    obtain ⟨mp', h1, h2⟩ := meet_fill t r R hlen hR hl hd m (s + 1) (mput mp ((t.Nodes.getD u Node.z).Hash) (u : Int)) (by omega)
    refine ⟨mp', fun F hF => ?_, fun q hq => ?_⟩
    · obtain ⟨F, rfl⟩ : ∃ q, F = q + 1 := ⟨F - 1, by omega⟩
      rw [branch_Meet.l0, hlen, if_pos (by simp; omega), if_pos ⟨by omega, by omega⟩, Int.toNat_natCast, eu, if_pos ⟨by omega, by omega⟩, Int.toNat_natCast, wr (by omega) (by omega), show ((s : Int) + 1) = ((s + 1 : Nat) : Int) by omega]
      exact h1 F (by omega)
    · have hs : s < R.length := by omega
      have hg : R[s] = (u : Int) := by
        rw [List.getD_eq_getElem?_getD, List.getElem?_eq_getElem hs] at eu; exact eu
      rw [h2 q hq, mget_mput, List.drop_eq_getElem_cons hs, hg]
      by_cases hm : (q : Int) ∈ R.drop (s + 1)
      · rw [if_pos hm, if_pos (by simp [hm])]
      · rw [if_neg hm]
        by_cases hqu : q = u
        · subst hqu
          rw [if_pos (by simp), if_pos (by simp)]
        · rw [if_neg, if_neg]
          · simp only [List.mem_cons, not_or]
            exact ⟨by omega, hm⟩
          · intro he
            exact hqu (hd q u hq hu (by simpa using he))
theorem meet_find (l : List (Vector Int 32)) (mp : List ((Vector Int 32) × Int)) (hl : l.length ≤ 5000) : ∀ (m F s : Nat), s + m = l.length → m + 1 ≤ F →
    branch_Meet.l1 l mp F (s : Int) = some (match (l.drop s).findSome? (fun h => mget mp h) with | some n => .ret n | none => .go ())
  | 0, F, s, h, hF => by
    obtain ⟨F, rfl⟩ : ∃ q, F = q + 1 := ⟨F - 1, by omega⟩
    rw [branch_Meet.l1, if_neg (by simp; omega), List.drop_of_length_le (by omega)]
    rfl
  | m + 1, F, s, h, hF => by
    obtain ⟨F, rfl⟩ : ∃ q, F = q + 1 := ⟨F - 1, by omega⟩
    have hs : s < l.length := by omega
    have hg : l.getD (s : Int).toNat (Vector.replicate 32 0) = l[s] := by rw [Int.toNat_natCast, List.getD_eq_getElem?_getD, List.getElem?_eq_getElem hs]; rfl
    have ih := meet_find l mp hl m F (s + 1) (by omega) (by omega)
    rw [branch_Meet.l1, if_pos (by simp; omega), if_pos ⟨by omega, by omega⟩, hg, wr (by omega) (by omega), show ((s : Int) + 1) = ((s + 1 : Nat) : Int) by omega, ih, List.drop_eq_getElem_cons hs, List.findSome?_cons]
    cases mget mp l[s] with
    | none => rfl
    | some n => rfl
theorem lines_meet {t : Tree} (s : SN t.Nodes) {A B : List Int} {i j : Nat} (hA : IsLine t.Nodes A i) (hB : IsLine t.Nodes B j) (g : Nat) (hg : g < A.length) (hcA : 0 < A.length) (hcB : 0 < B.length) : A.getD g 0 ∈ B ↔ g < cp A B := by
  constructor
  · intro h
    obtain ⟨q, eq, hq, hh⟩ := hA.rng g hg
    obtain ⟨b, hb, eb⟩ := List.mem_iff_getElem.1 h
    have eb' : B.getD b 0 = A.getD g 0 := by rw [List.getD_eq_getElem?_getD, List.getElem?_eq_getElem hb]; exact eb
    obtain ⟨q2, eq2, hq2, hh2⟩ := hB.rng b hb
    have e3 : q2 = q := by rw [eq2, eq] at eb'; omega
    subst e3
    have hbg : b = g := by omega
    subst hbg
    have down : ∀ m, m ≤ b → A.getD (b - m) 0 = B.getD (b - m) 0 := by
      intro m
      induction m with
      | zero => intro _; exact eb'.symm
      | succ m ih =>
        intro hm
        have e := ih (by omega)
        have pa := hA.par (b - (m + 1)) (by omega)
        have pb := hB.par (b - (m + 1)) (by omega)
        rw [show b - (m + 1) + 1 = b - m by omega] at pa pb
        rw [← pa, ← pb, e]
    rcases Nat.lt_or_ge b (cp A B) with hlt | hge
    · exact hlt
    · have hn := cp_ne A B (by omega) (by omega)
      have := down (b - cp A B) (by omega)
      rw [show b - (b - cp A B) = cp A B by omega] at this
      exact absurd this hn
  · intro h
    have hle := cp_le A B
    rw [cp_eq A B g h, List.getD_eq_getElem?_getD, List.getElem?_eq_getElem (by omega)]
    exact List.getElem_mem _
def nearChk (h : Nat) (hs : List Nat) : Bool := (List.range (h + 1)).all fun f => match hs.find? (fun g => decide (g ≤ f)) with | some g => g == 0 || decide (2 * f ≤ g + h) | none => false
theorem nearChk_all : (List.range 61).all (fun h => nearChk h (locHt h)) = true := by decide +kernel
theorem near_of (h f : Nat) (hh : h ≤ 60) (hf : f ≤ h) : ∃ g, (locHt h).find? (fun g => decide (g ≤ f)) = some g ∧ (g = 0 ∨ 2 * f ≤ g + h) := by
  have h1 := (List.all_eq_true.1 nearChk_all) h (List.mem_range.2 (by omega))
  have h2 := (List.all_eq_true.1 h1) f (List.mem_range.2 (by omega))
  split at h2
  · next g hg =>
    refine ⟨g, hg, ?_⟩
    simpa using h2
  · cases h2
theorem findSome_map {t : Tree} {A B : List Int} {mp : List ((Vector Int 32) × Int)} {c : Nat} (hA : ∀ g, g < A.length → mget mp (hashAt t A g) = if g < c then some (A.getD g 0) else none) : ∀ (hs : List Nat), (∀ g ∈ hs, g < A.length) → (hs.map (hashAt t A)).findSome? (fun h => mget mp h) = (hs.find? (fun g => decide (g < c))).map (fun g => A.getD g 0)
  | [], _ => rfl
  | g :: hs, h => by
    rw [List.map_cons, List.findSome?_cons, hA g (h g (by simp)), List.find?_cons]
    by_cases hg : g < c
    · rw [if_pos hg, decide_eq_true hg]; rfl
    · rw [if_neg hg, decide_eq_false hg]
      exact findSome_map (B := B) hA hs fun x hx => h x (by simp [hx])

theorem near_true (l : List Int) (n : Int) (wl : ∀ n ∈ l, (Lit.int .u8 n).wf = true) (wn : (Lit.int .u8 n).wf = true) : ∃ k, law16_BranchMeetsNear.f k l n = some true := by
  have hsane : Ev fun k => law16_sane.f k = some true := Ev.of 200 sane16
  obtain ⟨t, st, h61, hhash, hline⟩ := line_ok2 l wl
  have s := st.sn
  have hone := s.one
  have hn := tmod_range n (t.Nodes.length : Int) wn (by omega)
  obtain ⟨i, ei⟩ : ∃ i : Nat, (IntKind.i64.wrap n).tmod ((t.Nodes.length : Nat) : Int) = (i : Int) := ⟨((IntKind.i64.wrap n).tmod ((t.Nodes.length : Nat) : Int)).toNat, by omega⟩
  have hi : i < t.Nodes.length := by omega
  obtain ⟨j, ej⟩ : ∃ j : Nat, t.Best = (j : Int) := ⟨t.Best.toNat, by have := st.b0; omega⟩
  have hj : j < t.Nodes.length := by have := st.b1; omega
  have hH := s.heR i hi
  obtain ⟨h, hh⟩ : ∃ h : Nat, HE t.Nodes i = (h : Int) := ⟨(HE t.Nodes i).toNat, by omega⟩
  have hA := isLineOf s i hi
  have hB := isLineOf s j hj
  have lA := line_len s i hi
  have lB := line_len s j hj
  have hcp := lines_cp s i j hi hj
  have hle := cp_le (lineOf t.Nodes (i : Int)) (lineOf t.Nodes (j : Int))
  have hlenA : (lineOf t.Nodes (i : Int)).length = h + 1 := by omega
  have G := locG h (by omega)
  have hin : inT t (i : Int) = true := by simp [inT]; omega
  have hjn : inT t (j : Int) = true := by simp [inT]; omega
  have hsb := soundB_of st
  obtain ⟨f, hf⟩ : ∃ f : Nat, cp (lineOf t.Nodes (i : Int)) (lineOf t.Nodes (j : Int)) = f + 1 := ⟨cp (lineOf t.Nodes (i : Int)) (lineOf t.Nodes (j : Int)) - 1, by omega⟩
  have f1 : forkV t (i : Int) (j : Int) = (lineOf t.Nodes (i : Int)).getD f 0 := by unfold forkV; rw [hin, hjn, hsb, hf, Nat.add_sub_cancel]; rfl
  obtain ⟨qf, eqf, hqf, hhf⟩ := hA.rng f (by omega)
  obtain ⟨g, eg, hg⟩ := near_of h f (by omega) (by omega)
  have hgf : g ≤ f := by have := List.find?_some eg; simpa using this
  obtain ⟨qm, eqm, hqm, hhm⟩ := hA.rng g (by omega)
  -- the map, the meeting place
  obtain ⟨mp, hfill, hmp⟩ := meet_fill t (lineOf t.Nodes (j : Int)) (lineOf t.Nodes (j : Int)).reverse (by simp) (fun b hb => by
    rw [List.length_reverse] at hb
    rw [rev_getD _ _ hb]
    obtain ⟨q, a, c, _⟩ := hB.rng ((lineOf t.Nodes (j : Int)).length - 1 - b) (by omega)
    exact ⟨q, a, c⟩) (by rw [List.length_reverse]; omega) (fun a b ha hb e => hv_inj a b (by omega) (by omega) (by rw [← hhash a ha, ← hhash b hb, e])) (lineOf t.Nodes (j : Int)).reverse.length 0 [] (Nat.zero_add _)
  have hmpA : ∀ g, g < (lineOf t.Nodes (i : Int)).length → mget mp (hashAt t (lineOf t.Nodes (i : Int)) g) = if g < f + 1 then some ((lineOf t.Nodes (i : Int)).getD g 0) else none := by
    intro g hg
    obtain ⟨q, eq, hq, _⟩ := hA.rng g hg
    have e1 := hmp q hq
    have e2 := lines_meet s hA hB g hg lA.2.2 lB.2.2
    unfold hashAt
    rw [eq, Int.toNat_natCast, e1, List.drop_zero]
    rw [eq, hf] at e2
    by_cases hc : g < f + 1
    · rw [if_pos (List.mem_reverse.2 (e2.2 hc)), if_pos hc]
    · rw [if_neg (fun h => hc (e2.1 (List.mem_reverse.1 h))), if_neg hc]
      rfl
  have hmem : ∀ x ∈ locHt h, x < (lineOf t.Nodes (i : Int)).length := by
    intro x hx
    obtain ⟨b, hb, rfl⟩ := List.mem_iff_getElem.1 hx
    have := G.le_head b hb
    rw [List.getD_eq_getElem?_getD, List.getElem?_eq_getElem hb] at this
    simp only [Option.getD_some] at this
    omega
  have hfs := findSome_map (B := lineOf t.Nodes (j : Int)) hmpA (locHt h) hmem
  have hfe : (locHt h).find? (fun g => decide (g < f + 1)) = some g := by
    rw [← eg]
    congr 1
    funext x
    simp [Nat.lt_succ_iff]
  rw [hfe, Option.map_some, eqm] at hfs
  have hmeet : Ev fun k => branch_Meet.f k t ((locHt h).map (hashAt t (lineOf t.Nodes (i : Int)))) = some (qm : Int) := by
    refine ((sound_ok t).and ((chain_ok t s j hj).and ((rev_ok (lineOf t.Nodes (j : Int)) (by omega)).and (Ev.of (p := fun k => branch_Meet.l0 t (lineOf t.Nodes (j : Int)) (lineOf t.Nodes (j : Int)).reverse k [] ((0 : Nat) : Int) = some mp ∧ branch_Meet.l1 ((locHt h).map (hashAt t (lineOf t.Nodes (i : Int)))) mp k ((0 : Nat) : Int) = _) 6000 fun k => ⟨hfill _ (by rw [List.length_reverse]; omega), meet_find _ mp (by have := G.le; rw [List.length_map]; omega) _ (k + 6000) 0 (Nat.zero_add _) (by have := G.le; rw [List.length_map]; omega)⟩)))).mono fun k ⟨h1, h2, h3, h4, h5⟩ => ?_
    have h1' : branch_sound.f k (Tree.mk t.Nodes t.Best) = _ := h1
    have h2' : branch_chain.f k (Tree.mk t.Nodes t.Best) (j : Int) = _ := h2
    have h4' : branch_Meet.l0 t (lineOf t.Nodes (j : Int)) (lineOf t.Nodes (j : Int)).reverse k [] 0 = _ := h4
    have h5' : branch_Meet.l1 ((locHt h).map (hashAt t (lineOf t.Nodes (i : Int)))) mp k 0 = _ := h5
    rw [List.drop_zero, hfs] at h5'
    unfold branch_Meet.f
    rw [h1', hsb, Option.bind_some, if_neg (by decide)]
    rw [ej] at h2' ⊢
    rw [h2', Option.bind_some, h3, Option.bind_some, h4', Option.bind_some, h5', Option.bind_some]
  have hanc : Ev fun k => branch_Ancestor.f k t (i : Int) (g : Int) = some (qm : Int) := (anc_ok t (i : Int) (g : Int)).mono fun k hk => by
    rw [hk]
    unfold ancV
    rw [hin, hsb, Int.toNat_natCast, hh, decide_eq_true (by omega), decide_eq_true (by omega), Int.toNat_natCast, eqm]
    rfl
  obtain ⟨k, h1, h2, h3, h4, h5, h6⟩ := (hsane.and (hline.and ((fork_ok t (i : Int) (j : Int)).and ((locator_ok st i hi h hh).and (hmeet.and hanc))))).get
  refine ⟨k, ?_⟩
  have h3' : branch_Fork.f k (Tree.mk t.Nodes t.Best) (i : Int) (j : Int) = _ := h3
  have h4' : branch_Locator.f k (Tree.mk t.Nodes t.Best) (i : Int) = _ := h4
  have h5' : branch_Meet.f k (Tree.mk t.Nodes t.Best) ((locHt h).map (hashAt t (lineOf t.Nodes (i : Int)))) = _ := h5
  have h6' : branch_Ancestor.f k (Tree.mk t.Nodes t.Best) (i : Int) (g : Int) = _ := h6
  have eHm : (t.Nodes.getD (qm : Int).toNat Node.z).Height = (g : Int) := hhm
  have eHf : (t.Nodes.getD (qf : Int).toNat Node.z).Height = (f : Int) := hhf
  have eHi : (t.Nodes.getD (i : Int).toNat Node.z).Height = (h : Int) := hh
  rw [f1, eqf] at h3'
  unfold law16_BranchMeetsNear.f
  rw [h1, Option.bind_some, if_neg (by decide), h2, Option.bind_some, if_pos (by omega), ei]
  rw [ej] at h3' h4' h5' h6' ⊢
  rw [h3', Option.bind_some, if_pos ⟨by omega, by omega⟩, h4', Option.bind_some, h5', Option.bind_some, if_neg (by simp), Option.bind_some, if_neg (by simp; omega), if_pos ⟨by omega, by omega⟩, eHm, eHf, eHi, h6', Option.bind_some, if_pos (by simp), if_pos (by simp; omega)]
  rcases hg with rfl | hg
  · rw [if_pos (by simp), Option.bind_some]
  · by_cases hz : g = 0
    · subst hz
      rw [if_pos (by simp), Option.bind_some]
    · rw [if_neg (by simp; omega), if_pos ⟨by omega, by omega⟩, Option.bind_some, wr (x := (h : Int) - (f : Int)) (by omega) (by omega), wr (by omega) (by omega)]
      congr 1
      simp
      omega

end Go.Proofs.Ytjjahfpamjmacaa.G
namespace Go.Proofs.Ytjjahfpamjmacaa.branchMeetsNear
open Go Go.ChangeShapes Go.WideShapes Go.ChangeAt Go.RowKit
open Go.ChangeMaps (open_string shut_string)
theorem own : ownKnob Try.prog.godebug = none := by kernel_rfl
theorem laidOut : laidOutB Try.prog = true := by kernel_rfl
set_option maxRecDepth 100000 in
theorem lifted (os : Os) (started : os.Started) (H : Type) (enc : TypeId × Value → H) :
    ReturnsInHanded {} Try.checked os 7 .any (Rows.branchMeetsNearSpec.pre6 enc Try.prog Try.f7 Rows.branchMeetsNearRow.domain false) (Rows.branchMeetsNearSpec.post enc Try.prog Try.f7 false true false false) := by
  refine returnsInHanded_of_change_sized (C := Try.checked) own started (by kernel_rfl) Try.func7
    (ChangeSpec.witness6 (enc := enc) (C := Try.checked) false ⟨#[], #[.slice none 0 0, .int .u8 0], []⟩ 8 (by kernel_rfl) (by kernel_rfl) (by kernel_rfl) (by kernel_rfl)) ?_
  intro W base args ds gs before hval0 hW hcnd hsz0 _
  have hsz : (DataW.weightsEach Try.prog (Try.f7.params.toList ++ Rows.branchMeetsNearSpec.plain.varTypes Try.prog) (ds ++ gs)).all (· ≤ reachBytes) = true := hsz0
  have hval : ∀ (j : Nat) t v, Try.f7.params[j]? = some t → args[j]? = some v → Value.okWide Try.prog W .any base t v := hval0
  have hW' := hW
  obtain ⟨p, q, hA0, hV, rfl, hfz, hnd⟩ := hW
  have hA : DataW.TrodAll enc Try.prog W 0 (fun _ => true) true Try.f7.params.toList args.toList ds p := hA0
  rw [Try.params7] at hA hval hsz
  obtain ⟨v0, vs0, d0, ds0, p0, q0, hargs, rfl, rfl, h0, r0⟩ := trodAll_cons hA
  obtain ⟨v1, vs1, d1, ds1, p1, q1, rfl, rfl, rfl, h1, r1⟩ := trodAll_cons r0
  obtain ⟨rfl, rfl, rfl⟩ := trodAll_nil r1
  obtain rfl : args = #[v0, v1] := by cases args; simp_all
  obtain ⟨rfl, rfl⟩ := trodVars_none hV
  obtain ⟨A0, len0, cap0, rfl⟩ := okWide_slice Try.underlying25 (hval 0 25 v0 rfl rfl)
  have k0 := h0
  have lt0 : ∀ x ∈ p0, x.block < W.heap.size := by obtain ⟨m, hm⟩ := k0; exact DataW.trod_lt m _ _ _ hm
  have y0 : len0 * 1 ≤ 140737488351232 := PrintWords.sized_ints hsz (j := 0) (t := 25) rfl rfl Try.underlying25 Try.underlying5 (by kernel_rfl) (by kernel_rfl) h0
  obtain ⟨a0, hz0, rw0, cf0, wf0⟩ : ∃ zs : List Int, zs.length = len0 ∧ G.Row (G.Pl.int .u8) W A0 zs ∧ zs.length ≤ cap0 ∧ ∀ n ∈ zs, (Lit.int .u8 n).wf = true := by
    obtain ⟨fuel, hf⟩ := h0
    rcases open_ints Try.underlying25 Try.underlying5 (by kernel_rfl) hf with ⟨hcs, _⟩ | ⟨x, l, c, zs, hcs, _, hl, hm, hz, _, hcell, hwz⟩
    · simp [Value.cells] at hcs
      obtain ⟨rfl, rfl, rfl⟩ := hcs
      exact ⟨[], rfl, G.Row.nil _ _, Nat.zero_le _, fun _ h => by cases h⟩
    · simp [Value.cells] at hcs
      obtain ⟨rfl, rfl, rfl⟩ := hcs
      have hz' : zs.length = cap0 := by simpa using hz
      exact ⟨zs.take len0, by rw [List.length_take]; omega, G.row_take hcell (by omega), by rw [List.length_take]; omega, fun n hn => hwz n (List.mem_of_mem_take hn)⟩
  subst hz0
  obtain ⟨a1, rfl, rfl, rfl, w1⟩ := open_int Try.underlying5 (hval 1 5 v1 rfl rfl) h1
  clear hA0 hval0 hsz0 hsz
  obtain ⟨K, hK⟩ := G.near_true a0 a1 wf0 w1
  refine (G.law16_BranchMeetsNear.calls K a0 a1 [] _ true W ⟨A0, cap0, rfl, G.Ro.of rw0, cf0⟩ (G.Mem.nil W) hK).mono fun e W' he => ?_
  obtain ⟨v, rfl, rfl, hM⟩ := he
  have bel := hM.below
  exact ⟨_, rfl, _, _, _, [], _, [], hW', trodAll_mk1 (shut_bool Try.underlying4 _), (trodAll_cons_mk (Below.trod laidOut (by kernel_rfl) (of_decide_eq_true (by kernel_rfl)) k0 bel lt0) (trodAll_cons_mk (shut_int Try.underlying5 w1) trodAll_mk0)), rfl, bel.frame _, fun h => by cases h⟩
theorem over : Rows.branchMeetsNearRow.holds Try.pinned (OpenSpec.ofChange Rows.branchMeetsNearSpec) :=
  OpenClaim.holds_of_wide 7 Try.f7 rfl rfl rfl rfl rfl rfl rfl ⟨rfl, rfl, rfl, rfl, rfl⟩ rfl rfl rfl rfl rfl (by kernel_rfl) Try.func7 (by kernel_rfl)
    (of_decide_eq_true (by kernel_rfl)) (by unfold Func.isWrapper; first | (rw [if_pos (by decide +kernel)]; kernel_rfl) | (rw [if_neg (by decide +kernel)]; exact ⟨rfl, rfl⟩))
    (fun os started H enc _ => lifted os started H enc)
theorem proved : Rows.BranchMeetsNearSaid := over
#print axioms proved
end Go.Proofs.Ytjjahfpamjmacaa.branchMeetsNear
namespace Go.Proofs.Ytjjahfpamjmacaa
/-- The row, under a short name, for the claim. -/
theorem branchMeetsNear_holds : Rows.BranchMeetsNearSaid := branchMeetsNear.proved
end Go.Proofs.Ytjjahfpamjmacaa
