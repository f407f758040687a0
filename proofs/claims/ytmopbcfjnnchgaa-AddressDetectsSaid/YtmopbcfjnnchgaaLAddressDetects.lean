/- For every number, list of bytes, place and character: an address with one character replaced, or with two different neighbours exchanged, is not accepted. Conditions: none beyond the statement's own. -/
import Derived.Test.YtmopbcfjnnchgaaRows
import Derived.Test.YtmopbcfjnnchgaaFAddressDetects
import Derived.WalkKit
import Derived.ProofKit
import Derived.OpenShut
import Derived.ShutString
import Derived.ChangeOld
import Derived.Below
import Derived.SizedLaws
import Derived.Test.YtmopbcfjnnchgaaWSized
set_option linter.unusedVariables false
set_option linter.unusedSimpArgs false
namespace Go.Proofs.Ytmopbcfjnnchgaa.PrintWords
/-- The name by which the row finds the word on a slice's weight. -/
theorem sized_ints {H : Type} {enc : TypeId × Value → H} {P : Program} {W : World} {base : Nat} {spare : Nat → Bool} {held : Bool} {t e : TypeId} {k : IntKind} {a : Option Addr} {len cap : Nat} {d : DataW H} {ps : List MemPlace} {ts : List TypeId} {ds : List (DataW H)} {j : Nat}
    (hsz : (DataW.weightsEach P ts ds).all (· ≤ reachBytes) = true) (ht : ts[j]? = some t) (hd : ds[j]? = some d) (hu : P.underlying t = some (.slice e)) (he : P.underlying e = some (.int k)) (hc : P.cellsOf e = 1) {B : Nat} (hB : P.bytesOf e = B)
    (h : DataW.Trod enc P W base spare held t (.slice a len cap) d ps) : len * B ≤ 140737488351232 :=
  Go.Proofs.YtmopbcfjnnchgaaW.PrintWords.sized_ints hsz ht hd hu he hc hB h
end Go.Proofs.Ytmopbcfjnnchgaa.PrintWords
namespace Go.Proofs.Ytmopbcfjnnchgaa.G
open Go Go.RowKit Go.Proofs
/-! ## of all laws: enough fuel -/
def Ev (p : Nat → Prop) : Prop := ∃ K, ∀ k, K ≤ k → p k
theorem Ev.mono {p q : Nat → Prop} (h : Ev p) (f : ∀ k, p k → q k) : Ev q := by
  obtain ⟨K, hK⟩ := h
  exact ⟨K, fun k hk => f k (hK k hk)⟩
theorem Ev.and {p q : Nat → Prop} (h : Ev p) (h2 : Ev q) : Ev fun k => p k ∧ q k := by
  obtain ⟨K, hK⟩ := h
  obtain ⟨L, hL⟩ := h2
  exact ⟨max K L, fun k hk => ⟨hK k (by omega), hL k (by omega)⟩⟩
theorem Ev.of {p : Nat → Prop} (K : Nat) (h : ∀ k, p (k + K)) : Ev p := ⟨K, fun k hk => by have := h (k - K); rwa [Nat.sub_add_cancel hk] at this⟩
theorem Ev.all {p : Nat → Prop} (h : ∀ k, p k) : Ev p := ⟨0, fun k _ => h k⟩
/-- behind one round -/
theorem Ev.succ {p : Nat → Prop} (h : Ev fun k => p (k + 1)) : Ev p := by
  obtain ⟨K, hK⟩ := h
  refine ⟨K + 1, fun k hk => ?_⟩
  have h1 := hK (k - 1) (by omega)
  have e : k - 1 + 1 = k := by omega
  rw [← e]
  exact h1
theorem Ev.get {p : Nat → Prop} (h : Ev p) : ∃ k, p k := by
  obtain ⟨K, hK⟩ := h
  exact ⟨K, hK K (Nat.le_refl _)⟩
theorem wr {x : Int} (h0 : -9223372036854775808 ≤ x) (h1 : x < 9223372036854775808) : IntKind.i64.wrap x = x := by
  simp only [IntKind.wrap, IntKind.bits, IntKind.signed]
  simp
  omega
theorem wr8 {x : Int} (h0 : 0 ≤ x) (h1 : x < 256) : IntKind.u8.wrap x = x := by
  simp only [IntKind.wrap, IntKind.bits, IntKind.signed]
  simp
  omega
theorem wr8_lt (x : Int) : 0 ≤ IntKind.u8.wrap x ∧ IntKind.u8.wrap x < 256 := by
  simp only [IntKind.wrap, IntKind.bits, IntKind.signed]
  simp
  omega
theorem wu64 {x : Int} (h0 : 0 ≤ x) (h1 : x < 18446744073709551616) : IntKind.u64.wrap x = x := by
  simp only [IntKind.wrap, IntKind.bits, IntKind.signed]
  simp
  omega

/-! ## words as numbers -/
theorem wrapu (k : IntKind) (hk : k.signed = false) (x : Nat) (h : x < 2 ^ k.bits) : k.wrap (x : Int) = x := by
  cases k <;> simp [IntKind.signed] at hk <;> simp [IntKind.wrap, IntKind.bits, IntKind.signed] at h ⊢ <;> omega
theorem wrapi (k : IntKind) (x : Nat) (h : x < 2 ^ (k.bits - 1)) : k.wrap (x : Int) = x := by
  cases k <;> simp [IntKind.wrap, IntKind.bits, IntKind.signed] at h ⊢ <;> omega
theorem ofInt_nat (n : Nat) (x : Nat) : BitVec.ofInt n (x : Int) = BitVec.ofNat n x := by simp
theorem iand_i (k : IntKind) (x y : Nat) (hx : x < 2 ^ (k.bits - 1)) (hy : y < 2 ^ (k.bits - 1)) : iand k (x : Int) (y : Int) = ((x &&& y : Nat) : Int) := by
  have hle : 2 ^ (k.bits - 1) ≤ 2 ^ k.bits := Nat.pow_le_pow_right (by decide) (by omega)
  unfold iand
  rw [ofInt_nat, ofInt_nat, BitVec.toNat_and, BitVec.toNat_ofNat, BitVec.toNat_ofNat, Nat.mod_eq_of_lt (by omega), Nat.mod_eq_of_lt (by omega)]
  exact wrapi k _ (Nat.lt_of_le_of_lt Nat.and_le_left hx)
theorem iand_u (k : IntKind) (hk : k.signed = false) (x y : Nat) (hx : x < 2 ^ k.bits) (hy : y < 2 ^ k.bits) : iand k (x : Int) (y : Int) = ((x &&& y : Nat) : Int) := by
  unfold iand
  rw [ofInt_nat, ofInt_nat, BitVec.toNat_and, BitVec.toNat_ofNat, BitVec.toNat_ofNat, Nat.mod_eq_of_lt hx, Nat.mod_eq_of_lt hy]
  exact wrapu k hk _ (Nat.lt_of_le_of_lt Nat.and_le_left hx)
theorem ior_i (k : IntKind) (x y : Nat) (hx : x < 2 ^ (k.bits - 1)) (hy : y < 2 ^ (k.bits - 1)) : ior k (x : Int) (y : Int) = ((x ||| y : Nat) : Int) := by
  have hle : 2 ^ (k.bits - 1) ≤ 2 ^ k.bits := Nat.pow_le_pow_right (by decide) (by omega)
  unfold ior
  rw [ofInt_nat, ofInt_nat, BitVec.toNat_or, BitVec.toNat_ofNat, BitVec.toNat_ofNat, Nat.mod_eq_of_lt (by omega), Nat.mod_eq_of_lt (by omega)]
  exact wrapi k _ (Nat.or_lt_two_pow hx hy)
theorem ior_u (k : IntKind) (hk : k.signed = false) (x y : Nat) (hx : x < 2 ^ k.bits) (hy : y < 2 ^ k.bits) : ior k (x : Int) (y : Int) = ((x ||| y : Nat) : Int) := by
  unfold ior
  rw [ofInt_nat, ofInt_nat, BitVec.toNat_or, BitVec.toNat_ofNat, BitVec.toNat_ofNat, Nat.mod_eq_of_lt hx, Nat.mod_eq_of_lt hy]
  exact wrapu k hk _ (Nat.or_lt_two_pow hx hy)
theorem ixor_u (k : IntKind) (hk : k.signed = false) (x y : Nat) (hx : x < 2 ^ k.bits) (hy : y < 2 ^ k.bits) : ixor k (x : Int) (y : Int) = ((x ^^^ y : Nat) : Int) := by
  unfold ixor
  rw [ofInt_nat, ofInt_nat, BitVec.toNat_xor, BitVec.toNat_ofNat, BitVec.toNat_ofNat, Nat.mod_eq_of_lt hx, Nat.mod_eq_of_lt hy]
  exact wrapu k hk _ (Nat.xor_lt_two_pow hx hy)
theorem ishr_n (k : IntKind) (x s : Nat) (hs : s ≤ k.bits) : ishr k (x : Int) (s : Int) = ((x / 2 ^ s : Nat) : Int) := by
  unfold ishr
  rw [Int.toNat_natCast, Nat.min_eq_left hs, show (2 : Int) ^ s = ((2 ^ s : Nat) : Int) by simp, Int.fdiv_eq_ediv_of_nonneg _ (Int.natCast_nonneg _)]
  exact (Int.natCast_ediv _ _).symm
theorem ishl_i (k : IntKind) (x s : Nat) (hs : s ≤ k.bits) (h : x * 2 ^ s < 2 ^ (k.bits - 1)) : ishl k (x : Int) (s : Int) = ((x * 2 ^ s : Nat) : Int) := by
  unfold ishl
  rw [Int.toNat_natCast, Nat.min_eq_left hs, show (2 : Int) ^ s = ((2 ^ s : Nat) : Int) by simp, ← Int.natCast_mul]
  exact wrapi k _ h
theorem ishl_u (k : IntKind) (hk : k.signed = false) (x s : Nat) (hs : s ≤ k.bits) (h : x * 2 ^ s < 2 ^ k.bits) : ishl k (x : Int) (s : Int) = ((x * 2 ^ s : Nat) : Int) := by
  unfold ishl
  rw [Int.toNat_natCast, Nat.min_eq_left hs, show (2 : Int) ^ s = ((2 ^ s : Nat) : Int) by simp, ← Int.natCast_mul]
  exact wrapu k hk _ h
theorem wf_nat {k : IntKind} {x : Int} (hk : k.signed = false) (h : (Lit.int k x).wf = true) : ∃ n : Nat, x = n ∧ n < 2 ^ k.bits := by
  refine ⟨x.toNat, ?_⟩
  cases k <;> simp [IntKind.signed] at hk <;> simp [Lit.wf, IntKind.min, IntKind.max, IntKind.bits, IntKind.signed] at h ⊢ <;> omega

/-! ## loops that go over a range and append -/
theorem app_loop {L : Nat → List Int → Int → Option (List Int)} {n : Nat} {g : Int → Int} (hn : n ≤ 1099511627776)
    (hstep : ∀ k xs t, L (k + 1) xs t = if (decide (t < ((n : Nat) : Int))) = true then (if 0 ≤ t ∧ t < ((n : Nat) : Int) then (if (xs.length + 1) * 1 ≤ 140737488355328 then (L k (xs ++ [g t]) (IntKind.i64.wrap (t + 1))) else none) else none) else (some xs)) :
    ∀ (m k : Nat) (xs : List Int) (t : Nat), t + m = n → xs.length + m ≤ 70368744177664 → L (k + m + 1) xs (t : Int) = some (xs ++ (List.range' t m).map fun (i : Nat) => g (i : Int))
  | 0, k, xs, t, h1, h2 => by rw [hstep, if_neg (by simp; omega)]; simp
  | m + 1, k, xs, t, h1, h2 => by
    rw [hstep, if_pos (by simp; omega), if_pos ⟨by omega, by omega⟩, if_pos (by omega), wr (by omega) (by omega)]
    have := app_loop hn hstep m k (xs ++ [g t]) (t + 1) (by omega) (by simp; omega)
    rw [show k + (m + 1) = k + m + 1 by omega]
    have e : ((t : Int) + 1) = ((t + 1 : Nat) : Int) := by omega
    rw [e, this, List.range'_succ]
    simp
theorem app_all {L : Nat → List Int → Int → Option (List Int)} {n : Nat} {g : Int → Int} (hn : n ≤ 1099511627776)
    (hstep : ∀ k xs t, L (k + 1) xs t = if (decide (t < ((n : Nat) : Int))) = true then (if 0 ≤ t ∧ t < ((n : Nat) : Int) then (if (xs.length + 1) * 1 ≤ 140737488355328 then (L k (xs ++ [g t]) (IntKind.i64.wrap (t + 1))) else none) else none) else (some xs))
    (xs : List Int) (hx : xs.length ≤ 1099511627776) : Ev fun k => L k xs 0 = some (xs ++ (List.range n).map fun (i : Nat) => g (i : Int)) :=
  Ev.of (n + 1) fun k => by
    have h := app_loop hn hstep n k xs 0 (by omega) (by omega)
    rw [List.range_eq_range']
    exact h
theorem map_range_getD (d : List Int) (f : Int → Int) : ((List.range d.length).map fun (i : Nat) => f (d.getD (i : Int).toNat 0)) = d.map f := by
  apply List.ext_getElem
  · simp
  · intro i h1 h2
    simp only [List.length_map, List.length_range] at h1
    simp only [List.getElem_map, List.getElem_range, Int.toNat_natCast]
    rw [List.getD_eq_getElem?_getD, List.getElem?_eq_getElem h1]
    rfl
theorem map_range_sg (s : ByteArray) (f : Int → Int) : ((List.range s.size).map fun (i : Nat) => f (sg s (i : Int))) = (bytesOf s).map f := by
  rw [← map_range_getD, length_bytesOf]
  apply List.map_congr_left
  intro i hi
  congr 1
  have hi' : i < s.size := List.mem_range.1 hi
  unfold sg bytesOf
  simp only [Int.toNat_natCast]
  rw [List.getD_eq_getElem?_getD, List.getD_eq_getElem?_getD, List.getElem?_map]
  have hl : i < s.data.toList.length := by simpa using hi'
  rw [List.getElem?_eq_getElem hl]
  rfl

theorem mod_ok (k : Nat) (v n : Int) (h0 : 0 < n) (h1 : n < 4611686018427387904) : mill_Mod.f k v n = some (v % n) := by
  unfold mill_Mod.f
  rw [if_pos (by omega)]
  have hb := Int.emod_nonneg v (show n ≠ 0 by omega)
  have hb2 := Int.emod_lt_of_pos v h0
  by_cases hv : 0 ≤ v
  · have e : v.tmod n = v % n := Int.tmod_eq_emod_of_nonneg hv
    rw [e, if_neg (by simp; omega)]
    rfl
  · have e : v.tmod n = -((-v) % n) := by
      have : v = -(-v) := by omega
      rw [this, Int.neg_tmod, Int.tmod_eq_emod_of_nonneg (by omega)]
      simp
    have hc := Int.emod_nonneg (-v) (show n ≠ 0 by omega)
    have hc2 := Int.emod_lt_of_pos (-v) h0
    by_cases hz : (-v) % n = 0
    · have : v % n = 0 := by
        have hd := Int.dvd_of_emod_eq_zero hz
        exact Int.emod_eq_zero_of_dvd (by exact (Int.dvd_neg).1 hd)
      rw [e, hz, this]
      rfl
    · have hneg : v % n = n - (-v) % n := by
        have h2 : (-v) % n = n - v % n := by
          have := Int.neg_emod (a := v) (b := n)
          rw [this]
          split
          · rename_i hd
            exact absurd (Int.emod_eq_zero_of_dvd ((Int.dvd_neg).2 hd)) hz
          · have : (n.natAbs : Int) = n := by omega
            rw [this]
        omega
      rw [e, if_pos (by simp; omega), wr (by omega) (by omega), hneg]
      simp
      omega

def gens : Vector Int 5 := ((((((Vector.replicate 5 0 : Vector Int 5).setIfInBounds 0 996825010).setIfInBounds 1 642813549).setIfInBounds 2 513874426).setIfInBounds 3 1027748829).setIfInBounds 4 705979059)
def mix1 (c0 c t : Int) : Int := if ((iand .u32 (ishr .u32 (ishr .u32 c0 25) t) 1) == 1) = true then ixor .u32 c (vg gens t) else c
def mix (c0 c : Int) : Int := mix1 c0 (mix1 c0 (mix1 c0 (mix1 c0 (mix1 c0 c 0) 1) 2) 3) 4
theorem mixa (c0 c t : Int) (k : Nat) (h0 : 0 ≤ t) (h1 : t < 5) : address_remainder.l1 c0 (k + 1) c t = address_remainder.l1 c0 k (mix1 c0 c t) (t + 1) := by
  rw [address_remainder.l1, if_pos (by simpa using h1), if_pos ⟨h0, by simpa using h1⟩, if_pos h0, wr (by omega) (by omega)]
  unfold mix1
  by_cases h : ((iand .u32 (ishr .u32 (ishr .u32 c0 25) t) 1) == 1) = true
  · rw [if_pos h, if_pos h]; rfl
  · rw [if_neg h, if_neg h]; rfl
theorem mixr (c0 c t : Int) (k : Nat) (h0 : 0 ≤ t) (h1 : t < 5) : ref27_remainder.l1 c0 (k + 1) c t = ref27_remainder.l1 c0 k (mix1 c0 c t) (t + 1) := by
  rw [ref27_remainder.l1, if_pos (by simpa using h1), wu64 h0 (by omega), if_pos h0, wr (by omega) (by omega)]
  unfold mix1
  by_cases h : ((iand .u32 (ishr .u32 (ishr .u32 c0 25) t) 1) == 1) = true
  · rw [if_pos h, if_pos h, if_pos ⟨h0, by simpa using h1⟩]; rfl
  · rw [if_neg h, if_neg h]; rfl
theorem mix_a (c0 c : Int) (k : Nat) : address_remainder.l1 c0 (k + 6) c 0 = some (mix c0 c) := by
  rw [mixa c0 _ 0 (k + 5) (by decide) (by decide), mixa c0 _ (0 + 1) (k + 4) (by decide) (by decide), mixa c0 _ (0 + 1 + 1) (k + 3) (by decide) (by decide), mixa c0 _ (0 + 1 + 1 + 1) (k + 2) (by decide) (by decide), mixa c0 _ (0 + 1 + 1 + 1 + 1) (k + 1) (by decide) (by decide), address_remainder.l1, if_neg (by decide)]
  rfl
theorem mix_r (c0 c : Int) (k : Nat) : ref27_remainder.l1 c0 (k + 6) c 0 = some (mix c0 c) := by
  rw [mixr c0 _ 0 (k + 5) (by decide) (by decide), mixr c0 _ (0 + 1) (k + 4) (by decide) (by decide), mixr c0 _ (0 + 1 + 1) (k + 3) (by decide) (by decide), mixr c0 _ (0 + 1 + 1 + 1) (k + 2) (by decide) (by decide), mixr c0 _ (0 + 1 + 1 + 1 + 1) (k + 1) (by decide) (by decide), ref27_remainder.l1, if_neg (by decide)]
  rfl
def feed (c x : Int) : Int := mix c (ixor .u32 (ishl .u32 (iand .u32 c 33554431) 5) (IntKind.u32.wrap x))
theorem remA_l (d : List Int) (hd : d.length ≤ 1099511627776) : ∀ (m k : Nat) (c : Int) (t : Nat), t + m = d.length → address_remainder.l0 d (k + m + 7) c (t : Int) = some ((d.drop t).foldl feed c)
  | 0, k, c, t, h => by rw [address_remainder.l0, if_neg (by simp; omega), List.drop_of_length_le (by omega)]; rfl
  | m + 1, k, c, t, h => by
    have hlt : t < d.length := by omega
    rw [show k + (m + 1) + 7 = k + m + 7 + 1 by omega, address_remainder.l0, if_pos (by simp; omega), if_pos ⟨by omega, by omega⟩, show k + m + 7 = (k + m + 1) + 6 by omega, mix_a, Option.bind_some, wr (by omega) (by omega), show ((t : Int) + 1) = ((t + 1 : Nat) : Int) by omega, show k + m + 1 + 6 = k + m + 7 by omega, remA_l d hd m k _ (t + 1) (by omega), List.drop_eq_getElem_cons hlt, List.foldl_cons]
    congr 3
    simp [List.getD_eq_getElem?_getD, hlt]
theorem remR_l (d : List Int) (hd : d.length ≤ 1099511627776) : ∀ (m k : Nat) (c : Int) (t : Nat), t + m = d.length → ref27_remainder.l0 d (k + m + 7) c (t : Int) = some ((d.drop t).foldl feed c)
  | 0, k, c, t, h => by rw [ref27_remainder.l0, if_neg (by simp; omega), List.drop_of_length_le (by omega)]; rfl
  | m + 1, k, c, t, h => by
    have hlt : t < d.length := by omega
    rw [show k + (m + 1) + 7 = k + m + 7 + 1 by omega, ref27_remainder.l0, if_pos (by simp; omega), if_pos ⟨by omega, by omega⟩, show k + m + 7 = (k + m + 1) + 6 by omega, mix_r, Option.bind_some, wr (by omega) (by omega), show ((t : Int) + 1) = ((t + 1 : Nat) : Int) by omega, show k + m + 1 + 6 = k + m + 7 by omega, remR_l d hd m k _ (t + 1) (by omega), List.drop_eq_getElem_cons hlt, List.foldl_cons]
    congr 3
    simp [List.getD_eq_getElem?_getD, hlt]
def rem27 (d : List Int) : Int := d.foldl feed 1
theorem rem_ok (d : List Int) (hd : d.length ≤ 1099511627776) : Ev fun k => address_remainder.f k d = some (rem27 d) ∧ ref27_remainder.f k d = some (rem27 d) :=
  Ev.of (d.length + 7) fun k => by
    have h1 := remA_l d hd d.length k 1 0 (by omega)
    have h2 := remR_l d hd d.length k 1 0 (by omega)
    constructor
    · unfold address_remainder.f
      rw [show k + (d.length + 7) = k + d.length + 7 by omega]
      have e : ((0 : Nat) : Int) = 0 := rfl
      rw [e] at h1
      rw [h1]
      rfl
    · unfold ref27_remainder.f
      rw [show k + (d.length + 7) = k + d.length + 7 by omega]
      have e : ((0 : Nat) : Int) = 0 := rfl
      rw [e] at h2
      rw [h2]
      rfl
def putq (r : Int) (v : Vector Int 6) (t : Int) : Vector Int 6 := vs v t (IntKind.u8.wrap (iand .u32 (ishr .u32 (ixor .u32 r 1) (25 - 5 * t)) 31))
def six (r : Int) : Vector Int 6 := putq r (putq r (putq r (putq r (putq r (putq r (Vector.replicate 6 0 : Vector Int 6) 0) 1) 2) 3) 4) 5
theorem putA (r : Int) (v : Vector Int 6) (t : Int) (k : Nat) (h0 : 0 ≤ t) (h1 : t < 6) : address_Checksum.l3 r (k + 1) v t = address_Checksum.l3 r k (putq r v t) (t + 1) := by
  rw [address_Checksum.l3, if_pos (by simpa using h1), wr (x := 5 * t) (by omega) (by omega), wr (x := 25 - 5 * t) (by omega) (by omega), if_pos (by omega), if_pos ⟨h0, by simpa using h1⟩, Option.bind_some, wr (by omega) (by omega)]
  rfl
theorem putR (r : Int) (v : Vector Int 6) (t : Int) (k : Nat) (h0 : 0 ≤ t) (h1 : t < 6) : ref27_Checksum.l3 r (k + 1) v t = ref27_Checksum.l3 r k (putq r v t) (t + 1) := by
  rw [ref27_Checksum.l3, if_pos (by simpa using h1), wr (x := 5 * t) (by omega) (by omega), wr (x := 25 - 5 * t) (by omega) (by omega), wu64 (x := 25 - 5 * t) (by omega) (by omega), if_pos (by omega), if_pos ⟨h0, by simpa using h1⟩, Option.bind_some, wr (by omega) (by omega)]
  rfl
theorem sixA (r : Int) (k : Nat) : address_Checksum.l3 r (k + 7) (Vector.replicate 6 0 : Vector Int 6) 0 = some (six r) := by
  rw [putA r _ 0 (k + 6) (by decide) (by decide), putA r _ (0 + 1) (k + 5) (by decide) (by decide), putA r _ (0 + 1 + 1) (k + 4) (by decide) (by decide), putA r _ (0 + 1 + 1 + 1) (k + 3) (by decide) (by decide), putA r _ (0 + 1 + 1 + 1 + 1) (k + 2) (by decide) (by decide), putA r _ (0 + 1 + 1 + 1 + 1 + 1) (k + 1) (by decide) (by decide), address_Checksum.l3, if_neg (by decide)]
  rfl
theorem sixR (r : Int) (k : Nat) : ref27_Checksum.l3 r (k + 7) (Vector.replicate 6 0 : Vector Int 6) 0 = some (six r) := by
  rw [putR r _ 0 (k + 6) (by decide) (by decide), putR r _ (0 + 1) (k + 5) (by decide) (by decide), putR r _ (0 + 1 + 1) (k + 4) (by decide) (by decide), putR r _ (0 + 1 + 1 + 1) (k + 3) (by decide) (by decide), putR r _ (0 + 1 + 1 + 1 + 1) (k + 2) (by decide) (by decide), putR r _ (0 + 1 + 1 + 1 + 1 + 1) (k + 1) (by decide) (by decide), ref27_Checksum.l3, if_neg (by decide)]
  rfl
def fed (s : ByteArray) (d : List Int) : List Int := (bytesOf s).map (fun x => ishr .u8 x 5) ++ [0] ++ (bytesOf s).map (fun x => iand .u8 x 31) ++ d.map (fun x => iand .u8 x 31)
def sum27 (s : ByteArray) (d : List Int) : Vector Int 6 := six (rem27 (fed s d ++ [0, 0, 0, 0, 0, 0]))
theorem sum_ok (s : ByteArray) (d : List Int) (hs : s.size ≤ 1000) (hd : d.length ≤ 1000) : Ev fun k => address_Checksum.f k s d = some (sum27 s d) ∧ ref27_Checksum.f k s d = some (sum27 s d) := by
  have len1 : ((bytesOf s).map (fun x => ishr .u8 x 5)).length = s.size := by rw [List.length_map, length_bytesOf]
  have len2 : ((bytesOf s).map (fun x => iand .u8 x 31)).length = s.size := by rw [List.length_map, length_bytesOf]
  have a0 := app_all (L := address_Checksum.l0 s) (n := s.size) (g := fun t => ishr .u8 (sg s t) 5) (by omega) (fun k xs t => rfl) [] (by simp)
  have a1 := app_all (L := address_Checksum.l1 s) (n := s.size) (g := fun t => iand .u8 (sg s t) 31) (by omega) (fun k xs t => rfl) ((bytesOf s).map (fun x => ishr .u8 x 5) ++ [0]) (by rw [List.length_append, len1]; simp; omega)
  have a2 := app_all (L := address_Checksum.l2 d) (n := d.length) (g := fun t => iand .u8 (d.getD t.toNat 0) 31) (by omega) (fun k xs t => rfl) ((bytesOf s).map (fun x => ishr .u8 x 5) ++ [0] ++ (bytesOf s).map (fun x => iand .u8 x 31)) (by rw [List.length_append, List.length_append, len1, len2]; simp; omega)
  have b0 := app_all (L := ref27_Checksum.l0 s) (n := s.size) (g := fun t => ishr .u8 (sg s t) 5) (by omega) (fun k xs t => rfl) [] (by simp)
  have b1 := app_all (L := ref27_Checksum.l1 s) (n := s.size) (g := fun t => iand .u8 (sg s t) 31) (by omega) (fun k xs t => rfl) ((bytesOf s).map (fun x => ishr .u8 x 5) ++ [0]) (by rw [List.length_append, len1]; simp; omega)
  have b2 := app_all (L := ref27_Checksum.l2 d) (n := d.length) (g := fun t => iand .u8 (d.getD t.toNat 0) 31) (by omega) (fun k xs t => rfl) ((bytesOf s).map (fun x => ishr .u8 x 5) ++ [0] ++ (bytesOf s).map (fun x => iand .u8 x 31)) (by rw [List.length_append, List.length_append, len1, len2]; simp; omega)
  simp only [map_range_sg s (fun x => ishr .u8 x 5), map_range_sg s (fun x => iand .u8 x 31), map_range_getD d (fun x => iand .u8 x 31), List.nil_append] at a0 a1 a2 b0 b1 b2
  have lf : (fed s d).length = s.size + 1 + s.size + d.length := by
    unfold fed
    simp only [List.length_append, len1, len2, List.length_map, List.length_cons, List.length_nil]
  have hr := rem_ok (fed s d ++ [0, 0, 0, 0, 0, 0]) (by rw [List.length_append, lf]; simp; omega)
  refine ((((a0.and a1).and (a2.and b0)).and ((b1.and b2).and hr)).and (Ev.of (p := fun k => ∃ q, k = q + 7) 7 fun k => ⟨k, rfl⟩)).mono ?_
  rintro k ⟨⟨⟨⟨h1, h2⟩, h3, h4⟩, ⟨h5, h6⟩, h7, h8⟩, q, rfl⟩
  have e6 : (Vector.replicate 6 0 : Vector Int 6).toList = [0, 0, 0, 0, 0, 0] := rfl
  constructor
  · unfold address_Checksum.f
    rw [h1, Option.bind_some, if_pos (by rw [len1]; omega), h2, Option.bind_some, h3, Option.bind_some]
    change (if ((fed s d).length + 6) * 1 ≤ 140737488355328 then ((address_remainder.f (q + 7) (fed s d ++ (Vector.replicate 6 0 : Vector Int 6).toList)).bind fun r668 => (Option.bind (α := (Vector Int 6)) (address_Checksum.l3 r668 (q + 7) (Vector.replicate 6 0 : Vector Int 6) 0) (fun x713 => (some x713)))) else none) = _
    rw [if_pos (by rw [lf]; omega), e6, h7, Option.bind_some, sixA]
    rfl
  · unfold ref27_Checksum.f
    rw [h4, Option.bind_some, if_pos (by rw [len1]; omega), h5, Option.bind_some, h6, Option.bind_some]
    change (if ((fed s d).length + 6) * 1 ≤ 140737488355328 then ((ref27_remainder.f (q + 7) (fed s d ++ [(0 : Int), (0 : Int), (0 : Int), (0 : Int), (0 : Int), (0 : Int)])).bind fun r668 => (Option.bind (α := (Vector Int 6)) (ref27_Checksum.l3 r668 (q + 7) (Vector.replicate 6 0 : Vector Int 6) 0) (fun x713 => (some x713)))) else none) = _
    rw [if_pos (by rw [lf]; omega), h8, Option.bind_some, sixR]
    rfl

/-! ## digits as groups of bits -/
def nb (w x : Nat) : List Bool := (List.range w).map fun i => x.testBit (w - 1 - i)
def val (l : List Bool) : Nat := l.foldl (fun v b => 2 * v + b.toNat) 0
theorem val_from (l : List Bool) : ∀ v : Nat, l.foldl (fun v b => 2 * v + b.toNat) v = v * 2 ^ l.length + val l := by
  induction l with
  | nil => intro v; simp [val]
  | cons b l ih =>
    intro v
    simp only [List.foldl_cons, List.length_cons, val]
    rw [ih, ih (2 * 0 + b.toNat)]
    simp only [Nat.pow_succ, Nat.mul_zero, Nat.zero_add, Nat.add_mul]
    rw [Nat.mul_comm 2 v, Nat.mul_assoc, Nat.mul_comm 2 (2 ^ l.length), Nat.add_assoc]
theorem val_append (p q : List Bool) : val (p ++ q) = val p * 2 ^ q.length + val q := by
  unfold val
  rw [List.foldl_append, val_from q]
  rfl
theorem val_cons (b : Bool) (l : List Bool) : val (b :: l) = b.toNat * 2 ^ l.length + val l := by
  have := val_append [b] l
  simpa [val] using this
theorem val_lt : ∀ l : List Bool, val l < 2 ^ l.length
  | [] => by simp [val]
  | b :: l => by
    rw [val_cons, List.length_cons, Nat.pow_succ]
    have := val_lt l
    cases b <;> simp <;> omega
theorem val_zeros (n : Nat) : val (List.replicate n false) = 0 := by
  induction n with
  | zero => rfl
  | succ n ih => rw [List.replicate_succ, val_cons, ih]; simp
theorem length_nb (w x : Nat) : (nb w x).length = w := by simp [nb]
theorem nb_get (w x i : Nat) (h : i < w) : (nb w x).getD i false = x.testBit (w - 1 - i) := by
  simp [nb, List.getD_eq_getElem?_getD, h]
theorem nb_succ (w x : Nat) : nb (w + 1) x = x.testBit w :: nb w x := by
  unfold nb
  rw [List.range_succ_eq_map, List.map_cons, List.map_map]
  congr 1
  apply List.map_congr_left
  intro i hi
  simp only [Function.comp]
  congr 1
  have := List.mem_range.1 hi
  omega
theorem val_nb : ∀ (w x : Nat), val (nb w x) = x % 2 ^ w
  | 0, x => by simp [nb, val]; omega
  | w + 1, x => by
    rw [nb_succ, val_cons, val_nb w x, length_nb]
    have h := Nat.testBit_eq_decide_div_mod_eq (x := x) (i := w)
    rw [h]
    have h2 : x % 2 ^ (w + 1) = 2 ^ w * (x / 2 ^ w % 2) + x % 2 ^ w := by
      rw [Nat.pow_succ, Nat.mod_mul, Nat.add_comm]
    rw [h2, Nat.mul_comm]
    congr 1
    rcases Nat.mod_two_eq_zero_or_one (x / 2 ^ w) with h3 | h3 <;> simp [h3]
def chunks (w : Nat) : Nat → List Bool → List Nat
  | 0, _ => []
  | m + 1, l => val (l.take w) :: chunks w m (l.drop w)
def groups (w : Nat) (l : List Bool) : List Nat := chunks w (l.length / w) l
def over (w : Nat) (l : List Bool) : List Bool := l.drop (w * (l.length / w))
theorem length_chunks (w : Nat) : ∀ (m : Nat) (l : List Bool), (chunks w m l).length = m
  | 0, _ => rfl
  | m + 1, l => by simp [chunks, length_chunks w m]
theorem chunks_get (w : Nat) : ∀ (m : Nat) (l : List Bool) (i : Nat), i < m → (chunks w m l)[i]? = some (val ((l.drop (w * i)).take w))
  | 0, _, i, h => by omega
  | m + 1, l, 0, _ => by simp [chunks]
  | m + 1, l, i + 1, h => by
    simp only [chunks, List.getElem?_cons_succ]
    rw [chunks_get w m (l.drop w) i (by omega), List.drop_drop, Nat.mul_succ, Nat.add_comm w]
theorem length_over (w : Nat) (l : List Bool) : (over w l).length = l.length % w := by
  unfold over
  rw [List.length_drop]
  have := Nat.div_add_mod l.length w
  omega
theorem groups_small {w : Nat} {l : List Bool} (h : l.length < w) : groups w l = [] ∧ over w l = l := by
  unfold groups over
  rw [Nat.div_eq_of_lt h]
  exact ⟨rfl, by simp⟩
theorem groups_step {w : Nat} {l : List Bool} (hw : 0 < w) (h : w ≤ l.length) : groups w l = val (l.take w) :: groups w (l.drop w) ∧ over w l = over w (l.drop w) := by
  have e : l.length / w = (l.drop w).length / w + 1 := by
    rw [List.length_drop]
    have := Nat.sub_add_cancel h
    conv => lhs; rw [← this]
    rw [Nat.add_div_right _ hw]
  unfold groups over
  rw [e]
  refine ⟨rfl, ?_⟩
  rw [List.drop_drop, Nat.mul_succ, Nat.add_comm]
theorem groups_append (w : Nat) (hw : 0 < w) (q : List Bool) : ∀ (n : Nat) (p : List Bool), p.length ≤ n → groups w (p ++ q) = groups w p ++ groups w (over w p ++ q) ∧ over w (p ++ q) = over w (over w p ++ q)
  | n, p, hn => by
    by_cases h : p.length < w
    · rw [(groups_small h).1, (groups_small h).2]; exact ⟨rfl, rfl⟩
    · cases n with
      | zero => omega
      | succ n =>
        have hle : w ≤ p.length := by omega
        have h1 := groups_step hw hle
        have h2 := groups_step (l := p ++ q) hw (by simp; omega)
        have h3 : (p ++ q).drop w = p.drop w ++ q := List.drop_append_of_le_length hle
        have h4 : (p ++ q).take w = p.take w := List.take_append_of_le_length hle
        rw [h3, h4] at h2
        have ih := groups_append w hw q n (p.drop w) (by rw [List.length_drop]; omega)
        rw [h2.1, h2.2, h1.1, h1.2, ih.1, ih.2]
        exact ⟨rfl, rfl⟩
theorem flat_get (w : Nat) (hw : 0 < w) : ∀ (b : List Nat) (i : Nat), (b.flatMap (nb w)).getD i false = (if i < w * b.length then (b.getD (i / w) 0).testBit (w - 1 - i % w) else false)
  | [], i => by simp
  | x :: b, i => by
    have hm : w * (b.length + 1) = w * b.length + w := Nat.mul_succ _ _
    rw [List.flatMap_cons, List.getD_eq_getElem?_getD, List.getElem?_append]
    by_cases h : i < w
    · rw [if_pos (by rw [length_nb]; exact h), ← List.getD_eq_getElem?_getD, nb_get w x i h, if_pos (by rw [List.length_cons]; omega), Nat.div_eq_of_lt h, Nat.mod_eq_of_lt h]
      rfl
    · rw [if_neg (by rw [length_nb]; exact h), length_nb, ← List.getD_eq_getElem?_getD, flat_get w hw b (i - w)]
      have e1 : i / w = (i - w) / w + 1 := Nat.div_eq_sub_div hw (by omega)
      have e2 : i % w = (i - w) % w := Nat.mod_eq_sub_mod (by omega)
      rw [e1, e2, List.getD_cons_succ, List.length_cons]
      by_cases h2 : i - w < w * b.length
      · rw [if_pos h2, if_pos (by omega)]
      · rw [if_neg h2, if_neg (by omega)]
theorem length_flat (w : Nat) (b : List Nat) : (b.flatMap (nb w)).length = w * b.length := by
  induction b with
  | nil => simp
  | cons x b ih => rw [List.flatMap_cons, List.length_append, length_nb, ih, List.length_cons, Nat.mul_succ]; omega

def ints (l : List Nat) : List Int := l.map fun (n : Nat) => (n : Int)
theorem ints_append (p q : List Nat) : ints (p ++ q) = ints p ++ ints q := by simp [ints]
theorem length_ints (l : List Nat) : (ints l).length = l.length := by simp [ints]
theorem ints_getD (l : List Nat) (i : Nat) : (ints l).getD i 0 = ((l.getD i 0 : Nat) : Int) := by
  simp only [ints, List.getD_eq_getElem?_getD, List.getElem?_map]
  cases l[i]? <;> rfl
theorem ints_of_wf : ∀ (l : List Int), (∀ n ∈ l, (Lit.int .u8 n).wf = true) → ∃ b : List Nat, l = ints b ∧ ∀ x ∈ b, x < 256
  | [], _ => ⟨[], rfl, by simp⟩
  | n :: l, h => by
    obtain ⟨x, rfl, hx⟩ := wf_nat rfl (h n (by simp))
    obtain ⟨b, rfl, hb⟩ := ints_of_wf l (fun m hm => h m (by simp [hm]))
    refine ⟨x :: b, rfl, fun y hy => ?_⟩
    rcases List.mem_cons.1 hy with rfl | hy
    · exact hx
    · exact hb y hy
theorem val_split (w : Nat) (h : List Bool) (hw : w ≤ h.length) : val h = val (h.take w) * 2 ^ (h.length - w) + val (h.drop w) := by
  conv => lhs; rw [← List.take_append_drop w h]
  rw [val_append, List.length_drop]
theorem val_bound {h : List Bool} {n : Nat} (hn : h.length ≤ n) : val h < 2 ^ n := Nat.lt_of_lt_of_le (val_lt h) (Nat.pow_le_pow_right (by decide) hn)
theorem reg1 (w : Nat) (hw0 : 0 < w) (hw : w ≤ 8) : ∀ (m F : Nat) (xs : List Int) (h : List Bool), h.length ≤ 15 → h.length / w = m → m + 1 ≤ F → xs.length + m ≤ 1099511627776 →
    address_regroup.l1 (w : Int) F xs (val h : Int) (h.length : Int) = some (xs ++ ints (groups w h), (val (over w h) : Int), ((over w h).length : Int))
  | 0, F, xs, h, hl, hm, hF, hx => by
    obtain ⟨F, rfl⟩ : ∃ q, F = q + 1 := ⟨F - 1, by omega⟩
    have hlt : h.length < w := (Nat.div_eq_zero_iff_lt hw0).1 hm
    rw [address_regroup.l1, if_neg (by simp; omega), (groups_small hlt).1, (groups_small hlt).2]
    simp [ints]
  | m + 1, F, xs, h, hl, hm, hF, hx => by
    obtain ⟨F, rfl⟩ : ∃ q, F = q + 1 := ⟨F - 1, by omega⟩
    have hle : w ≤ h.length := by
      rcases Nat.lt_or_ge h.length w with h1 | h1
      · rw [Nat.div_eq_of_lt h1] at hm; omega
      · exact h1
    obtain ⟨s, hs⟩ : ∃ s, h.length - w = s := ⟨_, rfl⟩
    have hsw : IntKind.i64.wrap ((h.length : Int) - (w : Int)) = (s : Int) := by rw [wr (by omega) (by omega)]; omega
    have hv := val_split w h hle
    rw [hs] at hv
    have hd : val (h.drop w) < 2 ^ s := by have := val_lt (h.drop w); rwa [List.length_drop, hs] at this
    have ht : val (h.take w) < 2 ^ w := by have := val_lt (h.take w); rwa [List.length_take, Nat.min_eq_left hle] at this
    have hw8 : 2 ^ w ≤ 2 ^ 8 := Nat.pow_le_pow_right (by decide) hw
    have hs15 : 2 ^ s ≤ 2 ^ 15 := Nat.pow_le_pow_right (by decide) (by omega)
    have hs0 : 0 < 2 ^ s := Nat.two_pow_pos s
    have hvb := val_bound (h := h) (n := 15) hl
    have e1 : IntKind.u8.wrap (ishr .i64 (val h : Int) (s : Int)) = ((val (h.take w) : Nat) : Int) := by
      rw [ishr_n .i64 _ _ (by show s ≤ 64; omega), hv, Nat.mul_comm, Nat.mul_add_div hs0, Nat.div_eq_of_lt hd, Nat.add_zero, wr8 (by omega) (by omega)]
    have e2 : iand .i64 (val h : Int) (IntKind.i64.wrap (ishl .i64 1 (s : Int) - 1)) = ((val (h.drop w) : Nat) : Int) := by
      have e3 : ishl .i64 1 (s : Int) = ((2 ^ s : Nat) : Int) := by
        have := ishl_i .i64 1 s (by show s ≤ 64; omega) (by show 1 * 2 ^ s < 2 ^ 63; omega)
        rw [Nat.one_mul] at this
        exact this
      rw [e3, show ((2 ^ s : Nat) : Int) - 1 = ((2 ^ s - 1 : Nat) : Int) by omega, wr (by omega) (by omega), iand_i .i64 _ _ (by show _ < 2 ^ 63; omega) (by show _ < 2 ^ 63; omega), Nat.and_two_pow_sub_one_eq_mod, hv, Nat.mul_comm, Nat.mul_add_mod, Nat.mod_eq_of_lt hd]
    have hst := groups_step hw0 hle
    have hl2 : (h.drop w).length = s := by rw [List.length_drop, hs]
    have hm2 : (h.drop w).length / w = m := by
      rw [List.length_drop]
      have h3 : h.length / w = (h.length - w) / w + 1 := Nat.div_eq_sub_div hw0 hle
      omega
    have ih := reg1 w hw0 hw m F (xs ++ [((val (h.take w) : Nat) : Int)]) (h.drop w) (by rw [hl2]; omega) hm2 (by omega) (by simp; omega)
    rw [address_regroup.l1, if_pos (by simp; omega), hsw, if_pos (by omega), if_pos (by omega), if_pos (by omega), e1, e2, ← hl2, ih, hst.1, hst.2]
    simp [ints]
theorem or_add (a n x : Nat) (h : x < 2 ^ n) : a * 2 ^ n ||| x = a * 2 ^ n + x := by
  have := Nat.shiftLeft_add_eq_or_of_lt h a
  rw [Nat.shiftLeft_eq] at this
  exact this.symm
theorem reg0 (f w : Nat) (hw0 : 0 < w) (hw : w ≤ 8) (hf : f ≤ 8) (b : List Nat) (hb : ∀ x ∈ b, x < 2 ^ f) (hlen : b.length ≤ 100000) : ∀ (m F : Nat) (xs : List Int) (h : List Bool) (t : Nat), t + m = b.length → h.length < w → m + 20 ≤ F → xs.length + 16 * m ≤ 1099511627776 →
    address_regroup.l0 (ints b) (f : Int) (w : Int) F xs (val h : Int) (h.length : Int) (t : Int) = some (xs ++ ints (groups w (h ++ (b.drop t).flatMap (nb f))), (val (over w (h ++ (b.drop t).flatMap (nb f))) : Int), ((over w (h ++ (b.drop t).flatMap (nb f))).length : Int))
  | 0, F, xs, h, t, ht, hh, hF, hx => by
    obtain ⟨F, rfl⟩ : ∃ q, F = q + 1 := ⟨F - 1, by omega⟩
    rw [address_regroup.l0, if_neg (by rw [length_ints]; simp; omega), List.drop_of_length_le (by omega)]
    simp only [List.flatMap_nil, List.append_nil]
    rw [(groups_small hh).1, (groups_small hh).2]
    simp [ints]
  | m + 1, F, xs, h, t, ht, hh, hF, hx => by
    obtain ⟨F, rfl⟩ : ∃ q, F = q + 1 := ⟨F - 1, by omega⟩
    have hlt : t < b.length := by omega
    have hxb := hb b[t] (List.getElem_mem hlt)
    have hget : (ints b).getD (t : Int).toNat 0 = ((b[t] : Nat) : Int) := by
      rw [Int.toNat_natCast, ints_getD, List.getD_eq_getElem?_getD, List.getElem?_eq_getElem hlt]; rfl
    have hvb := val_bound (h := h) (n := 8) (by omega)
    have hf8 : 2 ^ f ≤ 2 ^ 8 := Nat.pow_le_pow_right (by decide) hf
    have hprod : val h * 2 ^ f < 2 ^ 16 := Nat.lt_of_le_of_lt (Nat.mul_le_mul (Nat.le_of_lt_succ (by omega : val h < 255 + 1)) hf8) (by decide)
    have e1 : ior .i64 (ishl .i64 (val h : Int) (f : Int)) (IntKind.i64.wrap ((b[t] : Nat) : Int)) = ((val (h ++ nb f b[t]) : Nat) : Int) := by
      rw [ishl_i .i64 _ _ (by show f ≤ 64; omega) (by show _ < 2 ^ 63; omega), wr (by omega) (by omega), ior_i .i64 _ _ (by show _ < 2 ^ 63; omega) (by show _ < 2 ^ 63; omega), or_add _ _ _ hxb, val_append, length_nb, val_nb, Nat.mod_eq_of_lt hxb]
    have e2 : IntKind.i64.wrap ((h.length : Int) + (f : Int)) = ((h ++ nb f b[t]).length : Int) := by
      rw [wr (by omega) (by omega), List.length_append, length_nb]; omega
    have hl15 : (h ++ nb f b[t]).length ≤ 15 := by rw [List.length_append, length_nb]; omega
    have hdiv : (h ++ nb f b[t]).length / w ≤ 15 := Nat.le_trans (Nat.div_le_self _ _) hl15
    have r1 := reg1 w hw0 hw _ F xs (h ++ nb f b[t]) hl15 rfl (by omega) (by omega)
    have hov : (over w (h ++ nb f b[t])).length < w := by rw [length_over]; exact Nat.mod_lt _ hw0
    have hgl : (groups w (h ++ nb f b[t])).length ≤ 15 := by unfold groups; rw [length_chunks]; exact hdiv
    have ih := reg0 f w hw0 hw hf b hb hlen m F (xs ++ ints (groups w (h ++ nb f b[t]))) (over w (h ++ nb f b[t])) (t + 1) (by omega) hov (by omega) (by rw [List.length_append, length_ints]; omega)
    have hga := groups_append w hw0 ((b.drop (t + 1)).flatMap (nb f)) _ (h ++ nb f b[t]) (Nat.le_refl _)
    rw [address_regroup.l0, if_pos (by rw [length_ints]; simp; omega), if_pos ⟨by omega, by rw [length_ints]; omega⟩, if_pos (by omega), hget, e1, e2, r1, Option.bind_some]
    dsimp only
    rw [wr (by omega) (by omega), show ((t : Int) + 1) = ((t + 1 : Nat) : Int) by omega, ih, List.drop_eq_getElem_cons hlt, List.flatMap_cons, ← List.append_assoc, hga.1, hga.2, ints_append, List.append_assoc]
theorem regroup_ok (f w : Nat) (hw0 : 0 < w) (hw : w ≤ 8) (hf : f ≤ 8) (b : List Nat) (hb : ∀ x ∈ b, x < 2 ^ f) (hlen : b.length ≤ 100000) : Ev fun k => address_regroup.f k (ints b) (f : Int) (w : Int) = some (ints (groups w (b.flatMap (nb f))), (val (over w (b.flatMap (nb f))) : Int), ((over w (b.flatMap (nb f))).length : Int)) :=
  Ev.of (b.length + 20) fun k => by
    have h := reg0 f w hw0 hw hf b hb hlen b.length (k + (b.length + 20)) [] [] 0 (by omega) (by simpa using hw0) (by omega) (by simp; omega)
    unfold address_regroup.f
    simp only [List.nil_append, List.drop_zero] at h
    have e : address_regroup.l0 (ints b) (f : Int) (w : Int) (k + (b.length + 20)) ([] : List Int) 0 0 0 = _ := h
    rw [e]
    rfl

theorem convA (b : List Nat) (hb : ∀ x ∈ b, x < 256) (hlen : b.length ≤ 100000) : Ev fun k => address_Convert.f k (ints b) = some (ints (groups 5 (b.flatMap (nb 8) ++ List.replicate ((5 - (8 * b.length) % 5) % 5) false))) := by
  have hL := length_flat 8 b
  obtain ⟨L, hLe⟩ : ∃ L, b.flatMap (nb 8) = L := ⟨_, rfl⟩
  refine (regroup_ok 8 5 (by decide) (by decide) (by decide) b hb hlen).mono fun k h => ?_
  rw [hLe] at h hL ⊢
  have h' : address_regroup.f k (ints b) 8 5 = _ := h
  have hov : (over 5 L).length = (8 * b.length) % 5 := by rw [length_over, hL]
  have hg := (groups_append 5 (by decide) (List.replicate ((5 - (8 * b.length) % 5) % 5) false) _ L (Nat.le_refl _)).1
  have hgl : (groups 5 L).length ≤ 800000 := by
    unfold groups; rw [length_chunks]; exact Nat.le_trans (Nat.div_le_self _ _) (by omega)
  unfold address_Convert.f
  rw [h', Option.bind_some]
  dsimp only
  rw [hg, hov]
  by_cases h0 : (8 * b.length) % 5 = 0
  · have hnil : over 5 L = [] := List.eq_nil_of_length_eq_zero (by omega)
    rw [h0, hnil, if_neg (by simp)]
    simp [groups, chunks, ints]
  · obtain ⟨c, hc⟩ : ∃ c, (8 * b.length) % 5 = c := ⟨_, rfl⟩
    rw [hc] at h0 hov ⊢
    have hc5 : c < 5 := by omega
    have hpad : (5 - c) % 5 = 5 - c := Nat.mod_eq_of_lt (by omega)
    have h5 : (over 5 L ++ List.replicate (5 - c) false).length = 5 := by rw [List.length_append, hov, List.length_replicate]; omega
    have hs := groups_step (w := 5) (l := over 5 L ++ List.replicate (5 - c) false) (by decide) (by omega)
    have hs1 : groups 5 (over 5 L ++ List.replicate (5 - c) false) = [val (over 5 L ++ List.replicate (5 - c) false)] := by
      rw [hs.1, List.take_of_length_le (by omega), List.drop_of_length_le (by omega)]
      rfl
    have hvl := val_bound (h := over 5 L) (n := c) (by omega)
    have hc2 : val (over 5 L) * 2 ^ (5 - c) < 32 := by
      have : 2 ^ c * 2 ^ (5 - c) = 32 := by rw [← Nat.pow_add, show c + (5 - c) = 5 by omega]
      rw [← this]
      exact (Nat.mul_lt_mul_right (Nat.two_pow_pos _)).2 hvl
    rw [hpad, hs1, if_pos (by simp; omega), show (5 : Int) - (c : Int) = ((5 - c : Nat) : Int) by omega, wr (by omega) (by omega), if_pos (by omega), if_pos (by rw [length_ints]; omega), ishl_i .i64 _ _ (by show 5 - c ≤ 64; omega) (by show _ < 2 ^ 63; omega), wr8 (by omega) (by omega), val_append, val_zeros, List.length_replicate]
    simp [ints]
def gb (b : List Nat) (i : Nat) : Bool := (b.flatMap (nb 8)).getD i false
theorem bit_val (x s : Nat) (hx : x < 256) (hs : s ≤ 7) : iand .u8 (ishr .u8 (x : Int) (s : Int)) 1 = ((x.testBit s).toNat : Int) := by
  have hd : x / 2 ^ s < 256 := Nat.lt_of_le_of_lt (Nat.div_le_self _ _) hx
  have h1 := iand_u .u8 rfl (x / 2 ^ s) 1 hd (by decide)
  rw [ishr_n .u8 _ _ (by show s ≤ 8; omega)]
  have e : ((1 : Nat) : Int) = 1 := rfl
  rw [e] at h1
  rw [h1, Nat.and_one_is_mod, Nat.testBit_eq_decide_div_mod_eq]
  rcases Nat.mod_two_eq_zero_or_one (x / 2 ^ s) with h | h <;> simp [h]
theorem getD_lt (b : List Nat) (hb : ∀ x ∈ b, x < 256) (i : Nat) : b.getD i 0 < 256 := by
  rw [List.getD_eq_getElem?_getD]
  cases h : b[i]? with
  | none => decide
  | some x => exact hb x (List.mem_of_getElem? h)
theorem conv1 (b : List Nat) (hb : ∀ x ∈ b, x < 256) (hlen : b.length ≤ 100000) (t : Nat) (ht : t ≤ 1000000) (F d i : Nat) (hd : d < 128) (hi : i < t + 5) : ref27_Convert.l1 (ints b) (t : Int) (F + 1) (d : Int) (i : Int) = ref27_Convert.l1 (ints b) (t : Int) F ((2 * d + (gb b i).toNat : Nat) : Int) ((i + 1 : Nat) : Int) := by
  have e2 : ishl .u8 (d : Int) 1 = ((2 * d : Nat) : Int) := by
    have := ishl_u .u8 rfl d 1 (by decide) (by show d * 2 ^ 1 < 2 ^ 8; omega)
    have e : ((1 : Nat) : Int) = 1 := rfl
    rw [e] at this
    rw [this]; omega
  have hg : gb b i = (if i < 8 * b.length then (b.getD (i / 8) 0).testBit (8 - 1 - i % 8) else false) := flat_get 8 (by decide) b i
  rw [ref27_Convert.l1, wr (x := (t : Int) + 5) (by omega) (by omega), if_pos (by simp; omega), length_ints, wr (x := 8 * ((b.length : Nat) : Int)) (by omega) (by omega), wr (x := (i : Int) + 1) (by omega) (by omega), e2, show ((i : Int) + 1) = ((i + 1 : Nat) : Int) by omega]
  by_cases h : i < 8 * b.length
  · have ed : IntKind.i64.wrap ((i : Int).tdiv 8) = ((i / 8 : Nat) : Int) := by
      rw [Int.tdiv_eq_ediv_of_nonneg (by omega), wr (by omega) (by omega)]; omega
    have em : IntKind.u64.wrap (IntKind.i64.wrap (7 - (i : Int).tmod 8)) = ((7 - i % 8 : Nat) : Int) := by
      rw [Int.tmod_eq_emod_of_nonneg (by omega), wr (by omega) (by omega), wu64 (by omega) (by omega)]; omega
    have hbit := bit_val (b.getD (i / 8) 0) (7 - i % 8) (getD_lt b hb _) (by omega)
    have hor := or_add d 1 ((gb b i).toNat) (by cases gb b i <;> decide)
    rw [hg, if_pos h] at hor ⊢
    have e7 : 8 - 1 - i % 8 = 7 - i % 8 := by omega
    rw [e7] at hor ⊢
    rw [if_pos (by simp; omega), ed, em, if_pos ⟨by omega, by omega⟩, if_pos (by omega), Option.bind_some, Int.toNat_natCast, ints_getD, hbit, ior_u .u8 rfl _ _ (by show _ < 2 ^ 8; omega) (by cases (b.getD (i / 8) 0).testBit (7 - i % 8) <;> decide)]
    rw [Nat.pow_one, Nat.mul_comm d 2] at hor
    rw [hor]
  · rw [hg, if_neg h, if_neg (by simp; omega), Option.bind_some]
    rfl
theorem conv5 (b : List Nat) (hb : ∀ x ∈ b, x < 256) (hlen : b.length ≤ 100000) (t : Nat) (ht : t ≤ 1000000) (F : Nat) : ref27_Convert.l1 (ints b) (t : Int) (F + 6) 0 (t : Int) = some ((val [gb b t, gb b (t + 1), gb b (t + 2), gb b (t + 3), gb b (t + 4)] : Nat) : Int) := by
  have hn : ∀ x : Bool, x.toNat ≤ 1 := fun x => by cases x <;> decide
  have n0 := hn (gb b t)
  have n1 := hn (gb b (t + 1))
  have n2 := hn (gb b (t + 2))
  have n3 := hn (gb b (t + 3))
  have n4 := hn (gb b (t + 4))
  have n2' := hn (gb b (t + 1 + 1))
  have n3' := hn (gb b (t + 1 + 1 + 1))
  have n4' := hn (gb b (t + 1 + 1 + 1 + 1))
  have s0 := conv1 b hb hlen t ht (F + 5) 0 t (by omega) (by omega)
  have e0 : ((0 : Nat) : Int) = 0 := rfl
  rw [e0] at s0
  rw [s0, conv1 b hb hlen t ht (F + 4) _ (t + 1) (by omega) (by omega), conv1 b hb hlen t ht (F + 3) _ (t + 1 + 1) (by omega) (by omega), conv1 b hb hlen t ht (F + 2) _ (t + 1 + 1 + 1) (by omega) (by omega), conv1 b hb hlen t ht (F + 1) _ (t + 1 + 1 + 1 + 1) (by omega) (by omega), ref27_Convert.l1, wr (x := (t : Int) + 5) (by omega) (by omega), if_neg (by simp; omega)]
  congr 2
theorem five_bits (P : List Bool) (t : Nat) (h : t + 5 ≤ P.length) : (P.drop t).take 5 = [P.getD t false, P.getD (t + 1) false, P.getD (t + 2) false, P.getD (t + 3) false, P.getD (t + 4) false] := by
  have d0 := List.drop_eq_getElem_cons (l := P) (i := t) (by omega)
  have d1 := List.drop_eq_getElem_cons (l := P) (i := t + 1) (by omega)
  have d2 := List.drop_eq_getElem_cons (l := P) (i := t + 2) (by omega)
  have d3 := List.drop_eq_getElem_cons (l := P) (i := t + 3) (by omega)
  have d4 := List.drop_eq_getElem_cons (l := P) (i := t + 4) (by omega)
  have g : ∀ j (hj : j < P.length), P.getD j false = P[j] := fun j hj => by rw [List.getD_eq_getElem?_getD, List.getElem?_eq_getElem hj]; rfl
  rw [d0, d1, d2, d3, d4, g t (by omega), g (t + 1) (by omega), g (t + 2) (by omega), g (t + 3) (by omega), g (t + 4) (by omega)]
  rfl
theorem conv0 (b : List Nat) (hb : ∀ x ∈ b, x < 256) (hlen : b.length ≤ 100000) (n : Nat) (hn1 : 8 * b.length ≤ 5 * n) (hn2 : 5 * n < 8 * b.length + 5) (P : List Bool) (hP : P.length = 5 * n) (hPg : ∀ i, P.getD i false = gb b i) : ∀ (m F : Nat) (xs : List Int) (j : Nat), j + m = n → m + 10 ≤ F → xs.length + m ≤ 1099511627776 →
    ref27_Convert.l0 (ints b) F xs ((5 * j : Nat) : Int) = some (xs ++ ints (chunks 5 m (P.drop (5 * j))))
  | 0, F, xs, j, hj, hF, hx => by
    obtain ⟨F, rfl⟩ : ∃ q, F = q + 1 := ⟨F - 1, by omega⟩
    rw [ref27_Convert.l0, length_ints, wr (x := 8 * ((b.length : Nat) : Int)) (by omega) (by omega), if_neg (by simp; omega)]
    simp [chunks, ints]
  | m + 1, F, xs, j, hj, hF, hx => by
    obtain ⟨F, rfl⟩ : ∃ q, F = q + 7 := ⟨F - 7, by omega⟩
    have ih := conv0 b hb hlen n hn1 hn2 P hP hPg m (F + 6) (xs ++ [((val ((P.drop (5 * j)).take 5) : Nat) : Int)]) (j + 1) (by omega) (by omega) (by simp; omega)
    have h5 := conv5 b hb hlen (5 * j) (by omega) F
    have hb5 := five_bits P (5 * j) (by omega)
    simp only [hPg] at hb5
    rw [show F + 7 = F + 6 + 1 by omega, ref27_Convert.l0, length_ints, wr (x := 8 * ((b.length : Nat) : Int)) (by omega) (by omega), if_pos (by simp; omega), h5, Option.bind_some, if_pos (by omega), wr (by omega) (by omega), show (((5 * j : Nat) : Int) + 5) = ((5 * (j + 1) : Nat) : Int) by omega, ← hb5, ih]
    simp [chunks, ints, Nat.mul_succ]
theorem convR (b : List Nat) (hb : ∀ x ∈ b, x < 256) (hlen : b.length ≤ 100000) : Ev fun k => ref27_Convert.f k (ints b) = some (ints (groups 5 (b.flatMap (nb 8) ++ List.replicate ((5 - (8 * b.length) % 5) % 5) false))) := by
  have hL := length_flat 8 b
  obtain ⟨P, hP⟩ : ∃ P, b.flatMap (nb 8) ++ List.replicate ((5 - (8 * b.length) % 5) % 5) false = P := ⟨_, rfl⟩
  have hPl : P.length = 8 * b.length + (5 - (8 * b.length) % 5) % 5 := by rw [← hP, List.length_append, hL, List.length_replicate]
  obtain ⟨n, hn⟩ : ∃ n, P.length / 5 = n := ⟨_, rfl⟩
  have hPn : P.length = 5 * n := by omega
  have hPg : ∀ i, P.getD i false = gb b i := fun i => by
    rw [← hP, List.getD_eq_getElem?_getD, List.getElem?_append]
    unfold gb
    by_cases h : i < (b.flatMap (nb 8)).length
    · rw [if_pos h, List.getD_eq_getElem?_getD]
    · rw [if_neg h, List.getD_eq_getElem?_getD, List.getElem?_eq_none (l := b.flatMap (nb 8)) (by omega)]
      cases hq : (List.replicate ((5 - (8 * b.length) % 5) % 5) false)[i - (b.flatMap (nb 8)).length]? with
      | none => rfl
      | some x => have := List.eq_of_mem_replicate (List.mem_of_getElem? hq); rw [this]; rfl
  rw [hP]
  refine Ev.of (n + 10) fun k => ?_
  have h := conv0 b hb hlen n (by omega) (by omega) P hPn hPg n (k + (n + 10)) [] 0 (by omega) (by omega) (by simp; omega)
  unfold ref27_Convert.f
  have e : ref27_Convert.l0 (ints b) (k + (n + 10)) ([] : List Int) 0 = _ := h
  rw [e, Option.bind_some]
  simp only [List.nil_append, Nat.mul_zero, List.drop_zero]
  unfold groups
  rw [hn]

/-! ## the remainder as numbers -/
def gtab (t : Nat) : Nat :=
  (if t % 2 = 1 then 0x3b6a57b2 else 0) ^^^ (if t / 2 % 2 = 1 then 0x26508e6d else 0) ^^^ (if t / 4 % 2 = 1 then 0x1ea119fa else 0) ^^^ (if t / 8 % 2 = 1 then 0x3d4233dd else 0) ^^^ (if t / 16 % 2 = 1 then 0x2a1462b3 else 0)
def fd (c x : Nat) : Nat := ((c % 33554432) * 32 ^^^ x) ^^^ gtab (c / 33554432)
theorem gtab_all : ∀ t, t < 32 → gtab t < 1073741824 ∧ ∀ s, s < 32 → (gtab t % 32 = gtab s % 32 → t = s) ∧ ((gtab t ^^^ gtab s) = ((t ^^^ s) * 33554432) → t = s) := by decide +kernel
theorem xor_mod32 (a b : Nat) : (a ^^^ b) % 32 = (a % 32) ^^^ (b % 32) := Nat.xor_mod_two_pow (n := 5)
theorem xor_mod25 (a b : Nat) : (a ^^^ b) % 33554432 = (a % 33554432) ^^^ (b % 33554432) := Nat.xor_mod_two_pow (n := 25)
theorem xor_div25 (a b : Nat) : (a ^^^ b) / 33554432 = (a / 33554432) ^^^ (b / 33554432) := Nat.xor_div_two_pow (n := 25)
theorem xor_mul32 (a b : Nat) : (a ^^^ b) * 32 = (a * 32) ^^^ (b * 32) := by
  have := Nat.shiftLeft_xor_distrib (a := a) (b := b) (i := 5)
  simpa [Nat.shiftLeft_eq] using this
theorem fd_lt (c x : Nat) (hc : c < 1073741824) (hx : x < 1073741824) : fd c x < 1073741824 := by
  unfold fd
  have h1 := (gtab_all (c / 33554432) (by omega)).1
  exact Nat.xor_lt_two_pow (n := 30) (Nat.xor_lt_two_pow (n := 30) (by omega) hx) h1
theorem xor_cancel {a b c : Nat} (h : a ^^^ c = b ^^^ c) : a = b := by
  have := congrArg (· ^^^ c) h
  simpa [Nat.xor_assoc] using this
theorem xor_cancelL {a b c : Nat} (h : c ^^^ a = c ^^^ b) : a = b := xor_cancel (by rwa [Nat.xor_comm c a, Nat.xor_comm c b] at h)
theorem fd_inj (c c' x : Nat) (hc : c < 1073741824) (hc' : c' < 1073741824) (h : fd c x = fd c' x) : c = c' := by
  unfold fd at h
  have h2 := congrArg (· % 32) h
  simp only [xor_mod32, Nat.mul_mod_left, Nat.zero_xor] at h2
  have h3 := ((gtab_all (c / 33554432) (by omega)).2 (c' / 33554432) (by omega)).1 (xor_cancelL h2)
  rw [h3] at h
  have h4 := xor_cancel (xor_cancel h)
  omega
def run (c : Nat) (l : List Nat) : Nat := l.foldl fd c
theorem run_lt : ∀ (l : List Nat) (c : Nat), c < 1073741824 → (∀ x ∈ l, x < 32) → run c l < 1073741824
  | [], c, hc, _ => hc
  | x :: l, c, hc, h => run_lt l (fd c x) (fd_lt c x hc (by have := h x (by simp); omega)) fun y hy => h y (by simp [hy])
theorem run_ne : ∀ (l : List Nat) (c c' : Nat), c < 1073741824 → c' < 1073741824 → (∀ x ∈ l, x < 32) → c ≠ c' → run c l ≠ run c' l
  | [], c, c', _, _, _, hn => hn
  | x :: l, c, c', hc, hc', h, hn => run_ne l (fd c x) (fd c' x) (fd_lt c x hc (by have := h x (by simp); omega)) (fd_lt c' x hc' (by have := h x (by simp); omega)) (fun y hy => h y (by simp [hy])) (fun e => hn (fd_inj c c' x hc hc' e))
theorem run_append (c : Nat) (l m : List Nat) : run c (l ++ m) = run (run c l) m := by simp [run]
/-- one digit replaced -/
theorem run_one (c : Nat) (l m : List Nat) (a b : Nat) (hc : c < 1073741824) (hl : ∀ x ∈ l, x < 32) (hm : ∀ x ∈ m, x < 32) (ha : a < 32) (hb : b < 32) (hn : a ≠ b) : run c (l ++ a :: m) ≠ run c (l ++ b :: m) := by
  rw [run_append, run_append]
  have h := run_lt l c hc hl
  refine run_ne m _ _ (fd_lt _ _ h (by omega)) (fd_lt _ _ h (by omega)) hm fun e => hn ?_
  unfold fd at e
  exact xor_cancelL (xor_cancel e)
theorem small_div {y : Nat} (h : y < 33554432) (z : Nat) : (z ^^^ y) / 33554432 = z / 33554432 := by
  rw [xor_div25, Nat.div_eq_of_lt h, Nat.xor_zero]
/-- two neighbours exchanged -/
theorem run_two (c : Nat) (l m : List Nat) (a b : Nat) (hc : c < 1073741824) (hl : ∀ x ∈ l, x < 32) (hm : ∀ x ∈ m, x < 32) (ha : a < 32) (hb : b < 32) (hn : a ≠ b) : run c (l ++ a :: b :: m) ≠ run c (l ++ b :: a :: m) := by
  rw [run_append, run_append]
  have h := run_lt l c hc hl
  generalize run c l = u at h
  have hlt : ∀ p q, p < 32 → q < 32 → fd (fd u p) q < 1073741824 := fun p q hp hq => fd_lt _ _ (fd_lt _ _ h (by omega)) (by omega)
  refine run_ne m _ _ (hlt a b ha hb) (hlt b a hb ha) hm fun e => hn ?_
  have hd : ∀ p, p < 32 → fd u p / 33554432 = fd u 0 / 33554432 := fun p hp => by
    unfold fd
    rw [xor_div25, xor_div25, Nat.div_eq_of_lt (show p < 33554432 by omega), xor_div25, xor_div25, Nat.zero_div]
  have e2 := congrArg (· % 32) e
  simp only [fd] at e2
  have e3 : ∀ p q, p < 32 → q < 32 → (((fd u p) % 33554432 * 32 ^^^ q) ^^^ gtab (fd u p / 33554432)) % 32 = q ^^^ (gtab (fd u 0 / 33554432) % 32) := fun p q hp hq => by
    rw [hd p hp, xor_mod32, xor_mod32, Nat.mul_mod_left, Nat.zero_xor, Nat.mod_eq_of_lt hq]
  have e4 := (e3 a b ha hb).symm.trans (e2.trans (e3 b a hb ha))
  exact (xor_cancel e4).symm
theorem fd_low (z y : Nat) (hy : y < 33554432) : fd (z ^^^ y) 0 = fd z 0 ^^^ (y * 32) := by
  unfold fd
  rw [small_div hy, xor_mod25, Nat.mod_eq_of_lt hy, xor_mul32]
  simp only [Nat.xor_zero]
  rw [Nat.xor_assoc, Nat.xor_comm (y * 32), ← Nat.xor_assoc]
/-- the last digit of the data exchanged with the first one of the sum -/
theorem run_mid (c : Nat) (l : List Nat) (a b : Nat) (hc : c < 1073741824) (hl : ∀ x ∈ l, x < 32) (ha : a < 32) (hb : b < 32) (hn : a ≠ b) :
    run c (l ++ a :: [0, 0, 0, 0, 0, 0]) ^^^ run c (l ++ b :: [0, 0, 0, 0, 0, 0]) ≠ (a ^^^ b) * 33554432 := by
  rw [run_append, run_append]
  have h := run_lt l c hc hl
  generalize run c l = u at h
  have h0 : ∀ p, fd u p = fd u 0 ^^^ p := fun p => by
    unfold fd
    simp only [Nat.xor_zero]
    rw [Nat.xor_assoc, Nat.xor_comm p, ← Nat.xor_assoc]
  have h5 : ∀ p, p < 32 → run u (p :: [0, 0, 0, 0, 0]) = run u (0 :: [0, 0, 0, 0, 0]) ^^^ (p * 33554432) := fun p hp => by
    simp only [run, List.foldl_cons, List.foldl_nil]
    rw [h0 p, fd_low _ p (by omega), fd_low _ (p * 32) (by omega), fd_low _ (p * 32 * 32) (by omega), fd_low _ (p * 32 * 32 * 32) (by omega), fd_low _ (p * 32 * 32 * 32 * 32) (by omega)]
    congr 1
    omega
  have hz := run_lt (0 :: [0, 0, 0, 0, 0]) u h (by simp)
  have h6 : ∀ p, p < 32 → run u (p :: [0, 0, 0, 0, 0, 0]) = (run u (0 :: [0, 0, 0, 0, 0])) % 33554432 * 32 ^^^ gtab ((run u (0 :: [0, 0, 0, 0, 0])) / 33554432 ^^^ p) := fun p hp => by
    have e : run u (p :: [0, 0, 0, 0, 0, 0]) = fd (run u (p :: [0, 0, 0, 0, 0])) 0 := by simp [run]
    rw [e, h5 p hp]
    unfold fd
    rw [xor_mod25, xor_div25, Nat.mul_mod_left, Nat.xor_zero, Nat.mul_div_cancel _ (by decide), Nat.xor_zero]
  rw [h6 a ha, h6 b hb]
  generalize run u (0 :: [0, 0, 0, 0, 0]) = z at hz
  have ht : z / 33554432 < 32 := by omega
  generalize z / 33554432 = t at ht
  generalize z % 33554432 * 32 = y
  have e : y ^^^ gtab (t ^^^ a) ^^^ (y ^^^ gtab (t ^^^ b)) = gtab (t ^^^ a) ^^^ gtab (t ^^^ b) := by
    rw [Nat.xor_comm y, Nat.xor_assoc, ← Nat.xor_assoc y y, Nat.xor_self, Nat.zero_xor]
  rw [e]
  intro h
  have e2 : a ^^^ b = (t ^^^ a) ^^^ (t ^^^ b) := by
    rw [Nat.xor_comm t a, Nat.xor_assoc, ← Nat.xor_assoc t t, Nat.xor_self, Nat.zero_xor]
  rw [e2] at h
  exact hn (xor_cancelL (((gtab_all (t ^^^ a) (Nat.xor_lt_two_pow (n := 5) ht ha)).2 (t ^^^ b) (Nat.xor_lt_two_pow (n := 5) ht hb)).2 h))

/-! ## the checksum of digits, as numbers -/
def gi (t : Nat) : Nat := [0x3b6a57b2, 0x26508e6d, 0x1ea119fa, 0x3d4233dd, 0x2a1462b3].getD t 0
theorem gi_lt : ∀ t, t < 5 → gi t < 1073741824 ∧ vg gens (t : Int) = ((gi t : Nat) : Int) := by decide +kernel
theorem mix1_n (c0 c t : Nat) (ht : t < 5) (hc0 : c0 < 1073741824) (hc : c < 1073741824) : mix1 (c0 : Int) (c : Int) (t : Int) = ((if c0 / 33554432 / 2 ^ t % 2 = 1 then c ^^^ gi t else c : Nat) : Int) := by
  unfold mix1
  have h1 : ishr .u32 (c0 : Int) 25 = ((c0 / 33554432 : Nat) : Int) := ishr_n .u32 c0 25 (by decide)
  have h2 : ishr .u32 ((c0 / 33554432 : Nat) : Int) (t : Int) = ((c0 / 33554432 / 2 ^ t : Nat) : Int) := ishr_n .u32 _ t (by show t ≤ 32; omega)
  have hle : c0 / 33554432 / 2 ^ t ≤ c0 / 33554432 := Nat.div_le_self _ _
  have h3 : iand .u32 ((c0 / 33554432 / 2 ^ t : Nat) : Int) 1 = ((c0 / 33554432 / 2 ^ t % 2 : Nat) : Int) := by
    have := iand_u .u32 rfl (c0 / 33554432 / 2 ^ t) 1 (by show _ < 4294967296; omega) (by decide)
    rw [Nat.and_one_is_mod] at this
    exact this
  rw [h1, h2, h3]
  have hb := Nat.mod_lt (c0 / 33554432 / 2 ^ t) (show 0 < 2 by decide)
  by_cases h : c0 / 33554432 / 2 ^ t % 2 = 1
  · rw [h, if_pos (by decide), if_pos rfl, (gi_lt t ht).2]
    exact ixor_u .u32 rfl c (gi t) (by show _ < 4294967296; omega) (by have := (gi_lt t ht).1; show _ < 4294967296; omega)
  · have h0 : c0 / 33554432 / 2 ^ t % 2 = 0 := by omega
    rw [h0, if_neg (by decide), if_neg (by decide)]
theorem mix1_lt (c0 c t : Nat) (ht : t < 5) (hc : c < 1073741824) : (if c0 / 33554432 / 2 ^ t % 2 = 1 then c ^^^ gi t else c : Nat) < 1073741824 := by
  split
  · exact Nat.xor_lt_two_pow (n := 30) hc (gi_lt t ht).1
  · exact hc
theorem mix_n (c0 c : Nat) (hc0 : c0 < 1073741824) (hc : c < 1073741824) : mix (c0 : Int) (c : Int) = ((c ^^^ gtab (c0 / 33554432) : Nat) : Int) := by
  unfold mix
  have e0 := mix1_n c0 c 0 (by decide) hc0 hc
  have b0 := mix1_lt c0 c 0 (by decide) hc
  generalize hx0 : (if c0 / 33554432 / 2 ^ 0 % 2 = 1 then c ^^^ gi 0 else c : Nat) = x0 at e0 b0
  have e1 := mix1_n c0 x0 1 (by decide) hc0 b0
  have b1 := mix1_lt c0 x0 1 (by decide) b0
  generalize hx1 : (if c0 / 33554432 / 2 ^ 1 % 2 = 1 then x0 ^^^ gi 1 else x0 : Nat) = x1 at e1 b1
  have e2 := mix1_n c0 x1 2 (by decide) hc0 b1
  have b2 := mix1_lt c0 x1 2 (by decide) b1
  generalize hx2 : (if c0 / 33554432 / 2 ^ 2 % 2 = 1 then x1 ^^^ gi 2 else x1 : Nat) = x2 at e2 b2
  have e3 := mix1_n c0 x2 3 (by decide) hc0 b2
  have b3 := mix1_lt c0 x2 3 (by decide) b2
  generalize hx3 : (if c0 / 33554432 / 2 ^ 3 % 2 = 1 then x2 ^^^ gi 3 else x2 : Nat) = x3 at e3 b3
  have e4 := mix1_n c0 x3 4 (by decide) hc0 b3
  have e0' : mix1 (c0 : Int) (c : Int) 0 = (x0 : Int) := e0
  have e1' : mix1 (c0 : Int) (x0 : Int) 1 = (x1 : Int) := e1
  have e2' : mix1 (c0 : Int) (x1 : Int) 2 = (x2 : Int) := e2
  have e3' : mix1 (c0 : Int) (x2 : Int) 3 = (x3 : Int) := e3
  have e4' : mix1 (c0 : Int) (x3 : Int) 4 = _ := e4
  rw [e0', e1', e2', e3', e4']
  congr 1
  subst hx3; subst hx2; subst hx1; subst hx0
  unfold gtab
  simp only [Nat.pow_zero, Nat.div_one, show gi 0 = 0x3b6a57b2 from rfl, show gi 1 = 0x26508e6d from rfl, show gi 2 = 0x1ea119fa from rfl, show gi 3 = 0x3d4233dd from rfl, show gi 4 = 0x2a1462b3 from rfl, show (2 : Nat) ^ 1 = 2 from rfl, show (2 : Nat) ^ 2 = 4 from rfl, show (2 : Nat) ^ 3 = 8 from rfl, show (2 : Nat) ^ 4 = 16 from rfl]
  generalize c0 / 33554432 = t
  by_cases h0 : t % 2 = 1 <;> by_cases h1 : t / 2 % 2 = 1 <;> by_cases h2 : t / 4 % 2 = 1 <;> by_cases h3 : t / 8 % 2 = 1 <;> by_cases h4 : t / 16 % 2 = 1 <;> simp only [h0, h1, h2, h3, h4, if_true, if_false, Nat.xor_zero, Nat.zero_xor, Nat.xor_assoc]
theorem feed_n (c x : Nat) (hc : c < 1073741824) (hx : x < 32) : feed (c : Int) (x : Int) = ((fd c x : Nat) : Int) := by
  unfold feed fd
  have h1 : iand .u32 (c : Int) 33554431 = ((c % 33554432 : Nat) : Int) := by
    have := iand_u .u32 rfl c 33554431 (by show _ < 4294967296; omega) (by decide)
    rw [show (33554431 : Nat) = 2 ^ 25 - 1 from rfl, Nat.and_two_pow_sub_one_eq_mod] at this
    exact this
  have h2 : ishl .u32 ((c % 33554432 : Nat) : Int) 5 = ((c % 33554432 * 32 : Nat) : Int) := ishl_u .u32 rfl _ 5 (by decide) (by show c % 33554432 * 32 < 4294967296; omega)
  have h3 : IntKind.u32.wrap (x : Int) = (x : Int) := wrapu .u32 rfl x (by show x < 4294967296; omega)
  rw [h1, h2, h3, ixor_u .u32 rfl _ _ (by show c % 33554432 * 32 < 4294967296; omega) (by show x < 4294967296; omega)]
  exact mix_n c _ hc (Nat.xor_lt_two_pow (n := 30) (by omega) (by omega))
theorem rem_n : ∀ (l : List Nat) (c : Nat), c < 1073741824 → (∀ x ∈ l, x < 32) → (ints l).foldl feed (c : Int) = ((run c l : Nat) : Int)
  | [], c, _, _ => rfl
  | x :: l, c, hc, h => by
    have hx := h x (by simp)
    show (ints l).foldl feed (feed (c : Int) (x : Int)) = _
    rw [feed_n c x hc hx, rem_n l (fd c x) (fd_lt c x hc (by omega)) (fun y hy => h y (by simp [hy]))]
    rfl
def fedN (s : ByteArray) (d : List Nat) : List Nat := s.data.toList.map (fun b => b.toNat / 32) ++ [0] ++ s.data.toList.map (fun b => b.toNat % 32) ++ d.map (· % 32)
theorem fedN_lt (s : ByteArray) (d : List Nat) : ∀ x ∈ fedN s d, x < 32 := by
  intro x hx
  simp only [fedN, List.mem_append, List.mem_map, List.mem_cons, List.not_mem_nil, or_false] at hx
  rcases hx with ((⟨b, _, rfl⟩ | rfl) | ⟨b, _, rfl⟩) | ⟨b, _, rfl⟩
  · have := b.toNat_lt; omega
  · decide
  · exact Nat.mod_lt _ (by decide)
  · exact Nat.mod_lt _ (by decide)
theorem fed_n (s : ByteArray) (d : List Nat) (hd : ∀ x ∈ d, x < 256) : fed s (ints d) = ints (fedN s d) := by
  unfold fed fedN
  simp only [ints_append]
  have e31 : ∀ n : Nat, n < 256 → iand .u8 (n : Int) 31 = ((n % 32 : Nat) : Int) := fun n hn => by
    have := iand_u .u8 rfl n 31 (by show n < 256; omega) (by decide)
    rw [show (31 : Nat) = 2 ^ 5 - 1 from rfl, Nat.and_two_pow_sub_one_eq_mod] at this
    exact this
  congr 1
  · congr 1
    · congr 1
      simp only [bytesOf, ints, List.map_map]
      apply List.map_congr_left
      intro b _
      exact ishr_n .u8 b.toNat 5 (by decide)
    · simp only [bytesOf, ints, List.map_map]
      apply List.map_congr_left
      intro b _
      exact e31 b.toNat b.toNat_lt
  · simp only [ints, List.map_map]
    apply List.map_congr_left
    intro x hx
    exact e31 x (hd x hx)
def sixN (r : Nat) : List Nat := [(r ^^^ 1) / 33554432 % 32, (r ^^^ 1) / 1048576 % 32, (r ^^^ 1) / 32768 % 32, (r ^^^ 1) / 1024 % 32, (r ^^^ 1) / 32 % 32, (r ^^^ 1) / 1 % 32]
theorem putq_n (r : Nat) (hr : r < 1073741824) (v : Vector Int 6) (t : Nat) (ht : t < 6) : putq (r : Int) v (t : Int) = v.setIfInBounds t ((((r ^^^ 1) / 2 ^ (25 - 5 * t) % 32 : Nat) : Int)) := by
  unfold putq vs
  have hx : r ^^^ 1 < 1073741824 := Nat.xor_lt_two_pow (n := 30) hr (by decide)
  have h1 : ixor .u32 (r : Int) 1 = ((r ^^^ 1 : Nat) : Int) := ixor_u .u32 rfl r 1 (by show r < 4294967296; omega) (by decide)
  rw [h1, show ((25 : Int) - 5 * (t : Int)) = ((25 - 5 * t : Nat) : Int) by omega, ishr_n .u32 _ _ (by show 25 - 5 * t ≤ 32; omega)]
  have hle : (r ^^^ 1) / 2 ^ (25 - 5 * t) ≤ r ^^^ 1 := Nat.div_le_self _ _
  have h2 : iand .u32 (((r ^^^ 1) / 2 ^ (25 - 5 * t) : Nat) : Int) 31 = (((r ^^^ 1) / 2 ^ (25 - 5 * t) % 32 : Nat) : Int) := by
    have := iand_u .u32 rfl ((r ^^^ 1) / 2 ^ (25 - 5 * t)) 31 (by show _ < 4294967296; omega) (by decide)
    rw [show (31 : Nat) = 2 ^ 5 - 1 from rfl, Nat.and_two_pow_sub_one_eq_mod] at this
    exact this
  rw [h2, wr8 (by omega) (by omega), Int.toNat_natCast]
theorem six_n (r : Nat) (hr : r < 1073741824) : (six (r : Int)).toList = ints (sixN r) := by
  unfold six
  have h0 : ∀ v, putq (r : Int) v 0 = _ := fun v => putq_n r hr v 0 (by decide)
  have h1 : ∀ v, putq (r : Int) v 1 = _ := fun v => putq_n r hr v 1 (by decide)
  have h2 : ∀ v, putq (r : Int) v 2 = _ := fun v => putq_n r hr v 2 (by decide)
  have h3 : ∀ v, putq (r : Int) v 3 = _ := fun v => putq_n r hr v 3 (by decide)
  have h4 : ∀ v, putq (r : Int) v 4 = _ := fun v => putq_n r hr v 4 (by decide)
  have h5 : ∀ v, putq (r : Int) v 5 = _ := fun v => putq_n r hr v 5 (by decide)
  rw [h0, h1, h2, h3, h4, h5]
  rfl
def remN (s : ByteArray) (d : List Nat) : Nat := run 1 (fedN s d ++ [0, 0, 0, 0, 0, 0])
theorem remN_lt (s : ByteArray) (d : List Nat) : remN s d < 1073741824 := run_lt _ 1 (by decide) (fun x hx => by
  rcases List.mem_append.1 hx with h | h
  · exact fedN_lt s d x h
  · have : x = 0 := by simpa using h
    omega)
def sumN (s : ByteArray) (d : List Nat) : List Nat := sixN (remN s d)
theorem sixN_lt (r : Nat) : ∀ x ∈ sixN r, x < 32 := by
  intro x hx
  simp only [sixN, List.mem_cons, List.not_mem_nil, or_false] at hx
  rcases hx with h | h | h | h | h | h <;> rw [h] <;> exact Nat.mod_lt _ (by decide)
theorem sum_n (s : ByteArray) (d : List Nat) (hd : ∀ x ∈ d, x < 256) : (sum27 s (ints d)).toList = ints (sumN s d) := by
  unfold sum27 rem27 sumN
  rw [fed_n s d hd]
  have e : ints (fedN s d) ++ [0, 0, 0, 0, 0, 0] = ints (fedN s d ++ [0, 0, 0, 0, 0, 0]) := by rw [ints_append]; rfl
  rw [e]
  have h := rem_n (fedN s d ++ [0, 0, 0, 0, 0, 0]) 1 (by decide) (fun x hx => by
    rcases List.mem_append.1 hx with h | h
    · exact fedN_lt s d x h
    · have : x = 0 := by simpa using h
      omega)
  have h' : List.foldl feed 1 (ints (fedN s d ++ [0, 0, 0, 0, 0, 0])) = ((remN s d : Nat) : Int) := h
  rw [h']
  exact six_n _ (remN_lt s d)

def pad5 (b : List Nat) : List Nat := groups 5 (b.flatMap (nb 8) ++ List.replicate ((5 - (8 * b.length) % 5) % 5) false)
theorem pad5_lt (b : List Nat) : ∀ x ∈ pad5 b, x < 256 := by
  intro x hx
  obtain ⟨i, hi, rfl⟩ := List.mem_iff_getElem.1 hx
  unfold pad5 groups at *
  rw [length_chunks] at hi
  have h := chunks_get 5 _ (b.flatMap (nb 8) ++ List.replicate ((5 - (8 * b.length) % 5) % 5) false) i hi
  obtain ⟨h1, h2⟩ := List.getElem?_eq_some_iff.1 h
  rw [h2]
  have h3 := val_bound (h := ((b.flatMap (nb 8) ++ List.replicate ((5 - (8 * b.length) % 5) % 5) false).drop (5 * i)).take 5) (n := 5) (by rw [List.length_take]; omega)
  omega
theorem pad5_len (b : List Nat) : (pad5 b).length ≤ 8 * b.length + 5 := by
  unfold pad5 groups
  rw [length_chunks, List.length_append, length_flat, List.length_replicate]
  have h1 := Nat.mod_lt (5 - (8 * b.length) % 5) (show 0 < 5 by decide)
  have h2 := Nat.div_le_self (8 * b.length + (5 - (8 * b.length) % 5) % 5) 5
  omega

/-! ## texts as lists of numbers -/
theorem ofBytes_append (a b : List Int) : ofBytes (a ++ b) = ofBytes a ++ ofBytes b := by
  apply ByteArray.ext
  simp [ofBytes]
theorem ofBytes_bytesOf (s : ByteArray) : ofBytes (bytesOf s) = s := by
  apply ByteArray.ext
  apply Array.ext'
  simp only [ofBytes, bytesOf, List.map_map]
  conv => rhs; rw [← List.map_id s.data.toList]
  apply List.map_congr_left
  intro b _
  simp
theorem bytesOf_ofBytes (l : List Int) (h : ∀ x ∈ l, 0 ≤ x ∧ x < 256) : bytesOf (ofBytes l) = l := by
  simp only [ofBytes, bytesOf, List.map_map]
  conv => rhs; rw [← List.map_id l]
  apply List.map_congr_left
  intro x hx
  have := h x hx
  simp only [Function.comp, id]
  rw [UInt8.toNat_ofNat', Nat.mod_eq_of_lt (by show x.toNat < 256; omega)]
  omega
theorem bytesOf_append (a b : ByteArray) : bytesOf (a ++ b) = bytesOf a ++ bytesOf b := by simp [bytesOf]
theorem bytesOf_lt (s : ByteArray) : ∀ x ∈ bytesOf s, 0 ≤ x ∧ x < 256 := by
  intro x hx
  simp only [bytesOf, List.mem_map] at hx
  obtain ⟨b, _, rfl⟩ := hx
  have := b.toNat_lt
  omega
theorem bytesOf_inj {a b : ByteArray} (h : bytesOf a = bytesOf b) : a = b := by rw [← ofBytes_bytesOf a, h, ofBytes_bytesOf]
theorem size_of {s : ByteArray} {l : List Int} (h : bytesOf s = l) : s.size = l.length := by rw [← h, length_bytesOf]
theorem bytesOf_extract (s : ByteArray) (i j : Nat) : bytesOf (s.extract i j) = ((bytesOf s).take j).drop i := by
  simp only [bytesOf, ByteArray.data_extract, Array.toList_extract, List.map_drop, List.map_take]
  rw [List.drop_take]
def alpha : ByteArray := ⟨#[113, 112, 122, 114, 121, 57, 120, 56, 103, 102, 50, 116, 118, 100, 119, 48, 115, 51, 106, 110, 53, 52, 107, 104, 99, 101, 54, 109, 117, 97, 55, 108]⟩
def letter (x : Nat) : Int := sg alpha (x : Int)
def one : ByteArray := ⟨#[49]⟩
theorem letter_all : ∀ x, x < 32 → (0 ≤ letter x ∧ letter x < 256) ∧ bytesOf (alpha.extract x (x + 1)) = [letter x] ∧ (alpha.extract x (x + 1)).size = 1 ∧ ((97 ≤ letter x ∧ letter x ≤ 122) ∨ (48 ≤ letter x ∧ letter x ≤ 57)) := by decide +kernel
/-- an address: the prefix, a 1, the digits -/
def addr (p : ByteArray) (e : List Nat) : List Int := bytesOf p ++ [49] ++ e.map letter
theorem addr_lt (p : ByteArray) (e : List Nat) (he : ∀ x ∈ e, x < 32) : ∀ x ∈ addr p e, 0 ≤ x ∧ x < 256 := by
  intro x hx
  simp only [addr, List.mem_append, List.mem_map, List.mem_cons, List.not_mem_nil, or_false] at hx
  rcases hx with (hx | rfl) | ⟨y, hy, rfl⟩
  · exact bytesOf_lt p x hx
  · decide
  · exact (letter_all y (he y hy)).1
theorem addr_len (p : ByteArray) (e : List Nat) : (addr p e).length = p.size + 1 + e.length := by simp [addr, length_bytesOf]; omega
theorem pre_one (p : ByteArray) : bytesOf (p ++ one) = bytesOf p ++ [49] := by rw [bytesOf_append]; rfl
theorem size_one (p : ByteArray) : (p ++ one).size = p.size + 1 := by rw [size_of (pre_one p)]; simp [length_bytesOf]

theorem pre_l (s : ByteArray) : ∀ (k : Nat) (t : Int), address_Prefix.l0 s k t = ref27_Prefix.l0 s k t
  | 0, _ => rfl
  | k + 1, t => by
    rw [address_Prefix.l0, ref27_Prefix.l0]
    simp only [pre_l s k]
theorem pre_some (s : ByteArray) (hs : s.size ≤ 4611686018427387904) : ∀ (m : Nat) (t : Int), 0 ≤ t → t ≤ (s.size : Int) → (s.size : Int) - t ≤ m → Ev fun k => ∃ r, ref27_Prefix.l0 s k t = some r ∧ (∀ b, r = .ret b → b = false)
  | 0, t, h0, h1, h2 => Ev.succ (Ev.all fun k => ⟨.go (), by rw [ref27_Prefix.l0, if_neg (by simp; omega)], by simp⟩)
  | m + 1, t, h0, h1, h2 => by
    by_cases hlt : t < (s.size : Int)
    · refine Ev.succ ((pre_some s hs m (t + 1) (by omega) (by omega) (by omega)).mono fun k ⟨r, hr, hb⟩ => ?_)
      rw [ref27_Prefix.l0, if_pos (by simpa using hlt), if_pos ⟨h0, hlt⟩, wr (by omega) (by omega)]
      by_cases ha : sg s t < 97
      · exact ⟨.ret false, by simp [ha], by simp⟩
      · by_cases hz : sg s t > 122
        · refine ⟨.ret false, ?_, by simp⟩
          rw [if_neg (by simpa using ha), if_pos ⟨h0, hlt⟩]
          simp [hz]
        · refine ⟨r, ?_, hb⟩
          rw [if_neg (by simpa using ha), if_pos ⟨h0, hlt⟩]
          simp [hz, hr]
    · exact Ev.succ (Ev.all fun k => ⟨.go (), by rw [ref27_Prefix.l0, if_neg (by simpa using hlt)], by simp⟩)
theorem prefix_ok (s : ByteArray) (hs : s.size ≤ 4611686018427387904) : Ev fun k => ∃ b, address_Prefix.f k s = some b ∧ ref27_Prefix.f k s = some b :=
  (pre_some s hs s.size 0 (by omega) (by omega) (by omega)).mono fun k ⟨r, hr, _⟩ => by
    unfold address_Prefix.f ref27_Prefix.f
    rw [pre_l, hr]
    cases r with
    | ret b => exact ⟨b, rfl, rfl⟩
    | go u =>
      refine ⟨if ((s.size : Nat) : Int) ≥ 1 then decide (((s.size : Nat) : Int) ≤ 10) else false, ?_, ?_⟩ <;>
      · by_cases h : ((s.size : Nat) : Int) ≥ 1
        · simp [h]
        · simp [h]

theorem sane27 (k : Nat) : law27_sane.f (k + 40) = some true := by rfl
def five : List ByteArray := [⟨#[108, 99]⟩, ⟨#[97]⟩, ⟨#[97, 98, 99, 100, 101, 102, 103, 104, 105, 106]⟩, ⟨#[122]⟩, ⟨#[116, 108, 99]⟩]
theorem five_size : ∀ p ∈ five, p.size ≤ 10 ∧ 0 < p.size := by
  intro p hp
  simp only [five, List.mem_cons, List.not_mem_nil, or_false] at hp
  rcases hp with rfl | rfl | rfl | rfl | rfl <;> exact ⟨by decide, by decide⟩
theorem prefix5 (n : Int) : ∃ p ∈ five, ∀ k, law27_prefix.f k n = some p := by
  have h0 := Int.emod_nonneg n (show (5 : Int) ≠ 0 by decide)
  have h1 := Int.emod_lt_of_pos n (show (0 : Int) < 5 by decide)
  have hl : (n % 5).toNat < five.length := by simp [five]; omega
  refine ⟨five[(n % 5).toNat], List.getElem_mem hl, fun k => ?_⟩
  unfold law27_prefix.f
  rw [mod_ok k n 5 (by decide) (by decide), Option.bind_some, if_pos ⟨h0, by omega⟩]
  have e : ∀ (x : Nat) (hx : x < five.length), five.getD x ByteArray.empty = five[x] := fun x hx => by
    rw [List.getD_eq_getElem?_getD, List.getElem?_eq_getElem hx]; rfl
  exact congrArg some (e _ hl)

/-! ## addresses -/
theorem concat_ok (k : Nat) (a b : List Int) (ha : a.length ≤ 1000000) (hb : b.length ≤ 1000000) : slices_Concat_byte.f k a b = some (a ++ b) := by
  unfold slices_Concat_byte.f
  have e1 : IntKind.i64.wrap (0 + ((a.length : Nat) : Int)) = ((a.length : Nat) : Int) := by rw [wr (by omega) (by omega)]; omega
  have e2 : IntKind.i64.wrap (((a.length : Nat) : Int) + ((b.length : Nat) : Int)) = ((a.length + b.length : Nat) : Int) := by rw [wr (by omega) (by omega)]; omega
  have e3 : IntKind.i64.wrap (((a.length + b.length : Nat) : Int) - 0) = ((a.length + b.length : Nat) : Int) := by rw [wr (by omega) (by omega)]; omega
  rw [e1, e2, e3, if_neg (by simp), if_neg (by simp; omega)]
  have e4 : (if (decide (((a.length + b.length : Nat) : Int) > 0)) = true then (if 0 ≤ ((a.length + b.length : Nat) : Int) ∧ (0 + ((a.length + b.length : Nat) : Int).toNat) * 1 ≤ 140737488355328 then (if 0 ≤ (0 : Int) ∧ (0 : Int) ≤ (((0 + ((a.length + b.length : Nat) : Int).toNat) : Nat) : Int) then (some ((([] : List Int) ++ List.replicate ((a.length + b.length : Nat) : Int).toNat (0 : Int)).take ((0 : Int).toNat))) else none) else none) else (some ([] : List Int))) = some [] := by
    split
    · rw [if_pos (by omega), if_pos (by omega)]; simp
    · rfl
  rw [e4, Option.bind_some, if_pos (by simp; omega), if_pos (by simp; omega)]
  simp
theorem encA_l (e : List Nat) (he : ∀ x ∈ e, x < 32) (hl : e.length ≤ 100000) : ∀ (m k : Nat) (xs : List Int) (t : Nat), t + m = e.length → xs.length + m ≤ 1000000 → address_Encode.l0 (ints e) (k + m + 1) xs (t : Int) = some (xs ++ (e.drop t).map letter)
  | 0, k, xs, t, h, hx => by rw [address_Encode.l0, length_ints, if_neg (by simp; omega), List.drop_of_length_le (by omega)]; simp
  | m + 1, k, xs, t, h, hx => by
    have hlt : t < e.length := by omega
    have hg : (ints e).getD (t : Int).toNat 0 = ((e[t] : Nat) : Int) := by
      rw [Int.toNat_natCast, ints_getD, List.getD_eq_getElem?_getD, List.getElem?_eq_getElem hlt]; rfl
    have h32 := he e[t] (List.getElem_mem hlt)
    rw [show k + (m + 1) + 1 = k + m + 1 + 1 by omega, address_Encode.l0, length_ints, hg, if_pos (by simp; omega), if_pos ⟨by omega, by omega⟩, if_pos ⟨by omega, by show ((e[t] : Nat) : Int) < 32; omega⟩, if_pos (by omega), wr (by omega) (by omega), show ((t : Int) + 1) = ((t + 1 : Nat) : Int) by omega, encA_l e he hl m k _ (t + 1) (by omega) (by simp; omega), List.drop_eq_getElem_cons hlt, List.map_cons, List.append_assoc]
    rfl
theorem encR_l (r : List Nat) (v : Vector Int 6) (e : List Nat) (hv : v.toList = ints (e.drop r.length)) (hr : e.take r.length = r) (hlen : e.length = r.length + 6) (he : ∀ x ∈ e, x < 32) (hl : e.length ≤ 100000) : ∀ (m k : Nat) (s : ByteArray) (t : Nat), t + m = e.length → s.size + m ≤ 1000000 → ref27_Encode.l0 (ints r) v (k + m + 1) s (t : Int) = some (ofBytes (bytesOf s ++ (e.drop t).map letter))
  | 0, k, s, t, h, hx => by rw [ref27_Encode.l0, length_ints, if_neg (by simp; omega), List.drop_of_length_le (by omega)]; simp [ofBytes_bytesOf]
  | m + 1, k, s, t, h, hx => by
    have hlt : t < e.length := by omega
    have hcat : ints r ++ v.toList = ints e := by rw [hv, ← ints_append]; congr 1; conv => lhs; rw [← hr]
                                                  rw [List.length_take, Nat.min_eq_left (by omega), List.take_append_drop]
    have hg : (ints e).getD (t : Int).toNat 0 = ((e[t] : Nat) : Int) := by
      rw [Int.toNat_natCast, ints_getD, List.getD_eq_getElem?_getD, List.getElem?_eq_getElem hlt]; rfl
    have h32 := he e[t] (List.getElem_mem hlt)
    obtain ⟨_, hb, hs1, _⟩ := letter_all e[t] h32
    have hw : IntKind.u8.wrap (((e[t] : Nat) : Int) + 1) = ((e[t] + 1 : Nat) : Int) := by rw [wr8 (by omega) (by omega)]; omega
    have hsz : (s ++ alpha.extract e[t] (e[t] + 1)).size = s.size + 1 := by rw [size_of (bytesOf_append _ _), hb]; simp [length_bytesOf]
    have ih := encR_l r v e hv hr hlen he hl m k (s ++ alpha.extract e[t] (e[t] + 1)) (t + 1) (by omega) (by rw [hsz]; omega)
    rw [show k + (m + 1) + 1 = k + m + 1 + 1 by omega, ref27_Encode.l0, hcat, hg, hw, length_ints, Int.toNat_natCast, Int.toNat_natCast, if_pos (by simp; omega), if_pos ⟨by omega, by omega⟩, if_pos ⟨by omega, by omega⟩, if_pos ⟨by omega, by omega, by show ((e[t] + 1 : Nat) : Int) ≤ 32; omega⟩]
    have hal : (⟨#[113, 112, 122, 114, 121, 57, 120, 56, 103, 102, 50, 116, 118, 100, 119, 48, 115, 51, 106, 110, 53, 52, 107, 104, 99, 101, 54, 109, 117, 97, 55, 108]⟩ : ByteArray) = alpha := rfl
    rw [hal, hs1, if_pos (by omega), wr (by omega) (by omega), show ((t : Int) + 1) = ((t + 1 : Nat) : Int) by omega, ih, bytesOf_append, hb, List.drop_eq_getElem_cons hlt, List.map_cons, List.append_assoc]
    rfl
/-- the digits of an address -/
def digs (p : ByteArray) (b : List Nat) : List Nat := pad5 b ++ sumN p (pad5 b)
theorem pad5_lt5 (b : List Nat) : ∀ x ∈ pad5 b, x < 32 := by
  intro x hx
  obtain ⟨i, hi, rfl⟩ := List.mem_iff_getElem.1 hx
  unfold pad5 groups at *
  rw [length_chunks] at hi
  have h := chunks_get 5 _ (b.flatMap (nb 8) ++ List.replicate ((5 - (8 * b.length) % 5) % 5) false) i hi
  obtain ⟨h1, h2⟩ := List.getElem?_eq_some_iff.1 h
  rw [h2]
  exact val_bound (h := ((b.flatMap (nb 8) ++ List.replicate ((5 - (8 * b.length) % 5) % 5) false).drop (5 * i)).take 5) (n := 5) (by rw [List.length_take]; omega)
theorem sumN_len (p : ByteArray) (d : List Nat) : (sumN p d).length = 6 := rfl
theorem digs_lt (p : ByteArray) (b : List Nat) : ∀ x ∈ digs p b, x < 32 := by
  intro x hx
  rcases List.mem_append.1 hx with h | h
  · exact pad5_lt5 b x h
  · exact sixN_lt _ x h
theorem digs_len (p : ByteArray) (b : List Nat) : (digs p b).length = (pad5 b).length + 6 := by simp [digs, sumN_len]
/-- what an address is -/
def encV (p : ByteArray) (ok : Bool) (b : List Nat) : ByteArray × Int :=
  if !ok then (ByteArray.empty, 270) else if b.length > 100 then (ByteArray.empty, 4) else (ofBytes (addr p (digs p b)), 0)
theorem evlong (n : Nat) : Ev fun k => ∃ q, k = q + n + 1 := ⟨n + 1, fun k hk => ⟨k - (n + 1), by omega⟩⟩
theorem enc_ok (p : ByteArray) (hp : p.size ≤ 100) (b : List Nat) (hb : ∀ x ∈ b, x < 256) (hlen : b.length ≤ 1000) : Ev fun k => ∃ ok, address_Prefix.f k p = some ok ∧ address_Encode.f k p (ints b) = some (encV p ok b) ∧ ref27_Encode.f k p (ints b) = some (encV p ok b) := by
  have hpl := pad5_len b
  have hal : (⟨#[49]⟩ : ByteArray) = one := rfl
  have hsz : one.size = 1 := rfl
  by_cases h100 : b.length > 100
  · refine (prefix_ok p (by omega)).mono fun k ⟨ok, h1, h2⟩ => ⟨ok, h1, ?_⟩
    cases ok with
    | false => unfold address_Encode.f ref27_Encode.f; rw [h1, h2]; exact ⟨rfl, rfl⟩
    | true =>
      have ev : encV p true b = (ByteArray.empty, 4) := by unfold encV; rw [if_neg (by decide), if_pos h100]
      rw [ev]
      constructor
      · unfold address_Encode.f
        rw [h1, Option.bind_some, length_ints, if_neg (by decide), if_pos (by simp; omega)]
        rfl
      · unfold ref27_Encode.f
        rw [h2, Option.bind_some, length_ints, if_neg (by decide), if_pos (by simp; omega)]
        rfl
  · refine ((prefix_ok p (by omega)).and ((convA b hb (by omega)).and ((convR b hb (by omega)).and ((sum_ok p (ints (pad5 b)) (by omega) (by rw [length_ints]; omega)).and (evlong (digs p b).length))))).mono ?_
    rintro k ⟨⟨ok, h1, h2⟩, h3, h4, ⟨h5, h6⟩, q, rfl⟩
    refine ⟨ok, h1, ?_⟩
    cases ok with
    | false => unfold address_Encode.f ref27_Encode.f; rw [h1, h2]; exact ⟨rfl, rfl⟩
    | true =>
      have ev : encV p true b = (ofBytes (addr p (digs p b)), 0) := by unfold encV; rw [if_neg (by decide), if_neg h100]
      have h3' : address_Convert.f (q + (digs p b).length + 1) (ints b) = some (ints (pad5 b)) := h3
      have h4' : ref27_Convert.f (q + (digs p b).length + 1) (ints b) = some (ints (pad5 b)) := h4
      have hs := sum_n p (pad5 b) (pad5_lt b)
      have hcat : ints (pad5 b) ++ (sum27 p (ints (pad5 b))).toList = ints (digs p b) := by rw [hs, ← ints_append]; rfl
      have hdl := digs_len p b
      have e0 : ((0 : Nat) : Int) = 0 := rfl
      have hsl : (sum27 p (ints (pad5 b))).toList.length = 6 := by rw [hs, length_ints]; rfl
      rw [ev]
      constructor
      · unfold address_Encode.f
        have l1 := encA_l (digs p b) (digs_lt p b) (by omega) (digs p b).length q (bytesOf (p ++ one)) 0 (by omega) (by rw [length_bytesOf, size_one]; omega)
        rw [e0, List.drop_zero, pre_one] at l1
        rw [h1, Option.bind_some, length_ints, if_neg (by decide), if_neg (by simp; omega), h3', Option.bind_some, h5, Option.bind_some, hal, hsz, size_one, if_pos (by omega), if_pos (by omega), concat_ok _ _ _ (by rw [length_ints]; omega) (by omega), Option.bind_some, hcat, pre_one, l1, Option.bind_some]
        rfl
      · unfold ref27_Encode.f
        have l2 := encR_l (pad5 b) (sum27 p (ints (pad5 b))) (digs p b) (by rw [hs]; simp [digs]) (by simp [digs]) hdl (digs_lt p b) (by omega) (digs p b).length q (p ++ one) 0 (by omega) (by rw [size_one]; omega)
        rw [e0, List.drop_zero, pre_one] at l2
        rw [h2, Option.bind_some, length_ints, if_neg (by decide), if_neg (by simp; omega), h4', Option.bind_some, h6, Option.bind_some, length_ints, hal, hsz, if_pos (by omega), if_pos (by omega), l2, Option.bind_some]
        rfl
def gd (d : List Nat) (i : Nat) : Bool := (d.flatMap (nb 5)).getD i false
def backV (d : List Nat) : List Int × Int :=
  if d.any (fun x => decide (31 < x)) then ([], 5)
  else if (over 8 (d.flatMap (nb 5))).length ≥ 5 ∨ val (over 8 (d.flatMap (nb 5))) ≠ 0 then ([], 3)
  else (ints (groups 8 (d.flatMap (nb 5))), 0)
theorem chk_ok (d : List Nat) (hlen : d.length ≤ 100000) : ∀ (m F t : Nat), t + m = d.length → m + 1 ≤ F → address_Back.l0 (ints d) F (t : Int) = some (if (d.drop t).any (fun x => decide (31 < x)) then .ret ([], 5) else .go ())
  | 0, F, t, h, hF => by
    obtain ⟨F, rfl⟩ : ∃ q, F = q + 1 := ⟨F - 1, by omega⟩
    rw [address_Back.l0, length_ints, if_neg (by simp; omega), List.drop_of_length_le (by omega)]
    rfl
  | m + 1, F, t, h, hF => by
    obtain ⟨F, rfl⟩ : ∃ q, F = q + 1 := ⟨F - 1, by omega⟩
    have hlt : t < d.length := by omega
    have hget : (ints d).getD (t : Int).toNat 0 = ((d[t] : Nat) : Int) := by
      rw [Int.toNat_natCast, ints_getD, List.getD_eq_getElem?_getD, List.getElem?_eq_getElem hlt]; rfl
    rw [address_Back.l0, length_ints, if_pos (by simp; omega), if_pos ⟨by omega, by omega⟩, hget, wr (by omega) (by omega), show ((t : Int) + 1) = ((t + 1 : Nat) : Int) by omega, chk_ok d hlen m F (t + 1) (by omega) (by omega), List.drop_eq_getElem_cons hlt, List.any_cons]
    by_cases hx : 31 < d[t]
    · rw [if_pos (by simp; omega), if_pos (by simp [hx])]
    · rw [if_neg (by simp; omega)]
      simp [hx]
theorem backA (d : List Nat) (hlen : d.length ≤ 100000) : Ev fun k => address_Back.f k (ints d) = some (backV d) := by
  by_cases h : d.any (fun x => decide (31 < x))
  · refine Ev.of (d.length + 1) fun k => ?_
    have hc := chk_ok d hlen d.length (k + (d.length + 1)) 0 (by omega) (by omega)
    have e : address_Back.l0 (ints d) (k + (d.length + 1)) 0 = _ := hc
    unfold address_Back.f backV
    rw [e, Option.bind_some, List.drop_zero, if_pos h, if_pos h]
  · have hb : ∀ x ∈ d, x < 2 ^ 5 := fun x hx => by
      have h2 : ¬ 31 < x := fun hgt => h (List.any_eq_true.2 ⟨x, hx, by simpa using hgt⟩)
      omega
    refine ((regroup_ok 5 8 (by decide) (by decide) (by decide) d hb hlen).and (Ev.of (p := fun k => address_Back.l0 (ints d) k 0 = some (if (d.drop 0).any (fun x => decide (31 < x)) then .ret ([], 5) else .go ())) (d.length + 1) fun k => chk_ok d hlen d.length (k + (d.length + 1)) 0 (by omega) (by omega))).mono fun k ⟨h1, h2⟩ => ?_
    have h1' : address_regroup.f k (ints d) 5 8 = _ := h1
    unfold address_Back.f backV
    rw [h2, Option.bind_some, List.drop_zero, if_neg h, if_neg h]
    dsimp only
    rw [h1', Option.bind_some]
    dsimp only
    by_cases h5 : (over 8 (d.flatMap (nb 5))).length ≥ 5
    · rw [if_pos (by simp; omega), Option.bind_some, if_pos rfl, if_pos (.inl h5)]
    · rw [if_neg (by simp; omega), Option.bind_some]
      by_cases h0 : val (over 8 (d.flatMap (nb 5))) = 0
      · rw [if_neg (by simp [h0]), if_neg (by simp [h0]; omega)]
      · rw [if_pos (by simpa using h0), if_pos (.inr h0)]

/-! ## an address, read -/
def isS (x : Int) : Bool := if decide (x ≥ 97) = true then decide (x ≤ 122) else false
def isC (x : Int) : Bool := if decide (x ≥ 65) = true then decide (x ≤ 90) else false
def low (x : Int) : Int := if !(isS x) && isC x then x + 32 else x
theorem lower_l (s : ByteArray) (hs : s.size ≤ 100000) : ∀ (m k : Nat) (sm cp : Bool) (t : Nat), t + m = s.size →
    address_lower.l0 s (k + m + 1) sm cp (((bytesOf s).take t).map low ++ (bytesOf s).drop t) (t : Int) = some (sm || ((bytesOf s).drop t).any isS, cp || ((bytesOf s).drop t).any (fun x => !(isS x) && isC x), (bytesOf s).map low)
  | 0, k, sm, cp, t, h => by
    have hl := length_bytesOf s
    rw [address_lower.l0, if_neg (by simp; omega), List.drop_of_length_le (by omega), List.take_of_length_le (by omega)]
    simp
  | m + 1, k, sm, cp, t, h => by
    have hl := length_bytesOf s
    have hlt : t < (bytesOf s).length := by omega
    have hb := bytesOf_lt s (bytesOf s)[t] (List.getElem_mem hlt)
    have hdr := List.drop_eq_getElem_cons hlt
    have htl : (((bytesOf s).take t).map low).length = t := by rw [List.length_map, List.length_take]; omega
    have hg : (((bytesOf s).take t).map low ++ (bytesOf s).drop t).getD (t : Int).toNat 0 = (bytesOf s)[t] := by
      rw [Int.toNat_natCast, List.getD_eq_getElem?_getD, List.getElem?_append_right (by omega), htl, Nat.sub_self, hdr]; rfl
    have hnx : ∀ y, low (bytesOf s)[t] = y → (((bytesOf s).take t).map low ++ (bytesOf s).drop t).set t y = ((bytesOf s).take (t + 1)).map low ++ (bytesOf s).drop (t + 1) := fun y hy => by
      rw [List.set_append_right _ _ (by omega), htl, Nat.sub_self, hdr, List.set_cons_zero, List.take_succ_eq_append_getElem hlt, List.map_append, List.append_assoc, ← hy]
      rfl
    have hsame : low (bytesOf s)[t] = (bytesOf s)[t] → ((bytesOf s).take t).map low ++ (bytesOf s).drop t = ((bytesOf s).take (t + 1)).map low ++ (bytesOf s).drop (t + 1) := fun hy => by
      rw [List.take_succ_eq_append_getElem hlt, List.map_append, List.append_assoc, hdr, List.map_cons, hy]
      rfl
    have e1 : (t : Int) + 1 = ((t + 1 : Nat) : Int) := by omega
    rw [show k + (m + 1) + 1 = k + m + 1 + 1 by omega, address_lower.l0, if_pos (by simp; omega), if_pos ⟨by omega, by omega⟩, hg, wr (by omega) (by omega), e1]
    have hS : (if decide ((bytesOf s)[t] ≥ 97) = true then some (decide ((bytesOf s)[t] ≤ 122)) else some false) = some (isS (bytesOf s)[t]) := by unfold isS; split <;> rfl
    have hC : (if decide ((bytesOf s)[t] ≥ 65) = true then some (decide ((bytesOf s)[t] ≤ 90)) else some false) = some (isC (bytesOf s)[t]) := by unfold isC; split <;> rfl
    rw [hS, Option.bind_some, hC]
    rw [hdr, List.any_cons, List.any_cons]
    cases h1 : isS (bytesOf s)[t] with
    | true =>
      rw [if_pos rfl, Option.bind_some]
      dsimp only
      rw [← hdr, hsame (by simp [low, h1]), lower_l s hs m k true cp (t + 1) (by omega)]
      simp
    | false =>
      rw [if_neg (by decide), Option.bind_some]
      cases h2 : isC (bytesOf s)[t] with
      | true =>
        have hc : 65 ≤ (bytesOf s)[t] ∧ (bytesOf s)[t] ≤ 90 := by
          unfold isC at h2
          split at h2 <;> simp_all
        have hw : IntKind.u8.wrap (IntKind.u8.wrap ((bytesOf s)[t] + 97) - 65) = (bytesOf s)[t] + 32 := by rw [wr8 (x := (bytesOf s)[t] + 97) (by omega) (by omega), wr8 (by omega) (by omega)]; omega
        rw [if_pos rfl, if_pos ⟨by omega, by omega⟩, Option.bind_some]
        dsimp only
        rw [← hdr, hw, Int.toNat_natCast, hnx _ (by simp [low, h1, h2]), lower_l s hs m k sm true (t + 1) (by omega)]
        simp
      | false =>
        rw [if_neg (by decide), Option.bind_some]
        dsimp only
        rw [← hdr, hsame (by simp [low, h1, h2]), lower_l s hs m k sm cp (t + 1) (by omega)]
        simp
theorem lower_ok (s : ByteArray) (hs : s.size ≤ 100000) : Ev fun k => address_lower.f k s = some (ofBytes ((bytesOf s).map low), (bytesOf s).any isS && (bytesOf s).any (fun x => !(isS x) && isC x)) :=
  (evlong s.size).mono fun k ⟨q, hk⟩ => by
    subst hk
    have h := lower_l s hs s.size q false false 0 (by omega)
    simp only [List.take_zero, List.map_nil, List.nil_append, List.drop_zero, Bool.false_or] at h
    have e0 : ((0 : Nat) : Int) = 0 := rfl
    rw [e0] at h
    unfold address_lower.f
    rw [if_pos (by omega), h, Option.bind_some]
    dsimp only
    cases (bytesOf s).any isS <;> rfl
theorem eq_l (a b : List Int) (hl : a.length = b.length) (ha : a.length ≤ 100000) : ∀ (m k t : Nat), t + m = a.length → slices_Equal_byte.l0 a b (k + m + 1) (t : Int) = some (if a.drop t = b.drop t then .go () else .ret false)
  | 0, k, t, h => by rw [slices_Equal_byte.l0, if_neg (by simp; omega), List.drop_of_length_le (by omega), List.drop_of_length_le (by omega)]; rfl
  | m + 1, k, t, h => by
    have h1 : t < a.length := by omega
    have h2 : t < b.length := by omega
    have g1 : a.getD (t : Int).toNat 0 = a[t] := by rw [Int.toNat_natCast, List.getD_eq_getElem?_getD, List.getElem?_eq_getElem h1]; rfl
    have g2 : b.getD (t : Int).toNat 0 = b[t] := by rw [Int.toNat_natCast, List.getD_eq_getElem?_getD, List.getElem?_eq_getElem h2]; rfl
    rw [show k + (m + 1) + 1 = k + m + 1 + 1 by omega, slices_Equal_byte.l0, if_pos (by simp; omega), if_pos ⟨by omega, by omega⟩, if_pos ⟨by omega, by omega⟩, g1, g2, List.drop_eq_getElem_cons h1, List.drop_eq_getElem_cons h2]
    by_cases he : a[t] = b[t]
    · rw [if_neg (by simp [he]), wr (by omega) (by omega), show ((t : Int) + 1) = ((t + 1 : Nat) : Int) by omega, eq_l a b hl ha m k (t + 1) (by omega)]
      by_cases hd : a.drop (t + 1) = b.drop (t + 1)
      · rw [if_pos hd, if_pos (by rw [he, hd])]
      · rw [if_neg hd, if_neg (fun h => hd (List.cons.inj h).2)]
    · rw [if_pos (by simp [he]), if_neg (fun h => he (List.cons.inj h).1)]
theorem eq_ok (a b : List Int) (ha : a.length ≤ 100000) : Ev fun k => slices_Equal_byte.f k a b = some (decide (a = b)) :=
  (evlong a.length).mono fun k ⟨q, hk⟩ => by
    subst hk
    unfold slices_Equal_byte.f
    by_cases hl : a.length = b.length
    · have h := eq_l a b hl ha a.length q 0 (by omega)
      have e0 : ((0 : Nat) : Int) = 0 := rfl
      rw [e0, List.drop_zero, List.drop_zero] at h
      rw [if_neg (by simp [hl]), h, Option.bind_some]
      by_cases he : a = b
      · rw [if_pos he]; simp [he]
      · rw [if_neg he]; simp [he]
    · rw [if_pos (by simp; omega)]
      have : a ≠ b := fun h => hl (by rw [h])
      simp [this]
theorem letter_ix : ∀ x, x < 32 → Lib.indexByte alpha.data.toList (letter x).toNat.toUInt8 = (x : Int) := by decide +kernel
theorem dec_l (r : ByteArray) (e : List Nat) (hr : bytesOf r = e.map letter) (he : ∀ x ∈ e, x < 32) (hl : e.length ≤ 100000) : ∀ (m k t : Nat), t + m = e.length →
    address_Decode.l0 (r, true) (k + m + 1) (ints (e.take t) ++ List.replicate m 0) (t : Int) = some (.go (ints e))
  | 0, k, t, h => by
    have hsz : r.size = e.length := by rw [size_of hr]; simp
    rw [address_Decode.l0, if_neg (by simp; omega), List.take_of_length_le (by omega)]
    simp
  | m + 1, k, t, h => by
    have hsz : r.size = e.length := by rw [size_of hr]; simp
    have hlt : t < e.length := by omega
    have h32 := he e[t] (List.getElem_mem hlt)
    have hsg : sg r (t : Int) = letter e[t] := by
      have h1 : (bytesOf r)[t]? = some (letter e[t]) := by rw [hr, List.getElem?_map, List.getElem?_eq_getElem hlt]; rfl
      unfold bytesOf at h1
      rw [List.getElem?_map] at h1
      unfold sg
      rw [Int.toNat_natCast, List.getD_eq_getElem?_getD]
      cases h2 : r.data.toList[t]? with
      | none => rw [h2] at h1; cases h1
      | some b => rw [h2] at h1; exact Option.some.inj h1
    have hix : strings_IndexByte.f (k + m + 1) alpha (letter e[t]) = some (e[t] : Int) := by
      unfold strings_IndexByte.f stringslite_IndexByte.f
      rw [Option.bind_some, letter_ix e[t] h32]
    have hal : (⟨#[113, 112, 122, 114, 121, 57, 120, 56, 103, 102, 50, 116, 118, 100, 119, 48, 115, 51, 106, 110, 53, 52, 107, 104, 99, 101, 54, 109, 117, 97, 55, 108]⟩ : ByteArray) = alpha := rfl
    have hset : (ints (e.take t) ++ List.replicate (m + 1) 0).set t ((e[t] : Nat) : Int) = ints (e.take (t + 1)) ++ List.replicate m 0 := by
      have htl : (ints (e.take t)).length = t := by rw [length_ints, List.length_take]; omega
      rw [List.set_append_right _ _ (by omega), htl, Nat.sub_self, List.replicate_succ, List.set_cons_zero, List.take_succ_eq_append_getElem hlt, ints_append, List.append_assoc]
      rfl
    rw [show k + (m + 1) + 1 = k + m + 1 + 1 by omega, address_Decode.l0]
    dsimp only
    rw [hal, hsg, hix, Int.toNat_natCast, if_pos (by simp; omega), if_pos ⟨by omega, by omega⟩, Option.bind_some, if_neg (by simp), if_pos ⟨by omega, by omega⟩, wr8 (by omega) (by omega), wr (by omega) (by omega), Int.toNat_natCast, hset, show ((t : Int) + 1) = ((t + 1 : Nat) : Int) by omega, dec_l r e hr he hl m k (t + 1) (by omega)]
/-- what an address is read as -/
def decV (p : ByteArray) (e : List Nat) : List Int × Int := if sumN p (e.take (e.length - 6)) = e.drop (e.length - 6) then backV (e.take (e.length - 6)) else ([], 241)
theorem ints_inj : ∀ {a b : List Nat}, ints a = ints b → a = b
  | [], [], _ => rfl
  | [], _ :: _, h => by cases h
  | _ :: _, [], h => by cases h
  | x :: a, y :: b, h => by
    have h1 := List.cons.inj h
    rw [ints_inj h1.2, Int.ofNat.inj h1.1]
theorem dec_ok (p : ByteArray) (hp : Ev fun k => address_Prefix.f k p = some true) (hps : p.size ≤ 10) (e : List Nat) (he : ∀ x ∈ e, x < 32) (h6 : 6 ≤ e.length) (hlen : e.length ≤ 166) (l : List Int) (hl : ∀ x ∈ l, 0 ≤ x ∧ x < 256) (hlow : l.map low = addr p e) (hmix : (l.any isS && l.any (fun x => !(isS x) && isC x)) = false) :
    Ev fun k => address_Decode.f k p (ofBytes l) = some (decV p e) := by
  have hb := bytesOf_ofBytes l hl
  have hll : l.length = p.size + 1 + e.length := by have := congrArg List.length hlow; rwa [List.length_map, addr_len] at this
  have hsz : (ofBytes l).size = p.size + 1 + e.length := by rw [size_of hb, hll]
  have htk : ∀ x ∈ e.take (e.length - 6), x < 256 := fun x hx => by have := he x (List.mem_of_mem_take hx); omega
  have hsl : (e.take (e.length - 6)).length = e.length - 6 := by rw [List.length_take]; omega
  have hb2 := bytesOf_ofBytes (addr p e) (addr_lt p e he)
  have hsz2 : (ofBytes (addr p e)).size = p.size + 1 + e.length := by rw [size_of hb2, addr_len]
  refine (hp.and ((lower_ok (ofBytes l) (by omega)).and ((sum_ok p (ints (e.take (e.length - 6))) (by omega) (by rw [length_ints, hsl]; omega)).and ((eq_ok (ints (sumN p (e.take (e.length - 6)))) (ints (e.drop (e.length - 6))) (by rw [length_ints, sumN_len]; decide)).and ((backA (e.take (e.length - 6)) (by omega)).and (evlong e.length)))))).mono ?_
  rintro k ⟨h1, h2, ⟨h3, _⟩, h4, h5, q, rfl⟩
  rw [hb, hlow, hmix] at h2
  have hone : (⟨#[49]⟩ : ByteArray) = one := rfl
  have h1sz : one.size = 1 := rfl
  have hpz := size_one p
  have hcutp : (ofBytes (addr p e)).extract 0 (p.size + 1) = p ++ one := bytesOf_inj (by
    rw [bytesOf_extract, hb2, pre_one]
    have hq : (bytesOf p ++ [49] : List Int).length = p.size + 1 := by simp [length_bytesOf]
    unfold addr
    rw [List.drop_zero, List.take_left' hq])
  have hrest : bytesOf ((ofBytes (addr p e)).extract (p.size + 1) (p.size + 1 + e.length)) = e.map letter := by
    rw [bytesOf_extract, hb2, List.take_of_length_le (by rw [addr_len]; omega)]
    have hq : (bytesOf p ++ [49] : List Int).length = p.size + 1 := by simp [length_bytesOf]
    unfold addr
    rw [List.drop_left' hq]
  generalize hr : (ofBytes (addr p e)).extract (p.size + 1) (p.size + 1 + e.length) = r at hrest
  have hrs : r.size = e.length := by rw [size_of hrest]; simp
  have hcut : strings_CutPrefix.f (q + e.length + 1) (ofBytes (addr p e)) (p ++ one) = some (r, true) := by
    unfold strings_CutPrefix.f stringslite_CutPrefix.f stringslite_HasPrefix.f
    rw [hsz2, hpz, if_pos (by simp; omega), if_pos ⟨by omega, by omega⟩, Int.toNat_natCast, hcutp, Option.bind_some, Option.bind_some, beq_self_eq_true, if_neg (by decide), if_pos ⟨by omega, by omega⟩, hr]
    rfl
  have hdl := dec_l r e hrest he (by omega) e.length q 0 (by omega)
  have e0 : ((0 : Nat) : Int) = 0 := rfl
  rw [e0, List.take_zero] at hdl
  have hdl' : address_Decode.l0 (r, true) (q + e.length + 1) (List.replicate e.length (0 : Int)) 0 = some (.go (ints e)) := hdl
  have hw6 : IntKind.i64.wrap (((e.length : Nat) : Int) - 6) = ((e.length - 6 : Nat) : Int) := by rw [wr (by omega) (by omega)]; omega
  have htake : (ints e).take (e.length - 6) = ints (e.take (e.length - 6)) := by simp [ints, List.map_take]
  have hdrop : (ints e).drop (e.length - 6) = ints (e.drop (e.length - 6)) := by simp [ints, List.map_drop]
  have hsm := sum_n p (e.take (e.length - 6)) htk
  unfold address_Decode.f
  rw [h1, Option.bind_some, if_neg (by decide), hsz, wr (by omega) (by omega), if_neg (by simp; omega), h2, Option.bind_some]
  dsimp only
  rw [if_neg (by decide), hone, h1sz, if_pos (by omega), hcut, Option.bind_some]
  dsimp only
  rw [if_neg (by decide), hrs, if_neg (by simp; omega), if_pos ⟨by omega, by omega⟩, Int.toNat_natCast, hdl', Option.bind_some]
  dsimp only
  rw [hw6, if_pos ⟨by omega, by omega⟩, if_pos ⟨by omega, by omega⟩, Int.toNat_natCast, htake, hdrop, h3, Option.bind_some, hsm, h4, Option.bind_some, h5]
  unfold decV
  by_cases h : sumN p (e.take (e.length - 6)) = e.drop (e.length - 6)
  · rw [if_pos h, if_neg (by simp [h]), Option.bind_some]
  · have : ints (sumN p (e.take (e.length - 6))) ≠ ints (e.drop (e.length - 6)) := fun hh => h (ints_inj hh)
    rw [if_neg h, if_pos (by simp [this])]

theorem five_ok2 (k : Nat) : ∀ p ∈ five, address_Prefix.f (k + 20) p = some true := by
  intro p hp
  simp only [five, List.mem_cons, List.not_mem_nil, or_false] at hp
  rcases hp with rfl | rfl | rfl | rfl | rfl <;> rfl
theorem five_ev (p : ByteArray) (hp : p ∈ five) : Ev fun k => address_Prefix.f k p = some true := Ev.of 20 fun k => five_ok2 k p hp
theorem five_small : ∀ p ∈ five, ∀ x ∈ bytesOf p, 97 ≤ x ∧ x ≤ 122 := by decide +kernel
/-- the characters of an address -/
def Ch (x : Int) : Prop := (97 ≤ x ∧ x ≤ 122) ∨ (48 ≤ x ∧ x ≤ 57)
theorem addr_ch (p : ByteArray) (hp : p ∈ five) (e : List Nat) (he : ∀ x ∈ e, x < 32) : ∀ x ∈ addr p e, Ch x := by
  intro x hx
  simp only [addr, List.mem_append, List.mem_map, List.mem_cons, List.not_mem_nil, or_false] at hx
  rcases hx with (hx | rfl) | ⟨y, hy, rfl⟩
  · exact .inl (five_small p hp x hx)
  · exact .inr (by decide)
  · exact (letter_all y (he y hy)).2.2.2
theorem low_ch {x : Int} (h : Ch x) : low x = x ∧ isC x = false := by
  have : isC x = false := by unfold isC; unfold Ch at h; split <;> simp_all <;> omega
  refine ⟨?_, this⟩
  unfold low
  rw [this]
  simp
/-- an address in small letters -/
theorem dec_small (p : ByteArray) (hp : p ∈ five) (e : List Nat) (he : ∀ x ∈ e, x < 32) (h6 : 6 ≤ e.length) (hlen : e.length ≤ 166) : Ev fun k => address_Decode.f k p (ofBytes (addr p e)) = some (decV p e) := by
  have hch := addr_ch p hp e he
  refine dec_ok p (five_ev p hp) (five_size p hp).1 e he h6 hlen (addr p e) (addr_lt p e he) ?_ ?_
  · conv => rhs; rw [← List.map_id (addr p e)]
    exact List.map_congr_left fun x hx => (low_ch (hch x hx)).1
  · have : (addr p e).any (fun x => !(isS x) && isC x) = false := by
      rw [List.any_eq_false]
      intro x hx
      rw [(low_ch (hch x hx)).2]
      simp
    rw [this, Bool.and_false]

/-! ## there and back -/
theorem testBit_top (b : Bool) (n v : Nat) (hv : v < 2 ^ n) : (b.toNat * 2 ^ n + v).testBit n = b ∧ ∀ i, i < n → (b.toNat * 2 ^ n + v).testBit i = v.testBit i := by
  constructor
  · rw [Nat.mul_comm, Nat.testBit_two_pow_mul_add _ hv, if_neg (by omega), Nat.sub_self]
    cases b <;> rfl
  · intro i hi
    rw [Nat.mul_comm, Nat.testBit_two_pow_mul_add _ hv, if_pos hi]
theorem nb_congr (w x y : Nat) (h : ∀ i, i < w → x.testBit i = y.testBit i) : nb w x = nb w y := by
  unfold nb
  apply List.map_congr_left
  intro i hi
  exact h _ (by have := List.mem_range.1 hi; omega)
theorem nb_val : ∀ l : List Bool, nb l.length (val l) = l
  | [] => rfl
  | b :: l => by
    have h := testBit_top b l.length (val l) (val_lt l)
    rw [List.length_cons, nb_succ, val_cons, h.1, nb_congr _ _ _ h.2, nb_val l]
theorem flat_chunks (w : Nat) : ∀ (m : Nat) (l : List Bool), l.length = w * m → (chunks w m l).flatMap (nb w) = l
  | 0, l, h => by
    have : l = [] := List.eq_nil_of_length_eq_zero (by simpa using h)
    subst this; rfl
  | m + 1, l, h => by
    have hl : (l.take w).length = w := by rw [List.length_take, h, Nat.mul_succ]; omega
    have h1 := nb_val (l.take w)
    rw [hl] at h1
    rw [chunks, List.flatMap_cons, h1, flat_chunks w m (l.drop w) (by rw [List.length_drop, h, Nat.mul_succ]; omega), List.take_append_drop]
theorem groups_flat (w : Nat) (hw : 0 < w) : ∀ (b : List Nat), (∀ x ∈ b, x < 2 ^ w) → groups w (b.flatMap (nb w)) = b ∧ over w (b.flatMap (nb w)) = []
  | [], _ => by
    have := groups_small (w := w) (l := []) (by simpa using hw)
    exact ⟨this.1, this.2⟩
  | x :: b, h => by
    have hs := groups_step (w := w) (l := nb w x ++ b.flatMap (nb w)) hw (by rw [List.length_append, length_nb]; omega)
    have h1 : (nb w x ++ b.flatMap (nb w)).take w = nb w x := by rw [List.take_left' (length_nb w x)]
    have h2 : (nb w x ++ b.flatMap (nb w)).drop w = b.flatMap (nb w) := by rw [List.drop_left' (length_nb w x)]
    have ih := groups_flat w hw b (fun y hy => h y (by simp [hy]))
    rw [h1, h2, val_nb, Nat.mod_eq_of_lt (h x (by simp)), ih.1, ih.2] at hs
    rw [List.flatMap_cons]
    exact hs
theorem pad5_flat (b : List Nat) : (pad5 b).flatMap (nb 5) = b.flatMap (nb 8) ++ List.replicate ((5 - (8 * b.length) % 5) % 5) false := by
  unfold pad5 groups
  apply flat_chunks
  rw [List.length_append, length_flat, List.length_replicate]
  omega
theorem back_pad (b : List Nat) (hb : ∀ x ∈ b, x < 256) : backV (pad5 b) = (ints b, 0) := by
  have h1 : (pad5 b).any (fun x => decide (31 < x)) = false := by
    rw [List.any_eq_false]
    intro x hx
    have := pad5_lt5 b x hx
    simp; omega
  have hg := groups_append 8 (by decide) (List.replicate ((5 - (8 * b.length) % 5) % 5) false) _ (b.flatMap (nb 8)) (Nat.le_refl _)
  have hf := groups_flat 8 (by decide) b hb
  rw [hf.1, hf.2, List.nil_append] at hg
  have hz := groups_small (w := 8) (l := List.replicate ((5 - (8 * b.length) % 5) % 5) false) (by rw [List.length_replicate]; omega)
  rw [hz.1, hz.2, List.append_nil] at hg
  unfold backV
  rw [pad5_flat, hg.1, hg.2, h1, if_neg (by decide), if_neg (by rw [val_zeros, List.length_replicate]; omega)]
theorem decV_digs (p : ByteArray) (b : List Nat) (hb : ∀ x ∈ b, x < 256) : decV p (digs p b) = (ints b, 0) := by
  have hl : (digs p b).length - 6 = (pad5 b).length := by rw [digs_len]; omega
  unfold decV
  rw [hl]
  unfold digs
  rw [List.take_left' rfl, List.drop_left' rfl, if_pos rfl, back_pad b hb]
theorem digs_len2 (p : ByteArray) (b : List Nat) (hb : b.length ≤ 100) : (digs p b).length ≤ 166 ∧ 6 ≤ (digs p b).length := by
  rw [digs_len]
  unfold pad5 groups
  rw [length_chunks, List.length_append, length_flat, List.length_replicate]
  omega
def up (x : Int) : Int := if isS x then x - 32 else x
theorem up_ch {x : Int} (h : Ch x) : low (up x) = x ∧ isS (up x) = false ∧ (0 ≤ up x ∧ up x < 256) := by
  unfold Ch at h
  rcases h with h | h
  · have h1 : isS x = true := by unfold isS; rw [if_pos (by simp; omega)]; simp; omega
    have h2 : up x = x - 32 := by unfold up; rw [h1]; rfl
    have h3 : isS (x - 32) = false := by unfold isS; rw [if_neg (by simp; omega)]
    have h4 : isC (x - 32) = true := by unfold isC; rw [if_pos (by simp; omega)]; simp; omega
    rw [h2]
    refine ⟨?_, h3, by omega⟩
    unfold low
    rw [h3, h4]
    simp
  · have h1 : isS x = false := by unfold isS; rw [if_neg (by simp; omega)]
    have h2 : up x = x := by unfold up; rw [h1]; rfl
    have h4 : isC x = false := by unfold isC; rw [if_neg (by simp; omega)]
    rw [h2]
    refine ⟨?_, h1, by omega⟩
    unfold low
    rw [h4]
    simp
/-! ## what a changed address is read as -/
theorem letter_inj : ∀ x, x < 32 → ∀ y, y < 32 → letter x = letter y → x = y := by decide +kernel
theorem addr_get (p : ByteArray) (e : List Nat) (j : Nat) (hj : j < e.length) : (addr p e).getD (p.size + 1 + j) 0 = letter e[j] := by
  have hq : (bytesOf p ++ [49] : List Int).length = p.size + 1 := by simp [length_bytesOf]
  unfold addr
  rw [List.getD_eq_getElem?_getD, List.getElem?_append_right (by omega), hq, show p.size + 1 + j - (p.size + 1) = j by omega, List.getElem?_map, List.getElem?_eq_getElem hj]
  rfl
theorem addr_set (p : ByteArray) (e : List Nat) (j y : Nat) : (addr p e).set (p.size + 1 + j) (letter y) = addr p (e.set j y) := by
  have hq : (bytesOf p ++ [49] : List Int).length = p.size + 1 := by simp [length_bytesOf]
  unfold addr
  rw [List.set_append_right _ _ (by omega), hq, show p.size + 1 + j - (p.size + 1) = j by omega, List.map_set]
theorem six_inj {r s : Nat} (hr : r < 1073741824) (hs : s < 1073741824) (h : sixN r = sixN s) : r = s := by
  have h1 : r ^^^ 1 < 1073741824 := Nat.xor_lt_two_pow (n := 30) hr (by decide)
  have h2 : s ^^^ 1 < 1073741824 := Nat.xor_lt_two_pow (n := 30) hs (by decide)
  simp only [sixN, List.cons.injEq, and_true] at h
  obtain ⟨a0, a1, a2, a3, a4, a5⟩ := h
  exact xor_cancel (c := 1) (by omega)
def hd27 (s : ByteArray) : List Nat := s.data.toList.map (fun b => b.toNat / 32) ++ [0] ++ s.data.toList.map (fun b => b.toNat % 32)
theorem fedN_eq (s : ByteArray) (d : List Nat) (hd : ∀ x ∈ d, x < 32) : fedN s d = hd27 s ++ d := by
  unfold fedN hd27
  congr 1
  conv => rhs; rw [← List.map_id d]
  exact List.map_congr_left fun x hx => Nat.mod_eq_of_lt (hd x hx)
theorem hd27_lt (s : ByteArray) : ∀ x ∈ hd27 s, x < 32 := fun x hx => fedN_lt s [] x (by unfold fedN; exact List.mem_append.2 (.inl hx))
theorem zeros_lt : ∀ x ∈ ([0, 0, 0, 0, 0, 0] : List Nat), x < 32 := by decide
theorem app_lt {a b : List Nat} (ha : ∀ x ∈ a, x < 32) (hb : ∀ x ∈ b, x < 32) : ∀ x ∈ a ++ b, x < 32 := fun x hx => (List.mem_append.1 hx).elim (ha x) (hb x)
theorem sum_one (s : ByteArray) (l m : List Nat) (a b : Nat) (hl : ∀ x ∈ l, x < 32) (hm : ∀ x ∈ m, x < 32) (ha : a < 32) (hb : b < 32) (hn : a ≠ b) : sumN s (l ++ a :: m) ≠ sumN s (l ++ b :: m) := by
  intro h
  have h1 := six_inj (remN_lt s _) (remN_lt s _) h
  have hin : ∀ y, y < 32 → ∀ x ∈ l ++ y :: m, x < 32 := fun y hy => app_lt hl (fun x hx => by rcases List.mem_cons.1 hx with rfl | hx; exact hy; exact hm x hx)
  unfold remN at h1
  rw [fedN_eq s _ (hin a ha), fedN_eq s _ (hin b hb)] at h1
  have := run_one 1 (hd27 s ++ l) (m ++ [0, 0, 0, 0, 0, 0]) a b (by decide) (app_lt (hd27_lt s) hl) (app_lt hm zeros_lt) ha hb hn
  simp only [List.append_assoc, List.cons_append] at this h1
  exact this h1
theorem sum_two (s : ByteArray) (l m : List Nat) (a b : Nat) (hl : ∀ x ∈ l, x < 32) (hm : ∀ x ∈ m, x < 32) (ha : a < 32) (hb : b < 32) (hn : a ≠ b) : sumN s (l ++ a :: b :: m) ≠ sumN s (l ++ b :: a :: m) := by
  intro h
  have h1 := six_inj (remN_lt s _) (remN_lt s _) h
  have hin : ∀ y z, y < 32 → z < 32 → ∀ x ∈ l ++ y :: z :: m, x < 32 := fun y z hy hz => app_lt hl (fun x hx => by
    rcases List.mem_cons.1 hx with rfl | hx
    · exact hy
    · rcases List.mem_cons.1 hx with rfl | hx
      · exact hz
      · exact hm x hx)
  unfold remN at h1
  rw [fedN_eq s _ (hin a b ha hb), fedN_eq s _ (hin b a hb ha)] at h1
  have := run_two 1 (hd27 s ++ l) (m ++ [0, 0, 0, 0, 0, 0]) a b (by decide) (app_lt (hd27_lt s) hl) (app_lt hm zeros_lt) ha hb hn
  simp only [List.append_assoc, List.cons_append] at this h1
  exact this h1
theorem sum_mid (s : ByteArray) (l : List Nat) (a : Nat) (hl : ∀ x ∈ l, x < 32) (ha : a < 32) (c : Nat) (hc : (sumN s (l ++ [a]))[0]? = some c) (hn : a ≠ c) : sumN s (l ++ [c]) ≠ (sumN s (l ++ [a])).set 0 a := by
  intro h
  have hc32 : c < 32 := sixN_lt _ c (List.mem_of_getElem? hc)
  have hin : ∀ y, y < 32 → ∀ x ∈ l ++ [y], x < 32 := fun y hy => app_lt hl (fun x hx => by rcases List.mem_cons.1 hx with rfl | hx; exact hy; cases hx)
  have hm := run_mid 1 (hd27 s ++ l) a c (by decide) (app_lt (hd27_lt s) hl) ha hc32 hn
  have e1 : remN s (l ++ [a]) = run 1 (hd27 s ++ l ++ a :: [0, 0, 0, 0, 0, 0]) := by unfold remN; rw [fedN_eq s _ (hin a ha)]; simp
  have e2 : remN s (l ++ [c]) = run 1 (hd27 s ++ l ++ c :: [0, 0, 0, 0, 0, 0]) := by unfold remN; rw [fedN_eq s _ (hin c hc32)]; simp
  rw [← e1, ← e2] at hm
  have b1 := remN_lt s (l ++ [a])
  have b2 := remN_lt s (l ++ [c])
  unfold sumN at h hc
  generalize remN s (l ++ [a]) = R at *
  generalize remN s (l ++ [c]) = R' at *
  have h1 : R ^^^ 1 < 1073741824 := Nat.xor_lt_two_pow (n := 30) b1 (by decide)
  have h2 : R' ^^^ 1 < 1073741824 := Nat.xor_lt_two_pow (n := 30) b2 (by decide)
  simp only [sixN, List.set_cons_zero, List.cons.injEq, and_true] at h
  simp only [sixN, List.getElem?_cons_zero, Option.some.injEq] at hc
  obtain ⟨a0, a1, a2, a3, a4, a5⟩ := h
  apply hm
  have hx : R ^^^ R' = (R ^^^ 1) ^^^ (R' ^^^ 1) := by
    rw [Nat.xor_assoc, ← Nat.xor_assoc 1 R' 1, Nat.xor_comm 1 R', Nat.xor_assoc R' 1 1, Nat.xor_self, Nat.xor_zero]
  rw [hx]
  generalize R ^^^ 1 = X at *
  generalize R' ^^^ 1 = X' at *
  have hlow : X % 33554432 = X' % 33554432 := by omega
  have hX : X / 33554432 = c := by omega
  have hX' : X' / 33554432 = a := by omega
  have hmod : (X ^^^ X') % 33554432 = 0 := by rw [xor_mod25, hlow, Nat.xor_self]
  have hdiv : (X ^^^ X') / 33554432 = a ^^^ c := by rw [xor_div25, hX, hX', Nat.xor_comm]
  omega
theorem decV_of (p : ByteArray) (d t : List Nat) (ht : t.length = 6) (h : sumN p d ≠ t) : (decV p (d ++ t)).2 = 241 := by
  have hl : (d ++ t).length - 6 = d.length := by rw [List.length_append]; omega
  unfold decV
  rw [hl, List.take_left' rfl, List.drop_left' rfl, if_neg h]
theorem set_ne {l : List Nat} {j y : Nat} (hj : j < l.length) (h : l[j] ≠ y) : l ≠ l.set j y := fun e => h (by
  have h1 : l[j]? = (l.set j y)[j]? := by rw [← e]
  rw [List.getElem?_eq_getElem hj, List.getElem?_set_self hj] at h1
  exact Option.some.inj h1)
/-- one character replaced -/
theorem det_one (p : ByteArray) (b : List Nat) (j y : Nat) (hj : j < (digs p b).length) (hy : y < 32) (hn : (digs p b)[j] ≠ y) : (decV p ((digs p b).set j y)).2 = 241 := by
  have hdl := digs_len p b
  have h5 := pad5_lt5 b
  unfold digs at *
  by_cases h : j < (pad5 b).length
  · rw [List.set_append_left _ _ h]
    apply decV_of _ _ _ (sumN_len p _)
    rw [List.getElem_append_left h] at hn
    have := sum_one p ((pad5 b).take j) ((pad5 b).drop (j + 1)) y (pad5 b)[j] (fun x hx => h5 x (List.mem_of_mem_take hx)) (fun x hx => h5 x (List.mem_of_mem_drop hx)) hy (h5 _ (List.getElem_mem h)) (Ne.symm hn)
    rw [← List.drop_eq_getElem_cons h, List.take_append_drop] at this
    rw [List.set_eq_take_append_cons_drop, if_pos h]
    exact this
  · have h2 : j - (pad5 b).length < (sumN p (pad5 b)).length := by rw [sumN_len]; omega
    rw [List.set_append_right _ _ (by omega)]
    rw [List.getElem_append_right (by omega)] at hn
    exact decV_of _ _ _ (by rw [List.length_set]; exact sumN_len p _) (set_ne h2 hn)
theorem set2 (l : List Nat) (j x y : Nat) (hj : j + 1 < l.length) : (l.set j x).set (j + 1) y = l.take j ++ x :: y :: l.drop (j + 2) := by
  apply List.ext_getElem?
  intro i
  rw [List.getElem?_set, List.getElem?_set, List.length_set, List.getElem?_append, List.length_take, Nat.min_eq_left (by omega), List.getElem?_take]
  by_cases h1 : i < j
  · rw [if_neg (by omega), if_neg (by omega), if_pos h1]
    simp [h1]
  · rw [if_neg h1]
    obtain ⟨q, rfl⟩ : ∃ q, i = j + q := ⟨i - j, by omega⟩
    rw [Nat.add_sub_cancel_left]
    match q with
    | 0 => rw [if_neg (by omega), if_pos (by omega)]; simp; omega
    | 1 => rw [if_pos (by omega)]; simp; omega
    | q + 2 =>
      rw [if_neg (by omega), if_neg (by omega)]
      simp only [List.getElem?_cons_succ, List.getElem?_drop]
      congr 1
      omega
theorem split2 (l : List Nat) (j : Nat) (hj : j + 1 < l.length) : l = l.take j ++ l[j] :: l[j + 1] :: l.drop (j + 2) := by
  conv => lhs; rw [← List.take_append_drop j l, List.drop_eq_getElem_cons (show j < l.length by omega), List.drop_eq_getElem_cons hj]
/-- two neighbours exchanged -/
theorem det_two (p : ByteArray) (b : List Nat) (j x y : Nat) (hx : (digs p b)[j]? = some x) (hy : (digs p b)[j + 1]? = some y) (hn : x ≠ y) : (decV p (((digs p b).set j y).set (j + 1) x)).2 = 241 := by
  have h5 := pad5_lt5 b
  have hsl := sumN_len p (pad5 b)
  unfold digs at *
  by_cases h : j + 1 < (pad5 b).length
  · rw [List.getElem?_append_left (by omega), List.getElem?_eq_getElem (by omega)] at hx
    rw [List.getElem?_append_left h, List.getElem?_eq_getElem h] at hy
    obtain rfl := Option.some.inj hx
    obtain rfl := Option.some.inj hy
    rw [List.set_append_left _ _ (by omega), List.set_append_left _ _ (by rw [List.length_set]; exact h)]
    apply decV_of _ _ _ hsl
    rw [set2 _ _ _ _ h]
    have := sum_two p ((pad5 b).take j) ((pad5 b).drop (j + 2)) (pad5 b)[j + 1] (pad5 b)[j] (fun x hx => h5 x (List.mem_of_mem_take hx)) (fun x hx => h5 x (List.mem_of_mem_drop hx)) (h5 _ (List.getElem_mem h)) (h5 _ (List.getElem_mem (by omega))) (Ne.symm hn)
    rw [← split2 (pad5 b) j h] at this
    exact this
  · by_cases hm : j + 1 = (pad5 b).length
    · have hj1 : j < (pad5 b).length := by omega
      rw [List.getElem?_append_left hj1, List.getElem?_eq_getElem hj1] at hx
      rw [List.getElem?_append_right (by omega), show j + 1 - (pad5 b).length = 0 by omega] at hy
      obtain rfl := Option.some.inj hx
      have hlast : pad5 b = (pad5 b).take j ++ [(pad5 b)[j]] := by
        conv => lhs; rw [← List.take_append_drop j (pad5 b), List.drop_eq_getElem_cons hj1, List.drop_of_length_le (by omega)]
      rw [List.set_append_left _ _ hj1, List.set_append_right _ _ (by rw [List.length_set]; omega), List.length_set, show j + 1 - (pad5 b).length = 0 by omega]
      apply decV_of _ _ _ (by rw [List.length_set]; exact hsl)
      have hset : (pad5 b).set j y = (pad5 b).take j ++ [y] := by
        rw [List.set_eq_take_append_cons_drop, if_pos hj1, List.drop_of_length_le (by omega)]
      rw [hset]
      have := sum_mid p ((pad5 b).take j) (pad5 b)[j] (fun x hx => h5 x (List.mem_of_mem_take hx)) (h5 _ (List.getElem_mem hj1)) y (by rw [← hlast]; exact hy) hn
      rw [← hlast] at this
      exact this
    · have hge : (pad5 b).length ≤ j := by omega
      rw [List.getElem?_append_right hge] at hx
      rw [List.getElem?_append_right (by omega)] at hy
      have h1 : j - (pad5 b).length < (sumN p (pad5 b)).length := (List.getElem?_eq_some_iff.1 hx).1
      rw [List.set_append_right _ _ hge, List.set_append_right _ _ (by omega)]
      apply decV_of _ _ _ (by rw [List.length_set, List.length_set]; exact hsl)
      intro e
      apply hn
      have h2 : (sumN p (pad5 b))[j - (pad5 b).length]? = (((sumN p (pad5 b)).set (j - (pad5 b).length) y).set (j + 1 - (pad5 b).length) x)[j - (pad5 b).length]? := by rw [← e]
      rw [List.getElem?_set_ne (by omega), List.getElem?_set_self h1, hx] at h2
      exact Option.some.inj h2

theorem addressDetects_true (n : Int) (b : List Int) (at_ by_ : Int) (wb : ∀ n ∈ b, (Lit.int .u8 n).wf = true) : ∃ k, law27_AddressDetects.f k n b at_ by_ = some true := by
  obtain ⟨b, rfl, hb⟩ := ints_of_wf b wb
  have hsane : Ev fun k => law27_sane.f k = some true := Ev.of 40 sane27
  by_cases hs : b.length ≤ 60
  · obtain ⟨p, hp, hpf⟩ := prefix5 n
    have hsz := five_size p hp
    have hdl := digs_len2 p b (by omega)
    have hlt := digs_lt p b
    have hbt := bytesOf_ofBytes (addr p (digs p b)) (addr_lt p _ hlt)
    have hfs : (ofBytes (addr p (digs p b))).size = p.size + 1 + (digs p b).length := by rw [size_of hbt, addr_len]
    obtain ⟨N, hN⟩ : ∃ N, (digs p b).length = N := ⟨_, rfl⟩
    rw [hN] at hfs hdl
    have r0 := Int.emod_nonneg at_ (show (N : Int) ≠ 0 by omega)
    have r1 := Int.emod_lt_of_pos at_ (show (0 : Int) < N by omega)
    obtain ⟨j, hj⟩ : ∃ j : Nat, at_ % (N : Int) = j := ⟨(at_ % (N : Int)).toNat, by omega⟩
    have y0 := Int.emod_nonneg by_ (show (32 : Int) ≠ 0 by decide)
    have y1 := Int.emod_lt_of_pos by_ (show (0 : Int) < 32 by decide)
    obtain ⟨y, hy⟩ : ∃ y : Nat, by_ % (32 : Int) = y := ⟨(by_ % (32 : Int)).toNat, by omega⟩
    have hjN : j < (digs p b).length := by omega
    have hy32 : y < 32 := by omega
    obtain ⟨x, hx⟩ : ∃ x, (digs p b)[j]? = some x := ⟨_, List.getElem?_eq_getElem hjN⟩
    have hxg : (digs p b)[j] = x := (List.getElem?_eq_some_iff.1 hx).2
    have hx32 : x < 32 := hlt x (List.mem_of_getElem? hx)
    have d1 : Ev fun k => address_Decode.f k p (ofBytes (addr p ((digs p b).set j y))) = some (decV p ((digs p b).set j y)) :=
      dec_small p hp _ (fun z hz => by rcases List.mem_or_eq_of_mem_set hz with h | rfl; exact hlt z h; exact hy32) (by rw [List.length_set]; omega) (by rw [List.length_set]; omega)
    have d2 : Ev fun k => ∀ z, (digs p b)[j + 1]? = some z → address_Decode.f k p (ofBytes (addr p (((digs p b).set j z).set (j + 1) x))) = some (decV p (((digs p b).set j z).set (j + 1) x)) := by
      cases hz : (digs p b)[j + 1]? with
      | none => exact Ev.all fun k z h => by cases h
      | some z =>
        have hz32 : z < 32 := hlt z (List.mem_of_getElem? hz)
        exact (dec_small p hp (((digs p b).set j z).set (j + 1) x) (fun w hw => by
          rcases List.mem_or_eq_of_mem_set hw with h | rfl
          · rcases List.mem_or_eq_of_mem_set h with h | rfl
            · exact hlt w h
            · exact hz32
          · exact hx32) (by rw [List.length_set, List.length_set]; omega) (by rw [List.length_set, List.length_set]; omega)).mono fun k h w hw => by cases hw; exact h
    obtain ⟨k, ⟨h1, ok, h2, h3, _⟩, h4, h5, h6⟩ := ((hsane.and (enc_ok p (by omega) b hb (by omega))).and ((five_ev p hp).and (d1.and d2))).get
    rw [h4] at h2
    obtain rfl := Option.some.inj h2
    have ev : encV p true b = (ofBytes (addr p (digs p b)), 0) := by unfold encV; rw [if_neg (by decide), if_neg (by omega)]
    have hal : (⟨#[113, 112, 122, 114, 121, 57, 120, 56, 103, 102, 50, 116, 118, 100, 119, 48, 115, 51, 106, 110, 53, 52, 107, 104, 99, 101, 54, 109, 117, 97, 55, 108]⟩ : ByteArray) = alpha := rfl
    have e1 : IntKind.i64.wrap (((p.size : Nat) : Int) + 7) = ((p.size + 7 : Nat) : Int) := by rw [wr (by omega) (by omega)]; omega
    have e2 : IntKind.i64.wrap (((p.size : Nat) : Int) + 1) = ((p.size + 1 : Nat) : Int) := by rw [wr (by omega) (by omega)]; omega
    have e3 : IntKind.i64.wrap (((p.size + 1 + N : Nat) : Int) - ((p.size + 1 : Nat) : Int)) = (N : Int) := by rw [wr (by omega) (by omega)]; omega
    have e4 : IntKind.i64.wrap (((p.size + 1 : Nat) : Int) + (j : Int)) = ((p.size + 1 + j : Nat) : Int) := by rw [wr (by omega) (by omega)]; omega
    have e5 : IntKind.i64.wrap (((p.size + 1 + j : Nat) : Int) + 1) = ((p.size + 1 + (j + 1) : Nat) : Int) := by rw [wr (by omega) (by omega)]; omega
    refine ⟨k, ?_⟩
    unfold law27_AddressDetects.f
    rw [h1, Option.bind_some, if_neg (by decide), length_ints, if_neg (by simp; omega), hpf, Option.bind_some, h3, ev, Option.bind_some]
    dsimp only
    rw [if_neg (by decide), hfs, e1, Option.bind_some, if_neg (by simp; omega), e2, e3, mod_ok k at_ _ (by omega) (by omega), hj, Option.bind_some, if_pos (by omega), mod_ok k by_ _ (by omega) (by omega), hy, Option.bind_some, hal, if_pos ⟨by omega, by show (y : Int) < 32; omega⟩, e4, e5, if_pos ⟨by omega, by omega⟩, hbt, Int.toNat_natCast, Int.toNat_natCast, addr_get p _ j hjN, hxg]
    have hsg : sg alpha (y : Int) = letter y := rfl
    rw [hsg, addr_set, h5]
    -- the first half
    have first : (if (letter x != letter y) = true then (if 0 ≤ ((p.size + 1 + j : Nat) : Int) ∧ ((p.size + 1 + j : Nat) : Int) < ((p.size + 1 + N : Nat) : Int) then ((some (decV p ((digs p b).set j y))).bind fun r254 => (if (r254.2 == 0) = true then (some (.ret false)) else (some (.go ())))) else none) else (some (.go ()))) = (some (.go ()) : Option (Out Bool Unit)) := by
      by_cases hxy : x = y
      · rw [if_neg (by simp [hxy])]
      · have hne : letter x ≠ letter y := fun h => hxy (letter_inj x hx32 y hy32 h)
        have h241 := det_one p b j y hjN hy32 (by rw [hxg]; exact hxy)
        rw [if_pos (by simp [hne]), if_pos ⟨by omega, by omega⟩, Option.bind_some, h241, if_neg (by decide)]
    rw [first, Option.bind_some]
    dsimp only
    rw [if_pos (by omega)]
    by_cases hl : j + 1 < N
    · have hj2 : j + 1 < (digs p b).length := by omega
      obtain ⟨z, hz⟩ : ∃ z, (digs p b)[j + 1]? = some z := ⟨_, List.getElem?_eq_getElem hj2⟩
      have hzg : (digs p b)[j + 1] = z := (List.getElem?_eq_some_iff.1 hz).2
      have hz32 : z < 32 := hlt z (List.mem_of_getElem? hz)
      rw [if_pos (by simp; omega), if_pos ⟨by omega, by omega⟩, if_pos ⟨by omega, by omega⟩, addr_get p _ (j + 1) hj2, hzg, Option.bind_some]
      by_cases hxz : x = z
      · rw [if_neg (by simp [hxz])]
        rfl
      · have hne : letter x ≠ letter z := fun h => hxz (letter_inj x hx32 z hz32 h)
        have h241 := det_two p b j x z hx hz hxz
        rw [if_pos (by simp [hne]), if_pos ⟨by omega, by omega⟩, if_pos ⟨by omega, by omega⟩, if_pos ⟨by omega, by omega⟩, if_pos ⟨by omega, by omega⟩, addr_set, addr_set, h6 z hz, Option.bind_some, h241, if_neg (by decide)]
        rfl
    · rw [if_neg (by simp; omega), Option.bind_some, if_neg (by decide)]
      rfl
  · obtain ⟨k, h5⟩ := hsane.get
    refine ⟨k, ?_⟩
    unfold law27_AddressDetects.f
    rw [h5, Option.bind_some, if_neg (by decide), length_ints, if_pos (by simp; omega)]

end Go.Proofs.Ytmopbcfjnnchgaa.G
namespace Go.Proofs.Ytmopbcfjnnchgaa.addressDetects
open Go Go.ChangeShapes Go.WideShapes Go.ChangeAt Go.RowKit
open Go.ChangeMaps (open_string shut_string)
theorem own : ownKnob Try.prog.godebug = none := by kernel_rfl
theorem laidOut : laidOutB Try.prog = true := by kernel_rfl
set_option maxRecDepth 100000 in
theorem lifted (os : Os) (started : os.Started) (H : Type) (enc : TypeId × Value → H) :
    ReturnsInHanded {} Try.checked os 8 .any (Rows.addressDetectsSpec.pre6 enc Try.prog Try.f8 Rows.addressDetectsRow.domain false) (Rows.addressDetectsSpec.post enc Try.prog Try.f8 false true false false) := by
  refine returnsInHanded_of_change_sized (C := Try.checked) own started (by kernel_rfl) Try.func8
    (ChangeSpec.witness6 (enc := enc) (C := Try.checked) false ⟨#[], #[.int .i64 0, .slice none 0 0, .int .i64 0, .int .i64 0], []⟩ 8 (by kernel_rfl) (by kernel_rfl) (by kernel_rfl) (by kernel_rfl)) ?_
  intro W base args ds gs before hval0 hW hcnd hsz0 _
  have hsz : (DataW.weightsEach Try.prog (Try.f8.params.toList ++ Rows.addressDetectsSpec.plain.varTypes Try.prog) (ds ++ gs)).all (· ≤ reachBytes) = true := hsz0
  have hval : ∀ (j : Nat) t v, Try.f8.params[j]? = some t → args[j]? = some v → Value.okWide Try.prog W .any base t v := hval0
  have hW' := hW
  obtain ⟨p, q, hA0, hV, rfl, hfz, hnd⟩ := hW
  have hA : DataW.TrodAll enc Try.prog W 0 (fun _ => true) true Try.f8.params.toList args.toList ds p := hA0
  rw [Try.params8] at hA hval hsz
  obtain ⟨v0, vs0, d0, ds0, p0, q0, hargs, rfl, rfl, h0, r0⟩ := trodAll_cons hA
  obtain ⟨v1, vs1, d1, ds1, p1, q1, rfl, rfl, rfl, h1, r1⟩ := trodAll_cons r0
  obtain ⟨v2, vs2, d2, ds2, p2, q2, rfl, rfl, rfl, h2, r2⟩ := trodAll_cons r1
  obtain ⟨v3, vs3, d3, ds3, p3, q3, rfl, rfl, rfl, h3, r3⟩ := trodAll_cons r2
  obtain ⟨rfl, rfl, rfl⟩ := trodAll_nil r3
  obtain rfl : args = #[v0, v1, v2, v3] := by cases args; simp_all
  obtain ⟨rfl, rfl⟩ := trodVars_none hV
  obtain ⟨a0, rfl, rfl, rfl, w0⟩ := open_int Try.underlying3 (hval 0 3 v0 rfl rfl) h0
  obtain ⟨A1, len1, cap1, rfl⟩ := okWide_slice Try.underlying22 (hval 1 22 v1 rfl rfl)
  have k1 := h1
  have lt1 : ∀ x ∈ p1, x.block < W.heap.size := by obtain ⟨m, hm⟩ := k1; exact DataW.trod_lt m _ _ _ hm
  have y1 : len1 * 1 ≤ 140737488351232 := PrintWords.sized_ints hsz (j := 1) (t := 22) rfl rfl Try.underlying22 Try.underlying5 (by kernel_rfl) (by kernel_rfl) h1
  obtain ⟨a1, hz1, rw1, cf1, wf1⟩ : ∃ zs : List Int, zs.length = len1 ∧ G.Row (G.Pl.int .u8) W A1 zs ∧ zs.length ≤ cap1 ∧ ∀ n ∈ zs, (Lit.int .u8 n).wf = true := by
    obtain ⟨fuel, hf⟩ := h1
    rcases open_ints Try.underlying22 Try.underlying5 (by kernel_rfl) hf with ⟨hcs, _⟩ | ⟨x, l, c, zs, hcs, _, hl, hm, hz, _, hcell, hwz⟩
    · simp [Value.cells] at hcs
      obtain ⟨rfl, rfl, rfl⟩ := hcs
      exact ⟨[], rfl, G.Row.nil _ _, Nat.zero_le _, fun _ h => by cases h⟩
    · simp [Value.cells] at hcs
      obtain ⟨rfl, rfl, rfl⟩ := hcs
      have hz' : zs.length = cap1 := by simpa using hz
      exact ⟨zs.take len1, by rw [List.length_take]; omega, G.row_take hcell (by omega), by rw [List.length_take]; omega, fun n hn => hwz n (List.mem_of_mem_take hn)⟩
  subst hz1
  obtain ⟨a2, rfl, rfl, rfl, w2⟩ := open_int Try.underlying3 (hval 2 3 v2 rfl rfl) h2
  obtain ⟨a3, rfl, rfl, rfl, w3⟩ := open_int Try.underlying3 (hval 3 3 v3 rfl rfl) h3
  clear hA0 hval0 hsz0 hsz
  obtain ⟨K, hK⟩ := G.addressDetects_true a0 a1 a2 a3 wf1
  refine (G.law27_AddressDetects.calls K a0 a1 a2 a3 [] _ true W ⟨A1, cap1, rfl, G.Ro.of rw1, cf1⟩ (G.Mem.nil W) hK).mono fun e W' he => ?_
  obtain ⟨v, rfl, rfl, hM⟩ := he
  have bel := hM.below
  exact ⟨_, rfl, _, _, _, [], _, [], hW', trodAll_mk1 (shut_bool Try.underlying4 _), (trodAll_cons_mk (shut_int Try.underlying3 w0) (trodAll_cons_mk (Below.trod laidOut (by kernel_rfl) (of_decide_eq_true (by kernel_rfl)) k1 bel lt1) (trodAll_cons_mk (shut_int Try.underlying3 w2) (trodAll_cons_mk (shut_int Try.underlying3 w3) trodAll_mk0)))), rfl, bel.frame _, fun h => by cases h⟩
theorem over : Rows.addressDetectsRow.holds Try.pinned (OpenSpec.ofChange Rows.addressDetectsSpec) :=
  OpenClaim.holds_of_wide 8 Try.f8 rfl rfl rfl rfl rfl rfl rfl ⟨rfl, rfl, rfl, rfl, rfl⟩ rfl rfl rfl rfl rfl (by kernel_rfl) Try.func8 (by kernel_rfl)
    (of_decide_eq_true (by kernel_rfl)) (by unfold Func.isWrapper; first | (rw [if_pos (by decide +kernel)]; kernel_rfl) | (rw [if_neg (by decide +kernel)]; exact ⟨rfl, rfl⟩))
    (fun os started H enc _ => lifted os started H enc)
theorem proved : Rows.AddressDetectsSaid := over
#print axioms proved
end Go.Proofs.Ytmopbcfjnnchgaa.addressDetects
namespace Go.Proofs.Ytmopbcfjnnchgaa
/-- The row, under a short name, for the claim. -/
theorem addressDetects_holds : Rows.AddressDetectsSaid := addressDetects.proved
end Go.Proofs.Ytmopbcfjnnchgaa
