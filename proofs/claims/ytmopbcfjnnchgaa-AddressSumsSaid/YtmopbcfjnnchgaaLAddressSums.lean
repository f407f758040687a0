/- For every text, number and list of digits the program and the reference give the same checksum: the law returns true. Conditions: none beyond the statement's own. -/
import Derived.Test.YtmopbcfjnnchgaaRows
import Derived.Test.YtmopbcfjnnchgaaFAddressSums
import Derived.WalkKit
import Derived.ProofKit
import Derived.OpenShut
import Derived.ShutString
import Derived.ChangeOld
import Derived.Below
import Derived.SizedLaws
import Derived.Test.YtmopbcfjnnchgaaWSized
set_option linter.unusedVariables false
set_option linter.unusedSimpArgs false
namespace Go.Proofs.Ytmopbcfjnnchgaa.PrintWords
/-- The name by which the row finds the word on a slice's weight. -/
theorem sized_ints {H : Type} {enc : TypeId × Value → H} {P : Program} {W : World} {base : Nat} {spare : Nat → Bool} {held : Bool} {t e : TypeId} {k : IntKind} {a : Option Addr} {len cap : Nat} {d : DataW H} {ps : List MemPlace} {ts : List TypeId} {ds : List (DataW H)} {j : Nat}
    (hsz : (DataW.weightsEach P ts ds).all (· ≤ reachBytes) = true) (ht : ts[j]? = some t) (hd : ds[j]? = some d) (hu : P.underlying t = some (.slice e)) (he : P.underlying e = some (.int k)) (hc : P.cellsOf e = 1) {B : Nat} (hB : P.bytesOf e = B)
    (h : DataW.Trod enc P W base spare held t (.slice a len cap) d ps) : len * B ≤ 140737488351232 :=
  Go.Proofs.YtmopbcfjnnchgaaW.PrintWords.sized_ints hsz ht hd hu he hc hB h
end Go.Proofs.Ytmopbcfjnnchgaa.PrintWords
namespace Go.Proofs.Ytmopbcfjnnchgaa.G
open Go Go.RowKit Go.Proofs
/-! ## of all laws: enough fuel -/
def Ev (p : Nat → Prop) : Prop := ∃ K, ∀ k, K ≤ k → p k
theorem Ev.mono {p q : Nat → Prop} (h : Ev p) (f : ∀ k, p k → q k) : Ev q := by
  obtain ⟨K, hK⟩ := h
  exact ⟨K, fun k hk => f k (hK k hk)⟩
theorem Ev.and {p q : Nat → Prop} (h : Ev p) (h2 : Ev q) : Ev fun k => p k ∧ q k := by
  obtain ⟨K, hK⟩ := h
  obtain ⟨L, hL⟩ := h2
  exact ⟨max K L, fun k hk => ⟨hK k (by omega), hL k (by omega)⟩⟩
theorem Ev.of {p : Nat → Prop} (K : Nat) (h : ∀ k, p (k + K)) : Ev p := ⟨K, fun k hk => by have := h (k - K); rwa [Nat.sub_add_cancel hk] at this⟩
theorem Ev.all {p : Nat → Prop} (h : ∀ k, p k) : Ev p := ⟨0, fun k _ => h k⟩
/-- behind one round -/
theorem Ev.succ {p : Nat → Prop} (h : Ev fun k => p (k + 1)) : Ev p := by
  obtain ⟨K, hK⟩ := h
  refine ⟨K + 1, fun k hk => ?_⟩
  have h1 := hK (k - 1) (by omega)
  have e : k - 1 + 1 = k := by omega
  rw [← e]
  exact h1
theorem Ev.get {p : Nat → Prop} (h : Ev p) : ∃ k, p k := by
  obtain ⟨K, hK⟩ := h
  exact ⟨K, hK K (Nat.le_refl _)⟩
theorem wr {x : Int} (h0 : -9223372036854775808 ≤ x) (h1 : x < 9223372036854775808) : IntKind.i64.wrap x = x := by
  simp only [IntKind.wrap, IntKind.bits, IntKind.signed]
  simp
  omega
theorem wr8 {x : Int} (h0 : 0 ≤ x) (h1 : x < 256) : IntKind.u8.wrap x = x := by
  simp only [IntKind.wrap, IntKind.bits, IntKind.signed]
  simp
  omega
theorem wr8_lt (x : Int) : 0 ≤ IntKind.u8.wrap x ∧ IntKind.u8.wrap x < 256 := by
  simp only [IntKind.wrap, IntKind.bits, IntKind.signed]
  simp
  omega
theorem mod_ok (k : Nat) (v n : Int) (h0 : 0 < n) (h1 : n < 4611686018427387904) : mill_Mod.f k v n = some (v % n) := by
  unfold mill_Mod.f
  rw [if_pos (by omega)]
  have hb := Int.emod_nonneg v (show n ≠ 0 by omega)
  have hb2 := Int.emod_lt_of_pos v h0
  by_cases hv : 0 ≤ v
  · have e : v.tmod n = v % n := Int.tmod_eq_emod_of_nonneg hv
    rw [e, if_neg (by simp; omega)]
    rfl
  · have e : v.tmod n = -((-v) % n) := by
      have : v = -(-v) := by omega
      rw [this, Int.neg_tmod, Int.tmod_eq_emod_of_nonneg (by omega)]
      simp
    have hc := Int.emod_nonneg (-v) (show n ≠ 0 by omega)
    have hc2 := Int.emod_lt_of_pos (-v) h0
    by_cases hz : (-v) % n = 0
    · have : v % n = 0 := by
        have hd := Int.dvd_of_emod_eq_zero hz
        exact Int.emod_eq_zero_of_dvd (by exact (Int.dvd_neg).1 hd)
      rw [e, hz, this]
      rfl
    · have hneg : v % n = n - (-v) % n := by
        have h2 : (-v) % n = n - v % n := by
          have := Int.neg_emod (a := v) (b := n)
          rw [this]
          split
          · rename_i hd
            exact absurd (Int.emod_eq_zero_of_dvd ((Int.dvd_neg).2 hd)) hz
          · have : (n.natAbs : Int) = n := by omega
            rw [this]
        omega
      rw [e, if_pos (by simp; omega), wr (by omega) (by omega), hneg]
      simp
      omega
theorem sane27 (k : Nat) : law27_sane.f (k + 40) = some true := by rfl
def five : List ByteArray := [⟨#[108, 99]⟩, ⟨#[97]⟩, ⟨#[97, 98, 99, 100, 101, 102, 103, 104, 105, 106]⟩, ⟨#[122]⟩, ⟨#[116, 108, 99]⟩]
theorem five_size : ∀ p ∈ five, p.size ≤ 10 ∧ 0 < p.size := by
  intro p hp
  simp only [five, List.mem_cons, List.not_mem_nil, or_false] at hp
  rcases hp with rfl | rfl | rfl | rfl | rfl <;> exact ⟨by decide, by decide⟩
theorem prefix5 (n : Int) : ∃ p ∈ five, ∀ k, law27_prefix.f k n = some p := by
  have h0 := Int.emod_nonneg n (show (5 : Int) ≠ 0 by decide)
  have h1 := Int.emod_lt_of_pos n (show (0 : Int) < 5 by decide)
  have hl : (n % 5).toNat < five.length := by simp [five]; omega
  refine ⟨five[(n % 5).toNat], List.getElem_mem hl, fun k => ?_⟩
  unfold law27_prefix.f
  rw [mod_ok k n 5 (by decide) (by decide), Option.bind_some, if_pos ⟨h0, by omega⟩]
  have e : ∀ (x : Nat) (hx : x < five.length), five.getD x ByteArray.empty = five[x] := fun x hx => by
    rw [List.getD_eq_getElem?_getD, List.getElem?_eq_getElem hx]; rfl
  exact congrArg some (e _ hl)
/-! ## loops that go over a range and append -/
theorem app_loop {L : Nat → List Int → Int → Option (List Int)} {n : Nat} {g : Int → Int} (hn : n ≤ 1099511627776)
    (hstep : ∀ k xs t, L (k + 1) xs t = if (decide (t < ((n : Nat) : Int))) = true then (if 0 ≤ t ∧ t < ((n : Nat) : Int) then (if (xs.length + 1) * 1 ≤ 140737488355328 then (L k (xs ++ [g t]) (IntKind.i64.wrap (t + 1))) else none) else none) else (some xs)) :
    ∀ (m k : Nat) (xs : List Int) (t : Nat), t + m = n → xs.length + m ≤ 70368744177664 → L (k + m + 1) xs (t : Int) = some (xs ++ (List.range' t m).map fun (i : Nat) => g (i : Int))
  | 0, k, xs, t, h1, h2 => by rw [hstep, if_neg (by simp; omega)]; simp
  | m + 1, k, xs, t, h1, h2 => by
    rw [hstep, if_pos (by simp; omega), if_pos ⟨by omega, by omega⟩, if_pos (by omega), wr (by omega) (by omega)]
    have := app_loop hn hstep m k (xs ++ [g t]) (t + 1) (by omega) (by simp; omega)
    rw [show k + (m + 1) = k + m + 1 by omega]
    have e : ((t : Int) + 1) = ((t + 1 : Nat) : Int) := by omega
    rw [e, this, List.range'_succ]
    simp
theorem app_all {L : Nat → List Int → Int → Option (List Int)} {n : Nat} {g : Int → Int} (hn : n ≤ 1099511627776)
    (hstep : ∀ k xs t, L (k + 1) xs t = if (decide (t < ((n : Nat) : Int))) = true then (if 0 ≤ t ∧ t < ((n : Nat) : Int) then (if (xs.length + 1) * 1 ≤ 140737488355328 then (L k (xs ++ [g t]) (IntKind.i64.wrap (t + 1))) else none) else none) else (some xs))
    (xs : List Int) (hx : xs.length ≤ 1099511627776) : Ev fun k => L k xs 0 = some (xs ++ (List.range n).map fun (i : Nat) => g (i : Int)) :=
  Ev.of (n + 1) fun k => by
    have h := app_loop hn hstep n k xs 0 (by omega) (by omega)
    rw [List.range_eq_range']
    exact h
theorem map_range_getD (d : List Int) (f : Int → Int) : ((List.range d.length).map fun (i : Nat) => f (d.getD (i : Int).toNat 0)) = d.map f := by
  apply List.ext_getElem
  · simp
  · intro i h1 h2
    simp only [List.length_map, List.length_range] at h1
    simp only [List.getElem_map, List.getElem_range, Int.toNat_natCast]
    rw [List.getD_eq_getElem?_getD, List.getElem?_eq_getElem h1]
    rfl
theorem map_range_sg (s : ByteArray) (f : Int → Int) : ((List.range s.size).map fun (i : Nat) => f (sg s (i : Int))) = (bytesOf s).map f := by
  rw [← map_range_getD, length_bytesOf]
  apply List.map_congr_left
  intro i hi
  congr 1
  have hi' : i < s.size := List.mem_range.1 hi
  unfold sg bytesOf
  simp only [Int.toNat_natCast]
  rw [List.getD_eq_getElem?_getD, List.getD_eq_getElem?_getD, List.getElem?_map]
  have hl : i < s.data.toList.length := by simpa using hi'
  rw [List.getElem?_eq_getElem hl]
  rfl
def gens : Vector Int 5 := ((((((Vector.replicate 5 0 : Vector Int 5).setIfInBounds 0 996825010).setIfInBounds 1 642813549).setIfInBounds 2 513874426).setIfInBounds 3 1027748829).setIfInBounds 4 705979059)
def mix1 (c0 c t : Int) : Int := if ((iand .u32 (ishr .u32 (ishr .u32 c0 25) t) 1) == 1) = true then ixor .u32 c (vg gens t) else c
def mix (c0 c : Int) : Int := mix1 c0 (mix1 c0 (mix1 c0 (mix1 c0 (mix1 c0 c 0) 1) 2) 3) 4
theorem mixa (c0 c t : Int) (k : Nat) (h0 : 0 ≤ t) (h1 : t < 5) : address_remainder.l1 c0 (k + 1) c t = address_remainder.l1 c0 k (mix1 c0 c t) (t + 1) := by
  rw [address_remainder.l1, if_pos (by simpa using h1), if_pos ⟨h0, by simpa using h1⟩, if_pos h0, wr (by omega) (by omega)]
  unfold mix1
  by_cases h : ((iand .u32 (ishr .u32 (ishr .u32 c0 25) t) 1) == 1) = true
  · rw [if_pos h, if_pos h]; rfl
  · rw [if_neg h, if_neg h]; rfl
theorem wu64 {x : Int} (h0 : 0 ≤ x) (h1 : x < 18446744073709551616) : IntKind.u64.wrap x = x := by
  simp only [IntKind.wrap, IntKind.bits, IntKind.signed]
  simp
  omega
theorem mixr (c0 c t : Int) (k : Nat) (h0 : 0 ≤ t) (h1 : t < 5) : ref27_remainder.l1 c0 (k + 1) c t = ref27_remainder.l1 c0 k (mix1 c0 c t) (t + 1) := by
  rw [ref27_remainder.l1, if_pos (by simpa using h1), wu64 h0 (by omega), if_pos h0, wr (by omega) (by omega)]
  unfold mix1
  by_cases h : ((iand .u32 (ishr .u32 (ishr .u32 c0 25) t) 1) == 1) = true
  · rw [if_pos h, if_pos h, if_pos ⟨h0, by simpa using h1⟩]; rfl
  · rw [if_neg h, if_neg h]; rfl
theorem mix_a (c0 c : Int) (k : Nat) : address_remainder.l1 c0 (k + 6) c 0 = some (mix c0 c) := by
  rw [mixa c0 _ 0 (k + 5) (by decide) (by decide), mixa c0 _ (0 + 1) (k + 4) (by decide) (by decide), mixa c0 _ (0 + 1 + 1) (k + 3) (by decide) (by decide), mixa c0 _ (0 + 1 + 1 + 1) (k + 2) (by decide) (by decide), mixa c0 _ (0 + 1 + 1 + 1 + 1) (k + 1) (by decide) (by decide), address_remainder.l1, if_neg (by decide)]
  rfl
theorem mix_r (c0 c : Int) (k : Nat) : ref27_remainder.l1 c0 (k + 6) c 0 = some (mix c0 c) := by
  rw [mixr c0 _ 0 (k + 5) (by decide) (by decide), mixr c0 _ (0 + 1) (k + 4) (by decide) (by decide), mixr c0 _ (0 + 1 + 1) (k + 3) (by decide) (by decide), mixr c0 _ (0 + 1 + 1 + 1) (k + 2) (by decide) (by decide), mixr c0 _ (0 + 1 + 1 + 1 + 1) (k + 1) (by decide) (by decide), ref27_remainder.l1, if_neg (by decide)]
  rfl
def feed (c x : Int) : Int := mix c (ixor .u32 (ishl .u32 (iand .u32 c 33554431) 5) (IntKind.u32.wrap x))
theorem remA_l (d : List Int) (hd : d.length ≤ 1099511627776) : ∀ (m k : Nat) (c : Int) (t : Nat), t + m = d.length → address_remainder.l0 d (k + m + 7) c (t : Int) = some ((d.drop t).foldl feed c)
  | 0, k, c, t, h => by rw [address_remainder.l0, if_neg (by simp; omega), List.drop_of_length_le (by omega)]; rfl
  | m + 1, k, c, t, h => by
    have hlt : t < d.length := by omega
    rw [show k + (m + 1) + 7 = k + m + 7 + 1 by omega, address_remainder.l0, if_pos (by simp; omega), if_pos ⟨by omega, by omega⟩, show k + m + 7 = (k + m + 1) + 6 by omega, mix_a, Option.bind_some, wr (by omega) (by omega), show ((t : Int) + 1) = ((t + 1 : Nat) : Int) by omega, show k + m + 1 + 6 = k + m + 7 by omega, remA_l d hd m k _ (t + 1) (by omega), List.drop_eq_getElem_cons hlt, List.foldl_cons]
    congr 3
    simp [List.getD_eq_getElem?_getD, hlt]
theorem remR_l (d : List Int) (hd : d.length ≤ 1099511627776) : ∀ (m k : Nat) (c : Int) (t : Nat), t + m = d.length → ref27_remainder.l0 d (k + m + 7) c (t : Int) = some ((d.drop t).foldl feed c)
  | 0, k, c, t, h => by rw [ref27_remainder.l0, if_neg (by simp; omega), List.drop_of_length_le (by omega)]; rfl
  | m + 1, k, c, t, h => by
    have hlt : t < d.length := by omega
    rw [show k + (m + 1) + 7 = k + m + 7 + 1 by omega, ref27_remainder.l0, if_pos (by simp; omega), if_pos ⟨by omega, by omega⟩, show k + m + 7 = (k + m + 1) + 6 by omega, mix_r, Option.bind_some, wr (by omega) (by omega), show ((t : Int) + 1) = ((t + 1 : Nat) : Int) by omega, show k + m + 1 + 6 = k + m + 7 by omega, remR_l d hd m k _ (t + 1) (by omega), List.drop_eq_getElem_cons hlt, List.foldl_cons]
    congr 3
    simp [List.getD_eq_getElem?_getD, hlt]
def rem27 (d : List Int) : Int := d.foldl feed 1
theorem rem_ok (d : List Int) (hd : d.length ≤ 1099511627776) : Ev fun k => address_remainder.f k d = some (rem27 d) ∧ ref27_remainder.f k d = some (rem27 d) :=
  Ev.of (d.length + 7) fun k => by
    have h1 := remA_l d hd d.length k 1 0 (by omega)
    have h2 := remR_l d hd d.length k 1 0 (by omega)
    constructor
    · unfold address_remainder.f
      rw [show k + (d.length + 7) = k + d.length + 7 by omega]
      have e : ((0 : Nat) : Int) = 0 := rfl
      rw [e] at h1
      rw [h1]
      rfl
    · unfold ref27_remainder.f
      rw [show k + (d.length + 7) = k + d.length + 7 by omega]
      have e : ((0 : Nat) : Int) = 0 := rfl
      rw [e] at h2
      rw [h2]
      rfl
def putq (r : Int) (v : Vector Int 6) (t : Int) : Vector Int 6 := vs v t (IntKind.u8.wrap (iand .u32 (ishr .u32 (ixor .u32 r 1) (25 - 5 * t)) 31))
def six (r : Int) : Vector Int 6 := putq r (putq r (putq r (putq r (putq r (putq r (Vector.replicate 6 0 : Vector Int 6) 0) 1) 2) 3) 4) 5
theorem putA (r : Int) (v : Vector Int 6) (t : Int) (k : Nat) (h0 : 0 ≤ t) (h1 : t < 6) : address_Checksum.l3 r (k + 1) v t = address_Checksum.l3 r k (putq r v t) (t + 1) := by
  rw [address_Checksum.l3, if_pos (by simpa using h1), wr (x := 5 * t) (by omega) (by omega), wr (x := 25 - 5 * t) (by omega) (by omega), if_pos (by omega), if_pos ⟨h0, by simpa using h1⟩, Option.bind_some, wr (by omega) (by omega)]
  rfl
theorem putR (r : Int) (v : Vector Int 6) (t : Int) (k : Nat) (h0 : 0 ≤ t) (h1 : t < 6) : ref27_Checksum.l3 r (k + 1) v t = ref27_Checksum.l3 r k (putq r v t) (t + 1) := by
  rw [ref27_Checksum.l3, if_pos (by simpa using h1), wr (x := 5 * t) (by omega) (by omega), wr (x := 25 - 5 * t) (by omega) (by omega), wu64 (x := 25 - 5 * t) (by omega) (by omega), if_pos (by omega), if_pos ⟨h0, by simpa using h1⟩, Option.bind_some, wr (by omega) (by omega)]
  rfl
theorem sixA (r : Int) (k : Nat) : address_Checksum.l3 r (k + 7) (Vector.replicate 6 0 : Vector Int 6) 0 = some (six r) := by
  rw [putA r _ 0 (k + 6) (by decide) (by decide), putA r _ (0 + 1) (k + 5) (by decide) (by decide), putA r _ (0 + 1 + 1) (k + 4) (by decide) (by decide), putA r _ (0 + 1 + 1 + 1) (k + 3) (by decide) (by decide), putA r _ (0 + 1 + 1 + 1 + 1) (k + 2) (by decide) (by decide), putA r _ (0 + 1 + 1 + 1 + 1 + 1) (k + 1) (by decide) (by decide), address_Checksum.l3, if_neg (by decide)]
  rfl
theorem sixR (r : Int) (k : Nat) : ref27_Checksum.l3 r (k + 7) (Vector.replicate 6 0 : Vector Int 6) 0 = some (six r) := by
  rw [putR r _ 0 (k + 6) (by decide) (by decide), putR r _ (0 + 1) (k + 5) (by decide) (by decide), putR r _ (0 + 1 + 1) (k + 4) (by decide) (by decide), putR r _ (0 + 1 + 1 + 1) (k + 3) (by decide) (by decide), putR r _ (0 + 1 + 1 + 1 + 1) (k + 2) (by decide) (by decide), putR r _ (0 + 1 + 1 + 1 + 1 + 1) (k + 1) (by decide) (by decide), ref27_Checksum.l3, if_neg (by decide)]
  rfl
def fed (s : ByteArray) (d : List Int) : List Int := (bytesOf s).map (fun x => ishr .u8 x 5) ++ [0] ++ (bytesOf s).map (fun x => iand .u8 x 31) ++ d.map (fun x => iand .u8 x 31)
def sum27 (s : ByteArray) (d : List Int) : Vector Int 6 := six (rem27 (fed s d ++ [0, 0, 0, 0, 0, 0]))
theorem sum_ok (s : ByteArray) (d : List Int) (hs : s.size ≤ 1000) (hd : d.length ≤ 1000) : Ev fun k => address_Checksum.f k s d = some (sum27 s d) ∧ ref27_Checksum.f k s d = some (sum27 s d) := by
  have len1 : ((bytesOf s).map (fun x => ishr .u8 x 5)).length = s.size := by rw [List.length_map, length_bytesOf]
  have len2 : ((bytesOf s).map (fun x => iand .u8 x 31)).length = s.size := by rw [List.length_map, length_bytesOf]
  have a0 := app_all (L := address_Checksum.l0 s) (n := s.size) (g := fun t => ishr .u8 (sg s t) 5) (by omega) (fun k xs t => rfl) [] (by simp)
  have a1 := app_all (L := address_Checksum.l1 s) (n := s.size) (g := fun t => iand .u8 (sg s t) 31) (by omega) (fun k xs t => rfl) ((bytesOf s).map (fun x => ishr .u8 x 5) ++ [0]) (by rw [List.length_append, len1]; simp; omega)
  have a2 := app_all (L := address_Checksum.l2 d) (n := d.length) (g := fun t => iand .u8 (d.getD t.toNat 0) 31) (by omega) (fun k xs t => rfl) ((bytesOf s).map (fun x => ishr .u8 x 5) ++ [0] ++ (bytesOf s).map (fun x => iand .u8 x 31)) (by rw [List.length_append, List.length_append, len1, len2]; simp; omega)
  have b0 := app_all (L := ref27_Checksum.l0 s) (n := s.size) (g := fun t => ishr .u8 (sg s t) 5) (by omega) (fun k xs t => rfl) [] (by simp)
  have b1 := app_all (L := ref27_Checksum.l1 s) (n := s.size) (g := fun t => iand .u8 (sg s t) 31) (by omega) (fun k xs t => rfl) ((bytesOf s).map (fun x => ishr .u8 x 5) ++ [0]) (by rw [List.length_append, len1]; simp; omega)
  have b2 := app_all (L := ref27_Checksum.l2 d) (n := d.length) (g := fun t => iand .u8 (d.getD t.toNat 0) 31) (by omega) (fun k xs t => rfl) ((bytesOf s).map (fun x => ishr .u8 x 5) ++ [0] ++ (bytesOf s).map (fun x => iand .u8 x 31)) (by rw [List.length_append, List.length_append, len1, len2]; simp; omega)
  simp only [map_range_sg s (fun x => ishr .u8 x 5), map_range_sg s (fun x => iand .u8 x 31), map_range_getD d (fun x => iand .u8 x 31), List.nil_append] at a0 a1 a2 b0 b1 b2
  have lf : (fed s d).length = s.size + 1 + s.size + d.length := by
    unfold fed
    simp only [List.length_append, len1, len2, List.length_map, List.length_cons, List.length_nil]
  have hr := rem_ok (fed s d ++ [0, 0, 0, 0, 0, 0]) (by rw [List.length_append, lf]; simp; omega)
  refine ((((a0.and a1).and (a2.and b0)).and ((b1.and b2).and hr)).and (Ev.of (p := fun k => ∃ q, k = q + 7) 7 fun k => ⟨k, rfl⟩)).mono ?_
  rintro k ⟨⟨⟨⟨h1, h2⟩, h3, h4⟩, ⟨h5, h6⟩, h7, h8⟩, q, rfl⟩
  have e6 : (Vector.replicate 6 0 : Vector Int 6).toList = [0, 0, 0, 0, 0, 0] := rfl
  constructor
  · unfold address_Checksum.f
    rw [h1, Option.bind_some, if_pos (by rw [len1]; omega), h2, Option.bind_some, h3, Option.bind_some]
    change (if ((fed s d).length + 6) * 1 ≤ 140737488355328 then ((address_remainder.f (q + 7) (fed s d ++ (Vector.replicate 6 0 : Vector Int 6).toList)).bind fun r668 => (Option.bind (α := (Vector Int 6)) (address_Checksum.l3 r668 (q + 7) (Vector.replicate 6 0 : Vector Int 6) 0) (fun x713 => (some x713)))) else none) = _
    rw [if_pos (by rw [lf]; omega), e6, h7, Option.bind_some, sixA]
    rfl
  · unfold ref27_Checksum.f
    rw [h4, Option.bind_some, if_pos (by rw [len1]; omega), h5, Option.bind_some, h6, Option.bind_some]
    change (if ((fed s d).length + 6) * 1 ≤ 140737488355328 then ((ref27_remainder.f (q + 7) (fed s d ++ [(0 : Int), (0 : Int), (0 : Int), (0 : Int), (0 : Int), (0 : Int)])).bind fun r668 => (Option.bind (α := (Vector Int 6)) (ref27_Checksum.l3 r668 (q + 7) (Vector.replicate 6 0 : Vector Int 6) 0) (fun x713 => (some x713)))) else none) = _
    rw [if_pos (by rw [lf]; omega), h8, Option.bind_some, sixR]
    rfl
theorem addressSums_true (s : ByteArray) (n : Int) (d : List Int) : ∃ k, law27_AddressSums.f k s n d = some true := by
  have hsane : Ev fun k => law27_sane.f k = some true := Ev.of 40 sane27
  by_cases hs : s.size ≤ 30 ∧ d.length ≤ 200
  · obtain ⟨p, hp, hpf⟩ := prefix5 n
    have hsz := five_size p hp
    obtain ⟨k, ⟨h1, h2⟩, ⟨h3, h4⟩, h5⟩ := ((sum_ok s d (by omega) (by omega)).and ((sum_ok p d (by omega) (by omega)).and hsane)).get
    refine ⟨k, ?_⟩
    unfold law27_AddressSums.f
    rw [h5, Option.bind_some, if_neg (by decide), if_neg (by simp; omega), Option.bind_some, if_neg (by simp; omega), h1, Option.bind_some, h2, Option.bind_some, if_pos (by simp), hpf, Option.bind_some, h3, Option.bind_some, Option.bind_some, h4, Option.bind_some, Option.bind_some]
    simp
  · obtain ⟨k, h5⟩ := hsane.get
    refine ⟨k, ?_⟩
    unfold law27_AddressSums.f
    rw [h5, Option.bind_some, if_neg (by decide)]
    by_cases h1 : s.size > 30
    · rw [if_pos (by simp; omega)]; rfl
    · rw [if_neg (by simp; omega), Option.bind_some, if_pos (by simp; omega)]
end Go.Proofs.Ytmopbcfjnnchgaa.G
namespace Go.Proofs.Ytmopbcfjnnchgaa.addressSums
open Go Go.ChangeShapes Go.WideShapes Go.ChangeAt Go.RowKit
open Go.ChangeMaps (open_string shut_string)
theorem own : ownKnob Try.prog.godebug = none := by kernel_rfl
theorem laidOut : laidOutB Try.prog = true := by kernel_rfl
set_option maxRecDepth 100000 in
theorem lifted (os : Os) (started : os.Started) (H : Type) (enc : TypeId × Value → H) :
    ReturnsInHanded {} Try.checked os 5 .any (Rows.addressSumsSpec.pre6 enc Try.prog Try.f5 Rows.addressSumsRow.domain false) (Rows.addressSumsSpec.post enc Try.prog Try.f5 false true false false) := by
  refine returnsInHanded_of_change_sized (C := Try.checked) own started (by kernel_rfl) Try.func5
    (ChangeSpec.witness6 (enc := enc) (C := Try.checked) false ⟨#[], #[.string ByteArray.empty, .int .i64 0, .slice none 0 0], []⟩ 8 (by kernel_rfl) (by kernel_rfl) (by kernel_rfl) (by kernel_rfl)) ?_
  intro W base args ds gs before hval0 hW hcnd hsz0 _
  have hsz : (DataW.weightsEach Try.prog (Try.f5.params.toList ++ Rows.addressSumsSpec.plain.varTypes Try.prog) (ds ++ gs)).all (· ≤ reachBytes) = true := hsz0
  have hval : ∀ (j : Nat) t v, Try.f5.params[j]? = some t → args[j]? = some v → Value.okWide Try.prog W .any base t v := hval0
  have hW' := hW
  obtain ⟨p, q, hA0, hV, rfl, hfz, hnd⟩ := hW
  have hA : DataW.TrodAll enc Try.prog W 0 (fun _ => true) true Try.f5.params.toList args.toList ds p := hA0
  rw [Try.params5] at hA hval hsz
  obtain ⟨v0, vs0, d0, ds0, p0, q0, hargs, rfl, rfl, h0, r0⟩ := trodAll_cons hA
  obtain ⟨v1, vs1, d1, ds1, p1, q1, rfl, rfl, rfl, h1, r1⟩ := trodAll_cons r0
  obtain ⟨v2, vs2, d2, ds2, p2, q2, rfl, rfl, rfl, h2, r2⟩ := trodAll_cons r1
  obtain ⟨rfl, rfl, rfl⟩ := trodAll_nil r2
  obtain rfl : args = #[v0, v1, v2] := by cases args; simp_all
  obtain ⟨rfl, rfl⟩ := trodVars_none hV
  obtain ⟨a0, rfl, rfl, rfl, w0⟩ := open_string Try.underlying9 (hval 0 9 v0 rfl rfl) h0
  obtain ⟨a1, rfl, rfl, rfl, w1⟩ := open_int Try.underlying3 (hval 1 3 v1 rfl rfl) h1
  obtain ⟨A2, len2, cap2, rfl⟩ := okWide_slice Try.underlying22 (hval 2 22 v2 rfl rfl)
  have k2 := h2
  have lt2 : ∀ x ∈ p2, x.block < W.heap.size := by obtain ⟨m, hm⟩ := k2; exact DataW.trod_lt m _ _ _ hm
  have y2 : len2 * 1 ≤ 140737488351232 := PrintWords.sized_ints hsz (j := 2) (t := 22) rfl rfl Try.underlying22 Try.underlying5 (by kernel_rfl) (by kernel_rfl) h2
  obtain ⟨a2, hz2, rw2, cf2, wf2⟩ : ∃ zs : List Int, zs.length = len2 ∧ G.Row (G.Pl.int .u8) W A2 zs ∧ zs.length ≤ cap2 ∧ ∀ n ∈ zs, (Lit.int .u8 n).wf = true := by
    obtain ⟨fuel, hf⟩ := h2
    rcases open_ints Try.underlying22 Try.underlying5 (by kernel_rfl) hf with ⟨hcs, _⟩ | ⟨x, l, c, zs, hcs, _, hl, hm, hz, _, hcell, hwz⟩
    · simp [Value.cells] at hcs
      obtain ⟨rfl, rfl, rfl⟩ := hcs
      exact ⟨[], rfl, G.Row.nil _ _, Nat.zero_le _, fun _ h => by cases h⟩
    · simp [Value.cells] at hcs
      obtain ⟨rfl, rfl, rfl⟩ := hcs
      have hz' : zs.length = cap2 := by simpa using hz
      exact ⟨zs.take len2, by rw [List.length_take]; omega, G.row_take hcell (by omega), by rw [List.length_take]; omega, fun n hn => hwz n (List.mem_of_mem_take hn)⟩
  subst hz2
  clear hA0 hval0 hsz0 hsz
  obtain ⟨K, hK⟩ := G.addressSums_true a0 a1 a2
  refine (G.law27_AddressSums.calls K a0 a1 a2 [] _ true W ⟨A2, cap2, rfl, G.Ro.of rw2, cf2⟩ (G.Mem.nil W) hK).mono fun e W' he => ?_
  obtain ⟨v, rfl, rfl, hM⟩ := he
  have bel := hM.below
  exact ⟨_, rfl, _, _, _, [], _, [], hW', trodAll_mk1 (shut_bool Try.underlying4 _), (trodAll_cons_mk (shut_string Try.underlying9 w0) (trodAll_cons_mk (shut_int Try.underlying3 w1) (trodAll_cons_mk (Below.trod laidOut (by kernel_rfl) (of_decide_eq_true (by kernel_rfl)) k2 bel lt2) trodAll_mk0))), rfl, bel.frame _, fun h => by cases h⟩
theorem over : Rows.addressSumsRow.holds Try.pinned (OpenSpec.ofChange Rows.addressSumsSpec) :=
  OpenClaim.holds_of_wide 5 Try.f5 rfl rfl rfl rfl rfl rfl rfl ⟨rfl, rfl, rfl, rfl, rfl⟩ rfl rfl rfl rfl rfl (by kernel_rfl) Try.func5 (by kernel_rfl)
    (of_decide_eq_true (by kernel_rfl)) (by unfold Func.isWrapper; first | (rw [if_pos (by decide +kernel)]; kernel_rfl) | (rw [if_neg (by decide +kernel)]; exact ⟨rfl, rfl⟩))
    (fun os started H enc _ => lifted os started H enc)
theorem proved : Rows.AddressSumsSaid := over
#print axioms proved
end Go.Proofs.Ytmopbcfjnnchgaa.addressSums
namespace Go.Proofs.Ytmopbcfjnnchgaa
/-- The row, under a short name, for the claim. -/
theorem addressSums_holds : Rows.AddressSumsSaid := addressSums.proved
end Go.Proofs.Ytmopbcfjnnchgaa
