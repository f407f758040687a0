/- For every two lists of numbers and every number k: an adversary who has only k groups has at most k of the links. Conditions: none beyond the statement's own. -/
import Derived.Test.YtoogcdmdbogkeaaRows
import Derived.Test.YtoogcdmdbogkeaaFConnectEclipse
import Derived.WalkKit
import Derived.ProofKit
import Derived.OpenShut
import Derived.ShutString
import Derived.ChangeOld
import Derived.Below
import Derived.SizedLaws
import Derived.Test.YtoogcdmdbogkeaaWSized
set_option linter.unusedVariables false
set_option linter.unusedSimpArgs false
namespace Go.Proofs.Ytoogcdmdbogkeaa.PrintWords
/-- The name by which the row finds the word on a slice's weight. -/
theorem sized_ints {H : Type} {enc : TypeId × Value → H} {P : Program} {W : World} {base : Nat} {spare : Nat → Bool} {held : Bool} {t e : TypeId} {k : IntKind} {a : Option Addr} {len cap : Nat} {d : DataW H} {ps : List MemPlace} {ts : List TypeId} {ds : List (DataW H)} {j : Nat}
    (hsz : (DataW.weightsEach P ts ds).all (· ≤ reachBytes) = true) (ht : ts[j]? = some t) (hd : ds[j]? = some d) (hu : P.underlying t = some (.slice e)) (he : P.underlying e = some (.int k)) (hc : P.cellsOf e = 1) {B : Nat} (hB : P.bytesOf e = B)
    (h : DataW.Trod enc P W base spare held t (.slice a len cap) d ps) : len * B ≤ 140737488351232 :=
  Go.Proofs.YtoogcdmdbogkeaaW.PrintWords.sized_ints hsz ht hd hu he hc hB h
end Go.Proofs.Ytoogcdmdbogkeaa.PrintWords
namespace Go.Proofs.Ytoogcdmdbogkeaa.G
open Go Go.RowKit Go.Proofs
/-! ## of all laws: enough fuel -/
def Ev (p : Nat → Prop) : Prop := ∃ K, ∀ k, K ≤ k → p k
theorem Ev.mono {p q : Nat → Prop} (h : Ev p) (f : ∀ k, p k → q k) : Ev q := by
  obtain ⟨K, hK⟩ := h
  exact ⟨K, fun k hk => f k (hK k hk)⟩
theorem Ev.and {p q : Nat → Prop} (h : Ev p) (h2 : Ev q) : Ev fun k => p k ∧ q k := by
  obtain ⟨K, hK⟩ := h
  obtain ⟨L, hL⟩ := h2
  exact ⟨max K L, fun k hk => ⟨hK k (by omega), hL k (by omega)⟩⟩
theorem Ev.of {p : Nat → Prop} (K : Nat) (h : ∀ k, p (k + K)) : Ev p := ⟨K, fun k hk => by have := h (k - K); rwa [Nat.sub_add_cancel hk] at this⟩
theorem Ev.all {p : Nat → Prop} (h : ∀ k, p k) : Ev p := ⟨0, fun k _ => h k⟩
/-- behind one round -/
theorem Ev.succ {p : Nat → Prop} (h : Ev fun k => p (k + 1)) : Ev p := by
  obtain ⟨K, hK⟩ := h
  refine ⟨K + 1, fun k hk => ?_⟩
  have h1 := hK (k - 1) (by omega)
  have e : k - 1 + 1 = k := by omega
  rw [← e]
  exact h1
theorem Ev.get {p : Nat → Prop} (h : Ev p) : ∃ k, p k := by
  obtain ⟨K, hK⟩ := h
  exact ⟨K, hK K (Nat.le_refl _)⟩
theorem wr {x : Int} (h0 : -9223372036854775808 ≤ x) (h1 : x < 9223372036854775808) : IntKind.i64.wrap x = x := by
  simp only [IntKind.wrap, IntKind.bits, IntKind.signed]
  simp
  omega
theorem wr8 {x : Int} (h0 : 0 ≤ x) (h1 : x < 256) : IntKind.u8.wrap x = x := by
  simp only [IntKind.wrap, IntKind.bits, IntKind.signed]
  simp
  omega
theorem wr8_lt (x : Int) : 0 ≤ IntKind.u8.wrap x ∧ IntKind.u8.wrap x < 256 := by
  simp only [IntKind.wrap, IntKind.bits, IntKind.signed]
  simp
  omega
theorem wu64 {x : Int} (h0 : 0 ≤ x) (h1 : x < 18446744073709551616) : IntKind.u64.wrap x = x := by
  simp only [IntKind.wrap, IntKind.bits, IntKind.signed]
  simp
  omega

/-! ## words as numbers -/
theorem wrapu (k : IntKind) (hk : k.signed = false) (x : Nat) (h : x < 2 ^ k.bits) : k.wrap (x : Int) = x := by
  cases k <;> simp [IntKind.signed] at hk <;> simp [IntKind.wrap, IntKind.bits, IntKind.signed] at h ⊢ <;> omega
theorem wrapi (k : IntKind) (x : Nat) (h : x < 2 ^ (k.bits - 1)) : k.wrap (x : Int) = x := by
  cases k <;> simp [IntKind.wrap, IntKind.bits, IntKind.signed] at h ⊢ <;> omega
theorem ofInt_nat (n : Nat) (x : Nat) : BitVec.ofInt n (x : Int) = BitVec.ofNat n x := by simp
theorem iand_i (k : IntKind) (x y : Nat) (hx : x < 2 ^ (k.bits - 1)) (hy : y < 2 ^ (k.bits - 1)) : iand k (x : Int) (y : Int) = ((x &&& y : Nat) : Int) := by
  have hle : 2 ^ (k.bits - 1) ≤ 2 ^ k.bits := Nat.pow_le_pow_right (by decide) (by omega)
  unfold iand
  rw [ofInt_nat, ofInt_nat, BitVec.toNat_and, BitVec.toNat_ofNat, BitVec.toNat_ofNat, Nat.mod_eq_of_lt (by omega), Nat.mod_eq_of_lt (by omega)]
  exact wrapi k _ (Nat.lt_of_le_of_lt Nat.and_le_left hx)
theorem iand_u (k : IntKind) (hk : k.signed = false) (x y : Nat) (hx : x < 2 ^ k.bits) (hy : y < 2 ^ k.bits) : iand k (x : Int) (y : Int) = ((x &&& y : Nat) : Int) := by
  unfold iand
  rw [ofInt_nat, ofInt_nat, BitVec.toNat_and, BitVec.toNat_ofNat, BitVec.toNat_ofNat, Nat.mod_eq_of_lt hx, Nat.mod_eq_of_lt hy]
  exact wrapu k hk _ (Nat.lt_of_le_of_lt Nat.and_le_left hx)
theorem ior_i (k : IntKind) (x y : Nat) (hx : x < 2 ^ (k.bits - 1)) (hy : y < 2 ^ (k.bits - 1)) : ior k (x : Int) (y : Int) = ((x ||| y : Nat) : Int) := by
  have hle : 2 ^ (k.bits - 1) ≤ 2 ^ k.bits := Nat.pow_le_pow_right (by decide) (by omega)
  unfold ior
  rw [ofInt_nat, ofInt_nat, BitVec.toNat_or, BitVec.toNat_ofNat, BitVec.toNat_ofNat, Nat.mod_eq_of_lt (by omega), Nat.mod_eq_of_lt (by omega)]
  exact wrapi k _ (Nat.or_lt_two_pow hx hy)
theorem ior_u (k : IntKind) (hk : k.signed = false) (x y : Nat) (hx : x < 2 ^ k.bits) (hy : y < 2 ^ k.bits) : ior k (x : Int) (y : Int) = ((x ||| y : Nat) : Int) := by
  unfold ior
  rw [ofInt_nat, ofInt_nat, BitVec.toNat_or, BitVec.toNat_ofNat, BitVec.toNat_ofNat, Nat.mod_eq_of_lt hx, Nat.mod_eq_of_lt hy]
  exact wrapu k hk _ (Nat.or_lt_two_pow hx hy)
theorem ixor_u (k : IntKind) (hk : k.signed = false) (x y : Nat) (hx : x < 2 ^ k.bits) (hy : y < 2 ^ k.bits) : ixor k (x : Int) (y : Int) = ((x ^^^ y : Nat) : Int) := by
  unfold ixor
  rw [ofInt_nat, ofInt_nat, BitVec.toNat_xor, BitVec.toNat_ofNat, BitVec.toNat_ofNat, Nat.mod_eq_of_lt hx, Nat.mod_eq_of_lt hy]
  exact wrapu k hk _ (Nat.xor_lt_two_pow hx hy)
theorem ishr_n (k : IntKind) (x s : Nat) (hs : s ≤ k.bits) : ishr k (x : Int) (s : Int) = ((x / 2 ^ s : Nat) : Int) := by
  unfold ishr
  rw [Int.toNat_natCast, Nat.min_eq_left hs, show (2 : Int) ^ s = ((2 ^ s : Nat) : Int) by simp, Int.fdiv_eq_ediv_of_nonneg _ (Int.natCast_nonneg _)]
  exact (Int.natCast_ediv _ _).symm
theorem ishl_i (k : IntKind) (x s : Nat) (hs : s ≤ k.bits) (h : x * 2 ^ s < 2 ^ (k.bits - 1)) : ishl k (x : Int) (s : Int) = ((x * 2 ^ s : Nat) : Int) := by
  unfold ishl
  rw [Int.toNat_natCast, Nat.min_eq_left hs, show (2 : Int) ^ s = ((2 ^ s : Nat) : Int) by simp, ← Int.natCast_mul]
  exact wrapi k _ h
theorem ishl_u (k : IntKind) (hk : k.signed = false) (x s : Nat) (hs : s ≤ k.bits) (h : x * 2 ^ s < 2 ^ k.bits) : ishl k (x : Int) (s : Int) = ((x * 2 ^ s : Nat) : Int) := by
  unfold ishl
  rw [Int.toNat_natCast, Nat.min_eq_left hs, show (2 : Int) ^ s = ((2 ^ s : Nat) : Int) by simp, ← Int.natCast_mul]
  exact wrapu k hk _ h
theorem wf_nat {k : IntKind} {x : Int} (hk : k.signed = false) (h : (Lit.int k x).wf = true) : ∃ n : Nat, x = n ∧ n < 2 ^ k.bits := by
  refine ⟨x.toNat, ?_⟩
  cases k <;> simp [IntKind.signed] at hk <;> simp [Lit.wf, IntKind.min, IntKind.max, IntKind.bits, IntKind.signed] at h ⊢ <;> omega

/-! ## sip and its reference -/
def rot (x c : Int) : Int := ior .u64 (ishl .u64 x (iand .u64 (IntKind.u64.wrap c) 63)) (ishr .u64 x (IntKind.u64.wrap (64 - (iand .u64 (IntKind.u64.wrap c) 63))))
theorem rot_ok (k : Nat) (x c : Int) (h1 : 0 ≤ iand .u64 (IntKind.u64.wrap c) 63) (h2 : 0 ≤ IntKind.u64.wrap (64 - (iand .u64 (IntKind.u64.wrap c) 63))) : bits_RotateLeft64.f k x c = some (rot x c) := by
  unfold bits_RotateLeft64.f
  rw [if_pos h1, if_pos h2]
  rfl
theorem rot13 (k : Nat) (x : Int) : bits_RotateLeft64.f k x 13 = some (rot x 13) := rot_ok k x 13 (by decide) (by decide)
theorem rot16 (k : Nat) (x : Int) : bits_RotateLeft64.f k x 16 = some (rot x 16) := rot_ok k x 16 (by decide) (by decide)
theorem rot17 (k : Nat) (x : Int) : bits_RotateLeft64.f k x 17 = some (rot x 17) := rot_ok k x 17 (by decide) (by decide)
theorem rot21 (k : Nat) (x : Int) : bits_RotateLeft64.f k x 21 = some (rot x 21) := rot_ok k x 21 (by decide) (by decide)
theorem rot32 (k : Nat) (x : Int) : bits_RotateLeft64.f k x 32 = some (rot x 32) := rot_ok k x 32 (by decide) (by decide)
def toV (w : sip_words) : Vector Int 4 := #v[w.v0, w.v1, w.v2, w.v3]
theorem g0 (a b c d : Int) : vg (#v[a, b, c, d] : Vector Int 4) 0 = a := rfl
theorem g1 (a b c d : Int) : vg (#v[a, b, c, d] : Vector Int 4) 1 = b := rfl
theorem g2 (a b c d : Int) : vg (#v[a, b, c, d] : Vector Int 4) 2 = c := rfl
theorem g3 (a b c d : Int) : vg (#v[a, b, c, d] : Vector Int 4) 3 = d := rfl
theorem s0 (a b c d x : Int) : vs (#v[a, b, c, d] : Vector Int 4) 0 x = #v[x, b, c, d] := rfl
theorem s1 (a b c d x : Int) : vs (#v[a, b, c, d] : Vector Int 4) 1 x = #v[a, x, c, d] := rfl
theorem s2 (a b c d x : Int) : vs (#v[a, b, c, d] : Vector Int 4) 2 x = #v[a, b, x, d] := rfl
theorem s3 (a b c d x : Int) : vs (#v[a, b, c, d] : Vector Int 4) 3 x = #v[a, b, c, x] := rfl
theorem round_eq (k k' : Nat) (w : sip_words) : ∃ u, sip_words_round.f k w = some u ∧ ref04_round.f k' (toV w) = some (toV u) := by
  refine ⟨_, by unfold sip_words_round.f; simp only [rot13, rot16, rot17, rot21, rot32, Option.bind_some]; rfl, ?_⟩
  unfold ref04_round.f toV
  simp only [rot13, rot16, rot17, rot21, rot32, Option.bind_some, g0, g1, g2, g3, s0, s1, s2, s3]
theorem take_eq (k k' : Nat) (w : sip_words) (m : Int) : ∃ u, sip_words_take.f k w m = some u ∧ ref04_absorb.f k' (toV w) m = some (toV u) := by
  obtain ⟨a, a1, a2⟩ := round_eq k k' ⟨w.v0, w.v1, w.v2, ixor .u64 w.v3 m⟩
  obtain ⟨b, b1, b2⟩ := round_eq k k' a
  refine ⟨⟨ixor .u64 b.v0 m, b.v1, b.v2, b.v3⟩, by unfold sip_words_take.f; simp only [a1, b1, Option.bind_some], ?_⟩
  unfold ref04_absorb.f
  have e : vs (toV w) 3 (ixor .u64 (vg (toV w) 3) m) = toV ⟨w.v0, w.v1, w.v2, ixor .u64 w.v3 m⟩ := rfl
  rw [e, a2, Option.bind_some, b2, Option.bind_some]
  rfl
theorem word_l (b : List Int) (hb : b.length ≤ 8) : ∀ (m k k' : Nat) (t i : Int), 0 ≤ i → i ≤ (b.length : Int) → (b.length : Int) - i ≤ m → ∃ r, sip_word.l0 b (k + m + 1) t i = some r ∧ ref04_word.l0 b (k' + m + 1) t i = some r
  | 0, k, k', t, i, h0, h1, h2 => ⟨t, by rw [sip_word.l0, if_neg (by simp; omega)], by rw [ref04_word.l0, if_neg (by simp; omega)]⟩
  | m + 1, k, k', t, i, h0, h1, h2 => by
    by_cases hi : i < (b.length : Int)
    · obtain ⟨r, e1, e2⟩ := word_l b hb m k k' (ior .u64 t (ishl .u64 (IntKind.u64.wrap (b.getD i.toNat (0 : Int))) (IntKind.i64.wrap (8 * i)))) (i + 1) (by omega) (by omega) (by omega)
      have hw : IntKind.i64.wrap (i + 1) = i + 1 := wr (by omega) (by omega)
      have hw8 : 0 ≤ IntKind.i64.wrap (8 * i) := by rw [wr (by omega) (by omega)]; omega
      refine ⟨r, ?_, ?_⟩
      · rw [sip_word.l0, if_pos (by simpa using hi), if_pos ⟨h0, hi⟩, if_pos hw8, hw]; exact e1
      · rw [ref04_word.l0, if_pos (by simpa using hi), if_pos ⟨h0, hi⟩, if_pos hw8, hw]; exact e2
    · exact ⟨t, by rw [sip_word.l0, if_neg (by simpa using hi)], by rw [ref04_word.l0, if_neg (by simpa using hi)]⟩
theorem word_eq (k k' : Nat) (b : List Int) (hb : b.length ≤ 8) : ∃ r, sip_word.f (k + 9) b = some r ∧ ref04_word.f (k' + 9) b = some r := by
  obtain ⟨r, e1, e2⟩ := word_l b hb 8 k k' 0 0 (by omega) (by omega) (by omega)
  exact ⟨r, by rw [sip_word.f, e1]; rfl, by rw [ref04_word.f, e2]; rfl⟩
theorem sum_l : ∀ (m k k' : Nat) (b : List Int) (w : sip_words), b.length ≤ m → ∃ c u, sip_Sum.l0 (k + 9 + m + 1) b w = some (c, u) ∧ ref04_Sum.l0 (k' + 9 + m + 1) b (toV w) = some (c, toV u) ∧ c.length ≤ 8
  | 0, k, k', b, w, h => ⟨b, w, by rw [sip_Sum.l0, if_neg (by simp; omega)], by rw [ref04_Sum.l0, if_neg (by simp; omega)], by omega⟩
  | m + 1, k, k', b, w, h => by
    by_cases h8 : (b.length : Int) ≥ 8
    · obtain ⟨x, x1, x2⟩ := word_eq (k + (m + 1)) (k' + (m + 1)) (b.take (8 : Int).toNat) (by simp; omega)
      obtain ⟨u, u1, u2⟩ := take_eq (k + 9 + (m + 1)) (k' + 9 + (m + 1)) w x
      obtain ⟨c, v, v1, v2, v3⟩ := sum_l m k k' (b.drop (8 : Int).toNat) u (by simp; omega)
      rw [show k + (m + 1) + 9 = k + 9 + (m + 1) by omega] at x1
      rw [show k' + (m + 1) + 9 = k' + 9 + (m + 1) by omega] at x2
      refine ⟨c, v, ?_, ?_, v3⟩
      · rw [sip_Sum.l0, if_pos (by simpa using h8), if_pos (by omega), x1, Option.bind_some, u1, Option.bind_some, if_pos (by omega)]; exact v1
      · rw [ref04_Sum.l0, if_pos (by simpa using h8), if_pos (by omega), if_pos (by omega), x2, Option.bind_some, u2, Option.bind_some]; exact v2
    · exact ⟨b, w, by rw [sip_Sum.l0, if_neg (by simpa using h8)], by rw [ref04_Sum.l0, if_neg (by simpa using h8)], by omega⟩
theorem sum_eq (k k' : Nat) (key : Vector Int 2) (b : List Int) (hb : b.length ≤ 3000) : ∃ r, sip_Sum.f (k + 3010) key b = some r ∧ ref04_Sum.f (k' + 3010) key b = some r := by
  obtain ⟨c, u, e1, e2, hc⟩ := sum_l 3000 k k' b (sip_words.mk (ixor .u64 (vg key (0 : Int)) 8317987319222330741) (ixor .u64 (vg key (1 : Int)) 7237128888997146477) (ixor .u64 (vg key (0 : Int)) 7816392313619706465) (ixor .u64 (vg key (1 : Int)) 8387220255154660723)) hb
  obtain ⟨x, x1, x2⟩ := word_eq (k + 3001) (k' + 3001) c hc
  have hlen : ishl .u64 (IntKind.u64.wrap ((b.length : Int).tmod 256)) 56 = ishl .u64 (IntKind.u64.wrap (b.length : Int)) 56 := by
    have : (b.length : Int).tmod 256 = (b.length : Int) % 256 := Int.tmod_eq_emod_of_nonneg (by omega)
    rw [this]
    simp only [ishl, IntKind.wrap, IntKind.bits, IntKind.signed]
    simp
    omega
  obtain ⟨u1, f1, f2⟩ := take_eq (k + 3010) (k' + 3010) u (ior .u64 x (ishl .u64 (IntKind.u64.wrap (b.length : Int)) 56))
  obtain ⟨r1, p1, q1⟩ := round_eq (k + 3009) (k' + 3010) ⟨u1.v0, u1.v1, ixor .u64 u1.v2 255, u1.v3⟩
  obtain ⟨r2, p2, q2⟩ := round_eq (k + 3008) (k' + 3010) r1
  obtain ⟨r3, p3, q3⟩ := round_eq (k + 3007) (k' + 3010) r2
  obtain ⟨r4, p4, q4⟩ := round_eq (k + 3006) (k' + 3010) r3
  have hl1 : sip_Sum.l1 (k + 3010) ⟨u1.v0, u1.v1, ixor .u64 u1.v2 255, u1.v3⟩ 0 = some r4 := by
    rw [show k + 3010 = k + 3009 + 1 by omega, sip_Sum.l1, if_pos (by decide), p1, Option.bind_some, show IntKind.i64.wrap (0 + 1) = 1 by decide, show k + 3009 = k + 3008 + 1 by omega, sip_Sum.l1, if_pos (by decide), p2, Option.bind_some, show IntKind.i64.wrap (1 + 1) = 2 by decide,
      show k + 3008 = k + 3007 + 1 by omega, sip_Sum.l1, if_pos (by decide), p3, Option.bind_some, show IntKind.i64.wrap (2 + 1) = 3 by decide, show k + 3007 = k + 3006 + 1 by omega, sip_Sum.l1, if_pos (by decide), p4, Option.bind_some, show IntKind.i64.wrap (3 + 1) = 4 by decide, show k + 3006 = k + 3005 + 1 by omega, sip_Sum.l1, if_neg (by decide)]
  refine ⟨ixor .u64 (ixor .u64 (ixor .u64 r4.v0 r4.v1) r4.v2) r4.v3, ?_, ?_⟩
  · rw [sip_Sum.f, show k + 3010 = k + 9 + 3000 + 1 by omega, e1, Option.bind_some]
    dsimp only
    rw [show k + 9 + 3000 + 1 = k + 3001 + 9 by omega, x1, Option.bind_some, show k + 3001 + 9 = k + 3010 by omega, f1, Option.bind_some, hl1, Option.bind_some]
  · rw [ref04_Sum.f, show k' + 3010 = k' + 9 + 3000 + 1 by omega]
    have e3 : ((((((Vector.replicate 4 0 : Vector Int 4).setIfInBounds 0 (ixor .u64 (vg key (0 : Int)) 8317987319222330741)).setIfInBounds 1 (ixor .u64 (vg key (1 : Int)) 7237128888997146477)).setIfInBounds 2 (ixor .u64 (vg key (0 : Int)) 7816392313619706465)).setIfInBounds 3 (ixor .u64 (vg key (1 : Int)) 8387220255154660723))) = toV (sip_words.mk (ixor .u64 (vg key (0 : Int)) 8317987319222330741) (ixor .u64 (vg key (1 : Int)) 7237128888997146477) (ixor .u64 (vg key (0 : Int)) 7816392313619706465) (ixor .u64 (vg key (1 : Int)) 8387220255154660723)) := rfl
    rw [e3, e2, Option.bind_some]
    dsimp only
    have e4 : vs (toV u1) 2 (ixor .u64 (vg (toV u1) 2) 255) = toV ⟨u1.v0, u1.v1, ixor .u64 u1.v2 255, u1.v3⟩ := rfl
    rw [show k' + 9 + 3000 + 1 = k' + 3001 + 9 by omega, x2, Option.bind_some, hlen, show k' + 3001 + 9 = k' + 3010 by omega, f2, Option.bind_some, e4, q1, Option.bind_some, q2, Option.bind_some, q3, Option.bind_some, q4, Option.bind_some]
    rfl

/-! ## the buckets of addresses, by the program and by the reference -/
def hs (key : Vector Int 2) (b : List Int) : Int := (sip_Sum.f 3010 key b).getD 0
theorem hs_ok (key : Vector Int 2) (b : List Int) (hb : b.length ≤ 3000) (k : Nat) (hk : 3010 ≤ k) : sip_Sum.f k key b = some (hs key b) ∧ ref04_Sum.f k key b = some (hs key b) := by
  obtain ⟨q, rfl⟩ : ∃ q, k = q + 3010 := ⟨k - 3010, by omega⟩
  obtain ⟨r, h1, h2⟩ := sum_eq q q key b hb
  obtain ⟨r', h3, h4⟩ := sum_eq 0 q key b hb
  have e : r' = r := by rw [h2] at h4; exact (Option.some.inj h4).symm
  have e3 : sip_Sum.f 3010 key b = some r' := h3
  unfold hs
  rw [e3, e, h1, h2]
  exact ⟨rfl, rfl⟩
def kw (h : Vector Int 32) : Vector Int 2 := (sip_Key.f 9 h).getD (Vector.replicate 2 0)
theorem word_val (b : List Int) (hb : b.length ≤ 8) (k : Nat) (hk : 9 ≤ k) : sip_word.f k b = some ((sip_word.f 9 b).getD 0) ∧ ref04_word.f k b = some ((sip_word.f 9 b).getD 0) := by
  obtain ⟨q, rfl⟩ : ∃ q, k = q + 9 := ⟨k - 9, by omega⟩
  obtain ⟨r, h1, h2⟩ := word_eq q q b hb
  obtain ⟨r', h3, h4⟩ := word_eq 0 q b hb
  have e : r' = r := by rw [h2] at h4; exact (Option.some.inj h4).symm
  have e3 : sip_word.f 9 b = some r' := h3
  rw [e3, e, h1, h2]
  exact ⟨rfl, rfl⟩
theorem kw_ok (h : Vector Int 32) (k : Nat) (hk : 9 ≤ k) : sip_Key.f k h = some (kw h) ∧ ref04_Key.f k h = some (kw h) := by
  have l1 : (h.toList.take 8).length ≤ 8 := by rw [List.length_take]; omega
  have l2 : ((h.toList.take 16).drop 8).length ≤ 8 := by rw [List.length_drop, List.length_take]; omega
  have a1 := word_val _ l1 k hk
  have a2 := word_val _ l2 k hk
  have b1 := word_val _ l1 9 (Nat.le_refl _)
  have b2 := word_val _ l2 9 (Nat.le_refl _)
  unfold kw sip_Key.f ref04_Key.f
  rw [a1.1, a2.1, a1.2, a2.2]
  simp only [Option.bind_some]
  generalize (sip_word.f 9 (h.toList.take 8)).getD 0 = x at *
  generalize (sip_word.f 9 ((h.toList.take 16).drop 8)).getD 0 = y at *
  rw [b1.1, b2.1]
  simp
def bt (n i : Int) : Int := IntKind.u8.wrap (ishr .u64 (IntKind.u64.wrap n) (8 * i))
theorem put32_ok (b : List Int) (n : Int) (hb : b.length ≤ 1000) (k : Nat) : codec_AppendU32.f (k + 5) b n = some (b ++ [bt n 0, bt n 1, bt n 2, bt n 3]) := by
  have st : ∀ (k : Nat) (xs : List Int) (t : Int), xs.length ≤ 2000 → 0 ≤ t → t < 4 → codec_put_uint32.l0 n 4 (k + 1) xs t = codec_put_uint32.l0 n 4 k (xs ++ [bt n t]) (t + 1) := fun k xs t hx h0 h1 => by
    rw [codec_put_uint32.l0, if_pos (by simpa using h1), wr (x := 8 * t) (by omega) (by omega), if_pos (by omega), if_pos (by omega), wr (by omega) (by omega)]
    rfl
  unfold codec_AppendU32.f codec_put_uint32.f
  rw [wr (by omega) (by omega), if_pos (by omega), if_pos (by omega)]
  rw [st (k + 4) _ 0 (by simp; omega) (by decide) (by decide), st (k + 3) _ (0 + 1) (by simp; omega) (by decide) (by decide), st (k + 2) _ (0 + 1 + 1) (by simp; omega) (by decide) (by decide), st (k + 1) _ (0 + 1 + 1 + 1) (by simp; omega) (by decide) (by decide), codec_put_uint32.l0, if_neg (by decide)]
  simp
theorem put16_ok (b : List Int) (n : Int) (hb : b.length ≤ 1000) (k : Nat) : codec_AppendU16.f (k + 5) b n = some (b ++ [bt n 0, bt n 1]) := by
  have st : ∀ (k : Nat) (xs : List Int) (t : Int), xs.length ≤ 2000 → 0 ≤ t → t < 2 → codec_put_uint16.l0 n 2 (k + 1) xs t = codec_put_uint16.l0 n 2 k (xs ++ [bt n t]) (t + 1) := fun k xs t hx h0 h1 => by
    rw [codec_put_uint16.l0, if_pos (by simpa using h1), wr (x := 8 * t) (by omega) (by omega), if_pos (by omega), if_pos (by omega), wr (by omega) (by omega)]
    rfl
  unfold codec_AppendU16.f codec_put_uint16.f
  rw [wr (by omega) (by omega), if_pos (by omega), if_pos (by omega)]
  rw [st (k + 4) _ 0 (by simp; omega) (by decide) (by decide), st (k + 3) _ (0 + 1) (by simp; omega) (by decide) (by decide), codec_put_uint16.l0, if_neg (by decide)]
  simp
theorem u64u64 (n : Int) : IntKind.u64.wrap (IntKind.u64.wrap n) = IntKind.u64.wrap n := by
  simp only [IntKind.wrap, IntKind.bits, IntKind.signed]
  simp
theorem joined_ok (k : Nat) (a b : List Int) (ha : a.length ≤ 1000) (hb : b.length ≤ 1000) : ref01_joined.f k a b = some (a ++ b) := by
  unfold ref01_joined.f
  rw [wr (by omega) (by omega), if_pos (by omega), if_pos (by omega), if_pos (by omega)]
  simp
theorem rput32_ok (b : List Int) (n : Int) (hb : b.length ≤ 1000) (k : Nat) : ref01_AppendU32.f (k + 5) b n = some (b ++ [bt n 0, bt n 1, bt n 2, bt n 3]) := by
  have st : ∀ (k : Nat) (xs : List Int) (t : Int), 0 ≤ t → t < 4 → ref01_little.l0 (IntKind.u64.wrap n) 4 (k + 1) xs t = ref01_little.l0 (IntKind.u64.wrap n) 4 k (xs.set t.toNat (bt n t)) (t + 1) := fun k xs t h0 h1 => by
    rw [ref01_little.l0, if_pos (by simpa using h1), wr (x := 8 * t) (by omega) (by omega), if_pos (by omega), if_pos ⟨h0, by simpa using h1⟩, wr (by omega) (by omega)]
    rfl
  have hl : ref01_little.f (k + 5) (IntKind.u64.wrap n) 4 = some [bt n 0, bt n 1, bt n 2, bt n 3] := by
    unfold ref01_little.f
    rw [if_pos (by decide), st (k + 4) _ 0 (by decide) (by decide), st (k + 3) _ (0 + 1) (by decide) (by decide), st (k + 2) _ (0 + 1 + 1) (by decide) (by decide), st (k + 1) _ (0 + 1 + 1 + 1) (by decide) (by decide), ref01_little.l0, if_neg (by decide)]
    rfl
  unfold ref01_AppendU32.f
  rw [hl, Option.bind_some, joined_ok _ _ _ hb (by simp)]
  rfl
theorem rput16_ok (b : List Int) (n : Int) (hb : b.length ≤ 1000) (k : Nat) : ref01_AppendU16.f (k + 5) b n = some (b ++ [bt n 0, bt n 1]) := by
  have st : ∀ (k : Nat) (xs : List Int) (t : Int), 0 ≤ t → t < 2 → ref01_little.l0 (IntKind.u64.wrap n) 2 (k + 1) xs t = ref01_little.l0 (IntKind.u64.wrap n) 2 k (xs.set t.toNat (bt n t)) (t + 1) := fun k xs t h0 h1 => by
    rw [ref01_little.l0, if_pos (by simpa using h1), wr (x := 8 * t) (by omega) (by omega), if_pos (by omega), if_pos ⟨h0, by simpa using h1⟩, wr (by omega) (by omega)]
    rfl
  have hl : ref01_little.f (k + 5) (IntKind.u64.wrap n) 2 = some [bt n 0, bt n 1] := by
    unfold ref01_little.f
    rw [if_pos (by decide), st (k + 4) _ 0 (by decide) (by decide), st (k + 3) _ (0 + 1) (by decide) (by decide), ref01_little.l0, if_neg (by decide)]
    rfl
  unfold ref01_AppendU16.f
  rw [hl, Option.bind_some, joined_ok _ _ _ hb (by simp)]
  rfl
def ap32 (b : List Int) (n : Int) : List Int := b ++ [bt n 0, bt n 1, bt n 2, bt n 3]
def ap16 (b : List Int) (n : Int) : List Int := b ++ [bt n 0, bt n 1]
def grp (a : NAddr) : Int := ishr .u32 a.Host 16
/-- the bucket among those that were heard of -/
def HB (salt : Vector Int 32) (a : NAddr) (src : Int) : Int := IntKind.i64.wrap ((hs (kw salt) (ap32 (ap32 [1] src) (IntKind.u32.wrap ((hs (kw salt) (ap32 (ap32 [2] (grp a)) src)).tmod 4)))).tmod 64)
/-- .. among those that were tried -/
def TB (salt : Vector Int 32) (a : NAddr) : Int := IntKind.i64.wrap ((hs (kw salt) (ap32 (ap32 [3] (grp a)) (IntKind.u32.wrap ((hs (kw salt) (ap16 (ap32 [4] a.Host) a.Port)).tmod 4)))).tmod 64)
theorem ap32_len (b : List Int) (n : Int) : (ap32 b n).length = b.length + 4 := by simp [ap32]
theorem p32 (b : List Int) (n : Int) (hb : b.length ≤ 1000) (k : Nat) (hk : 5 ≤ k) : codec_AppendU32.f k b n = some (ap32 b n) ∧ ref01_AppendU32.f k b n = some (ap32 b n) := by
  obtain ⟨q, rfl⟩ : ∃ q, k = q + 5 := ⟨k - 5, by omega⟩
  exact ⟨put32_ok b n hb q, rput32_ok b n hb q⟩
theorem p16 (b : List Int) (n : Int) (hb : b.length ≤ 1000) (k : Nat) (hk : 5 ≤ k) : codec_AppendU16.f k b n = some (ap16 b n) ∧ ref01_AppendU16.f k b n = some (ap16 b n) := by
  obtain ⟨q, rfl⟩ : ∃ q, k = q + 5 := ⟨k - 5, by omega⟩
  exact ⟨put16_ok b n hb q, rput16_ok b n hb q⟩
theorem hash_ok (salt : Vector Int 32) (c a b : Int) (k : Nat) (hk : 3010 ≤ k) : addrbook_hash.f k salt c a b = some (hs (kw salt) (ap32 (ap32 [c] a) b)) := by
  unfold addrbook_hash.f
  rw [(kw_ok salt k (by omega)).1, Option.bind_some, (p32 [c] a (by simp) k (by omega)).1, Option.bind_some, (p32 _ b (by rw [ap32_len]; simp) k (by omega)).1, Option.bind_some, (hs_ok _ _ (by rw [ap32_len, ap32_len]; simp) k hk).1]
  rfl
theorem HB_A (salt : Vector Int 32) (a : NAddr) (src : Int) (k : Nat) (hk : 3010 ≤ k) : addrbook_HeardBucket.f k salt a src = some (HB salt a src) := by
  unfold addrbook_HeardBucket.f addrbook_Group.f
  rw [Option.bind_some, hash_ok _ _ _ _ k hk, Option.bind_some, hash_ok _ _ _ _ k hk]
  rfl
theorem HB_R (salt : Vector Int 32) (a : NAddr) (src : Int) (k : Nat) (hk : 3010 ≤ k) : ref38_HeardBucket.f k salt a src = some (HB salt a src) := by
  unfold ref38_HeardBucket.f ref38_Group.f
  rw [(kw_ok salt k (by omega)).2, Option.bind_some, Option.bind_some, (p32 [2] _ (by simp) k (by omega)).2, Option.bind_some, (p32 _ src (by rw [ap32_len]; simp) k (by omega)).2, Option.bind_some, (hs_ok _ _ (by rw [ap32_len, ap32_len]; simp) k hk).2, Option.bind_some, Option.bind_some, (p32 [1] _ (by simp) k (by omega)).2, Option.bind_some, (p32 _ _ (by rw [ap32_len]; simp) k (by omega)).2, Option.bind_some, (hs_ok _ _ (by rw [ap32_len, ap32_len]; simp) k hk).2]
  rfl
theorem TB_A (salt : Vector Int 32) (a : NAddr) (k : Nat) (hk : 3010 ≤ k) : addrbook_TriedBucket.f k salt a = some (TB salt a) := by
  unfold addrbook_TriedBucket.f addrbook_Group.f
  rw [(kw_ok salt k (by omega)).1, Option.bind_some, (p32 [4] _ (by simp) k (by omega)).1, Option.bind_some, (p16 _ _ (by rw [ap32_len]; simp) k (by omega)).1, Option.bind_some, (hs_ok _ _ (by simp [ap16, ap32_len]) k hk).1, Option.bind_some, Option.bind_some, Option.bind_some, hash_ok _ _ _ _ k hk]
  rfl
theorem TB_R (salt : Vector Int 32) (a : NAddr) (k : Nat) (hk : 3010 ≤ k) : ref38_TriedBucket.f k salt a = some (TB salt a) := by
  unfold ref38_TriedBucket.f ref38_Group.f
  rw [(kw_ok salt k (by omega)).2, Option.bind_some, (p32 [4] _ (by simp) k (by omega)).2, Option.bind_some, (p16 _ _ (by rw [ap32_len]; simp) k (by omega)).2, Option.bind_some, (hs_ok _ _ (by simp [ap16, ap32_len]) k hk).2, Option.bind_some, Option.bind_some, (p32 [3] _ (by simp) k (by omega)).2, Option.bind_some, (p32 _ _ (by rw [ap32_len]; simp) k (by omega)).2, Option.bind_some, (hs_ok _ _ (by rw [ap32_len, ap32_len]; simp) k hk).2]
  rfl

/-! ## tables -/
def sm (a b : NAddr) : Bool := if (a.Host == b.Host) = true then a.Port == b.Port else false
theorem sm_iff (a b : NAddr) : sm a b = true ↔ a.Host = b.Host ∧ a.Port = b.Port := by
  unfold sm
  by_cases h : a.Host = b.Host <;> simp [h]
theorem sm_refl (a : NAddr) : sm a a = true := (sm_iff a a).2 ⟨rfl, rfl⟩
theorem sm_symm (a b : NAddr) : sm a b = sm b a := by
  rw [Bool.eq_iff_iff, sm_iff, sm_iff]
  constructor <;> rintro ⟨h1, h2⟩ <;> exact ⟨h1.symm, h2.symm⟩
theorem same_ok (k : Nat) (a b : NAddr) : addrbook_same.f k a b = some (sm a b) ∧ ref38_same.f k a b = some (sm a b) := by
  unfold addrbook_same.f ref38_same.f sm
  by_cases h : (a.Host == b.Host) = true
  · rw [if_pos h, if_pos h]; exact ⟨rfl, rfl⟩
  · rw [if_neg h, if_neg h]; exact ⟨rfl, rfl⟩
structure Tab (f : Place → Int) (l : List Place) : Prop where
  b : ∀ p ∈ l, p.Bucket = f p
  s : l.Pairwise (fun p q => p.Bucket ≤ q.Bucket)
  n : ∀ c : Int, (l.filter (fun p => p.Bucket == c)).length ≤ 8
  d : l.Pairwise (fun p q => sm p.Addr_ q.Addr_ = false)
theorem Tab.nil (f : Place → Int) : Tab f [] := ⟨by simp, .nil, by simp, .nil⟩
theorem Tab.sub {f : Place → Int} {l m : List Place} (h : Tab f l) (hs : m.Sublist l) : Tab f m :=
  ⟨fun p hp => h.b p (hs.subset hp), h.s.sublist hs, fun c => Nat.le_trans (hs.filter _).length_le (h.n c), h.d.sublist hs⟩
theorem Tab.far {f : Place → Int} {l : List Place} (h : Tab f l) (t : Nat) (ht : t < l.length) (h8 : 8 ≤ t) : (l[t - 8]'(by omega)).Bucket ≠ l[t].Bucket := by
  intro e
  have hc := h.n l[t].Bucket
  have hsub : ((l.drop (t - 8)).take 9).Sublist l := (List.take_sublist _ _).trans (List.drop_sublist _ _)
  have hlen : ((l.drop (t - 8)).take 9).length = 9 := by rw [List.length_take, List.length_drop]; omega
  have hall : ((l.drop (t - 8)).take 9).filter (fun p => p.Bucket == l[t].Bucket) = (l.drop (t - 8)).take 9 := by
    rw [List.filter_eq_self]
    intro p hp
    obtain ⟨i, hi, rfl⟩ := List.getElem_of_mem hp
    rw [hlen] at hi
    rw [List.getElem_take, List.getElem_drop]
    have hp := List.pairwise_iff_getElem.1 h.s
    have h1 : (l[t - 8]'(by omega)).Bucket ≤ (l[t - 8 + i]'(by omega)).Bucket := by
      by_cases hi0 : i = 0
      · subst hi0; exact Int.le_refl _
      · exact hp _ _ _ _ (by omega)
    have h2 : (l[t - 8 + i]'(by omega)).Bucket ≤ l[t].Bucket := by
      by_cases hi8 : i = 8
      · subst hi8
        have : t - 8 + 8 = t := by omega
        simp only [this]
        exact Int.le_refl _
      · exact hp _ _ _ _ (by omega)
    simp only [beq_iff_eq]
    omega
  have h3 := (hsub.filter (fun p => p.Bucket == l[t].Bucket)).length_le
  rw [hall, hlen] at h3
  omega
def fnd (l : List Place) (a : NAddr) : Option Nat := l.findIdx? (fun p => sm p.Addr_ a)
theorem fnd_none {l : List Place} {a : NAddr} : fnd l a = none ↔ ∀ p ∈ l, sm p.Addr_ a = false := List.findIdx?_eq_none_iff
theorem getD_at {α : Type} {l : List α} {t : Nat} (h : t < l.length) (z : α) : l.getD (t : Int).toNat z = l[t] := by
  rw [Int.toNat_natCast, List.getD_eq_getElem?_getD, List.getElem?_eq_getElem h]; rfl
theorem suc (t : Nat) (h : t ≤ 1000000000) : IntKind.i64.wrap ((t : Int) + 1) = ((t + 1 : Nat) : Int) := by rw [wr (by omega) (by omega)]; omega
theorem findA_l (l : List Place) (a : NAddr) (hl : l.length ≤ 100000) : ∀ (m k t : Nat), t + m = l.length → addrbook_find.l0 l a (k + m + 1) (t : Int) = some (match fnd (l.drop t) a with | some i => .ret ((t + i : Nat) : Int) | none => .go ())
  | 0, k, t, h => by rw [addrbook_find.l0, if_neg (by simp; omega), List.drop_of_length_le (by omega)]; rfl
  | m + 1, k, t, h => by
    have hlt : t < l.length := by omega
    have ih := findA_l l a hl m k (t + 1) (by omega)
    rw [show k + (m + 1) + 1 = k + m + 1 + 1 by omega, addrbook_find.l0, if_pos (by simp; omega), if_pos ⟨by omega, by omega⟩, getD_at hlt, (same_ok _ _ _).1, Option.bind_some, suc t (by omega), ih, List.drop_eq_getElem_cons hlt]
    unfold fnd
    rw [List.findIdx?_cons]
    by_cases he : sm l[t].Addr_ a = true
    · rw [if_pos he, if_pos he]
      rfl
    · rw [if_neg he, if_neg he]
      cases (List.findIdx? (fun p => sm p.Addr_ a) (l.drop (t + 1))) with
      | none => rfl
      | some i =>
        have e : t + 1 + i = t + (i + 1) := by omega
        simp only [Option.map_some, e]
theorem findR_l (l : List Place) (a : NAddr) (hl : l.length ≤ 100000) : ∀ (m k t : Nat), t + m = l.length → ref38_find.l0 l a (k + m + 1) (t : Int) = some (match fnd (l.drop t) a with | some i => .ret ((t + i : Nat) : Int) | none => .go ())
  | 0, k, t, h => by rw [ref38_find.l0, if_neg (by simp; omega), List.drop_of_length_le (by omega)]; rfl
  | m + 1, k, t, h => by
    have hlt : t < l.length := by omega
    have ih := findR_l l a hl m k (t + 1) (by omega)
    rw [show k + (m + 1) + 1 = k + m + 1 + 1 by omega, ref38_find.l0, if_pos (by simp; omega), if_pos ⟨by omega, by omega⟩, getD_at hlt, (same_ok _ _ _).2, Option.bind_some, suc t (by omega), ih, List.drop_eq_getElem_cons hlt]
    unfold fnd
    rw [List.findIdx?_cons]
    by_cases he : sm l[t].Addr_ a = true
    · rw [if_pos he, if_pos he]
      rfl
    · rw [if_neg he, if_neg he]
      cases (List.findIdx? (fun p => sm p.Addr_ a) (l.drop (t + 1))) with
      | none => rfl
      | some i =>
        have e : t + 1 + i = t + (i + 1) := by omega
        simp only [Option.map_some, e]
def fndI (l : List Place) (a : NAddr) : Int := match fnd l a with | some i => (i : Int) | none => -1
theorem find_ok (l : List Place) (a : NAddr) (hl : l.length ≤ 100000) (k : Nat) (hk : l.length < k) : addrbook_find.f k l a = some (fndI l a) ∧ ref38_find.f k l a = some (fndI l a) := by
  have h := findA_l l a hl l.length (k - l.length - 1) 0 (by omega)
  have h2 := findR_l l a hl l.length (k - l.length - 1) 0 (by omega)
  have e0 : ((0 : Nat) : Int) = 0 := rfl
  rw [show k - l.length - 1 + l.length + 1 = k by omega, e0, List.drop_zero] at h h2
  unfold addrbook_find.f ref38_find.f fndI
  rw [h, h2]
  cases fnd l a with
  | none => exact ⟨rfl, rfl⟩
  | some i => simp
theorem fndI_neg {l : List Place} {a : NAddr} (h : ∀ p ∈ l, sm p.Addr_ a = false) : fndI l a = -1 := by
  unfold fndI
  rw [fnd_none.2 h]
theorem fndI_self {f : Place → Int} {l : List Place} (h : Tab f l) (t : Nat) (ht : t < l.length) : fndI l l[t].Addr_ = (t : Int) := by
  unfold fndI
  have : fnd l l[t].Addr_ = some t := List.findIdx?_eq_some_iff_getElem.2 ⟨ht, sm_refl _, fun j hj => by
    have := List.pairwise_iff_getElem.1 h.d j t (by omega) ht hj
    simp [this]⟩
  rw [this]
/-- where an address is found -/
theorem fndI_cases (l : List Place) (a : NAddr) : (fndI l a = -1 ∧ ∀ p ∈ l, sm p.Addr_ a = false) ∨ ∃ (i : Nat) (hi : i < l.length), fndI l a = (i : Int) ∧ sm l[i].Addr_ a = true := by
  unfold fndI
  cases h : fnd l a with
  | none => exact .inl ⟨rfl, fnd_none.1 h⟩
  | some i =>
    obtain ⟨hi, h1, _⟩ := List.findIdx?_eq_some_iff_getElem.1 h
    exact .inr ⟨i, hi, rfl, h1⟩
/-! ## books -/
def fH (salt : Vector Int 32) (p : Place) : Int := HB salt p.Addr_ p.Source
def fT (salt : Vector Int 32) (p : Place) : Int := TB salt p.Addr_
structure BookOk (b : Book) : Prop where
  h : Tab (fH b.Salt) b.Heard
  t : Tab (fT b.Salt) b.Tried
  x : ∀ p ∈ b.Heard, ∀ q ∈ b.Tried, sm q.Addr_ p.Addr_ = false
theorem pre1 (t : Nat) (h : 0 < t) (h2 : t ≤ 100000) : IntKind.i64.wrap ((t : Int) - 1) = ((t - 1 : Nat) : Int) := by rw [wr (by omega) (by omega)]; omega
theorem pre8 (t : Nat) (h : 8 ≤ t) (h2 : t ≤ 100000) : IntKind.i64.wrap ((t : Int) - 8) = ((t - 8 : Nat) : Int) := by rw [wr (by omega) (by omega)]; omega
/-- what a sound table shows at a place -/
theorem Tab.row {f : Place → Int} {l : List Place} (h : Tab f l) (t : Nat) (ht : t < l.length) :
    l[t].Bucket = f l[t] ∧ fndI (l.take t) l[t].Addr_ = -1 ∧ (∀ (h0 : 0 < t), (l[t - 1]'(by omega)).Bucket ≤ l[t].Bucket) := by
  refine ⟨h.b _ (List.getElem_mem ht), fndI_neg ?_, fun h0 => List.pairwise_iff_getElem.1 h.s _ _ _ _ (by omega)⟩
  intro p hp
  obtain ⟨i, hi, rfl⟩ := List.getElem_of_mem hp
  rw [List.length_take] at hi
  rw [List.getElem_take]
  exact List.pairwise_iff_getElem.1 h.d _ _ _ _ (by omega)
theorem soundH_l (b : Book) (h : Tab (fH b.Salt) b.Heard) (hl : b.Heard.length ≤ 512) : ∀ (m k t : Nat), t + m = b.Heard.length → addrbook_Sound.l0 b (k + 4000 + m + 1) b.Salt (t : Int) = some (.go b.Salt)
  | 0, k, t, ht => by rw [addrbook_Sound.l0, if_neg (by simp; omega)]
  | m + 1, k, t, ht => by
    have hlt : t < b.Heard.length := by omega
    obtain ⟨r1, r2, r3⟩ := h.row t hlt
    have hc : addrbook_Sound_c1.f (k + 4000 + m + 1) b.Heard[t] (Book.mk b.Salt b.Heard b.Tried) = some (fH b.Salt b.Heard[t], Book.mk b.Salt b.Heard b.Tried) := by
      unfold addrbook_Sound_c1.f
      dsimp only
      rw [HB_A _ _ _ _ (by omega)]
      rfl
    rw [show k + 4000 + (m + 1) + 1 = k + 4000 + m + 1 + 1 by omega, addrbook_Sound.l0, if_pos (by simp; omega), if_pos ⟨by omega, by omega⟩, getD_at hlt, hc, Option.bind_some]
    dsimp only
    rw [if_neg (by simp [r1]), if_pos ⟨by omega, by omega⟩, Int.toNat_natCast, (find_ok _ _ (by rw [List.length_take]; omega) _ (by rw [List.length_take]; omega)).1, r2, Option.bind_some, Option.bind_some]
    dsimp only
    rw [if_neg (by decide), suc t (by omega), soundH_l b h hl m k (t + 1) (by omega)]
    have key : (if (decide ((t : Int) > 0)) = true then (if 0 ≤ (IntKind.i64.wrap ((t : Int) - 1)) ∧ (IntKind.i64.wrap ((t : Int) - 1)) < ((b.Heard.length : Nat) : Int) then (if (decide (((b.Heard.getD (IntKind.i64.wrap ((t : Int) - 1)).toNat Place.z).Bucket) > (b.Heard[t].Bucket))) = true then (some true) else (if (decide ((t : Int) ≥ 8)) = true then (if 0 ≤ (IntKind.i64.wrap ((t : Int) - 8)) ∧ (IntKind.i64.wrap ((t : Int) - 8)) < ((b.Heard.length : Nat) : Int) then (some (((b.Heard.getD (IntKind.i64.wrap ((t : Int) - 8)).toNat Place.z).Bucket) == (b.Heard[t].Bucket))) else none) else (some false))) else none) else (if (decide ((t : Int) ≥ 8)) = true then (if 0 ≤ (IntKind.i64.wrap ((t : Int) - 8)) ∧ (IntKind.i64.wrap ((t : Int) - 8)) < ((b.Heard.length : Nat) : Int) then (some (((b.Heard.getD (IntKind.i64.wrap ((t : Int) - 8)).toNat Place.z).Bucket) == (b.Heard[t].Bucket))) else none) else (some false))) = some false := by
      have k8 : (if (decide ((t : Int) ≥ 8)) = true then (if 0 ≤ (IntKind.i64.wrap ((t : Int) - 8)) ∧ (IntKind.i64.wrap ((t : Int) - 8)) < ((b.Heard.length : Nat) : Int) then (some (((b.Heard.getD (IntKind.i64.wrap ((t : Int) - 8)).toNat Place.z).Bucket) == (b.Heard[t].Bucket))) else none) else (some false)) = some false := by
        by_cases h8 : 8 ≤ t
        · have := h.far t hlt h8
          rw [if_pos (by simp; omega), pre8 t h8 (by omega), if_pos ⟨by omega, by omega⟩, getD_at (by omega)]
          simp [this]
        · rw [if_neg (by simp; omega)]
      rw [k8]
      by_cases h0 : 0 < t
      · have := r3 h0
        rw [if_pos (by simp; omega), pre1 t h0 (by omega), if_pos ⟨by omega, by omega⟩, getD_at (by omega), if_neg (by simp; omega)]
      · rw [if_neg (by simp; omega)]
    rw [key, Option.bind_some, if_neg (by decide), if_neg (by simp; omega)]
theorem soundT_l (b : Book) (h : Tab (fT b.Salt) b.Tried) (hl : b.Tried.length ≤ 512) : ∀ (m k t : Nat), t + m = b.Tried.length → addrbook_Sound.l1 b (k + 4000 + m + 1) b.Salt (t : Int) = some (.go b.Salt)
  | 0, k, t, ht => by rw [addrbook_Sound.l1, if_neg (by simp; omega)]
  | m + 1, k, t, ht => by
    have hlt : t < b.Tried.length := by omega
    obtain ⟨r1, r2, r3⟩ := h.row t hlt
    have hc : addrbook_Sound_c2.f (k + 4000 + m + 1) b.Tried[t] (Book.mk b.Salt b.Heard b.Tried) = some (fT b.Salt b.Tried[t], Book.mk b.Salt b.Heard b.Tried) := by
      unfold addrbook_Sound_c2.f
      dsimp only
      rw [TB_A _ _ _ (by omega)]
      rfl
    rw [show k + 4000 + (m + 1) + 1 = k + 4000 + m + 1 + 1 by omega, addrbook_Sound.l1, if_pos (by simp; omega), if_pos ⟨by omega, by omega⟩, getD_at hlt, hc, Option.bind_some]
    dsimp only
    rw [if_neg (by simp [r1]), if_pos ⟨by omega, by omega⟩, Int.toNat_natCast, (find_ok _ _ (by rw [List.length_take]; omega) _ (by rw [List.length_take]; omega)).1, r2, Option.bind_some, Option.bind_some]
    dsimp only
    rw [if_neg (by decide), suc t (by omega), soundT_l b h hl m k (t + 1) (by omega)]
    have key : (if (decide ((t : Int) > 0)) = true then (if 0 ≤ (IntKind.i64.wrap ((t : Int) - 1)) ∧ (IntKind.i64.wrap ((t : Int) - 1)) < ((b.Tried.length : Nat) : Int) then (if (decide (((b.Tried.getD (IntKind.i64.wrap ((t : Int) - 1)).toNat Place.z).Bucket) > (b.Tried[t].Bucket))) = true then (some true) else (if (decide ((t : Int) ≥ 8)) = true then (if 0 ≤ (IntKind.i64.wrap ((t : Int) - 8)) ∧ (IntKind.i64.wrap ((t : Int) - 8)) < ((b.Tried.length : Nat) : Int) then (some (((b.Tried.getD (IntKind.i64.wrap ((t : Int) - 8)).toNat Place.z).Bucket) == (b.Tried[t].Bucket))) else none) else (some false))) else none) else (if (decide ((t : Int) ≥ 8)) = true then (if 0 ≤ (IntKind.i64.wrap ((t : Int) - 8)) ∧ (IntKind.i64.wrap ((t : Int) - 8)) < ((b.Tried.length : Nat) : Int) then (some (((b.Tried.getD (IntKind.i64.wrap ((t : Int) - 8)).toNat Place.z).Bucket) == (b.Tried[t].Bucket))) else none) else (some false))) = some false := by
      have k8 : (if (decide ((t : Int) ≥ 8)) = true then (if 0 ≤ (IntKind.i64.wrap ((t : Int) - 8)) ∧ (IntKind.i64.wrap ((t : Int) - 8)) < ((b.Tried.length : Nat) : Int) then (some (((b.Tried.getD (IntKind.i64.wrap ((t : Int) - 8)).toNat Place.z).Bucket) == (b.Tried[t].Bucket))) else none) else (some false)) = some false := by
        by_cases h8 : 8 ≤ t
        · have := h.far t hlt h8
          rw [if_pos (by simp; omega), pre8 t h8 (by omega), if_pos ⟨by omega, by omega⟩, getD_at (by omega)]
          simp [this]
        · rw [if_neg (by simp; omega)]
      rw [k8]
      by_cases h0 : 0 < t
      · have := r3 h0
        rw [if_pos (by simp; omega), pre1 t h0 (by omega), if_pos ⟨by omega, by omega⟩, getD_at (by omega), if_neg (by simp; omega)]
      · rw [if_neg (by simp; omega)]
    rw [key, Option.bind_some, if_neg (by decide), if_neg (by simp; omega)]
theorem crossA_l (b : Book) (h : BookOk b) (hl : b.Heard.length ≤ 512) (hl2 : b.Tried.length ≤ 512) : ∀ (m k t : Nat), t + m = b.Heard.length → addrbook_Sound.l2 b (k + 4000 + m + 1) (t : Int) = some (.go ())
  | 0, k, t, ht => by rw [addrbook_Sound.l2, if_neg (by simp; omega)]
  | m + 1, k, t, ht => by
    have hlt : t < b.Heard.length := by omega
    have hn : fndI b.Tried b.Heard[t].Addr_ = -1 := fndI_neg (h.x _ (List.getElem_mem hlt))
    have f1 := (find_ok b.Tried b.Heard[t].Addr_ (by omega) (k + 4000 + m + 1) (by omega)).1
    rw [show k + 4000 + (m + 1) + 1 = k + 4000 + m + 1 + 1 by omega, addrbook_Sound.l2, if_pos (by simp; omega), if_pos ⟨by omega, by omega⟩, getD_at hlt, f1, hn, Option.bind_some, if_neg (by decide), suc t (by omega)]
    exact crossA_l b h hl hl2 m k (t + 1) (by omega)
theorem crossR_l (b : Book) (h : BookOk b) (hl : b.Heard.length ≤ 512) (hl2 : b.Tried.length ≤ 512) : ∀ (m k t : Nat), t + m = b.Heard.length → ref38_Sound.l0 b (k + 4000 + m + 1) (t : Int) = some (.go ())
  | 0, k, t, ht => by rw [ref38_Sound.l0, if_neg (by simp; omega)]
  | m + 1, k, t, ht => by
    have hlt : t < b.Heard.length := by omega
    have hn : fndI b.Tried b.Heard[t].Addr_ = -1 := fndI_neg (h.x _ (List.getElem_mem hlt))
    have f1 := (find_ok b.Tried b.Heard[t].Addr_ (by omega) (k + 4000 + m + 1) (by omega)).2
    rw [show k + 4000 + (m + 1) + 1 = k + 4000 + m + 1 + 1 by omega, ref38_Sound.l0, if_pos (by simp; omega), if_pos ⟨by omega, by omega⟩, getD_at hlt, f1, hn, Option.bind_some, if_neg (by decide), suc t (by omega)]
    exact crossR_l b h hl hl2 m k (t + 1) (by omega)
theorem soundA (b : Book) (h : BookOk b) (hl : b.Heard.length ≤ 512) (hl2 : b.Tried.length ≤ 512) (k : Nat) (hk : 5000 ≤ k) : addrbook_Sound.f k b = some true := by
  have e0 : ((0 : Nat) : Int) = 0 := rfl
  have h1 := soundH_l b h.h hl b.Heard.length (k - 4000 - b.Heard.length - 1) 0 (by omega)
  have h2 := soundT_l b h.t hl2 b.Tried.length (k - 4000 - b.Tried.length - 1) 0 (by omega)
  have h3 := crossA_l b h hl hl2 b.Heard.length (k - 4000 - b.Heard.length - 1) 0 (by omega)
  rw [show k - 4000 - b.Heard.length - 1 + 4000 + b.Heard.length + 1 = k by omega, e0] at h1 h3
  rw [show k - 4000 - b.Tried.length - 1 + 4000 + b.Tried.length + 1 = k by omega, e0] at h2
  unfold addrbook_Sound.f
  rw [h1, Option.bind_some]
  dsimp only
  rw [Option.bind_some]
  dsimp only
  rw [if_neg (by decide), h2, Option.bind_some]
  dsimp only
  rw [Option.bind_some]
  dsimp only
  rw [Option.bind_some]
  dsimp only
  rw [if_neg (by decide), h3]
  rfl
theorem tab_8 {f : Place → Int} {l : List Place} (h : Tab f l) (hl : l.length ≤ 512) (t : Nat) (ht : t < l.length) (k : Nat) (hk : 4000 ≤ k) :
    (if (decide ((t : Int) ≥ 8)) = true then (if 0 ≤ (IntKind.i64.wrap ((t : Int) - 8)) ∧ (IntKind.i64.wrap ((t : Int) - 8)) < ((l.length : Nat) : Int) then (if (((l.getD (IntKind.i64.wrap ((t : Int) - 8)).toNat Place.z).Bucket) == l[t].Bucket) = true then (some true) else (if 0 ≤ (t : Int) ∧ (t : Int) < ((l.length : Nat) : Int) then ((ref38_find.f k l (l[t].Addr_)).bind fun r1280 => (some (r1280 != (t : Int)))) else none)) else none) else (if 0 ≤ (t : Int) ∧ (t : Int) < ((l.length : Nat) : Int) then ((ref38_find.f k l (l[t].Addr_)).bind fun r1288 => (some (r1288 != (t : Int)))) else none)) = some false := by
  have hfin : ((ref38_find.f k l (l[t].Addr_)).bind fun r1280 => (some (r1280 != (t : Int)))) = some false := by
    rw [(find_ok _ _ (by omega) _ (by omega)).2, fndI_self h t ht, Option.bind_some]
    simp
  rw [hfin]
  by_cases h8 : 8 ≤ t
  · have := h.far t ht h8
    rw [if_pos (by simp; omega), pre8 t h8 (by omega), if_pos ⟨by omega, by omega⟩, getD_at (by omega), if_neg (by simpa using this), if_pos ⟨by omega, by omega⟩]
  · rw [if_neg (by simp; omega), if_pos ⟨by omega, by omega⟩]
theorem tab_step (salt : Vector Int 32) (l : List Place) (hd : Bool) (f : Place → Int) (h : Tab f l) (hl : l.length ≤ 512) (t : Nat) (ht : t < l.length) (k : Nat) (hk : 4000 ≤ k)
    (hb : (if hd = true then (if 0 ≤ (t : Int) ∧ (t : Int) < ((l.length : Nat) : Int) then (if 0 ≤ (t : Int) ∧ (t : Int) < ((l.length : Nat) : Int) then ((ref38_HeardBucket.f k salt (l[t].Addr_) (l[t].Source)).bind fun r1184 => (some r1184)) else none) else none) else (some (TB salt l[t].Addr_))) = some l[t].Bucket) :
    ref38_table.l0 salt l hd (k + 1) (t : Int) = ref38_table.l0 salt l hd k ((t + 1 : Nat) : Int) := by
  obtain ⟨r1, r2, r3⟩ := h.row t ht
  have k8 := tab_8 h hl t ht k hk
  rw [ref38_table.l0, if_pos (by simp; omega), if_pos ⟨by omega, by omega⟩, getD_at ht, TB_R _ _ _ (by omega), Option.bind_some, hb, Option.bind_some, if_pos ⟨by omega, by omega⟩, if_neg (by simp), suc t (by omega)]
  generalize ref38_table.l0 salt l hd k ((t + 1 : Nat) : Int) = X
  by_cases h0 : 0 < t
  · have := r3 h0
    rw [if_pos (by simp; omega), pre1 t h0 (by omega), if_pos ⟨by omega, by omega⟩, getD_at (show t - 1 < l.length by omega), if_neg (by simp; omega), k8, Option.bind_some, if_neg (by decide)]
  · rw [if_neg (by simp; omega), k8, Option.bind_some, if_neg (by decide)]
theorem tabH_l (salt : Vector Int 32) (l : List Place) (h : Tab (fH salt) l) (hl : l.length ≤ 512) : ∀ (m k t : Nat), t + m = l.length → ref38_table.l0 salt l true (k + 4000 + m + 1) (t : Int) = some (.go ())
  | 0, k, t, ht => by rw [ref38_table.l0, if_neg (by simp; omega)]
  | m + 1, k, t, ht => by
    have hlt : t < l.length := by omega
    have hb : (if true = true then (if 0 ≤ (t : Int) ∧ (t : Int) < ((l.length : Nat) : Int) then (if 0 ≤ (t : Int) ∧ (t : Int) < ((l.length : Nat) : Int) then ((ref38_HeardBucket.f (k + 4000 + m + 1) salt (l[t].Addr_) (l[t].Source)).bind fun r1184 => (some r1184)) else none) else none) else (some (TB salt l[t].Addr_))) = some l[t].Bucket := by
      have r1 : l[t].Bucket = HB salt l[t].Addr_ l[t].Source := h.b _ (List.getElem_mem hlt)
      rw [if_pos rfl, if_pos ⟨by omega, by omega⟩, if_pos ⟨by omega, by omega⟩, HB_R _ _ _ _ (by omega), Option.bind_some, r1]
    rw [show k + 4000 + (m + 1) + 1 = k + 4000 + m + 1 + 1 by omega, tab_step salt l true (fH salt) h hl t hlt _ (by omega) hb]
    exact tabH_l salt l h hl m k (t + 1) (by omega)
theorem tabT_l (salt : Vector Int 32) (l : List Place) (h : Tab (fT salt) l) (hl : l.length ≤ 512) : ∀ (m k t : Nat), t + m = l.length → ref38_table.l0 salt l false (k + 4000 + m + 1) (t : Int) = some (.go ())
  | 0, k, t, ht => by rw [ref38_table.l0, if_neg (by simp; omega)]
  | m + 1, k, t, ht => by
    have hlt : t < l.length := by omega
    have hb : (if false = true then (if 0 ≤ (t : Int) ∧ (t : Int) < ((l.length : Nat) : Int) then (if 0 ≤ (t : Int) ∧ (t : Int) < ((l.length : Nat) : Int) then ((ref38_HeardBucket.f (k + 4000 + m + 1) salt (l[t].Addr_) (l[t].Source)).bind fun r1184 => (some r1184)) else none) else none) else (some (TB salt l[t].Addr_))) = some l[t].Bucket := by
      have r1 : l[t].Bucket = TB salt l[t].Addr_ := h.b _ (List.getElem_mem hlt)
      rw [if_neg (by decide), r1]
    rw [show k + 4000 + (m + 1) + 1 = k + 4000 + m + 1 + 1 by omega, tab_step salt l false (fT salt) h hl t hlt _ (by omega) hb]
    exact tabT_l salt l h hl m k (t + 1) (by omega)
theorem tableH (salt : Vector Int 32) (l : List Place) (h : Tab (fH salt) l) (hl : l.length ≤ 512) (k : Nat) (hk : 5000 ≤ k) : ref38_table.f k salt l true = some true := by
  have e0 : ((0 : Nat) : Int) = 0 := rfl
  have h1 := tabH_l salt l h hl l.length (k - 4000 - l.length - 1) 0 (by omega)
  rw [show k - 4000 - l.length - 1 + 4000 + l.length + 1 = k by omega, e0] at h1
  unfold ref38_table.f
  rw [if_neg (by simp; omega), h1]
  rfl
theorem tableT (salt : Vector Int 32) (l : List Place) (h : Tab (fT salt) l) (hl : l.length ≤ 512) (k : Nat) (hk : 5000 ≤ k) : ref38_table.f k salt l false = some true := by
  have e0 : ((0 : Nat) : Int) = 0 := rfl
  have h1 := tabT_l salt l h hl l.length (k - 4000 - l.length - 1) 0 (by omega)
  rw [show k - 4000 - l.length - 1 + 4000 + l.length + 1 = k by omega, e0] at h1
  unfold ref38_table.f
  rw [if_neg (by simp; omega), h1]
  rfl
theorem soundR (b : Book) (h : BookOk b) (hl : b.Heard.length ≤ 512) (hl2 : b.Tried.length ≤ 512) (k : Nat) (hk : 5000 ≤ k) : ref38_Sound.f k b = some true := by
  have e0 : ((0 : Nat) : Int) = 0 := rfl
  have h3 := crossR_l b h hl hl2 b.Heard.length (k - 4000 - b.Heard.length - 1) 0 (by omega)
  rw [show k - 4000 - b.Heard.length - 1 + 4000 + b.Heard.length + 1 = k by omega, e0] at h3
  unfold ref38_Sound.f
  rw [tableH b.Salt b.Heard h.h hl k hk, Option.bind_some, if_neg (by decide), tableT b.Salt b.Tried h.t hl2 k hk, Option.bind_some, Option.bind_some, if_neg (by decide), h3]
  rfl

/-! ## what the reference does keeps a book sound -/
theorem copied_ok (b : Book) (h1 : b.Heard.length ≤ 100000) (h2 : b.Tried.length ≤ 100000) (k : Nat) : ref38_Copied.f k b = some b := by
  unfold ref38_Copied.f
  rw [if_pos (by omega), if_pos (by omega)]
  rfl
theorem remove_ok (l : List Place) (i : Nat) (hi : i < l.length) (hl : l.length ≤ 100000) (k : Nat) : ref38_remove.f k l (i : Int) = some (l.take i ++ l.drop (i + 1)) := by
  unfold ref38_remove.f
  rw [suc i (by omega), if_pos ⟨by omega, by omega⟩, if_pos ⟨by omega, by omega⟩, Int.toNat_natCast, Int.toNat_natCast, if_pos (by omega), if_pos (by omega)]
  simp
def ltB (c : Int) (p : Place) : Bool := decide (p.Bucket < c)
def eqB (c : Int) (p : Place) : Bool := p.Bucket == c
def frm (l : List Place) (c : Int) : Nat := (l.takeWhile (ltB c)).length
def tto (l : List Place) (c : Int) : Nat := frm l c + ((l.drop (frm l c)).takeWhile (eqB c)).length
theorem takeWhile_le {α : Type} (p : α → Bool) (l : List α) : (l.takeWhile p).length ≤ l.length := (List.takeWhile_sublist _).length_le
theorem frm_le (l : List Place) (c : Int) : frm l c ≤ l.length := takeWhile_le _ _
theorem tto_le (l : List Place) (c : Int) : tto l c ≤ l.length := by
  have h1 := frm_le l c
  have h2 := takeWhile_le (eqB c) (l.drop (frm l c))
  rw [List.length_drop] at h2
  unfold tto
  omega
theorem ins0_l (l : List Place) (c : Int) (hl : l.length ≤ 100000) : ∀ (m k t : Nat), t + m = l.length → ref38_inside.l0 l c (k + m + 1) (t : Int) = some ((t + ((l.drop t).takeWhile (ltB c)).length : Nat) : Int)
  | 0, k, t, h => by rw [ref38_inside.l0, if_neg (by simp; omega), Option.bind_some, if_neg (by decide), List.drop_of_length_le (by omega)]; rfl
  | m + 1, k, t, h => by
    have hlt : t < l.length := by omega
    have ih := ins0_l l c hl m k (t + 1) (by omega)
    rw [show k + (m + 1) + 1 = k + m + 1 + 1 by omega, ref38_inside.l0, if_pos (by simp; omega), if_pos ⟨by omega, by omega⟩, getD_at hlt, Option.bind_some, suc t (by omega), ih, List.drop_eq_getElem_cons hlt, List.takeWhile_cons]
    by_cases hp : l[t].Bucket < c
    · rw [if_pos (by simpa using hp), if_pos (by simpa [ltB] using hp), List.length_cons, show t + 1 + ((l.drop (t + 1)).takeWhile (ltB c)).length = t + (((l.drop (t + 1)).takeWhile (ltB c)).length + 1) by omega]
    · rw [if_neg (by simpa using hp), if_neg (by simpa [ltB] using hp)]; rfl
theorem ins1_l (l : List Place) (c : Int) (hl : l.length ≤ 100000) : ∀ (m k t : Nat), t + m = l.length → ref38_inside.l1 l c (k + m + 1) (t : Int) = some ((t + ((l.drop t).takeWhile (eqB c)).length : Nat) : Int)
  | 0, k, t, h => by rw [ref38_inside.l1, if_neg (by simp; omega), Option.bind_some, if_neg (by decide), List.drop_of_length_le (by omega)]; rfl
  | m + 1, k, t, h => by
    have hlt : t < l.length := by omega
    have ih := ins1_l l c hl m k (t + 1) (by omega)
    rw [show k + (m + 1) + 1 = k + m + 1 + 1 by omega, ref38_inside.l1, if_pos (by simp; omega), if_pos ⟨by omega, by omega⟩, getD_at hlt, Option.bind_some, suc t (by omega), ih, List.drop_eq_getElem_cons hlt, List.takeWhile_cons]
    by_cases hp : l[t].Bucket = c
    · rw [if_pos (by simpa using hp), if_pos (by simpa [eqB] using hp), List.length_cons, show t + 1 + ((l.drop (t + 1)).takeWhile (eqB c)).length = t + (((l.drop (t + 1)).takeWhile (eqB c)).length + 1) by omega]
    · rw [if_neg (by simpa using hp), if_neg (by simpa [eqB] using hp)]; rfl
theorem inside_ok (l : List Place) (c : Int) (hl : l.length ≤ 100000) (k : Nat) (hk : l.length < k) : ref38_inside.f k l c = some ((frm l c : Int), (tto l c : Int)) := by
  have e0 : ((0 : Nat) : Int) = 0 := rfl
  have h0 := ins0_l l c hl l.length (k - l.length - 1) 0 (by omega)
  rw [show k - l.length - 1 + l.length + 1 = k by omega, e0, List.drop_zero, Nat.zero_add] at h0
  have hf := frm_le l c
  have h1 := ins1_l l c hl (l.length - frm l c) (k - (l.length - frm l c) - 1) (frm l c) (by omega)
  rw [show k - (l.length - frm l c) - 1 + (l.length - frm l c) + 1 = k by omega] at h1
  unfold ref38_inside.f
  have h0' : ref38_inside.l0 l c k 0 = some ((frm l c : Nat) : Int) := h0
  rw [h0', Option.bind_some, h1, Option.bind_some]
  rfl
theorem takeWhile_all {α : Type} (p : α → Bool) : ∀ (l : List α) (x : α), x ∈ l.takeWhile p → p x = true
  | [], x, h => by simp at h
  | y :: l, x, h => by
    rw [List.takeWhile_cons] at h
    by_cases hy : p y = true
    · rw [if_pos hy] at h
      rcases List.mem_cons.1 h with rfl | h
      · exact hy
      · exact takeWhile_all p l x h
    · rw [if_neg hy] at h; cases h
theorem takeWhile_split {α : Type} (p : α → Bool) : ∀ (l : List α), l = l.takeWhile p ++ l.drop (l.takeWhile p).length ∧ ∀ x r, l.drop (l.takeWhile p).length = x :: r → p x = false
  | [] => ⟨rfl, fun x r h => by cases h⟩
  | y :: l => by
    rw [List.takeWhile_cons]
    by_cases hy : p y = true
    · rw [if_pos hy]
      have ih := takeWhile_split p l
      refine ⟨?_, fun x r h => ih.2 x r (by simpa using h)⟩
      rw [List.length_cons, List.drop_succ_cons, List.cons_append, ← ih.1]
    · rw [if_neg hy]
      exact ⟨rfl, fun x r h => by cases h; simpa using hy⟩
/-- a table, parted at a bucket -/
theorem parted {f : Place → Int} {l : List Place} (h : Tab f l) (c : Int) : ∃ A C D, l = A ++ (C ++ D) ∧ A.length = frm l c ∧ A.length + C.length = tto l c ∧ (∀ p ∈ A, p.Bucket < c) ∧ (∀ p ∈ C, p.Bucket = c) ∧ (∀ p ∈ D, c < p.Bucket) := by
  have s1 := takeWhile_split (ltB c) l
  have s2 := takeWhile_split (eqB c) (l.drop (frm l c))
  have hs := h.s
  refine ⟨l.takeWhile (ltB c), (l.drop (frm l c)).takeWhile (eqB c), (l.drop (frm l c)).drop ((l.drop (frm l c)).takeWhile (eqB c)).length, ?_, rfl, rfl, ?_, ?_, ?_⟩
  · rw [← s2.1]; exact s1.1
  · intro p hp
    simpa [ltB] using takeWhile_all _ _ _ hp
  · intro p hp
    simpa [eqB] using takeWhile_all _ _ _ hp
  · intro p hp
    have e1 : l = l.takeWhile (ltB c) ++ l.drop (frm l c) := s1.1
    rw [e1, List.pairwise_append] at hs
    have hge : ∀ q ∈ l.drop (frm l c), c ≤ q.Bucket := by
      intro q hq
      cases hd : l.drop (frm l c) with
      | nil => rw [hd] at hq; cases hq
      | cons x r =>
        have hx : ¬ x.Bucket < c := by simpa [ltB] using s1.2 x r hd
        rw [hd] at hq
        rcases List.mem_cons.1 hq with rfl | hq
        · omega
        · have h3 := hs.2.1
          rw [hd] at h3
          have := (List.pairwise_cons.1 h3).1 q hq
          omega
    have h3 := hs.2.1
    rw [s2.1, List.pairwise_append] at h3
    have hgt : ∀ x r, (l.drop (frm l c)).drop ((l.drop (frm l c)).takeWhile (eqB c)).length = x :: r → c < x.Bucket := by
      intro x r hd
      have h4 : ¬ x.Bucket = c := by simpa [eqB] using s2.2 x r hd
      have h5 := hge x (List.mem_of_mem_drop (by rw [hd]; exact List.mem_cons_self))
      omega
    cases hd : (l.drop (frm l c)).drop ((l.drop (frm l c)).takeWhile (eqB c)).length with
    | nil => rw [hd] at hp; cases hp
    | cons x r =>
      rw [hd] at hp
      have hx := hgt x r hd
      rcases List.mem_cons.1 hp with rfl | hp
      · exact hx
      · have h6 := h3.2.1
        rw [hd] at h6
        have := (List.pairwise_cons.1 h6).1 p hp
        omega
def insP (l : List Place) (p : Place) : List Place := l.take (tto l p.Bucket) ++ ([p] ++ l.drop (tto l p.Bucket))
theorem insert_ok (l : List Place) (p : Place) (hl : l.length ≤ 100000) (k : Nat) (hk : l.length < k) : ref38_insert.f k l p = some (insP l p) := by
  have ht := tto_le l p.Bucket
  unfold ref38_insert.f
  rw [inside_ok l p.Bucket hl k hk, Option.bind_some]
  dsimp only
  rw [if_pos ⟨by omega, by omega⟩, Int.toNat_natCast, if_pos (by omega), if_pos (by omega), if_pos ⟨by omega, by omega⟩, if_pos (by omega), Option.bind_some]
  simp [insP]
/-- one more place, where its bucket has room -/
theorem Tab.ins {f : Place → Int} {l : List Place} (h : Tab f l) (p : Place) (hf : p.Bucket = f p) (hr : tto l p.Bucket < frm l p.Bucket + 8) (hn : ∀ q ∈ l, sm q.Addr_ p.Addr_ = false) : Tab f (insP l p) := by
  obtain ⟨A, C, D, e, l1, l2, hA, hC, hD⟩ := parted h p.Bucket
  have e2 : insP l p = A ++ (C ++ ([p] ++ D)) := by
    unfold insP
    rw [← l2]
    have e3 : l = (A ++ C) ++ D := by rw [List.append_assoc]; exact e
    have hl : (A ++ C).length = A.length + C.length := List.length_append
    rw [← hl]
    conv => lhs; rw [e3]
    rw [List.take_left' rfl, List.drop_left' rfl, List.append_assoc]
  have hp : List.Perm (insP l p) (p :: l) := by
    rw [e2, e]
    have : List.Perm (A ++ (C ++ ([p] ++ D))) ((A ++ C) ++ (p :: D)) := by rw [List.append_assoc]; exact List.Perm.refl _
    refine this.trans (List.perm_middle.trans ?_)
    rw [List.append_assoc]
  refine ⟨?_, ?_, ?_, ?_⟩
  · intro q hq
    rcases List.mem_cons.1 (hp.mem_iff.1 hq) with rfl | hq
    · exact hf
    · exact h.b q hq
  · have hs := h.s
    rw [e] at hs
    rw [e2]
    obtain ⟨a1, a2, a3⟩ := List.pairwise_append.1 hs
    obtain ⟨b1, b2, b3⟩ := List.pairwise_append.1 a2
    refine List.pairwise_append.2 ⟨a1, List.pairwise_append.2 ⟨b1, ?_, ?_⟩, ?_⟩
    · rw [List.singleton_append]
      exact List.pairwise_cons.2 ⟨fun q hq => by have := hD q hq; omega, b2⟩
    · intro x hx y hy
      rcases List.mem_append.1 hy with hy | hy
      · rw [List.mem_singleton.1 hy, hC x hx]; exact Int.le_refl _
      · exact b3 x hx y hy
    · intro x hx y hy
      have hxA := hA x hx
      rcases List.mem_append.1 hy with hy | hy
      · exact a3 x hx y (List.mem_append.2 (.inl hy))
      · rcases List.mem_append.1 hy with hy | hy
        · rw [List.mem_singleton.1 hy]; omega
        · exact a3 x hx y (List.mem_append.2 (.inr hy))
  · intro c
    have h1 := (hp.filter (fun q => q.Bucket == c)).length_eq
    rw [h1, List.filter_cons]
    by_cases hc : p.Bucket = c
    · rw [if_pos (by simpa using hc), List.length_cons]
      subst hc
      have : l.filter (fun q => q.Bucket == p.Bucket) = C := by
        rw [e, List.filter_append, List.filter_append, List.filter_eq_nil_iff.2 (fun x hx => by have := hA x hx; simp; omega), List.filter_eq_self.2 (fun x hx => by simpa using hC x hx), List.filter_eq_nil_iff.2 (fun x hx => by have := hD x hx; simp; omega)]
        simp
      rw [this]
      omega
    · rw [if_neg (by simpa using hc)]
      exact h.n c
  · have hd : (p :: l).Pairwise (fun p q => sm p.Addr_ q.Addr_ = false) := List.pairwise_cons.2 ⟨fun q hq => by rw [sm_symm]; exact hn q hq, h.d⟩
    exact (hp.pairwise_iff (fun {x y} h => by rw [sm_symm]; exact h)).2 hd
theorem insP_len (l : List Place) (p : Place) : (insP l p).length = l.length + 1 := by
  have := tto_le l p.Bucket
  unfold insP
  simp only [List.length_append, List.length_take, List.length_drop, List.length_cons, List.length_nil]
  omega
theorem insP_mem (l : List Place) (p q : Place) : q ∈ insP l p ↔ q = p ∨ q ∈ l := by
  unfold insP
  conv => rhs; rw [← List.take_append_drop (tto l p.Bucket) l]
  simp only [List.mem_append, List.mem_singleton]
  constructor
  · rintro (h | h | h)
    · exact .inr (.inl h)
    · exact .inl h
    · exact .inr (.inr h)
  · rintro (h | h | h)
    · exact .inr (.inl h)
    · exact .inl h
    · exact .inr (.inr h)
def rem (l : List Place) (i : Nat) : List Place := l.take i ++ l.drop (i + 1)
theorem rem_sub (l : List Place) (i : Nat) : (rem l i).Sublist l := by
  unfold rem
  conv => rhs; rw [← List.take_append_drop i l]
  refine List.Sublist.append (List.Sublist.refl _) ?_
  rw [← List.drop_drop]
  exact List.drop_sublist _ _
theorem rem_len (l : List Place) (i : Nat) (hi : i < l.length) : (rem l i).length + 1 = l.length := by
  unfold rem
  simp only [List.length_append, List.length_take, List.length_drop]
  omega
/-- a place with another time -/
def retime (p : Place) (t : Int) : Place := ⟨p.Bucket, ⟨p.Addr_.Host, p.Addr_.Port, t⟩, p.Source⟩
theorem Tab.timed {f : Place → Int} (hf : ∀ p t, f (retime p t) = f p) {l : List Place} (h : Tab f l) (i : Nat) (hi : i < l.length) (t : Int) : Tab f (l.set i (retime l[i] t)) := by
  have hb : ∀ j (hj : j < (l.set i (retime l[i] t)).length), ∃ u, (l.set i (retime l[i] t))[j] = l[j]'(by simpa using hj) ∨ (l.set i (retime l[i] t))[j] = retime (l[j]'(by simpa using hj)) u := by
    intro j hj
    rw [List.getElem_set]
    by_cases e : i = j
    · subst e; exact ⟨t, .inr (by rw [if_pos rfl])⟩
    · exact ⟨t, .inl (by rw [if_neg e])⟩
  have hk : ∀ j (hj : j < (l.set i (retime l[i] t)).length), (l.set i (retime l[i] t))[j].Bucket = (l[j]'(by simpa using hj)).Bucket ∧ f (l.set i (retime l[i] t))[j] = f (l[j]'(by simpa using hj)) ∧ ∀ a, sm (l.set i (retime l[i] t))[j].Addr_ a = sm (l[j]'(by simpa using hj)).Addr_ a := by
    intro j hj
    obtain ⟨u, e | e⟩ := hb j hj
    · rw [e]; exact ⟨rfl, rfl, fun _ => rfl⟩
    · rw [e]; exact ⟨rfl, hf _ _, fun _ => rfl⟩
  refine ⟨?_, ?_, ?_, ?_⟩
  · intro p hp
    obtain ⟨j, hj, rfl⟩ := List.getElem_of_mem hp
    obtain ⟨k1, k2, _⟩ := hk j hj
    rw [k1, k2]
    exact h.b _ (List.getElem_mem _)
  · refine List.pairwise_iff_getElem.2 fun a b ha hb' hab => ?_
    rw [(hk a ha).1, (hk b hb').1]
    exact List.pairwise_iff_getElem.1 h.s a b _ _ hab
  · intro c
    have hm : (l.set i (retime l[i] t)).map (·.Bucket) = l.map (·.Bucket) := by
      apply List.ext_getElem
      · simp
      · intro j h1 h2
        rw [List.getElem_map, List.getElem_map]
        exact (hk j (by simpa using h1)).1
    have hc : ∀ m : List Place, (m.filter (fun p => p.Bucket == c)).length = ((m.map (·.Bucket)).filter (fun x => x == c)).length := fun m => by rw [List.filter_map, List.length_map]; rfl
    rw [hc, hm, ← hc]
    exact h.n c
  · refine List.pairwise_iff_getElem.2 fun a b ha hb' hab => ?_
    rw [(hk a ha).2.2, sm_symm, (hk b hb').2.2, sm_symm]
    exact List.pairwise_iff_getElem.1 h.d a b _ _ hab
theorem retime_mem {l : List Place} {i : Nat} (hi : i < l.length) (t : Int) {p : Place} (hp : p ∈ l.set i (retime l[i] t)) : ∃ q ∈ l, ∀ a, sm p.Addr_ a = sm q.Addr_ a ∧ p.Addr_.Host = q.Addr_.Host := by
  rcases List.mem_or_eq_of_mem_set hp with h | rfl
  · exact ⟨p, h, fun _ => ⟨rfl, rfl⟩⟩
  · exact ⟨l[i], List.getElem_mem hi, fun _ => ⟨rfl, rfl⟩⟩

theorem fH_retime (salt : Vector Int 32) (p : Place) (t : Int) : fH salt (retime p t) = fH salt p := rfl
theorem fT_retime (salt : Vector Int 32) (p : Place) (t : Int) : fT salt (retime p t) = fT salt p := rfl
theorem fT_mk (salt : Vector Int 32) (c : Int) (a : NAddr) (s : Int) : fT salt (Place.mk c a s) = TB salt a := rfl
theorem fH_mk (salt : Vector Int 32) (c : Int) (a : NAddr) (s : Int) : fH salt (Place.mk c a s) = HB salt a s := rfl
/-- all hosts are numbers from 0 on -/
def Pos (b : Book) : Prop := (∀ p ∈ b.Heard, 0 ≤ p.Addr_.Host) ∧ ∀ p ∈ b.Tried, 0 ≤ p.Addr_.Host
structure Bk (b : Book) (n : Nat) : Prop where
  ok : BookOk b
  pos : Pos b
  len : b.Heard.length + b.Tried.length ≤ n
theorem least_l (b : Book) (r : Int × Int) (n : Nat) (hr : r.2 = (n : Int)) (hn : n ≤ b.Heard.length) (hl : b.Heard.length ≤ 100000) : ∀ (m k : Nat) (x i : Nat), i + m = n → x < b.Heard.length →
    ∃ y, y < b.Heard.length ∧ ref38_hear.l0 b r (k + m + 1) (x : Int) (i : Int) = some (y : Int)
  | 0, k, x, i, h, hx => ⟨x, hx, by rw [ref38_hear.l0, hr, if_neg (by simp; omega)]⟩
  | m + 1, k, x, i, h, hx => by
    have hi : i < b.Heard.length := by omega
    rw [show k + (m + 1) + 1 = k + m + 1 + 1 by omega, ref38_hear.l0, hr, if_pos (by simp; omega), if_pos ⟨by omega, by omega⟩, if_pos ⟨by omega, by omega⟩, suc i (by omega)]
    by_cases hc : decide (((b.Heard.getD (i : Int).toNat Place.z).Addr_).Time < ((b.Heard.getD (x : Int).toNat Place.z).Addr_).Time) = true
    · rw [if_pos hc, Option.bind_some]
      exact least_l b r n hr hn hl m k i (i + 1) (by omega) hi
    · rw [if_neg hc, Option.bind_some]
      exact least_l b r n hr hn hl m k x (i + 1) (by omega) hx
/-- after a place of a full bucket was struck there is room -/
theorem room {f : Place → Int} {l : List Place} (h : Tab f l) (c : Int) : tto l c ≤ frm l c + 8 ∧ tto l c = frm l c + (l.filter (fun q => q.Bucket == c)).length := by
  obtain ⟨A, C, D, e, l1, l2, hA, hC, hD⟩ := parted h c
  have hf : l.filter (fun q => q.Bucket == c) = C := by
    rw [e, List.filter_append, List.filter_append, List.filter_eq_nil_iff.2 (fun x hx => by have := hA x hx; simp; omega), List.filter_eq_self.2 (fun x hx => by simpa using hC x hx), List.filter_eq_nil_iff.2 (fun x hx => by have := hD x hx; simp; omega)]
    simp
  have hn := h.n c
  rw [hf] at hn ⊢
  omega
theorem mem_between {f : Place → Int} {l : List Place} (h : Tab f l) (c : Int) (i : Nat) (h1 : frm l c ≤ i) (h2 : i < tto l c) (hi : i < l.length) : l[i].Bucket = c := by
  obtain ⟨A, C, D, e, l1, l2, hA, hC, hD⟩ := parted h c
  have hg : l[i]? = (A ++ (C ++ D))[i]? := by rw [← e]
  rw [List.getElem?_eq_getElem hi, List.getElem?_append_right (by omega), List.getElem?_append_left (by omega)] at hg
  exact hC _ (List.mem_of_getElem? hg.symm)
theorem rem_room {f : Place → Int} {l : List Place} (h : Tab f l) (c : Int) (i : Nat) (hi : i < l.length) (hc : l[i].Bucket = c) : tto (rem l i) c < frm (rem l i) c + 8 := by
  have h2 := (room (h.sub (rem_sub l i)) c).2
  have h3 := h.n c
  have e : l = l.take i ++ (l[i] :: l.drop (i + 1)) := by rw [← List.drop_eq_getElem_cons hi, List.take_append_drop]
  have h4 : (l.filter (fun q => q.Bucket == c)).length = ((rem l i).filter (fun q => q.Bucket == c)).length + 1 := by
    conv => lhs; rw [e]
    unfold rem
    rw [List.filter_append, List.filter_append, List.filter_cons, if_pos (by simpa using hc)]
    simp only [List.length_append, List.length_cons]
    omega
  omega
theorem least_in {b : Book} {f : Place → Int} (h : Tab f b.Heard) (c : Int) (hl : b.Heard.length ≤ 100000) (hfull : frm b.Heard c + 8 ≤ tto b.Heard c) (k : Nat) (hk : b.Heard.length < k) :
    ∃ y, ∃ hy : y < b.Heard.length, b.Heard[y].Bucket = c ∧ ref38_hear.l0 b ((frm b.Heard c : Int), (tto b.Heard c : Int)) k (frm b.Heard c : Int) (frm b.Heard c : Int) = some (y : Int) := by
  have ht := tto_le b.Heard c
  have aux : ∀ (m k : Nat) (x i : Nat), i + m = tto b.Heard c → frm b.Heard c ≤ i → frm b.Heard c ≤ x → x < tto b.Heard c →
      ∃ y, frm b.Heard c ≤ y ∧ y < tto b.Heard c ∧ ref38_hear.l0 b ((frm b.Heard c : Int), (tto b.Heard c : Int)) (k + m + 1) (x : Int) (i : Int) = some (y : Int) := by
    intro m
    induction m with
    | zero => intro k x i h0 h1 h2 h3; exact ⟨x, h2, h3, by rw [ref38_hear.l0, if_neg (by simp; omega)]⟩
    | succ m ih =>
      intro k x i h0 h1 h2 h3
      have hi : i < b.Heard.length := by omega
      rw [show k + (m + 1) + 1 = k + m + 1 + 1 by omega, ref38_hear.l0]
      dsimp only
      rw [if_pos (by simp; omega), if_pos ⟨by omega, by omega⟩, if_pos ⟨by omega, by omega⟩, suc i (by omega)]
      by_cases hc : decide (((b.Heard.getD (i : Int).toNat Place.z).Addr_).Time < ((b.Heard.getD (x : Int).toNat Place.z).Addr_).Time) = true
      · rw [if_pos hc, Option.bind_some]
        exact ih k i (i + 1) (by omega) (by omega) h1 (by omega)
      · rw [if_neg hc, Option.bind_some]
        exact ih k x (i + 1) (by omega) (by omega) h2 h3
  obtain ⟨y, y1, y2, e⟩ := aux (tto b.Heard c - frm b.Heard c) (k - (tto b.Heard c - frm b.Heard c) - 1) (frm b.Heard c) (frm b.Heard c) (by omega) (Nat.le_refl _) (Nat.le_refl _) (by omega)
  rw [show k - (tto b.Heard c - frm b.Heard c) - 1 + (tto b.Heard c - frm b.Heard c) + 1 = k by omega] at e
  exact ⟨y, by omega, mem_between h c y y1 y2 (by omega), e⟩
set_option maxHeartbeats 1000000 in
theorem hear_ok (b : Book) (n : Nat) (h : Bk b n) (hn : n ≤ 400) (a : NAddr) (ha : 0 ≤ a.Host) (src : Int) (k : Nat) (hk : 6000 ≤ k) : ∃ r fr, ref38_hear.f k b a src = some (r, fr) ∧ Bk r (n + 1) := by
  obtain ⟨⟨hh, ht, hx⟩, ⟨p1, p2⟩, hl⟩ := h
  unfold ref38_hear.f
  have hc : ref38_Copied.f k (Book.mk b.Salt b.Heard b.Tried) = some b := copied_ok b (by omega) (by omega) k
  rw [hc, Option.bind_some, (find_ok b.Tried a (by omega) k (by omega)).2, Option.bind_some]
  rcases fndI_cases b.Tried a with ⟨e1, n1⟩ | ⟨i, hi, e1, s1⟩
  · rw [e1, if_neg (by decide), (find_ok b.Heard a (by omega) k (by omega)).2, Option.bind_some]
    rcases fndI_cases b.Heard a with ⟨e2, n2⟩ | ⟨i, hi, e2, s2⟩
    · have hin := inside_ok b.Heard (HB b.Salt a src) (by omega) k (by omega)
      rw [e2, if_neg (by decide), HB_R _ _ _ k (by omega), Option.bind_some, Option.bind_some]
      dsimp only
      rw [hin, Option.bind_some]
      dsimp only
      have hfl := frm_le b.Heard (HB b.Salt a src)
      have htl := tto_le b.Heard (HB b.Salt a src)
      rw [wr (x := ((tto b.Heard (HB b.Salt a src) : Nat) : Int) - ((frm b.Heard (HB b.Salt a src) : Nat) : Int)) (by omega) (by omega)]
      by_cases hfull : frm b.Heard (HB b.Salt a src) + 8 ≤ tto b.Heard (HB b.Salt a src)
      · obtain ⟨y, hy, hyc, e3⟩ := least_in hh (HB b.Salt a src) (by omega) hfull k (by omega)
        rw [if_pos (by simp; omega), e3, Option.bind_some, if_pos ⟨by omega, by omega⟩]
        by_cases htm : decide ((b.Heard.getD (y : Int).toNat Place.z).Addr_.Time ≥ a.Time) = true
        · rw [if_pos htm, Option.bind_some]
          exact ⟨_, _, rfl, ⟨hh, ht, hx⟩, ⟨p1, p2⟩, by show b.Heard.length + b.Tried.length ≤ n + 1; omega⟩
        · have hrl := rem_len b.Heard y hy
          have hrm : ref38_remove.f k b.Heard (y : Int) = some (rem b.Heard y) := remove_ok b.Heard y hy (by omega) k
          have hrs := rem_sub b.Heard y
          rw [if_neg htm, hrm, Option.bind_some, Option.bind_some]
          dsimp only
          rw [insert_ok _ _ (by omega) k (by omega), Option.bind_some]
          have hn2 : ∀ q ∈ rem b.Heard y, sm q.Addr_ a = false := fun q hq => n2 q (hrs.subset hq)
          refine ⟨_, _, rfl, ⟨Tab.ins (hh.sub hrs) ⟨HB b.Salt a src, a, src⟩ (fH_mk _ _ _ _).symm (rem_room hh _ y hy hyc) hn2, ht, ?_⟩, ⟨?_, p2⟩, ?_⟩
          · intro p hp q hq
            rcases (insP_mem _ _ _).1 hp with rfl | hp
            · exact n1 q hq
            · exact hx p (hrs.subset hp) q hq
          · intro p hp
            rcases (insP_mem _ _ _).1 hp with rfl | hp
            · exact ha
            · exact p1 p (hrs.subset hp)
          · show (insP (rem b.Heard y) _).length + b.Tried.length ≤ n + 1
            rw [insP_len]; omega
      · rw [if_neg (by simp; omega), Option.bind_some]
        dsimp only
        rw [insert_ok _ _ (by omega) k (by omega), Option.bind_some]
        refine ⟨_, _, rfl, ⟨Tab.ins hh ⟨HB b.Salt a src, a, src⟩ (fH_mk _ _ _ _).symm (by show tto b.Heard (HB b.Salt a src) < frm b.Heard (HB b.Salt a src) + 8; omega) n2, ht, ?_⟩, ⟨?_, p2⟩, ?_⟩
        · intro p hp q hq
          rcases (insP_mem _ _ _).1 hp with rfl | hp
          · exact n1 q hq
          · exact hx p hp q hq
        · intro p hp
          rcases (insP_mem _ _ _).1 hp with rfl | hp
          · exact ha
          · exact p1 p hp
        · show (insP b.Heard _).length + b.Tried.length ≤ n + 1
          rw [insP_len]; omega
    · rw [e2, if_pos (by simp), if_pos ⟨by omega, by omega⟩, if_pos ⟨by omega, by omega⟩, getD_at hi, Int.toNat_natCast]
      refine ⟨_, _, rfl, ⟨Tab.timed (fH_retime b.Salt) hh i hi _, ht, ?_⟩, ⟨?_, p2⟩, ?_⟩
      · intro p hp q hq
        obtain ⟨p', hp', hs⟩ := retime_mem hi _ hp
        rw [sm_symm, (hs _).1, sm_symm]
        exact hx p' hp' q hq
      · intro p hp
        obtain ⟨p', hp', hs⟩ := retime_mem hi _ hp
        rw [(hs a).2]
        exact p1 p' hp'
      · show (b.Heard.set i _).length + b.Tried.length ≤ n + 1
        rw [List.length_set]; omega
  · rw [e1, if_pos (by simp), if_pos ⟨by omega, by omega⟩, if_pos ⟨by omega, by omega⟩, getD_at hi, Int.toNat_natCast]
    refine ⟨_, _, rfl, ⟨hh, Tab.timed (fT_retime b.Salt) ht i hi _, ?_⟩, ⟨p1, ?_⟩, ?_⟩
    · intro p hp q hq
      obtain ⟨q', hq', hs⟩ := retime_mem hi _ hq
      rw [(hs _).1]
      exact hx p hp q' hq'
    · intro p hp
      obtain ⟨p', hp', hs⟩ := retime_mem hi _ hp
      rw [(hs a).2]
      exact p2 p' hp'
    · show b.Heard.length + (b.Tried.set i _).length ≤ n + 1
      rw [List.length_set]; omega
theorem heard_ok (b : Book) (n : Nat) (h : Bk b n) (hn : n ≤ 400) (a : NAddr) (ha : 0 ≤ a.Host) (src : Int) (k : Nat) (hk : 6000 ≤ k) : ∃ r fr, ref38_Heard.f k b a src = some (r, fr, 0) ∧ Bk r (n + 1) := by
  obtain ⟨r, fr, e, hr⟩ := hear_ok b n h hn a ha src k hk
  have hl := h.len
  have hs : ref38_Sound.f k (Book.mk b.Salt b.Heard b.Tried) = some true := soundR b h.ok (by omega) (by omega) k (by omega)
  have e' : ref38_hear.f k (Book.mk b.Salt b.Heard b.Tried) a src = some (r, fr) := e
  unfold ref38_Heard.f
  rw [hs, Option.bind_some, if_neg (by decide), e', Option.bind_some]
  exact ⟨r, fr, rfl, hr⟩
set_option maxHeartbeats 1000000 in
theorem good_ok (b : Book) (n : Nat) (h : Bk b n) (hn : n ≤ 400) (i : Nat) (hi : i < b.Heard.length) (k : Nat) (hk : 6000 ≤ k) : ∃ r, ref38_Good.f k b b.Heard[i].Addr_ = some (r, 0) ∧ Bk r (n + 1) := by
  have h0 := h
  obtain ⟨⟨hh, ht, hx⟩, ⟨p1, p2⟩, hl⟩ := h
  have hs : ref38_Sound.f k (Book.mk b.Salt b.Heard b.Tried) = some true := soundR b h0.ok (by omega) (by omega) k (by omega)
  have hc : ref38_Copied.f k (Book.mk b.Salt b.Heard b.Tried) = some b := copied_ok b (by omega) (by omega) k
  have hf : fndI b.Heard b.Heard[i].Addr_ = (i : Int) := fndI_self hh i hi
  have hrl := rem_len b.Heard i hi
  have hrs := rem_sub b.Heard i
  have hrm : ref38_remove.f k b.Heard (i : Int) = some (rem b.Heard i) := remove_ok b.Heard i hi (by omega) k
  have hnotr : ∀ q ∈ rem b.Heard i, sm q.Addr_ b.Heard[i].Addr_ = false := by
    intro q hq
    have e : b.Heard = b.Heard.take i ++ (b.Heard[i] :: b.Heard.drop (i + 1)) := by rw [← List.drop_eq_getElem_cons hi, List.take_append_drop]
    have hd := hh.d
    rw [e] at hd
    obtain ⟨d1, d2, d3⟩ := List.pairwise_append.1 hd
    unfold rem at hq
    rcases List.mem_append.1 hq with hq | hq
    · exact d3 q hq _ List.mem_cons_self
    · rw [sm_symm]; exact (List.pairwise_cons.1 d2).1 q hq
  have hin := inside_ok b.Tried (TB b.Salt b.Heard[i].Addr_) (by omega) k (by omega)
  have hfl := frm_le b.Tried (TB b.Salt b.Heard[i].Addr_)
  have htl := tto_le b.Tried (TB b.Salt b.Heard[i].Addr_)
  unfold ref38_Good.f
  rw [hs, Option.bind_some, if_neg (by decide), (find_ok b.Heard _ (by omega) k (by omega)).2, hf, Option.bind_some, if_neg (by simp), hc, Option.bind_some, if_pos ⟨by omega, by omega⟩, hrm, Option.bind_some, getD_at hi, TB_R _ _ k (by omega), Option.bind_some, hin, Option.bind_some]
  dsimp only
  rw [wr (x := ((tto b.Tried (TB b.Salt b.Heard[i].Addr_) : Nat) : Int) - ((frm b.Tried (TB b.Salt b.Heard[i].Addr_) : Nat) : Int)) (by omega) (by omega)]
  have hpos : 0 ≤ b.Heard[i].Addr_.Host := p1 _ (List.getElem_mem hi)
  by_cases hfull : frm b.Tried (TB b.Salt b.Heard[i].Addr_) + 8 ≤ tto b.Tried (TB b.Salt b.Heard[i].Addr_)
  · have hfi : frm b.Tried (TB b.Salt b.Heard[i].Addr_) < b.Tried.length := by omega
    generalize hj : frm b.Tried (TB b.Salt b.Heard[i].Addr_) = j at *
    have hjc : b.Tried[j].Bucket = TB b.Salt b.Heard[i].Addr_ := mem_between ht _ j (by omega) (by omega) hfi
    have hrt : ref38_remove.f k b.Tried (j : Int) = some (rem b.Tried j) := remove_ok b.Tried j hfi (by omega) k
    have hrtl := rem_len b.Tried j hfi
    have hrts := rem_sub b.Tried j
    rw [if_pos (by simp; omega), if_pos ⟨by omega, by omega⟩, hrt, Option.bind_some, Option.bind_some, getD_at hfi]
    dsimp only
    rw [insert_ok _ _ (by omega) k (by omega), Option.bind_some, if_pos (by simp; omega)]
    have hG : ref38_Group.f k b.Tried[j].Addr_ = some (grp b.Tried[j].Addr_) := rfl
    rw [hG, Option.bind_some]
    have hbk : Bk (Book.mk b.Salt (rem b.Heard i) (insP (rem b.Tried j) ⟨TB b.Salt b.Heard[i].Addr_, b.Heard[i].Addr_, b.Heard[i].Source⟩)) n := by
      refine ⟨⟨hh.sub hrs, Tab.ins (ht.sub hrts) ⟨TB b.Salt b.Heard[i].Addr_, b.Heard[i].Addr_, b.Heard[i].Source⟩ (fT_mk _ _ _ _).symm (rem_room ht _ j hfi hjc) (fun q hq => hx _ (List.getElem_mem hi) q (hrts.subset hq)), ?_⟩, ⟨fun p hp => p1 p (hrs.subset hp), ?_⟩, ?_⟩
      · intro p hp q hq
        rcases (insP_mem _ _ _).1 hq with rfl | hq
        · show sm b.Heard[i].Addr_ p.Addr_ = false
          rw [sm_symm]; exact hnotr p hp
        · exact hx p (hrs.subset hp) q (hrts.subset hq)
      · intro p hp
        rcases (insP_mem _ _ _).1 hp with rfl | hp
        · exact hpos
        · exact p2 p (hrts.subset hp)
      · show (rem b.Heard i).length + (insP (rem b.Tried j) _).length ≤ n
        rw [insP_len]; omega
    obtain ⟨r, fr, e, hr⟩ := hear_ok _ n hbk hn b.Tried[j].Addr_ (p2 _ (List.getElem_mem hfi)) (grp b.Tried[j].Addr_) k hk
    rw [e, Option.bind_some, Option.bind_some]
    exact ⟨r, rfl, hr⟩
  · rw [if_neg (by simp; omega), Option.bind_some]
    dsimp only
    rw [insert_ok _ _ (by omega) k (by omega), Option.bind_some, if_neg (by simp; omega), Option.bind_some]
    refine ⟨_, rfl, ⟨hh.sub hrs, Tab.ins ht ⟨TB b.Salt b.Heard[i].Addr_, b.Heard[i].Addr_, b.Heard[i].Source⟩ (fT_mk _ _ _ _).symm (by show tto b.Tried (TB b.Salt b.Heard[i].Addr_) < frm b.Tried (TB b.Salt b.Heard[i].Addr_) + 8; omega) (fun q hq => hx _ (List.getElem_mem hi) q hq), ?_⟩, ⟨fun p hp => p1 p (hrs.subset hp), ?_⟩, ?_⟩
    · intro p hp q hq
      rcases (insP_mem _ _ _).1 hq with rfl | hq
      · show sm b.Heard[i].Addr_ p.Addr_ = false
        rw [sm_symm]; exact hnotr p hp
      · exact hx p (hrs.subset hp) q hq
    · intro p hp
      rcases (insP_mem _ _ _).1 hp with rfl | hp
      · exact hpos
      · exact p2 p hp
    · show (rem b.Heard i).length + (insP b.Tried _).length ≤ n + 1
      rw [insP_len]; omega

/-! ## the deck -/
theorem mod_ok (k : Nat) (v n : Int) (hn : 0 < n) (hb : n < 4611686018427387904) : ∃ r, mill_Mod.f k v n = some r ∧ 0 ≤ r ∧ r < n := by
  have h1 := Int.tmod_lt_of_pos v hn
  have h2 : -n < v.tmod n := by
    have := Int.tmod_lt_of_pos (-v) hn
    rw [Int.neg_tmod] at this
    omega
  unfold mill_Mod.f
  rw [if_pos (by omega)]
  by_cases h : v.tmod n < 0
  · refine ⟨v.tmod n + n, ?_, by omega, by omega⟩
    rw [if_pos (by simpa using h), wr (by omega) (by omega)]; rfl
  · refine ⟨v.tmod n, ?_, by omega, by omega⟩
    rw [if_neg (by simpa using h)]; rfl
abbrev small : Int := 17592186044416
theorem left_ok (k : Nat) (L : List Int) (p : Int) : mill_Deck_Left.f k (lightclientmill_Deck.mk L p) = some (decide (p < (L.length : Int)), lightclientmill_Deck.mk L p) := rfl
theorem next_ok (k : Nat) (L : List Int) (hL : (L.length : Int) ≤ small) (p : Int) (h0 : 0 ≤ p) (h1 : p ≤ (L.length : Int)) (n : Int) (hn : 0 < n) (hb : n < 4611686018427387904) :
    ∃ v q, mill_Deck_Next.f k (lightclientmill_Deck.mk L p) n = some (v, lightclientmill_Deck.mk L q) ∧ 0 ≤ v ∧ v < n ∧ 0 ≤ q ∧ q ≤ (L.length : Int) := by
  unfold small at hL
  unfold mill_Deck_Next.f
  rw [left_ok, Option.bind_some]
  by_cases h : p < (L.length : Int)
  · have e1 : IntKind.i64.wrap (p + 1) = p + 1 := wr (by omega) (by omega)
    have e2 : IntKind.i64.wrap (p + 1 - 1) = p := by rw [wr (by omega) (by omega)]; omega
    obtain ⟨v, ev, hv0, hv1⟩ := mod_ok k (L.getD p.toNat 0) n hn hb
    refine ⟨v, p + 1, ?_, hv0, hv1, by omega, by omega⟩
    simp only [e1, e2, h, decide_true, Bool.not_true, Bool.false_eq_true, if_false, h0, and_self, if_true, ev, Option.bind_some]
  · exact ⟨0, p, by simp [h], by omega, hn, h0, h1⟩

/-! ## made books -/
theorem addr_ok (k : Nat) (L : List Int) (z : Int) (hL : (L.length : Int) ≤ small) (h0 : 0 ≤ z) (h1 : z ≤ (L.length : Int)) : ∃ a q, mill_Addr.f k (lightclientmill_Deck.mk L z) = some (a, lightclientmill_Deck.mk L q) ∧ 0 ≤ a.Host ∧ 0 ≤ q ∧ q ≤ (L.length : Int) := by
  obtain ⟨v1, q1, e1, _, _, a1, b1⟩ := next_ok k L hL z h0 h1 6 (by omega) (by omega)
  obtain ⟨v2, q2, e2, _, _, a2, b2⟩ := next_ok k L hL q1 a1 b1 5 (by omega) (by omega)
  obtain ⟨v3, q3, e3, _, _, a3, b3⟩ := next_ok k L hL q2 a2 b2 2 (by omega) (by omega)
  obtain ⟨v4, q4, e4, _, _, a4, b4⟩ := next_ok k L hL q3 a3 b3 50 (by omega) (by omega)
  unfold mill_Addr.f
  dsimp only
  rw [e1, Option.bind_some]
  dsimp only
  rw [e2, Option.bind_some]
  dsimp only
  rw [e3, Option.bind_some]
  dsimp only
  rw [e4, Option.bind_some]
  refine ⟨_, _, rfl, ?_, a4, b4⟩
  simp only [IntKind.wrap, IntKind.bits, IntKind.signed]
  simp
  omega
theorem mhash_ok (k : Nat) (L : List Int) (z : Int) (hL : (L.length : Int) ≤ small) (h0 : 0 ≤ z) (h1 : z ≤ (L.length : Int)) : ∃ v q, mill_Hash.f k (lightclientmill_Deck.mk L z) = some (v, lightclientmill_Deck.mk L q) ∧ 0 ≤ q ∧ q ≤ (L.length : Int) := by
  obtain ⟨v1, q1, e1, _, _, a1, b1⟩ := next_ok k L hL z h0 h1 5 (by omega) (by omega)
  obtain ⟨v2, q2, e2, _, _, a2, b2⟩ := next_ok k L hL q1 a1 b1 7 (by omega) (by omega)
  unfold mill_Hash.f
  dsimp only
  rw [e1, Option.bind_some]
  dsimp only
  rw [e2, Option.bind_some]
  exact ⟨_, _, rfl, a2, b2⟩
set_option maxHeartbeats 1000000 in
theorem book_l (L : List Int) (z : Int) (hL : (L.length : Int) ≤ small) : ∀ (m k : Nat) (p : Int) (b : Book) (n : Nat), 0 ≤ p → p ≤ (L.length : Int) → Bk b n → n + m ≤ 100 →
    ∃ r q, mill_Book.l0 (lightclientmill_Deck.mk L z) (k + 6000 + m + 1) p b.Salt b.Heard b.Tried (m : Int) = some (r.Salt, r.Heard, r.Tried, q) ∧ Bk r (n + m) ∧ 0 ≤ q ∧ q ≤ (L.length : Int)
  | 0, k, p, b, n, h0, h1, hb, hn => ⟨b, p, by rw [mill_Book.l0, if_neg (by simp)], hb, h0, h1⟩
  | m + 1, k, p, b, n, h0, h1, hb, hn => by
    obtain ⟨v, q, e, v0, v1, a, c⟩ := next_ok (k + 6000 + (m + 1)) L hL p h0 h1 4 (by omega) (by omega)
    have hw : IntKind.i64.wrap (((m + 1 : Nat) : Int) - 1) = (m : Int) := by rw [wr (by omega) (by omega)]; omega
    have hl := hb.len
    have weak : ∀ {b : Book} {n : Nat}, Bk b n → Bk b (n + 1) := fun {b n} h => ⟨h.ok, h.pos, by have := h.len; omega⟩
    have nx : ∀ (q : Int) (r : Book), 0 ≤ q → q ≤ (L.length : Int) → Bk r (n + 1) → ∃ r' q', mill_Book.l0 (lightclientmill_Deck.mk L z) (k + 6000 + m + 1) q r.Salt r.Heard r.Tried (m : Int) = some (r'.Salt, r'.Heard, r'.Tried, q') ∧ Bk r' (n + (m + 1)) ∧ 0 ≤ q' ∧ q' ≤ (L.length : Int) := fun q r hq hq2 hr => by
      obtain ⟨r', q', e1, e2, e3, e4⟩ := book_l L z hL m k q r (n + 1) hq hq2 hr (by omega)
      exact ⟨r', q', e1, by rw [show n + (m + 1) = n + 1 + m by omega]; exact e2, e3, e4⟩
    rw [mill_Book.l0, if_pos (by simp), e, Option.bind_some, hw]
    dsimp only
    by_cases hv : (v == 0) = true
    · rw [if_pos hv]
      by_cases hh : b.Heard.length > 0
      · obtain ⟨u, q1, e1, u0, u1, a1, c1⟩ := next_ok (k + 6000 + (m + 1)) L hL q a c ((b.Heard.length : Nat) : Int) (by omega) (by omega)
        obtain ⟨i, rfl⟩ : ∃ i : Nat, u = i := ⟨u.toNat, by omega⟩
        have hi : i < b.Heard.length := by omega
        obtain ⟨r, er, hr⟩ := good_ok b n hb (by omega) i hi (k + 6000 + (m + 1)) (by omega)
        have er' : ref38_Good.f (k + 6000 + (m + 1)) (Book.mk b.Salt b.Heard b.Tried) b.Heard[i].Addr_ = some (r, 0) := er
        rw [if_pos (by simp only [decide_eq_true_eq]; omega), e1, Option.bind_some]
        dsimp only
        rw [if_pos ⟨by omega, by omega⟩, getD_at hi, er', Option.bind_some, Option.bind_some, Option.bind_some]
        dsimp only
        exact nx q1 r a1 c1 hr
      · rw [if_neg (by simp only [decide_eq_true_eq]; omega), Option.bind_some]
        dsimp only
        exact nx q b a c (weak hb)
    · obtain ⟨ad, q1, e1, hp, a1, c1⟩ := addr_ok (k + 6000 + (m + 1)) L q hL a c
      obtain ⟨u, q2, e2, _, _, a2, c2⟩ := next_ok (k + 6000 + (m + 1)) L hL q1 a1 c1 4 (by omega) (by omega)
      obtain ⟨r, fr, er, hr⟩ := heard_ok b n hb (by omega) ad hp (IntKind.u32.wrap u) (k + 6000 + (m + 1)) (by omega)
      have er' : ref38_Heard.f (k + 6000 + (m + 1)) (Book.mk b.Salt b.Heard b.Tried) ad (IntKind.u32.wrap u) = some (r, fr, 0) := er
      rw [if_neg hv, e1, Option.bind_some]
      dsimp only
      rw [e2, Option.bind_some]
      dsimp only
      rw [er', Option.bind_some, Option.bind_some, Option.bind_some]
      dsimp only
      exact nx q2 r a2 c2 hr
theorem book_ok (L : List Int) (hL : (L.length : Int) ≤ small) (k : Nat) (hk : 6100 ≤ k) : ∃ b q, mill_Book.f k (lightclientmill_Deck.mk L 0) = some (b, lightclientmill_Deck.mk L q) ∧ Bk b 40 ∧ 0 ≤ q ∧ q ≤ (L.length : Int) := by
  obtain ⟨v1, q1, e1, a1, b1⟩ := mhash_ok k L 0 hL (by omega) (by omega)
  obtain ⟨v2, q2, e2, c0, c1, a2, b2⟩ := next_ok k L hL q1 a1 b1 40 (by omega) (by omega)
  have h0 : Bk (Book.mk v1 [] []) 0 := ⟨⟨Tab.nil _, Tab.nil _, by simp⟩, ⟨by simp, by simp⟩, by simp⟩
  obtain ⟨r, q, e3, hr, a3, b3⟩ := book_l L 0 hL v2.toNat (k - 6000 - v2.toNat - 1) q2 (Book.mk v1 [] []) 0 a2 b2 h0 (by omega)
  rw [show k - 6000 - v2.toNat - 1 + 6000 + v2.toNat + 1 = k by omega, show ((v2.toNat : Nat) : Int) = v2 by omega] at e3
  unfold mill_Book.f
  dsimp only
  rw [e1, Option.bind_some]
  dsimp only
  rw [e2, Option.bind_some]
  dsimp only
  rw [e3, Option.bind_some]
  exact ⟨r, q, rfl, ⟨hr.ok, hr.pos, by have := hr.len; omega⟩, a3, b3⟩

/-! ## links -/
def mt (l : List Link) (a : NAddr) : Bool := l.any (fun x => grp x.Addr_ == grp a)
theorem met_l (l : List Link) (a : NAddr) (hl : l.length ≤ 100000) : ∀ (m k t : Nat), t + m = l.length → ∃ o, connect_met.l0 l a (k + m + 1) (t : Int) = some o ∧ ((mt (l.drop t) a = true ∧ ∃ i : Nat, o = .ret (i : Int)) ∨ (mt (l.drop t) a = false ∧ o = .go ()))
  | 0, k, t, h => ⟨.go (), by rw [connect_met.l0, if_neg (by simp; omega)], .inr ⟨by rw [List.drop_of_length_le (by omega)]; rfl, rfl⟩⟩
  | m + 1, k, t, h => by
    have hlt : t < l.length := by omega
    obtain ⟨o, ih, ho⟩ := met_l l a hl m k (t + 1) (by omega)
    have hG : ∀ x : NAddr, addrbook_Group.f (k + m + 1) x = some (grp x) := fun x => rfl
    rw [show k + (m + 1) + 1 = k + m + 1 + 1 by omega, connect_met.l0, if_pos (by simp; omega), if_pos ⟨by omega, by omega⟩, getD_at hlt, hG, hG, Option.bind_some, Option.bind_some, suc t (by omega), ih]
    have hm : mt (l.drop t) a = ((grp l[t].Addr_ == grp a) || mt (l.drop (t + 1)) a) := by
      unfold mt
      rw [List.drop_eq_getElem_cons hlt, List.any_cons]
    by_cases hg : (grp l[t].Addr_ == grp a) = true
    · rw [if_pos hg]
      exact ⟨_, rfl, .inl ⟨by rw [hm, hg]; rfl, t, rfl⟩⟩
    · rw [if_neg hg]
      have hg' : (grp l[t].Addr_ == grp a) = false := by simpa using hg
      refine ⟨o, rfl, ?_⟩
      rw [hm, hg', Bool.false_or]
      exact ho
theorem met_ok (l : List Link) (a : NAddr) (hl : l.length ≤ 100000) (k : Nat) (hk : l.length < k) : connect_met.f k l a = some (mt l a) := by
  obtain ⟨o, h, ho⟩ := met_l l a hl l.length (k - l.length - 1) 0 (by omega)
  have e0 : ((0 : Nat) : Int) = 0 := rfl
  rw [show k - l.length - 1 + l.length + 1 = k by omega, e0] at h
  rw [List.drop_zero] at ho
  unfold connect_met.f
  rw [h]
  rcases ho with ⟨h1, i, rfl⟩ | ⟨h1, rfl⟩
  · rw [h1]; simp
  · rw [h1]; simp
theorem mt_iff (l : List Link) (a : NAddr) : mt l a = false ↔ ∀ x ∈ l, grp x.Addr_ ≠ grp a := by
  unfold mt
  rw [List.any_eq_false]
  simp
structure LinkOk (l : List Link) : Prop where
  k : ∀ x ∈ l, 1 ≤ x.Kind ∧ x.Kind ≤ 3
  d : l.Pairwise (fun x y => grp x.Addr_ ≠ grp y.Addr_)
  n : l.length ≤ 8
theorem known_ok (k : Nat) (x : Int) (h1 : 1 ≤ x) (h2 : x ≤ 3) : connect_known.f k x = some true := by
  unfold connect_known.f
  rw [if_pos (by simpa using h1), Option.bind_some]
  simp [h2]
theorem lsound_l (l : List Link) (h : LinkOk l) : ∀ (m k t : Nat), t + m = l.length → connect_Sound.l0 l (k + 100 + m + 1) (t : Int) = some (.go ())
  | 0, k, t, ht => by rw [connect_Sound.l0, if_neg (by simp; omega)]
  | m + 1, k, t, ht => by
    have hlt : t < l.length := by omega
    have hn := h.n
    obtain ⟨k1, k2⟩ := h.k l[t] (List.getElem_mem hlt)
    have hm : mt (l.take t) l[t].Addr_ = false := by
      rw [mt_iff]
      intro x hx
      obtain ⟨i, hi, rfl⟩ := List.getElem_of_mem hx
      rw [List.length_take] at hi
      rw [List.getElem_take]
      exact List.pairwise_iff_getElem.1 h.d _ _ _ _ (by omega)
    rw [show k + 100 + (m + 1) + 1 = k + 100 + m + 1 + 1 by omega, connect_Sound.l0, if_pos (by simp; omega), if_pos ⟨by omega, by omega⟩, getD_at hlt, known_ok _ _ k1 k2, Option.bind_some, if_neg (by decide), if_pos ⟨by omega, by omega⟩, Int.toNat_natCast, met_ok _ _ (by rw [List.length_take]; omega) _ (by rw [List.length_take]; omega), hm, Option.bind_some, Option.bind_some, if_neg (by decide), suc t (by omega)]
    exact lsound_l l h m k (t + 1) (by omega)
theorem lsound_ok (l : List Link) (h : LinkOk l) (k : Nat) (hk : 200 ≤ k) : connect_Sound.f k l = some true := by
  have hn := h.n
  have h1 := lsound_l l h l.length (k - 100 - l.length - 1) 0 (by omega)
  have e0 : ((0 : Nat) : Int) = 0 := rfl
  rw [show k - 100 - l.length - 1 + 100 + l.length + 1 = k by omega, e0] at h1
  unfold connect_Sound.f
  rw [if_neg (by simp; omega), h1]
  rfl
def frs (ps : List Place) (l : List Link) : List NAddr := (ps.filter (fun p => !(mt l p.Addr_))).map (·.Addr_)
theorem fresh_l (ps : List Place) (l : List Link) (hp : ps.length ≤ 1000) (hl : l.length ≤ 100) : ∀ (m k : Nat) (xs : List NAddr) (t : Nat), t + m = ps.length → xs.length + m ≤ 10000 → connect_fresh.l0 ps l (k + 200 + m + 1) xs (t : Int) = some (xs ++ frs (ps.drop t) l)
  | 0, k, xs, t, h, hx => by rw [connect_fresh.l0, if_neg (by simp; omega), List.drop_of_length_le (by omega)]; simp [frs]
  | m + 1, k, xs, t, h, hx => by
    have hlt : t < ps.length := by omega
    rw [show k + 200 + (m + 1) + 1 = k + 200 + m + 1 + 1 by omega, connect_fresh.l0, if_pos (by simp; omega), if_pos ⟨by omega, by omega⟩, getD_at hlt, met_ok _ _ (by omega) _ (by omega), Option.bind_some, suc t (by omega)]
    have hf : frs (ps.drop t) l = (if mt l ps[t].Addr_ then [] else [ps[t].Addr_]) ++ frs (ps.drop (t + 1)) l := by
      unfold frs
      rw [List.drop_eq_getElem_cons hlt, List.filter_cons]
      cases mt l ps[t].Addr_ <;> simp
    cases hm : mt l ps[t].Addr_ with
    | true =>
      rw [hm] at hf
      rw [if_neg (by decide), Option.bind_some, fresh_l ps l hp hl m k xs (t + 1) (by omega) (by omega), hf]
      rfl
    | false =>
      rw [hm] at hf
      rw [if_pos (by decide), if_pos (by omega), Option.bind_some, fresh_l ps l hp hl m k _ (t + 1) (by omega) (by simp; omega), hf, List.append_assoc]
      rfl
theorem fresh_ok (ps : List Place) (l : List Link) (hp : ps.length ≤ 1000) (hl : l.length ≤ 100) (k : Nat) (hk : 2000 ≤ k) : connect_fresh.f k ps l = some (frs ps l) := by
  have h := fresh_l ps l hp hl ps.length (k - 200 - ps.length - 1) [] 0 (by omega) (by simp; omega)
  have e0 : ((0 : Nat) : Int) = 0 := rfl
  rw [show k - 200 - ps.length - 1 + 200 + ps.length + 1 = k by omega, e0, List.drop_zero, List.nil_append] at h
  unfold connect_fresh.f
  rw [h]
  rfl
theorem frs_mem {ps : List Place} {l : List Link} {a : NAddr} (h : a ∈ frs ps l) : mt l a = false ∧ ∃ p ∈ ps, p.Addr_ = a := by
  unfold frs at h
  obtain ⟨p, hp, rfl⟩ := List.mem_map.1 h
  obtain ⟨h1, h2⟩ := List.mem_filter.1 hp
  exact ⟨by simpa using h2, p, h1, rfl⟩
def cand (b : Book) (l : List Link) (kd : Int) : List NAddr := if kd = 2 then frs b.Tried l ++ frs b.Heard l else frs b.Heard l
theorem frs_len (ps : List Place) (l : List Link) : (frs ps l).length ≤ ps.length := by
  unfold frs
  rw [List.length_map]
  exact List.length_filter_le _ _
theorem cand_ok (b : Book) (hb : Bk b 40) (l : List Link) (hl : l.length ≤ 100) (kd : Int) (hkd : kd = 2 ∨ kd = 3) (k : Nat) (hk : 2000 ≤ k) : connect_Candidates.f k (Book.mk b.Salt b.Heard b.Tried) l kd = some (cand b l kd) := by
  have hlen := hb.len
  have l1 := frs_len b.Tried l
  have l2 := frs_len b.Heard l
  unfold connect_Candidates.f cand
  dsimp only
  rcases hkd with rfl | rfl
  · rw [if_pos (by decide), if_pos rfl, fresh_ok _ _ (by omega) hl k hk, Option.bind_some, fresh_ok _ _ (by omega) hl k hk, Option.bind_some, if_pos (by omega)]
  · rw [if_neg (by decide), if_pos (by decide), if_neg (show ¬ (3 : Int) = 2 by decide), fresh_ok _ _ (by omega) hl k hk]
    rfl
theorem cand_mem {b : Book} {n : Nat} (hb : Bk b n) {l : List Link} {kd : Int} {a : NAddr} (h : a ∈ cand b l kd) : mt l a = false ∧ 0 ≤ a.Host := by
  have hx : ∀ ps : List Place, (∀ p ∈ ps, 0 ≤ p.Addr_.Host) → a ∈ frs ps l → mt l a = false ∧ 0 ≤ a.Host := fun ps hp ha => by
    obtain ⟨h1, p, hpm, rfl⟩ := frs_mem ha
    exact ⟨h1, hp p hpm⟩
  unfold cand at h
  by_cases hk : kd = 2
  · rw [if_pos hk] at h
    rcases List.mem_append.1 h with h | h
    · exact hx _ hb.pos.2 h
    · exact hx _ hb.pos.1 h
  · rw [if_neg hk] at h
    exact hx _ hb.pos.1 h
def cnt (l : List Link) (kd : Int) : Nat := (l.filter (fun x => x.Kind == kd)).length
theorem count_l (l : List Link) (kd : Int) (hl : l.length ≤ 1000) : ∀ (m k : Nat) (n t : Nat), t + m = l.length → n ≤ t → connect_count.l0 l kd (k + m + 1) (n : Int) (t : Int) = some ((n + cnt (l.drop t) kd : Nat) : Int)
  | 0, k, n, t, h, hn => by rw [connect_count.l0, if_neg (by simp; omega), List.drop_of_length_le (by omega)]; rfl
  | m + 1, k, n, t, h, hn => by
    have hlt : t < l.length := by omega
    have hc : cnt (l.drop t) kd = (if l[t].Kind == kd then 1 else 0) + cnt (l.drop (t + 1)) kd := by
      unfold cnt
      rw [List.drop_eq_getElem_cons hlt, List.filter_cons]
      by_cases hk : (l[t].Kind == kd) = true
      · rw [if_pos hk, if_pos hk, List.length_cons]; omega
      · rw [if_neg hk, if_neg hk]; omega
    rw [show k + (m + 1) + 1 = k + m + 1 + 1 by omega, connect_count.l0, if_pos (by simp; omega), if_pos ⟨by omega, by omega⟩, getD_at hlt, suc t (by omega), suc n (by omega)]
    by_cases hk : (l[t].Kind == kd) = true
    · rw [if_pos hk] at hc
      rw [if_pos hk, Option.bind_some, count_l l kd hl m k (n + 1) (t + 1) (by omega) (by omega), hc, show n + 1 + cnt (l.drop (t + 1)) kd = n + (1 + cnt (l.drop (t + 1)) kd) by omega]
    · rw [if_neg hk] at hc
      rw [if_neg hk, Option.bind_some, count_l l kd hl m k n (t + 1) (by omega) (by omega), hc, Nat.zero_add]
theorem count_ok (l : List Link) (kd : Int) (hl : l.length ≤ 1000) (k : Nat) (hk : l.length < k) : connect_count.f k l kd = some (cnt l kd : Int) := by
  have h := count_l l kd hl l.length (k - l.length - 1) 0 0 (by omega) (by omega)
  have e0 : ((0 : Nat) : Int) = 0 := rfl
  rw [show k - l.length - 1 + l.length + 1 = k by omega, e0, List.drop_zero, Nat.zero_add] at h
  unfold connect_count.f
  rw [h]
  rfl
theorem choose_l (an : List NAddr) (l : List Link) (ha : an.length ≤ 100) (hl : l.length ≤ 100) : ∀ (m k t : Nat), t + m = an.length → (connect_Choose.l0 an l (k + 200 + m + 1) (t : Int) = some (.go ())) ∨ ∃ (i : Nat) (hi : i < an.length), connect_Choose.l0 an l (k + 200 + m + 1) (t : Int) = some (.ret (i : Int)) ∧ mt l an[i] = false ∧ t ≤ i ∧ ∀ j (hj : j < i), t ≤ j → mt l (an[j]'(by omega)) = true
  | 0, k, t, h => .inl (by rw [connect_Choose.l0, if_neg (by simp; omega)])
  | m + 1, k, t, h => by
    have hlt : t < an.length := by omega
    have ih := choose_l an l ha hl m k (t + 1) (by omega)
    rw [show k + 200 + (m + 1) + 1 = k + 200 + m + 1 + 1 by omega, connect_Choose.l0, if_pos (by simp; omega), if_pos ⟨by omega, by omega⟩, getD_at hlt, met_ok _ _ (by omega) _ (by omega), Option.bind_some, suc t (by omega)]
    cases hm : mt l an[t] with
    | false =>
      rw [if_pos (by decide)]
      exact .inr ⟨t, hlt, rfl, hm, Nat.le_refl _, fun j hj hj2 => by omega⟩
    | true =>
      rw [if_neg (by decide)]
      rcases ih with h | ⟨i, hi, h1, h2, h3, h4⟩
      · exact .inl h
      · refine .inr ⟨i, hi, h1, h2, by omega, fun j hj hj2 => ?_⟩
        by_cases e : j = t
        · subst e; exact hm
        · exact h4 j hj (by omega)

/-! ## links, chosen and opened -/
structure Chosen (b : Book) (an : List NAddr) (l : List Link) (n : Link) (e : Int) : Prop where
  ee : e = 0 ∨ e = 390 ∨ e = 380
  kd : e = 0 → 1 ≤ n.Kind ∧ n.Kind ≤ 3
  mm : e = 0 → mt l n.Addr_ = false
  len : e = 0 → l.length < 8
  fl : e = 0 → n.Kind = 3 → cnt l 3 = 0
  hp : e = 0 → (∀ a ∈ an, 0 ≤ a.Host) → 0 ≤ n.Addr_.Host
  aa : l = [] → ∀ a r, an = a :: r → e = 0 ∧ n = Link.mk 1 a
theorem u64n (n : Nat) (h : n < 1000000) : IntKind.u64.wrap (n : Int) = (n : Int) := wrapu .u64 rfl n (by show n < 18446744073709551616; omega)
set_option maxHeartbeats 1000000 in
theorem choose_ok (b : Book) (hb : Bk b 40) (an : List NAddr) (ha : an.length ≤ 10) (l : List Link) (hl : LinkOk l) (draw : Int) (hd : 0 ≤ draw) (k : Nat) (hk : 6000 ≤ k) :
    ∃ n e, connect_Choose.f k (Book.mk b.Salt b.Heard b.Tried) an l draw = some (n, e) ∧ Chosen b an l n e := by
  have hn := hl.n
  have hbl := hb.len
  have hs : addrbook_Sound.f k (Book.mk b.Salt b.Heard b.Tried) = some true := soundA b hb.ok (by omega) (by omega) k (by omega)
  have hci : cnt l 1 ≤ l.length := List.length_filter_le _ _
  have hc3 : cnt l 3 ≤ l.length := List.length_filter_le _ _
  unfold connect_Choose.f
  dsimp only
  rw [lsound_ok l hl k (by omega), Option.bind_some, if_neg (by decide), hs, Option.bind_some, Option.bind_some, if_neg (by decide)]
  by_cases h8 : 8 ≤ l.length
  · rw [if_pos (by simp; omega)]
    exact ⟨_, _, rfl, .inr (.inr rfl), (fun h => by cases h), (fun h => by cases h), (fun h => by cases h), (fun h => by cases h), (fun h => by cases h), fun h0 => by rw [h0] at h8; simp at h8⟩
  · rw [if_neg (by simp; omega)]
    have hch := choose_l an l (by omega) (by omega) an.length (k - 200 - an.length - 1) 0 (by omega)
    have e0 : ((0 : Nat) : Int) = 0 := rfl
    rw [show k - 200 - an.length - 1 + 200 + an.length + 1 = k by omega, e0] at hch
    -- what is chosen when no anchor is
    have rest : ∀ (hne : ∀ a r, l = [] → an = a :: r → False), ∃ n e, ((connect_count.f k l 3).bind fun r571 => (Option.bind (α := Out (Link × Int) (Int)) (if (decide ((IntKind.i64.wrap (((l.length : Nat) : Int) - r571)) ≥ 7)) = true then (if (decide (r571 > 0)) = true then (some (.ret ((Link.z), 380))) else (some (.go 3))) else (some (.go 2))) (fun o => match o with | .ret r => some r | .go kind582 => ((connect_Candidates.f k (Book.mk b.Salt b.Heard b.Tried) l kind582).bind fun r589 => (if (((r589.length : Nat) : Int) == 0) = true then (some ((Link.z), 390)) else (if ¬ (IntKind.u64.wrap ((r589.length : Nat) : Int)) = 0 then (if 0 ≤ (draw.tmod (IntKind.u64.wrap ((r589.length : Nat) : Int))) ∧ (draw.tmod (IntKind.u64.wrap ((r589.length : Nat) : Int))) < ((r589.length : Nat) : Int) then (some ((Link.mk kind582 (r589.getD (draw.tmod (IntKind.u64.wrap ((r589.length : Nat) : Int))).toNat NAddr.z)), 0)) else none) else none)))))) = some (n, e) ∧ Chosen b an l n e := by
      intro hne
      have pick : ∀ kd : Int, (kd = 2 ∨ kd = 3) → (kd = 3 → cnt l 3 = 0) → ∃ n e, ((connect_Candidates.f k (Book.mk b.Salt b.Heard b.Tried) l kd).bind fun r589 => (if (((r589.length : Nat) : Int) == 0) = true then (some ((Link.z), 390)) else (if ¬ (IntKind.u64.wrap ((r589.length : Nat) : Int)) = 0 then (if 0 ≤ (draw.tmod (IntKind.u64.wrap ((r589.length : Nat) : Int))) ∧ (draw.tmod (IntKind.u64.wrap ((r589.length : Nat) : Int))) < ((r589.length : Nat) : Int) then (some ((Link.mk kd (r589.getD (draw.tmod (IntKind.u64.wrap ((r589.length : Nat) : Int))).toNat NAddr.z)), (0 : Int))) else none) else none))) = some (n, e) ∧ Chosen b an l n e := by
        intro kd hkd h30
        have l1 := frs_len b.Tried l
        have l2 := frs_len b.Heard l
        have hcl : (cand b l kd).length ≤ 40 := by
          unfold cand
          split
          · rw [List.length_append]; omega
          · omega
        rw [cand_ok b hb l (by omega) kd hkd k (by omega), Option.bind_some]
        by_cases hz : (cand b l kd).length = 0
        · rw [if_pos (by simp [hz])]
          exact ⟨_, _, rfl, .inr (.inl rfl), (fun h => by cases h), (fun h => by cases h), (fun h => by cases h), (fun h => by cases h), (fun h => by cases h), fun h0 a r h1 => (hne a r h0 h1).elim⟩
        · have t0 := Int.tmod_nonneg (((cand b l kd).length : Nat) : Int) hd
          have t1 := Int.tmod_lt_of_pos draw (show (0 : Int) < (((cand b l kd).length : Nat) : Int) by omega)
          rw [if_neg (by simp only [beq_iff_eq]; omega), u64n _ (by omega), if_pos (by omega), if_pos ⟨t0, t1⟩]
          obtain ⟨j, hj⟩ : ∃ j : Nat, draw.tmod (((cand b l kd).length : Nat) : Int) = j := ⟨(draw.tmod (((cand b l kd).length : Nat) : Int)).toNat, by omega⟩
          have hjl : j < (cand b l kd).length := by omega
          rw [hj, getD_at hjl]
          obtain ⟨m1, m2⟩ := cand_mem hb (List.getElem_mem hjl)
          exact ⟨_, _, rfl, .inl rfl, (fun _ => by rcases hkd with rfl | rfl <;> simp), (fun _ => m1), (fun _ => by omega), (fun _ h => h30 h), (fun _ _ => m2), fun h0 a r h1 => (hne a r h0 h1).elim⟩
      rw [count_ok l 3 (by omega) k (by omega), Option.bind_some, wr (by omega) (by omega)]
      by_cases h7 : 7 ≤ (((l.length : Nat) : Int) - ((cnt l 3 : Nat) : Int))
      · rw [if_pos (by simpa using h7)]
        by_cases hf : 0 < cnt l 3
        · rw [if_pos (by simp; omega), Option.bind_some]
          exact ⟨_, _, rfl, .inr (.inr rfl), (fun h => by cases h), (fun h => by cases h), (fun h => by cases h), (fun h => by cases h), (fun h => by cases h), fun h0 a r h1 => (hne a r h0 h1).elim⟩
        · rw [if_neg (by simp; omega), Option.bind_some]
          exact pick 3 (.inr rfl) (fun _ => by omega)
      · rw [if_neg (by simpa using h7), Option.bind_some]
        exact pick 2 (.inl rfl) (fun h => by cases h)
    rcases hch with h | ⟨i, hi, h1, h2, h3, h4⟩
    · rw [h, Option.bind_some]
      dsimp only
      rw [Option.bind_some, if_neg (by decide), Option.bind_some, if_neg (by decide)]
      refine rest fun a r h0 h1 => ?_
      -- the first anchor is met by no link
      subst h0; subst h1
      have : connect_Choose.l0 (a :: r) [] k 0 = some (.ret 0) := by
        obtain ⟨q, rfl⟩ : ∃ q, k = q + 1 := ⟨k - 1, by omega⟩
        have hm := met_ok [] a (by simp) q (by simp; omega)
        have hm' : connect_met.f q [] ((a :: r).getD (0 : Int).toNat NAddr.z) = some false := hm
        rw [connect_Choose.l0, if_pos (by simp), if_pos ⟨by omega, by simp⟩, hm', Option.bind_some, if_pos (by decide)]
      rw [this] at h
      cases h
    · rw [h1, Option.bind_some]
      dsimp only
      rw [Option.bind_some, if_pos (by simp), count_ok l 1 (by omega) k (by omega), Option.bind_some, Option.bind_some]
      by_cases hc2 : cnt l 1 < 2
      · rw [if_pos (by simp; omega), if_pos ⟨by omega, by omega⟩, getD_at hi]
        refine ⟨_, _, rfl, .inl rfl, (fun _ => by simp), (fun _ => h2), (fun _ => by omega), (fun _ h => by cases h), (fun _ hh => hh _ (List.getElem_mem hi)), ?_⟩
        intro h0 a r e
        subst h0; subst e
        by_cases hi0 : i = 0
        · subst hi0; exact ⟨rfl, rfl⟩
        · have := h4 0 (by omega) (by omega)
          exact absurd this (by simp [mt])
      · rw [if_neg (by simp; omega)]
        refine rest fun a r h0 _ => ?_
        subst h0
        exact hc2 (by decide)
theorem open_ok (l : List Link) (hl : LinkOk l) (n : Link) (hk : 1 ≤ n.Kind ∧ n.Kind ≤ 3) (hm : mt l n.Addr_ = false) (h8 : l.length < 8) (k : Nat) (hkk : 200 ≤ k) : connect_Open.f k l n = some (l ++ [n], 0) ∧ LinkOk (l ++ [n]) := by
  constructor
  · unfold connect_Open.f slices_Clone_Link.f
    rw [lsound_ok l hl k hkk, Option.bind_some, if_neg (by decide), known_ok k _ hk.1 hk.2, Option.bind_some, Option.bind_some, if_neg (by decide), met_ok l _ (by omega) k (by omega), hm, Option.bind_some, if_neg (by decide), if_neg (by simp; omega), if_pos (by omega), Option.bind_some, if_pos (by omega)]
    rfl
  · refine ⟨?_, ?_, by simp; omega⟩
    · intro x hx
      rcases List.mem_append.1 hx with h | h
      · exact hl.k x h
      · rw [List.mem_singleton.1 h]; exact hk
    · refine List.pairwise_append.2 ⟨hl.d, by simp, ?_⟩
      intro x hx y hy
      rw [List.mem_singleton.1 hy]
      exact (mt_iff l n.Addr_).1 hm x hx
structure Grown (an : List NAddr) (x : List Link) : Prop where
  ok : LinkOk x
  fl : cnt x 3 ≤ 1
  hp : (∀ a ∈ an, 0 ≤ a.Host) → ∀ y ∈ x, 0 ≤ y.Addr_.Host
  aa : ∀ a r, an = a :: r → x ≠ [] → ∃ s, x = Link.mk 1 a :: s
set_option maxHeartbeats 1000000 in
theorem grow_l (b : Book) (hb : Bk b 40) (an : List NAddr) (ha : an.length ≤ 10) (D : List Int) (hD : (D.length : Int) ≤ small) : ∀ (m k t : Nat) (xs : List Link) (p : Int), t + m = 8 → xs.length = t → Grown an xs → (∀ a r, an = a :: r → t = 0 ∨ xs ≠ []) → 0 ≤ p → p ≤ (D.length : Int) →
    ∃ ys, law39_grow.l0 b an D (k + 7000 + m + 1) xs p (t : Int) = some (.ret (ys, true)) ∧ Grown an ys ∧ ∀ a r, an = a :: r → ys ≠ []
  | m, k, t, xs, p, ht, hx, hg, hne, p0, p1 => by
    obtain ⟨v, q, e, v0, v1, a1, c1⟩ := next_ok (k + 7000 + m) D hD p p0 p1 1048576 (by omega) (by omega)
    have hdr : IntKind.u64.wrap v = v := by
      obtain ⟨w, rfl⟩ : ∃ w : Nat, v = w := ⟨v.toNat, by omega⟩
      exact wrapu .u64 rfl w (by show w < 18446744073709551616; omega)
    obtain ⟨n, er, hc, hch⟩ := choose_ok b hb an ha xs hg.ok v v0 (k + 7000 + m) (by omega)
    rw [law39_grow.l0, if_pos (by simp; omega), e, Option.bind_some, hdr]
    dsimp only
    rw [hc, Option.bind_some, Option.bind_some]
    dsimp only
    by_cases h0 : er = 0
    · subst h0
      have hlen := hch.len rfl
      obtain ⟨m, rfl⟩ : ∃ q, m = q + 1 := ⟨m - 1, by omega⟩
      obtain ⟨o1, o2⟩ := open_ok xs hg.ok n (hch.kd rfl) (hch.mm rfl) hlen (k + 7000 + (m + 1)) (by omega)
      rw [if_neg (by decide), o1, Option.bind_some]
      dsimp only
      rw [if_neg (by decide), suc t (by omega)]
      refine grow_l b hb an ha D hD m k (t + 1) (xs ++ [n]) q (by omega) (by simp; omega) ⟨o2, ?_, ?_, ?_⟩ (fun a r _ => .inr (by simp)) a1 c1
      · have hfl := hg.fl
        unfold cnt at hfl ⊢
        rw [List.filter_append, List.length_append]
        by_cases hk3 : n.Kind = 3
        · have h3 := hch.fl rfl hk3
          unfold cnt at h3
          rw [h3]
          simp [hk3]
        · have : [n].filter (fun x => x.Kind == 3) = [] := by simp [hk3]
          rw [this]; simpa using hfl
      · intro hh y hy
        rcases List.mem_append.1 hy with h | h
        · exact hg.hp hh y h
        · rw [List.mem_singleton.1 h]; exact hch.hp rfl hh
      · intro a r e1 _
        by_cases hxe : xs = []
        · subst hxe
          obtain ⟨_, e2⟩ := hch.aa rfl a r e1
          exact ⟨[], by rw [e2]; rfl⟩
        · obtain ⟨s, e2⟩ := hg.aa a r e1 hxe
          exact ⟨s ++ [n], by rw [e2]; rfl⟩
    · rw [if_pos (by simpa using h0)]
      have hb2 : (Option.bind (α := Bool) (if (er == 390) = true then (some true) else (some (er == 380))) (fun t1111 => (some (Out.ret (xs, t1111) : Out (List Link × Bool) (List Link))))) = some (.ret (xs, true)) := by
        rcases hch.ee with h | h | h
        · exact absurd h h0
        · subst h; rfl
        · subst h; rfl
      rw [hb2]
      refine ⟨xs, rfl, hg, fun a r e1 hnil => ?_⟩
      subst hnil
      exact h0 (hch.aa rfl a r e1).1
theorem grow_ok (b : Book) (hb : Bk b 40) (an : List NAddr) (ha : an.length ≤ 10) (D : List Int) (hD : (D.length : Int) ≤ small) (k : Nat) (hk : 7100 ≤ k) : ∃ ys, law39_grow.f k (Book.mk b.Salt b.Heard b.Tried) an D = some (ys, true) ∧ Grown an ys ∧ ∀ a r, an = a :: r → ys ≠ [] := by
  have h0 : Grown an [] := ⟨⟨by simp, .nil, by simp⟩, by decide, by simp, fun a r _ h => absurd rfl h⟩
  obtain ⟨ys, e, h1, h2⟩ := grow_l b hb an ha D hD 8 (k - 7009) 0 [] 0 (by omega) rfl h0 (fun _ _ _ => .inl rfl) (by omega) (by omega)
  rw [show k - 7009 + 7000 + 8 + 1 = k by omega] at e
  have e' : law39_grow.l0 (Book.mk b.Salt b.Heard b.Tried) an D k ([] : List Link) 0 0 = _ := e
  unfold law39_grow.f mill_New.f
  rw [Option.bind_some]
  dsimp only
  rw [e', Option.bind_some]
  exact ⟨ys, rfl, h1, h2⟩

/-! ## the laws of layer 39 -/
theorem sane39 (k : Nat) : law39_sane.f (k + 60) = some true := by kernel_rfl
theorem sane39' (k : Nat) (hk : 60 ≤ k) : law39_sane.f k = some true := by
  obtain ⟨q, rfl⟩ : ∃ q, k = q + 60 := ⟨k - 60, by omega⟩
  exact sane39 q
theorem one_of {c : Int} : ∀ {l : List Int}, l.Nodup → (∀ x ∈ l, x = c) → l.length ≤ 1
  | [], _, _ => by simp
  | [x], _, _ => by simp
  | x :: y :: r, hd, h => by
    have h1 := h x (by simp)
    have h2 := h y (by simp)
    exact absurd (h1.trans h2.symm) (fun e => (List.nodup_cons.1 hd).1 (by rw [e]; simp))
/-- of groups below n there are at most n that differ -/
theorem pigeon : ∀ (n : Nat) (l : List Int), l.Nodup → (∀ x ∈ l, 0 ≤ x ∧ x < (n : Int)) → l.length ≤ n
  | 0, l, _, h => by
    cases l with
    | nil => exact Nat.le_refl _
    | cons x l => have := h x (by simp); omega
  | n + 1, l, hd, h => by
    have h1 := pigeon n (l.filter (fun x => !(x == (n : Int)))) (hd.sublist List.filter_sublist) (fun x hx => by
      obtain ⟨h2, h3⟩ := List.mem_filter.1 hx
      have := h x h2
      have h4 : x ≠ (n : Int) := by simpa using h3
      omega)
    have h2 : (l.filter (fun x => x == (n : Int))).length ≤ 1 := one_of (hd.sublist List.filter_sublist) (fun x hx => by simpa using (List.mem_filter.1 hx).2)
    have h3 : (l.filter (fun x => x == (n : Int))).length + (l.filter (fun x => !(x == (n : Int)))).length = l.length := by
      have := (List.filter_append_perm (fun x => x == (n : Int)) l).length_eq
      rwa [List.length_append] at this
    omega
theorem grp_pos {a : NAddr} (h : 0 ≤ a.Host) : 0 ≤ grp a := by
  unfold grp
  obtain ⟨n, hn⟩ : ∃ n : Nat, a.Host = n := ⟨a.Host.toNat, by omega⟩
  rw [hn]
  have := ishr_n .u32 n 16 (by decide)
  have e : ishr .u32 (n : Int) 16 = _ := this
  rw [e]
  omega
def below (k : Int) (x : Link) : Bool := decide (grp x.Addr_ < k)
theorem ecl_l (r : List Link × Bool) (c : Int) (hc : IntKind.u32.wrap c = c) (hl : r.1.length ≤ 100) : ∀ (m k n t : Nat), t + m = r.1.length → n ≤ t → law39_ConnectEclipse.l0 r c (k + m + 1) (n : Int) (t : Int) = some ((n + ((r.1.drop t).filter (below c)).length : Nat) : Int)
  | 0, k, n, t, h, hn => by rw [law39_ConnectEclipse.l0, if_neg (by simp; omega), List.drop_of_length_le (by omega)]; rfl
  | m + 1, k, n, t, h, hn => by
    have hlt : t < r.1.length := by omega
    have hG : ∀ x : NAddr, addrbook_Group.f (k + m + 1) x = some (grp x) := fun x => rfl
    rw [show k + (m + 1) + 1 = k + m + 1 + 1 by omega, law39_ConnectEclipse.l0, if_pos (by simp; omega), if_pos ⟨by omega, by omega⟩, getD_at hlt, hG, Option.bind_some, suc t (by omega), suc n (by omega), hc, List.drop_eq_getElem_cons hlt, List.filter_cons]
    by_cases hg : grp r.1[t].Addr_ < c
    · rw [if_pos (by simpa using hg), Option.bind_some, if_pos (by simpa [below] using hg), ecl_l r c hc hl m k (n + 1) (t + 1) (by omega) (by omega), List.length_cons, show n + 1 + ((r.1.drop (t + 1)).filter (below c)).length = n + (((r.1.drop (t + 1)).filter (below c)).length + 1) by omega]
    · rw [if_neg (by simpa using hg), Option.bind_some, if_neg (by simpa [below] using hg), ecl_l r c hc hl m k n (t + 1) (by omega) (by omega)]
theorem eclipse_true (L D : List Int) (kk : Int) (hL : (L.length : Int) ≤ small) (hD : (D.length : Int) ≤ small) : ∃ k, law39_ConnectEclipse.f k L D kk = some true := by
  obtain ⟨b, q, e1, hb, _, _⟩ := book_ok L hL 8000 (by omega)
  obtain ⟨ys, e2, hg, _⟩ := grow_ok b hb [] (by simp) D hD 8000 (by omega)
  obtain ⟨c, e3, c0, c1⟩ := mod_ok 8000 kk 7 (by omega) (by omega)
  have hs := sane39' 8000 (by omega)
  have hn := hg.ok.n
  have hcw : IntKind.u32.wrap c = c := by
    obtain ⟨w, rfl⟩ : ∃ w : Nat, c = w := ⟨c.toNat, by omega⟩
    exact wrapu .u32 rfl w (by show w < 4294967296; omega)
  have hl := ecl_l (ys, true) c hcw (by show ys.length ≤ 100; omega) ys.length (8000 - ys.length - 1) 0 0 (by show 0 + ys.length = ys.length; omega) (by omega)
  have e0 : ((0 : Nat) : Int) = 0 := rfl
  rw [show 8000 - ys.length - 1 + ys.length + 1 = 8000 by omega, e0, List.drop_zero, Nat.zero_add] at hl
  have hle : (((ys.filter (below c)).length : Nat) : Int) ≤ c := by
    obtain ⟨w, rfl⟩ : ∃ w : Nat, c = w := ⟨c.toNat, by omega⟩
    have hp := pigeon w ((ys.filter (below (w : Int))).map (fun x => grp x.Addr_)) (by
      rw [List.nodup_iff_pairwise_ne, List.pairwise_map]
      exact hg.ok.d.sublist List.filter_sublist) (fun x hx => by
      obtain ⟨y, hy, rfl⟩ := List.mem_map.1 hx
      obtain ⟨h1, h2⟩ := List.mem_filter.1 hy
      exact ⟨grp_pos (hg.hp (by simp) y h1), by simpa [below] using h2⟩)
    rw [List.length_map] at hp
    omega
  refine ⟨8000, ?_⟩
  unfold law39_ConnectEclipse.f mill_New.f
  rw [hs, Option.bind_some, if_neg (by decide), Option.bind_some]
  dsimp only
  rw [e1, Option.bind_some]
  dsimp only
  rw [e2, Option.bind_some, e3, Option.bind_some, hl, Option.bind_some]
  dsimp only
  rw [if_pos rfl, Option.bind_some, decide_eq_true hle]
/-! spreads -/
end Go.Proofs.Ytoogcdmdbogkeaa.G
namespace Go.Proofs.Ytoogcdmdbogkeaa.connectEclipse
open Go Go.ChangeShapes Go.WideShapes Go.ChangeAt Go.RowKit
open Go.ChangeMaps (open_string shut_string)
theorem own : ownKnob Try.prog.godebug = none := by kernel_rfl
theorem laidOut : laidOutB Try.prog = true := by kernel_rfl
set_option maxRecDepth 100000 in
theorem lifted (os : Os) (started : os.Started) (H : Type) (enc : TypeId × Value → H) :
    ReturnsInHanded {} Try.checked os 9 .any (Rows.connectEclipseSpec.pre6 enc Try.prog Try.f9 Rows.connectEclipseRow.domain false) (Rows.connectEclipseSpec.post enc Try.prog Try.f9 false true false false) := by
  refine returnsInHanded_of_change_sized (C := Try.checked) own started (by kernel_rfl) Try.func9
    (ChangeSpec.witness6 (enc := enc) (C := Try.checked) false ⟨#[], #[.slice none 0 0, .slice none 0 0, .int .i64 0], []⟩ 8 (by kernel_rfl) (by kernel_rfl) (by kernel_rfl) (by kernel_rfl)) ?_
  intro W base args ds gs before hval0 hW hcnd hsz0 _
  have hsz : (DataW.weightsEach Try.prog (Try.f9.params.toList ++ Rows.connectEclipseSpec.plain.varTypes Try.prog) (ds ++ gs)).all (· ≤ reachBytes) = true := hsz0
  have hval : ∀ (j : Nat) t v, Try.f9.params[j]? = some t → args[j]? = some v → Value.okWide Try.prog W .any base t v := hval0
  have hW' := hW
  obtain ⟨p, q, hA0, hV, rfl, hfz, hnd⟩ := hW
  have hA : DataW.TrodAll enc Try.prog W 0 (fun _ => true) true Try.f9.params.toList args.toList ds p := hA0
  rw [Try.params9] at hA hval hsz
  obtain ⟨v0, vs0, d0, ds0, p0, q0, hargs, rfl, rfl, h0, r0⟩ := trodAll_cons hA
  obtain ⟨v1, vs1, d1, ds1, p1, q1, rfl, rfl, rfl, h1, r1⟩ := trodAll_cons r0
  obtain ⟨v2, vs2, d2, ds2, p2, q2, rfl, rfl, rfl, h2, r2⟩ := trodAll_cons r1
  obtain ⟨rfl, rfl, rfl⟩ := trodAll_nil r2
  obtain rfl : args = #[v0, v1, v2] := by cases args; simp_all
  obtain ⟨rfl, rfl⟩ := trodVars_none hV
  obtain ⟨A0, len0, cap0, rfl⟩ := okWide_slice Try.underlying36 (hval 0 36 v0 rfl rfl)
  have k0 := h0
  have lt0 : ∀ x ∈ p0, x.block < W.heap.size := by obtain ⟨m, hm⟩ := k0; exact DataW.trod_lt m _ _ _ hm
  have y0 : len0 * 8 ≤ 140737488351232 := PrintWords.sized_ints hsz (j := 0) (t := 36) rfl rfl Try.underlying36 Try.underlying3 (by kernel_rfl) (by kernel_rfl) h0
  obtain ⟨a0, hz0, rw0, cf0, wf0⟩ : ∃ zs : List Int, zs.length = len0 ∧ G.Row (G.Pl.int .i64) W A0 zs ∧ zs.length ≤ cap0 ∧ ∀ n ∈ zs, (Lit.int .i64 n).wf = true := by
    obtain ⟨fuel, hf⟩ := h0
    rcases open_ints Try.underlying36 Try.underlying3 (by kernel_rfl) hf with ⟨hcs, _⟩ | ⟨x, l, c, zs, hcs, _, hl, hm, hz, _, hcell, hwz⟩
    · simp [Value.cells] at hcs
      obtain ⟨rfl, rfl, rfl⟩ := hcs
      exact ⟨[], rfl, G.Row.nil _ _, Nat.zero_le _, fun _ h => by cases h⟩
    · simp [Value.cells] at hcs
      obtain ⟨rfl, rfl, rfl⟩ := hcs
      have hz' : zs.length = cap0 := by simpa using hz
      exact ⟨zs.take len0, by rw [List.length_take]; omega, G.row_take hcell (by omega), by rw [List.length_take]; omega, fun n hn => hwz n (List.mem_of_mem_take hn)⟩
  subst hz0
  obtain ⟨A1, len1, cap1, rfl⟩ := okWide_slice Try.underlying36 (hval 1 36 v1 rfl rfl)
  have k1 := h1
  have lt1 : ∀ x ∈ p1, x.block < W.heap.size := by obtain ⟨m, hm⟩ := k1; exact DataW.trod_lt m _ _ _ hm
  have y1 : len1 * 8 ≤ 140737488351232 := PrintWords.sized_ints hsz (j := 1) (t := 36) rfl rfl Try.underlying36 Try.underlying3 (by kernel_rfl) (by kernel_rfl) h1
  obtain ⟨a1, hz1, rw1, cf1, wf1⟩ : ∃ zs : List Int, zs.length = len1 ∧ G.Row (G.Pl.int .i64) W A1 zs ∧ zs.length ≤ cap1 ∧ ∀ n ∈ zs, (Lit.int .i64 n).wf = true := by
    obtain ⟨fuel, hf⟩ := h1
    rcases open_ints Try.underlying36 Try.underlying3 (by kernel_rfl) hf with ⟨hcs, _⟩ | ⟨x, l, c, zs, hcs, _, hl, hm, hz, _, hcell, hwz⟩
    · simp [Value.cells] at hcs
      obtain ⟨rfl, rfl, rfl⟩ := hcs
      exact ⟨[], rfl, G.Row.nil _ _, Nat.zero_le _, fun _ h => by cases h⟩
    · simp [Value.cells] at hcs
      obtain ⟨rfl, rfl, rfl⟩ := hcs
      have hz' : zs.length = cap1 := by simpa using hz
      exact ⟨zs.take len1, by rw [List.length_take]; omega, G.row_take hcell (by omega), by rw [List.length_take]; omega, fun n hn => hwz n (List.mem_of_mem_take hn)⟩
  subst hz1
  obtain ⟨a2, rfl, rfl, rfl, w2⟩ := open_int Try.underlying3 (hval 2 3 v2 rfl rfl) h2
  clear hA0 hval0 hsz0 hsz
  obtain ⟨K, hK⟩ := G.eclipse_true a0 a1 a2 (by have := y0; simp only [G.small]; omega) (by have := y1; simp only [G.small]; omega)
  refine (G.law39_ConnectEclipse.calls K a0 a1 a2 [] _ _ true W ⟨A0, cap0, rfl, G.Ro.of rw0, cf0⟩ ⟨A1, cap1, rfl, G.Ro.of rw1, cf1⟩ (G.Mem.nil W) hK).mono fun e W' he => ?_
  obtain ⟨v, rfl, rfl, hM⟩ := he
  have bel := hM.below
  exact ⟨_, rfl, _, _, _, [], _, [], hW', trodAll_mk1 (shut_bool Try.underlying4 _), (trodAll_cons_mk (Below.trod laidOut (by kernel_rfl) (of_decide_eq_true (by kernel_rfl)) k0 bel lt0) (trodAll_cons_mk (Below.trod laidOut (by kernel_rfl) (of_decide_eq_true (by kernel_rfl)) k1 bel lt1) (trodAll_cons_mk (shut_int Try.underlying3 w2) trodAll_mk0))), rfl, bel.frame _, fun h => by cases h⟩
theorem over : Rows.connectEclipseRow.holds Try.pinned (OpenSpec.ofChange Rows.connectEclipseSpec) :=
  OpenClaim.holds_of_wide 9 Try.f9 rfl rfl rfl rfl rfl rfl rfl ⟨rfl, rfl, rfl, rfl, rfl⟩ rfl rfl rfl rfl rfl (by kernel_rfl) Try.func9 (by kernel_rfl)
    (of_decide_eq_true (by kernel_rfl)) (by unfold Func.isWrapper; first | (rw [if_pos (by decide +kernel)]; kernel_rfl) | (rw [if_neg (by decide +kernel)]; exact ⟨rfl, rfl⟩))
    (fun os started H enc _ => lifted os started H enc)
theorem proved : Rows.ConnectEclipseSaid := over
#print axioms proved
end Go.Proofs.Ytoogcdmdbogkeaa.connectEclipse
namespace Go.Proofs.Ytoogcdmdbogkeaa
/-- The row, under a short name, for the claim. -/
theorem connectEclipse_holds : Rows.ConnectEclipseSaid := connectEclipse.proved
end Go.Proofs.Ytoogcdmdbogkeaa
