/- For every key, message and number of zero bytes the program and the reference give the same values: the law returns true. Conditions: none beyond the statement's own. -/
import Derived.Test.YtoogcdmdbogkeaaRows
import Derived.Test.YtoogcdmdbogkeaaFSipLengths
import Derived.WalkKit
import Derived.ProofKit
import Derived.OpenShut
import Derived.ShutString
import Derived.ChangeOld
import Derived.Below
import Derived.SizedLaws
import Derived.Test.YtoogcdmdbogkeaaWSized
import Derived.Test.YtoogcdmdbogkeaaV
set_option linter.unusedVariables false
set_option linter.unusedSimpArgs false
namespace Go.Proofs.Ytoogcdmdbogkeaa.PrintWords
/-- The name by which the row finds the word on a slice's weight. -/
theorem sized_ints {H : Type} {enc : TypeId × Value → H} {P : Program} {W : World} {base : Nat} {spare : Nat → Bool} {held : Bool} {t e : TypeId} {k : IntKind} {a : Option Addr} {len cap : Nat} {d : DataW H} {ps : List MemPlace} {ts : List TypeId} {ds : List (DataW H)} {j : Nat}
    (hsz : (DataW.weightsEach P ts ds).all (· ≤ reachBytes) = true) (ht : ts[j]? = some t) (hd : ds[j]? = some d) (hu : P.underlying t = some (.slice e)) (he : P.underlying e = some (.int k)) (hc : P.cellsOf e = 1) {B : Nat} (hB : P.bytesOf e = B)
    (h : DataW.Trod enc P W base spare held t (.slice a len cap) d ps) : len * B ≤ 140737488351232 :=
  Go.Proofs.YtoogcdmdbogkeaaW.PrintWords.sized_ints hsz ht hd hu he hc hB h
end Go.Proofs.Ytoogcdmdbogkeaa.PrintWords
namespace Go.Proofs.Ytoogcdmdbogkeaa.G
open Go Go.RowKit Go.Proofs
/-! ## of all laws: enough fuel -/
def Ev (p : Nat → Prop) : Prop := ∃ K, ∀ k, K ≤ k → p k
theorem Ev.mono {p q : Nat → Prop} (h : Ev p) (f : ∀ k, p k → q k) : Ev q := by
  obtain ⟨K, hK⟩ := h
  exact ⟨K, fun k hk => f k (hK k hk)⟩
theorem Ev.and {p q : Nat → Prop} (h : Ev p) (h2 : Ev q) : Ev fun k => p k ∧ q k := by
  obtain ⟨K, hK⟩ := h
  obtain ⟨L, hL⟩ := h2
  exact ⟨max K L, fun k hk => ⟨hK k (by omega), hL k (by omega)⟩⟩
theorem Ev.of {p : Nat → Prop} (K : Nat) (h : ∀ k, p (k + K)) : Ev p := ⟨K, fun k hk => by have := h (k - K); rwa [Nat.sub_add_cancel hk] at this⟩
theorem Ev.all {p : Nat → Prop} (h : ∀ k, p k) : Ev p := ⟨0, fun k _ => h k⟩
/-- behind one round -/
theorem Ev.succ {p : Nat → Prop} (h : Ev fun k => p (k + 1)) : Ev p := by
  obtain ⟨K, hK⟩ := h
  refine ⟨K + 1, fun k hk => ?_⟩
  have h1 := hK (k - 1) (by omega)
  have e : k - 1 + 1 = k := by omega
  rw [← e]
  exact h1
theorem Ev.get {p : Nat → Prop} (h : Ev p) : ∃ k, p k := by
  obtain ⟨K, hK⟩ := h
  exact ⟨K, hK K (Nat.le_refl _)⟩
theorem wr {x : Int} (h0 : -9223372036854775808 ≤ x) (h1 : x < 9223372036854775808) : IntKind.i64.wrap x = x := by
  simp only [IntKind.wrap, IntKind.bits, IntKind.signed]
  simp
  omega
theorem wr8 {x : Int} (h0 : 0 ≤ x) (h1 : x < 256) : IntKind.u8.wrap x = x := by
  simp only [IntKind.wrap, IntKind.bits, IntKind.signed]
  simp
  omega
theorem wr8_lt (x : Int) : 0 ≤ IntKind.u8.wrap x ∧ IntKind.u8.wrap x < 256 := by
  simp only [IntKind.wrap, IntKind.bits, IntKind.signed]
  simp
  omega
/-! ## words as numbers -/
theorem wrapu (k : IntKind) (hk : k.signed = false) (x : Nat) (h : x < 2 ^ k.bits) : k.wrap (x : Int) = x := by
  cases k <;> simp [IntKind.signed] at hk <;> simp [IntKind.wrap, IntKind.bits, IntKind.signed] at h ⊢ <;> omega
theorem wrapi (k : IntKind) (x : Nat) (h : x < 2 ^ (k.bits - 1)) : k.wrap (x : Int) = x := by
  cases k <;> simp [IntKind.wrap, IntKind.bits, IntKind.signed] at h ⊢ <;> omega
theorem ofInt_nat (n : Nat) (x : Nat) : BitVec.ofInt n (x : Int) = BitVec.ofNat n x := by simp
theorem iand_i (k : IntKind) (x y : Nat) (hx : x < 2 ^ (k.bits - 1)) (hy : y < 2 ^ (k.bits - 1)) : iand k (x : Int) (y : Int) = ((x &&& y : Nat) : Int) := by
  have hle : 2 ^ (k.bits - 1) ≤ 2 ^ k.bits := Nat.pow_le_pow_right (by decide) (by omega)
  unfold iand
  rw [ofInt_nat, ofInt_nat, BitVec.toNat_and, BitVec.toNat_ofNat, BitVec.toNat_ofNat, Nat.mod_eq_of_lt (by omega), Nat.mod_eq_of_lt (by omega)]
  exact wrapi k _ (Nat.lt_of_le_of_lt Nat.and_le_left hx)
theorem iand_u (k : IntKind) (hk : k.signed = false) (x y : Nat) (hx : x < 2 ^ k.bits) (hy : y < 2 ^ k.bits) : iand k (x : Int) (y : Int) = ((x &&& y : Nat) : Int) := by
  unfold iand
  rw [ofInt_nat, ofInt_nat, BitVec.toNat_and, BitVec.toNat_ofNat, BitVec.toNat_ofNat, Nat.mod_eq_of_lt hx, Nat.mod_eq_of_lt hy]
  exact wrapu k hk _ (Nat.lt_of_le_of_lt Nat.and_le_left hx)
theorem ior_i (k : IntKind) (x y : Nat) (hx : x < 2 ^ (k.bits - 1)) (hy : y < 2 ^ (k.bits - 1)) : ior k (x : Int) (y : Int) = ((x ||| y : Nat) : Int) := by
  have hle : 2 ^ (k.bits - 1) ≤ 2 ^ k.bits := Nat.pow_le_pow_right (by decide) (by omega)
  unfold ior
  rw [ofInt_nat, ofInt_nat, BitVec.toNat_or, BitVec.toNat_ofNat, BitVec.toNat_ofNat, Nat.mod_eq_of_lt (by omega), Nat.mod_eq_of_lt (by omega)]
  exact wrapi k _ (Nat.or_lt_two_pow hx hy)
theorem ior_u (k : IntKind) (hk : k.signed = false) (x y : Nat) (hx : x < 2 ^ k.bits) (hy : y < 2 ^ k.bits) : ior k (x : Int) (y : Int) = ((x ||| y : Nat) : Int) := by
  unfold ior
  rw [ofInt_nat, ofInt_nat, BitVec.toNat_or, BitVec.toNat_ofNat, BitVec.toNat_ofNat, Nat.mod_eq_of_lt hx, Nat.mod_eq_of_lt hy]
  exact wrapu k hk _ (Nat.or_lt_two_pow hx hy)
theorem ixor_u (k : IntKind) (hk : k.signed = false) (x y : Nat) (hx : x < 2 ^ k.bits) (hy : y < 2 ^ k.bits) : ixor k (x : Int) (y : Int) = ((x ^^^ y : Nat) : Int) := by
  unfold ixor
  rw [ofInt_nat, ofInt_nat, BitVec.toNat_xor, BitVec.toNat_ofNat, BitVec.toNat_ofNat, Nat.mod_eq_of_lt hx, Nat.mod_eq_of_lt hy]
  exact wrapu k hk _ (Nat.xor_lt_two_pow hx hy)
theorem ishr_n (k : IntKind) (x s : Nat) (hs : s ≤ k.bits) : ishr k (x : Int) (s : Int) = ((x / 2 ^ s : Nat) : Int) := by
  unfold ishr
  rw [Int.toNat_natCast, Nat.min_eq_left hs, show (2 : Int) ^ s = ((2 ^ s : Nat) : Int) by simp, Int.fdiv_eq_ediv_of_nonneg _ (Int.natCast_nonneg _)]
  exact (Int.natCast_ediv _ _).symm
theorem ishl_i (k : IntKind) (x s : Nat) (hs : s ≤ k.bits) (h : x * 2 ^ s < 2 ^ (k.bits - 1)) : ishl k (x : Int) (s : Int) = ((x * 2 ^ s : Nat) : Int) := by
  unfold ishl
  rw [Int.toNat_natCast, Nat.min_eq_left hs, show (2 : Int) ^ s = ((2 ^ s : Nat) : Int) by simp, ← Int.natCast_mul]
  exact wrapi k _ h
theorem ishl_u (k : IntKind) (hk : k.signed = false) (x s : Nat) (hs : s ≤ k.bits) (h : x * 2 ^ s < 2 ^ k.bits) : ishl k (x : Int) (s : Int) = ((x * 2 ^ s : Nat) : Int) := by
  unfold ishl
  rw [Int.toNat_natCast, Nat.min_eq_left hs, show (2 : Int) ^ s = ((2 ^ s : Nat) : Int) by simp, ← Int.natCast_mul]
  exact wrapu k hk _ h
theorem wf_nat {k : IntKind} {x : Int} (hk : k.signed = false) (h : (Lit.int k x).wf = true) : ∃ n : Nat, x = n ∧ n < 2 ^ k.bits := by
  refine ⟨x.toNat, ?_⟩
  cases k <;> simp [IntKind.signed] at hk <;> simp [Lit.wf, IntKind.min, IntKind.max, IntKind.bits, IntKind.signed] at h ⊢ <;> omega
/-! ## sip and its reference -/
def rot (x c : Int) : Int := ior .u64 (ishl .u64 x (iand .u64 (IntKind.u64.wrap c) 63)) (ishr .u64 x (IntKind.u64.wrap (64 - (iand .u64 (IntKind.u64.wrap c) 63))))
theorem rot_ok (k : Nat) (x c : Int) (h1 : 0 ≤ iand .u64 (IntKind.u64.wrap c) 63) (h2 : 0 ≤ IntKind.u64.wrap (64 - (iand .u64 (IntKind.u64.wrap c) 63))) : bits_RotateLeft64.f k x c = some (rot x c) := by
  unfold bits_RotateLeft64.f
  rw [if_pos h1, if_pos h2]
  rfl
theorem rot13 (k : Nat) (x : Int) : bits_RotateLeft64.f k x 13 = some (rot x 13) := rot_ok k x 13 (by decide) (by decide)
theorem rot16 (k : Nat) (x : Int) : bits_RotateLeft64.f k x 16 = some (rot x 16) := rot_ok k x 16 (by decide) (by decide)
theorem rot17 (k : Nat) (x : Int) : bits_RotateLeft64.f k x 17 = some (rot x 17) := rot_ok k x 17 (by decide) (by decide)
theorem rot21 (k : Nat) (x : Int) : bits_RotateLeft64.f k x 21 = some (rot x 21) := rot_ok k x 21 (by decide) (by decide)
theorem rot32 (k : Nat) (x : Int) : bits_RotateLeft64.f k x 32 = some (rot x 32) := rot_ok k x 32 (by decide) (by decide)
def toV (w : sip_words) : Vector Int 4 := #v[w.v0, w.v1, w.v2, w.v3]
theorem g0 (a b c d : Int) : vg (#v[a, b, c, d] : Vector Int 4) 0 = a := rfl
theorem g1 (a b c d : Int) : vg (#v[a, b, c, d] : Vector Int 4) 1 = b := rfl
theorem g2 (a b c d : Int) : vg (#v[a, b, c, d] : Vector Int 4) 2 = c := rfl
theorem g3 (a b c d : Int) : vg (#v[a, b, c, d] : Vector Int 4) 3 = d := rfl
theorem s0 (a b c d x : Int) : vs (#v[a, b, c, d] : Vector Int 4) 0 x = #v[x, b, c, d] := rfl
theorem s1 (a b c d x : Int) : vs (#v[a, b, c, d] : Vector Int 4) 1 x = #v[a, x, c, d] := rfl
theorem s2 (a b c d x : Int) : vs (#v[a, b, c, d] : Vector Int 4) 2 x = #v[a, b, x, d] := rfl
theorem s3 (a b c d x : Int) : vs (#v[a, b, c, d] : Vector Int 4) 3 x = #v[a, b, c, x] := rfl
theorem round_eq (k k' : Nat) (w : sip_words) : ∃ u, sip_words_round.f k w = some u ∧ ref04_round.f k' (toV w) = some (toV u) := by
  refine ⟨_, by unfold sip_words_round.f; simp only [rot13, rot16, rot17, rot21, rot32, Option.bind_some]; rfl, ?_⟩
  unfold ref04_round.f toV
  simp only [rot13, rot16, rot17, rot21, rot32, Option.bind_some, g0, g1, g2, g3, s0, s1, s2, s3]
theorem take_eq (k k' : Nat) (w : sip_words) (m : Int) : ∃ u, sip_words_take.f k w m = some u ∧ ref04_absorb.f k' (toV w) m = some (toV u) := by
  obtain ⟨a, a1, a2⟩ := round_eq k k' ⟨w.v0, w.v1, w.v2, ixor .u64 w.v3 m⟩
  obtain ⟨b, b1, b2⟩ := round_eq k k' a
  refine ⟨⟨ixor .u64 b.v0 m, b.v1, b.v2, b.v3⟩, by unfold sip_words_take.f; simp only [a1, b1, Option.bind_some], ?_⟩
  unfold ref04_absorb.f
  have e : vs (toV w) 3 (ixor .u64 (vg (toV w) 3) m) = toV ⟨w.v0, w.v1, w.v2, ixor .u64 w.v3 m⟩ := rfl
  rw [e, a2, Option.bind_some, b2, Option.bind_some]
  rfl
theorem word_l (b : List Int) (hb : b.length ≤ 8) : ∀ (m k k' : Nat) (t i : Int), 0 ≤ i → i ≤ (b.length : Int) → (b.length : Int) - i ≤ m → ∃ r, sip_word.l0 b (k + m + 1) t i = some r ∧ ref04_word.l0 b (k' + m + 1) t i = some r
  | 0, k, k', t, i, h0, h1, h2 => ⟨t, by rw [sip_word.l0, if_neg (by simp; omega)], by rw [ref04_word.l0, if_neg (by simp; omega)]⟩
  | m + 1, k, k', t, i, h0, h1, h2 => by
    by_cases hi : i < (b.length : Int)
    · obtain ⟨r, e1, e2⟩ := word_l b hb m k k' (ior .u64 t (ishl .u64 (IntKind.u64.wrap (b.getD i.toNat (0 : Int))) (IntKind.i64.wrap (8 * i)))) (i + 1) (by omega) (by omega) (by omega)
      have hw : IntKind.i64.wrap (i + 1) = i + 1 := wr (by omega) (by omega)
      have hw8 : 0 ≤ IntKind.i64.wrap (8 * i) := by rw [wr (by omega) (by omega)]; omega
      refine ⟨r, ?_, ?_⟩
      · rw [sip_word.l0, if_pos (by simpa using hi), if_pos ⟨h0, hi⟩, if_pos hw8, hw]; exact e1
      · rw [ref04_word.l0, if_pos (by simpa using hi), if_pos ⟨h0, hi⟩, if_pos hw8, hw]; exact e2
    · exact ⟨t, by rw [sip_word.l0, if_neg (by simpa using hi)], by rw [ref04_word.l0, if_neg (by simpa using hi)]⟩
theorem word_eq (k k' : Nat) (b : List Int) (hb : b.length ≤ 8) : ∃ r, sip_word.f (k + 9) b = some r ∧ ref04_word.f (k' + 9) b = some r := by
  obtain ⟨r, e1, e2⟩ := word_l b hb 8 k k' 0 0 (by omega) (by omega) (by omega)
  exact ⟨r, by rw [sip_word.f, e1]; rfl, by rw [ref04_word.f, e2]; rfl⟩
theorem sum_l : ∀ (m k k' : Nat) (b : List Int) (w : sip_words), b.length ≤ m → ∃ c u, sip_Sum.l0 (k + 9 + m + 1) b w = some (c, u) ∧ ref04_Sum.l0 (k' + 9 + m + 1) b (toV w) = some (c, toV u) ∧ c.length ≤ 8
  | 0, k, k', b, w, h => ⟨b, w, by rw [sip_Sum.l0, if_neg (by simp; omega)], by rw [ref04_Sum.l0, if_neg (by simp; omega)], by omega⟩
  | m + 1, k, k', b, w, h => by
    by_cases h8 : (b.length : Int) ≥ 8
    · obtain ⟨x, x1, x2⟩ := word_eq (k + (m + 1)) (k' + (m + 1)) (b.take (8 : Int).toNat) (by simp; omega)
      obtain ⟨u, u1, u2⟩ := take_eq (k + 9 + (m + 1)) (k' + 9 + (m + 1)) w x
      obtain ⟨c, v, v1, v2, v3⟩ := sum_l m k k' (b.drop (8 : Int).toNat) u (by simp; omega)
      rw [show k + (m + 1) + 9 = k + 9 + (m + 1) by omega] at x1
      rw [show k' + (m + 1) + 9 = k' + 9 + (m + 1) by omega] at x2
      refine ⟨c, v, ?_, ?_, v3⟩
      · rw [sip_Sum.l0, if_pos (by simpa using h8), if_pos (by omega), x1, Option.bind_some, u1, Option.bind_some, if_pos (by omega)]; exact v1
      · rw [ref04_Sum.l0, if_pos (by simpa using h8), if_pos (by omega), if_pos (by omega), x2, Option.bind_some, u2, Option.bind_some]; exact v2
    · exact ⟨b, w, by rw [sip_Sum.l0, if_neg (by simpa using h8)], by rw [ref04_Sum.l0, if_neg (by simpa using h8)], by omega⟩
theorem sum_eq (k k' : Nat) (key : Vector Int 2) (b : List Int) (hb : b.length ≤ 3000) : ∃ r, sip_Sum.f (k + 3010) key b = some r ∧ ref04_Sum.f (k' + 3010) key b = some r := by
  obtain ⟨c, u, e1, e2, hc⟩ := sum_l 3000 k k' b (sip_words.mk (ixor .u64 (vg key (0 : Int)) 8317987319222330741) (ixor .u64 (vg key (1 : Int)) 7237128888997146477) (ixor .u64 (vg key (0 : Int)) 7816392313619706465) (ixor .u64 (vg key (1 : Int)) 8387220255154660723)) hb
  obtain ⟨x, x1, x2⟩ := word_eq (k + 3001) (k' + 3001) c hc
  have hlen : ishl .u64 (IntKind.u64.wrap ((b.length : Int).tmod 256)) 56 = ishl .u64 (IntKind.u64.wrap (b.length : Int)) 56 := by
    have : (b.length : Int).tmod 256 = (b.length : Int) % 256 := Int.tmod_eq_emod_of_nonneg (by omega)
    rw [this]
    simp only [ishl, IntKind.wrap, IntKind.bits, IntKind.signed]
    simp
    omega
  obtain ⟨u1, f1, f2⟩ := take_eq (k + 3010) (k' + 3010) u (ior .u64 x (ishl .u64 (IntKind.u64.wrap (b.length : Int)) 56))
  obtain ⟨r1, p1, q1⟩ := round_eq (k + 3009) (k' + 3010) ⟨u1.v0, u1.v1, ixor .u64 u1.v2 255, u1.v3⟩
  obtain ⟨r2, p2, q2⟩ := round_eq (k + 3008) (k' + 3010) r1
  obtain ⟨r3, p3, q3⟩ := round_eq (k + 3007) (k' + 3010) r2
  obtain ⟨r4, p4, q4⟩ := round_eq (k + 3006) (k' + 3010) r3
  have hl1 : sip_Sum.l1 (k + 3010) ⟨u1.v0, u1.v1, ixor .u64 u1.v2 255, u1.v3⟩ 0 = some r4 := by
    rw [show k + 3010 = k + 3009 + 1 by omega, sip_Sum.l1, if_pos (by decide), p1, Option.bind_some, show IntKind.i64.wrap (0 + 1) = 1 by decide, show k + 3009 = k + 3008 + 1 by omega, sip_Sum.l1, if_pos (by decide), p2, Option.bind_some, show IntKind.i64.wrap (1 + 1) = 2 by decide,
      show k + 3008 = k + 3007 + 1 by omega, sip_Sum.l1, if_pos (by decide), p3, Option.bind_some, show IntKind.i64.wrap (2 + 1) = 3 by decide, show k + 3007 = k + 3006 + 1 by omega, sip_Sum.l1, if_pos (by decide), p4, Option.bind_some, show IntKind.i64.wrap (3 + 1) = 4 by decide, show k + 3006 = k + 3005 + 1 by omega, sip_Sum.l1, if_neg (by decide)]
  refine ⟨ixor .u64 (ixor .u64 (ixor .u64 r4.v0 r4.v1) r4.v2) r4.v3, ?_, ?_⟩
  · rw [sip_Sum.f, show k + 3010 = k + 9 + 3000 + 1 by omega, e1, Option.bind_some]
    dsimp only
    rw [show k + 9 + 3000 + 1 = k + 3001 + 9 by omega, x1, Option.bind_some, show k + 3001 + 9 = k + 3010 by omega, f1, Option.bind_some, hl1, Option.bind_some]
  · rw [ref04_Sum.f, show k' + 3010 = k' + 9 + 3000 + 1 by omega]
    have e3 : ((((((Vector.replicate 4 0 : Vector Int 4).setIfInBounds 0 (ixor .u64 (vg key (0 : Int)) 8317987319222330741)).setIfInBounds 1 (ixor .u64 (vg key (1 : Int)) 7237128888997146477)).setIfInBounds 2 (ixor .u64 (vg key (0 : Int)) 7816392313619706465)).setIfInBounds 3 (ixor .u64 (vg key (1 : Int)) 8387220255154660723))) = toV (sip_words.mk (ixor .u64 (vg key (0 : Int)) 8317987319222330741) (ixor .u64 (vg key (1 : Int)) 7237128888997146477) (ixor .u64 (vg key (0 : Int)) 7816392313619706465) (ixor .u64 (vg key (1 : Int)) 8387220255154660723)) := rfl
    rw [e3, e2, Option.bind_some]
    dsimp only
    have e4 : vs (toV u1) 2 (ixor .u64 (vg (toV u1) 2) 255) = toV ⟨u1.v0, u1.v1, ixor .u64 u1.v2 255, u1.v3⟩ := rfl
    rw [show k' + 9 + 3000 + 1 = k' + 3001 + 9 by omega, x2, Option.bind_some, hlen, show k' + 3001 + 9 = k' + 3010 by omega, f2, Option.bind_some, e4, q1, Option.bind_some, q2, Option.bind_some, q3, Option.bind_some, q4, Option.bind_some]
    rfl
theorem sane_ok : law04_sane.f 4000 = some true := by kernel_rfl
theorem sane04 : law04_sane.f 4000 = some true := sane_ok
theorem lengths_true (key : Vector Int 2) (b : List Int) (z : Int) (wz : (Lit.int .u8 z).wf = true) : ∃ k, law04_SipLengths.f k key b z = some true := by
  obtain ⟨z, rfl, hz⟩ := wf_nat rfl wz
  have hz' : z < 256 := hz
  refine ⟨4000, ?_⟩
  unfold law04_SipLengths.f
  rw [sane04, Option.bind_some, if_neg (by decide)]
  by_cases h : b.length > 500
  · rw [if_pos (by simp; omega)]
  · have e : (z : Int).tmod 20 = ((z % 20 : Nat) : Int) := by rw [Int.tmod_eq_emod_of_nonneg (by omega)]; omega
    have hw : IntKind.i64.wrap ((z : Int).tmod 20) = ((z % 20 : Nat) : Int) := by rw [e, wr (by omega) (by omega)]
    rw [if_neg (by simp; omega), if_pos (by omega), hw, if_pos (by simp; omega)]
    obtain ⟨r, e1, e2⟩ := sum_eq 990 990 key (b ++ List.replicate ((z % 20 : Nat) : Int).toNat (0 : Int)) (by simp; omega)
    obtain ⟨q, f1, f2⟩ := sum_eq 990 990 key b (by omega)
    simp only [Nat.reduceAdd] at e1 e2 f1 f2
    rw [e1, Option.bind_some, e2, Option.bind_some, if_pos (by simp), f1, Option.bind_some, f2, Option.bind_some]
    simp
end Go.Proofs.Ytoogcdmdbogkeaa.G
namespace Go.Proofs.Ytoogcdmdbogkeaa.sipLengths
open Go Go.ChangeShapes Go.WideShapes Go.ChangeAt Go.RowKit
open Go.ChangeMaps (open_string shut_string)
theorem own : ownKnob Try.prog.godebug = none := by kernel_rfl
theorem laidOut : laidOutB Try.prog = true := by kernel_rfl
set_option maxRecDepth 100000 in
theorem lifted (os : Os) (started : os.Started) (H : Type) (enc : TypeId × Value → H) :
    ReturnsInHanded {} Try.checked os 4 .any (Rows.sipLengthsSpec.pre6 enc Try.prog Try.f4 Rows.sipLengthsRow.domain false) (Rows.sipLengthsSpec.post enc Try.prog Try.f4 false true false false) := by
  refine returnsInHanded_of_change_sized (C := Try.checked) own started (by kernel_rfl) Try.func4
    (ChangeSpec.witness6 (enc := enc) (C := Try.checked) false ⟨#[], #[.agg (List.replicate 2 (.int .u64 0)).toArray, .slice none 0 0, .int .u8 0], []⟩ 8 (by kernel_rfl) (by kernel_rfl) (by kernel_rfl) (by kernel_rfl)) ?_
  intro W base args ds gs before hval0 hW hcnd hsz0 _
  have hsz : (DataW.weightsEach Try.prog (Try.f4.params.toList ++ Rows.sipLengthsSpec.plain.varTypes Try.prog) (ds ++ gs)).all (· ≤ reachBytes) = true := hsz0
  have hval : ∀ (j : Nat) t v, Try.f4.params[j]? = some t → args[j]? = some v → Value.okWide Try.prog W .any base t v := hval0
  have hW' := hW
  obtain ⟨p, q, hA0, hV, rfl, hfz, hnd⟩ := hW
  have hA : DataW.TrodAll enc Try.prog W 0 (fun _ => true) true Try.f4.params.toList args.toList ds p := hA0
  rw [Try.params4] at hA hval hsz
  obtain ⟨v0, vs0, d0, ds0, p0, q0, hargs, rfl, rfl, h0, r0⟩ := trodAll_cons hA
  obtain ⟨v1, vs1, d1, ds1, p1, q1, rfl, rfl, rfl, h1, r1⟩ := trodAll_cons r0
  obtain ⟨v2, vs2, d2, ds2, p2, q2, rfl, rfl, rfl, h2, r2⟩ := trodAll_cons r1
  obtain ⟨rfl, rfl, rfl⟩ := trodAll_nil r2
  obtain rfl : args = #[v0, v1, v2] := by cases args; simp_all
  obtain ⟨rfl, rfl⟩ := trodVars_none hV
  have k0 := h0
  have lt0 : ∀ x ∈ p0, x.block < W.heap.size := by obtain ⟨m, hm⟩ := k0; exact DataW.trod_lt m _ _ _ hm
  obtain ⟨a0, rfl, w0⟩ := G.open_vec (hn := by decide) Try.underlying24 Try.underlying22 (by kernel_rfl) (hval 0 24 v0 rfl rfl) h0
  obtain ⟨A1, len1, cap1, rfl⟩ := okWide_slice Try.underlying25 (hval 1 25 v1 rfl rfl)
  have k1 := h1
  have lt1 : ∀ x ∈ p1, x.block < W.heap.size := by obtain ⟨m, hm⟩ := k1; exact DataW.trod_lt m _ _ _ hm
  have y1 : len1 * 1 ≤ 140737488351232 := PrintWords.sized_ints hsz (j := 1) (t := 25) rfl rfl Try.underlying25 Try.underlying5 (by kernel_rfl) (by kernel_rfl) h1
  obtain ⟨a1, hz1, rw1, cf1, wf1⟩ : ∃ zs : List Int, zs.length = len1 ∧ G.Row (G.Pl.int .u8) W A1 zs ∧ zs.length ≤ cap1 ∧ ∀ n ∈ zs, (Lit.int .u8 n).wf = true := by
    obtain ⟨fuel, hf⟩ := h1
    rcases open_ints Try.underlying25 Try.underlying5 (by kernel_rfl) hf with ⟨hcs, _⟩ | ⟨x, l, c, zs, hcs, _, hl, hm, hz, _, hcell, hwz⟩
    · simp [Value.cells] at hcs
      obtain ⟨rfl, rfl, rfl⟩ := hcs
      exact ⟨[], rfl, G.Row.nil _ _, Nat.zero_le _, fun _ h => by cases h⟩
    · simp [Value.cells] at hcs
      obtain ⟨rfl, rfl, rfl⟩ := hcs
      have hz' : zs.length = cap1 := by simpa using hz
      exact ⟨zs.take len1, by rw [List.length_take]; omega, G.row_take hcell (by omega), by rw [List.length_take]; omega, fun n hn => hwz n (List.mem_of_mem_take hn)⟩
  subst hz1
  obtain ⟨a2, rfl, rfl, rfl, w2⟩ := open_int Try.underlying5 (hval 2 5 v2 rfl rfl) h2
  clear hA0 hval0 hsz0 hsz
  obtain ⟨K, hK⟩ := G.lengths_true a0 a1 a2 w2
  refine (G.law04_SipLengths.calls K a0 a1 a2 [] _ true W ⟨A1, cap1, rfl, G.Ro.of rw1, cf1⟩ (G.Mem.nil W) hK).mono fun e W' he => ?_
  obtain ⟨v, rfl, rfl, hM⟩ := he
  have bel := hM.below
  exact ⟨_, rfl, _, _, _, [], _, [], hW', trodAll_mk1 (shut_bool Try.underlying4 _), (trodAll_cons_mk (Below.trod laidOut (by kernel_rfl) (of_decide_eq_true (by kernel_rfl)) k0 bel lt0) (trodAll_cons_mk (Below.trod laidOut (by kernel_rfl) (of_decide_eq_true (by kernel_rfl)) k1 bel lt1) (trodAll_cons_mk (shut_int Try.underlying5 w2) trodAll_mk0))), rfl, bel.frame _, fun h => by cases h⟩
theorem over : Rows.sipLengthsRow.holds Try.pinned (OpenSpec.ofChange Rows.sipLengthsSpec) :=
  OpenClaim.holds_of_wide 4 Try.f4 rfl rfl rfl rfl rfl rfl rfl ⟨rfl, rfl, rfl, rfl, rfl⟩ rfl rfl rfl rfl rfl (by kernel_rfl) Try.func4 (by kernel_rfl)
    (of_decide_eq_true (by kernel_rfl)) (by unfold Func.isWrapper; first | (rw [if_pos (by decide +kernel)]; kernel_rfl) | (rw [if_neg (by decide +kernel)]; exact ⟨rfl, rfl⟩))
    (fun os started H enc _ => lifted os started H enc)
theorem proved : Rows.SipLengthsSaid := over
#print axioms proved
end Go.Proofs.Ytoogcdmdbogkeaa.sipLengths
namespace Go.Proofs.Ytoogcdmdbogkeaa
/-- The row, under a short name, for the claim. -/
theorem sipLengths_holds : Rows.SipLengthsSaid := sipLengths.proved
end Go.Proofs.Ytoogcdmdbogkeaa
