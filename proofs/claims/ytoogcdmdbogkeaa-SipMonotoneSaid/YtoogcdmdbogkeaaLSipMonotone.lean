/- For all values a scaled value is below the end of the range and does not decrease if the value grows: the law returns true. Conditions: none beyond the statement's own. -/
import Derived.Test.YtoogcdmdbogkeaaRows
import Derived.Test.YtoogcdmdbogkeaaFSipMonotone
import Derived.WalkKit
import Derived.ProofKit
import Derived.OpenShut
import Derived.ShutString
import Derived.ChangeOld
import Derived.Below
import Derived.SizedLaws
import Derived.Test.YtoogcdmdbogkeaaWSized
set_option linter.unusedVariables false
set_option linter.unusedSimpArgs false
namespace Go.Proofs.Ytoogcdmdbogkeaa.PrintWords
/-- The name by which the row finds the word on a slice's weight. -/
theorem sized_ints {H : Type} {enc : TypeId × Value → H} {P : Program} {W : World} {base : Nat} {spare : Nat → Bool} {held : Bool} {t e : TypeId} {k : IntKind} {a : Option Addr} {len cap : Nat} {d : DataW H} {ps : List MemPlace} {ts : List TypeId} {ds : List (DataW H)} {j : Nat}
    (hsz : (DataW.weightsEach P ts ds).all (· ≤ reachBytes) = true) (ht : ts[j]? = some t) (hd : ds[j]? = some d) (hu : P.underlying t = some (.slice e)) (he : P.underlying e = some (.int k)) (hc : P.cellsOf e = 1) {B : Nat} (hB : P.bytesOf e = B)
    (h : DataW.Trod enc P W base spare held t (.slice a len cap) d ps) : len * B ≤ 140737488351232 :=
  Go.Proofs.YtoogcdmdbogkeaaW.PrintWords.sized_ints hsz ht hd hu he hc hB h
end Go.Proofs.Ytoogcdmdbogkeaa.PrintWords
namespace Go.Proofs.Ytoogcdmdbogkeaa.G
open Go Go.RowKit Go.Proofs
/-! ## of all laws: enough fuel -/
def Ev (p : Nat → Prop) : Prop := ∃ K, ∀ k, K ≤ k → p k
theorem Ev.mono {p q : Nat → Prop} (h : Ev p) (f : ∀ k, p k → q k) : Ev q := by
  obtain ⟨K, hK⟩ := h
  exact ⟨K, fun k hk => f k (hK k hk)⟩
theorem Ev.and {p q : Nat → Prop} (h : Ev p) (h2 : Ev q) : Ev fun k => p k ∧ q k := by
  obtain ⟨K, hK⟩ := h
  obtain ⟨L, hL⟩ := h2
  exact ⟨max K L, fun k hk => ⟨hK k (by omega), hL k (by omega)⟩⟩
theorem Ev.of {p : Nat → Prop} (K : Nat) (h : ∀ k, p (k + K)) : Ev p := ⟨K, fun k hk => by have := h (k - K); rwa [Nat.sub_add_cancel hk] at this⟩
theorem Ev.all {p : Nat → Prop} (h : ∀ k, p k) : Ev p := ⟨0, fun k _ => h k⟩
/-- behind one round -/
theorem Ev.succ {p : Nat → Prop} (h : Ev fun k => p (k + 1)) : Ev p := by
  obtain ⟨K, hK⟩ := h
  refine ⟨K + 1, fun k hk => ?_⟩
  have h1 := hK (k - 1) (by omega)
  have e : k - 1 + 1 = k := by omega
  rw [← e]
  exact h1
theorem Ev.get {p : Nat → Prop} (h : Ev p) : ∃ k, p k := by
  obtain ⟨K, hK⟩ := h
  exact ⟨K, hK K (Nat.le_refl _)⟩
theorem wr {x : Int} (h0 : -9223372036854775808 ≤ x) (h1 : x < 9223372036854775808) : IntKind.i64.wrap x = x := by
  simp only [IntKind.wrap, IntKind.bits, IntKind.signed]
  simp
  omega
theorem wr8 {x : Int} (h0 : 0 ≤ x) (h1 : x < 256) : IntKind.u8.wrap x = x := by
  simp only [IntKind.wrap, IntKind.bits, IntKind.signed]
  simp
  omega
theorem wr8_lt (x : Int) : 0 ≤ IntKind.u8.wrap x ∧ IntKind.u8.wrap x < 256 := by
  simp only [IntKind.wrap, IntKind.bits, IntKind.signed]
  simp
  omega
/-! ## words as numbers -/
theorem wrapu (k : IntKind) (hk : k.signed = false) (x : Nat) (h : x < 2 ^ k.bits) : k.wrap (x : Int) = x := by
  cases k <;> simp [IntKind.signed] at hk <;> simp [IntKind.wrap, IntKind.bits, IntKind.signed] at h ⊢ <;> omega
theorem wrapi (k : IntKind) (x : Nat) (h : x < 2 ^ (k.bits - 1)) : k.wrap (x : Int) = x := by
  cases k <;> simp [IntKind.wrap, IntKind.bits, IntKind.signed] at h ⊢ <;> omega
theorem ofInt_nat (n : Nat) (x : Nat) : BitVec.ofInt n (x : Int) = BitVec.ofNat n x := by simp
theorem iand_i (k : IntKind) (x y : Nat) (hx : x < 2 ^ (k.bits - 1)) (hy : y < 2 ^ (k.bits - 1)) : iand k (x : Int) (y : Int) = ((x &&& y : Nat) : Int) := by
  have hle : 2 ^ (k.bits - 1) ≤ 2 ^ k.bits := Nat.pow_le_pow_right (by decide) (by omega)
  unfold iand
  rw [ofInt_nat, ofInt_nat, BitVec.toNat_and, BitVec.toNat_ofNat, BitVec.toNat_ofNat, Nat.mod_eq_of_lt (by omega), Nat.mod_eq_of_lt (by omega)]
  exact wrapi k _ (Nat.lt_of_le_of_lt Nat.and_le_left hx)
theorem iand_u (k : IntKind) (hk : k.signed = false) (x y : Nat) (hx : x < 2 ^ k.bits) (hy : y < 2 ^ k.bits) : iand k (x : Int) (y : Int) = ((x &&& y : Nat) : Int) := by
  unfold iand
  rw [ofInt_nat, ofInt_nat, BitVec.toNat_and, BitVec.toNat_ofNat, BitVec.toNat_ofNat, Nat.mod_eq_of_lt hx, Nat.mod_eq_of_lt hy]
  exact wrapu k hk _ (Nat.lt_of_le_of_lt Nat.and_le_left hx)
theorem ior_i (k : IntKind) (x y : Nat) (hx : x < 2 ^ (k.bits - 1)) (hy : y < 2 ^ (k.bits - 1)) : ior k (x : Int) (y : Int) = ((x ||| y : Nat) : Int) := by
  have hle : 2 ^ (k.bits - 1) ≤ 2 ^ k.bits := Nat.pow_le_pow_right (by decide) (by omega)
  unfold ior
  rw [ofInt_nat, ofInt_nat, BitVec.toNat_or, BitVec.toNat_ofNat, BitVec.toNat_ofNat, Nat.mod_eq_of_lt (by omega), Nat.mod_eq_of_lt (by omega)]
  exact wrapi k _ (Nat.or_lt_two_pow hx hy)
theorem ior_u (k : IntKind) (hk : k.signed = false) (x y : Nat) (hx : x < 2 ^ k.bits) (hy : y < 2 ^ k.bits) : ior k (x : Int) (y : Int) = ((x ||| y : Nat) : Int) := by
  unfold ior
  rw [ofInt_nat, ofInt_nat, BitVec.toNat_or, BitVec.toNat_ofNat, BitVec.toNat_ofNat, Nat.mod_eq_of_lt hx, Nat.mod_eq_of_lt hy]
  exact wrapu k hk _ (Nat.or_lt_two_pow hx hy)
theorem ixor_u (k : IntKind) (hk : k.signed = false) (x y : Nat) (hx : x < 2 ^ k.bits) (hy : y < 2 ^ k.bits) : ixor k (x : Int) (y : Int) = ((x ^^^ y : Nat) : Int) := by
  unfold ixor
  rw [ofInt_nat, ofInt_nat, BitVec.toNat_xor, BitVec.toNat_ofNat, BitVec.toNat_ofNat, Nat.mod_eq_of_lt hx, Nat.mod_eq_of_lt hy]
  exact wrapu k hk _ (Nat.xor_lt_two_pow hx hy)
theorem ishr_n (k : IntKind) (x s : Nat) (hs : s ≤ k.bits) : ishr k (x : Int) (s : Int) = ((x / 2 ^ s : Nat) : Int) := by
  unfold ishr
  rw [Int.toNat_natCast, Nat.min_eq_left hs, show (2 : Int) ^ s = ((2 ^ s : Nat) : Int) by simp, Int.fdiv_eq_ediv_of_nonneg _ (Int.natCast_nonneg _)]
  exact (Int.natCast_ediv _ _).symm
theorem ishl_i (k : IntKind) (x s : Nat) (hs : s ≤ k.bits) (h : x * 2 ^ s < 2 ^ (k.bits - 1)) : ishl k (x : Int) (s : Int) = ((x * 2 ^ s : Nat) : Int) := by
  unfold ishl
  rw [Int.toNat_natCast, Nat.min_eq_left hs, show (2 : Int) ^ s = ((2 ^ s : Nat) : Int) by simp, ← Int.natCast_mul]
  exact wrapi k _ h
theorem ishl_u (k : IntKind) (hk : k.signed = false) (x s : Nat) (hs : s ≤ k.bits) (h : x * 2 ^ s < 2 ^ k.bits) : ishl k (x : Int) (s : Int) = ((x * 2 ^ s : Nat) : Int) := by
  unfold ishl
  rw [Int.toNat_natCast, Nat.min_eq_left hs, show (2 : Int) ^ s = ((2 ^ s : Nat) : Int) by simp, ← Int.natCast_mul]
  exact wrapu k hk _ h
theorem wf_nat {k : IntKind} {x : Int} (hk : k.signed = false) (h : (Lit.int k x).wf = true) : ∃ n : Nat, x = n ∧ n < 2 ^ k.bits := by
  refine ⟨x.toNat, ?_⟩
  cases k <;> simp [IntKind.signed] at hk <;> simp [Lit.wf, IntKind.min, IntKind.max, IntKind.bits, IntKind.signed] at h ⊢ <;> omega
theorem sane04 : law04_sane.f 4000 = some true := by kernel_rfl
theorem hi_word (x y x1 x0 y1 y0 : Nat) (hx1 : x / 4294967296 = x1) (hx0 : x % 4294967296 = x0) (hy1 : y / 4294967296 = y1) (hy0 : y % 4294967296 = y0) :
    x1 * y1 + (x1 * y0 + x0 * y0 / 4294967296) / 4294967296 + ((x1 * y0 + x0 * y0 / 4294967296) % 4294967296 + x0 * y1) / 4294967296 = x * y / 18446744073709551616 := by
  have ex : x = x1 * 4294967296 + x0 := by omega
  have ey : y = y1 * 4294967296 + y0 := by omega
  have hprod : x * y = x1 * y1 * 18446744073709551616 + (x1 * y0 + x0 * y1) * 4294967296 + x0 * y0 := by
    have h1 : x1 * 4294967296 * (y1 * 4294967296) = x1 * y1 * 18446744073709551616 := by
      rw [Nat.mul_mul_mul_comm]
    have h2 : x1 * 4294967296 * y0 = x1 * y0 * 4294967296 := by rw [Nat.mul_right_comm]
    have h3 : x0 * (y1 * 4294967296) = x0 * y1 * 4294967296 := by rw [Nat.mul_assoc]
    rw [ex, ey, Nat.add_mul, Nat.mul_add, Nat.mul_add, h1, h2, h3]
    omega
  rw [hprod]
  generalize x1 * y1 = a
  generalize x1 * y0 = b
  generalize x0 * y1 = c
  generalize x0 * y0 = d
  omega
theorem mask32 (z : Nat) (hz : z < 18446744073709551616) : iand .u64 (z : Int) 4294967295 = ((z % 4294967296 : Nat) : Int) := by
  have h1 := iand_u .u64 rfl z 4294967295 hz (by decide)
  have h2 := Nat.and_two_pow_sub_one_eq_mod z 32
  have h3 : z &&& 4294967295 = z % 4294967296 := h2
  rw [h3] at h1
  exact h1
theorem shr32 (z : Nat) : ishr .u64 (z : Int) 32 = ((z / 4294967296 : Nat) : Int) := ishr_n .u64 z 32 (by decide)
theorem wr64 (z : Nat) (hz : z < 18446744073709551616) : IntKind.u64.wrap (z : Int) = z := wrapu .u64 rfl z hz
theorem scale_ok (k : Nat) (x y : Nat) (hx : x < 18446744073709551616) (hy : y < 18446744073709551616) : sip_Scale.f k (x : Int) (y : Int) = some ((x * y / 18446744073709551616 : Nat) : Int) := by
  obtain ⟨x1, hx1⟩ : ∃ x1, x / 4294967296 = x1 := ⟨_, rfl⟩
  obtain ⟨x0, hx0⟩ : ∃ x0, x % 4294967296 = x0 := ⟨_, rfl⟩
  obtain ⟨y1, hy1⟩ : ∃ y1, y / 4294967296 = y1 := ⟨_, rfl⟩
  obtain ⟨y0, hy0⟩ : ∃ y0, y % 4294967296 = y0 := ⟨_, rfl⟩
  have hw := hi_word x y x1 x0 y1 y0 hx1 hx0 hy1 hy0
  have bx1 : x1 ≤ 4294967295 := by omega
  have bx0 : x0 ≤ 4294967295 := by omega
  have by1 : y1 ≤ 4294967295 := by omega
  have by0 : y0 ≤ 4294967295 := by omega
  have p : ∀ a b : Nat, a ≤ 4294967295 → b ≤ 4294967295 → a * b ≤ 18446744065119617025 := fun a b ha hb => Nat.le_trans (Nat.mul_le_mul ha hb) (by decide)
  have p11 := p x1 y1 bx1 by1
  have p10 := p x1 y0 bx1 by0
  have p01 := p x0 y1 bx0 by1
  have p00 := p x0 y0 bx0 by0
  have s1 : ishr .u64 (x : Int) 32 = (x1 : Int) := by rw [shr32, hx1]
  have s2 : ishr .u64 (y : Int) 32 = (y1 : Int) := by rw [shr32, hy1]
  have m1 : iand .u64 (x : Int) 4294967295 = (x0 : Int) := by rw [mask32 x hx, hx0]
  have m2 : iand .u64 (y : Int) 4294967295 = (y0 : Int) := by rw [mask32 y hy, hy0]
  have w11 : IntKind.u64.wrap ((x1 : Int) * (y1 : Int)) = ((x1 * y1 : Nat) : Int) := by rw [← Int.natCast_mul, wr64 _ (by omega)]
  have w10 : IntKind.u64.wrap ((x1 : Int) * (y0 : Int)) = ((x1 * y0 : Nat) : Int) := by rw [← Int.natCast_mul, wr64 _ (by omega)]
  have w01 : IntKind.u64.wrap ((x0 : Int) * (y1 : Int)) = ((x0 * y1 : Nat) : Int) := by rw [← Int.natCast_mul, wr64 _ (by omega)]
  have w00 : IntKind.u64.wrap ((x0 : Int) * (y0 : Int)) = ((x0 * y0 : Nat) : Int) := by rw [← Int.natCast_mul, wr64 _ (by omega)]
  have t1 : IntKind.u64.wrap (((x1 * y0 : Nat) : Int) + ((x0 * y0 / 4294967296 : Nat) : Int)) = ((x1 * y0 + x0 * y0 / 4294967296 : Nat) : Int) := by rw [← Int.natCast_add, wr64 _ (by omega)]
  have t2 : IntKind.u64.wrap ((((x1 * y0 + x0 * y0 / 4294967296) % 4294967296 : Nat) : Int) + ((x0 * y1 : Nat) : Int)) = (((x1 * y0 + x0 * y0 / 4294967296) % 4294967296 + x0 * y1 : Nat) : Int) := by rw [← Int.natCast_add, wr64 _ (by omega)]
  have t3 : IntKind.u64.wrap (((x1 * y1 : Nat) : Int) + (((x1 * y0 + x0 * y0 / 4294967296) / 4294967296 : Nat) : Int)) = ((x1 * y1 + (x1 * y0 + x0 * y0 / 4294967296) / 4294967296 : Nat) : Int) := by rw [← Int.natCast_add, wr64 _ (by omega)]
  unfold sip_Scale.f bits_Mul64.f
  rw [Option.bind_some]
  dsimp only
  rw [s1, s2, m1, m2, w11, w10, w01, w00, shr32 (x0 * y0), t1, shr32, mask32 _ (by omega), t2, shr32, t3, ← Int.natCast_add, hw, wr64 _ ?_]
  exact Nat.lt_of_le_of_lt (Nat.div_le_div_right (Nat.mul_le_mul (Nat.le_of_lt hx) (Nat.le_refl y))) (by rw [Nat.mul_div_cancel_left _ (by decide)]; exact hy)
theorem monotone_true (g h n : Int) (wg : (Lit.int .u64 g).wf = true) (wh : (Lit.int .u64 h).wf = true) (wn : (Lit.int .u64 n).wf = true) : ∃ k, law04_SipMonotone.f k g h n = some true := by
  obtain ⟨g, rfl, hg'⟩ := wf_nat rfl wg
  obtain ⟨h, rfl, hh'⟩ := wf_nat rfl wh
  obtain ⟨n, rfl, hn'⟩ := wf_nat rfl wn
  have hg : g < 18446744073709551616 := hg'
  have hh : h < 18446744073709551616 := hh'
  have hn : n < 18446744073709551616 := hn'
  refine ⟨4000, ?_⟩
  have emin : (if (h : Int) < (g : Int) then (h : Int) else (g : Int)) = ((min g h : Nat) : Int) := by split <;> omega
  have emax : (if (h : Int) > (g : Int) then (h : Int) else (g : Int)) = ((max g h : Nat) : Int) := by split <;> omega
  have hmin : min g h < 18446744073709551616 := by omega
  have hmax : max g h < 18446744073709551616 := by omega
  unfold law04_SipMonotone.f
  rw [emin, emax, scale_ok _ _ _ hmin hn, Option.bind_some, scale_ok _ _ _ hmax hn, Option.bind_some, sane04, Option.bind_some, if_pos rfl]
  have h1 : min g h * n / 18446744073709551616 ≤ max g h * n / 18446744073709551616 := Nat.div_le_div_right (Nat.mul_le_mul (by omega) (Nat.le_refl n))
  rw [if_pos (decide_eq_true (Int.ofNat_le.2 h1))]
  by_cases hz : n = 0
  · subst hz
    simp
  · have h2 : max g h * n / 18446744073709551616 < n := by
      apply Nat.div_lt_of_lt_mul
      exact (Nat.mul_lt_mul_right (by omega)).2 hmax
    rw [if_neg (by simpa using hz), decide_eq_true (Int.ofNat_lt.2 h2)]
    rfl
end Go.Proofs.Ytoogcdmdbogkeaa.G
namespace Go.Proofs.Ytoogcdmdbogkeaa.sipMonotone
open Go Go.ChangeShapes Go.WideShapes Go.ChangeAt Go.RowKit
open Go.ChangeMaps (open_string shut_string)
theorem own : ownKnob Try.prog.godebug = none := by kernel_rfl
theorem laidOut : laidOutB Try.prog = true := by kernel_rfl
set_option maxRecDepth 100000 in
theorem lifted (os : Os) (started : os.Started) (H : Type) (enc : TypeId × Value → H) :
    ReturnsInHanded {} Try.checked os 5 .any (Rows.sipMonotoneSpec.pre6 enc Try.prog Try.f5 Rows.sipMonotoneRow.domain false) (Rows.sipMonotoneSpec.post enc Try.prog Try.f5 false true false false) := by
  refine returnsInHanded_of_change_sized (C := Try.checked) own started (by kernel_rfl) Try.func5
    (ChangeSpec.witness6 (enc := enc) (C := Try.checked) false ⟨#[], #[.int .u64 0, .int .u64 0, .int .u64 0], []⟩ 8 (by kernel_rfl) (by kernel_rfl) (by kernel_rfl) (by kernel_rfl)) ?_
  intro W base args ds gs before hval0 hW hcnd hsz0 _
  have hsz : (DataW.weightsEach Try.prog (Try.f5.params.toList ++ Rows.sipMonotoneSpec.plain.varTypes Try.prog) (ds ++ gs)).all (· ≤ reachBytes) = true := hsz0
  have hval : ∀ (j : Nat) t v, Try.f5.params[j]? = some t → args[j]? = some v → Value.okWide Try.prog W .any base t v := hval0
  have hW' := hW
  obtain ⟨p, q, hA0, hV, rfl, hfz, hnd⟩ := hW
  have hA : DataW.TrodAll enc Try.prog W 0 (fun _ => true) true Try.f5.params.toList args.toList ds p := hA0
  rw [Try.params5] at hA hval hsz
  obtain ⟨v0, vs0, d0, ds0, p0, q0, hargs, rfl, rfl, h0, r0⟩ := trodAll_cons hA
  obtain ⟨v1, vs1, d1, ds1, p1, q1, rfl, rfl, rfl, h1, r1⟩ := trodAll_cons r0
  obtain ⟨v2, vs2, d2, ds2, p2, q2, rfl, rfl, rfl, h2, r2⟩ := trodAll_cons r1
  obtain ⟨rfl, rfl, rfl⟩ := trodAll_nil r2
  obtain rfl : args = #[v0, v1, v2] := by cases args; simp_all
  obtain ⟨rfl, rfl⟩ := trodVars_none hV
  obtain ⟨a0, rfl, rfl, rfl, w0⟩ := open_int Try.underlying22 (hval 0 22 v0 rfl rfl) h0
  obtain ⟨a1, rfl, rfl, rfl, w1⟩ := open_int Try.underlying22 (hval 1 22 v1 rfl rfl) h1
  obtain ⟨a2, rfl, rfl, rfl, w2⟩ := open_int Try.underlying22 (hval 2 22 v2 rfl rfl) h2
  clear hA0 hval0 hsz0 hsz
  obtain ⟨K, hK⟩ := G.monotone_true a0 a1 a2 w0 w1 w2
  refine (G.law04_SipMonotone.calls K a0 a1 a2 []  true W  (G.Mem.nil W) hK).mono fun e W' he => ?_
  obtain ⟨v, rfl, rfl, hM⟩ := he
  have bel := hM.below
  exact ⟨_, rfl, _, _, _, [], _, [], hW', trodAll_mk1 (shut_bool Try.underlying4 _), (trodAll_cons_mk (shut_int Try.underlying22 w0) (trodAll_cons_mk (shut_int Try.underlying22 w1) (trodAll_cons_mk (shut_int Try.underlying22 w2) trodAll_mk0))), rfl, bel.frame _, fun h => by cases h⟩
theorem over : Rows.sipMonotoneRow.holds Try.pinned (OpenSpec.ofChange Rows.sipMonotoneSpec) :=
  OpenClaim.holds_of_wide 5 Try.f5 rfl rfl rfl rfl rfl rfl rfl ⟨rfl, rfl, rfl, rfl, rfl⟩ rfl rfl rfl rfl rfl (by kernel_rfl) Try.func5 (by kernel_rfl)
    (of_decide_eq_true (by kernel_rfl)) (by unfold Func.isWrapper; first | (rw [if_pos (by decide +kernel)]; kernel_rfl) | (rw [if_neg (by decide +kernel)]; exact ⟨rfl, rfl⟩))
    (fun os started H enc _ => lifted os started H enc)
theorem proved : Rows.SipMonotoneSaid := over
#print axioms proved
end Go.Proofs.Ytoogcdmdbogkeaa.sipMonotone
namespace Go.Proofs.Ytoogcdmdbogkeaa
/-- The row, under a short name, for the claim. -/
theorem sipMonotone_holds : Rows.SipMonotoneSaid := sipMonotone.proved
end Go.Proofs.Ytoogcdmdbogkeaa
