/- For every text and all numbers the program and the reference agree on which texts are prefixes: the law returns true. Conditions: none beyond the statement's own. -/
import Derived.Test.YtmopbcfjnnchgaaRows
import Derived.Test.YtmopbcfjnnchgaaFAddressPrefix
import Derived.WalkKit
import Derived.ProofKit
import Derived.OpenShut
import Derived.ShutString
import Derived.ChangeOld
import Derived.Below
import Derived.SizedLaws
import Derived.Test.YtmopbcfjnnchgaaWSized
set_option linter.unusedVariables false
set_option linter.unusedSimpArgs false
namespace Go.Proofs.Ytmopbcfjnnchgaa.PrintWords
/-- The name by which the row finds the word on a slice's weight. -/
theorem sized_ints {H : Type} {enc : TypeId × Value → H} {P : Program} {W : World} {base : Nat} {spare : Nat → Bool} {held : Bool} {t e : TypeId} {k : IntKind} {a : Option Addr} {len cap : Nat} {d : DataW H} {ps : List MemPlace} {ts : List TypeId} {ds : List (DataW H)} {j : Nat}
    (hsz : (DataW.weightsEach P ts ds).all (· ≤ reachBytes) = true) (ht : ts[j]? = some t) (hd : ds[j]? = some d) (hu : P.underlying t = some (.slice e)) (he : P.underlying e = some (.int k)) (hc : P.cellsOf e = 1) {B : Nat} (hB : P.bytesOf e = B)
    (h : DataW.Trod enc P W base spare held t (.slice a len cap) d ps) : len * B ≤ 140737488351232 :=
  Go.Proofs.YtmopbcfjnnchgaaW.PrintWords.sized_ints hsz ht hd hu he hc hB h
end Go.Proofs.Ytmopbcfjnnchgaa.PrintWords
namespace Go.Proofs.Ytmopbcfjnnchgaa.G
open Go Go.RowKit Go.Proofs
/-! ## of all laws: enough fuel -/
def Ev (p : Nat → Prop) : Prop := ∃ K, ∀ k, K ≤ k → p k
theorem Ev.mono {p q : Nat → Prop} (h : Ev p) (f : ∀ k, p k → q k) : Ev q := by
  obtain ⟨K, hK⟩ := h
  exact ⟨K, fun k hk => f k (hK k hk)⟩
theorem Ev.and {p q : Nat → Prop} (h : Ev p) (h2 : Ev q) : Ev fun k => p k ∧ q k := by
  obtain ⟨K, hK⟩ := h
  obtain ⟨L, hL⟩ := h2
  exact ⟨max K L, fun k hk => ⟨hK k (by omega), hL k (by omega)⟩⟩
theorem Ev.of {p : Nat → Prop} (K : Nat) (h : ∀ k, p (k + K)) : Ev p := ⟨K, fun k hk => by have := h (k - K); rwa [Nat.sub_add_cancel hk] at this⟩
theorem Ev.all {p : Nat → Prop} (h : ∀ k, p k) : Ev p := ⟨0, fun k _ => h k⟩
/-- behind one round -/
theorem Ev.succ {p : Nat → Prop} (h : Ev fun k => p (k + 1)) : Ev p := by
  obtain ⟨K, hK⟩ := h
  refine ⟨K + 1, fun k hk => ?_⟩
  have h1 := hK (k - 1) (by omega)
  have e : k - 1 + 1 = k := by omega
  rw [← e]
  exact h1
theorem Ev.get {p : Nat → Prop} (h : Ev p) : ∃ k, p k := by
  obtain ⟨K, hK⟩ := h
  exact ⟨K, hK K (Nat.le_refl _)⟩
theorem wr {x : Int} (h0 : -9223372036854775808 ≤ x) (h1 : x < 9223372036854775808) : IntKind.i64.wrap x = x := by
  simp only [IntKind.wrap, IntKind.bits, IntKind.signed]
  simp
  omega
theorem wr8 {x : Int} (h0 : 0 ≤ x) (h1 : x < 256) : IntKind.u8.wrap x = x := by
  simp only [IntKind.wrap, IntKind.bits, IntKind.signed]
  simp
  omega
theorem wr8_lt (x : Int) : 0 ≤ IntKind.u8.wrap x ∧ IntKind.u8.wrap x < 256 := by
  simp only [IntKind.wrap, IntKind.bits, IntKind.signed]
  simp
  omega
theorem mod_ok (k : Nat) (v n : Int) (h0 : 0 < n) (h1 : n < 4611686018427387904) : mill_Mod.f k v n = some (v % n) := by
  unfold mill_Mod.f
  rw [if_pos (by omega)]
  have hb := Int.emod_nonneg v (show n ≠ 0 by omega)
  have hb2 := Int.emod_lt_of_pos v h0
  by_cases hv : 0 ≤ v
  · have e : v.tmod n = v % n := Int.tmod_eq_emod_of_nonneg hv
    rw [e, if_neg (by simp; omega)]
    rfl
  · have e : v.tmod n = -((-v) % n) := by
      have : v = -(-v) := by omega
      rw [this, Int.neg_tmod, Int.tmod_eq_emod_of_nonneg (by omega)]
      simp
    have hc := Int.emod_nonneg (-v) (show n ≠ 0 by omega)
    have hc2 := Int.emod_lt_of_pos (-v) h0
    by_cases hz : (-v) % n = 0
    · have : v % n = 0 := by
        have hd := Int.dvd_of_emod_eq_zero hz
        exact Int.emod_eq_zero_of_dvd (by exact (Int.dvd_neg).1 hd)
      rw [e, hz, this]
      rfl
    · have hneg : v % n = n - (-v) % n := by
        have h2 : (-v) % n = n - v % n := by
          have := Int.neg_emod (a := v) (b := n)
          rw [this]
          split
          · rename_i hd
            exact absurd (Int.emod_eq_zero_of_dvd ((Int.dvd_neg).2 hd)) hz
          · have : (n.natAbs : Int) = n := by omega
            rw [this]
        omega
      rw [e, if_pos (by simp; omega), wr (by omega) (by omega), hneg]
      simp
      omega
theorem sane27 (k : Nat) : law27_sane.f (k + 40) = some true := by rfl
theorem pre_l (s : ByteArray) : ∀ (k : Nat) (t : Int), address_Prefix.l0 s k t = ref27_Prefix.l0 s k t
  | 0, _ => rfl
  | k + 1, t => by
    rw [address_Prefix.l0, ref27_Prefix.l0]
    simp only [pre_l s k]
theorem pre_some (s : ByteArray) (hs : s.size ≤ 4611686018427387904) : ∀ (m : Nat) (t : Int), 0 ≤ t → t ≤ (s.size : Int) → (s.size : Int) - t ≤ m → Ev fun k => ∃ r, ref27_Prefix.l0 s k t = some r ∧ (∀ b, r = .ret b → b = false)
  | 0, t, h0, h1, h2 => Ev.succ (Ev.all fun k => ⟨.go (), by rw [ref27_Prefix.l0, if_neg (by simp; omega)], by simp⟩)
  | m + 1, t, h0, h1, h2 => by
    by_cases hlt : t < (s.size : Int)
    · refine Ev.succ ((pre_some s hs m (t + 1) (by omega) (by omega) (by omega)).mono fun k ⟨r, hr, hb⟩ => ?_)
      rw [ref27_Prefix.l0, if_pos (by simpa using hlt), if_pos ⟨h0, hlt⟩, wr (by omega) (by omega)]
      by_cases ha : sg s t < 97
      · exact ⟨.ret false, by simp [ha], by simp⟩
      · by_cases hz : sg s t > 122
        · refine ⟨.ret false, ?_, by simp⟩
          rw [if_neg (by simpa using ha), if_pos ⟨h0, hlt⟩]
          simp [hz]
        · refine ⟨r, ?_, hb⟩
          rw [if_neg (by simpa using ha), if_pos ⟨h0, hlt⟩]
          simp [hz, hr]
    · exact Ev.succ (Ev.all fun k => ⟨.go (), by rw [ref27_Prefix.l0, if_neg (by simpa using hlt)], by simp⟩)
theorem prefix_ok (s : ByteArray) (hs : s.size ≤ 4611686018427387904) : Ev fun k => ∃ b, address_Prefix.f k s = some b ∧ ref27_Prefix.f k s = some b :=
  (pre_some s hs s.size 0 (by omega) (by omega) (by omega)).mono fun k ⟨r, hr, _⟩ => by
    unfold address_Prefix.f ref27_Prefix.f
    rw [pre_l, hr]
    cases r with
    | ret b => exact ⟨b, rfl, rfl⟩
    | go u =>
      refine ⟨if ((s.size : Nat) : Int) ≥ 1 then decide (((s.size : Nat) : Int) ≤ 10) else false, ?_, ?_⟩ <;>
      · by_cases h : ((s.size : Nat) : Int) ≥ 1
        · simp [h]
        · simp [h]
def five : List ByteArray := [⟨#[108, 99]⟩, ⟨#[97]⟩, ⟨#[97, 98, 99, 100, 101, 102, 103, 104, 105, 106]⟩, ⟨#[122]⟩, ⟨#[116, 108, 99]⟩]
theorem five_ok (k : Nat) : ∀ p ∈ five, address_Prefix.f (k + 20) p = some true ∧ p.size ≤ 10 ∧ 0 < p.size := by
  intro p hp
  simp only [five, List.mem_cons, List.not_mem_nil, or_false] at hp
  rcases hp with rfl | rfl | rfl | rfl | rfl <;> exact ⟨rfl, by decide, by decide⟩
theorem prefix5 (k : Nat) (n : Int) : ∃ p ∈ five, law27_prefix.f k n = some p := by
  have h0 := Int.emod_nonneg n (show (5 : Int) ≠ 0 by decide)
  have h1 := Int.emod_lt_of_pos n (show (0 : Int) < 5 by decide)
  have hl : (n % 5).toNat < five.length := by simp [five]; omega
  refine ⟨five[(n % 5).toNat], List.getElem_mem hl, ?_⟩
  unfold law27_prefix.f
  rw [mod_ok k n 5 (by decide) (by decide), Option.bind_some, if_pos ⟨h0, by omega⟩]
  have e : ∀ (x : Nat) (hx : x < five.length), five.getD x ByteArray.empty = five[x] := fun x hx => by
    rw [List.getD_eq_getElem?_getD, List.getElem?_eq_getElem hx]; rfl
  exact congrArg some (e _ hl)
theorem ofBytes_size (l : List Int) : (ofBytes l).size = l.length := by
  simp [ofBytes, ByteArray.size]
theorem addressPrefix_true (s : ByteArray) (n at_ by_ : Int) : ∃ k, law27_AddressPrefix.f k s n at_ by_ = some true := by
  by_cases hs : s.size > 100
  · refine ⟨40, ?_⟩
    unfold law27_AddressPrefix.f
    rw [sane27 0, Option.bind_some, if_neg (by decide), if_pos (by simp; omega)]
  · obtain ⟨p, hp, _⟩ := prefix5 0 n
    have hpr : ∀ k, law27_prefix.f k n = some p := fun k => by
      obtain ⟨q, _, hq⟩ := prefix5 k n
      obtain ⟨q', hq', hq2⟩ := prefix5 0 n
      have : ∀ k, law27_prefix.f k n = law27_prefix.f 0 n := fun k => by unfold law27_prefix.f; rw [mod_ok k n 5 (by decide) (by decide), mod_ok 0 n 5 (by decide) (by decide)]
      rw [this]
      assumption
    have hsz := (five_ok 0 p hp).2
    have hm0 := Int.emod_nonneg at_ (show (p.size : Int) ≠ 0 by omega)
    have hm1 := Int.emod_lt_of_pos at_ (show (0 : Int) < p.size by omega)
    obtain ⟨k, ⟨⟨b, hb1, hb2⟩, c, hc1, hc2⟩, hk, hk2⟩ := ((((prefix_ok s (by omega)).and (prefix_ok (ofBytes ((bytesOf p).set (at_ % p.size).toNat (IntKind.u8.wrap by_))) (by rw [ofBytes_size, List.length_set, length_bytesOf]; omega))).and ((Ev.of (p := fun k => address_Prefix.f k p = some true) 20 fun k => (five_ok k p hp).1).and (Ev.of (p := fun k => law27_sane.f k = some true) 40 fun k => sane27 k)))).get
    refine ⟨k, ?_⟩
    unfold law27_AddressPrefix.f
    rw [hk2, Option.bind_some, if_neg (by decide), if_neg (by simp; omega), hpr, Option.bind_some, if_pos (by omega), mod_ok k at_ _ (by omega) (by omega), Option.bind_some, if_pos ⟨hm0, hm1⟩, hb1, Option.bind_some, hb2, Option.bind_some, if_pos (by simp), Option.bind_some, hk, Option.bind_some, if_pos rfl, hc1, Option.bind_some, hc2, Option.bind_some]
    simp
end Go.Proofs.Ytmopbcfjnnchgaa.G
namespace Go.Proofs.Ytmopbcfjnnchgaa.addressPrefix
open Go Go.ChangeShapes Go.WideShapes Go.ChangeAt Go.RowKit
open Go.ChangeMaps (open_string shut_string)
theorem own : ownKnob Try.prog.godebug = none := by kernel_rfl
theorem laidOut : laidOutB Try.prog = true := by kernel_rfl
set_option maxRecDepth 100000 in
theorem lifted (os : Os) (started : os.Started) (H : Type) (enc : TypeId × Value → H) :
    ReturnsInHanded {} Try.checked os 4 .any (Rows.addressPrefixSpec.pre6 enc Try.prog Try.f4 Rows.addressPrefixRow.domain false) (Rows.addressPrefixSpec.post enc Try.prog Try.f4 false true false false) := by
  refine returnsInHanded_of_change_sized (C := Try.checked) own started (by kernel_rfl) Try.func4
    (ChangeSpec.witness6 (enc := enc) (C := Try.checked) false ⟨#[], #[.string ByteArray.empty, .int .i64 0, .int .i64 0, .int .i64 0], []⟩ 8 (by kernel_rfl) (by kernel_rfl) (by kernel_rfl) (by kernel_rfl)) ?_
  intro W base args ds gs before hval0 hW hcnd hsz0 _
  have hsz : (DataW.weightsEach Try.prog (Try.f4.params.toList ++ Rows.addressPrefixSpec.plain.varTypes Try.prog) (ds ++ gs)).all (· ≤ reachBytes) = true := hsz0
  have hval : ∀ (j : Nat) t v, Try.f4.params[j]? = some t → args[j]? = some v → Value.okWide Try.prog W .any base t v := hval0
  have hW' := hW
  obtain ⟨p, q, hA0, hV, rfl, hfz, hnd⟩ := hW
  have hA : DataW.TrodAll enc Try.prog W 0 (fun _ => true) true Try.f4.params.toList args.toList ds p := hA0
  rw [Try.params4] at hA hval hsz
  obtain ⟨v0, vs0, d0, ds0, p0, q0, hargs, rfl, rfl, h0, r0⟩ := trodAll_cons hA
  obtain ⟨v1, vs1, d1, ds1, p1, q1, rfl, rfl, rfl, h1, r1⟩ := trodAll_cons r0
  obtain ⟨v2, vs2, d2, ds2, p2, q2, rfl, rfl, rfl, h2, r2⟩ := trodAll_cons r1
  obtain ⟨v3, vs3, d3, ds3, p3, q3, rfl, rfl, rfl, h3, r3⟩ := trodAll_cons r2
  obtain ⟨rfl, rfl, rfl⟩ := trodAll_nil r3
  obtain rfl : args = #[v0, v1, v2, v3] := by cases args; simp_all
  obtain ⟨rfl, rfl⟩ := trodVars_none hV
  obtain ⟨a0, rfl, rfl, rfl, w0⟩ := open_string Try.underlying9 (hval 0 9 v0 rfl rfl) h0
  obtain ⟨a1, rfl, rfl, rfl, w1⟩ := open_int Try.underlying3 (hval 1 3 v1 rfl rfl) h1
  obtain ⟨a2, rfl, rfl, rfl, w2⟩ := open_int Try.underlying3 (hval 2 3 v2 rfl rfl) h2
  obtain ⟨a3, rfl, rfl, rfl, w3⟩ := open_int Try.underlying3 (hval 3 3 v3 rfl rfl) h3
  clear hA0 hval0 hsz0 hsz
  obtain ⟨K, hK⟩ := G.addressPrefix_true a0 a1 a2 a3
  refine (G.law27_AddressPrefix.calls K a0 a1 a2 a3 []  true W  (G.Mem.nil W) hK).mono fun e W' he => ?_
  obtain ⟨v, rfl, rfl, hM⟩ := he
  have bel := hM.below
  exact ⟨_, rfl, _, _, _, [], _, [], hW', trodAll_mk1 (shut_bool Try.underlying4 _), (trodAll_cons_mk (shut_string Try.underlying9 w0) (trodAll_cons_mk (shut_int Try.underlying3 w1) (trodAll_cons_mk (shut_int Try.underlying3 w2) (trodAll_cons_mk (shut_int Try.underlying3 w3) trodAll_mk0)))), rfl, bel.frame _, fun h => by cases h⟩
theorem over : Rows.addressPrefixRow.holds Try.pinned (OpenSpec.ofChange Rows.addressPrefixSpec) :=
  OpenClaim.holds_of_wide 4 Try.f4 rfl rfl rfl rfl rfl rfl rfl ⟨rfl, rfl, rfl, rfl, rfl⟩ rfl rfl rfl rfl rfl (by kernel_rfl) Try.func4 (by kernel_rfl)
    (of_decide_eq_true (by kernel_rfl)) (by unfold Func.isWrapper; first | (rw [if_pos (by decide +kernel)]; kernel_rfl) | (rw [if_neg (by decide +kernel)]; exact ⟨rfl, rfl⟩))
    (fun os started H enc _ => lifted os started H enc)
theorem proved : Rows.AddressPrefixSaid := over
#print axioms proved
end Go.Proofs.Ytmopbcfjnnchgaa.addressPrefix
namespace Go.Proofs.Ytmopbcfjnnchgaa
/-- The row, under a short name, for the claim. -/
theorem addressPrefix_holds : Rows.AddressPrefixSaid := addressPrefix.proved
end Go.Proofs.Ytmopbcfjnnchgaa
