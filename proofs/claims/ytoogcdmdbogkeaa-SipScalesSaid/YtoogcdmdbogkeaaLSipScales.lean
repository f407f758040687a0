/- For all values, ranges and digests the program and the reference scale alike and make the same key: the law returns true. Conditions: none beyond the statement's own. -/
import Derived.Test.YtoogcdmdbogkeaaRows
import Derived.Test.YtoogcdmdbogkeaaFSipScales
import Derived.WalkKit
import Derived.ProofKit
import Derived.OpenShut
import Derived.ShutString
import Derived.ChangeOld
import Derived.Below
import Derived.SizedLaws
import Derived.Test.YtoogcdmdbogkeaaWSized
import Derived.Test.YtoogcdmdbogkeaaV
set_option linter.unusedVariables false
set_option linter.unusedSimpArgs false
namespace Go.Proofs.Ytoogcdmdbogkeaa.PrintWords
/-- The name by which the row finds the word on a slice's weight. -/
theorem sized_ints {H : Type} {enc : TypeId × Value → H} {P : Program} {W : World} {base : Nat} {spare : Nat → Bool} {held : Bool} {t e : TypeId} {k : IntKind} {a : Option Addr} {len cap : Nat} {d : DataW H} {ps : List MemPlace} {ts : List TypeId} {ds : List (DataW H)} {j : Nat}
    (hsz : (DataW.weightsEach P ts ds).all (· ≤ reachBytes) = true) (ht : ts[j]? = some t) (hd : ds[j]? = some d) (hu : P.underlying t = some (.slice e)) (he : P.underlying e = some (.int k)) (hc : P.cellsOf e = 1) {B : Nat} (hB : P.bytesOf e = B)
    (h : DataW.Trod enc P W base spare held t (.slice a len cap) d ps) : len * B ≤ 140737488351232 :=
  Go.Proofs.YtoogcdmdbogkeaaW.PrintWords.sized_ints hsz ht hd hu he hc hB h
end Go.Proofs.Ytoogcdmdbogkeaa.PrintWords
namespace Go.Proofs.Ytoogcdmdbogkeaa.G
open Go Go.RowKit Go.Proofs
/-! ## of all laws: enough fuel -/
def Ev (p : Nat → Prop) : Prop := ∃ K, ∀ k, K ≤ k → p k
theorem Ev.mono {p q : Nat → Prop} (h : Ev p) (f : ∀ k, p k → q k) : Ev q := by
  obtain ⟨K, hK⟩ := h
  exact ⟨K, fun k hk => f k (hK k hk)⟩
theorem Ev.and {p q : Nat → Prop} (h : Ev p) (h2 : Ev q) : Ev fun k => p k ∧ q k := by
  obtain ⟨K, hK⟩ := h
  obtain ⟨L, hL⟩ := h2
  exact ⟨max K L, fun k hk => ⟨hK k (by omega), hL k (by omega)⟩⟩
theorem Ev.of {p : Nat → Prop} (K : Nat) (h : ∀ k, p (k + K)) : Ev p := ⟨K, fun k hk => by have := h (k - K); rwa [Nat.sub_add_cancel hk] at this⟩
theorem Ev.all {p : Nat → Prop} (h : ∀ k, p k) : Ev p := ⟨0, fun k _ => h k⟩
/-- behind one round -/
theorem Ev.succ {p : Nat → Prop} (h : Ev fun k => p (k + 1)) : Ev p := by
  obtain ⟨K, hK⟩ := h
  refine ⟨K + 1, fun k hk => ?_⟩
  have h1 := hK (k - 1) (by omega)
  have e : k - 1 + 1 = k := by omega
  rw [← e]
  exact h1
theorem Ev.get {p : Nat → Prop} (h : Ev p) : ∃ k, p k := by
  obtain ⟨K, hK⟩ := h
  exact ⟨K, hK K (Nat.le_refl _)⟩
theorem wr {x : Int} (h0 : -9223372036854775808 ≤ x) (h1 : x < 9223372036854775808) : IntKind.i64.wrap x = x := by
  simp only [IntKind.wrap, IntKind.bits, IntKind.signed]
  simp
  omega
theorem wr8 {x : Int} (h0 : 0 ≤ x) (h1 : x < 256) : IntKind.u8.wrap x = x := by
  simp only [IntKind.wrap, IntKind.bits, IntKind.signed]
  simp
  omega
theorem wr8_lt (x : Int) : 0 ≤ IntKind.u8.wrap x ∧ IntKind.u8.wrap x < 256 := by
  simp only [IntKind.wrap, IntKind.bits, IntKind.signed]
  simp
  omega
theorem word_l (b : List Int) (hb : b.length ≤ 8) : ∀ (m k k' : Nat) (t i : Int), 0 ≤ i → i ≤ (b.length : Int) → (b.length : Int) - i ≤ m → ∃ r, sip_word.l0 b (k + m + 1) t i = some r ∧ ref04_word.l0 b (k' + m + 1) t i = some r
  | 0, k, k', t, i, h0, h1, h2 => ⟨t, by rw [sip_word.l0, if_neg (by simp; omega)], by rw [ref04_word.l0, if_neg (by simp; omega)]⟩
  | m + 1, k, k', t, i, h0, h1, h2 => by
    by_cases hi : i < (b.length : Int)
    · obtain ⟨r, e1, e2⟩ := word_l b hb m k k' (ior .u64 t (ishl .u64 (IntKind.u64.wrap (b.getD i.toNat (0 : Int))) (IntKind.i64.wrap (8 * i)))) (i + 1) (by omega) (by omega) (by omega)
      have hw : IntKind.i64.wrap (i + 1) = i + 1 := wr (by omega) (by omega)
      have hw8 : 0 ≤ IntKind.i64.wrap (8 * i) := by rw [wr (by omega) (by omega)]; omega
      refine ⟨r, ?_, ?_⟩
      · rw [sip_word.l0, if_pos (by simpa using hi), if_pos ⟨h0, hi⟩, if_pos hw8, hw]; exact e1
      · rw [ref04_word.l0, if_pos (by simpa using hi), if_pos ⟨h0, hi⟩, if_pos hw8, hw]; exact e2
    · exact ⟨t, by rw [sip_word.l0, if_neg (by simpa using hi)], by rw [ref04_word.l0, if_neg (by simpa using hi)]⟩
theorem word_eq (k k' : Nat) (b : List Int) (hb : b.length ≤ 8) : ∃ r, sip_word.f (k + 9) b = some r ∧ ref04_word.f (k' + 9) b = some r := by
  obtain ⟨r, e1, e2⟩ := word_l b hb 8 k k' 0 0 (by omega) (by omega) (by omega)
  exact ⟨r, by rw [sip_word.f, e1]; rfl, by rw [ref04_word.f, e2]; rfl⟩
theorem sane04 : law04_sane.f 4000 = some true := by kernel_rfl
theorem key_eq (d : Vector Int 32) : ∃ r, sip_Key.f 4000 d = some r ∧ ref04_Key.f 4000 d = some r := by
  obtain ⟨r1, e1, f1⟩ := word_eq 3991 3991 (d.toList.take 8) (by simp)
  obtain ⟨r2, e2, f2⟩ := word_eq 3991 3991 ((d.toList.take 16).drop 8) (by simp)
  simp only [Nat.reduceAdd] at e1 f1 e2 f2
  refine ⟨(((Vector.replicate 2 0 : Vector Int 2).setIfInBounds 0 r1).setIfInBounds 1 r2), ?_, ?_⟩
  · unfold sip_Key.f
    rw [e1, Option.bind_some, e2, Option.bind_some]
  · unfold ref04_Key.f
    rw [f1, Option.bind_some, f2, Option.bind_some]
theorem scales_true (h n : Int) (d : Vector Int 32) : ∃ k, law04_SipScales.f k h n d = some true := by
  refine ⟨4000, ?_⟩
  obtain ⟨r, e1, e2⟩ := key_eq d
  have e3 : ref04_Scale.f 4000 h n = sip_Scale.f 4000 h n := rfl
  have e4 : ∃ z, sip_Scale.f 4000 h n = some z := ⟨_, rfl⟩
  obtain ⟨z, hz⟩ := e4
  unfold law04_SipScales.f
  rw [sane04, Option.bind_some, if_pos rfl, e3, hz, Option.bind_some, Option.bind_some, if_pos (by simp), e1, Option.bind_some, e2, Option.bind_some]
  simp
end Go.Proofs.Ytoogcdmdbogkeaa.G
namespace Go.Proofs.Ytoogcdmdbogkeaa.sipScales
open Go Go.ChangeShapes Go.WideShapes Go.ChangeAt Go.RowKit
open Go.ChangeMaps (open_string shut_string)
theorem own : ownKnob Try.prog.godebug = none := by kernel_rfl
theorem laidOut : laidOutB Try.prog = true := by kernel_rfl
set_option maxRecDepth 100000 in
theorem lifted (os : Os) (started : os.Started) (H : Type) (enc : TypeId × Value → H) :
    ReturnsInHanded {} Try.checked os 6 .any (Rows.sipScalesSpec.pre6 enc Try.prog Try.f6 Rows.sipScalesRow.domain false) (Rows.sipScalesSpec.post enc Try.prog Try.f6 false true false false) := by
  refine returnsInHanded_of_change_sized (C := Try.checked) own started (by kernel_rfl) Try.func6
    (ChangeSpec.witness6 (enc := enc) (C := Try.checked) false ⟨#[], #[.int .u64 0, .int .u64 0, .agg (List.replicate 32 (.int .u8 0)).toArray], []⟩ 8 (by kernel_rfl) (by kernel_rfl) (by kernel_rfl) (by kernel_rfl)) ?_
  intro W base args ds gs before hval0 hW hcnd hsz0 _
  have hsz : (DataW.weightsEach Try.prog (Try.f6.params.toList ++ Rows.sipScalesSpec.plain.varTypes Try.prog) (ds ++ gs)).all (· ≤ reachBytes) = true := hsz0
  have hval : ∀ (j : Nat) t v, Try.f6.params[j]? = some t → args[j]? = some v → Value.okWide Try.prog W .any base t v := hval0
  have hW' := hW
  obtain ⟨p, q, hA0, hV, rfl, hfz, hnd⟩ := hW
  have hA : DataW.TrodAll enc Try.prog W 0 (fun _ => true) true Try.f6.params.toList args.toList ds p := hA0
  rw [Try.params6] at hA hval hsz
  obtain ⟨v0, vs0, d0, ds0, p0, q0, hargs, rfl, rfl, h0, r0⟩ := trodAll_cons hA
  obtain ⟨v1, vs1, d1, ds1, p1, q1, rfl, rfl, rfl, h1, r1⟩ := trodAll_cons r0
  obtain ⟨v2, vs2, d2, ds2, p2, q2, rfl, rfl, rfl, h2, r2⟩ := trodAll_cons r1
  obtain ⟨rfl, rfl, rfl⟩ := trodAll_nil r2
  obtain rfl : args = #[v0, v1, v2] := by cases args; simp_all
  obtain ⟨rfl, rfl⟩ := trodVars_none hV
  obtain ⟨a0, rfl, rfl, rfl, w0⟩ := open_int Try.underlying22 (hval 0 22 v0 rfl rfl) h0
  obtain ⟨a1, rfl, rfl, rfl, w1⟩ := open_int Try.underlying22 (hval 1 22 v1 rfl rfl) h1
  have k2 := h2
  have lt2 : ∀ x ∈ p2, x.block < W.heap.size := by obtain ⟨m, hm⟩ := k2; exact DataW.trod_lt m _ _ _ hm
  obtain ⟨a2, rfl, w2⟩ := G.open_vec (hn := by decide) Try.underlying33 Try.underlying5 (by kernel_rfl) (hval 2 33 v2 rfl rfl) h2
  clear hA0 hval0 hsz0 hsz
  obtain ⟨K, hK⟩ := G.scales_true a0 a1 a2
  refine (G.law04_SipScales.calls K a0 a1 a2 []  true W  (G.Mem.nil W) hK).mono fun e W' he => ?_
  obtain ⟨v, rfl, rfl, hM⟩ := he
  have bel := hM.below
  exact ⟨_, rfl, _, _, _, [], _, [], hW', trodAll_mk1 (shut_bool Try.underlying4 _), (trodAll_cons_mk (shut_int Try.underlying22 w0) (trodAll_cons_mk (shut_int Try.underlying22 w1) (trodAll_cons_mk (Below.trod laidOut (by kernel_rfl) (of_decide_eq_true (by kernel_rfl)) k2 bel lt2) trodAll_mk0))), rfl, bel.frame _, fun h => by cases h⟩
theorem over : Rows.sipScalesRow.holds Try.pinned (OpenSpec.ofChange Rows.sipScalesSpec) :=
  OpenClaim.holds_of_wide 6 Try.f6 rfl rfl rfl rfl rfl rfl rfl ⟨rfl, rfl, rfl, rfl, rfl⟩ rfl rfl rfl rfl rfl (by kernel_rfl) Try.func6 (by kernel_rfl)
    (of_decide_eq_true (by kernel_rfl)) (by unfold Func.isWrapper; first | (rw [if_pos (by decide +kernel)]; kernel_rfl) | (rw [if_neg (by decide +kernel)]; exact ⟨rfl, rfl⟩))
    (fun os started H enc _ => lifted os started H enc)
theorem proved : Rows.SipScalesSaid := over
#print axioms proved
end Go.Proofs.Ytoogcdmdbogkeaa.sipScales
namespace Go.Proofs.Ytoogcdmdbogkeaa
/-- The row, under a short name, for the claim. -/
theorem sipScales_holds : Rows.SipScalesSaid := sipScales.proved
end Go.Proofs.Ytoogcdmdbogkeaa
