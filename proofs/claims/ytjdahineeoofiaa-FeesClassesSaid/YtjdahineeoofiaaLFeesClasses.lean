/- For every class, rate, fee and weight the fee rates, bounds and classes are those of the reference: the law returns true. Conditions: none beyond the statement's own. -/
import Derived.Test.YtjdahineeoofiaaRows
import Derived.Test.YtjdahineeoofiaaFFeesClasses
import Derived.WalkKit
import Derived.ProofKit
import Derived.OpenShut
import Derived.ShutString
import Derived.ChangeOld
import Derived.Below
import Derived.SizedLaws
import Derived.Test.YtjdahineeoofiaaWSized
set_option linter.unusedVariables false
set_option linter.unusedSimpArgs false
namespace Go.Proofs.Ytjdahineeoofiaa.PrintWords
/-- The name by which the row finds the word on a slice's weight. -/
theorem sized_ints {H : Type} {enc : TypeId × Value → H} {P : Program} {W : World} {base : Nat} {spare : Nat → Bool} {held : Bool} {t e : TypeId} {k : IntKind} {a : Option Addr} {len cap : Nat} {d : DataW H} {ps : List MemPlace} {ts : List TypeId} {ds : List (DataW H)} {j : Nat}
    (hsz : (DataW.weightsEach P ts ds).all (· ≤ reachBytes) = true) (ht : ts[j]? = some t) (hd : ds[j]? = some d) (hu : P.underlying t = some (.slice e)) (he : P.underlying e = some (.int k)) (hc : P.cellsOf e = 1) {B : Nat} (hB : P.bytesOf e = B)
    (h : DataW.Trod enc P W base spare held t (.slice a len cap) d ps) : len * B ≤ 140737488351232 :=
  Go.Proofs.YtjdahineeoofiaaW.PrintWords.sized_ints hsz ht hd hu he hc hB h
end Go.Proofs.Ytjdahineeoofiaa.PrintWords
namespace Go.Proofs.Ytjdahineeoofiaa.G
open Go Go.RowKit Go.Proofs
/-! ## What the functions of fees and of its reference come to -/
theorem wr {x : Int} (h0 : -9223372036854775808 ≤ x) (h1 : x < 9223372036854775808) : IntKind.i64.wrap x = x := by
  simp only [IntKind.wrap, IntKind.bits, IntKind.signed]
  simp
  omega
theorem mod_ok (k : Nat) (v n : Int) (hn : 0 < n) (hb : n < 4611686018427387904) : ∃ r, mill_Mod.f k v n = some r ∧ 0 ≤ r ∧ r < n := by
  have h1 := Int.tmod_lt_of_pos v hn
  have h2 : -n < v.tmod n := by
    have := Int.tmod_lt_of_pos (-v) hn
    rw [Int.neg_tmod] at this
    omega
  unfold mill_Mod.f
  rw [if_pos (by omega)]
  by_cases h : v.tmod n < 0
  · refine ⟨v.tmod n + n, ?_, by omega, by omega⟩
    rw [if_pos (by simpa using h), wr (by omega) (by omega)]; rfl
  · refine ⟨v.tmod n, ?_, by omega, by omega⟩
    rw [if_neg (by simpa using h)]; rfl
theorem rate_eq (k k' : Nat) (f w : Int) : ∃ r, fees_Rate.f k f w = some r ∧ ref33_Rate.f k' f w = some r := by
  unfold fees_Rate.f ref33_Rate.f ref33_in.f
  by_cases h1 : f < 0
  · exact ⟨0, by simp [h1], by simp [h1]⟩
  by_cases h2 : f > 2100000000000000
  · exact ⟨0, by simp [h1, h2], by simp [h1, h2]⟩
  by_cases h3 : w < 1
  · exact ⟨0, by simp [h1, h2, h3], by simp [h1, h2, show ¬ 1 ≤ w by omega]⟩
  by_cases h4 : w > 80000
  · exact ⟨0, by simp [h1, h2, h3, h4], by simp [h1, h2, show 1 ≤ w by omega, show ¬ w ≤ 80000 by omega]⟩
  have h5 : ¬ w = 0 := by omega
  have h6 : 1 ≤ w := by omega
  have h7 : w ≤ 80000 := by omega
  exact ⟨if 1048576 < IntKind.i64.wrap ((IntKind.i64.wrap (1000 * f)).tdiv w) then 1048576 else IntKind.i64.wrap ((IntKind.i64.wrap (1000 * f)).tdiv w), by simp [h1, h2, h3, h4, h5], by simp [h1, h2, h5, h6, h7]⟩
def B : Vector Int 24 := (fees_bounds.f 30).getD (Vector.replicate 24 0)
theorem bounds_ok (k : Nat) : fees_bounds.f (k + 25) = some B := by kernel_rfl
theorem bound_in (k k' : Nat) (c : Int) (h0 : 0 ≤ c) (h1 : c < 24) : fees_Bound.f (k + 25) c = some (vg B c) ∧ ref33_Bound.f (k' + 25) c = some (vg B c) := by
  have : c = 0 ∨ c = 1 ∨ c = 2 ∨ c = 3 ∨ c = 4 ∨ c = 5 ∨ c = 6 ∨ c = 7 ∨ c = 8 ∨ c = 9 ∨ c = 10 ∨ c = 11 ∨ c = 12 ∨ c = 13 ∨ c = 14 ∨ c = 15 ∨ c = 16 ∨ c = 17 ∨ c = 18 ∨ c = 19 ∨ c = 20 ∨ c = 21 ∨ c = 22 ∨ c = 23 := by omega
  rcases this with rfl | rfl | rfl | rfl | rfl | rfl | rfl | rfl | rfl | rfl | rfl | rfl | rfl | rfl | rfl | rfl | rfl | rfl | rfl | rfl | rfl | rfl | rfl | rfl <;> exact ⟨by kernel_rfl, by kernel_rfl⟩
theorem bound_eq (k k' : Nat) (c : Int) : ∃ r, fees_Bound.f (k + 25) c = some r ∧ ref33_Bound.f (k' + 25) c = some r := by
  by_cases h0 : 0 ≤ c
  · by_cases h1 : c < 24
    · exact ⟨_, bound_in k k' c h0 h1⟩
    · have h2 : ¬ c < 0 := by omega
      have h3 : ¬ c ≤ 23 := by omega
      have h4 : 24 ≤ c := by omega
      exact ⟨0, by simp [fees_Bound.f, h2, h4], by simp [ref33_Bound.f, ref33_in.f, h0, h3]⟩
  · have h2 : c < 0 := by omega
    exact ⟨0, by simp [fees_Bound.f, h2], by simp [ref33_Bound.f, ref33_in.f, h0]⟩
theorem class_l (r : Int) : ∀ (m : Nat) (k k' : Nat) (c out : Int), 0 ≤ c → c ≤ 24 → 24 - c ≤ m → ∃ s, fees_Class.l0 r B (k + m + 1) out c = some s ∧ ref33_Class.l0 r (k' + 25 + m + 1) out c = some s
  | 0, k, k', c, out, h0, h1, h2 => by
    have h3 : ¬ c < 24 := by omega
    exact ⟨out, by simp [fees_Class.l0, h3], by simp [ref33_Class.l0, h3]⟩
  | m + 1, k, k', c, out, h0, h1, h2 => by
    by_cases h3 : c < 24
    · have hw : IntKind.i64.wrap (c + 1) = c + 1 := wr (by omega) (by omega)
      obtain ⟨s, e1, e2⟩ := class_l r m k k' (c + 1) (if vg B c ≤ r then c else out) (by omega) (by omega) (by omega)
      refine ⟨s, ?_, ?_⟩
      · rw [fees_Class.l0, if_pos (by simpa using h3), if_pos ⟨h0, h3⟩, hw, ← e1]
        by_cases h4 : vg B c ≤ r <;> simp [h4] <;> rfl
      · rw [ref33_Class.l0, if_pos (by simpa using h3), show k' + 25 + (m + 1) = (k' + (m + 1)) + 25 by omega, (bound_in 0 (k' + (m + 1)) c h0 h3).2, hw, ← e2, show k' + 25 + m + 1 = k' + (m + 1) + 25 by omega]
        by_cases h4 : vg B c ≤ r <;> simp [h4]
    · exact ⟨out, by simp [fees_Class.l0, h3], by simp [ref33_Class.l0, h3]⟩
theorem class_eq (k k' : Nat) (r : Int) : ∃ s, fees_Class.f (k + 25) r = some s ∧ ref33_Class.f (k' + 50) r = some s := by
  obtain ⟨s, e1, e2⟩ := class_l r 24 k k' 0 (-1) (by omega) (by omega) (by omega)
  refine ⟨s, ?_, ?_⟩
  · rw [fees_Class.f, bounds_ok]
    show (Option.bind (fees_Class.l0 r B (k + 24 + 1) (-1) 0) _) = _
    rw [e1]; rfl
  · rw [ref33_Class.f]
    show (Option.bind (ref33_Class.l0 r (k' + 25 + 24 + 1) (-1) 0) _) = _
    rw [e2]; rfl
theorem sane_ok (k : Nat) : law33_sane.f (k + 25) = some true := by kernel_rfl

theorem classes_l0 (a b c x y : Int) (k : Nat) : law33_FeesClasses.l0 a b c x y (k + 4) 0 = some (.go ()) := by
  have one : ∀ (k : Nat) (t : Int), 0 ≤ t → t < 3 → law33_FeesClasses.l0 a b c x y (k + 1) t = law33_FeesClasses.l0 a b c x y k (t + 1) := by
    intro k t h0 h1
    rw [law33_FeesClasses.l0, if_pos (by simpa using h1), if_pos ⟨h0, by simpa using h1⟩, wr (x := t + 1) (by omega) (by omega)]
    obtain ⟨r, e1, e2⟩ := rate_eq k k b ([c, x, IntKind.i64.wrap (80000 + y)].getD t.toNat 0)
    obtain ⟨m, em, _⟩ := mod_ok k a 100000 (by omega) (by omega)
    obtain ⟨r', e3, e4⟩ := rate_eq k k m ([c, x, IntKind.i64.wrap (80000 + y)].getD t.toNat 0)
    simp only [e1, e2, em, e3, e4, Option.bind_some, bne_self_eq_false, Bool.false_eq_true, if_false]
  rw [one _ 0 (by omega) (by omega), one _ (0 + 1) (by omega) (by omega), one _ (0 + 1 + 1) (by omega) (by omega), law33_FeesClasses.l0, if_neg (by decide)]
theorem classes_l1 (a x : Int) (k : Nat) : law33_FeesClasses.l1 a x (k + 53) 0 = some (.go ()) := by
  have one : ∀ (k : Nat) (t : Int), 0 ≤ t → t < 2 → law33_FeesClasses.l1 a x (k + 51) t = law33_FeesClasses.l1 a x (k + 50) (t + 1) := by
    intro k t h0 h1
    rw [law33_FeesClasses.l1, if_pos (by simpa using h1), if_pos ⟨h0, by simpa using h1⟩, wr (x := t + 1) (by omega) (by omega)]
    obtain ⟨r, e1, e2⟩ := bound_eq (k + 25) (k + 25) ([a, IntKind.i64.wrap (x - 1)].getD t.toNat 0)
    obtain ⟨s, e3, e4⟩ := class_eq (k + 25) k r
    obtain ⟨s', e5, e6⟩ := class_eq (k + 25) k (IntKind.i64.wrap (r - 1))
    simp only [Nat.add_assoc, Nat.reduceAdd] at e1 e2 e3 e4 e5 e6
    simp only [e1, e2, e3, e4, e5, e6, Option.bind_some, bne_self_eq_false, Bool.false_eq_true, if_false]
  rw [one (k + 2) 0 (by omega) (by omega), show k + 2 + 50 = k + 1 + 51 by omega, one (k + 1) (0 + 1) (by omega) (by omega), show k + 1 + 50 = (k + 50) + 1 by omega, law33_FeesClasses.l1, if_neg (by decide)]
theorem classes_true (a b c d : Int) : law33_FeesClasses.f 60 a b c d = some true := by
  obtain ⟨m1, e1, _⟩ := mod_ok 60 d 5000 (by omega) (by omega)
  obtain ⟨m2, e2, _⟩ := mod_ok 60 d 2 (by omega) (by omega)
  obtain ⟨m3, e3, _⟩ := mod_ok 60 a 26 (by omega) (by omega)
  obtain ⟨m4, e4, _⟩ := mod_ok 60 b 200000 (by omega) (by omega)
  obtain ⟨s, e5, e6⟩ := class_eq 35 10 b
  obtain ⟨s', e7, e8⟩ := class_eq 35 10 m4
  simp only [Nat.reduceAdd] at e5 e6 e7 e8
  rw [law33_FeesClasses.f, sane_ok 35]
  simp only [Option.bind_some, Bool.not_true, Bool.false_eq_true, if_false, e1, e2, classes_l0 b c d m1 m2 56, e3, classes_l1 a m3 7, e5, e6, e4, e7, e8, beq_self_eq_true, if_true]
end Go.Proofs.Ytjdahineeoofiaa.G
namespace Go.Proofs.Ytjdahineeoofiaa.feesClasses
open Go Go.ChangeShapes Go.WideShapes Go.ChangeAt Go.RowKit
open Go.ChangeMaps (open_string shut_string)
theorem own : ownKnob Try.prog.godebug = none := by kernel_rfl
theorem laidOut : laidOutB Try.prog = true := by kernel_rfl
set_option maxRecDepth 100000 in
theorem lifted (os : Os) (started : os.Started) (H : Type) (enc : TypeId × Value → H) :
    ReturnsInHanded {} Try.checked os 3 .any (Rows.feesClassesSpec.pre6 enc Try.prog Try.f3 Rows.feesClassesRow.domain false) (Rows.feesClassesSpec.post enc Try.prog Try.f3 false true false false) := by
  refine returnsInHanded_of_change_sized (C := Try.checked) own started (by kernel_rfl) Try.func3
    (ChangeSpec.witness6 (enc := enc) (C := Try.checked) false ⟨#[], #[.int .i64 0, .int .i64 0, .int .i64 0, .int .i64 0], []⟩ 8 (by kernel_rfl) (by kernel_rfl) (by kernel_rfl) (by kernel_rfl)) ?_
  intro W base args ds gs before hval0 hW hcnd hsz0 _
  have hsz : (DataW.weightsEach Try.prog (Try.f3.params.toList ++ Rows.feesClassesSpec.plain.varTypes Try.prog) (ds ++ gs)).all (· ≤ reachBytes) = true := hsz0
  have hval : ∀ (j : Nat) t v, Try.f3.params[j]? = some t → args[j]? = some v → Value.okWide Try.prog W .any base t v := hval0
  have hW' := hW
  obtain ⟨p, q, hA0, hV, rfl, hfz, hnd⟩ := hW
  have hA : DataW.TrodAll enc Try.prog W 0 (fun _ => true) true Try.f3.params.toList args.toList ds p := hA0
  rw [Try.params3] at hA hval hsz
  obtain ⟨v0, vs0, d0, ds0, p0, q0, hargs, rfl, rfl, h0, r0⟩ := trodAll_cons hA
  obtain ⟨v1, vs1, d1, ds1, p1, q1, rfl, rfl, rfl, h1, r1⟩ := trodAll_cons r0
  obtain ⟨v2, vs2, d2, ds2, p2, q2, rfl, rfl, rfl, h2, r2⟩ := trodAll_cons r1
  obtain ⟨v3, vs3, d3, ds3, p3, q3, rfl, rfl, rfl, h3, r3⟩ := trodAll_cons r2
  obtain ⟨rfl, rfl, rfl⟩ := trodAll_nil r3
  obtain rfl : args = #[v0, v1, v2, v3] := by cases args; simp_all
  obtain ⟨rfl, rfl⟩ := trodVars_none hV
  obtain ⟨a0, rfl, rfl, rfl, w0⟩ := open_int Try.underlying3 (hval 0 3 v0 rfl rfl) h0
  obtain ⟨a1, rfl, rfl, rfl, w1⟩ := open_int Try.underlying3 (hval 1 3 v1 rfl rfl) h1
  obtain ⟨a2, rfl, rfl, rfl, w2⟩ := open_int Try.underlying2 (hval 2 2 v2 rfl rfl) h2
  obtain ⟨a3, rfl, rfl, rfl, w3⟩ := open_int Try.underlying3 (hval 3 3 v3 rfl rfl) h3
  clear hA0 hval0 hsz0 hsz
  refine (G.law33_FeesClasses.calls 60 a0 a1 a2 a3  true W  (G.classes_true a0 a1 a2 a3)).mono fun e W' he => ?_
  obtain ⟨v, rfl, rfl, bel⟩ := he
  exact ⟨_, rfl, _, _, _, [], _, [], hW', trodAll_mk1 (shut_bool Try.underlying4 _), (trodAll_cons_mk (shut_int Try.underlying3 w0) (trodAll_cons_mk (shut_int Try.underlying3 w1) (trodAll_cons_mk (shut_int Try.underlying2 w2) (trodAll_cons_mk (shut_int Try.underlying3 w3) trodAll_mk0)))), rfl, bel.frame _, fun h => by cases h⟩
theorem over : Rows.feesClassesRow.holds Try.pinned (OpenSpec.ofChange Rows.feesClassesSpec) :=
  OpenClaim.holds_of_wide 3 Try.f3 rfl rfl rfl rfl rfl rfl rfl ⟨rfl, rfl, rfl, rfl, rfl⟩ rfl rfl rfl rfl rfl (by kernel_rfl) Try.func3 (by kernel_rfl)
    (of_decide_eq_true (by kernel_rfl)) (by unfold Func.isWrapper; first | (rw [if_pos (by decide +kernel)]; kernel_rfl) | (rw [if_neg (by decide +kernel)]; exact ⟨rfl, rfl⟩))
    (fun os started H enc _ => lifted os started H enc)
theorem proved : Rows.FeesClassesSaid := over
#print axioms proved
end Go.Proofs.Ytjdahineeoofiaa.feesClasses
namespace Go.Proofs.Ytjdahineeoofiaa
/-- The row, under a short name, for the claim. -/
theorem feesClasses_holds : Rows.FeesClassesSaid := feesClasses.proved
end Go.Proofs.Ytjdahineeoofiaa
