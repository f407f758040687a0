/- For every list of numbers and all settings the estimate does not depend on the samples' order, does not rise if fewer have to be within, and is the bound of its class: the law returns true. Conditions: none beyond the statement's own. -/
import Derived.Test.YtjdahineeoofiaaRows
import Derived.Test.YtjdahineeoofiaaFFeesOrder
import Derived.WalkKit
import Derived.ProofKit
import Derived.OpenShut
import Derived.ShutString
import Derived.ChangeOld
import Derived.Below
import Derived.SizedLaws
import Derived.Test.YtjdahineeoofiaaWSized
set_option linter.unusedVariables false
set_option linter.unusedSimpArgs false
namespace Go.Proofs.Ytjdahineeoofiaa.PrintWords
/-- The name by which the row finds the word on a slice's weight. -/
theorem sized_ints {H : Type} {enc : TypeId × Value → H} {P : Program} {W : World} {base : Nat} {spare : Nat → Bool} {held : Bool} {t e : TypeId} {k : IntKind} {a : Option Addr} {len cap : Nat} {d : DataW H} {ps : List MemPlace} {ts : List TypeId} {ds : List (DataW H)} {j : Nat}
    (hsz : (DataW.weightsEach P ts ds).all (· ≤ reachBytes) = true) (ht : ts[j]? = some t) (hd : ds[j]? = some d) (hu : P.underlying t = some (.slice e)) (he : P.underlying e = some (.int k)) (hc : P.cellsOf e = 1) {B : Nat} (hB : P.bytesOf e = B)
    (h : DataW.Trod enc P W base spare held t (.slice a len cap) d ps) : len * B ≤ 140737488351232 :=
  Go.Proofs.YtjdahineeoofiaaW.PrintWords.sized_ints hsz ht hd hu he hc hB h
end Go.Proofs.Ytjdahineeoofiaa.PrintWords
namespace Go.Proofs.Ytjdahineeoofiaa.G
open Go Go.RowKit Go.Proofs
/-! ## What the functions of fees and of its reference come to -/
theorem wr {x : Int} (h0 : -9223372036854775808 ≤ x) (h1 : x < 9223372036854775808) : IntKind.i64.wrap x = x := by
  simp only [IntKind.wrap, IntKind.bits, IntKind.signed]
  simp
  omega
theorem mod_ok (k : Nat) (v n : Int) (hn : 0 < n) (hb : n < 4611686018427387904) : ∃ r, mill_Mod.f k v n = some r ∧ 0 ≤ r ∧ r < n := by
  have h1 := Int.tmod_lt_of_pos v hn
  have h2 : -n < v.tmod n := by
    have := Int.tmod_lt_of_pos (-v) hn
    rw [Int.neg_tmod] at this
    omega
  unfold mill_Mod.f
  rw [if_pos (by omega)]
  by_cases h : v.tmod n < 0
  · refine ⟨v.tmod n + n, ?_, by omega, by omega⟩
    rw [if_pos (by simpa using h), wr (by omega) (by omega)]; rfl
  · refine ⟨v.tmod n, ?_, by omega, by omega⟩
    rw [if_neg (by simpa using h)]; rfl
def B : Vector Int 24 := (fees_bounds.f 30).getD (Vector.replicate 24 0)
theorem bounds_ok (k : Nat) : fees_bounds.f (k + 25) = some B := by kernel_rfl
theorem bound_in (k k' : Nat) (c : Int) (h0 : 0 ≤ c) (h1 : c < 24) : fees_Bound.f (k + 25) c = some (vg B c) ∧ ref33_Bound.f (k' + 25) c = some (vg B c) := by
  have : c = 0 ∨ c = 1 ∨ c = 2 ∨ c = 3 ∨ c = 4 ∨ c = 5 ∨ c = 6 ∨ c = 7 ∨ c = 8 ∨ c = 9 ∨ c = 10 ∨ c = 11 ∨ c = 12 ∨ c = 13 ∨ c = 14 ∨ c = 15 ∨ c = 16 ∨ c = 17 ∨ c = 18 ∨ c = 19 ∨ c = 20 ∨ c = 21 ∨ c = 22 ∨ c = 23 := by omega
  rcases this with rfl | rfl | rfl | rfl | rfl | rfl | rfl | rfl | rfl | rfl | rfl | rfl | rfl | rfl | rfl | rfl | rfl | rfl | rfl | rfl | rfl | rfl | rfl | rfl <;> exact ⟨by kernel_rfl, by kernel_rfl⟩
theorem bound_in' (k : Nat) (c : Int) (h0 : 0 ≤ c) (h1 : c < 24) : fees_Bound.f (k + 25) c = some (vg B c) := (bound_in k k c h0 h1).1
theorem bound_eq (k k' : Nat) (c : Int) : ∃ r, fees_Bound.f (k + 25) c = some r ∧ ref33_Bound.f (k' + 25) c = some r := by
  by_cases h0 : 0 ≤ c
  · by_cases h1 : c < 24
    · exact ⟨_, bound_in k k' c h0 h1⟩
    · have h2 : ¬ c < 0 := by omega
      have h3 : ¬ c ≤ 23 := by omega
      have h4 : 24 ≤ c := by omega
      exact ⟨0, by simp [fees_Bound.f, h2, h4], by simp [ref33_Bound.f, ref33_in.f, h0, h3]⟩
  · have h2 : c < 0 := by omega
    exact ⟨0, by simp [fees_Bound.f, h2], by simp [ref33_Bound.f, ref33_in.f, h0]⟩
theorem class_l (r : Int) : ∀ (m : Nat) (k k' : Nat) (c out : Int), 0 ≤ c → c ≤ 24 → 24 - c ≤ m → ∃ s, fees_Class.l0 r B (k + m + 1) out c = some s ∧ ref33_Class.l0 r (k' + 25 + m + 1) out c = some s
  | 0, k, k', c, out, h0, h1, h2 => by
    have h3 : ¬ c < 24 := by omega
    exact ⟨out, by simp [fees_Class.l0, h3], by simp [ref33_Class.l0, h3]⟩
  | m + 1, k, k', c, out, h0, h1, h2 => by
    by_cases h3 : c < 24
    · have hw : IntKind.i64.wrap (c + 1) = c + 1 := wr (by omega) (by omega)
      obtain ⟨s, e1, e2⟩ := class_l r m k k' (c + 1) (if vg B c ≤ r then c else out) (by omega) (by omega) (by omega)
      refine ⟨s, ?_, ?_⟩
      · rw [fees_Class.l0, if_pos (by simpa using h3), if_pos ⟨h0, h3⟩, hw, ← e1]
        by_cases h4 : vg B c ≤ r <;> simp [h4] <;> rfl
      · rw [ref33_Class.l0, if_pos (by simpa using h3), show k' + 25 + (m + 1) = (k' + (m + 1)) + 25 by omega, (bound_in 0 (k' + (m + 1)) c h0 h3).2, hw, ← e2, show k' + 25 + m + 1 = k' + (m + 1) + 25 by omega]
        by_cases h4 : vg B c ≤ r <;> simp [h4]
    · exact ⟨out, by simp [fees_Class.l0, h3], by simp [ref33_Class.l0, h3]⟩
theorem class_eq (k k' : Nat) (r : Int) : ∃ s, fees_Class.f (k + 25) r = some s ∧ ref33_Class.f (k' + 50) r = some s := by
  obtain ⟨s, e1, e2⟩ := class_l r 24 k k' 0 (-1) (by omega) (by omega) (by omega)
  refine ⟨s, ?_, ?_⟩
  · rw [fees_Class.f, bounds_ok]
    show (Option.bind (fees_Class.l0 r B (k + 24 + 1) (-1) 0) _) = _
    rw [e1]; rfl
  · rw [ref33_Class.f]
    show (Option.bind (ref33_Class.l0 r (k' + 25 + 24 + 1) (-1) 0) _) = _
    rw [e2]; rfl
theorem sane_ok (k : Nat) : law33_sane.f (k + 25) = some true := by kernel_rfl

/-! ## The deck and the samples -/
abbrev small : Int := 17592186044416
theorem left_ok (k : Nat) (L : List Int) (p : Int) : mill_Deck_Left.f k L p = some (decide (p < (L.length : Int)), p) := rfl
theorem next_ok (k : Nat) (L : List Int) (hL : (L.length : Int) ≤ small) (p : Int) (h0 : 0 ≤ p) (h1 : p ≤ (L.length : Int)) (n : Int) (hn : 0 < n) (hb : n < 4611686018427387904) :
    ∃ v q, mill_Deck_Next.f k L p n = some (v, q) ∧ 0 ≤ v ∧ v < n ∧ 0 ≤ q ∧ q ≤ (L.length : Int) := by
  unfold small at hL
  unfold mill_Deck_Next.f
  rw [left_ok, Option.bind_some]
  by_cases h : p < (L.length : Int)
  · have e1 : IntKind.i64.wrap (p + 1) = p + 1 := wr (by omega) (by omega)
    have e2 : IntKind.i64.wrap (p + 1 - 1) = p := by rw [wr (by omega) (by omega)]; omega
    obtain ⟨v, ev, hv0, hv1⟩ := mod_ok k (L.getD p.toNat 0) n hn hb
    refine ⟨v, p + 1, ?_, hv0, hv1, by omega, by omega⟩
    simp only [e1, e2, h, decide_true, Bool.not_true, Bool.false_eq_true, if_false, h0, and_self, if_true, ev, Option.bind_some]
  · exact ⟨0, p, by simp [h], by omega, hn, h0, h1⟩
theorem hash_ok (k : Nat) (L : List Int) (hL : (L.length : Int) ≤ small) (p : Int) (h0 : 0 ≤ p) (h1 : p ≤ (L.length : Int)) :
    ∃ v q, mill_Hash.f k L p = some (v, q) ∧ 0 ≤ q ∧ q ≤ (L.length : Int) := by
  unfold mill_Hash.f
  obtain ⟨v, q, e, _, _, a, b⟩ := next_ok k L hL p h0 h1 5 (by omega) (by omega)
  obtain ⟨v', q', e', _, _, a', b'⟩ := next_ok k L hL q a b 7 (by omega) (by omega)
  simp only [e, e', Option.bind_some]
  exact ⟨_, _, rfl, a', b'⟩
theorem hashes_l (L : List Int) (hL : (L.length : Int) ≤ small) : ∀ (m k : Nat) (out : List (Vector Int 32)) (p : Int), 0 ≤ p → p ≤ (L.length : Int) → m ≤ 100 → out.length + m ≤ 100 →
    ∃ hs q, mill_Hashes.l0 L (k + m + 1) out (m : Int) p = some (hs, q) ∧ 0 ≤ q ∧ q ≤ (L.length : Int) ∧ hs.length = out.length + m
  | 0, k, out, p, h0, h1, _, _ => ⟨out, p, by simp [mill_Hashes.l0], h0, h1, by omega⟩
  | m + 1, k, out, p, h0, h1, hm, ho => by
    obtain ⟨v, q, e, a, b⟩ := hash_ok (k + (m + 1)) L hL p h0 h1
    obtain ⟨hs, q', e', a', b', hl⟩ := hashes_l L hL m k (out ++ [v]) q a b (by omega) (by simp; omega)
    refine ⟨hs, q', ?_, a', b', by rw [hl]; simp; omega⟩
    rw [mill_Hashes.l0, if_pos (by simp), e, Option.bind_some, if_pos (by simp; omega), ← e']
    congr 1
    rw [wr (by omega) (by omega)]
    omega
theorem hashes_ok (k : Nat) (L : List Int) (hL : (L.length : Int) ≤ small) (p : Int) (h0 : 0 ≤ p) (h1 : p ≤ (L.length : Int)) (n : Int) (hn : 0 ≤ n) (hb : n ≤ 20) :
    ∃ hs q, mill_Hashes.f (k + 30) L p n = some (hs, q) ∧ 0 ≤ q ∧ q ≤ (L.length : Int) ∧ hs.length ≤ 20 := by
  unfold mill_Hashes.f
  obtain ⟨v, q, e, v0, v1, a, b⟩ := next_ok (k + 30) L hL p h0 h1 (n + 1) (by omega) (by omega)
  obtain ⟨hs, q', e', a', b', hl⟩ := hashes_l L hL v.toNat (k + 29 - v.toNat) [] q a b (by omega) (by simp; omega)
  rw [show k + 29 - v.toNat + v.toNat + 1 = k + 30 by omega, show ((v.toNat : Nat) : Int) = v by omega] at e'
  refine ⟨hs, q', ?_, a', b', by rw [hl]; simp; omega⟩
  simp only [wr (x := n + 1) (by omega) (by omega), e, Option.bind_some, e']
theorem confirm_l1 (ids : List (Vector Int 32)) (h i : Int) : ∀ (m k : Nat) (out : List Sample) (t : Int), 0 ≤ t → t ≤ (ids.length : Int) → (ids.length : Int) - t ≤ m → ids.length ≤ 1000 → 0 ≤ i → i < (out.length : Int) →
    ∃ o, ref33_Confirm.l1 ids h i (k + m + 1) out t = some o ∧ o.length = out.length
  | 0, k, out, t, h0, h1, h2, h3, _, _ => ⟨out, by simp only [ref33_Confirm.l1]; rw [if_neg (by simp; omega)], rfl⟩
  | m + 1, k, out, t, h0, h1, h2, h3, hi0, hi1 => by
    by_cases ht : t < (ids.length : Int)
    · have hw : IntKind.i64.wrap (t + 1) = t + 1 := wr (by omega) (by omega)
      have key : ∃ b, (if 0 ≤ i ∧ i < (out.length : Int) then (if 0 ≤ t ∧ t < (ids.length : Int) then (if (((out.getD i.toNat Sample.z).ID) == (ids.getD t.toNat (Vector.replicate 32 0 : Vector Int 32))) = true then (if 0 ≤ i ∧ i < (out.length : Int) then (if (((out.getD i.toNat Sample.z).Confirmed) == 0) = true then (if 0 ≤ i ∧ i < (out.length : Int) then (some (decide (((out.getD i.toNat Sample.z).Seen) < h))) else none) else (some false)) else none) else (some false)) else none) else none) = some b := by
        simp only [hi0, hi1, h0, ht, and_self, if_true]
        split
        · split
          · exact ⟨_, rfl⟩
          · exact ⟨_, rfl⟩
        · exact ⟨_, rfl⟩
      obtain ⟨b, eb⟩ := key
      cases b with
      | true =>
        obtain ⟨o, eo, hl⟩ := confirm_l1 ids h i m k (out.set i.toNat ({ out.getD i.toNat Sample.z with Confirmed := h })) (t + 1) (by omega) (by omega) (by omega) h3 hi0 (by simpa using hi1)
        refine ⟨o, ?_, by rw [hl, List.length_set]⟩
        rw [ref33_Confirm.l1, if_pos (by simpa using ht), eb, Option.bind_some, if_pos rfl, if_pos ⟨hi0, hi1⟩, Option.bind_some, hw]
        exact eo
      | false =>
        obtain ⟨o, eo, hl⟩ := confirm_l1 ids h i m k out (t + 1) (by omega) (by omega) (by omega) h3 hi0 hi1
        refine ⟨o, ?_, hl⟩
        rw [ref33_Confirm.l1, if_pos (by simpa using ht), eb, Option.bind_some, if_neg Bool.false_ne_true, Option.bind_some, hw]
        exact eo
    · exact ⟨out, by simp only [ref33_Confirm.l1]; rw [if_neg (by simpa using ht)], rfl⟩
theorem confirm_l0 (ids : List (Vector Int 32)) (h : Int) (hids : ids.length ≤ 20) : ∀ (m k : Nat) (out : List Sample) (i : Int), 0 ≤ i → i ≤ (out.length : Int) → (out.length : Int) - i ≤ m → out.length ≤ 1000 →
    ∃ o, ref33_Confirm.l0 ids h (k + 25 + m + 1) out i = some o ∧ o.length = out.length
  | 0, k, out, i, h0, h1, h2, h3 => ⟨out, by simp only [ref33_Confirm.l0]; rw [if_neg (by simp; omega)], rfl⟩
  | m + 1, k, out, i, h0, h1, h2, h3 => by
    by_cases hi : i < (out.length : Int)
    · obtain ⟨o1, e1, l1⟩ := confirm_l1 ids h i 20 (k + 4 + (m + 1)) out 0 (by omega) (by omega) (by omega) (by omega) h0 hi
      obtain ⟨o2, e2, l2⟩ := confirm_l0 ids h hids m k o1 (i + 1) (by omega) (by omega) (by omega) (by omega)
      refine ⟨o2, ?_, by rw [l2, l1]⟩
      rw [ref33_Confirm.l0, if_pos (by simpa using hi), show k + 25 + (m + 1) = k + 4 + (m + 1) + 20 + 1 by omega, e1, Option.bind_some, wr (by omega) (by omega), ← e2]
      congr 1
      omega
    · exact ⟨out, by simp only [ref33_Confirm.l0]; rw [if_neg (by simpa using hi)], rfl⟩
theorem confirm_ok (k : Nat) (l : List Sample) (ids : List (Vector Int 32)) (h : Int) (hids : ids.length ≤ 20) (hl : l.length ≤ 100) : ∃ o, ref33_Confirm.f (k + 130) l ids h = some o ∧ o.length = l.length := by
  obtain ⟨o, e, ho⟩ := confirm_l0 ids h hids 100 (k + 4) l 0 (by omega) (by omega) (by omega) (by omega)
  refine ⟨o, ?_, ho⟩
  rw [ref33_Confirm.f, if_pos (by simp; omega), List.nil_append, show k + 130 = k + 4 + 25 + 100 + 1 by omega, e]
  rfl
theorem find_l (l : List Sample) (id : Vector Int 32) : ∀ (m k : Nat) (i : Int), 0 ≤ i → i ≤ (l.length : Int) → (l.length : Int) - i ≤ m → l.length ≤ 1000 → ∃ o, ref33_find.l0 l id (k + m + 1) i = some o
  | 0, k, i, h0, h1, h2, h3 => ⟨_, by simp only [ref33_find.l0]; rw [if_neg (by simp; omega)]⟩
  | m + 1, k, i, h0, h1, h2, h3 => by
    by_cases hi : i < (l.length : Int)
    · obtain ⟨o, e⟩ := find_l l id m k (i + 1) (by omega) (by omega) (by omega) h3
      by_cases hb : ((l.getD i.toNat Sample.z).ID == id) = true
      · exact ⟨_, by rw [ref33_find.l0, if_pos (by simpa using hi), if_pos ⟨h0, hi⟩, if_pos hb]⟩
      · refine ⟨o, ?_⟩
        rw [ref33_find.l0, if_pos (by simpa using hi), if_pos ⟨h0, hi⟩, if_neg hb, wr (by omega) (by omega)]
        exact e
    · exact ⟨_, by simp only [ref33_find.l0]; rw [if_neg (by simpa using hi)]⟩
theorem find_ok (k : Nat) (l : List Sample) (id : Vector Int 32) (hl : l.length ≤ 100) : ∃ r, ref33_find.f (k + 130) l id = some r := by
  obtain ⟨o, e⟩ := find_l l id 100 (k + 29) 0 (by omega) (by omega) (by omega) (by omega)
  rw [ref33_find.f, show k + 130 = k + 29 + 100 + 1 by omega, e, Option.bind_some]
  cases o <;> exact ⟨_, rfl⟩
theorem in_ok (k : Nat) (n a b : Int) : ref33_in.f k n a b = some (decide (n ≥ a) && decide (n ≤ b)) := by
  unfold ref33_in.f
  by_cases h : n ≥ a <;> simp [h]
theorem observe_ok (k : Nat) (l : List Sample) (id : Vector Int 32) (r h : Int) (hl : l.length ≤ 100) : ∃ o e, ref33_Observe.f (k + 130) l id r h = some (o, e) ∧ (o = [] ∨ o.length = l.length + 1) := by
  obtain ⟨c, _, ec⟩ := class_eq 0 (k + 80) r
  obtain ⟨f, ef⟩ := find_ok k l id hl
  have hlen : ((l.length : Int) ≥ 2048) = False := by simp; omega
  have h1 : (l.length + 1) * 56 ≤ 140737488355328 := by omega
  have h2 : l.length * 56 ≤ 140737488355328 := by omega
  unfold ref33_Observe.f
  simp only [show k + 130 = k + 80 + 50 by omega] at ef ⊢
  simp only [ec, Option.bind_some, in_ok, ef, List.nil_append, List.length_nil, Nat.zero_add, List.length_singleton, h1, h2, if_true, hlen, decide_false, Bool.false_eq_true, if_false]
  by_cases a : c < 0
  · simp [a]
  · simp only [a, decide_false, Bool.false_eq_true, if_false, Option.bind_some]
    split
    · exact ⟨_, _, rfl, .inl rfl⟩
    · split
      · exact ⟨_, _, rfl, .inl rfl⟩
      · exact ⟨_, _, rfl, .inr (by simp)⟩
theorem samples_l (L : List Int) (hL : (L.length : Int) ≤ small) : ∀ (m k : Nat) (l : List Sample) (p : Int), 0 ≤ p → p ≤ (L.length : Int) → m ≤ 50 → l.length + m ≤ 100 →
    ∃ x q, law33_samples.l0 L (k + 130 + m + 1) l (m : Int) p = some (x, q) ∧ x.length ≤ 100
  | 0, k, l, p, h0, h1, _, hl => ⟨l, p, by simp [law33_samples.l0], by omega⟩
  | m + 1, k, l, p, h0, h1, hm, hl => by
    obtain ⟨v, q, e, _, _, a, b⟩ := next_ok (k + 130 + (m + 1)) L hL p h0 h1 4 (by omega) (by omega)
    have hw : IntKind.i64.wrap (((m + 1 : Nat) : Int) - 1) = (m : Int) := by rw [wr (by omega) (by omega)]; omega
    rw [law33_samples.l0, if_pos (by simp), e, Option.bind_some, hw]
    by_cases hv : (v == 0) = true
    · obtain ⟨hs, q1, e1, a1, b1, l1⟩ := hashes_ok (k + 100 + (m + 1)) L hL q a b 4 (by omega) (by omega)
      obtain ⟨u, q2, e2, _, _, a2, b2⟩ := next_ok (k + 130 + (m + 1)) L hL q1 a1 b1 20 (by omega) (by omega)
      obtain ⟨o, e3, l3⟩ := confirm_ok (k + (m + 1)) l hs (IntKind.i64.wrap (1 + u)) l1 (by omega)
      obtain ⟨x, q', ex, hx⟩ := samples_l L hL m k o q2 a2 b2 (by omega) (by omega)
      refine ⟨x, q', ?_, hx⟩
      rw [show k + 100 + (m + 1) + 30 = k + 130 + (m + 1) by omega] at e1
      rw [show k + (m + 1) + 130 = k + 130 + (m + 1) by omega] at e3
      rw [if_pos hv, e1, Option.bind_some, e2, Option.bind_some, e3]
      simp only [Option.bind_some]
      exact ex
    · obtain ⟨hs, q1, e1, a1, b1⟩ := hash_ok (k + 130 + (m + 1)) L hL q a b
      obtain ⟨u, q2, e2, _, _, a2, b2⟩ := next_ok (k + 130 + (m + 1)) L hL q1 a1 b1 60 (by omega) (by omega)
      obtain ⟨u', q3, e3, _, _, a3, b3⟩ := next_ok (k + 130 + (m + 1)) L hL q2 a2 b2 15 (by omega) (by omega)
      obtain ⟨o, er, e4, l4⟩ := observe_ok (k + (m + 1)) l hs (IntKind.i64.wrap (10 + u)) (IntKind.i64.wrap (1 + u')) (by omega)
      rw [show k + (m + 1) + 130 = k + 130 + (m + 1) by omega] at e4
      rw [if_neg hv, e1, Option.bind_some, e2, Option.bind_some, e3, Option.bind_some, e4]
      simp only [Option.bind_some]
      by_cases he : (er == 0) = true
      · have hol : o.length ≤ l.length + 1 := by rcases l4 with rfl | h <;> simp_all
        obtain ⟨x, q', ex, hx⟩ := samples_l L hL m k o q3 a3 b3 (by omega) (by omega)
        exact ⟨x, q', by rw [if_pos he]; exact ex, hx⟩
      · obtain ⟨x, q', ex, hx⟩ := samples_l L hL m k l q3 a3 b3 (by omega) (by omega)
        exact ⟨x, q', by rw [if_neg he]; exact ex, hx⟩
theorem samples_ok (k : Nat) (L : List Int) (hL : (L.length : Int) ≤ small) : ∃ x q, law33_samples.f (k + 160) L 0 = some (x, q) ∧ x.length ≤ 100 := by
  obtain ⟨v, q, e, v0, v1, a, b⟩ := next_ok (k + 160) L hL 0 (by omega) (by omega) 20 (by omega) (by omega)
  obtain ⟨x, q', ex, hx⟩ := samples_l L hL v.toNat (k + 29 - v.toNat) [] q a b (by omega) (by simp; omega)
  rw [show k + 29 - v.toNat + 130 + v.toNat + 1 = k + 160 by omega, show ((v.toNat : Nat) : Int) = v by omega] at ex
  refine ⟨x, q', ?_, hx⟩
  rw [law33_samples.f, e, Option.bind_some]
  simp only [ex, Option.bind_some]
/-! ## The estimate: a matter of the counts alone; it falls as fewer have to be within -/
theorem perm_swap (l : List Sample) (i j : Nat) (hi : i < l.length) (hj : j < l.length) : ((l.set i (l.getD j Sample.z)).set j (l.getD i Sample.z)).Perm l := by
  have h := Array.swap_perm (xs := l.toArray) (i := i) (j := j) (by simpa using hi) (by simpa using hj)
  have h2 := h.toList
  simp only [Array.toList_swap] at h2
  simpa [List.getD_eq_getElem?_getD, List.getElem?_eq_getElem hi, List.getElem?_eq_getElem hj] using h2
def skipS (c b h : Int) (s : Sample) : Bool := if (s.Class != c) = true then true else if decide (s.Confirmed < 1) = true then decide (IntKind.i64.wrap (s.Seen + b) > h) else false
def winS (b : Int) (s : Sample) : Bool := if decide (s.Confirmed ≥ 1) = true then decide (IntKind.i64.wrap (s.Confirmed - s.Seen) ≤ b) else false
def cntT (l : List Sample) (c b h : Int) : Nat := l.countP fun s => !skipS c b h s
def cntW (l : List Sample) (c b h : Int) : Nat := l.countP fun s => !skipS c b h s && winS b s
theorem cntW_cons (s : Sample) (l : List Sample) (c b h : Int) : cntW (s :: l) c b h = cntW l c b h + if (!skipS c b h s && winS b s) = true then 1 else 0 := List.countP_cons
theorem cntT_cons (s : Sample) (l : List Sample) (c b h : Int) : cntT (s :: l) c b h = cntT l c b h + if (!skipS c b h s) = true then 1 else 0 := List.countP_cons
theorem count_l (l : List Sample) (c b h : Int) (hl : l.length ≤ 1000) : ∀ (m k i : Nat) (a t : Int), i + m = l.length → 0 ≤ a → a ≤ i → 0 ≤ t → t ≤ i →
    fees_Count.l0 l c b h (k + m + 1) a t (i : Int) = some (a + (cntW (l.drop i) c b h : Nat), t + (cntT (l.drop i) c b h : Nat))
  | 0, k, i, a, t, hm, _, _, _, _ => by
    have : l.drop i = [] := List.drop_of_length_le (by omega)
    rw [fees_Count.l0, if_neg (by simp; omega), this]
    simp [cntW, cntT]
  | m + 1, k, i, a, t, hm, a0, a1, t0, t1 => by
    have hi : i < l.length := by omega
    have hd : l.drop i = l[i] :: l.drop (i + 1) := List.drop_eq_getElem_cons hi
    have hg : l.getD i Sample.z = l[i] := by rw [List.getD_eq_getElem?_getD, List.getElem?_eq_getElem hi]; rfl
    have wi : IntKind.i64.wrap ((i : Int) + 1) = ((i + 1 : Nat) : Int) := by rw [wr (by omega) (by omega)]; omega
    have e1 : (if ((l[i].Class) != c) = true then (some true) else (if (decide ((l[i].Confirmed) < 1)) = true then (some (decide ((IntKind.i64.wrap ((l[i].Seen) + b)) > h))) else (some false))) = some (skipS c b h l[i]) := by
      unfold skipS
      split
      · rfl
      · split <;> rfl
    have e2 : (if (decide ((l[i].Confirmed) ≥ 1)) = true then (some (decide ((IntKind.i64.wrap ((l[i].Confirmed) - (l[i].Seen))) ≤ b))) else (some false)) = some (winS b l[i]) := by
      unfold winS
      split <;> rfl
    rw [fees_Count.l0, if_pos (by simpa using hi), if_pos (by omega), Int.toNat_natCast, hg, e1, e2, Option.bind_some, wi]
    simp only [Option.bind_some]
    have wt : IntKind.i64.wrap (t + 1) = t + 1 := wr (by omega) (by omega)
    have wa : IntKind.i64.wrap (a + 1) = a + 1 := wr (by omega) (by omega)
    have eW : cntW (l.drop i) c b h = cntW (l.drop (i + 1)) c b h + if (!skipS c b h l[i] && winS b l[i]) = true then 1 else 0 := by rw [hd, cntW_cons]
    have eT : cntT (l.drop i) c b h = cntT (l.drop (i + 1)) c b h + if (!skipS c b h l[i]) = true then 1 else 0 := by rw [hd, cntT_cons]
    clear hd
    cases hs : skipS c b h l[i] with
    | true =>
      rw [hs] at eW eT
      rw [if_pos rfl, show k + (m + 1) = k + m + 1 by omega, count_l l c b h hl m k (i + 1) a t (by omega) a0 (by omega) t0 (by omega), eW, eT]
      simp
    | false =>
      rw [if_neg Bool.false_ne_true]
      rw [hs] at eW eT
      cases hw : winS b l[i] with
      | true =>
        rw [hw] at eW
        rw [if_pos rfl, Option.bind_some, wa, wt, show k + (m + 1) = k + m + 1 by omega, count_l l c b h hl m k (i + 1) (a + 1) (t + 1) (by omega) (by omega) (by omega) (by omega) (by omega), eW, eT]
        simp
        omega
      | false =>
        rw [hw] at eW
        rw [if_neg Bool.false_ne_true, Option.bind_some, wt, show k + (m + 1) = k + m + 1 by omega, count_l l c b h hl m k (i + 1) a (t + 1) (by omega) a0 (by omega) (by omega) (by omega), eW, eT]
        simp
        omega
theorem count_ok (k : Nat) (l : List Sample) (c b h : Int) (hl : l.length ≤ 100) : fees_Count.f (k + 101) l c b h = some ((cntW l c b h : Int), (cntT l c b h : Int)) := by
  rw [fees_Count.f, show k + 101 = k + (100 - l.length) + l.length + 1 by omega]
  have := count_l l c b h (by omega) l.length (k + (100 - l.length)) 0 0 0 (by omega) (by omega) (by omega) (by omega) (by omega)
  simp only [Int.natCast_zero, List.drop_zero, Int.zero_add] at this
  rw [this]
  rfl
theorem cntW_le (l : List Sample) (c b h : Int) : cntW l c b h ≤ l.length := List.countP_le_length
theorem cntT_le (l : List Sample) (c b h : Int) : cntT l c b h ≤ l.length := List.countP_le_length
/-- the loop of the estimate over counts -/
def est (W T : Nat → Int) (num : Int) : Nat → Int → Int → Int → Int
  | 0, ans, _, _ => ans
  | c + 1, ans, w, t => if t + T c < 2 then est W T num c ans (w + W c) (t + T c)
    else if (w + W c) * 10 < num * (t + T c) then ans
    else est W T num c (vg B c) 0 0
theorem est_ok (l : List Sample) (b num h : Int) (hl : l.length ≤ 100) (hn : 0 ≤ num) (hn2 : num ≤ 10) : ∀ (c k : Nat) (ans w t : Int), c ≤ 24 → 0 ≤ w → w ≤ 100 * (24 - c) → 0 ≤ t → t ≤ 100 * (24 - c) →
    fees_Estimate.l0 l b num 10 2 h (k + 101 + c + 1) ans w t ((c : Int) - 1) = some (est (fun c => (cntW l c b h : Int)) (fun c => (cntT l c b h : Int)) num c ans w t)
  | 0, k, ans, w, t, _, _, _, _, _ => by
    rw [fees_Estimate.l0, if_neg (by decide)]
    rfl
  | c + 1, k, ans, w, t, hc, w0, w1, t0, t1 => by
    have ec : (((c + 1 : Nat) : Int) - 1) = (c : Int) := by omega
    have hW := cntW_le l (c : Int) b h
    have hT := cntT_le l (c : Int) b h
    have hw2 : IntKind.i64.wrap (w + (cntW l (c : Int) b h : Int)) = w + (cntW l (c : Int) b h : Int) := wr (by omega) (by omega)
    have ht2 : IntKind.i64.wrap (t + (cntT l (c : Int) b h : Int)) = t + (cntT l (c : Int) b h : Int) := wr (by omega) (by omega)
    have hw3 : IntKind.i64.wrap ((w + (cntW l (c : Int) b h : Int)) * 10) = (w + (cntW l (c : Int) b h : Int)) * 10 := wr (by omega) (by omega)
    have hm1 : 0 ≤ num * (t + (cntT l (c : Int) b h : Int)) := Int.mul_nonneg hn (by omega)
    have hm2 : num * (t + (cntT l (c : Int) b h : Int)) ≤ 10 * (t + (cntT l (c : Int) b h : Int)) := Int.mul_le_mul_of_nonneg_right hn2 (by omega)
    have ht3 : IntKind.i64.wrap (num * (t + (cntT l (c : Int) b h : Int))) = num * (t + (cntT l (c : Int) b h : Int)) := wr (by omega) (by omega)
    have hc1 : IntKind.i64.wrap ((c : Int) - 1) = (c : Int) - 1 := wr (by omega) (by omega)
    rw [ec, fees_Estimate.l0, if_pos (by simp), show k + 101 + (c + 1) = k + (c + 1) + 101 by omega, count_ok (k + (c + 1)) l c b h hl, Option.bind_some, hw2, ht2, hw3, ht3, hc1, est]
    rw [show k + (c + 1) + 101 = k + 101 + c + 1 by omega]
    by_cases h1 : t + (cntT l (c : Int) b h : Int) < 2
    · rw [if_pos (by simpa using h1), if_pos h1, est_ok l b num h hl hn hn2 c k ans _ _ (by omega) (by omega) (by omega) (by omega) (by omega)]
    · rw [if_neg (by simpa using h1), if_neg h1]
      by_cases h2 : (w + (cntW l (c : Int) b h : Int)) * 10 < num * (t + (cntT l (c : Int) b h : Int))
      · rw [if_pos (by simpa using h2), if_pos h2]
      · rw [if_neg (by simpa using h2), if_neg h2, show k + 101 + c + 1 = (k + 77 + c) + 25 by omega]
        have hb := bound_in' (k + 77 + c) (c : Int) (by omega) (by omega)
        rw [hb, Option.bind_some, show k + 77 + c + 25 = k + 101 + c + 1 by omega, est_ok l b num h hl hn hn2 c k _ 0 0 (by omega) (by omega) (by omega) (by omega) (by omega)]
theorem B_facts : ((List.range 24).all fun i => (List.range 24).all fun j => decide (10 ≤ vg B (i : Nat)) && (!decide (i ≤ j) || decide (vg B (i : Nat) ≤ vg B (j : Nat)))) = true := by kernel_rfl
theorem B_fact (i j : Nat) (hi : i < 24) (hj : j < 24) : 10 ≤ vg B (i : Int) ∧ (i ≤ j → vg B (i : Int) ≤ vg B (j : Int)) := by
  have h := B_facts
  simp only [List.all_eq_true, List.mem_range] at h
  have h2 := h i hi j hj
  simp only [Bool.and_eq_true, Bool.or_eq_true, Bool.not_eq_true', decide_eq_true_eq, decide_eq_false_iff_not] at h2
  exact ⟨h2.1, fun hle => h2.2.resolve_left (fun hn => hn hle)⟩
theorem B_pos (i : Nat) (h : i < 24) : 10 ≤ vg B (i : Int) := (B_fact i i h h).1
theorem B_mono (i j : Nat) (h : i ≤ j) (hj : j < 24) : vg B (i : Int) ≤ vg B (j : Int) := (B_fact i j (by omega) hj).2 h
/-- what the answer is -/
theorem est_val (W T : Nat → Int) (num : Int) : ∀ (c : Nat) (ans w t : Int), c ≤ 24 → est W T num c ans w t = ans ∨ ∃ i, i < c ∧ est W T num c ans w t = vg B (i : Int)
  | 0, ans, w, t, _ => .inl rfl
  | c + 1, ans, w, t, hc => by
    rw [est]
    split
    · rcases est_val W T num c ans _ _ (by omega) with h | ⟨i, hi, h⟩
      · exact .inl h
      · exact .inr ⟨i, by omega, h⟩
    · split
      · exact .inl rfl
      · rcases est_val W T num c (vg B (c : Int)) 0 0 (by omega) with h | ⟨i, hi, h⟩
        · exact .inr ⟨c, by omega, h⟩
        · exact .inr ⟨i, by omega, h⟩
/-- fewer have to be within -/
theorem est_mono (W T : Nat → Int) (hT : ∀ c, 0 ≤ T c) (n m : Int) (hmn : m ≤ n) : ∀ (c : Nat) (ans w t : Int), c ≤ 24 → 0 ≤ t → (ans = 0 ∨ ∃ j, c ≤ j ∧ j < 24 ∧ ans = vg B (j : Int)) →
    est W T n c ans w t = 0 ∨ (est W T m c ans w t ≠ 0 ∧ est W T m c ans w t ≤ est W T n c ans w t)
  | 0, ans, w, t, _, _, ha => by
    rcases ha with e | ⟨j, _, hj, e⟩
    · exact .inl e
    · have := B_pos j hj
      exact .inr ⟨by simp only [est]; omega, Int.le_refl _⟩
  | c + 1, ans, w, t, hc, ht, ha => by
    have h0 := hT c
    simp only [est]
    by_cases h1 : t + T c < 2
    · simp only [if_pos h1]
      exact est_mono W T hT n m hmn c ans _ _ (by omega) (by omega) (by rcases ha with h | ⟨j, a, b, e⟩; exact .inl h; exact .inr ⟨j, by omega, b, e⟩)
    · simp only [if_neg h1]
      by_cases h2 : (w + W c) * 10 < n * (t + T c)
      · simp only [if_pos h2]
        rcases ha with e0 | ⟨j, hj1, hj, e0⟩
        · exact .inl e0
        · right
          have hp := B_pos j hj
          split
          · exact ⟨by omega, Int.le_refl _⟩
          · rcases est_val W T m c (vg B (c : Int)) 0 0 (by omega) with e | ⟨i, hi, e⟩
            · rw [e]
              have := B_pos c (by omega)
              have := B_mono c j (by omega) hj
              exact ⟨by omega, by omega⟩
            · rw [e]
              have := B_pos i (by omega)
              have := B_mono i j (by omega) hj
              exact ⟨by omega, by omega⟩
      · have h3 : ¬ (w + W c) * 10 < m * (t + T c) := by
          have := Int.mul_le_mul_of_nonneg_right hmn (show 0 ≤ t + T c by omega)
          omega
        simp only [if_neg h2, if_neg h3]
        exact est_mono W T hT n m hmn c _ 0 0 (by omega) (by omega) (.inr ⟨c, by omega, by omega, rfl⟩)

theorem rot_l (p : Int) (x : List Sample) (q : Int) (t : Nat) (hx : x.length ≤ 100) (ht : t < x.length) (hp : ∀ k, mill_Mod.f k p (x.length : Int) = some (t : Int)) : ∀ (m k i : Nat), i + m = x.length →
    law33_FeesOrder.l0 p (x, q) (k + m + 1) ((x.drop t ++ x.take t).take i) (i : Int) = some (x.drop t ++ x.take t)
  | 0, k, i, hm => by
    rw [law33_FeesOrder.l0, if_neg (by simp; omega), List.take_of_length_le (by simp; omega)]
  | m + 1, k, i, hm => by
    have hi : i < x.length := by omega
    have w1 : IntKind.i64.wrap ((i : Int) + (t : Int)) = (i : Int) + (t : Int) := wr (by omega) (by omega)
    have w2 : IntKind.i64.wrap ((i : Int) + 1) = ((i + 1 : Nat) : Int) := by rw [wr (by omega) (by omega)]; omega
    have e1 : ((i : Int) + (t : Int)).tmod (x.length : Int) = (((i + t) % x.length : Nat) : Int) := by
      rw [← Int.natCast_add]
      exact Int.ofNat_tmod _ _
    have hlt : (i + t) % x.length < x.length := Nat.mod_lt _ (by omega)
    have e2 : (x.drop t ++ x.take t)[i]? = some (x.getD ((i + t) % x.length) Sample.z) := by
      have hg : ∀ j, j < x.length → x[j]? = some (x.getD j Sample.z) := fun j hj => by rw [List.getD_eq_getElem?_getD, List.getElem?_eq_getElem hj]; rfl
      by_cases hc : i < x.length - t
      · rw [List.getElem?_append_left (by simpa using hc), List.getElem?_drop, Nat.mod_eq_of_lt (by omega), hg (t + i) (by omega), Nat.add_comm]
      · rw [List.getElem?_append_right (by simp; omega), List.length_drop, List.getElem?_take, if_pos (by omega), hg _ (by omega)]
        congr 2
        rw [Nat.mod_eq_sub_mod (by omega), Nat.mod_eq_of_lt (by omega)]
        omega
    have hlen : (x.drop t ++ x.take t).length = x.length := by simp; omega
    have e3 : (x.drop t ++ x.take t).take (i + 1) = (x.drop t ++ x.take t).take i ++ [x.getD ((i + t) % x.length) Sample.z] := by
      rw [List.take_add_one, e2]
      rfl
    have e4 : ((x.drop t ++ x.take t).take i).length ≤ 100 := by rw [List.length_take]; omega
    rw [law33_FeesOrder.l0, if_pos (by simpa using hi), hp, Option.bind_some, if_pos (show ¬ (x.length : Int) = 0 by omega), w1, e1, if_pos ⟨Int.natCast_nonneg _, Int.ofNat_lt.2 hlt⟩, if_pos (by simp only [List.length_singleton]; omega), Int.toNat_natCast, w2, ← e3, show k + (m + 1) = k + m + 1 by omega]
    exact rot_l p x q t hx ht hp m k (i + 1) (by omega)
theorem rev_l : ∀ (m k : Nat) (l : List Sample) (i j : Int), l.length ≤ 1000 → 0 ≤ i → j < (l.length : Int) → j - i ≤ m → -2 ≤ j - i → i ≤ 1000 → ∃ o, law33_FeesOrder.l1 (k + m + 1) l i j = some o ∧ o.Perm l
  | 0, k, l, i, j, hl, h0, h1, h2, _, _ => ⟨l, by simp only [law33_FeesOrder.l1]; rw [if_neg (by simp; omega)], List.Perm.refl _⟩
  | m + 1, k, l, i, j, hl, h0, h1, h2, h3, h4 => by
    by_cases hij : i < j
    · have hi : i.toNat < l.length := by omega
      have hj : j.toNat < l.length := by omega
      obtain ⟨o, e, hp⟩ := rev_l m k ((l.set i.toNat (l.getD j.toNat Sample.z)).set j.toNat (l.getD i.toNat Sample.z)) (i + 1) (j - 1) (by simpa using hl) (by omega) (by simp; omega) (by omega) (by omega) (by omega)
      refine ⟨o, ?_, hp.trans (perm_swap l i.toNat j.toNat hi hj)⟩
      rw [law33_FeesOrder.l1, if_pos (by simpa using hij), if_pos (by omega), if_pos (by omega), if_pos (by omega), if_pos (by simp; omega), wr (x := i + 1) (by omega) (by omega), wr (x := j - 1) (by omega) (by omega)]
      exact e
    · exact ⟨l, by simp only [law33_FeesOrder.l1]; rw [if_neg (by simpa using hij)], List.Perm.refl _⟩
theorem estimate_ok (k : Nat) (l : List Sample) (b num h : Int) (hl : l.length ≤ 100) (hb : 1 ≤ b) (hb2 : b ≤ 24) (hn : 0 ≤ num) (hn2 : num ≤ 10) :
    fees_Estimate.f (k + 130) l b num 10 2 h = some (let a := est (fun c => (cntW l c b h : Int)) (fun c => (cntT l c b h : Int)) num 24 0 0 0; if (a == 0) = true then (0, 330) else (a, 0)) := by
  have e := est_ok l b num h hl hn hn2 24 (k + 4) 0 0 0 (by omega) (by omega) (by omega) (by omega) (by omega)
  rw [show k + 4 + 101 + 24 + 1 = k + 130 by omega, show (((24 : Nat) : Int) - 1) = 23 by decide] at e
  have h1 : ¬ b < 1 := by omega
  have h2 : ¬ b > 24 := by omega
  have h3 : ¬ num < 0 := by omega
  have h4 : ¬ num > 10 := by omega
  unfold fees_Estimate.f
  simp only [h1, h2, h3, h4, decide_false, Bool.false_eq_true, if_false, show decide ((10 : Int) < 1) = false from rfl, show decide ((10 : Int) > 1000) = false from rfl, show decide ((2 : Int) < 1) = false from rfl, show decide ((2 : Int) > 2048) = false from rfl, Option.bind_some, e]
  split <;> rfl
theorem class_bound : ((List.range 24).all fun i => fees_Class.f 30 (vg B (i : Nat)) == some (i : Int)) = true := by kernel_rfl
theorem class_bound' (k i : Nat) (hi : i < 24) : fees_Class.f (k + 30) (vg B (i : Int)) = some (i : Int) := by
  have h := class_bound
  simp only [List.all_eq_true, List.mem_range, beq_iff_eq] at h
  have h1 := h i hi
  obtain ⟨s, e1, e2⟩ := class_eq 5 0 (vg B (i : Int))
  obtain ⟨s', e3, e4⟩ := class_eq (k + 5) 0 (vg B (i : Int))
  rw [show k + 30 = k + 5 + 25 by omega, e3]
  rw [show (5 : Nat) + 25 = 30 by rfl] at e1
  have : s' = s := by have := e2.symm.trans e4; simpa using this.symm
  rw [this, ← e1, h1]
theorem order_true (C : List Int) (o d e p t : Int) (hC : (C.length : Int) ≤ small) : law33_FeesOrder.f 400 C o d e p t = some true := by
  obtain ⟨x, q, ex, hx⟩ := samples_ok 240 C hC
  obtain ⟨m1, f1, a1, b1⟩ := mod_ok 400 o 24 (by omega) (by omega)
  obtain ⟨m2, f2, a2, b2⟩ := mod_ok 400 d 11 (by omega) (by omega)
  obtain ⟨m3, f3, a3, b3⟩ := mod_ok 400 t 40 (by omega) (by omega)
  obtain ⟨m4, f4, a4, b4⟩ := mod_ok 400 e (m2 + 1) (by omega) (by omega)
  have w1 : IntKind.i64.wrap (m2 + 1) = m2 + 1 := wr (by omega) (by omega)
  have w2 : IntKind.i64.wrap (1 + m1) = 1 + m1 := wr (by omega) (by omega)
  obtain ⟨y, ey, py⟩ : ∃ y, law33_FeesOrder.l0 p (x, q) 400 ([] : List Sample) 0 = some y ∧ y.Perm x := by
    by_cases h0 : x.length = 0
    · have : x = [] := List.eq_nil_of_length_eq_zero h0
      subst this
      exact ⟨[], by rw [law33_FeesOrder.l0, if_neg (by simp)], List.Perm.refl _⟩
    · obtain ⟨v, ev, v0, v1⟩ := mod_ok 0 p (x.length : Int) (by omega) (by omega)
      have hv : ∀ k, mill_Mod.f k p (x.length : Int) = some ((v.toNat : Nat) : Int) := fun k => by
        rw [show ((v.toNat : Nat) : Int) = v by omega]; exact ev
      have := rot_l p x q v.toNat hx (by omega) hv x.length (399 - x.length) 0 (by omega)
      rw [show 399 - x.length + x.length + 1 = 400 by omega] at this
      refine ⟨_, this, ?_⟩
      have := List.perm_append_comm (l₁ := x.drop v.toNat) (l₂ := x.take v.toNat)
      rwa [List.take_append_drop] at this
  have hy : y.length ≤ 100 := by rw [py.length_eq]; exact hx
  obtain ⟨z, ez, pz⟩ := rev_l 100 299 y 0 (IntKind.i64.wrap ((y.length : Int) - 1)) (by omega) (by omega) (by rw [wr (by omega) (by omega)]; omega) (by rw [wr (by omega) (by omega)]; omega) (by rw [wr (by omega) (by omega)]; omega) (by omega)
  rw [show (299 : Nat) + 100 + 1 = 400 by rfl] at ez
  have hz : z.length ≤ 100 := by rw [pz.length_eq]; exact hy
  have pzx := pz.trans py
  have g1 := estimate_ok 270 x (1 + m1) m2 m3 hx (by omega) (by omega) a2 (by omega)
  have g2 := estimate_ok 270 z (1 + m1) m2 m3 hz (by omega) (by omega) a2 (by omega)
  have g3 := estimate_ok 270 x (1 + m1) m4 m3 hx (by omega) (by omega) a4 (by omega)
  have cW : (fun c : Nat => (cntW z c (1 + m1) m3 : Int)) = fun c : Nat => (cntW x c (1 + m1) m3 : Int) := by
    funext c; congr 1; exact pzx.countP_eq _
  have cT : (fun c : Nat => (cntT z c (1 + m1) m3 : Int)) = fun c : Nat => (cntT x c (1 + m1) m3 : Int) := by
    funext c; congr 1; exact pzx.countP_eq _
  rw [cW, cT] at g2
  have mono := est_mono (fun c => (cntW x c (1 + m1) m3 : Int)) (fun c => (cntT x c (1 + m1) m3 : Int)) (fun c => by omega) m2 m4 (by omega) 24 0 0 0 (by omega) (by omega) (.inl rfl)
  have val := est_val (fun c => (cntW x c (1 + m1) m3 : Int)) (fun c => (cntT x c (1 + m1) m3 : Int)) m2 24 0 0 0 (by omega)
  generalize est (fun c => (cntW x c (1 + m1) m3 : Int)) (fun c => (cntT x c (1 + m1) m3 : Int)) m2 24 0 0 0 = u at g1 g2 mono val
  generalize est (fun c => (cntW x c (1 + m1) m3 : Int)) (fun c => (cntT x c (1 + m1) m3 : Int)) m4 24 0 0 0 = u' at g3 mono
  simp only [Nat.reduceAdd] at ex g1 g2 g3
  rw [law33_FeesOrder.f, sane_ok 375]
  simp only [Option.bind_some, Bool.not_true, Bool.false_eq_true, if_false, mill_New.f, ex, ey, ez, f1, f2, f3, w1, f4, w2, g1, g2, g3]
  by_cases hu : u = 0
  · subst hu
    simp
  · have hm := mono.resolve_left hu
    obtain ⟨i, hi, hv⟩ := val.resolve_left hu
    have hcl := class_bound' 370 i hi
    have hbd := bound_in' 375 (i : Int) (by omega) (by omega)
    simp only [Nat.reduceAdd] at hcl hbd
    rw [← hv] at hcl hbd
    have h5 : ¬ u' > u := by omega
    simp [hu, hm.1, h5, hcl, hbd]
end Go.Proofs.Ytjdahineeoofiaa.G
namespace Go.Proofs.Ytjdahineeoofiaa.feesOrder
open Go Go.ChangeShapes Go.WideShapes Go.ChangeAt Go.RowKit
open Go.ChangeMaps (open_string shut_string)
theorem own : ownKnob Try.prog.godebug = none := by kernel_rfl
theorem laidOut : laidOutB Try.prog = true := by kernel_rfl
set_option maxRecDepth 100000 in
theorem lifted (os : Os) (started : os.Started) (H : Type) (enc : TypeId × Value → H) :
    ReturnsInHanded {} Try.checked os 4 .any (Rows.feesOrderSpec.pre6 enc Try.prog Try.f4 Rows.feesOrderRow.domain false) (Rows.feesOrderSpec.post enc Try.prog Try.f4 false true false false) := by
  refine returnsInHanded_of_change_sized (C := Try.checked) own started (by kernel_rfl) Try.func4
    (ChangeSpec.witness6 (enc := enc) (C := Try.checked) false ⟨#[], #[.slice none 0 0, .int .i64 0, .int .i64 0, .int .i64 0, .int .i64 0, .int .i64 0], []⟩ 8 (by kernel_rfl) (by kernel_rfl) (by kernel_rfl) (by kernel_rfl)) ?_
  intro W base args ds gs before hval0 hW hcnd hsz0 _
  have hsz : (DataW.weightsEach Try.prog (Try.f4.params.toList ++ Rows.feesOrderSpec.plain.varTypes Try.prog) (ds ++ gs)).all (· ≤ reachBytes) = true := hsz0
  have hval : ∀ (j : Nat) t v, Try.f4.params[j]? = some t → args[j]? = some v → Value.okWide Try.prog W .any base t v := hval0
  have hW' := hW
  obtain ⟨p, q, hA0, hV, rfl, hfz, hnd⟩ := hW
  have hA : DataW.TrodAll enc Try.prog W 0 (fun _ => true) true Try.f4.params.toList args.toList ds p := hA0
  rw [Try.params4] at hA hval hsz
  obtain ⟨v0, vs0, d0, ds0, p0, q0, hargs, rfl, rfl, h0, r0⟩ := trodAll_cons hA
  obtain ⟨v1, vs1, d1, ds1, p1, q1, rfl, rfl, rfl, h1, r1⟩ := trodAll_cons r0
  obtain ⟨v2, vs2, d2, ds2, p2, q2, rfl, rfl, rfl, h2, r2⟩ := trodAll_cons r1
  obtain ⟨v3, vs3, d3, ds3, p3, q3, rfl, rfl, rfl, h3, r3⟩ := trodAll_cons r2
  obtain ⟨v4, vs4, d4, ds4, p4, q4, rfl, rfl, rfl, h4, r4⟩ := trodAll_cons r3
  obtain ⟨v5, vs5, d5, ds5, p5, q5, rfl, rfl, rfl, h5, r5⟩ := trodAll_cons r4
  obtain ⟨rfl, rfl, rfl⟩ := trodAll_nil r5
  obtain rfl : args = #[v0, v1, v2, v3, v4, v5] := by cases args; simp_all
  obtain ⟨rfl, rfl⟩ := trodVars_none hV
  obtain ⟨a0, len0, cap0, rfl⟩ := okWide_slice Try.underlying24 (hval 0 24 v0 rfl rfl)
  have k0 := h0
  have lt0 : ∀ x ∈ p0, x.block < W.heap.size := by obtain ⟨m, hm⟩ := k0; exact DataW.trod_lt m _ _ _ hm
  have y0 : len0 * 8 ≤ 140737488351232 := PrintWords.sized_ints hsz (j := 0) (t := 24) rfl rfl Try.underlying24 Try.underlying3 (by kernel_rfl) (by kernel_rfl) h0
  obtain ⟨z0, hz0, rw0, wf0⟩ : ∃ zs : List Int, zs.length = len0 ∧ G.Row (G.Pl.int .i64) W a0 zs ∧ ∀ n ∈ zs, (Lit.int .i64 n).wf = true := by
    obtain ⟨fuel, hf⟩ := h0
    rcases open_ints Try.underlying24 Try.underlying3 (by kernel_rfl) hf with ⟨hcs, _⟩ | ⟨x, l, c, zs, hcs, _, hl, hm, hz, _, hcell, hwz⟩
    · simp [Value.cells] at hcs
      obtain ⟨rfl, rfl, rfl⟩ := hcs
      exact ⟨[], rfl, G.Row.nil _ _, fun _ h => by cases h⟩
    · simp [Value.cells] at hcs
      obtain ⟨rfl, rfl, rfl⟩ := hcs
      have hz' : zs.length = cap0 := by simpa using hz
      exact ⟨zs.take len0, by rw [List.length_take]; omega, G.row_take hcell (by omega), fun n hn => hwz n (List.mem_of_mem_take hn)⟩
  subst hz0
  obtain ⟨a1, rfl, rfl, rfl, w1⟩ := open_int Try.underlying3 (hval 1 3 v1 rfl rfl) h1
  obtain ⟨a2, rfl, rfl, rfl, w2⟩ := open_int Try.underlying3 (hval 2 3 v2 rfl rfl) h2
  obtain ⟨a3, rfl, rfl, rfl, w3⟩ := open_int Try.underlying3 (hval 3 3 v3 rfl rfl) h3
  obtain ⟨a4, rfl, rfl, rfl, w4⟩ := open_int Try.underlying3 (hval 4 3 v4 rfl rfl) h4
  obtain ⟨a5, rfl, rfl, rfl, w5⟩ := open_int Try.underlying3 (hval 5 3 v5 rfl rfl) h5
  clear hA0 hval0 hsz0 hsz
  refine (G.law33_FeesOrder.calls 400 z0 a1 a2 a3 a4 a5 a0 cap0 true W rw0 (G.order_true z0 a1 a2 a3 a4 a5 (by have := y0; simp only [G.small]; omega))).mono fun e W' he => ?_
  obtain ⟨v, rfl, rfl, bel⟩ := he
  exact ⟨_, rfl, _, _, _, [], _, [], hW', trodAll_mk1 (shut_bool Try.underlying4 _), (trodAll_cons_mk (Below.trod laidOut (by kernel_rfl) (of_decide_eq_true (by kernel_rfl)) k0 bel lt0) (trodAll_cons_mk (shut_int Try.underlying3 w1) (trodAll_cons_mk (shut_int Try.underlying3 w2) (trodAll_cons_mk (shut_int Try.underlying3 w3) (trodAll_cons_mk (shut_int Try.underlying3 w4) (trodAll_cons_mk (shut_int Try.underlying3 w5) trodAll_mk0)))))), rfl, bel.frame _, fun h => by cases h⟩
theorem over : Rows.feesOrderRow.holds Try.pinned (OpenSpec.ofChange Rows.feesOrderSpec) :=
  OpenClaim.holds_of_wide 4 Try.f4 rfl rfl rfl rfl rfl rfl rfl ⟨rfl, rfl, rfl, rfl, rfl⟩ rfl rfl rfl rfl rfl (by kernel_rfl) Try.func4 (by kernel_rfl)
    (of_decide_eq_true (by kernel_rfl)) (by unfold Func.isWrapper; first | (rw [if_pos (by decide +kernel)]; kernel_rfl) | (rw [if_neg (by decide +kernel)]; exact ⟨rfl, rfl⟩))
    (fun os started H enc _ => lifted os started H enc)
theorem proved : Rows.FeesOrderSaid := over
#print axioms proved
end Go.Proofs.Ytjdahineeoofiaa.feesOrder
namespace Go.Proofs.Ytjdahineeoofiaa
/-- The row, under a short name, for the claim. -/
theorem feesOrder_holds : Rows.FeesOrderSaid := feesOrder.proved
end Go.Proofs.Ytjdahineeoofiaa
