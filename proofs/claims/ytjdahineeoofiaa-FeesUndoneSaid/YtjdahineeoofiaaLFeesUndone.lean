/- For every list of numbers and every height a rewind undoes what was seen and confirmed above the height: the law returns true. Conditions: none beyond the statement's own. -/
import Derived.Test.YtjdahineeoofiaaRows
import Derived.Test.YtjdahineeoofiaaFFeesUndone
import Derived.WalkKit
import Derived.ProofKit
import Derived.OpenShut
import Derived.ShutString
import Derived.ChangeOld
import Derived.Below
import Derived.SizedLaws
import Derived.Test.YtjdahineeoofiaaWSized
set_option linter.unusedVariables false
set_option linter.unusedSimpArgs false
namespace Go.Proofs.Ytjdahineeoofiaa.PrintWords
/-- The name by which the row finds the word on a slice's weight. -/
theorem sized_ints {H : Type} {enc : TypeId × Value → H} {P : Program} {W : World} {base : Nat} {spare : Nat → Bool} {held : Bool} {t e : TypeId} {k : IntKind} {a : Option Addr} {len cap : Nat} {d : DataW H} {ps : List MemPlace} {ts : List TypeId} {ds : List (DataW H)} {j : Nat}
    (hsz : (DataW.weightsEach P ts ds).all (· ≤ reachBytes) = true) (ht : ts[j]? = some t) (hd : ds[j]? = some d) (hu : P.underlying t = some (.slice e)) (he : P.underlying e = some (.int k)) (hc : P.cellsOf e = 1) {B : Nat} (hB : P.bytesOf e = B)
    (h : DataW.Trod enc P W base spare held t (.slice a len cap) d ps) : len * B ≤ 140737488351232 :=
  Go.Proofs.YtjdahineeoofiaaW.PrintWords.sized_ints hsz ht hd hu he hc hB h
end Go.Proofs.Ytjdahineeoofiaa.PrintWords
namespace Go.Proofs.Ytjdahineeoofiaa.G
open Go Go.RowKit Go.Proofs
/-! ## of all laws: enough fuel -/
def Ev (p : Nat → Prop) : Prop := ∃ K, ∀ k, K ≤ k → p k
theorem Ev.mono {p q : Nat → Prop} (h : Ev p) (f : ∀ k, p k → q k) : Ev q := by
  obtain ⟨K, hK⟩ := h
  exact ⟨K, fun k hk => f k (hK k hk)⟩
theorem Ev.and {p q : Nat → Prop} (h : Ev p) (h2 : Ev q) : Ev fun k => p k ∧ q k := by
  obtain ⟨K, hK⟩ := h
  obtain ⟨L, hL⟩ := h2
  exact ⟨max K L, fun k hk => ⟨hK k (by omega), hL k (by omega)⟩⟩
theorem Ev.of {p : Nat → Prop} (K : Nat) (h : ∀ k, p (k + K)) : Ev p := ⟨K, fun k hk => by have := h (k - K); rwa [Nat.sub_add_cancel hk] at this⟩
theorem Ev.all {p : Nat → Prop} (h : ∀ k, p k) : Ev p := ⟨0, fun k _ => h k⟩
/-- behind one round -/
theorem Ev.succ {p : Nat → Prop} (h : Ev fun k => p (k + 1)) : Ev p := by
  obtain ⟨K, hK⟩ := h
  refine ⟨K + 1, fun k hk => ?_⟩
  have h1 := hK (k - 1) (by omega)
  have e : k - 1 + 1 = k := by omega
  rw [← e]
  exact h1
theorem Ev.get {p : Nat → Prop} (h : Ev p) : ∃ k, p k := by
  obtain ⟨K, hK⟩ := h
  exact ⟨K, hK K (Nat.le_refl _)⟩
theorem wr {x : Int} (h0 : -9223372036854775808 ≤ x) (h1 : x < 9223372036854775808) : IntKind.i64.wrap x = x := by
  simp only [IntKind.wrap, IntKind.bits, IntKind.signed]
  simp
  omega
theorem wr8 {x : Int} (h0 : 0 ≤ x) (h1 : x < 256) : IntKind.u8.wrap x = x := by
  simp only [IntKind.wrap, IntKind.bits, IntKind.signed]
  simp
  omega
theorem wr8_lt (x : Int) : 0 ≤ IntKind.u8.wrap x ∧ IntKind.u8.wrap x < 256 := by
  simp only [IntKind.wrap, IntKind.bits, IntKind.signed]
  simp
  omega
theorem wu64 {x : Int} (h0 : 0 ≤ x) (h1 : x < 18446744073709551616) : IntKind.u64.wrap x = x := by
  simp only [IntKind.wrap, IntKind.bits, IntKind.signed]
  simp
  omega

/-! ## What the functions of fees and of its reference come to -/
theorem mod_ok (k : Nat) (v n : Int) (hn : 0 < n) (hb : n < 4611686018427387904) : ∃ r, mill_Mod.f k v n = some r ∧ 0 ≤ r ∧ r < n := by
  have h1 := Int.tmod_lt_of_pos v hn
  have h2 : -n < v.tmod n := by
    have := Int.tmod_lt_of_pos (-v) hn
    rw [Int.neg_tmod] at this
    omega
  unfold mill_Mod.f
  rw [if_pos (by omega)]
  by_cases h : v.tmod n < 0
  · refine ⟨v.tmod n + n, ?_, by omega, by omega⟩
    rw [if_pos (by simpa using h), wr (by omega) (by omega)]; rfl
  · refine ⟨v.tmod n, ?_, by omega, by omega⟩
    rw [if_neg (by simpa using h)]; rfl
def B : Vector Int 24 := (fees_bounds.f 30).getD (Vector.replicate 24 0)
theorem bounds_ok (k : Nat) : fees_bounds.f (k + 25) = some B := by kernel_rfl
theorem bound_in (k k' : Nat) (c : Int) (h0 : 0 ≤ c) (h1 : c < 24) : fees_Bound.f (k + 25) c = some (vg B c) ∧ ref33_Bound.f (k' + 25) c = some (vg B c) := by
  have : c = 0 ∨ c = 1 ∨ c = 2 ∨ c = 3 ∨ c = 4 ∨ c = 5 ∨ c = 6 ∨ c = 7 ∨ c = 8 ∨ c = 9 ∨ c = 10 ∨ c = 11 ∨ c = 12 ∨ c = 13 ∨ c = 14 ∨ c = 15 ∨ c = 16 ∨ c = 17 ∨ c = 18 ∨ c = 19 ∨ c = 20 ∨ c = 21 ∨ c = 22 ∨ c = 23 := by omega
  rcases this with rfl | rfl | rfl | rfl | rfl | rfl | rfl | rfl | rfl | rfl | rfl | rfl | rfl | rfl | rfl | rfl | rfl | rfl | rfl | rfl | rfl | rfl | rfl | rfl <;> exact ⟨by kernel_rfl, by kernel_rfl⟩
theorem bound_in' (k : Nat) (c : Int) (h0 : 0 ≤ c) (h1 : c < 24) : fees_Bound.f (k + 25) c = some (vg B c) := (bound_in k k c h0 h1).1
theorem bound_eq (k k' : Nat) (c : Int) : ∃ r, fees_Bound.f (k + 25) c = some r ∧ ref33_Bound.f (k' + 25) c = some r := by
  by_cases h0 : 0 ≤ c
  · by_cases h1 : c < 24
    · exact ⟨_, bound_in k k' c h0 h1⟩
    · have h2 : ¬ c < 0 := by omega
      have h3 : ¬ c ≤ 23 := by omega
      have h4 : 24 ≤ c := by omega
      exact ⟨0, by simp [fees_Bound.f, h2, h4], by simp [ref33_Bound.f, ref33_in.f, h0, h3]⟩
  · have h2 : c < 0 := by omega
    exact ⟨0, by simp [fees_Bound.f, h2], by simp [ref33_Bound.f, ref33_in.f, h0]⟩
theorem class_l (r : Int) : ∀ (m : Nat) (k k' : Nat) (c out : Int), 0 ≤ c → c ≤ 24 → 24 - c ≤ m → ∃ s, fees_Class.l0 r B (k + m + 1) out c = some s ∧ ref33_Class.l0 r (k' + 25 + m + 1) out c = some s
  | 0, k, k', c, out, h0, h1, h2 => by
    have h3 : ¬ c < 24 := by omega
    exact ⟨out, by simp [fees_Class.l0, h3], by simp [ref33_Class.l0, h3]⟩
  | m + 1, k, k', c, out, h0, h1, h2 => by
    by_cases h3 : c < 24
    · have hw : IntKind.i64.wrap (c + 1) = c + 1 := wr (by omega) (by omega)
      obtain ⟨s, e1, e2⟩ := class_l r m k k' (c + 1) (if vg B c ≤ r then c else out) (by omega) (by omega) (by omega)
      refine ⟨s, ?_, ?_⟩
      · rw [fees_Class.l0, if_pos (by simpa using h3), if_pos ⟨h0, h3⟩, hw, ← e1]
        by_cases h4 : vg B c ≤ r <;> simp [h4] <;> rfl
      · rw [ref33_Class.l0, if_pos (by simpa using h3), show k' + 25 + (m + 1) = (k' + (m + 1)) + 25 by omega, (bound_in 0 (k' + (m + 1)) c h0 h3).2, hw, ← e2, show k' + 25 + m + 1 = k' + (m + 1) + 25 by omega]
        by_cases h4 : vg B c ≤ r <;> simp [h4]
    · exact ⟨out, by simp [fees_Class.l0, h3], by simp [ref33_Class.l0, h3]⟩
theorem class_eq (k k' : Nat) (r : Int) : ∃ s, fees_Class.f (k + 25) r = some s ∧ ref33_Class.f (k' + 50) r = some s := by
  obtain ⟨s, e1, e2⟩ := class_l r 24 k k' 0 (-1) (by omega) (by omega) (by omega)
  refine ⟨s, ?_, ?_⟩
  · rw [fees_Class.f, bounds_ok]
    show (Option.bind (fees_Class.l0 r B (k + 24 + 1) (-1) 0) _) = _
    rw [e1]; rfl
  · rw [ref33_Class.f]
    show (Option.bind (ref33_Class.l0 r (k' + 25 + 24 + 1) (-1) 0) _) = _
    rw [e2]; rfl
theorem sane_ok (k : Nat) : law33_sane.f (k + 25) = some true := by kernel_rfl


/-! ## what a rewind leaves -/
def keepS (h : Int) (s : Sample) : Bool := !decide (s.Seen > h)
def backS (h : Int) (s : Sample) : Sample := if decide (s.Confirmed > h) = true then Sample.mk s.ID s.Class s.Seen 0 else s
def rewV (l : List Sample) (h : Int) : List Sample := (l.filter (keepS h)).map (backS h)
theorem getD_at {α : Type} (l : List α) (z : α) (i : Nat) (h : i < l.length) : l.getD i z = l[i] := by
  rw [List.getD_eq_getElem?_getD, List.getElem?_eq_getElem h]; rfl
/-- a loop that changes each element in its place -/
theorem upd_loop {α : Type} (z : α) (g : α → α) (n : Nat) (L : Nat → List α → Int → Option (List α))
    (hend : ∀ k xs, xs.length = n → L (k + 1) xs (n : Int) = some xs)
    (hstep : ∀ k xs (t : Nat), xs.length = n → t < n → L (k + 1) xs (t : Int) = L k (xs.set t (g (xs.getD t z))) ((t + 1 : Nat) : Int)) :
    ∀ (m F t : Nat) (xs ys : List α), t + m = n → m + 1 ≤ F → xs.length = n → ys.length = n → xs.take t = (ys.take t).map g → xs.drop t = ys.drop t → L F xs (t : Int) = some (ys.map g)
  | 0, F, t, xs, ys, h, hF, hx, hy, h1, h2 => by
    obtain ⟨F, rfl⟩ : ∃ q, F = q + 1 := ⟨F - 1, by omega⟩
    obtain rfl : t = n := by omega
    rw [hend F xs hx]
    rw [List.take_of_length_le (by omega), List.take_of_length_le (by omega)] at h1
    rw [h1]
  | m + 1, F, t, xs, ys, h, hF, hx, hy, h1, h2 => by
    obtain ⟨F, rfl⟩ : ∃ q, F = q + 1 := ⟨F - 1, by omega⟩
    have ht : t < n := by omega
    have hg : xs.getD t z = ys[t] := by
      rw [getD_at xs z t (by omega)]
      have := congrArg (fun l => l[0]?) h2
      simp only [List.getElem?_drop, Nat.add_zero] at this
      rw [List.getElem?_eq_getElem (by omega), List.getElem?_eq_getElem (by omega)] at this
      exact Option.some.inj this
    rw [hstep F xs t hx ht, hg]
    refine upd_loop z g n L hend hstep m F (t + 1) _ ys (by omega) (by omega) (by simp [hx]) hy ?_ ?_
    · rw [List.take_succ_eq_append_getElem (by simp; omega), List.take_set_of_le (Nat.le_refl _), h1, List.take_succ_eq_append_getElem (by omega), List.map_append]
      simp
    · rw [List.drop_set_of_lt (by omega)]
      have := congrArg (List.drop 1) h2
      rw [List.drop_drop, List.drop_drop] at this
      exact this
theorem upd_all {α : Type} (z : α) (g : α → α) (L : Nat → List α → Int → Option (List α)) (xs : List α)
    (hend : ∀ k ys, ys.length = xs.length → L (k + 1) ys (xs.length : Int) = some ys)
    (hstep : ∀ k ys (t : Nat), ys.length = xs.length → t < xs.length → L (k + 1) ys (t : Int) = L k (ys.set t (g (ys.getD t z))) ((t + 1 : Nat) : Int)) (k : Nat) (hk : xs.length + 1 ≤ k) : L k xs 0 = some (xs.map g) :=
  upd_loop z g xs.length L hend hstep xs.length k 0 xs xs (by omega) hk rfl rfl (by simp) rfl
theorem set_self {α : Type} (l : List α) (z : α) (t : Nat) (h : t < l.length) : l.set t (l.getD t z) = l := by
  rw [getD_at l z t h]; simp
theorem rew_upd (h : Int) (xs : List Sample) (hx : xs.length ≤ 1000000) (k : Nat) (hk : xs.length + 1 ≤ k) : fees_Rewind.l2 h xs k xs 0 = some (xs.map (backS h)) := by
  refine upd_all Sample.z (backS h) (fees_Rewind.l2 h xs) xs (fun k ys hy => ?_) (fun k ys t hy ht => ?_) k hk
  · rw [fees_Rewind.l2, if_neg (by simp)]
  · rw [fees_Rewind.l2, if_pos (by simp; omega), if_pos ⟨by omega, by omega⟩, wr (by omega) (by omega), show ((t : Int) + 1) = ((t + 1 : Nat) : Int) by omega, Int.toNat_natCast]
    unfold backS
    by_cases hc : decide ((ys.getD t Sample.z).Confirmed > h) = true
    · rw [if_pos hc, if_pos ⟨by omega, by omega⟩, Option.bind_some, if_pos hc]
    · rw [if_neg hc, Option.bind_some, if_neg hc, set_self ys Sample.z t (by omega)]
theorem rew_del (h : Int) (r : List Sample) (hr : r.length ≤ 1000000) : ∀ (m j i : Nat) (xs : List Sample), j + m = r.length → i ≤ j → xs.length = r.length → xs.drop j = r.drop j → xs.take i = (r.take j).filter (keepS h) →
    ∃ (xs' : List Sample) (i' : Nat), i' ≤ r.length ∧ xs'.length = r.length ∧ xs'.take i' = r.filter (keepS h) ∧ ∀ F, m + 1 ≤ F → fees_Rewind.l1 h r F xs (i : Int) (j : Int) = some (xs', (i' : Int))
  | 0, j, i, xs, e, hi, hx, h1, h2 => by
    refine ⟨xs, i, by omega, hx, ?_, fun F hF => ?_⟩
    · rw [h2, List.take_of_length_le (by omega)]
    · obtain ⟨F, rfl⟩ : ∃ q, F = q + 1 := ⟨F - 1, by omega⟩
      rw [fees_Rewind.l1, if_neg (by simp; omega)]
  | m + 1, j, i, xs, e, hi, hx, h1, h2 => by
    have hj : j < r.length := by omega
    have hg : xs.getD j Sample.z = r[j] := by
      rw [getD_at xs _ j (by omega)]
      have := congrArg (fun l => l[0]?) h1
      simp only [List.getElem?_drop, Nat.add_zero] at this
      rw [List.getElem?_eq_getElem (by omega), List.getElem?_eq_getElem (by omega)] at this
      exact Option.some.inj this
    have hd : xs.drop (j + 1) = r.drop (j + 1) := by
      have := congrArg (List.drop 1) h1
      rw [List.drop_drop, List.drop_drop] at this
      exact this
    by_cases hk : keepS h r[j] = true
    · have hil : i < xs.length := by omega
      obtain ⟨xs', i', a, b, c, d⟩ := rew_del h r hr m (j + 1) (i + 1) (xs.set i r[j]) (by omega) (by omega) (by simp [hx]) (by rw [List.drop_set_of_lt (by omega), hd]) (by
        rw [List.take_succ_eq_append_getElem (by simp; omega), List.take_set_of_le (Nat.le_refl _), h2, List.take_succ_eq_append_getElem hj, List.filter_append]
        simp [hk])
      refine ⟨xs', i', a, b, c, fun F hF => ?_⟩
      obtain ⟨F, rfl⟩ : ∃ q, F = q + 1 := ⟨F - 1, by omega⟩
      rw [fees_Rewind.l1, if_pos (by simp; omega), if_pos ⟨by omega, by omega⟩, Int.toNat_natCast, hg, if_pos (by simpa [keepS] using hk), if_pos ⟨by omega, by omega⟩, Option.bind_some]
      dsimp only
      rw [wr (by omega) (by omega), wr (by omega) (by omega), Int.toNat_natCast, show ((i : Int) + 1) = ((i + 1 : Nat) : Int) by omega, show ((j : Int) + 1) = ((j + 1 : Nat) : Int) by omega]
      exact d F (by omega)
    · obtain ⟨xs', i', a, b, c, d⟩ := rew_del h r hr m (j + 1) i xs (by omega) (by omega) hx hd (by
        rw [h2, List.take_succ_eq_append_getElem hj, List.filter_append]
        simp [hk])
      refine ⟨xs', i', a, b, c, fun F hF => ?_⟩
      obtain ⟨F, rfl⟩ : ∃ q, F = q + 1 := ⟨F - 1, by omega⟩
      rw [fees_Rewind.l1, if_pos (by simp; omega), if_pos ⟨by omega, by omega⟩, Int.toNat_natCast, hg, if_neg (by simpa [keepS] using hk), Option.bind_some]
      dsimp only
      rw [wr (by omega) (by omega), show ((j : Int) + 1) = ((j + 1 : Nat) : Int) by omega]
      exact d F (by omega)
theorem rew_find (h : Int) (r : List Sample) (hr : r.length ≤ 1000000) : ∀ (m j : Nat), j + m = r.length → (r.take j).filter (keepS h) = r.take j →
    (r.filter (keepS h) = r ∧ ∀ F, m + 1 ≤ F → fees_Rewind.l0 h r F (j : Int) = some (.go ())) ∨
    ∃ i : Nat, i < r.length ∧ (r.take i).filter (keepS h) = r.take i ∧ (∀ hi : i < r.length, keepS h r[i] = false) ∧ ∀ F, m + 1 ≤ F → fees_Rewind.l0 h r F (j : Int) = some (.ret (i : Int))
  | 0, j, e, h1 => by
    rw [List.take_of_length_le (by omega)] at h1
    refine .inl ⟨h1, fun F hF => ?_⟩
    obtain ⟨F, rfl⟩ : ∃ q, F = q + 1 := ⟨F - 1, by omega⟩
    rw [fees_Rewind.l0, if_neg (by simp; omega)]
  | m + 1, j, e, h1 => by
    have hj : j < r.length := by omega
    by_cases hk : keepS h r[j] = true
    · have h2 : (r.take (j + 1)).filter (keepS h) = r.take (j + 1) := by
        rw [List.take_succ_eq_append_getElem hj, List.filter_append, h1]
        simp [hk]
      have step : ∀ F, fees_Rewind.l0 h r (F + 1) (j : Int) = fees_Rewind.l0 h r F ((j + 1 : Nat) : Int) := fun F => by
        rw [fees_Rewind.l0, if_pos (by simp; omega), if_pos ⟨by omega, by omega⟩, Int.toNat_natCast, getD_at r _ j hj, if_neg (by simpa [keepS] using hk), wr (by omega) (by omega), show ((j : Int) + 1) = ((j + 1 : Nat) : Int) by omega]
      rcases rew_find h r hr m (j + 1) (by omega) h2 with ⟨a, b⟩ | ⟨i, a, b, c, d⟩
      · refine .inl ⟨a, fun F hF => ?_⟩
        obtain ⟨F, rfl⟩ : ∃ q, F = q + 1 := ⟨F - 1, by omega⟩
        rw [step]; exact b F (by omega)
      · refine .inr ⟨i, a, b, c, fun F hF => ?_⟩
        obtain ⟨F, rfl⟩ : ∃ q, F = q + 1 := ⟨F - 1, by omega⟩
        rw [step]; exact d F (by omega)
    · refine .inr ⟨j, hj, h1, fun _ => by simpa using hk, fun F hF => ?_⟩
      obtain ⟨F, rfl⟩ : ∃ q, F = q + 1 := ⟨F - 1, by omega⟩
      rw [fees_Rewind.l0, if_pos (by simp; omega), if_pos ⟨by omega, by omega⟩, Int.toNat_natCast, getD_at r _ j hj, if_pos (by simpa [keepS] using hk)]
theorem clone_ok (k : Nat) (l : List Sample) (hl : l.length ≤ 1000000) : slices_Clone_Sample.f k l = some l := by
  unfold slices_Clone_Sample.f
  rw [if_pos (by omega)]
theorem rewind_ok (l : List Sample) (h : Int) (hl : l.length ≤ 1000000) (k : Nat) (hk : l.length + 1 ≤ k) : fees_Rewind.f k l h = some (rewV l h) := by
  have hfl : (l.filter (keepS h)).length ≤ l.length := List.length_filter_le _ _
  have h1 := rew_upd h (l.filter (keepS h)) (by omega) k (by omega)
  rcases rew_find h l hl l.length 0 (by omega) (by simp) with ⟨e, hf⟩ | ⟨i, hi, hfi, hno, hf⟩
  · rw [e] at h1
    have h2' : fees_Rewind.l0 h l k 0 = _ := hf k (by omega)
    unfold fees_Rewind.f rewV
    rw [clone_ok k l hl, Option.bind_some, h2', Option.bind_some]
    dsimp only
    rw [Option.bind_some, if_pos (by decide), Option.bind_some, h1, Option.bind_some, e]
  · have hik := hno hi
    have htk : (l.take (i + 1)).filter (keepS h) = l.take i := by
      rw [List.take_succ_eq_append_getElem hi, List.filter_append, hfi]
      simp [hik]
    obtain ⟨xs', i', a, b, c, d⟩ := rew_del h l hl (l.length - (i + 1)) (i + 1) i l (by omega) (by omega) rfl rfl htk.symm
    have h2' : fees_Rewind.l0 h l k 0 = _ := hf k (by omega)
    have h3 := d k (by omega)
    unfold fees_Rewind.f rewV
    rw [clone_ok k l hl, Option.bind_some, h2', Option.bind_some]
    dsimp only
    rw [Option.bind_some, if_neg (by rw [beq_iff_eq]; omega), wr (x := (i : Int) + 1) (by omega) (by omega), show ((i : Int) + 1) = ((i + 1 : Nat) : Int) by omega, h3, Option.bind_some]
    dsimp only
    rw [if_pos ⟨by omega, by omega⟩, if_pos ⟨by omega, by omega⟩, Option.bind_some, Int.toNat_natCast, List.take_append_of_le_length (by rw [List.length_take]; omega), List.take_take, Nat.min_self, c, h1, Option.bind_some]
theorem filter_map_len (l : List Sample) (h : Int) : (rewV l h).length ≤ l.length := by
  unfold rewV
  rw [List.length_map]
  exact List.length_filter_le _ _
/-- what the changes of the law do to what a rewind leaves -/
theorem rewV_append (a b : List Sample) (h : Int) : rewV (a ++ b) h = rewV a h ++ rewV b h := by simp [rewV, List.filter_append]
theorem rewV_map (l : List Sample) (h : Int) (g : Sample → Sample) (hg : ∀ s, keepS h (g s) = keepS h s ∧ backS h (g s) = backS h s) : rewV (l.map g) h = rewV l h := by
  unfold rewV
  rw [List.filter_map, List.map_map]
  have e1 : (keepS h ∘ g) = keepS h := by funext s; exact (hg s).1
  rw [e1]
  exact List.map_congr_left fun s _ => (hg s).2
theorem rewV_idem (l : List Sample) (h : Int) (h0 : 0 ≤ h) : rewV (rewV l h) h = rewV l h := by
  have hb : ∀ s, keepS h (backS h s) = keepS h s ∧ backS h (backS h s) = backS h s := by
    intro s
    unfold backS keepS
    by_cases hc : decide (s.Confirmed > h) = true
    · rw [if_pos hc]
      refine ⟨rfl, ?_⟩
      rw [if_neg (by simp; omega)]
    · rw [if_neg hc, if_neg hc]
      exact ⟨rfl, rfl⟩
  show rewV ((l.filter (keepS h)).map (backS h)) h = _
  rw [rewV_map _ _ _ hb]
  unfold rewV
  rw [List.filter_filter]
  simp

/-! ## The deck and the samples -/
abbrev small : Int := 17592186044416
theorem left_ok (k : Nat) (L : List Int) (p : Int) : mill_Deck_Left.f k (lightclientmill_Deck.mk L p) = some (decide (p < (L.length : Int)), lightclientmill_Deck.mk L p) := rfl
theorem next_ok (k : Nat) (L : List Int) (hL : (L.length : Int) ≤ small) (p : Int) (h0 : 0 ≤ p) (h1 : p ≤ (L.length : Int)) (n : Int) (hn : 0 < n) (hb : n < 4611686018427387904) :
    ∃ v q, mill_Deck_Next.f k (lightclientmill_Deck.mk L p) n = some (v, lightclientmill_Deck.mk L q) ∧ 0 ≤ v ∧ v < n ∧ 0 ≤ q ∧ q ≤ (L.length : Int) := by
  unfold small at hL
  unfold mill_Deck_Next.f
  rw [left_ok, Option.bind_some]
  by_cases h : p < (L.length : Int)
  · have e1 : IntKind.i64.wrap (p + 1) = p + 1 := wr (by omega) (by omega)
    have e2 : IntKind.i64.wrap (p + 1 - 1) = p := by rw [wr (by omega) (by omega)]; omega
    obtain ⟨v, ev, hv0, hv1⟩ := mod_ok k (L.getD p.toNat 0) n hn hb
    refine ⟨v, p + 1, ?_, hv0, hv1, by omega, by omega⟩
    simp only [e1, e2, h, decide_true, Bool.not_true, Bool.false_eq_true, if_false, h0, and_self, if_true, ev, Option.bind_some]
  · exact ⟨0, p, by simp [h], by omega, hn, h0, h1⟩
theorem hash_ok (k : Nat) (L : List Int) (hL : (L.length : Int) ≤ small) (p : Int) (h0 : 0 ≤ p) (h1 : p ≤ (L.length : Int)) :
    ∃ v q, mill_Hash.f k (lightclientmill_Deck.mk L p) = some (v, lightclientmill_Deck.mk L q) ∧ 0 ≤ q ∧ q ≤ (L.length : Int) := by
  unfold mill_Hash.f
  obtain ⟨v, q, e, _, _, a, b⟩ := next_ok k L hL p h0 h1 5 (by omega) (by omega)
  obtain ⟨v', q', e', _, _, a', b'⟩ := next_ok k L hL q a b 7 (by omega) (by omega)
  simp only [e, e', Option.bind_some]
  exact ⟨_, _, rfl, a', b'⟩
theorem hashes_l (L : List Int) (z : Int) (hL : (L.length : Int) ≤ small) : ∀ (m k : Nat) (out : List (Vector Int 32)) (p : Int), 0 ≤ p → p ≤ (L.length : Int) → m ≤ 100 → out.length + m ≤ 100 →
    ∃ hs q, mill_Hashes.l0 (lightclientmill_Deck.mk L z) (k + m + 1) p out (m : Int) = some (hs, q) ∧ 0 ≤ q ∧ q ≤ (L.length : Int) ∧ hs.length = out.length + m
  | 0, k, out, p, h0, h1, _, _ => ⟨out, p, by simp [mill_Hashes.l0], h0, h1, by omega⟩
  | m + 1, k, out, p, h0, h1, hm, ho => by
    obtain ⟨v, q, e, a, b⟩ := hash_ok (k + (m + 1)) L hL p h0 h1
    obtain ⟨hs, q', e', a', b', hl⟩ := hashes_l L z hL m k (out ++ [v]) q a b (by omega) (by simp; omega)
    refine ⟨hs, q', ?_, a', b', by rw [hl]; simp; omega⟩
    rw [mill_Hashes.l0, if_pos (by simp), e, Option.bind_some, if_pos (by omega), ← e']
    congr 1
    rw [wr (by omega) (by omega)]
    omega
theorem hashes_ok (k : Nat) (L : List Int) (hL : (L.length : Int) ≤ small) (p : Int) (h0 : 0 ≤ p) (h1 : p ≤ (L.length : Int)) (n : Int) (hn : 0 ≤ n) (hb : n ≤ 20) :
    ∃ hs q, mill_Hashes.f (k + 30) (lightclientmill_Deck.mk L p) n = some (hs, lightclientmill_Deck.mk L q) ∧ 0 ≤ q ∧ q ≤ (L.length : Int) ∧ hs.length ≤ 20 := by
  unfold mill_Hashes.f
  obtain ⟨v, q, e, v0, v1, a, b⟩ := next_ok (k + 30) L hL p h0 h1 (n + 1) (by omega) (by omega)
  obtain ⟨hs, q', e', a', b', hl⟩ := hashes_l L p hL v.toNat (k + 29 - v.toNat) [] q a b (by omega) (by simp; omega)
  rw [show k + 29 - v.toNat + v.toNat + 1 = k + 30 by omega, show ((v.toNat : Nat) : Int) = v by omega] at e'
  refine ⟨hs, q', ?_, a', b', by rw [hl]; simp; omega⟩
  simp only [wr (x := n + 1) (by omega) (by omega), e, Option.bind_some, e']
theorem confirm_l1 (l0 : List Sample) (ids : List (Vector Int 32)) (h i : Int) : ∀ (m k : Nat) (out : List Sample) (t : Int), 0 ≤ t → t ≤ (ids.length : Int) → (ids.length : Int) - t ≤ m → ids.length ≤ 1000 → 0 ≤ i → i < (out.length : Int) → out.length = l0.length →
    ∃ o, ref33_Confirm.l1 l0 ids h i (k + m + 1) out t = some o ∧ o.length = out.length
  | 0, k, out, t, h0, h1, h2, h3, _, _, _ => ⟨out, by simp only [ref33_Confirm.l1]; rw [if_neg (by simp; omega)], rfl⟩
  | m + 1, k, out, t, h0, h1, h2, h3, hi0, hi1, hz => by
    by_cases ht : t < (ids.length : Int)
    · have hw : IntKind.i64.wrap (t + 1) = t + 1 := wr (by omega) (by omega)
      have key : ∃ b, (if 0 ≤ i ∧ i < (((0 + l0.length) : Nat) : Int) then (if 0 ≤ t ∧ t < (ids.length : Int) then (if (((out.getD i.toNat Sample.z).ID) == (ids.getD t.toNat (Vector.replicate 32 0 : Vector Int 32))) = true then (if 0 ≤ i ∧ i < (((0 + l0.length) : Nat) : Int) then (if (((out.getD i.toNat Sample.z).Confirmed) == 0) = true then (if 0 ≤ i ∧ i < (((0 + l0.length) : Nat) : Int) then (some (decide (((out.getD i.toNat Sample.z).Seen) < h))) else none) else (some false)) else none) else (some false)) else none) else none) = some b := by
        have hi2 : i < (((0 + l0.length) : Nat) : Int) := by omega
        simp only [hi0, hi2, h0, ht, and_self, if_true]
        split
        · split
          · exact ⟨_, rfl⟩
          · exact ⟨_, rfl⟩
        · exact ⟨_, rfl⟩
      obtain ⟨b, eb⟩ := key
      cases b with
      | true =>
        obtain ⟨o, eo, hl⟩ := confirm_l1 l0 ids h i m k (out.set i.toNat ({ out.getD i.toNat Sample.z with Confirmed := h })) (t + 1) (by omega) (by omega) (by omega) h3 hi0 (by simpa using hi1) (by simpa using hz)
        refine ⟨o, ?_, by rw [hl, List.length_set]⟩
        rw [ref33_Confirm.l1, if_pos (by simpa using ht), eb, Option.bind_some, if_pos rfl, if_pos ⟨hi0, by omega⟩, Option.bind_some, hw]
        exact eo
      | false =>
        obtain ⟨o, eo, hl⟩ := confirm_l1 l0 ids h i m k out (t + 1) (by omega) (by omega) (by omega) h3 hi0 hi1 hz
        refine ⟨o, ?_, hl⟩
        rw [ref33_Confirm.l1, if_pos (by simpa using ht), eb, Option.bind_some, if_neg Bool.false_ne_true, Option.bind_some, hw]
        exact eo
    · exact ⟨out, by simp only [ref33_Confirm.l1]; rw [if_neg (by simpa using ht)], rfl⟩
theorem confirm_l0 (l0 : List Sample) (ids : List (Vector Int 32)) (h : Int) (hids : ids.length ≤ 20) : ∀ (m k : Nat) (out : List Sample) (i : Int), 0 ≤ i → i ≤ (out.length : Int) → (out.length : Int) - i ≤ m → out.length ≤ 1000 → out.length = l0.length →
    ∃ o, ref33_Confirm.l0 l0 ids h (k + 25 + m + 1) out i = some o ∧ o.length = out.length
  | 0, k, out, i, h0, h1, h2, h3, hz => ⟨out, by simp only [ref33_Confirm.l0]; rw [if_neg (by simp; omega)], rfl⟩
  | m + 1, k, out, i, h0, h1, h2, h3, hz => by
    by_cases hi : i < (out.length : Int)
    · obtain ⟨o1, e1, l1⟩ := confirm_l1 l0 ids h i 20 (k + 4 + (m + 1)) out 0 (by omega) (by omega) (by omega) (by omega) h0 hi hz
      obtain ⟨o2, e2, l2⟩ := confirm_l0 l0 ids h hids m k o1 (i + 1) (by omega) (by omega) (by omega) (by omega) (by omega)
      refine ⟨o2, ?_, by rw [l2, l1]⟩
      rw [ref33_Confirm.l0, if_pos (by simp; omega), show k + 25 + (m + 1) = k + 4 + (m + 1) + 20 + 1 by omega, e1, Option.bind_some, wr (by omega) (by omega), ← e2]
      congr 1
      omega
    · exact ⟨out, by simp only [ref33_Confirm.l0]; rw [if_neg (by simp; omega)], rfl⟩
theorem confirm_ok (k : Nat) (l : List Sample) (ids : List (Vector Int 32)) (h : Int) (hids : ids.length ≤ 20) (hl : l.length ≤ 100) : ∃ o, ref33_Confirm.f (k + 130) l ids h = some o ∧ o.length = l.length := by
  obtain ⟨o, e, ho⟩ := confirm_l0 l ids h hids 100 (k + 4) l 0 (by omega) (by omega) (by omega) (by omega) rfl
  refine ⟨o, ?_, ho⟩
  rw [ref33_Confirm.f, if_pos (by simp; omega), List.nil_append, show k + 130 = k + 4 + 25 + 100 + 1 by omega, e]
  rfl
theorem find_l (l : List Sample) (id : Vector Int 32) : ∀ (m k : Nat) (i : Int), 0 ≤ i → i ≤ (l.length : Int) → (l.length : Int) - i ≤ m → l.length ≤ 1000 → ∃ o, ref33_find.l0 l id (k + m + 1) i = some o
  | 0, k, i, h0, h1, h2, h3 => ⟨_, by simp only [ref33_find.l0]; rw [if_neg (by simp; omega)]⟩
  | m + 1, k, i, h0, h1, h2, h3 => by
    by_cases hi : i < (l.length : Int)
    · obtain ⟨o, e⟩ := find_l l id m k (i + 1) (by omega) (by omega) (by omega) h3
      by_cases hb : ((l.getD i.toNat Sample.z).ID == id) = true
      · exact ⟨_, by rw [ref33_find.l0, if_pos (by simpa using hi), if_pos ⟨h0, hi⟩, if_pos hb]⟩
      · refine ⟨o, ?_⟩
        rw [ref33_find.l0, if_pos (by simpa using hi), if_pos ⟨h0, hi⟩, if_neg hb, wr (by omega) (by omega)]
        exact e
    · exact ⟨_, by simp only [ref33_find.l0]; rw [if_neg (by simpa using hi)]⟩
theorem find_ok (k : Nat) (l : List Sample) (id : Vector Int 32) (hl : l.length ≤ 100) : ∃ r, ref33_find.f (k + 130) l id = some r := by
  obtain ⟨o, e⟩ := find_l l id 100 (k + 29) 0 (by omega) (by omega) (by omega) (by omega)
  rw [ref33_find.f, show k + 130 = k + 29 + 100 + 1 by omega, e, Option.bind_some]
  cases o <;> exact ⟨_, rfl⟩
theorem in_ok (k : Nat) (n a b : Int) : ref33_in.f k n a b = some (decide (n ≥ a) && decide (n ≤ b)) := by
  unfold ref33_in.f
  by_cases h : n ≥ a <;> simp [h]
theorem observe_ok (k : Nat) (l : List Sample) (id : Vector Int 32) (r h : Int) (hl : l.length ≤ 100) : ∃ o e, ref33_Observe.f (k + 130) l id r h = some (o, e) ∧ (o = [] ∨ o.length = l.length + 1) := by
  obtain ⟨c, _, ec⟩ := class_eq 0 (k + 80) r
  obtain ⟨f, ef⟩ := find_ok k l id hl
  have hlen : ((l.length : Int) ≥ 2048) = False := by simp; omega
  have h1 : (l.length + 1) * 56 ≤ 140737488355328 := by omega
  have h2 : l.length * 56 ≤ 140737488355328 := by omega
  unfold ref33_Observe.f
  simp only [show k + 130 = k + 80 + 50 by omega] at ef ⊢
  simp only [ec, Option.bind_some, in_ok, ef, List.nil_append, List.length_nil, Nat.zero_add, List.length_singleton, h1, h2, if_true, hlen, decide_false, Bool.false_eq_true, if_false]
  by_cases a : c < 0
  · simp [a]
  · simp only [a, decide_false, Bool.false_eq_true, if_false, Option.bind_some]
    split
    · exact ⟨_, _, rfl, .inl rfl⟩
    · split
      · exact ⟨_, _, rfl, .inl rfl⟩
      · exact ⟨_, _, rfl, .inr (by simp)⟩
theorem samples_l (L : List Int) (z : Int) (hL : (L.length : Int) ≤ small) : ∀ (m k : Nat) (l : List Sample) (p : Int), 0 ≤ p → p ≤ (L.length : Int) → m ≤ 50 → l.length + m ≤ 100 →
    ∃ x q, law33_samples.l0 (lightclientmill_Deck.mk L z) (k + 130 + m + 1) p l (m : Int) = some (x, q) ∧ x.length ≤ 100 ∧ 0 ≤ q ∧ q ≤ (L.length : Int)
  | 0, k, l, p, h0, h1, _, hl => ⟨l, p, by simp [law33_samples.l0], by omega, h0, h1⟩
  | m + 1, k, l, p, h0, h1, hm, hl => by
    obtain ⟨v, q, e, _, _, a, b⟩ := next_ok (k + 130 + (m + 1)) L hL p h0 h1 4 (by omega) (by omega)
    have hw : IntKind.i64.wrap (((m + 1 : Nat) : Int) - 1) = (m : Int) := by rw [wr (by omega) (by omega)]; omega
    rw [law33_samples.l0, if_pos (by simp), e, Option.bind_some, hw]
    by_cases hv : (v == 0) = true
    · obtain ⟨hs, q1, e1, a1, b1, l1⟩ := hashes_ok (k + 100 + (m + 1)) L hL q a b 4 (by omega) (by omega)
      obtain ⟨u, q2, e2, _, _, a2, b2⟩ := next_ok (k + 130 + (m + 1)) L hL q1 a1 b1 20 (by omega) (by omega)
      obtain ⟨o, e3, l3⟩ := confirm_ok (k + (m + 1)) l hs (IntKind.i64.wrap (1 + u)) l1 (by omega)
      obtain ⟨x, q', ex, hx⟩ := samples_l L z hL m k o q2 a2 b2 (by omega) (by omega)
      refine ⟨x, q', ?_, hx⟩
      rw [show k + 100 + (m + 1) + 30 = k + 130 + (m + 1) by omega] at e1
      rw [show k + (m + 1) + 130 = k + 130 + (m + 1) by omega] at e3
      rw [if_pos hv, e1, Option.bind_some, e2, Option.bind_some, e3]
      simp only [Option.bind_some]
      exact ex
    · obtain ⟨hs, q1, e1, a1, b1⟩ := hash_ok (k + 130 + (m + 1)) L hL q a b
      obtain ⟨u, q2, e2, _, _, a2, b2⟩ := next_ok (k + 130 + (m + 1)) L hL q1 a1 b1 60 (by omega) (by omega)
      obtain ⟨u', q3, e3, _, _, a3, b3⟩ := next_ok (k + 130 + (m + 1)) L hL q2 a2 b2 15 (by omega) (by omega)
      obtain ⟨o, er, e4, l4⟩ := observe_ok (k + (m + 1)) l hs (IntKind.i64.wrap (10 + u)) (IntKind.i64.wrap (1 + u')) (by omega)
      rw [show k + (m + 1) + 130 = k + 130 + (m + 1) by omega] at e4
      rw [if_neg hv, e1, Option.bind_some, e2, Option.bind_some, e3, Option.bind_some, e4]
      simp only [Option.bind_some]
      by_cases he : (er == 0) = true
      · have hol : o.length ≤ l.length + 1 := by rcases l4 with rfl | h <;> simp_all
        obtain ⟨x, q', ex, hx⟩ := samples_l L z hL m k o q3 a3 b3 (by omega) (by omega)
        exact ⟨x, q', by rw [if_pos he]; exact ex, hx⟩
      · obtain ⟨x, q', ex, hx⟩ := samples_l L z hL m k l q3 a3 b3 (by omega) (by omega)
        exact ⟨x, q', by rw [if_neg he]; exact ex, hx⟩
theorem samples_ok (k : Nat) (L : List Int) (hL : (L.length : Int) ≤ small) : ∃ x q, law33_samples.f (k + 160) (lightclientmill_Deck.mk L 0) = some (x, lightclientmill_Deck.mk L q) ∧ x.length ≤ 100 ∧ 0 ≤ q ∧ q ≤ (L.length : Int) := by
  obtain ⟨v, q, e, v0, v1, a, b⟩ := next_ok (k + 160) L hL 0 (by omega) (by omega) 20 (by omega) (by omega)
  obtain ⟨x, q', ex, hx⟩ := samples_l L 0 hL v.toNat (k + 29 - v.toNat) [] q a b (by omega) (by simp; omega)
  rw [show k + 29 - v.toNat + 130 + v.toNat + 1 = k + 160 by omega, show ((v.toNat : Nat) : Int) = v by omega] at ex
  refine ⟨x, q', ?_, hx⟩
  rw [law33_samples.f, e, Option.bind_some]
  simp only [ex, Option.bind_some]

def confS (mp : List ((Vector Int 32) × Bool)) (H : Int) (s : Sample) : Sample :=
  if ((mget mp s.ID).getD false) = true ∧ s.Confirmed = 0 ∧ s.Seen < H then Sample.mk s.ID s.Class s.Seen H else s
theorem fconf_fill (ids : List (Vector Int 32)) (hi : ids.length ≤ 1000) : ∀ (m k t : Nat) (mp : List ((Vector Int 32) × Bool)), t + m = ids.length → m + 1 ≤ k → ∃ mp', fees_Confirm.l0 ids k mp (t : Int) = some mp'
  | 0, k, t, mp, h, hk => by
    obtain ⟨k, rfl⟩ : ∃ q, k = q + 1 := ⟨k - 1, by omega⟩
    exact ⟨mp, by rw [fees_Confirm.l0, if_neg (by simp; omega)]⟩
  | m + 1, k, t, mp, h, hk => by
    obtain ⟨k, rfl⟩ : ∃ q, k = q + 1 := ⟨k - 1, by omega⟩
    obtain ⟨mp', e⟩ := fconf_fill ids hi m k (t + 1) (mput mp (ids.getD (t : Int).toNat (Vector.replicate 32 0)) true) (by omega) (by omega)
    refine ⟨mp', ?_⟩
    rw [fees_Confirm.l0, if_pos (by simp; omega), if_pos ⟨by omega, by omega⟩, wr (by omega) (by omega), show ((t : Int) + 1) = ((t + 1 : Nat) : Int) by omega, e]
theorem fconfirm_ok (l : List Sample) (ids : List (Vector Int 32)) (H : Int) (hi : ids.length ≤ 20) (hl : l.length ≤ 200) (k : Nat) (hk : 250 ≤ k) : ∃ mp, fees_Confirm.f k l ids H = some (l.map (confS mp H)) := by
  obtain ⟨mp, e⟩ := fconf_fill ids (by omega) ids.length k 0 [] (by omega) (by omega)
  have e' : fees_Confirm.l0 ids k [] 0 = some mp := e
  refine ⟨mp, ?_⟩
  have hu := upd_all Sample.z (confS mp H) (fees_Confirm.l1 H mp l) l (fun k ys hy => by rw [fees_Confirm.l1, if_neg (by simp)]) (fun k ys t hy ht => by
    rw [fees_Confirm.l1, if_pos (by simp; omega), if_pos ⟨by omega, by omega⟩, wr (by omega) (by omega), show ((t : Int) + 1) = ((t + 1 : Nat) : Int) by omega, Int.toNat_natCast]
    unfold confS
    by_cases h1 : ((mget mp (ys.getD t Sample.z).ID).getD false) = true
    · by_cases h2 : (ys.getD t Sample.z).Confirmed = 0
      · by_cases h3 : (ys.getD t Sample.z).Seen < H
        · rw [if_pos h1, if_pos (by simpa using h2), Option.bind_some, if_pos (by simpa using h3), if_pos ⟨by omega, by omega⟩, Option.bind_some, if_pos ⟨h1, h2, h3⟩]
        · rw [if_pos h1, if_pos (by simpa using h2), Option.bind_some, if_neg (by simpa using h3), Option.bind_some, if_neg (fun h => h3 h.2.2), set_self ys Sample.z t (by omega)]
      · rw [if_pos h1, if_neg (by simpa using h2), Option.bind_some, if_neg (by decide), Option.bind_some, if_neg (fun h => h2 h.2.1), set_self ys Sample.z t (by omega)]
    · rw [if_neg h1, Option.bind_some, if_neg (by decide), Option.bind_some, if_neg (fun h => h1 h.1), set_self ys Sample.z t (by omega)]) k (by omega)
  unfold fees_Confirm.f
  rw [e', Option.bind_some, clone_ok k l (by omega), Option.bind_some, hu, Option.bind_some]
theorem rewV_conf (l : List Sample) (mp : List ((Vector Int 32) × Bool)) (H h : Int) (h0 : 0 ≤ h) (h1 : h < H) : rewV (l.map (confS mp H)) h = rewV l h := by
  refine rewV_map l h _ fun s => ?_
  unfold confS
  by_cases hc : ((mget mp s.ID).getD false) = true ∧ s.Confirmed = 0 ∧ s.Seen < H
  · rw [if_pos hc]
    refine ⟨rfl, ?_⟩
    obtain ⟨id, c, se, co⟩ := s
    have e : co = 0 := hc.2.1
    subst e
    unfold backS
    rw [if_pos (by simpa using h1), if_neg (by simp; omega)]
  · rw [if_neg hc]
    exact ⟨rfl, rfl⟩
theorem fobs_find (l : List Sample) (id : Vector Int 32) (hl : l.length ≤ 1000) : ∀ (m k t : Nat), t + m = l.length → m + 1 ≤ k → ∃ o, fees_Observe.l0 l id k (t : Int) = some o
  | 0, k, t, h, hk => by
    obtain ⟨k, rfl⟩ : ∃ q, k = q + 1 := ⟨k - 1, by omega⟩
    exact ⟨_, by rw [fees_Observe.l0, if_neg (by simp; omega)]⟩
  | m + 1, k, t, h, hk => by
    obtain ⟨k, rfl⟩ : ∃ q, k = q + 1 := ⟨k - 1, by omega⟩
    obtain ⟨o, e⟩ := fobs_find l id hl m k (t + 1) (by omega) (by omega)
    rw [fees_Observe.l0, if_pos (by simp; omega), if_pos ⟨by omega, by omega⟩]
    by_cases hb : ((l.getD (t : Int).toNat Sample.z).ID == id) = true
    · exact ⟨_, by rw [if_pos hb]⟩
    · exact ⟨o, by rw [if_neg hb, wr (by omega) (by omega), show ((t : Int) + 1) = ((t + 1 : Nat) : Int) by omega, e]⟩
theorem fobserve_ok (l : List Sample) (id : Vector Int 32) (r H : Int) (hl : l.length ≤ 200) (k : Nat) : ∃ o e, fees_Observe.f (k + 250) l id r H = some (o, e) ∧ (e = 0 → ∃ c, o = l ++ [Sample.mk id c H 0]) := by
  obtain ⟨c, ec, _⟩ := class_eq (k + 225) 0 r
  rw [show k + 225 + 25 = k + 250 by omega] at ec
  obtain ⟨o, eo⟩ := fobs_find l id (by omega) l.length (k + 250) 0 (by omega) (by omega)
  have eo' : fees_Observe.l0 l id (k + 250) 0 = some o := eo
  unfold fees_Observe.f
  rw [ec, Option.bind_some, eo']
  obtain ⟨b, eb⟩ : ∃ b, (if (decide (c < 0)) = true then (some true) else (if (decide (H < 1)) = true then (some true) else (some (decide (H > 16777216))))) = some b := by
    split
    · exact ⟨_, rfl⟩
    · split <;> exact ⟨_, rfl⟩
  rw [eb, Option.bind_some]
  by_cases hb : b = true
  · rw [if_pos hb]
    exact ⟨_, _, rfl, fun h => by cases h⟩
  · rw [if_neg hb, Option.bind_some]
    have hbig : ¬ (decide (((l.length : Nat) : Int) ≥ 2048)) = true := by simp; omega
    cases o with
    | ret f =>
      dsimp only
      rw [Option.bind_some]
      by_cases hf : (decide (f ≥ 0)) = true
      · rw [if_pos hf]
        exact ⟨_, _, rfl, fun h => by cases h⟩
      · rw [if_neg hf, if_neg hbig, clone_ok _ l (by omega), Option.bind_some, if_pos (by omega), Option.bind_some]
        exact ⟨_, _, rfl, fun _ => ⟨c, rfl⟩⟩
    | go u =>
      dsimp only
      rw [Option.bind_some, if_neg (by decide), if_neg hbig, clone_ok _ l (by omega), Option.bind_some, if_pos (by omega), Option.bind_some]
      exact ⟨_, _, rfl, fun _ => ⟨c, rfl⟩⟩
theorem same33 (a : List Sample) (ha : a.length ≤ 1000) (k : Nat) (hk : 1001 ≤ k) : ref33_Same.f k a a = some true := by
  have lp : ∀ (m F i : Nat), i + m = a.length → m + 1 ≤ F → ref33_Same.l0 a a F (i : Int) = some (.go ()) := by
    intro m
    induction m with
    | zero =>
      intro F i h hF
      obtain ⟨F, rfl⟩ : ∃ q, F = q + 1 := ⟨F - 1, by omega⟩
      rw [ref33_Same.l0, if_neg (by simp; omega)]
    | succ m ih =>
      intro F i h hF
      obtain ⟨F, rfl⟩ : ∃ q, F = q + 1 := ⟨F - 1, by omega⟩
      have ih := ih F (i + 1) (by omega) (by omega)
      have hself : ((a.getD (i : Int).toNat Sample.z) == (a.getD (i : Int).toNat Sample.z)) = true := (Sample.eqb_iff _ _).2 rfl
      rw [ref33_Same.l0, if_pos (by simp; omega), if_pos ⟨by omega, by omega⟩, if_pos ⟨by omega, by omega⟩, hself, if_neg (by decide), wr (by omega) (by omega), show ((i : Int) + 1) = ((i + 1 : Nat) : Int) by omega, ih]
  have h : ref33_Same.l0 a a k 0 = _ := lp a.length k 0 (by omega) (by omega)
  unfold ref33_Same.f
  rw [if_neg (by simp), h, Option.bind_some]

theorem undone_l (L : List Int) (hL : (L.length : Int) ≤ small) (r : Int) (r0 : 0 ≤ r) (r5 : r < 5) (x : List Sample) : ∀ (m k : Nat) (y : List Sample) (p : Int), 0 ≤ p → p ≤ (L.length : Int) → y.length + m ≤ 150 → rewV y (16 + r) = x →
    ∃ y', law33_FeesUndone.l0 L r (k + 300 + m + 1) p y (m : Int) = some y' ∧ rewV y' (16 + r) = x ∧ y'.length ≤ 150
  | 0, k, y, p, h0, h1, hl, hy => ⟨y, by rw [law33_FeesUndone.l0, if_neg (by simp)], hy, by omega⟩
  | m + 1, k, y, p, h0, h1, hl, hy => by
    obtain ⟨v, q, e, _, _, a, b⟩ := next_ok (k + 300 + (m + 1)) L hL p h0 h1 2 (by omega) (by omega)
    have hw : IntKind.i64.wrap (((m + 1 : Nat) : Int) - 1) = (m : Int) := by rw [wr (by omega) (by omega)]; omega
    rw [law33_FeesUndone.l0, if_pos (by simp), e, Option.bind_some, hw]
    by_cases hv : (v == 0) = true
    · obtain ⟨hs, q1, e1, a1, b1, l1⟩ := hashes_ok (k + 270 + (m + 1)) L hL q a b 4 (by omega) (by omega)
      obtain ⟨u, q2, e2, u0, u1, a2, b2⟩ := next_ok (k + 300 + (m + 1)) L hL q1 a1 b1 4 (by omega) (by omega)
      have hH : IntKind.i64.wrap ((IntKind.i64.wrap ((IntKind.i64.wrap (16 + r)) + 1)) + u) = 16 + r + 1 + u := by rw [wr (x := 16 + r) (by omega) (by omega), wr (x := 16 + r + 1) (by omega) (by omega), wr (by omega) (by omega)]
      obtain ⟨mp, e3⟩ := fconfirm_ok y hs (16 + r + 1 + u) l1 (by omega) (k + 300 + (m + 1)) (by omega)
      obtain ⟨y', ey, hy', hl'⟩ := undone_l L hL r r0 r5 x m k (y.map (confS mp (16 + r + 1 + u))) q2 a2 b2 (by rw [List.length_map]; omega) (by rw [rewV_conf _ _ _ _ (by omega) (by omega)]; exact hy)
      refine ⟨y', ?_, hy', hl'⟩
      rw [show k + 270 + (m + 1) + 30 = k + 300 + (m + 1) by omega] at e1
      rw [if_pos hv, e1, Option.bind_some, e2, Option.bind_some, hH, e3, Option.bind_some]
      exact ey
    · obtain ⟨u, q1, e1, _, _, a1, b1⟩ := next_ok (k + 300 + (m + 1)) L hL q a b 9 (by omega) (by omega)
      obtain ⟨u2, q2, e2, _, _, a2, b2⟩ := next_ok (k + 300 + (m + 1)) L hL q1 a1 b1 50 (by omega) (by omega)
      obtain ⟨u3, q3, e3, c0, c1, a3, b3⟩ := next_ok (k + 300 + (m + 1)) L hL q2 a2 b2 4 (by omega) (by omega)
      have hH : IntKind.i64.wrap ((IntKind.i64.wrap ((IntKind.i64.wrap (16 + r)) + 1)) + u3) = 16 + r + 1 + u3 := by rw [wr (x := 16 + r) (by omega) (by omega), wr (x := 16 + r + 1) (by omega) (by omega), wr (by omega) (by omega)]
      obtain ⟨o, er, e4, h4⟩ := fobserve_ok y (((Vector.replicate 32 0 : Vector Int 32).setIfInBounds 0 9).setIfInBounds 1 (IntKind.u8.wrap u)) (IntKind.i64.wrap (10 + u2)) (16 + r + 1 + u3) (by omega) (k + 50 + (m + 1))
      rw [show k + 50 + (m + 1) + 250 = k + 300 + (m + 1) by omega] at e4
      rw [if_neg hv, e1, Option.bind_some, e2, Option.bind_some, e3, Option.bind_some, hH, e4, Option.bind_some]
      by_cases he : (er == 0) = true
      · obtain ⟨c, ho⟩ := h4 (by simpa using he)
        have hn : rewV [Sample.mk (((Vector.replicate 32 0 : Vector Int 32).setIfInBounds 0 9).setIfInBounds 1 (IntKind.u8.wrap u)) c (16 + r + 1 + u3) 0] (16 + r) = [] := by
          unfold rewV
          rw [List.filter_cons_of_neg (by simp [keepS]; omega)]
          rfl
        obtain ⟨y', ey, hy', hl'⟩ := undone_l L hL r r0 r5 x m k o q3 a3 b3 (by rw [ho, List.length_append]; simp; omega) (by rw [ho, rewV_append, hn, List.append_nil]; exact hy)
        refine ⟨y', ?_, hy', hl'⟩
        rw [if_pos he, Option.bind_some]
        exact ey
      · obtain ⟨y', ey, hy', hl'⟩ := undone_l L hL r r0 r5 x m k y q3 a3 b3 (by omega) hy
        refine ⟨y', ?_, hy', hl'⟩
        rw [if_neg he, Option.bind_some]
        exact ey
theorem undone_true (L : List Int) (height : Int) (hL : (L.length : Int) ≤ small) : ∃ k, law33_FeesUndone.f k L height = some true := by
  refine ⟨2000, ?_⟩
  obtain ⟨r, er, r0, r5⟩ := mod_ok 2000 height 5 (by omega) (by omega)
  obtain ⟨s, q, es, hs, q0, q1⟩ := samples_ok 1840 L hL
  have es' : law33_samples.f 2000 (lightclientmill_Deck.mk L 0) = some (s, lightclientmill_Deck.mk L q) := es
  have hw : IntKind.i64.wrap (16 + r) = 16 + r := wr (by omega) (by omega)
  have e1 := rewind_ok s (16 + r) (by omega) 2000 (by omega)
  obtain ⟨v, q2, e2, v0, v8, a, b⟩ := next_ok 2000 L hL q q0 q1 8 (by omega) (by omega)
  have hlen := filter_map_len s (16 + r)
  obtain ⟨y, ey, hy, hyl⟩ := undone_l L hL r r0 r5 (rewV s (16 + r)) v.toNat (1699 - v.toNat) (rewV s (16 + r)) q2 a b (by omega) (rewV_idem s _ (by omega))
  rw [show 1699 - v.toNat + 300 + v.toNat + 1 = 2000 by omega, show ((v.toNat : Nat) : Int) = v by omega] at ey
  have e3 := rewind_ok y (16 + r) (by omega) 2000 (by omega)
  have e4 := same33 (rewV s (16 + r)) (by omega) 2000 (by omega)
  have esane : law33_sane.f 2000 = some true := sane_ok 1975
  unfold law33_FeesUndone.f
  rw [esane, Option.bind_some, if_neg (by decide)]
  show Option.bind (mill_New.f 2000 L) _ = _
  unfold mill_New.f
  rw [Option.bind_some, er, Option.bind_some]
  dsimp only
  rw [es', Option.bind_some, hw, e1, Option.bind_some]
  dsimp only
  rw [e2, Option.bind_some]
  dsimp only
  rw [ey, Option.bind_some, e3, Option.bind_some, hy, e4, Option.bind_some]

end Go.Proofs.Ytjdahineeoofiaa.G
namespace Go.Proofs.Ytjdahineeoofiaa.feesUndone
open Go Go.ChangeShapes Go.WideShapes Go.ChangeAt Go.RowKit
open Go.ChangeMaps (open_string shut_string)
theorem own : ownKnob Try.prog.godebug = none := by kernel_rfl
theorem laidOut : laidOutB Try.prog = true := by kernel_rfl
set_option maxRecDepth 100000 in
theorem lifted (os : Os) (started : os.Started) (H : Type) (enc : TypeId × Value → H) :
    ReturnsInHanded {} Try.checked os 5 .any (Rows.feesUndoneSpec.pre6 enc Try.prog Try.f5 Rows.feesUndoneRow.domain false) (Rows.feesUndoneSpec.post enc Try.prog Try.f5 false true false false) := by
  refine returnsInHanded_of_change_sized (C := Try.checked) own started (by kernel_rfl) Try.func5
    (ChangeSpec.witness6 (enc := enc) (C := Try.checked) false ⟨#[], #[.slice none 0 0, .int .i64 0], []⟩ 8 (by kernel_rfl) (by kernel_rfl) (by kernel_rfl) (by kernel_rfl)) ?_
  intro W base args ds gs before hval0 hW hcnd hsz0 _
  have hsz : (DataW.weightsEach Try.prog (Try.f5.params.toList ++ Rows.feesUndoneSpec.plain.varTypes Try.prog) (ds ++ gs)).all (· ≤ reachBytes) = true := hsz0
  have hval : ∀ (j : Nat) t v, Try.f5.params[j]? = some t → args[j]? = some v → Value.okWide Try.prog W .any base t v := hval0
  have hW' := hW
  obtain ⟨p, q, hA0, hV, rfl, hfz, hnd⟩ := hW
  have hA : DataW.TrodAll enc Try.prog W 0 (fun _ => true) true Try.f5.params.toList args.toList ds p := hA0
  rw [Try.params5] at hA hval hsz
  obtain ⟨v0, vs0, d0, ds0, p0, q0, hargs, rfl, rfl, h0, r0⟩ := trodAll_cons hA
  obtain ⟨v1, vs1, d1, ds1, p1, q1, rfl, rfl, rfl, h1, r1⟩ := trodAll_cons r0
  obtain ⟨rfl, rfl, rfl⟩ := trodAll_nil r1
  obtain rfl : args = #[v0, v1] := by cases args; simp_all
  obtain ⟨rfl, rfl⟩ := trodVars_none hV
  obtain ⟨A0, len0, cap0, rfl⟩ := okWide_slice Try.underlying24 (hval 0 24 v0 rfl rfl)
  have k0 := h0
  have lt0 : ∀ x ∈ p0, x.block < W.heap.size := by obtain ⟨m, hm⟩ := k0; exact DataW.trod_lt m _ _ _ hm
  have y0 : len0 * 8 ≤ 140737488351232 := PrintWords.sized_ints hsz (j := 0) (t := 24) rfl rfl Try.underlying24 Try.underlying3 (by kernel_rfl) (by kernel_rfl) h0
  obtain ⟨a0, hz0, rw0, cf0, wf0⟩ : ∃ zs : List Int, zs.length = len0 ∧ G.Row (G.Pl.int .i64) W A0 zs ∧ zs.length ≤ cap0 ∧ ∀ n ∈ zs, (Lit.int .i64 n).wf = true := by
    obtain ⟨fuel, hf⟩ := h0
    rcases open_ints Try.underlying24 Try.underlying3 (by kernel_rfl) hf with ⟨hcs, _⟩ | ⟨x, l, c, zs, hcs, _, hl, hm, hz, _, hcell, hwz⟩
    · simp [Value.cells] at hcs
      obtain ⟨rfl, rfl, rfl⟩ := hcs
      exact ⟨[], rfl, G.Row.nil _ _, Nat.zero_le _, fun _ h => by cases h⟩
    · simp [Value.cells] at hcs
      obtain ⟨rfl, rfl, rfl⟩ := hcs
      have hz' : zs.length = cap0 := by simpa using hz
      exact ⟨zs.take len0, by rw [List.length_take]; omega, G.row_take hcell (by omega), by rw [List.length_take]; omega, fun n hn => hwz n (List.mem_of_mem_take hn)⟩
  subst hz0
  obtain ⟨a1, rfl, rfl, rfl, w1⟩ := open_int Try.underlying3 (hval 1 3 v1 rfl rfl) h1
  clear hA0 hval0 hsz0 hsz
  obtain ⟨K, hK⟩ := G.undone_true a0 a1 (by have := y0; simp only [G.small]; omega)
  refine (G.law33_FeesUndone.calls K a0 a1 [] _ true W ⟨A0, cap0, rfl, G.Ro.of rw0, cf0⟩ (G.Mem.nil W) hK).mono fun e W' he => ?_
  obtain ⟨v, rfl, rfl, hM⟩ := he
  have bel := hM.below
  exact ⟨_, rfl, _, _, _, [], _, [], hW', trodAll_mk1 (shut_bool Try.underlying4 _), (trodAll_cons_mk (Below.trod laidOut (by kernel_rfl) (of_decide_eq_true (by kernel_rfl)) k0 bel lt0) (trodAll_cons_mk (shut_int Try.underlying3 w1) trodAll_mk0)), rfl, bel.frame _, fun h => by cases h⟩
theorem over : Rows.feesUndoneRow.holds Try.pinned (OpenSpec.ofChange Rows.feesUndoneSpec) :=
  OpenClaim.holds_of_wide 5 Try.f5 rfl rfl rfl rfl rfl rfl rfl ⟨rfl, rfl, rfl, rfl, rfl⟩ rfl rfl rfl rfl rfl (by kernel_rfl) Try.func5 (by kernel_rfl)
    (of_decide_eq_true (by kernel_rfl)) (by unfold Func.isWrapper; first | (rw [if_pos (by decide +kernel)]; kernel_rfl) | (rw [if_neg (by decide +kernel)]; exact ⟨rfl, rfl⟩))
    (fun os started H enc _ => lifted os started H enc)
theorem proved : Rows.FeesUndoneSaid := over
#print axioms proved
end Go.Proofs.Ytjdahineeoofiaa.feesUndone
namespace Go.Proofs.Ytjdahineeoofiaa
/-- The row, under a short name, for the claim. -/
theorem feesUndone_holds : Rows.FeesUndoneSaid := feesUndone.proved
end Go.Proofs.Ytjdahineeoofiaa
