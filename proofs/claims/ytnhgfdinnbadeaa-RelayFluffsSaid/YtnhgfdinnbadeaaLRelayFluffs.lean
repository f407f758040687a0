/- For every list of numbers, digest, time and change: what the relay is after a transaction was fluffed, and which ones are due, is the reference's. Conditions: none beyond the statement's own. -/
import Derived.Test.YtnhgfdinnbadeaaRows
import Derived.Test.YtnhgfdinnbadeaaFRelayFluffs
import Derived.WalkKit
import Derived.ProofKit
import Derived.OpenShut
import Derived.ShutString
import Derived.ChangeOld
import Derived.Below
import Derived.SizedLaws
import Derived.Test.YtnhgfdinnbadeaaWSized
import Derived.Test.YtnhgfdinnbadeaaV
set_option linter.unusedVariables false
set_option linter.unusedSimpArgs false
namespace Go.Proofs.Ytnhgfdinnbadeaa.PrintWords
/-- The name by which the row finds the word on a slice's weight. -/
theorem sized_ints {H : Type} {enc : TypeId × Value → H} {P : Program} {W : World} {base : Nat} {spare : Nat → Bool} {held : Bool} {t e : TypeId} {k : IntKind} {a : Option Addr} {len cap : Nat} {d : DataW H} {ps : List MemPlace} {ts : List TypeId} {ds : List (DataW H)} {j : Nat}
    (hsz : (DataW.weightsEach P ts ds).all (· ≤ reachBytes) = true) (ht : ts[j]? = some t) (hd : ds[j]? = some d) (hu : P.underlying t = some (.slice e)) (he : P.underlying e = some (.int k)) (hc : P.cellsOf e = 1) {B : Nat} (hB : P.bytesOf e = B)
    (h : DataW.Trod enc P W base spare held t (.slice a len cap) d ps) : len * B ≤ 140737488351232 :=
  Go.Proofs.YtnhgfdinnbadeaaW.PrintWords.sized_ints hsz ht hd hu he hc hB h
end Go.Proofs.Ytnhgfdinnbadeaa.PrintWords
namespace Go.Proofs.Ytnhgfdinnbadeaa.G
open Go Go.RowKit Go.Proofs
/-! ## of all laws: enough fuel -/
def Ev (p : Nat → Prop) : Prop := ∃ K, ∀ k, K ≤ k → p k
theorem Ev.mono {p q : Nat → Prop} (h : Ev p) (f : ∀ k, p k → q k) : Ev q := by
  obtain ⟨K, hK⟩ := h
  exact ⟨K, fun k hk => f k (hK k hk)⟩
theorem Ev.and {p q : Nat → Prop} (h : Ev p) (h2 : Ev q) : Ev fun k => p k ∧ q k := by
  obtain ⟨K, hK⟩ := h
  obtain ⟨L, hL⟩ := h2
  exact ⟨max K L, fun k hk => ⟨hK k (by omega), hL k (by omega)⟩⟩
theorem Ev.of {p : Nat → Prop} (K : Nat) (h : ∀ k, p (k + K)) : Ev p := ⟨K, fun k hk => by have := h (k - K); rwa [Nat.sub_add_cancel hk] at this⟩
theorem Ev.all {p : Nat → Prop} (h : ∀ k, p k) : Ev p := ⟨0, fun k _ => h k⟩
/-- behind one round -/
theorem Ev.succ {p : Nat → Prop} (h : Ev fun k => p (k + 1)) : Ev p := by
  obtain ⟨K, hK⟩ := h
  refine ⟨K + 1, fun k hk => ?_⟩
  have h1 := hK (k - 1) (by omega)
  have e : k - 1 + 1 = k := by omega
  rw [← e]
  exact h1
theorem Ev.get {p : Nat → Prop} (h : Ev p) : ∃ k, p k := by
  obtain ⟨K, hK⟩ := h
  exact ⟨K, hK K (Nat.le_refl _)⟩
theorem wr {x : Int} (h0 : -9223372036854775808 ≤ x) (h1 : x < 9223372036854775808) : IntKind.i64.wrap x = x := by
  simp only [IntKind.wrap, IntKind.bits, IntKind.signed]
  simp
  omega
theorem wr8 {x : Int} (h0 : 0 ≤ x) (h1 : x < 256) : IntKind.u8.wrap x = x := by
  simp only [IntKind.wrap, IntKind.bits, IntKind.signed]
  simp
  omega
theorem wr8_lt (x : Int) : 0 ≤ IntKind.u8.wrap x ∧ IntKind.u8.wrap x < 256 := by
  simp only [IntKind.wrap, IntKind.bits, IntKind.signed]
  simp
  omega
theorem wu64 {x : Int} (h0 : 0 ≤ x) (h1 : x < 18446744073709551616) : IntKind.u64.wrap x = x := by
  simp only [IntKind.wrap, IntKind.bits, IntKind.signed]
  simp
  omega

section
variable {κ α : Type} [BEq κ] [LawfulBEq κ]
theorem mget_mput (m : List (κ × α)) (k : κ) (v : α) (q : κ) : mget (mput m k v) q = if q == k then some v else mget m q := by
  induction m with
  | nil => rfl
  | cons x xs ih =>
    rw [mput]
    by_cases h : (k == x.1) = true
    · rw [if_pos h, mget, mget]
      have e : k = x.1 := by simpa using h
      rw [← e]
      by_cases hq : (q == k) = true
      · rw [if_pos hq, if_pos hq]
      · rw [if_neg hq, if_neg hq, if_neg hq]
    · rw [if_neg h, mget, mget, ih]
      by_cases hq : (q == x.1) = true
      · have e : q = x.1 := by simpa using hq
        rw [if_pos hq, if_pos hq, if_neg]
        intro h2
        have e2 : q = k := by simpa using h2
        exact h (by rw [← e2]; exact hq)
      · rw [if_neg hq, if_neg hq]
end

/-! ## lists without repetition -/
abbrev H32 := Vector Int 32
def okF {α : Type} [DecidableEq α] (p : α → Bool) : List α → List α → Bool
  | _, [] => true
  | s, x :: l => (p x && !(decide (x ∈ s))) && okF p (s ++ [x]) l
theorem okF_iff {α : Type} [DecidableEq α] (p : α → Bool) : ∀ (l s : List α), okF p s l = true ↔ ((∀ x ∈ l, p x = true ∧ x ∉ s) ∧ l.Nodup)
  | [], s => by simp [okF]
  | x :: l, s => by
    rw [okF, Bool.and_eq_true, Bool.and_eq_true, okF_iff p l (s ++ [x])]
    simp only [List.mem_append, List.mem_cons, List.nodup_cons, Bool.not_eq_true', decide_eq_false_iff_not, not_or, List.not_mem_nil, or_false]
    constructor
    · rintro ⟨⟨h1, h2⟩, h3, h4⟩
      refine ⟨?_, ?_, h4⟩
      · rintro y (rfl | hy)
        · exact ⟨h1, h2⟩
        · exact ⟨(h3 y hy).1, (h3 y hy).2.1⟩
      · intro hx
        exact (h3 x hx).2.2 rfl
    · rintro ⟨h1, h2, h3⟩
      refine ⟨h1 x (.inl rfl), ?_, h3⟩
      intro y hy
      exact ⟨(h1 y (.inr hy)).1, (h1 y (.inr hy)).2, fun e => h2 (e ▸ hy)⟩
theorem getD_at {α : Type} {l : List α} {t : Nat} (h : t < l.length) (z : α) : l.getD (t : Int).toNat z = l[t] := by
  rw [Int.toNat_natCast, List.getD_eq_getElem?_getD, List.getElem?_eq_getElem h]; rfl
theorem suc (t : Nat) (h : t ≤ 1000000000) : IntKind.i64.wrap ((t : Int) + 1) = ((t + 1 : Nat) : Int) := by rw [wr (by omega) (by omega)]; omega
theorem idx_zero {α : Type} [BEq α] [LawfulBEq α] (x : α) (l : List α) : (x :: l).idxOf x = 0 := by simp [List.idxOf_cons]
theorem idx_succ {α : Type} [BEq α] [LawfulBEq α] {x y : α} (h : x ≠ y) (l : List α) : (x :: l).idxOf y = l.idxOf y + 1 := by
  rw [List.idxOf_cons]
  have : (x == y) = false := by simpa using h
  rw [this]; rfl
/-! ## the searches -/
theorem indexH_l (l : List H32) (v : H32) (hl : l.length ≤ 1000000) : ∀ (m k t : Nat), t + m = l.length → slices_Index_Hash.l0 l v (k + m + 1) (t : Int) = some (if v ∈ l.drop t then .ret ((t + (l.drop t).idxOf v : Nat) : Int) else .go ())
  | 0, k, t, h => by rw [slices_Index_Hash.l0, if_neg (by simp; omega), List.drop_of_length_le (by omega), if_neg (by simp)]
  | m + 1, k, t, h => by
    have hlt : t < l.length := by omega
    rw [show k + (m + 1) + 1 = k + m + 1 + 1 by omega, slices_Index_Hash.l0, if_pos (by simp; omega), if_pos ⟨by omega, by omega⟩, getD_at hlt, suc t (by omega), List.drop_eq_getElem_cons hlt]
    by_cases he : v = l[t]
    · rw [if_pos (by simp [he]), if_pos (by rw [he]; exact List.mem_cons_self), he, idx_zero]; rfl
    · rw [if_neg (by simpa using he), indexH_l l v hl m k (t + 1) (by omega), idx_succ (Ne.symm he)]
      by_cases hm : v ∈ l.drop (t + 1)
      · rw [if_pos hm, if_pos (List.mem_cons_of_mem _ hm), show t + 1 + (l.drop (t + 1)).idxOf v = t + ((l.drop (t + 1)).idxOf v + 1) by omega]
      · rw [if_neg hm, if_neg (fun h => (List.mem_cons.1 h).elim he hm)]
theorem containsH_ok (l : List H32) (v : H32) (hl : l.length ≤ 1000000) (k : Nat) (hk : l.length < k) : slices_Contains_Hash.f k l v = some (decide (v ∈ l)) := by
  obtain ⟨q, rfl⟩ : ∃ q, k = q + l.length + 1 := ⟨k - l.length - 1, by omega⟩
  have h := indexH_l l v hl l.length q 0 (by omega)
  have e0 : ((0 : Nat) : Int) = 0 := rfl
  rw [e0, List.drop_zero] at h
  unfold slices_Contains_Hash.f slices_Index_Hash.f
  rw [h]
  by_cases hm : v ∈ l
  · rw [if_pos hm]; simp [hm]
  · rw [if_neg hm]; simp [hm]
theorem indexI_l (l : List Int) (v : Int) (hl : l.length ≤ 1000000) : ∀ (m k t : Nat), t + m = l.length → slices_Index_int.l0 l v (k + m + 1) (t : Int) = some (if v ∈ l.drop t then .ret ((t + (l.drop t).idxOf v : Nat) : Int) else .go ())
  | 0, k, t, h => by rw [slices_Index_int.l0, if_neg (by simp; omega), List.drop_of_length_le (by omega), if_neg (by simp)]
  | m + 1, k, t, h => by
    have hlt : t < l.length := by omega
    rw [show k + (m + 1) + 1 = k + m + 1 + 1 by omega, slices_Index_int.l0, if_pos (by simp; omega), if_pos ⟨by omega, by omega⟩, getD_at hlt, suc t (by omega), List.drop_eq_getElem_cons hlt]
    by_cases he : v = l[t]
    · rw [if_pos (by simp [he]), if_pos (by rw [he]; exact List.mem_cons_self), he, idx_zero]; rfl
    · rw [if_neg (by simpa using he), indexI_l l v hl m k (t + 1) (by omega), idx_succ (Ne.symm he)]
      by_cases hm : v ∈ l.drop (t + 1)
      · rw [if_pos hm, if_pos (List.mem_cons_of_mem _ hm), show t + 1 + (l.drop (t + 1)).idxOf v = t + ((l.drop (t + 1)).idxOf v + 1) by omega]
      · rw [if_neg hm, if_neg (fun h => (List.mem_cons.1 h).elim he hm)]
theorem containsI_ok (l : List Int) (v : Int) (hl : l.length ≤ 1000000) (k : Nat) (hk : l.length < k) : slices_Contains_int.f k l v = some (decide (v ∈ l)) := by
  obtain ⟨q, rfl⟩ : ∃ q, k = q + l.length + 1 := ⟨k - l.length - 1, by omega⟩
  have h := indexI_l l v hl l.length q 0 (by omega)
  have e0 : ((0 : Nat) : Int) = 0 := rfl
  rw [e0, List.drop_zero] at h
  unfold slices_Contains_int.f slices_Index_int.f
  rw [h]
  by_cases hm : v ∈ l
  · rw [if_pos hm]; simp [hm]
  · rw [if_neg hm]; simp [hm]
theorem has_l (l : List H32) (v : H32) (hl : l.length ≤ 1000000) : ∀ (m k t : Nat), t + m = l.length → ref40_has.l0 l v (k + m + 1) (t : Int) = some (if v ∈ l.drop t then .ret true else .go ())
  | 0, k, t, h => by rw [ref40_has.l0, if_neg (by simp; omega), List.drop_of_length_le (by omega), if_neg (by simp)]
  | m + 1, k, t, h => by
    have hlt : t < l.length := by omega
    rw [show k + (m + 1) + 1 = k + m + 1 + 1 by omega, ref40_has.l0, if_pos (by simp; omega), if_pos ⟨by omega, by omega⟩, getD_at hlt, suc t (by omega), List.drop_eq_getElem_cons hlt]
    by_cases he : l[t] = v
    · rw [if_pos (by simp [he]), if_pos (by simp [he])]
    · rw [if_neg (by simpa using he), has_l l v hl m k (t + 1) (by omega)]
      by_cases hm : v ∈ l.drop (t + 1)
      · rw [if_pos hm, if_pos (List.mem_cons_of_mem _ hm)]
      · rw [if_neg hm, if_neg (fun h => (List.mem_cons.1 h).elim (fun e => he e.symm) hm)]
theorem has_ok (l : List H32) (v : H32) (hl : l.length ≤ 1000000) (k : Nat) (hk : l.length < k) : ref40_has.f k l v = some (decide (v ∈ l)) := by
  obtain ⟨q, rfl⟩ : ∃ q, k = q + l.length + 1 := ⟨k - l.length - 1, by omega⟩
  have h := has_l l v hl l.length q 0 (by omega)
  have e0 : ((0 : Nat) : Int) = 0 := rfl
  rw [e0, List.drop_zero] at h
  unfold ref40_has.f
  rw [h]
  by_cases hm : v ∈ l
  · rw [if_pos hm]; simp [hm]
  · rw [if_neg hm]; simp [hm]
abbrev sid (x : Stem) : H32 := x.ID
theorem find_l (l : List Stem) (v : H32) (hl : l.length ≤ 1000000) : ∀ (m k t : Nat), t + m = l.length → ref40_find.l0 l v (k + m + 1) (t : Int) = some (if v ∈ (l.map sid).drop t then .ret ((t + ((l.map sid).drop t).idxOf v : Nat) : Int) else .go ())
  | 0, k, t, h => by rw [ref40_find.l0, if_neg (by simp; omega), List.drop_of_length_le (by simp; omega), if_neg (by simp)]
  | m + 1, k, t, h => by
    have hlt : t < l.length := by omega
    have hlt' : t < (l.map sid).length := by simpa using hlt
    rw [show k + (m + 1) + 1 = k + m + 1 + 1 by omega, ref40_find.l0, if_pos (by simp; omega), if_pos ⟨by omega, by omega⟩, getD_at hlt, suc t (by omega), List.drop_eq_getElem_cons hlt', List.getElem_map]
    by_cases he : sid l[t] = v
    · rw [if_pos (by simpa using he), if_pos (by simp [he]), he, idx_zero]; rfl
    · rw [if_neg (by simpa using he), find_l l v hl m k (t + 1) (by omega), idx_succ he]
      by_cases hm : v ∈ (l.map sid).drop (t + 1)
      · rw [if_pos hm, if_pos (List.mem_cons_of_mem _ hm), show t + 1 + ((l.map sid).drop (t + 1)).idxOf v = t + (((l.map sid).drop (t + 1)).idxOf v + 1) by omega]
      · rw [if_neg hm, if_neg (fun h => (List.mem_cons.1 h).elim (fun e => he e.symm) hm)]
theorem find_l0 (l : List Stem) (v : H32) (hl : l.length ≤ 1000000) (k : Nat) (hk : l.length < k) : ref40_find.l0 l v k 0 = some (if v ∈ l.map sid then .ret (((l.map sid).idxOf v : Nat) : Int) else .go ()) := by
  obtain ⟨q, rfl⟩ : ∃ q, k = q + l.length + 1 := ⟨k - l.length - 1, by omega⟩
  have h := find_l l v hl l.length q 0 (by omega)
  have e0 : ((0 : Nat) : Int) = 0 := rfl
  rw [e0, List.drop_zero, Nat.zero_add] at h
  exact h
theorem find_ok (l : List Stem) (v : H32) (hl : l.length ≤ 1000000) (k : Nat) (hk : l.length < k) : ref40_find.f k l v = some (if v ∈ l.map sid then (((l.map sid).idxOf v : Nat) : Int) else -1) := by
  unfold ref40_find.f
  rw [find_l0 l v hl k hk]
  by_cases hm : v ∈ l.map sid
  · rw [if_pos hm, if_pos hm]; rfl
  · rw [if_neg hm, if_neg hm]; rfl
/-! ## soundness -/
theorem okF_step {α : Type} [DecidableEq α] (p : α → Bool) {l : List α} {t : Nat} (h : t < l.length) : okF p (l.take t) (l.drop t) = ((p l[t] && !(decide (l[t] ∈ l.take t))) && okF p (l.take (t + 1)) (l.drop (t + 1))) := by
  rw [List.drop_eq_getElem_cons h, okF, List.take_succ_eq_append_getElem h]
def nn (x : Int) : Bool := !(decide (x < 0))
theorem soundR_l (r : Relay) (hl : r.Routes.length ≤ 1000000) : ∀ (m k t : Nat), t + m = r.Routes.length → relay_sound.l0 r (k + r.Routes.length + m + 1) (t : Int) = some (if okF nn (r.Routes.take t) (r.Routes.drop t) then .go () else .ret false)
  | 0, k, t, h => by rw [relay_sound.l0, if_neg (by simp; omega), List.drop_of_length_le (by omega)]; rfl
  | m + 1, k, t, h => by
    have hlt : t < r.Routes.length := by omega
    rw [show k + r.Routes.length + (m + 1) + 1 = k + r.Routes.length + m + 1 + 1 by omega, relay_sound.l0, if_pos (by simp; omega), if_pos ⟨by omega, by omega⟩, getD_at hlt, suc t (by omega), soundR_l r hl m k (t + 1) (by omega), okF_step nn hlt]
    by_cases h1 : r.Routes[t] < 0
    · rw [if_pos (by simpa using h1), Option.bind_some, if_pos rfl]
      have : nn r.Routes[t] = false := by simp [nn, h1]
      rw [this]; rfl
    · rw [if_neg (by simpa using h1), Int.toNat_natCast, if_pos (show 0 ≤ (t : Int) ∧ (t : Int) ≤ ((r.Routes.length : Nat) : Int) by omega), containsI_ok _ _ (by rw [List.length_take]; omega) _ (by rw [List.length_take]; omega), Option.bind_some, Option.bind_some]
      have : nn r.Routes[t] = true := by simp [nn]; omega
      rw [this]
      by_cases h2 : r.Routes[t] ∈ r.Routes.take t
      · rw [if_pos (by simpa using h2)]; simp [h2]
      · rw [if_neg (by simpa using h2)]; simp [h2]
theorem stemmed_ok (r : Relay) (hl : r.Stems.length ≤ 1000000) : ∀ (m k : Nat) (xs : List H32) (t : Nat), t + m = r.Stems.length → xs.length + m ≤ 1000000 → relay_stemmed.l0 r (k + m + 1) xs (t : Int) = some (xs ++ (r.Stems.map sid).drop t)
  | 0, k, xs, t, h, hx => by rw [relay_stemmed.l0, if_neg (by simp; omega), List.drop_of_length_le (by simp; omega)]; simp
  | m + 1, k, xs, t, h, hx => by
    have hlt : t < r.Stems.length := by omega
    have hlt' : t < (r.Stems.map sid).length := by simpa using hlt
    rw [show k + (m + 1) + 1 = k + m + 1 + 1 by omega, relay_stemmed.l0, if_pos (by simp; omega), if_pos ⟨by omega, by omega⟩, if_pos (by omega), getD_at hlt, suc t (by omega), stemmed_ok r hl m k _ (t + 1) (by omega) (by simp; omega), List.drop_eq_getElem_cons hlt', List.getElem_map, List.append_assoc]
    rfl
theorem concatH_ok (k : Nat) (a b : List H32) (ha : a.length ≤ 1000000) (hb : b.length ≤ 1000000) : slices_Concat_Hash.f k a b = some (a ++ b) := by
  unfold slices_Concat_Hash.f
  have e1 : IntKind.i64.wrap (0 + ((a.length : Nat) : Int)) = ((a.length : Nat) : Int) := by rw [wr (by omega) (by omega)]; omega
  have e2 : IntKind.i64.wrap (((a.length : Nat) : Int) + ((b.length : Nat) : Int)) = ((a.length + b.length : Nat) : Int) := by rw [wr (by omega) (by omega)]; omega
  have e3 : IntKind.i64.wrap (((a.length + b.length : Nat) : Int) - 0) = ((a.length + b.length : Nat) : Int) := by rw [wr (by omega) (by omega)]; omega
  rw [e1, e2, e3, if_neg (by simp), if_neg (by simp; omega)]
  have e4 : (if (decide (((a.length + b.length : Nat) : Int) > 0)) = true then (if 0 ≤ ((a.length + b.length : Nat) : Int) ∧ (0 + ((a.length + b.length : Nat) : Int).toNat) * 32 ≤ 140737488355328 then (if 0 ≤ (0 : Int) ∧ (0 : Int) ≤ (((0 + ((a.length + b.length : Nat) : Int).toNat) : Nat) : Int) then (some ((([] : List H32) ++ List.replicate ((a.length + b.length : Nat) : Int).toNat (Vector.replicate 32 0 : Vector Int 32)).take ((0 : Int).toNat))) else none) else none) else (some ([] : List H32))) = some [] := by
    split
    · rw [if_pos (by omega), if_pos (by omega)]; simp
    · rfl
  rw [e4, Option.bind_some, if_pos (by simp; omega), if_pos (by simp; omega)]
  simp
theorem soundM_l (l : List H32) (hl : l.length ≤ 1000000) : ∀ (m k : Nat) (mp : List (H32 × Bool)) (t : Nat), t + m = l.length → (∀ x, (mget mp x).getD false = decide (x ∈ l.take t)) → relay_sound.l1 l ((l.length : Nat) : Int) (k + m + 1) mp (t : Int) = some (if okF (fun _ => true) (l.take t) (l.drop t) then .go () else .ret false)
  | 0, k, mp, t, h, hmp => by rw [relay_sound.l1, if_neg (by simp; omega), List.drop_of_length_le (by omega)]; rfl
  | m + 1, k, mp, t, h, hmp => by
    have hlt : t < l.length := by omega
    rw [show k + (m + 1) + 1 = k + m + 1 + 1 by omega, relay_sound.l1, if_pos (by simp; omega), if_pos ⟨by omega, by omega⟩, getD_at hlt, hmp, suc t (by omega), okF_step _ hlt]
    by_cases h2 : l[t] ∈ l.take t
    · rw [if_pos (by simpa using h2)]; simp [h2]
    · rw [if_neg (by simpa using h2), soundM_l l hl m k (mput mp l[t] true) (t + 1) (by omega) ?_]
      · simp [h2]
      · intro x
        rw [mget_mput, List.take_succ_eq_append_getElem hlt]
        by_cases hx : x = l[t]
        · rw [if_pos (by simpa using hx)]
          exact (decide_eq_true (List.mem_append.2 (.inr (List.mem_singleton.2 hx)))).symm
        · rw [if_neg (by simpa using hx), hmp x]
          exact decide_eq_decide.2 ⟨fun h => List.mem_append.2 (.inl h), fun h => (List.mem_append.1 h).resolve_right (fun h => hx (List.mem_singleton.1 h))⟩
def soundB (r : Relay) : Bool := (decide (r.Routes.length ≤ 2) && (decide (r.Stems.length ≤ 64) && decide (r.Fluffed.length ≤ 2048))) && (okF nn [] r.Routes && okF (fun _ => true) [] (r.Stems.map sid ++ r.Fluffed))
theorem lens_ok (r : Relay) : (if (decide (((r.Routes.length : Nat) : Int) > 2)) = true then (some true) else (if (decide (((r.Stems.length : Nat) : Int) > 64)) = true then (some true) else (some (decide (((r.Fluffed.length : Nat) : Int) > 2048))))) = some (!(decide (r.Routes.length ≤ 2) && (decide (r.Stems.length ≤ 64) && decide (r.Fluffed.length ≤ 2048)))) := by
  by_cases h1 : r.Routes.length ≤ 2
  · rw [if_neg (by simp; omega)]
    by_cases h2 : r.Stems.length ≤ 64
    · rw [if_neg (by simp; omega)]
      by_cases h3 : r.Fluffed.length ≤ 2048
      · simp [h1, h2, h3]; omega
      · simp [h1, h2, h3]; omega
    · rw [if_pos (by simp; omega)]; simp [h1, h2]
  · rw [if_pos (by simp; omega)]; simp [h1]
theorem soundA (r : Relay) (k : Nat) : relay_sound.f (k + 3000) r = some (soundB r) := by
  unfold relay_sound.f
  rw [lens_ok, Option.bind_some]
  unfold soundB
  by_cases h : (decide (r.Routes.length ≤ 2) && (decide (r.Stems.length ≤ 64) && decide (r.Fluffed.length ≤ 2048))) = true
  · rw [h]
    simp only [Bool.and_eq_true, decide_eq_true_eq] at h
    obtain ⟨h1, h2, h3⟩ := h
    have l0 := soundR_l r (by omega) r.Routes.length (k + 3000 - r.Routes.length - r.Routes.length - 1) 0 (by omega)
    have e0 : ((0 : Nat) : Int) = 0 := rfl
    rw [show k + 3000 - r.Routes.length - r.Routes.length - 1 + r.Routes.length + r.Routes.length + 1 = k + 3000 by omega, e0, List.take_zero, List.drop_zero] at l0
    rw [if_neg (by decide), l0, Option.bind_some]
    by_cases hr : okF nn [] r.Routes = true
    · rw [if_pos hr, hr]
      dsimp only
      have s0 := stemmed_ok r (by omega) r.Stems.length (k + 3000 - r.Stems.length - 1) [] 0 (by omega) (by simp; omega)
      rw [show k + 3000 - r.Stems.length - 1 + r.Stems.length + 1 = k + 3000 by omega, e0, List.drop_zero, List.nil_append] at s0
      have hst : relay_stemmed.f (k + 3000) (Relay.mk r.Epoch r.Diffuse r.Routes r.Stems r.Fluffed) = some (r.Stems.map sid) := by
        unfold relay_stemmed.f
        have : relay_stemmed.l0 (Relay.mk r.Epoch r.Diffuse r.Routes r.Stems r.Fluffed) (k + 3000) ([] : List H32) 0 = _ := s0
        rw [this]; rfl
      have hml : (r.Stems.map sid).length ≤ 64 := by simpa using h2
      have hl : (r.Stems.map sid ++ r.Fluffed).length ≤ 2112 := by rw [List.length_append]; omega
      rw [hst, Option.bind_some, concatH_ok _ _ _ (by omega) (by omega), Option.bind_some, Option.bind_some]
      dsimp only
      have m0 := soundM_l (r.Stems.map sid ++ r.Fluffed) (by omega) (r.Stems.map sid ++ r.Fluffed).length (k + 3000 - (r.Stems.map sid ++ r.Fluffed).length - 1) [] 0 (by omega) (fun x => by simp [mget])
      rw [show k + 3000 - (r.Stems.map sid ++ r.Fluffed).length - 1 + (r.Stems.map sid ++ r.Fluffed).length + 1 = k + 3000 by omega, e0, List.take_zero, List.drop_zero] at m0
      rw [m0, Option.bind_some]
      by_cases hf : okF (fun _ => true) [] (r.Stems.map sid ++ r.Fluffed) = true
      · rw [if_pos hf, hf]; rfl
      · rw [if_neg hf]
        have : okF (fun _ => true) [] (r.Stems.map sid ++ r.Fluffed) = false := by simpa using hf
        rw [this]; rfl
    · rw [if_neg hr]
      have : okF nn [] r.Routes = false := by simpa using hr
      rw [this]; rfl
  · have h' : (decide (r.Routes.length ≤ 2) && (decide (r.Stems.length ≤ 64) && decide (r.Fluffed.length ≤ 2048))) = false := by simpa using h
    rw [h']; rfl

/-! ## the reference's soundness -/
theorem soundR0 (r : Relay) (h2 : r.Routes.length ≤ 2) (k : Nat) : ref40_Sound.l0 r (k + 3) 0 = some (if okF nn [] r.Routes then .go () else .ret false) := by
  have hw1 : IntKind.i64.wrap (0 + 1) = 1 := by decide
  have hw2 : IntKind.i64.wrap (1 + 1) = 2 := by decide
  obtain ⟨e, d, l, s, f⟩ := r
  dsimp only at h2
  match l, h2 with
  | [], _ => rfl
  | [a], _ =>
    rw [ref40_Sound.l0]
    dsimp only
    rw [if_pos (by simp), if_pos (by simp)]
    by_cases ha : a < 0
    · rw [if_pos (by simpa using ha), Option.bind_some, if_pos rfl]
      simp [okF, nn, ha]
    · rw [if_neg (by simpa using ha), if_neg (by decide), Option.bind_some, if_neg (by decide), hw1, ref40_Sound.l0, if_neg (by simp)]
      simp [okF, nn, ha]
  | [a, b], _ =>
    rw [ref40_Sound.l0]
    dsimp only
    rw [if_pos (by simp), if_pos (by simp)]
    by_cases ha : a < 0
    · rw [if_pos (by simpa using ha), Option.bind_some, if_pos rfl]
      simp [okF, nn, ha]
    · rw [if_neg (by simpa using ha), if_neg (by decide), Option.bind_some, if_neg (by decide), hw1, ref40_Sound.l0]
      dsimp only
      rw [if_pos (by simp), if_pos (by simp)]
      by_cases hb : b < 0
      · rw [if_pos (by simpa using hb), Option.bind_some, if_pos rfl]
        simp [okF, nn, ha, hb]
      · rw [if_neg (by simpa using hb), if_pos (by decide), if_pos (by simp), if_pos (by simp), Option.bind_some]
        by_cases hab : a = b
        · rw [if_pos (by simp [hab])]
          simp [okF, nn, hab]
        · rw [if_neg (by simpa using hab), hw2, ref40_Sound.l0, if_neg (by simp)]
          have : ¬ b = a := fun e => hab e.symm
          simp [okF, nn, ha, hb, this]
theorem soundR1 (r : Relay) (hl : r.Fluffed.length ≤ 1000000) : ∀ (m k t : Nat), t + m = r.Fluffed.length → ref40_Sound.l1 r (k + r.Fluffed.length + m + 1) (t : Int) = some (if okF (fun _ => true) (r.Fluffed.take t) (r.Fluffed.drop t) then .go () else .ret false)
  | 0, k, t, h => by rw [ref40_Sound.l1, if_neg (by simp; omega), List.drop_of_length_le (by omega)]; rfl
  | m + 1, k, t, h => by
    have hlt : t < r.Fluffed.length := by omega
    rw [show k + r.Fluffed.length + (m + 1) + 1 = k + r.Fluffed.length + m + 1 + 1 by omega, ref40_Sound.l1, if_pos (by simp; omega), if_pos ⟨by omega, by omega⟩, if_pos ⟨by omega, by omega⟩, getD_at hlt, suc t (by omega), soundR1 r hl m k (t + 1) (by omega), okF_step _ hlt, Int.toNat_natCast, has_ok _ _ (by rw [List.length_take]; omega) _ (by rw [List.length_take]; omega), Option.bind_some]
    by_cases h2 : r.Fluffed[t] ∈ r.Fluffed.take t
    · rw [if_pos (by simpa using h2)]; simp [h2]
    · rw [if_neg (by simpa using h2)]; simp [h2]
theorem idx_take {α : Type} [BEq α] [LawfulBEq α] : ∀ (l : List α) (t : Nat) (h : t < l.length), l.idxOf l[t] = t ↔ l[t] ∉ l.take t
  | [], t, h => by simp at h
  | x :: l, 0, h => by simp [List.idxOf_cons]
  | x :: l, t + 1, h => by
    rw [List.getElem_cons_succ, List.take_succ_cons, List.mem_cons, not_or]
    by_cases hx : x = l[t]'(by simpa using h)
    · rw [hx, idx_zero]; simp
    · rw [idx_succ hx, ← idx_take l t (by simpa using h)]
      constructor
      · intro e; exact ⟨fun e2 => hx e2.symm, by omega⟩
      · intro e; omega
theorem soundR2 (r : Relay) (hl : r.Stems.length ≤ 1000000) (hf : r.Fluffed.length ≤ 1000000) : ∀ (m k t : Nat), t + m = r.Stems.length → ref40_Sound.l2 r (k + r.Stems.length + r.Fluffed.length + m + 1) (t : Int) = some (if okF (fun x => !(decide (x ∈ r.Fluffed))) ((r.Stems.map sid).take t) ((r.Stems.map sid).drop t) then .go () else .ret false)
  | 0, k, t, h => by rw [ref40_Sound.l2, if_neg (by simp; omega), List.drop_of_length_le (by simp; omega)]; rfl
  | m + 1, k, t, h => by
    have hlt : t < r.Stems.length := by omega
    have hlt' : t < (r.Stems.map sid).length := by simpa using hlt
    have hid : (r.Stems[t]).ID = (r.Stems.map sid)[t] := by rw [List.getElem_map]
    rw [show k + r.Stems.length + r.Fluffed.length + (m + 1) + 1 = k + r.Stems.length + r.Fluffed.length + m + 1 + 1 by omega, ref40_Sound.l2, if_pos (by simp; omega), if_pos ⟨by omega, by omega⟩, if_pos ⟨by omega, by omega⟩, getD_at hlt, suc t (by omega), soundR2 r hl hf m k (t + 1) (by omega), okF_step _ hlt', hid, find_ok _ _ hl _ (by omega), if_pos (List.getElem_mem hlt'), Option.bind_some, has_ok _ _ hf _ (by omega)]
    have hi := idx_take (r.Stems.map sid) t hlt'
    by_cases h2 : (r.Stems.map sid)[t] ∈ (r.Stems.map sid).take t
    · have hne : ¬ (((r.Stems.map sid).idxOf (r.Stems.map sid)[t] : Nat) : Int) = (t : Int) := fun e => (hi.1 (by omega)) h2
      rw [if_pos (by simpa using hne), Option.bind_some, if_pos rfl]
      simp only [h2, decide_true, Bool.not_true, Bool.and_false, Bool.false_and]
      rfl
    · have he : (((r.Stems.map sid).idxOf (r.Stems.map sid)[t] : Nat) : Int) = (t : Int) := by rw [hi.2 h2]
      rw [he, if_neg (by simp), Option.bind_some, Option.bind_some]
      by_cases h3 : (r.Stems.map sid)[t] ∈ r.Fluffed
      · rw [if_pos (by simpa using h3)]
        simp only [h3, decide_true, Bool.not_true, Bool.false_and]
        rfl
      · rw [if_neg (by simpa using h3)]
        simp only [h2, h3, decide_false, Bool.not_false, Bool.true_and]
theorem okF_split (a b : List H32) : okF (fun _ => true) [] (a ++ b) = (okF (fun _ => true) [] b && okF (fun x => !(decide (x ∈ b))) [] a) := by
  rw [Bool.eq_iff_iff, Bool.and_eq_true, okF_iff, okF_iff, okF_iff, List.nodup_append]
  simp only [List.not_mem_nil, not_false_eq_true, and_self, implies_true, true_and, Bool.not_eq_true', decide_eq_false_iff_not, and_true]
  constructor
  · rintro ⟨h1, h2, h3⟩
    exact ⟨h2, fun x hx hb => h3 x hx x hb rfl, h1⟩
  · rintro ⟨h1, h2, h3⟩
    exact ⟨h3, h1, fun x hx y hy e => h2 x hx (e ▸ hy)⟩
theorem soundRf (r : Relay) (k : Nat) : ref40_Sound.f (k + 3000 + 3000) r = some (soundB r) := by
  unfold ref40_Sound.f
  rw [lens_ok, Option.bind_some]
  unfold soundB
  by_cases h : (decide (r.Routes.length ≤ 2) && (decide (r.Stems.length ≤ 64) && decide (r.Fluffed.length ≤ 2048))) = true
  · rw [h]
    simp only [Bool.and_eq_true, decide_eq_true_eq] at h
    obtain ⟨h1, h2, h3⟩ := h
    have e0 : ((0 : Nat) : Int) = 0 := rfl
    have l1 := soundR1 r (by omega) r.Fluffed.length (k + 3000 + 3000 - r.Fluffed.length - r.Fluffed.length - 1) 0 (by omega)
    rw [show k + 3000 + 3000 - r.Fluffed.length - r.Fluffed.length - 1 + r.Fluffed.length + r.Fluffed.length + 1 = k + 3000 + 3000 by omega, e0, List.take_zero, List.drop_zero] at l1
    have l2 := soundR2 r (by omega) (by omega) r.Stems.length (k + 3000 + 3000 - r.Stems.length - r.Fluffed.length - r.Stems.length - 1) 0 (by omega)
    rw [show k + 3000 + 3000 - r.Stems.length - r.Fluffed.length - r.Stems.length - 1 + r.Stems.length + r.Fluffed.length + r.Stems.length + 1 = k + 3000 + 3000 by omega, e0, List.take_zero, List.drop_zero] at l2
    have l0 := soundR0 r h1 (k + 2997 + 3000)
    rw [show k + 2997 + 3000 + 3 = k + 3000 + 3000 by omega] at l0
    rw [if_neg (by decide), l0, Option.bind_some, okF_split]
    cases okF nn [] r.Routes with
    | false => rfl
    | true =>
      rw [if_pos rfl]
      dsimp only
      rw [l1, Option.bind_some]
      cases okF (fun _ => true) [] r.Fluffed with
      | false => rfl
      | true =>
        rw [if_pos rfl]
        dsimp only
        rw [l2, Option.bind_some]
        cases okF (fun x => !(decide (x ∈ r.Fluffed))) [] (r.Stems.map sid) with
        | false => rfl
        | true => rfl
  · have h' : (decide (r.Routes.length ≤ 2) && (decide (r.Stems.length ≤ 64) && decide (r.Fluffed.length ≤ 2048))) = false := by simpa using h
    rw [h']; rfl

/-! ## rows from which some are struck -/
theorem filt_step {α : Type} (p : α → Bool) {l : List α} {j : Nat} (h : j < l.length) : (l.take (j + 1)).filter p = (l.take j).filter p ++ (if p l[j] then [l[j]] else []) := by
  rw [List.take_succ_eq_append_getElem h, List.filter_append]
  congr 1
  cases hp : p l[j] <;> simp [hp]
/-- one step of the compaction -/
theorem comp_step {α : Type} (p : α → Bool) {l xs : List α} {i j : Nat} (hx : xs.length = l.length) (hij : i < j) (hj : j < l.length) (h1 : xs.take i = (l.take j).filter p) (h2 : xs.drop j = l.drop j) :
    xs[j]'(by omega) = l[j] ∧ (p l[j] = true → (xs.set i l[j]).take (i + 1) = (l.take (j + 1)).filter p ∧ (xs.set i l[j]).drop (j + 1) = l.drop (j + 1)) ∧ (p l[j] = false → xs.take i = (l.take (j + 1)).filter p ∧ xs.drop (j + 1) = l.drop (j + 1)) := by
  have hd : xs.drop (j + 1) = l.drop (j + 1) := by
    have := congrArg (List.drop 1) h2
    rwa [List.drop_drop, List.drop_drop] at this
  refine ⟨?_, fun hp => ⟨?_, ?_⟩, fun hp => ⟨?_, hd⟩⟩
  · have h3 : (xs.drop j)[0]? = (l.drop j)[0]? := by rw [h2]
    rw [List.getElem?_drop, List.getElem?_drop, Nat.add_zero, List.getElem?_eq_getElem (by omega), List.getElem?_eq_getElem hj] at h3
    exact Option.some.inj h3
  · rw [filt_step p hj, hp, if_pos rfl, ← h1, List.take_succ_eq_append_getElem (by rw [List.length_set]; omega), List.getElem_set_self]
    congr 1
    rw [List.take_set_of_le (Nat.le_refl i)]
  · rw [List.drop_set_of_lt (by omega)]
    exact hd
  · rw [filt_step p hj, hp, if_neg (by decide), List.append_nil, h1]
def keepId (id : H32) (x : Stem) : Bool := !(x.ID == id)
theorem fluff_l (id : H32) (r : Relay) (hl : r.Stems.length ≤ 1000000) : ∀ (m k : Nat) (xs : List Stem) (i j : Nat), j + m = r.Stems.length → i < j → xs.length = r.Stems.length → xs.take i = (r.Stems.take j).filter (keepId id) → xs.drop j = r.Stems.drop j →
    ∃ (ys : List Stem) (i' : Nat), relay_Fluff.l1 id r (k + m + 1) xs (i : Int) (j : Int) = some (ys, (i' : Int)) ∧ ys.length = r.Stems.length ∧ i' ≤ r.Stems.length ∧ ys.take i' = r.Stems.filter (keepId id) ∧ i' = (r.Stems.filter (keepId id)).length
  | 0, k, xs, i, j, h, hij, hx, h1, h2 => by
    rw [List.take_of_length_le (l := r.Stems) (by omega)] at h1
    refine ⟨xs, i, by rw [relay_Fluff.l1, if_neg (by simp; omega)], hx, by omega, h1, ?_⟩
    rw [← h1, List.length_take]
    omega
  | m + 1, k, xs, i, j, h, hij, hx, h1, h2 => by
    have hj : j < r.Stems.length := by omega
    obtain ⟨c1, c2, c3⟩ := comp_step (keepId id) hx hij hj h1 h2
    have hg : xs.getD (j : Int).toNat Stem.z = r.Stems[j] := by rw [getD_at (by omega), c1]
    rw [show k + (m + 1) + 1 = k + m + 1 + 1 by omega, relay_Fluff.l1, hg, if_pos (by simp; omega), if_pos ⟨by omega, by omega⟩, suc j (by omega), suc i (by omega), Int.toNat_natCast]
    cases hk : keepId id r.Stems[j] with
    | true =>
      have hk' : (!(r.Stems[j].ID == id)) = true := hk
      obtain ⟨d1, d2⟩ := c2 hk
      rw [if_pos hk', if_pos ⟨by omega, by omega⟩, Option.bind_some]
      exact fluff_l id r hl m k (xs.set i r.Stems[j]) (i + 1) (j + 1) (by omega) (by omega) (by rw [List.length_set]; exact hx) d1 d2
    | false =>
      have hk' : ¬ (!(r.Stems[j].ID == id)) = true := by
        intro h
        have : keepId id r.Stems[j] = true := h
        rw [hk] at this; cases this
      obtain ⟨d1, d2⟩ := c3 hk
      rw [if_neg hk', Option.bind_some]
      exact fluff_l id r hl m k xs i (j + 1) (by omega) (by omega) hx d1 d2
theorem fluff_find (id : H32) (r : Relay) : ∀ (k : Nat) (t : Int), relay_Fluff.l0 id r k t = ref40_find.l0 r.Stems id k t
  | 0, _ => rfl
  | k + 1, t => by
    rw [relay_Fluff.l0, ref40_find.l0]
    simp only [fluff_find id r k]
theorem filter_none (id : H32) (l : List Stem) (h : id ∉ l.map sid) : l.filter (keepId id) = l := by
  rw [List.filter_eq_self]
  intro x hx
  have : x.ID ≠ id := fun e => h (List.mem_map.2 ⟨x, hx, e⟩)
  simpa [keepId] using this
theorem filter_first (id : H32) : ∀ (l : List Stem), id ∈ l.map sid → (l.take ((l.map sid).idxOf id + 1)).filter (keepId id) = l.take ((l.map sid).idxOf id)
  | [], h => by simp at h
  | x :: l, h => by
    rw [List.map_cons] at h ⊢
    by_cases he : sid x = id
    · rw [← he, idx_zero]
      simp [keepId]
    · rw [idx_succ he, List.take_succ_cons, List.take_succ_cons, List.filter_cons_of_pos (by simpa [keepId] using he), filter_first id l ((List.mem_cons.1 h).resolve_left (fun e => he e.symm))]
/-- what is left when one is struck whose number stands once -/
theorem filter_once (id : H32) (l : List Stem) (hn : (l.map sid).Nodup) (h : id ∈ l.map sid) : l.filter (keepId id) = l.take ((l.map sid).idxOf id) ++ l.drop ((l.map sid).idxOf id + 1) := by
  have hlt : (l.map sid).idxOf id < (l.map sid).length := List.idxOf_lt_length_iff.2 h
  conv => lhs; rw [← List.take_append_drop ((l.map sid).idxOf id + 1) l, List.filter_append, filter_first id l h]
  congr 1
  apply filter_none
  rw [List.map_drop]
  intro hm
  have hd := hn
  rw [← List.take_append_drop ((l.map sid).idxOf id + 1) (l.map sid), List.nodup_append] at hd
  refine hd.2.2 id ?_ id hm rfl
  have : (l.map sid)[(l.map sid).idxOf id] = id := List.getElem_idxOf hlt
  rw [List.take_succ_eq_append_getElem hlt, this]
  simp
def stripped (id : H32) (r : Relay) : Relay := ⟨r.Epoch, r.Diffuse, r.Routes, r.Stems.filter (keepId id), r.Fluffed ++ [id]⟩
def fluffV (r : Relay) (id : H32) : Relay × Int :=
  if !(soundB r) then (Relay.mk 0 false [] [] [], 6) else if id ∈ r.Fluffed then (Relay.mk 0 false [] [] [], 150) else if 2048 ≤ r.Fluffed.length then (Relay.mk 0 false [] [] [], 380) else (stripped id r, 0)
theorem fluffV_ok {r : Relay} (id : H32) (h : soundB r = true) : fluffV r id = if id ∈ r.Fluffed then (Relay.mk 0 false [] [] [], 150) else if 2048 ≤ r.Fluffed.length then (Relay.mk 0 false [] [] [], 380) else (stripped id r, 0) := by
  unfold fluffV
  rw [h]
  rfl
theorem fluffV_no {r : Relay} (id : H32) (h : soundB r = false) : fluffV r id = (Relay.mk 0 false [] [] [], 6) := by
  unfold fluffV
  rw [h]
  rfl
theorem sound_lens {r : Relay} (h : soundB r = true) : r.Routes.length ≤ 2 ∧ r.Stems.length ≤ 64 ∧ r.Fluffed.length ≤ 2048 ∧ (r.Stems.map sid ++ r.Fluffed).Nodup := by
  unfold soundB at h
  simp only [Bool.and_eq_true, decide_eq_true_eq] at h
  exact ⟨h.1.1, h.1.2.1, h.1.2.2, ((okF_iff _ _ _).1 h.2.2).2⟩
theorem clone_ok (k : Nat) (r : Relay) (h1 : r.Routes.length ≤ 1000000) (h2 : r.Stems.length ≤ 1000000) (h3 : r.Fluffed.length ≤ 1000000) : relay_clone.f k r = some r ∧ ref40_Copied.f k r = some r := by
  constructor
  · unfold relay_clone.f slices_Clone_int.f slices_Clone_Stem.f slices_Clone_Hash.f
    rw [if_pos (by omega), Option.bind_some, if_pos (by omega), Option.bind_some, if_pos (by omega)]
    rfl
  · unfold ref40_Copied.f
    rw [if_pos (by omega), if_pos (by omega), if_pos (by omega)]
    rfl
theorem fluffA (r : Relay) (id : H32) (k : Nat) : relay_Fluff.f (k + 3000) r id = some (fluffV r id) := by
  unfold relay_Fluff.f
  have hs : relay_sound.f (k + 3000) (Relay.mk r.Epoch r.Diffuse r.Routes r.Stems r.Fluffed) = some (soundB r) := soundA r k
  rw [hs, Option.bind_some]
  cases hb : soundB r with
  | false => rw [fluffV_no id hb]; rfl
  | true =>
    obtain ⟨h1, h2, h3, h4⟩ := sound_lens hb
    rw [fluffV_ok id hb, if_neg (by decide), containsH_ok _ _ (by omega) _ (by omega), Option.bind_some]
    by_cases hf : id ∈ r.Fluffed
    · rw [if_pos (by simpa using hf), if_pos hf]
    · rw [if_neg (by simpa using hf), if_neg hf]
      by_cases hl : 2048 ≤ r.Fluffed.length
      · rw [if_pos (by simp; omega), if_pos hl]
      · rw [if_neg (by simp; omega), if_neg hl]
        have hc : relay_clone.f (k + 3000) (Relay.mk r.Epoch r.Diffuse r.Routes r.Stems r.Fluffed) = some r := (clone_ok (k + 3000) r (by omega) (by omega) (by omega)).1
        rw [hc, Option.bind_some]
        have hfi := find_l0 r.Stems id (by omega) (k + 3000) (by omega)
        rw [fluff_find, hfi]
        have hfin : ∀ xs : List Stem, xs = r.Stems.filter (keepId id) → (if (r.Fluffed.length + 1) * 32 ≤ 140737488355328 then (some ((Relay.mk r.Epoch r.Diffuse r.Routes xs (r.Fluffed ++ [id])), (0 : Int))) else none) = some (stripped id r, 0) := fun xs hx => by
          rw [if_pos (by omega), hx]; rfl
        by_cases hm : id ∈ r.Stems.map sid
        · rw [if_pos hm, Option.bind_some]
          dsimp only
          rw [Option.bind_some, if_neg (by simp)]
          have hlt : (r.Stems.map sid).idxOf id < r.Stems.length := by have := List.idxOf_lt_length_iff.2 hm; simpa using this
          rw [suc _ (by omega)]
          obtain ⟨ys, i', e, y1, y2, y3, y4⟩ := fluff_l id r (by omega) (r.Stems.length - ((r.Stems.map sid).idxOf id + 1)) (k + 3000 - (r.Stems.length - ((r.Stems.map sid).idxOf id + 1)) - 1) r.Stems ((r.Stems.map sid).idxOf id) ((r.Stems.map sid).idxOf id + 1) (by omega) (by omega) rfl (filter_first id r.Stems hm).symm rfl
          rw [show k + 3000 - (r.Stems.length - ((r.Stems.map sid).idxOf id + 1)) - 1 + (r.Stems.length - ((r.Stems.map sid).idxOf id + 1)) + 1 = k + 3000 by omega] at e
          rw [e, Option.bind_some]
          dsimp only
          rw [if_pos ⟨by omega, by omega⟩, if_pos ⟨by omega, by omega⟩, Option.bind_some, Int.toNat_natCast]
          refine hfin _ ?_
          rw [List.take_left' (by rw [List.length_take]; omega), y3]
        · rw [if_neg hm, Option.bind_some]
          dsimp only
          rw [Option.bind_some, if_pos (by decide), Option.bind_some]
          exact hfin _ (filter_none id r.Stems hm).symm
theorem fluffR (r : Relay) (id : H32) (k : Nat) : ref40_Fluff.f (k + 3000 + 3000) r id = some (fluffV r id) := by
  unfold ref40_Fluff.f
  have hs : ref40_Sound.f (k + 3000 + 3000) (Relay.mk r.Epoch r.Diffuse r.Routes r.Stems r.Fluffed) = some (soundB r) := soundRf r k
  rw [hs, Option.bind_some]
  cases hb : soundB r with
  | false => rw [fluffV_no id hb]; rfl
  | true =>
    obtain ⟨h1, h2, h3, h4⟩ := sound_lens hb
    rw [fluffV_ok id hb, if_neg (by decide), has_ok _ _ (by omega) _ (by omega), Option.bind_some]
    by_cases hf : id ∈ r.Fluffed
    · rw [if_pos (by simpa using hf), if_pos hf]
    · rw [if_neg (by simpa using hf), if_neg hf]
      by_cases hl : 2048 ≤ r.Fluffed.length
      · rw [if_pos (by simp; omega), if_pos hl]
      · rw [if_neg (by simp; omega), if_neg hl]
        have hc : ref40_Copied.f (k + 3000 + 3000) (Relay.mk r.Epoch r.Diffuse r.Routes r.Stems r.Fluffed) = some r := (clone_ok (k + 3000 + 3000) r (by omega) (by omega) (by omega)).2
        rw [hc, Option.bind_some, find_ok r.Stems id (by omega) (k + 3000 + 3000) (by omega), Option.bind_some]
        have hfin : ∀ xs : List Stem, xs = r.Stems.filter (keepId id) → (if (r.Fluffed.length + 1) * 32 ≤ 140737488355328 then (some ((Relay.mk r.Epoch r.Diffuse r.Routes xs (r.Fluffed ++ [id])), (0 : Int))) else none) = some (stripped id r, 0) := fun xs hx => by
          rw [if_pos (by omega), hx]; rfl
        by_cases hm : id ∈ r.Stems.map sid
        · have hlt : (r.Stems.map sid).idxOf id < r.Stems.length := by have := List.idxOf_lt_length_iff.2 hm; simpa using this
          rw [if_pos hm, if_pos (by simp), suc _ (by omega), if_pos ⟨by omega, by omega⟩, if_pos ⟨by omega, by omega⟩, Int.toNat_natCast, Int.toNat_natCast, if_pos (by omega), if_pos (by omega), Option.bind_some]
          exact hfin _ (filter_once id r.Stems (List.nodup_append.1 h4).1 hm).symm
        · rw [if_neg hm, if_neg (by decide), Option.bind_some]
          exact hfin _ (filter_none id r.Stems hm).symm

/-! ## those that are due -/
def late (now : Int) (x : Stem) : Bool := !(decide (x.Due ≤ now))
def due (now : Int) (x : Stem) : Bool := decide (x.Due ≤ now)
def dueIds (now : Int) (l : List Stem) : List H32 := (l.filter (due now)).map sid
theorem due_step (now : Int) {l : List Stem} {j : Nat} (h : j < l.length) : dueIds now (l.take (j + 1)) = dueIds now (l.take j) ++ (if due now l[j] then [l[j].ID] else []) := by
  unfold dueIds
  rw [filt_step _ h, List.map_append]
  congr 1
  cases due now l[j] <;> rfl
theorem due_none (now : Int) {l : List Stem} {n : Nat} (h : ∀ x ∈ l.take n, due now x = false) : dueIds now (l.take n) = [] ∧ (l.take n).filter (late now) = l.take n := by
  constructor
  · unfold dueIds
    rw [List.filter_eq_nil_iff.2 (fun x hx => by rw [h x hx]; decide)]
    rfl
  · rw [List.filter_eq_self]
    intro x hx
    have := h x hx
    unfold due at this
    unfold late
    rw [this]
    rfl
/-- the first one that is due -/
theorem due0 (now : Int) (r : Relay) (hl : r.Stems.length ≤ 1000000) : ∀ (m k t : Nat), t + m = r.Stems.length → (∀ x ∈ r.Stems.take t, due now x = false) →
    (∃ (i : Nat) (hi : i < r.Stems.length), relay_Due.l0 now r (k + m + 1) [] (t : Int) = some (.ret ([r.Stems[i].ID], (i : Int))) ∧ due now r.Stems[i] = true ∧ ∀ x ∈ r.Stems.take i, due now x = false) ∨
    (relay_Due.l0 now r (k + m + 1) [] (t : Int) = some (.go []) ∧ ∀ x ∈ r.Stems, due now x = false)
  | 0, k, t, h, hn => by
    rw [List.take_of_length_le (by omega)] at hn
    exact .inr ⟨by rw [relay_Due.l0, if_neg (by simp; omega)], hn⟩
  | m + 1, k, t, h, hn => by
    have hlt : t < r.Stems.length := by omega
    rw [show k + (m + 1) + 1 = k + m + 1 + 1 by omega, relay_Due.l0, getD_at hlt, if_pos (by simp; omega), if_pos ⟨by omega, by omega⟩, suc t (by omega)]
    cases hd : due now r.Stems[t] with
    | true =>
      have hd' : decide (r.Stems[t].Due ≤ now) = true := hd
      refine .inl ⟨t, hlt, ?_, hd, hn⟩
      rw [if_pos hd', if_pos (by decide), Option.bind_some, if_pos hd']
      rfl
    | false =>
      have hd' : decide (r.Stems[t].Due ≤ now) = false := hd
      rw [hd', if_neg (by decide), Option.bind_some, if_neg (by decide)]
      refine due0 now r hl m k (t + 1) (by omega) ?_
      intro x hx
      rw [List.take_succ_eq_append_getElem hlt] at hx
      rcases List.mem_append.1 hx with h1 | h1
      · exact hn x h1
      · rw [List.mem_singleton.1 h1]; exact hd
theorem due_l (now : Int) (r : Relay) (hl : r.Stems.length ≤ 1000000) : ∀ (m k : Nat) (xs : List Stem) (hs : List H32) (i j : Nat), j + m = r.Stems.length → i < j → xs.length = r.Stems.length → xs.take i = (r.Stems.take j).filter (late now) → xs.drop j = r.Stems.drop j → hs = dueIds now (r.Stems.take j) →
    ∃ (ys : List Stem) (i' : Nat), relay_Due.l1 now r (k + m + 1) xs hs (i : Int) (j : Int) = some (ys, (i' : Int), dueIds now r.Stems) ∧ ys.length = r.Stems.length ∧ i' ≤ r.Stems.length ∧ ys.take i' = r.Stems.filter (late now)
  | 0, k, xs, hs, i, j, h, hij, hx, h1, h2, h3 => by
    rw [List.take_of_length_le (l := r.Stems) (by omega)] at h1 h3
    subst h3
    exact ⟨xs, i, by rw [relay_Due.l1, if_neg (by simp; omega)], hx, by omega, h1⟩
  | m + 1, k, xs, hs, i, j, h, hij, hx, h1, h2, h3 => by
    have hj : j < r.Stems.length := by omega
    obtain ⟨c1, c2, c3⟩ := comp_step (late now) hx hij hj h1 h2
    have hg : xs.getD (j : Int).toNat Stem.z = r.Stems[j] := by rw [getD_at (by omega), c1]
    have hsl : hs.length ≤ j := by
      rw [h3]; unfold dueIds
      rw [List.length_map]
      exact Nat.le_trans (List.length_filter_le _ _) (by rw [List.length_take]; omega)
    have hst := due_step now hj
    rw [← h3] at hst
    rw [show k + (m + 1) + 1 = k + m + 1 + 1 by omega, relay_Due.l1, hg, if_pos (by simp; omega), if_pos ⟨by omega, by omega⟩, suc j (by omega), suc i (by omega), Int.toNat_natCast]
    cases hd : due now r.Stems[j] with
    | true =>
      have hd' : decide (r.Stems[j].Due ≤ now) = true := hd
      have hk : late now r.Stems[j] = false := by unfold late; rw [hd']; rfl
      obtain ⟨d1, d2⟩ := c3 hk
      rw [hd, if_pos rfl] at hst
      rw [hd', if_pos rfl, if_pos (by omega), Option.bind_some, if_neg (by decide), Option.bind_some]
      exact due_l now r hl m k xs _ i (j + 1) (by omega) (by omega) hx d1 d2 hst.symm
    | false =>
      have hd' : decide (r.Stems[j].Due ≤ now) = false := hd
      have hk : late now r.Stems[j] = true := by unfold late; rw [hd']; rfl
      obtain ⟨d1, d2⟩ := c2 hk
      rw [hd, if_neg (by decide), List.append_nil] at hst
      rw [hd', if_neg (by decide), Option.bind_some, if_pos (by decide), if_pos ⟨by omega, by omega⟩, Option.bind_some]
      exact due_l now r hl m k (xs.set i r.Stems[j]) _ (i + 1) (j + 1) (by omega) (by omega) (by rw [List.length_set]; exact hx) d1 d2 hst.symm
def dueV (r : Relay) (now : Int) : Relay × List H32 :=
  if soundB r then (⟨r.Epoch, r.Diffuse, r.Routes, r.Stems.filter (late now), r.Fluffed⟩, dueIds now r.Stems) else (r, [])
theorem dueV_ok {r : Relay} (now : Int) (h : soundB r = true) : dueV r now = (⟨r.Epoch, r.Diffuse, r.Routes, r.Stems.filter (late now), r.Fluffed⟩, dueIds now r.Stems) := by
  unfold dueV; rw [h]; rfl
theorem dueV_no {r : Relay} (now : Int) (h : soundB r = false) : dueV r now = (r, []) := by
  unfold dueV; rw [h]; rfl
theorem dueA (r : Relay) (now : Int) (b1 : r.Routes.length ≤ 1000000) (b2 : r.Stems.length ≤ 1000000) (b3 : r.Fluffed.length ≤ 1000000) (k : Nat) : relay_Due.f (k + 3000) r now = some (dueV r now) := by
  unfold relay_Due.f
  have hc : relay_clone.f (k + 3000) (Relay.mk r.Epoch r.Diffuse r.Routes r.Stems r.Fluffed) = some r := (clone_ok (k + 3000) r b1 b2 b3).1
  have hs : relay_sound.f (k + 3000) (Relay.mk r.Epoch r.Diffuse r.Routes r.Stems r.Fluffed) = some (soundB r) := soundA r k
  rw [hc, Option.bind_some, hs, Option.bind_some]
  cases hb : soundB r with
  | false => rw [dueV_no now hb]; rfl
  | true =>
    obtain ⟨h1, h2, h3, h4⟩ := sound_lens hb
    rw [dueV_ok now hb, if_neg (by decide)]
    have e0 : ((0 : Nat) : Int) = 0 := rfl
    have d0 := due0 now r (by omega) r.Stems.length (k + 3000 - r.Stems.length - 1) 0 (by omega) (by simp)
    rw [show k + 3000 - r.Stems.length - 1 + r.Stems.length + 1 = k + 3000 by omega, e0] at d0
    rcases d0 with ⟨i, hi, e, hd, hn⟩ | ⟨e, hn⟩
    · obtain ⟨n1, n2⟩ := due_none now hn
      have f1 : (r.Stems.take (i + 1)).filter (late now) = r.Stems.take i := by
        rw [filt_step _ hi, n2]
        have : late now r.Stems[i] = false := by unfold late; unfold due at hd; rw [hd]; rfl
        rw [this]; simp
      have f2 : dueIds now (r.Stems.take (i + 1)) = [r.Stems[i].ID] := by
        rw [due_step now hi, n1, hd]; rfl
      obtain ⟨ys, i', e2, y1, y2, y3⟩ := due_l now r (by omega) (r.Stems.length - (i + 1)) (k + 3000 - (r.Stems.length - (i + 1)) - 1) r.Stems [r.Stems[i].ID] i (i + 1) (by omega) (by omega) rfl f1.symm rfl f2.symm
      rw [show k + 3000 - (r.Stems.length - (i + 1)) - 1 + (r.Stems.length - (i + 1)) + 1 = k + 3000 by omega] at e2
      rw [e, Option.bind_some]
      dsimp only
      rw [Option.bind_some]
      dsimp only
      rw [if_neg (by simp), suc i (by omega), e2, Option.bind_some]
      dsimp only
      rw [if_pos ⟨by omega, by omega⟩, if_pos ⟨by omega, by omega⟩, Option.bind_some]
      dsimp only
      rw [Option.bind_some, Int.toNat_natCast, List.take_left' (by rw [List.length_take]; omega), y3]
    · have hn' : ∀ x ∈ r.Stems.take r.Stems.length, due now x = false := by rw [List.take_length]; exact hn
      obtain ⟨n1, n2⟩ := due_none now hn'
      rw [List.take_length] at n1 n2
      rw [e, Option.bind_some]
      dsimp only
      rw [Option.bind_some]
      dsimp only
      rw [if_pos (by decide), Option.bind_some]
      dsimp only
      rw [Option.bind_some, n1, n2]
theorem dueR_l (r : Relay) (now : Int) (hl : r.Stems.length ≤ 1000000) : ∀ (m k t : Nat), t + m = r.Stems.length → ref40_Due.l0 r now (k + m + 1) ((r.Stems.take t).filter (late now)) (dueIds now (r.Stems.take t)) (t : Int) = some (r.Stems.filter (late now), dueIds now r.Stems)
  | 0, k, t, h => by rw [ref40_Due.l0, if_neg (by simp; omega), List.take_of_length_le (l := r.Stems) (by omega)]
  | m + 1, k, t, h => by
    have hlt : t < r.Stems.length := by omega
    have b1 : ((r.Stems.take t).filter (late now)).length ≤ t := Nat.le_trans (List.length_filter_le _ _) (by rw [List.length_take]; omega)
    have b2 : (dueIds now (r.Stems.take t)).length ≤ t := by
      unfold dueIds
      rw [List.length_map]
      exact Nat.le_trans (List.length_filter_le _ _) (by rw [List.length_take]; omega)
    have ih := dueR_l r now hl m k (t + 1) (by omega)
    rw [due_step now hlt, filt_step _ hlt] at ih
    rw [show k + (m + 1) + 1 = k + m + 1 + 1 by omega, ref40_Due.l0, getD_at hlt, if_pos (by simp; omega), if_pos ⟨by omega, by omega⟩, suc t (by omega)]
    cases hd : due now r.Stems[t] with
    | true =>
      have hd' : decide (r.Stems[t].Due ≤ now) = true := hd
      have hk : late now r.Stems[t] = false := by unfold late; rw [hd']; rfl
      rw [hd, hk, if_pos rfl, if_neg (by decide), List.append_nil] at ih
      rw [hd', if_pos rfl, if_pos ⟨by omega, by omega⟩, if_pos (by omega), Option.bind_some]
      exact ih
    | false =>
      have hd' : decide (r.Stems[t].Due ≤ now) = false := hd
      have hk : late now r.Stems[t] = true := by unfold late; rw [hd']; rfl
      rw [hd, hk, if_pos rfl, if_neg (by decide), List.append_nil] at ih
      rw [hd', if_neg (by decide), if_pos ⟨by omega, by omega⟩, if_pos (by omega), Option.bind_some]
      exact ih
theorem dueR (r : Relay) (now : Int) (b1 : r.Routes.length ≤ 1000000) (b2 : r.Stems.length ≤ 1000000) (b3 : r.Fluffed.length ≤ 1000000) (k : Nat) : ref40_Due.f (k + 3000 + 3000) r now = some (dueV r now) := by
  unfold ref40_Due.f
  have hc : ref40_Copied.f (k + 3000 + 3000) (Relay.mk r.Epoch r.Diffuse r.Routes r.Stems r.Fluffed) = some r := (clone_ok (k + 3000 + 3000) r b1 b2 b3).2
  have hs : ref40_Sound.f (k + 3000 + 3000) (Relay.mk r.Epoch r.Diffuse r.Routes r.Stems r.Fluffed) = some (soundB r) := soundRf r k
  rw [hc, Option.bind_some, hs, Option.bind_some]
  cases hb : soundB r with
  | false => rw [dueV_no now hb]; rfl
  | true =>
    obtain ⟨h1, h2, h3, h4⟩ := sound_lens hb
    rw [dueV_ok now hb, if_neg (by decide)]
    have l0 := dueR_l r now (by omega) r.Stems.length (k + 3000 + 3000 - r.Stems.length - 1) 0 (by omega)
    have e0 : ((0 : Nat) : Int) = 0 := rfl
    rw [show k + 3000 + 3000 - r.Stems.length - 1 + r.Stems.length + 1 = k + 3000 + 3000 by omega, e0, List.take_zero] at l0
    have l0' : ref40_Due.l0 r now (k + 3000 + 3000) ([] : List Stem) ([] : List H32) 0 = _ := l0
    rw [l0', Option.bind_some]
/-! ## likeness -/
theorem sameI_l (a : List Int) (ha : a.length ≤ 1000000) : ∀ (m k t : Nat), t + m = a.length → ref40_SameInts.l0 a a (k + m + 1) (t : Int) = some (.go ())
  | 0, k, t, h => by rw [ref40_SameInts.l0, if_neg (by simp; omega)]
  | m + 1, k, t, h => by
    have hlt : t < a.length := by omega
    rw [show k + (m + 1) + 1 = k + m + 1 + 1 by omega, ref40_SameInts.l0, if_pos (by simp; omega), if_pos ⟨by omega, by omega⟩, if_pos ⟨by omega, by omega⟩, if_neg (by simp), suc t (by omega), sameI_l a ha m k (t + 1) (by omega)]
theorem sameI (a : List Int) (ha : a.length ≤ 1000000) (k : Nat) (hk : a.length < k) : ref40_SameInts.f k a a = some true := by
  have h := sameI_l a ha a.length (k - a.length - 1) 0 (by omega)
  have e0 : ((0 : Nat) : Int) = 0 := rfl
  rw [show k - a.length - 1 + a.length + 1 = k by omega, e0] at h
  unfold ref40_SameInts.f
  rw [if_neg (by simp), h]
  rfl
theorem sameH_l (a : List H32) (ha : a.length ≤ 1000000) : ∀ (m k t : Nat), t + m = a.length → ref40_SameHashes.l0 a a (k + m + 1) (t : Int) = some (.go ())
  | 0, k, t, h => by rw [ref40_SameHashes.l0, if_neg (by simp; omega)]
  | m + 1, k, t, h => by
    have hlt : t < a.length := by omega
    rw [show k + (m + 1) + 1 = k + m + 1 + 1 by omega, ref40_SameHashes.l0, if_pos (by simp; omega), if_pos ⟨by omega, by omega⟩, if_pos ⟨by omega, by omega⟩, if_neg (by simp), suc t (by omega), sameH_l a ha m k (t + 1) (by omega)]
theorem sameH (a : List H32) (ha : a.length ≤ 1000000) (k : Nat) (hk : a.length < k) : ref40_SameHashes.f k a a = some true := by
  have h := sameH_l a ha a.length (k - a.length - 1) 0 (by omega)
  have e0 : ((0 : Nat) : Int) = 0 := rfl
  rw [show k - a.length - 1 + a.length + 1 = k by omega, e0] at h
  unfold ref40_SameHashes.f
  rw [if_neg (by simp), h]
  rfl
theorem sameS_l (a : Relay) (ha : a.Stems.length ≤ 1000000) : ∀ (m k t : Nat), t + m = a.Stems.length → ref40_Same.l0 a a (k + m + 1) (t : Int) = some (.go ())
  | 0, k, t, h => by rw [ref40_Same.l0, if_neg (by simp; omega)]
  | m + 1, k, t, h => by
    have hlt : t < a.Stems.length := by omega
    have he : (a.Stems.getD (t : Int).toNat Stem.z == a.Stems.getD (t : Int).toNat Stem.z) = true := (Stem.eqb_iff _ _).2 rfl
    rw [show k + (m + 1) + 1 = k + m + 1 + 1 by omega, ref40_Same.l0, if_pos (by simp; omega), if_pos ⟨by omega, by omega⟩, if_pos ⟨by omega, by omega⟩, he, if_neg (by decide), suc t (by omega), sameS_l a ha m k (t + 1) (by omega)]
theorem same_ok (a : Relay) (h1 : a.Routes.length ≤ 1000000) (h2 : a.Stems.length ≤ 1000000) (h3 : a.Fluffed.length ≤ 1000000) (k : Nat) (k1 : a.Routes.length < k) (k2 : a.Stems.length < k) (k3 : a.Fluffed.length < k) : ref40_Same.f k a a = some true := by
  have h := sameS_l a h2 a.Stems.length (k - a.Stems.length - 1) 0 (by omega)
  have e0 : ((0 : Nat) : Int) = 0 := rfl
  rw [show k - a.Stems.length - 1 + a.Stems.length + 1 = k by omega, e0] at h
  unfold ref40_Same.f
  rw [if_neg (by simp), if_neg (by simp), sameI _ h1 k k1, Option.bind_some, if_neg (by decide), sameH _ h3 k k3, Option.bind_some, if_neg (by decide), Option.bind_some, if_neg (by simp), h]
  rfl

/-! ## the deck -/
theorem mod_ok (k : Nat) (v n : Int) (hn : 0 < n) (hb : n < 4611686018427387904) : ∃ r, mill_Mod.f k v n = some r ∧ 0 ≤ r ∧ r < n := by
  have h1 := Int.tmod_lt_of_pos v hn
  have h2 : -n < v.tmod n := by
    have := Int.tmod_lt_of_pos (-v) hn
    rw [Int.neg_tmod] at this
    omega
  unfold mill_Mod.f
  rw [if_pos (by omega)]
  by_cases h : v.tmod n < 0
  · refine ⟨v.tmod n + n, ?_, by omega, by omega⟩
    rw [if_pos (by simpa using h), wr (by omega) (by omega)]; rfl
  · refine ⟨v.tmod n, ?_, by omega, by omega⟩
    rw [if_neg (by simpa using h)]; rfl
abbrev small : Int := 17592186044416
theorem left_ok (k : Nat) (L : List Int) (p : Int) : mill_Deck_Left.f k (lightclientmill_Deck.mk L p) = some (decide (p < (L.length : Int)), lightclientmill_Deck.mk L p) := rfl
theorem next_ok (k : Nat) (L : List Int) (hL : (L.length : Int) ≤ small) (p : Int) (h0 : 0 ≤ p) (h1 : p ≤ (L.length : Int)) (n : Int) (hn : 0 < n) (hb : n < 4611686018427387904) :
    ∃ v q, mill_Deck_Next.f k (lightclientmill_Deck.mk L p) n = some (v, lightclientmill_Deck.mk L q) ∧ 0 ≤ v ∧ v < n ∧ 0 ≤ q ∧ q ≤ (L.length : Int) := by
  unfold small at hL
  unfold mill_Deck_Next.f
  rw [left_ok, Option.bind_some]
  by_cases h : p < (L.length : Int)
  · have e1 : IntKind.i64.wrap (p + 1) = p + 1 := wr (by omega) (by omega)
    have e2 : IntKind.i64.wrap (p + 1 - 1) = p := by rw [wr (by omega) (by omega)]; omega
    obtain ⟨v, ev, hv0, hv1⟩ := mod_ok k (L.getD p.toNat 0) n hn hb
    refine ⟨v, p + 1, ?_, hv0, hv1, by omega, by omega⟩
    simp only [e1, e2, h, decide_true, Bool.not_true, Bool.false_eq_true, if_false, h0, and_self, if_true, ev, Option.bind_some]
  · exact ⟨0, p, by simp [h], by omega, hn, h0, h1⟩

theorem relay_l0 (L : List Int) (z : Int) (hL : (L.length : Int) ≤ small) : ∀ (m k : Nat) (p : Int) (xs : List Int), 0 ≤ p → p ≤ (L.length : Int) → m ≤ 10 → xs.length + m ≤ 10 →
    ∃ q ys, mill_Relay.l0 (lightclientmill_Deck.mk L z) (k + m + 1) p xs (m : Int) = some (q, ys) ∧ 0 ≤ q ∧ q ≤ (L.length : Int) ∧ ys.length = xs.length + m
  | 0, k, p, xs, h0, h1, _, _ => ⟨p, xs, by rw [mill_Relay.l0, if_neg (by simp)], h0, h1, by omega⟩
  | m + 1, k, p, xs, h0, h1, hm, hx => by
    obtain ⟨v, q, e, _, _, a, b⟩ := next_ok (k + (m + 1)) L hL p h0 h1 3 (by omega) (by omega)
    obtain ⟨q', ys, e', a', b', hl⟩ := relay_l0 L z hL m k q (xs ++ [IntKind.i64.wrap ((IntKind.i64.wrap (3 * ((xs.length : Nat) : Int))) + v)]) a b (by omega) (by simp; omega)
    refine ⟨q', ys, ?_, a', b', by rw [hl]; simp; omega⟩
    have hw : IntKind.i64.wrap (((m + 1 : Nat) : Int) - 1) = (m : Int) := by rw [wr (by omega) (by omega)]; omega
    rw [mill_Relay.l0, if_pos (by simp), e, Option.bind_some, if_pos (by omega), Option.bind_some, hw]
    exact e'
theorem relay_l1 (L : List Int) (z : Int) (hL : (L.length : Int) ≤ small) : ∀ (m k : Nat) (p : Int) (xs : List Stem) (hs : List H32) (t : Nat), t + m = 8 → 0 ≤ p → p ≤ (L.length : Int) → xs.length ≤ t → hs.length ≤ t →
    ∃ ys gs q, mill_Relay.l1 (lightclientmill_Deck.mk L z) (k + m + 1) p xs hs (t : Int) = some (ys, gs, q) ∧ 0 ≤ q ∧ q ≤ (L.length : Int) ∧ ys.length ≤ 8 ∧ gs.length ≤ 8
  | 0, k, p, xs, hs, t, ht, h0, h1, hx, hh => ⟨xs, hs, p, by rw [mill_Relay.l1, if_neg (by simp; omega)], h0, h1, by omega, by omega⟩
  | m + 1, k, p, xs, hs, t, ht, h0, h1, hx, hh => by
    obtain ⟨v, q, e, _, _, a, b⟩ := next_ok (k + (m + 1)) L hL p h0 h1 3 (by omega) (by omega)
    rw [mill_Relay.l1, if_pos (by simp; omega), e, Option.bind_some, suc t (by omega)]
    dsimp only
    by_cases h2 : (v == 0) = true
    · obtain ⟨v1, q1, e1, _, _, a1, b1⟩ := next_ok (k + (m + 1)) L hL q a b 5 (by omega) (by omega)
      obtain ⟨v2, q2, e2, _, _, a2, b2⟩ := next_ok (k + (m + 1)) L hL q1 a1 b1 5 (by omega) (by omega)
      obtain ⟨v3, q3, e3, _, _, a3, b3⟩ := next_ok (k + (m + 1)) L hL q2 a2 b2 50 (by omega) (by omega)
      rw [if_pos h2, e1, Option.bind_some]
      dsimp only
      rw [e2, Option.bind_some]
      dsimp only
      rw [e3, Option.bind_some, if_pos (by omega), Option.bind_some]
      dsimp only
      rw [Option.bind_some]
      exact relay_l1 L z hL m k q3 _ hs (t + 1) (by omega) a3 b3 (by simp; omega) (by omega)
    · rw [if_neg h2]
      by_cases h3 : (v == 1) = true
      · rw [if_pos h3, if_pos (by omega), Option.bind_some]
        exact relay_l1 L z hL m k q xs _ (t + 1) (by omega) a b (by omega) (by simp; omega)
      · rw [if_neg h3, Option.bind_some]
        exact relay_l1 L z hL m k q xs hs (t + 1) (by omega) a b (by omega) (by omega)
def Few40 (r : Relay) : Prop := r.Routes.length ≤ 20 ∧ r.Stems.length ≤ 20 ∧ r.Fluffed.length ≤ 20
theorem relay_ok (L : List Int) (hL : (L.length : Int) ≤ small) (k : Nat) : ∃ r d, mill_Relay.f (k + 20) (lightclientmill_Deck.mk L 0) = some (r, d) ∧ r.Routes.length ≤ 10 ∧ r.Stems.length ≤ 10 ∧ r.Fluffed.length ≤ 10 := by
  obtain ⟨v1, q1, e1, _, _, a1, b1⟩ := next_ok (k + 20) L hL 0 (by omega) (by omega) 99 (by omega) (by omega)
  obtain ⟨v2, q2, e2, _, _, a2, b2⟩ := next_ok (k + 20) L hL q1 a1 b1 3 (by omega) (by omega)
  obtain ⟨v3, q3, e3, c0, c1, a3, b3⟩ := next_ok (k + 20) L hL q2 a2 b2 3 (by omega) (by omega)
  obtain ⟨q4, ys, e4, a4, b4, hl⟩ := relay_l0 L 0 hL v3.toNat (k + 19 - v3.toNat) q3 [] a3 b3 (by omega) (by simp; omega)
  rw [show k + 19 - v3.toNat + v3.toNat + 1 = k + 20 by omega, show ((v3.toNat : Nat) : Int) = v3 by omega] at e4
  obtain ⟨zs, gs, q5, e5, a5, b5, l1, l2⟩ := relay_l1 L 0 hL 8 (k + 11) q4 [] [] 0 (by omega) a4 b4 (by simp) (by simp)
  have e0 : ((0 : Nat) : Int) = 0 := rfl
  rw [show k + 11 + 8 + 1 = k + 20 by omega, e0] at e5
  unfold mill_Relay.f
  dsimp only
  rw [e1, Option.bind_some]
  dsimp only
  rw [e2, Option.bind_some]
  dsimp only
  rw [e3, Option.bind_some]
  dsimp only
  rw [e4, Option.bind_some]
  dsimp only
  rw [e5, Option.bind_some]
  exact ⟨_, _, rfl, by show ys.length ≤ 10; rw [hl]; simp; omega, by show zs.length ≤ 10; omega, by show gs.length ≤ 10; omega⟩
theorem spoil_ok (r : Relay) (what at_ : Int) (h1 : r.Routes.length ≤ 10) (h2 : r.Stems.length ≤ 10) (h3 : r.Fluffed.length ≤ 10) (k : Nat) : ∃ x, law40_spoil.f k r what at_ = some x ∧ Few40 x := by
  have hc : ref40_Copied.f k (Relay.mk r.Epoch r.Diffuse r.Routes r.Stems r.Fluffed) = some r := (clone_ok k r (by omega) (by omega) (by omega)).2
  obtain ⟨w, ew, _, _⟩ := mod_ok k what 5 (by omega) (by omega)
  unfold law40_spoil.f
  rw [hc, Option.bind_some, ew, Option.bind_some]
  have fin : ∀ (a : List Int) (b : List Stem) (c : List H32), a.length ≤ 20 → b.length ≤ 20 → c.length ≤ 20 → ∃ x, (Option.bind (α := (List Int) × (List Stem) × (List (Vector Int 32))) (some (a, b, c)) (fun st => match st with | (xs1282, xs1286, xs1290) => (some (Relay.mk r.Epoch r.Diffuse xs1282 xs1286 xs1290)))) = some x ∧ Few40 x := fun a b c ha hb hc => ⟨_, rfl, ha, hb, hc⟩
  by_cases w0 : (w == 0) = true
  · obtain ⟨u, eu, _, _⟩ := mod_ok k at_ 5 (by omega) (by omega)
    rw [if_pos w0, eu, Option.bind_some, if_pos (by omega)]
    exact fin _ _ _ (by simp; omega) (by omega) (by omega)
  · rw [if_neg w0]
    by_cases w1 : (w == 1) = true
    · rw [if_pos w1]
      by_cases hs : r.Stems.length > 0
      · obtain ⟨u, eu, u0, u1⟩ := mod_ok k at_ ((r.Stems.length : Nat) : Int) (by omega) (by omega)
        rw [if_pos (by simp only [decide_eq_true_eq]; omega), eu, Option.bind_some, if_pos ⟨u0, u1⟩, if_pos (by omega), Option.bind_some]
        exact fin _ _ _ (by omega) (by omega) (by simp; omega)
      · rw [if_neg (by simp only [decide_eq_true_eq]; omega)]
        exact fin _ _ _ (by omega) (by omega) (by omega)
    · rw [if_neg w1]
      by_cases w2 : (w == 2) = true
      · rw [if_pos w2]
        by_cases hs : r.Stems.length > 0
        · obtain ⟨u, eu, u0, u1⟩ := mod_ok k at_ ((r.Stems.length : Nat) : Int) (by omega) (by omega)
          rw [if_pos (by simp only [decide_eq_true_eq]; omega), eu, Option.bind_some, if_pos ⟨u0, u1⟩, if_pos (by omega), Option.bind_some]
          exact fin _ _ _ (by omega) (by simp; omega) (by omega)
        · rw [if_neg (by simp only [decide_eq_true_eq]; omega)]
          exact fin _ _ _ (by omega) (by omega) (by omega)
      · rw [if_neg w2]
        by_cases w3 : (w == 3) = true
        · rw [if_pos w3]
          by_cases hs : r.Fluffed.length > 0
          · obtain ⟨u, eu, u0, u1⟩ := mod_ok k at_ ((r.Fluffed.length : Nat) : Int) (by omega) (by omega)
            rw [if_pos (by simp only [decide_eq_true_eq]; omega), eu, Option.bind_some, if_pos ⟨u0, u1⟩, if_pos (by omega), Option.bind_some]
            exact fin _ _ _ (by omega) (by omega) (by simp; omega)
          · rw [if_neg (by simp only [decide_eq_true_eq]; omega)]
            exact fin _ _ _ (by omega) (by omega) (by omega)
        · rw [if_neg w3]
          exact fin _ _ _ (by omega) (by omega) (by omega)
theorem fluff_few {r : Relay} (h : Few40 r) (id : H32) (k : Nat) (hk : 100 < k) : ref40_Same.f k (fluffV r id).1 (fluffV r id).1 = some true := by
  obtain ⟨h1, h2, h3⟩ := h
  have hb : (fluffV r id).1.Routes.length ≤ 30 ∧ (fluffV r id).1.Stems.length ≤ 30 ∧ (fluffV r id).1.Fluffed.length ≤ 30 := by
    unfold fluffV
    split
    · simp
    · split
      · simp
      · split
        · simp
        · refine ⟨by show r.Routes.length ≤ 30; omega, ?_, ?_⟩
          · show (r.Stems.filter (keepId id)).length ≤ 30
            exact Nat.le_trans (List.length_filter_le _ _) (by omega)
          · show (r.Fluffed ++ [id]).length ≤ 30
            simp; omega
  exact same_ok _ (by omega) (by omega) (by omega) k (by omega) (by omega) (by omega)
theorem due_few {r : Relay} (h : Few40 r) (now : Int) (k : Nat) (hk : 100 < k) : ref40_Same.f k (dueV r now).1 (dueV r now).1 = some true ∧ ref40_SameHashes.f k (dueV r now).2 (dueV r now).2 = some true := by
  obtain ⟨h1, h2, h3⟩ := h
  have hb : (dueV r now).1.Routes.length ≤ 30 ∧ (dueV r now).1.Stems.length ≤ 30 ∧ (dueV r now).1.Fluffed.length ≤ 30 ∧ (dueV r now).2.length ≤ 30 := by
    unfold dueV
    split
    · refine ⟨by show r.Routes.length ≤ 30; omega, ?_, by show r.Fluffed.length ≤ 30; omega, ?_⟩
      · show (r.Stems.filter (late now)).length ≤ 30
        exact Nat.le_trans (List.length_filter_le _ _) (by omega)
      · show (dueIds now r.Stems).length ≤ 30
        unfold dueIds
        rw [List.length_map]
        exact Nat.le_trans (List.length_filter_le _ _) (by omega)
    · exact ⟨by show r.Routes.length ≤ 30; omega, by show r.Stems.length ≤ 30; omega, by show r.Fluffed.length ≤ 30; omega, by simp⟩
  exact ⟨same_ok _ (by omega) (by omega) (by omega) k (by omega) (by omega) (by omega), sameH _ (by omega) k (by omega)⟩
theorem fluffs1 (r : Relay) (h : Few40 r) (id : H32) (k : Nat) : relay_Fluff.f (k + 7000) (Relay.mk r.Epoch r.Diffuse r.Routes r.Stems r.Fluffed) id = some (fluffV r id) ∧ ref40_Fluff.f (k + 7000) (Relay.mk r.Epoch r.Diffuse r.Routes r.Stems r.Fluffed) id = some (fluffV r id) ∧ ref40_Same.f (k + 7000) (Relay.mk (fluffV r id).1.Epoch (fluffV r id).1.Diffuse (fluffV r id).1.Routes (fluffV r id).1.Stems (fluffV r id).1.Fluffed) (Relay.mk (fluffV r id).1.Epoch (fluffV r id).1.Diffuse (fluffV r id).1.Routes (fluffV r id).1.Stems (fluffV r id).1.Fluffed) = some true := by
  have a := fluffA r id (k + 4000)
  have b := fluffR r id (k + 1000)
  exact ⟨a, b, fluff_few h id (k + 7000) (by omega)⟩
theorem dues1 (r : Relay) (h : Few40 r) (now : Int) (k : Nat) : relay_Due.f (k + 7000) (Relay.mk r.Epoch r.Diffuse r.Routes r.Stems r.Fluffed) now = some (dueV r now) ∧ ref40_Due.f (k + 7000) (Relay.mk r.Epoch r.Diffuse r.Routes r.Stems r.Fluffed) now = some (dueV r now) ∧ ref40_Same.f (k + 7000) (Relay.mk (dueV r now).1.Epoch (dueV r now).1.Diffuse (dueV r now).1.Routes (dueV r now).1.Stems (dueV r now).1.Fluffed) (Relay.mk (dueV r now).1.Epoch (dueV r now).1.Diffuse (dueV r now).1.Routes (dueV r now).1.Stems (dueV r now).1.Fluffed) = some true ∧ ref40_SameHashes.f (k + 7000) (dueV r now).2 (dueV r now).2 = some true := by
  have h' := h
  obtain ⟨h1, h2, h3⟩ := h
  have a := dueA r now (by omega) (by omega) (by omega) (k + 4000)
  have b := dueR r now (by omega) (by omega) (by omega) (k + 1000)
  have c := due_few h' now (k + 7000) (by omega)
  exact ⟨a, b, c.1, c.2⟩
theorem two_w : IntKind.i64.wrap (0 + 1) = 1 ∧ IntKind.i64.wrap (1 + 1) = 2 := by decide
theorem fluffs_l0 (id : H32) (x : Relay × lightclientmill_Deck) (h : Few40 x.1) (v : Int) (k : Nat) : law40_RelayFluffs.l0 id x v (k + 7003) 0 = some (.go ()) := by
  have g0 : ∀ b : H32, [id, b].getD (0 : Int).toNat (Vector.replicate 32 0) = id := fun b => rfl
  have g1 : ∀ b : H32, [id, b].getD (1 : Int).toNat (Vector.replicate 32 0) = b := fun b => rfl
  obtain ⟨a1, a2, a3⟩ := fluffs1 x.1 h id (k + 2)
  obtain ⟨b1, b2, b3⟩ := fluffs1 x.1 h (((Vector.replicate 32 0 : Vector Int 32).setIfInBounds 0 (IntKind.u8.wrap v))) (k + 1)
  rw [show k + 7003 = k + 2 + 7000 + 1 by omega, law40_RelayFluffs.l0, if_pos (by decide), if_pos (by decide), g0, a1, a2, Option.bind_some, Option.bind_some, if_neg (by simp), a3, Option.bind_some, Option.bind_some, if_neg (by decide), two_w.1, show k + 2 + 7000 = k + 1 + 7000 + 1 by omega, law40_RelayFluffs.l0, if_pos (by decide), if_pos (by decide), g1, b1, b2, Option.bind_some, Option.bind_some, if_neg (by simp), b3, Option.bind_some, Option.bind_some, if_neg (by decide), two_w.2, law40_RelayFluffs.l0, if_neg (by decide)]
theorem fluffs_l2 (id : H32) (x : Relay) (h : Few40 x) (v : Int) (k : Nat) : law40_RelayFluffs.l2 id x v (k + 7003) 0 = some (.go ()) := by
  have g0 : ∀ b : H32, [id, b].getD (0 : Int).toNat (Vector.replicate 32 0) = id := fun b => rfl
  have g1 : ∀ b : H32, [id, b].getD (1 : Int).toNat (Vector.replicate 32 0) = b := fun b => rfl
  obtain ⟨a1, a2, a3⟩ := fluffs1 x h id (k + 2)
  obtain ⟨b1, b2, b3⟩ := fluffs1 x h (((Vector.replicate 32 0 : Vector Int 32).setIfInBounds 0 (IntKind.u8.wrap v))) (k + 1)
  rw [show k + 7003 = k + 2 + 7000 + 1 by omega, law40_RelayFluffs.l2, if_pos (by decide), if_pos (by decide), g0, a1, a2, Option.bind_some, Option.bind_some, if_neg (by simp), a3, Option.bind_some, Option.bind_some, if_neg (by decide), two_w.1, show k + 2 + 7000 = k + 1 + 7000 + 1 by omega, law40_RelayFluffs.l2, if_pos (by decide), if_pos (by decide), g1, b1, b2, Option.bind_some, Option.bind_some, if_neg (by simp), b3, Option.bind_some, Option.bind_some, if_neg (by decide), two_w.2, law40_RelayFluffs.l2, if_neg (by decide)]
theorem fluffs_l1 (now : Int) (x : Relay × lightclientmill_Deck) (h : Few40 x.1) (k : Nat) : law40_RelayFluffs.l1 now x (k + 7003) 0 = some (.go ()) := by
  have g0 : ∀ b : Int, [now, b].getD (0 : Int).toNat (0 : Int) = now := fun b => rfl
  have g1 : ∀ b : Int, [now, b].getD (1 : Int).toNat (0 : Int) = b := fun b => rfl
  obtain ⟨a1, a2, a3, a4⟩ := dues1 x.1 h now (k + 2)
  obtain ⟨b1, b2, b3, b4⟩ := dues1 x.1 h (now.tmod 60) (k + 1)
  rw [show k + 7003 = k + 2 + 7000 + 1 by omega, law40_RelayFluffs.l1, if_pos (by decide), if_pos (by decide), g0, a1, a2, Option.bind_some, Option.bind_some, a3, Option.bind_some, if_neg (by decide), a4, Option.bind_some, Option.bind_some, if_neg (by decide), two_w.1, show k + 2 + 7000 = k + 1 + 7000 + 1 by omega, law40_RelayFluffs.l1, if_pos (by decide), if_pos (by decide), g1, b1, b2, Option.bind_some, Option.bind_some, b3, Option.bind_some, if_neg (by decide), b4, Option.bind_some, Option.bind_some, if_neg (by decide), two_w.2, law40_RelayFluffs.l1, if_neg (by decide)]
theorem fluffs_l3 (now : Int) (x : Relay) (h : Few40 x) (k : Nat) : law40_RelayFluffs.l3 now x (k + 7003) 0 = some (.go ()) := by
  have g0 : ∀ b : Int, [now, b].getD (0 : Int).toNat (0 : Int) = now := fun b => rfl
  have g1 : ∀ b : Int, [now, b].getD (1 : Int).toNat (0 : Int) = b := fun b => rfl
  obtain ⟨a1, a2, a3, a4⟩ := dues1 x h now (k + 2)
  obtain ⟨b1, b2, b3, b4⟩ := dues1 x h (now.tmod 60) (k + 1)
  rw [show k + 7003 = k + 2 + 7000 + 1 by omega, law40_RelayFluffs.l3, if_pos (by decide), if_pos (by decide), g0, a1, a2, Option.bind_some, Option.bind_some, a3, Option.bind_some, if_neg (by decide), a4, Option.bind_some, Option.bind_some, if_neg (by decide), two_w.1, show k + 2 + 7000 = k + 1 + 7000 + 1 by omega, law40_RelayFluffs.l3, if_pos (by decide), if_pos (by decide), g1, b1, b2, Option.bind_some, Option.bind_some, b3, Option.bind_some, if_neg (by decide), b4, Option.bind_some, Option.bind_some, if_neg (by decide), two_w.2, law40_RelayFluffs.l3, if_neg (by decide)]
theorem sane40 (k : Nat) : law40_sane.f (k + 40) = some true := by kernel_rfl
theorem relayFluffs_true (L : List Int) (id : H32) (now what at_ : Int) (hL : (L.length : Int) ≤ small) : ∃ k, law40_RelayFluffs.f k L id now what at_ = some true := by
  obtain ⟨r, d, e1, h1, h2, h3⟩ := relay_ok L hL (8003 - 20)
  obtain ⟨x, e2, hx⟩ := spoil_ok r what at_ h1 h2 h3 8003
  obtain ⟨v, e3, _, _⟩ := mod_ok 8003 at_ 10 (by omega) (by omega)
  have hr : Few40 r := ⟨by omega, by omega, by omega⟩
  have hs : law40_sane.f 8003 = some true := by have := sane40 7963; exact this
  have e1' : mill_Relay.f 8003 (lightclientmill_Deck.mk L 0) = some (r, d) := e1
  have e2' : law40_spoil.f 8003 (Relay.mk r.Epoch r.Diffuse r.Routes r.Stems r.Fluffed) what at_ = some x := e2
  have l0 : law40_RelayFluffs.l0 id (r, d) v 8003 0 = _ := fluffs_l0 id (r, d) hr v 1000
  have l1 : law40_RelayFluffs.l1 now (r, d) 8003 0 = _ := fluffs_l1 now (r, d) hr 1000
  have l2 : law40_RelayFluffs.l2 id x v 8003 0 = _ := fluffs_l2 id x hx v 1000
  have l3 : law40_RelayFluffs.l3 now x 8003 0 = _ := fluffs_l3 now x hx 1000
  refine ⟨8003, ?_⟩
  unfold law40_RelayFluffs.f mill_New.f
  rw [hs, Option.bind_some, if_neg (by decide), Option.bind_some]
  dsimp only
  rw [e1', Option.bind_some]
  dsimp only
  rw [e2', Option.bind_some, e3, Option.bind_some, l0, Option.bind_some]
  dsimp only
  rw [l1, Option.bind_some]
  dsimp only
  rw [Option.bind_some, l2, Option.bind_some]
  dsimp only
  rw [l3, Option.bind_some]

end Go.Proofs.Ytnhgfdinnbadeaa.G
namespace Go.Proofs.Ytnhgfdinnbadeaa.relayFluffs
open Go Go.ChangeShapes Go.WideShapes Go.ChangeAt Go.RowKit
open Go.ChangeMaps (open_string shut_string)
theorem own : ownKnob Try.prog.godebug = none := by kernel_rfl
theorem laidOut : laidOutB Try.prog = true := by kernel_rfl
set_option maxRecDepth 100000 in
theorem lifted (os : Os) (started : os.Started) (H : Type) (enc : TypeId × Value → H) :
    ReturnsInHanded {} Try.checked os 5 .any (Rows.relayFluffsSpec.pre6 enc Try.prog Try.f5 Rows.relayFluffsRow.domain false) (Rows.relayFluffsSpec.post enc Try.prog Try.f5 false true false false) := by
  refine returnsInHanded_of_change_sized (C := Try.checked) own started (by kernel_rfl) Try.func5
    (ChangeSpec.witness6 (enc := enc) (C := Try.checked) false ⟨#[], #[.slice none 0 0, .agg (List.replicate 32 (.int .u8 0)).toArray, .int .u32 0, .int .i64 0, .int .i64 0], []⟩ 8 (by kernel_rfl) (by kernel_rfl) (by kernel_rfl) (by kernel_rfl)) ?_
  intro W base args ds gs before hval0 hW hcnd hsz0 _
  have hsz : (DataW.weightsEach Try.prog (Try.f5.params.toList ++ Rows.relayFluffsSpec.plain.varTypes Try.prog) (ds ++ gs)).all (· ≤ reachBytes) = true := hsz0
  have hval : ∀ (j : Nat) t v, Try.f5.params[j]? = some t → args[j]? = some v → Value.okWide Try.prog W .any base t v := hval0
  have hW' := hW
  obtain ⟨p, q, hA0, hV, rfl, hfz, hnd⟩ := hW
  have hA : DataW.TrodAll enc Try.prog W 0 (fun _ => true) true Try.f5.params.toList args.toList ds p := hA0
  rw [Try.params5] at hA hval hsz
  obtain ⟨v0, vs0, d0, ds0, p0, q0, hargs, rfl, rfl, h0, r0⟩ := trodAll_cons hA
  obtain ⟨v1, vs1, d1, ds1, p1, q1, rfl, rfl, rfl, h1, r1⟩ := trodAll_cons r0
  obtain ⟨v2, vs2, d2, ds2, p2, q2, rfl, rfl, rfl, h2, r2⟩ := trodAll_cons r1
  obtain ⟨v3, vs3, d3, ds3, p3, q3, rfl, rfl, rfl, h3, r3⟩ := trodAll_cons r2
  obtain ⟨v4, vs4, d4, ds4, p4, q4, rfl, rfl, rfl, h4, r4⟩ := trodAll_cons r3
  obtain ⟨rfl, rfl, rfl⟩ := trodAll_nil r4
  obtain rfl : args = #[v0, v1, v2, v3, v4] := by cases args; simp_all
  obtain ⟨rfl, rfl⟩ := trodVars_none hV
  obtain ⟨A0, len0, cap0, rfl⟩ := okWide_slice Try.underlying22 (hval 0 22 v0 rfl rfl)
  have k0 := h0
  have lt0 : ∀ x ∈ p0, x.block < W.heap.size := by obtain ⟨m, hm⟩ := k0; exact DataW.trod_lt m _ _ _ hm
  have y0 : len0 * 8 ≤ 140737488351232 := PrintWords.sized_ints hsz (j := 0) (t := 22) rfl rfl Try.underlying22 Try.underlying3 (by kernel_rfl) (by kernel_rfl) h0
  obtain ⟨a0, hz0, rw0, cf0, wf0⟩ : ∃ zs : List Int, zs.length = len0 ∧ G.Row (G.Pl.int .i64) W A0 zs ∧ zs.length ≤ cap0 ∧ ∀ n ∈ zs, (Lit.int .i64 n).wf = true := by
    obtain ⟨fuel, hf⟩ := h0
    rcases open_ints Try.underlying22 Try.underlying3 (by kernel_rfl) hf with ⟨hcs, _⟩ | ⟨x, l, c, zs, hcs, _, hl, hm, hz, _, hcell, hwz⟩
    · simp [Value.cells] at hcs
      obtain ⟨rfl, rfl, rfl⟩ := hcs
      exact ⟨[], rfl, G.Row.nil _ _, Nat.zero_le _, fun _ h => by cases h⟩
    · simp [Value.cells] at hcs
      obtain ⟨rfl, rfl, rfl⟩ := hcs
      have hz' : zs.length = cap0 := by simpa using hz
      exact ⟨zs.take len0, by rw [List.length_take]; omega, G.row_take hcell (by omega), by rw [List.length_take]; omega, fun n hn => hwz n (List.mem_of_mem_take hn)⟩
  subst hz0
  have k1 := h1
  have lt1 : ∀ x ∈ p1, x.block < W.heap.size := by obtain ⟨m, hm⟩ := k1; exact DataW.trod_lt m _ _ _ hm
  obtain ⟨a1, rfl, w1⟩ := G.open_vec (hn := by decide) Try.underlying34 Try.underlying5 (by kernel_rfl) (hval 1 34 v1 rfl rfl) h1
  obtain ⟨a2, rfl, rfl, rfl, w2⟩ := open_int Try.underlying35 (hval 2 35 v2 rfl rfl) h2
  obtain ⟨a3, rfl, rfl, rfl, w3⟩ := open_int Try.underlying3 (hval 3 3 v3 rfl rfl) h3
  obtain ⟨a4, rfl, rfl, rfl, w4⟩ := open_int Try.underlying3 (hval 4 3 v4 rfl rfl) h4
  clear hA0 hval0 hsz0 hsz
  obtain ⟨K, hK⟩ := G.relayFluffs_true a0 a1 a2 a3 a4 (by have := y0; simp only [G.small]; omega)
  refine (G.law40_RelayFluffs.calls K a0 a1 a2 a3 a4 [] _ true W ⟨A0, cap0, rfl, G.Ro.of rw0, cf0⟩ (G.Mem.nil W) hK).mono fun e W' he => ?_
  obtain ⟨v, rfl, rfl, hM⟩ := he
  have bel := hM.below
  exact ⟨_, rfl, _, _, _, [], _, [], hW', trodAll_mk1 (shut_bool Try.underlying4 _), (trodAll_cons_mk (Below.trod laidOut (by kernel_rfl) (of_decide_eq_true (by kernel_rfl)) k0 bel lt0) (trodAll_cons_mk (Below.trod laidOut (by kernel_rfl) (of_decide_eq_true (by kernel_rfl)) k1 bel lt1) (trodAll_cons_mk (shut_int Try.underlying35 w2) (trodAll_cons_mk (shut_int Try.underlying3 w3) (trodAll_cons_mk (shut_int Try.underlying3 w4) trodAll_mk0))))), rfl, bel.frame _, fun h => by cases h⟩
theorem over : Rows.relayFluffsRow.holds Try.pinned (OpenSpec.ofChange Rows.relayFluffsSpec) :=
  OpenClaim.holds_of_wide 5 Try.f5 rfl rfl rfl rfl rfl rfl rfl ⟨rfl, rfl, rfl, rfl, rfl⟩ rfl rfl rfl rfl rfl (by kernel_rfl) Try.func5 (by kernel_rfl)
    (of_decide_eq_true (by kernel_rfl)) (by unfold Func.isWrapper; first | (rw [if_pos (by decide +kernel)]; kernel_rfl) | (rw [if_neg (by decide +kernel)]; exact ⟨rfl, rfl⟩))
    (fun os started H enc _ => lifted os started H enc)
theorem proved : Rows.RelayFluffsSaid := over
#print axioms proved
end Go.Proofs.Ytnhgfdinnbadeaa.relayFluffs
namespace Go.Proofs.Ytnhgfdinnbadeaa
/-- The row, under a short name, for the claim. -/
theorem relayFluffs_holds : Rows.RelayFluffsSaid := relayFluffs.proved
end Go.Proofs.Ytnhgfdinnbadeaa
