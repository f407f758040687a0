/- For every two lists of numbers: every transaction that a relay has on the stem is due after wait, unless it was fluffed before, and none is due twice. Conditions: none beyond the statement's own. -/
import Derived.Test.YtnhgfdinnbadeaaRows
import Derived.Test.YtnhgfdinnbadeaaFRelayEnds
import Derived.WalkKit
import Derived.ProofKit
import Derived.OpenShut
import Derived.ShutString
import Derived.ChangeOld
import Derived.Below
import Derived.SizedLaws
import Derived.Test.YtnhgfdinnbadeaaWSized
set_option linter.unusedVariables false
set_option linter.unusedSimpArgs false
namespace Go.Proofs.Ytnhgfdinnbadeaa.PrintWords
/-- The name by which the row finds the word on a slice's weight. -/
theorem sized_ints {H : Type} {enc : TypeId × Value → H} {P : Program} {W : World} {base : Nat} {spare : Nat → Bool} {held : Bool} {t e : TypeId} {k : IntKind} {a : Option Addr} {len cap : Nat} {d : DataW H} {ps : List MemPlace} {ts : List TypeId} {ds : List (DataW H)} {j : Nat}
    (hsz : (DataW.weightsEach P ts ds).all (· ≤ reachBytes) = true) (ht : ts[j]? = some t) (hd : ds[j]? = some d) (hu : P.underlying t = some (.slice e)) (he : P.underlying e = some (.int k)) (hc : P.cellsOf e = 1) {B : Nat} (hB : P.bytesOf e = B)
    (h : DataW.Trod enc P W base spare held t (.slice a len cap) d ps) : len * B ≤ 140737488351232 :=
  Go.Proofs.YtnhgfdinnbadeaaW.PrintWords.sized_ints hsz ht hd hu he hc hB h
end Go.Proofs.Ytnhgfdinnbadeaa.PrintWords
namespace Go.Proofs.Ytnhgfdinnbadeaa.G
open Go Go.RowKit Go.Proofs
/-! ## of all laws: enough fuel -/
def Ev (p : Nat → Prop) : Prop := ∃ K, ∀ k, K ≤ k → p k
theorem Ev.mono {p q : Nat → Prop} (h : Ev p) (f : ∀ k, p k → q k) : Ev q := by
  obtain ⟨K, hK⟩ := h
  exact ⟨K, fun k hk => f k (hK k hk)⟩
theorem Ev.and {p q : Nat → Prop} (h : Ev p) (h2 : Ev q) : Ev fun k => p k ∧ q k := by
  obtain ⟨K, hK⟩ := h
  obtain ⟨L, hL⟩ := h2
  exact ⟨max K L, fun k hk => ⟨hK k (by omega), hL k (by omega)⟩⟩
theorem Ev.of {p : Nat → Prop} (K : Nat) (h : ∀ k, p (k + K)) : Ev p := ⟨K, fun k hk => by have := h (k - K); rwa [Nat.sub_add_cancel hk] at this⟩
theorem Ev.all {p : Nat → Prop} (h : ∀ k, p k) : Ev p := ⟨0, fun k _ => h k⟩
/-- behind one round -/
theorem Ev.succ {p : Nat → Prop} (h : Ev fun k => p (k + 1)) : Ev p := by
  obtain ⟨K, hK⟩ := h
  refine ⟨K + 1, fun k hk => ?_⟩
  have h1 := hK (k - 1) (by omega)
  have e : k - 1 + 1 = k := by omega
  rw [← e]
  exact h1
theorem Ev.get {p : Nat → Prop} (h : Ev p) : ∃ k, p k := by
  obtain ⟨K, hK⟩ := h
  exact ⟨K, hK K (Nat.le_refl _)⟩
theorem wr {x : Int} (h0 : -9223372036854775808 ≤ x) (h1 : x < 9223372036854775808) : IntKind.i64.wrap x = x := by
  simp only [IntKind.wrap, IntKind.bits, IntKind.signed]
  simp
  omega
theorem wr8 {x : Int} (h0 : 0 ≤ x) (h1 : x < 256) : IntKind.u8.wrap x = x := by
  simp only [IntKind.wrap, IntKind.bits, IntKind.signed]
  simp
  omega
theorem wr8_lt (x : Int) : 0 ≤ IntKind.u8.wrap x ∧ IntKind.u8.wrap x < 256 := by
  simp only [IntKind.wrap, IntKind.bits, IntKind.signed]
  simp
  omega
theorem wu64 {x : Int} (h0 : 0 ≤ x) (h1 : x < 18446744073709551616) : IntKind.u64.wrap x = x := by
  simp only [IntKind.wrap, IntKind.bits, IntKind.signed]
  simp
  omega

/-! ## words as numbers -/
theorem wrapu (k : IntKind) (hk : k.signed = false) (x : Nat) (h : x < 2 ^ k.bits) : k.wrap (x : Int) = x := by
  cases k <;> simp [IntKind.signed] at hk <;> simp [IntKind.wrap, IntKind.bits, IntKind.signed] at h ⊢ <;> omega
theorem wrapi (k : IntKind) (x : Nat) (h : x < 2 ^ (k.bits - 1)) : k.wrap (x : Int) = x := by
  cases k <;> simp [IntKind.wrap, IntKind.bits, IntKind.signed] at h ⊢ <;> omega
theorem ofInt_nat (n : Nat) (x : Nat) : BitVec.ofInt n (x : Int) = BitVec.ofNat n x := by simp
theorem iand_i (k : IntKind) (x y : Nat) (hx : x < 2 ^ (k.bits - 1)) (hy : y < 2 ^ (k.bits - 1)) : iand k (x : Int) (y : Int) = ((x &&& y : Nat) : Int) := by
  have hle : 2 ^ (k.bits - 1) ≤ 2 ^ k.bits := Nat.pow_le_pow_right (by decide) (by omega)
  unfold iand
  rw [ofInt_nat, ofInt_nat, BitVec.toNat_and, BitVec.toNat_ofNat, BitVec.toNat_ofNat, Nat.mod_eq_of_lt (by omega), Nat.mod_eq_of_lt (by omega)]
  exact wrapi k _ (Nat.lt_of_le_of_lt Nat.and_le_left hx)
theorem iand_u (k : IntKind) (hk : k.signed = false) (x y : Nat) (hx : x < 2 ^ k.bits) (hy : y < 2 ^ k.bits) : iand k (x : Int) (y : Int) = ((x &&& y : Nat) : Int) := by
  unfold iand
  rw [ofInt_nat, ofInt_nat, BitVec.toNat_and, BitVec.toNat_ofNat, BitVec.toNat_ofNat, Nat.mod_eq_of_lt hx, Nat.mod_eq_of_lt hy]
  exact wrapu k hk _ (Nat.lt_of_le_of_lt Nat.and_le_left hx)
theorem ior_i (k : IntKind) (x y : Nat) (hx : x < 2 ^ (k.bits - 1)) (hy : y < 2 ^ (k.bits - 1)) : ior k (x : Int) (y : Int) = ((x ||| y : Nat) : Int) := by
  have hle : 2 ^ (k.bits - 1) ≤ 2 ^ k.bits := Nat.pow_le_pow_right (by decide) (by omega)
  unfold ior
  rw [ofInt_nat, ofInt_nat, BitVec.toNat_or, BitVec.toNat_ofNat, BitVec.toNat_ofNat, Nat.mod_eq_of_lt (by omega), Nat.mod_eq_of_lt (by omega)]
  exact wrapi k _ (Nat.or_lt_two_pow hx hy)
theorem ior_u (k : IntKind) (hk : k.signed = false) (x y : Nat) (hx : x < 2 ^ k.bits) (hy : y < 2 ^ k.bits) : ior k (x : Int) (y : Int) = ((x ||| y : Nat) : Int) := by
  unfold ior
  rw [ofInt_nat, ofInt_nat, BitVec.toNat_or, BitVec.toNat_ofNat, BitVec.toNat_ofNat, Nat.mod_eq_of_lt hx, Nat.mod_eq_of_lt hy]
  exact wrapu k hk _ (Nat.or_lt_two_pow hx hy)
theorem ixor_u (k : IntKind) (hk : k.signed = false) (x y : Nat) (hx : x < 2 ^ k.bits) (hy : y < 2 ^ k.bits) : ixor k (x : Int) (y : Int) = ((x ^^^ y : Nat) : Int) := by
  unfold ixor
  rw [ofInt_nat, ofInt_nat, BitVec.toNat_xor, BitVec.toNat_ofNat, BitVec.toNat_ofNat, Nat.mod_eq_of_lt hx, Nat.mod_eq_of_lt hy]
  exact wrapu k hk _ (Nat.xor_lt_two_pow hx hy)
theorem ishr_n (k : IntKind) (x s : Nat) (hs : s ≤ k.bits) : ishr k (x : Int) (s : Int) = ((x / 2 ^ s : Nat) : Int) := by
  unfold ishr
  rw [Int.toNat_natCast, Nat.min_eq_left hs, show (2 : Int) ^ s = ((2 ^ s : Nat) : Int) by simp, Int.fdiv_eq_ediv_of_nonneg _ (Int.natCast_nonneg _)]
  exact (Int.natCast_ediv _ _).symm
theorem ishl_i (k : IntKind) (x s : Nat) (hs : s ≤ k.bits) (h : x * 2 ^ s < 2 ^ (k.bits - 1)) : ishl k (x : Int) (s : Int) = ((x * 2 ^ s : Nat) : Int) := by
  unfold ishl
  rw [Int.toNat_natCast, Nat.min_eq_left hs, show (2 : Int) ^ s = ((2 ^ s : Nat) : Int) by simp, ← Int.natCast_mul]
  exact wrapi k _ h
theorem ishl_u (k : IntKind) (hk : k.signed = false) (x s : Nat) (hs : s ≤ k.bits) (h : x * 2 ^ s < 2 ^ k.bits) : ishl k (x : Int) (s : Int) = ((x * 2 ^ s : Nat) : Int) := by
  unfold ishl
  rw [Int.toNat_natCast, Nat.min_eq_left hs, show (2 : Int) ^ s = ((2 ^ s : Nat) : Int) by simp, ← Int.natCast_mul]
  exact wrapu k hk _ h
theorem wf_nat {k : IntKind} {x : Int} (hk : k.signed = false) (h : (Lit.int k x).wf = true) : ∃ n : Nat, x = n ∧ n < 2 ^ k.bits := by
  refine ⟨x.toNat, ?_⟩
  cases k <;> simp [IntKind.signed] at hk <;> simp [Lit.wf, IntKind.min, IntKind.max, IntKind.bits, IntKind.signed] at h ⊢ <;> omega

section
variable {κ α : Type} [BEq κ] [LawfulBEq κ]
theorem mget_mput (m : List (κ × α)) (k : κ) (v : α) (q : κ) : mget (mput m k v) q = if q == k then some v else mget m q := by
  induction m with
  | nil => rfl
  | cons x xs ih =>
    rw [mput]
    by_cases h : (k == x.1) = true
    · rw [if_pos h, mget, mget]
      have e : k = x.1 := by simpa using h
      rw [← e]
      by_cases hq : (q == k) = true
      · rw [if_pos hq, if_pos hq]
      · rw [if_neg hq, if_neg hq, if_neg hq]
    · rw [if_neg h, mget, mget, ih]
      by_cases hq : (q == x.1) = true
      · have e : q = x.1 := by simpa using hq
        rw [if_pos hq, if_pos hq, if_neg]
        intro h2
        have e2 : q = k := by simpa using h2
        exact h (by rw [← e2]; exact hq)
      · rw [if_neg hq, if_neg hq]
end

/-! ## lists without repetition -/
abbrev H32 := Vector Int 32
def okF {α : Type} [DecidableEq α] (p : α → Bool) : List α → List α → Bool
  | _, [] => true
  | s, x :: l => (p x && !(decide (x ∈ s))) && okF p (s ++ [x]) l
theorem okF_iff {α : Type} [DecidableEq α] (p : α → Bool) : ∀ (l s : List α), okF p s l = true ↔ ((∀ x ∈ l, p x = true ∧ x ∉ s) ∧ l.Nodup)
  | [], s => by simp [okF]
  | x :: l, s => by
    rw [okF, Bool.and_eq_true, Bool.and_eq_true, okF_iff p l (s ++ [x])]
    simp only [List.mem_append, List.mem_cons, List.nodup_cons, Bool.not_eq_true', decide_eq_false_iff_not, not_or, List.not_mem_nil, or_false]
    constructor
    · rintro ⟨⟨h1, h2⟩, h3, h4⟩
      refine ⟨?_, ?_, h4⟩
      · rintro y (rfl | hy)
        · exact ⟨h1, h2⟩
        · exact ⟨(h3 y hy).1, (h3 y hy).2.1⟩
      · intro hx
        exact (h3 x hx).2.2 rfl
    · rintro ⟨h1, h2, h3⟩
      refine ⟨h1 x (.inl rfl), ?_, h3⟩
      intro y hy
      exact ⟨(h1 y (.inr hy)).1, (h1 y (.inr hy)).2, fun e => h2 (e ▸ hy)⟩
theorem getD_at {α : Type} {l : List α} {t : Nat} (h : t < l.length) (z : α) : l.getD (t : Int).toNat z = l[t] := by
  rw [Int.toNat_natCast, List.getD_eq_getElem?_getD, List.getElem?_eq_getElem h]; rfl
theorem suc (t : Nat) (h : t ≤ 1000000000) : IntKind.i64.wrap ((t : Int) + 1) = ((t + 1 : Nat) : Int) := by rw [wr (by omega) (by omega)]; omega
theorem idx_zero {α : Type} [BEq α] [LawfulBEq α] (x : α) (l : List α) : (x :: l).idxOf x = 0 := by simp [List.idxOf_cons]
theorem idx_succ {α : Type} [BEq α] [LawfulBEq α] {x y : α} (h : x ≠ y) (l : List α) : (x :: l).idxOf y = l.idxOf y + 1 := by
  rw [List.idxOf_cons]
  have : (x == y) = false := by simpa using h
  rw [this]; rfl
/-! ## the searches -/
theorem indexH_l (l : List H32) (v : H32) (hl : l.length ≤ 1000000) : ∀ (m k t : Nat), t + m = l.length → slices_Index_Hash.l0 l v (k + m + 1) (t : Int) = some (if v ∈ l.drop t then .ret ((t + (l.drop t).idxOf v : Nat) : Int) else .go ())
  | 0, k, t, h => by rw [slices_Index_Hash.l0, if_neg (by simp; omega), List.drop_of_length_le (by omega), if_neg (by simp)]
  | m + 1, k, t, h => by
    have hlt : t < l.length := by omega
    rw [show k + (m + 1) + 1 = k + m + 1 + 1 by omega, slices_Index_Hash.l0, if_pos (by simp; omega), if_pos ⟨by omega, by omega⟩, getD_at hlt, suc t (by omega), List.drop_eq_getElem_cons hlt]
    by_cases he : v = l[t]
    · rw [if_pos (by simp [he]), if_pos (by rw [he]; exact List.mem_cons_self), he, idx_zero]; rfl
    · rw [if_neg (by simpa using he), indexH_l l v hl m k (t + 1) (by omega), idx_succ (Ne.symm he)]
      by_cases hm : v ∈ l.drop (t + 1)
      · rw [if_pos hm, if_pos (List.mem_cons_of_mem _ hm), show t + 1 + (l.drop (t + 1)).idxOf v = t + ((l.drop (t + 1)).idxOf v + 1) by omega]
      · rw [if_neg hm, if_neg (fun h => (List.mem_cons.1 h).elim he hm)]
theorem containsH_ok (l : List H32) (v : H32) (hl : l.length ≤ 1000000) (k : Nat) (hk : l.length < k) : slices_Contains_Hash.f k l v = some (decide (v ∈ l)) := by
  obtain ⟨q, rfl⟩ : ∃ q, k = q + l.length + 1 := ⟨k - l.length - 1, by omega⟩
  have h := indexH_l l v hl l.length q 0 (by omega)
  have e0 : ((0 : Nat) : Int) = 0 := rfl
  rw [e0, List.drop_zero] at h
  unfold slices_Contains_Hash.f slices_Index_Hash.f
  rw [h]
  by_cases hm : v ∈ l
  · rw [if_pos hm]; simp [hm]
  · rw [if_neg hm]; simp [hm]
theorem indexI_l (l : List Int) (v : Int) (hl : l.length ≤ 1000000) : ∀ (m k t : Nat), t + m = l.length → slices_Index_int.l0 l v (k + m + 1) (t : Int) = some (if v ∈ l.drop t then .ret ((t + (l.drop t).idxOf v : Nat) : Int) else .go ())
  | 0, k, t, h => by rw [slices_Index_int.l0, if_neg (by simp; omega), List.drop_of_length_le (by omega), if_neg (by simp)]
  | m + 1, k, t, h => by
    have hlt : t < l.length := by omega
    rw [show k + (m + 1) + 1 = k + m + 1 + 1 by omega, slices_Index_int.l0, if_pos (by simp; omega), if_pos ⟨by omega, by omega⟩, getD_at hlt, suc t (by omega), List.drop_eq_getElem_cons hlt]
    by_cases he : v = l[t]
    · rw [if_pos (by simp [he]), if_pos (by rw [he]; exact List.mem_cons_self), he, idx_zero]; rfl
    · rw [if_neg (by simpa using he), indexI_l l v hl m k (t + 1) (by omega), idx_succ (Ne.symm he)]
      by_cases hm : v ∈ l.drop (t + 1)
      · rw [if_pos hm, if_pos (List.mem_cons_of_mem _ hm), show t + 1 + (l.drop (t + 1)).idxOf v = t + ((l.drop (t + 1)).idxOf v + 1) by omega]
      · rw [if_neg hm, if_neg (fun h => (List.mem_cons.1 h).elim he hm)]
theorem containsI_ok (l : List Int) (v : Int) (hl : l.length ≤ 1000000) (k : Nat) (hk : l.length < k) : slices_Contains_int.f k l v = some (decide (v ∈ l)) := by
  obtain ⟨q, rfl⟩ : ∃ q, k = q + l.length + 1 := ⟨k - l.length - 1, by omega⟩
  have h := indexI_l l v hl l.length q 0 (by omega)
  have e0 : ((0 : Nat) : Int) = 0 := rfl
  rw [e0, List.drop_zero] at h
  unfold slices_Contains_int.f slices_Index_int.f
  rw [h]
  by_cases hm : v ∈ l
  · rw [if_pos hm]; simp [hm]
  · rw [if_neg hm]; simp [hm]
theorem has_l (l : List H32) (v : H32) (hl : l.length ≤ 1000000) : ∀ (m k t : Nat), t + m = l.length → ref40_has.l0 l v (k + m + 1) (t : Int) = some (if v ∈ l.drop t then .ret true else .go ())
  | 0, k, t, h => by rw [ref40_has.l0, if_neg (by simp; omega), List.drop_of_length_le (by omega), if_neg (by simp)]
  | m + 1, k, t, h => by
    have hlt : t < l.length := by omega
    rw [show k + (m + 1) + 1 = k + m + 1 + 1 by omega, ref40_has.l0, if_pos (by simp; omega), if_pos ⟨by omega, by omega⟩, getD_at hlt, suc t (by omega), List.drop_eq_getElem_cons hlt]
    by_cases he : l[t] = v
    · rw [if_pos (by simp [he]), if_pos (by simp [he])]
    · rw [if_neg (by simpa using he), has_l l v hl m k (t + 1) (by omega)]
      by_cases hm : v ∈ l.drop (t + 1)
      · rw [if_pos hm, if_pos (List.mem_cons_of_mem _ hm)]
      · rw [if_neg hm, if_neg (fun h => (List.mem_cons.1 h).elim (fun e => he e.symm) hm)]
theorem has_ok (l : List H32) (v : H32) (hl : l.length ≤ 1000000) (k : Nat) (hk : l.length < k) : ref40_has.f k l v = some (decide (v ∈ l)) := by
  obtain ⟨q, rfl⟩ : ∃ q, k = q + l.length + 1 := ⟨k - l.length - 1, by omega⟩
  have h := has_l l v hl l.length q 0 (by omega)
  have e0 : ((0 : Nat) : Int) = 0 := rfl
  rw [e0, List.drop_zero] at h
  unfold ref40_has.f
  rw [h]
  by_cases hm : v ∈ l
  · rw [if_pos hm]; simp [hm]
  · rw [if_neg hm]; simp [hm]
abbrev sid (x : Stem) : H32 := x.ID
theorem find_l (l : List Stem) (v : H32) (hl : l.length ≤ 1000000) : ∀ (m k t : Nat), t + m = l.length → ref40_find.l0 l v (k + m + 1) (t : Int) = some (if v ∈ (l.map sid).drop t then .ret ((t + ((l.map sid).drop t).idxOf v : Nat) : Int) else .go ())
  | 0, k, t, h => by rw [ref40_find.l0, if_neg (by simp; omega), List.drop_of_length_le (by simp; omega), if_neg (by simp)]
  | m + 1, k, t, h => by
    have hlt : t < l.length := by omega
    have hlt' : t < (l.map sid).length := by simpa using hlt
    rw [show k + (m + 1) + 1 = k + m + 1 + 1 by omega, ref40_find.l0, if_pos (by simp; omega), if_pos ⟨by omega, by omega⟩, getD_at hlt, suc t (by omega), List.drop_eq_getElem_cons hlt', List.getElem_map]
    by_cases he : sid l[t] = v
    · rw [if_pos (by simpa using he), if_pos (by simp [he]), he, idx_zero]; rfl
    · rw [if_neg (by simpa using he), find_l l v hl m k (t + 1) (by omega), idx_succ he]
      by_cases hm : v ∈ (l.map sid).drop (t + 1)
      · rw [if_pos hm, if_pos (List.mem_cons_of_mem _ hm), show t + 1 + ((l.map sid).drop (t + 1)).idxOf v = t + (((l.map sid).drop (t + 1)).idxOf v + 1) by omega]
      · rw [if_neg hm, if_neg (fun h => (List.mem_cons.1 h).elim (fun e => he e.symm) hm)]
theorem find_l0 (l : List Stem) (v : H32) (hl : l.length ≤ 1000000) (k : Nat) (hk : l.length < k) : ref40_find.l0 l v k 0 = some (if v ∈ l.map sid then .ret (((l.map sid).idxOf v : Nat) : Int) else .go ()) := by
  obtain ⟨q, rfl⟩ : ∃ q, k = q + l.length + 1 := ⟨k - l.length - 1, by omega⟩
  have h := find_l l v hl l.length q 0 (by omega)
  have e0 : ((0 : Nat) : Int) = 0 := rfl
  rw [e0, List.drop_zero, Nat.zero_add] at h
  exact h
theorem find_ok (l : List Stem) (v : H32) (hl : l.length ≤ 1000000) (k : Nat) (hk : l.length < k) : ref40_find.f k l v = some (if v ∈ l.map sid then (((l.map sid).idxOf v : Nat) : Int) else -1) := by
  unfold ref40_find.f
  rw [find_l0 l v hl k hk]
  by_cases hm : v ∈ l.map sid
  · rw [if_pos hm, if_pos hm]; rfl
  · rw [if_neg hm, if_neg hm]; rfl
/-! ## soundness -/
theorem okF_step {α : Type} [DecidableEq α] (p : α → Bool) {l : List α} {t : Nat} (h : t < l.length) : okF p (l.take t) (l.drop t) = ((p l[t] && !(decide (l[t] ∈ l.take t))) && okF p (l.take (t + 1)) (l.drop (t + 1))) := by
  rw [List.drop_eq_getElem_cons h, okF, List.take_succ_eq_append_getElem h]
def nn (x : Int) : Bool := !(decide (x < 0))
theorem soundR_l (r : Relay) (hl : r.Routes.length ≤ 1000000) : ∀ (m k t : Nat), t + m = r.Routes.length → relay_sound.l0 r (k + r.Routes.length + m + 1) (t : Int) = some (if okF nn (r.Routes.take t) (r.Routes.drop t) then .go () else .ret false)
  | 0, k, t, h => by rw [relay_sound.l0, if_neg (by simp; omega), List.drop_of_length_le (by omega)]; rfl
  | m + 1, k, t, h => by
    have hlt : t < r.Routes.length := by omega
    rw [show k + r.Routes.length + (m + 1) + 1 = k + r.Routes.length + m + 1 + 1 by omega, relay_sound.l0, if_pos (by simp; omega), if_pos ⟨by omega, by omega⟩, getD_at hlt, suc t (by omega), soundR_l r hl m k (t + 1) (by omega), okF_step nn hlt]
    by_cases h1 : r.Routes[t] < 0
    · rw [if_pos (by simpa using h1), Option.bind_some, if_pos rfl]
      have : nn r.Routes[t] = false := by simp [nn, h1]
      rw [this]; rfl
    · rw [if_neg (by simpa using h1), Int.toNat_natCast, if_pos (show 0 ≤ (t : Int) ∧ (t : Int) ≤ ((r.Routes.length : Nat) : Int) by omega), containsI_ok _ _ (by rw [List.length_take]; omega) _ (by rw [List.length_take]; omega), Option.bind_some, Option.bind_some]
      have : nn r.Routes[t] = true := by simp [nn]; omega
      rw [this]
      by_cases h2 : r.Routes[t] ∈ r.Routes.take t
      · rw [if_pos (by simpa using h2)]; simp [h2]
      · rw [if_neg (by simpa using h2)]; simp [h2]
theorem stemmed_ok (r : Relay) (hl : r.Stems.length ≤ 1000000) : ∀ (m k : Nat) (xs : List H32) (t : Nat), t + m = r.Stems.length → xs.length + m ≤ 1000000 → relay_stemmed.l0 r (k + m + 1) xs (t : Int) = some (xs ++ (r.Stems.map sid).drop t)
  | 0, k, xs, t, h, hx => by rw [relay_stemmed.l0, if_neg (by simp; omega), List.drop_of_length_le (by simp; omega)]; simp
  | m + 1, k, xs, t, h, hx => by
    have hlt : t < r.Stems.length := by omega
    have hlt' : t < (r.Stems.map sid).length := by simpa using hlt
    rw [show k + (m + 1) + 1 = k + m + 1 + 1 by omega, relay_stemmed.l0, if_pos (by simp; omega), if_pos ⟨by omega, by omega⟩, if_pos (by omega), getD_at hlt, suc t (by omega), stemmed_ok r hl m k _ (t + 1) (by omega) (by simp; omega), List.drop_eq_getElem_cons hlt', List.getElem_map, List.append_assoc]
    rfl
theorem concatH_ok (k : Nat) (a b : List H32) (ha : a.length ≤ 1000000) (hb : b.length ≤ 1000000) : slices_Concat_Hash.f k a b = some (a ++ b) := by
  unfold slices_Concat_Hash.f
  have e1 : IntKind.i64.wrap (0 + ((a.length : Nat) : Int)) = ((a.length : Nat) : Int) := by rw [wr (by omega) (by omega)]; omega
  have e2 : IntKind.i64.wrap (((a.length : Nat) : Int) + ((b.length : Nat) : Int)) = ((a.length + b.length : Nat) : Int) := by rw [wr (by omega) (by omega)]; omega
  have e3 : IntKind.i64.wrap (((a.length + b.length : Nat) : Int) - 0) = ((a.length + b.length : Nat) : Int) := by rw [wr (by omega) (by omega)]; omega
  rw [e1, e2, e3, if_neg (by simp), if_neg (by simp; omega)]
  have e4 : (if (decide (((a.length + b.length : Nat) : Int) > 0)) = true then (if 0 ≤ ((a.length + b.length : Nat) : Int) ∧ (0 + ((a.length + b.length : Nat) : Int).toNat) * 32 ≤ 140737488355328 then (if 0 ≤ (0 : Int) ∧ (0 : Int) ≤ (((0 + ((a.length + b.length : Nat) : Int).toNat) : Nat) : Int) then (some ((([] : List H32) ++ List.replicate ((a.length + b.length : Nat) : Int).toNat (Vector.replicate 32 0 : Vector Int 32)).take ((0 : Int).toNat))) else none) else none) else (some ([] : List H32))) = some [] := by
    split
    · rw [if_pos (by omega), if_pos (by omega)]; simp
    · rfl
  rw [e4, Option.bind_some, if_pos (by simp; omega), if_pos (by simp; omega)]
  simp
theorem soundM_l (l : List H32) (hl : l.length ≤ 1000000) : ∀ (m k : Nat) (mp : List (H32 × Bool)) (t : Nat), t + m = l.length → (∀ x, (mget mp x).getD false = decide (x ∈ l.take t)) → relay_sound.l1 l ((l.length : Nat) : Int) (k + m + 1) mp (t : Int) = some (if okF (fun _ => true) (l.take t) (l.drop t) then .go () else .ret false)
  | 0, k, mp, t, h, hmp => by rw [relay_sound.l1, if_neg (by simp; omega), List.drop_of_length_le (by omega)]; rfl
  | m + 1, k, mp, t, h, hmp => by
    have hlt : t < l.length := by omega
    rw [show k + (m + 1) + 1 = k + m + 1 + 1 by omega, relay_sound.l1, if_pos (by simp; omega), if_pos ⟨by omega, by omega⟩, getD_at hlt, hmp, suc t (by omega), okF_step _ hlt]
    by_cases h2 : l[t] ∈ l.take t
    · rw [if_pos (by simpa using h2)]; simp [h2]
    · rw [if_neg (by simpa using h2), soundM_l l hl m k (mput mp l[t] true) (t + 1) (by omega) ?_]
      · simp [h2]
      · intro x
        rw [mget_mput, List.take_succ_eq_append_getElem hlt]
        by_cases hx : x = l[t]
        · rw [if_pos (by simpa using hx)]
          exact (decide_eq_true (List.mem_append.2 (.inr (List.mem_singleton.2 hx)))).symm
        · rw [if_neg (by simpa using hx), hmp x]
          exact decide_eq_decide.2 ⟨fun h => List.mem_append.2 (.inl h), fun h => (List.mem_append.1 h).resolve_right (fun h => hx (List.mem_singleton.1 h))⟩
def soundB (r : Relay) : Bool := (decide (r.Routes.length ≤ 2) && (decide (r.Stems.length ≤ 64) && decide (r.Fluffed.length ≤ 2048))) && (okF nn [] r.Routes && okF (fun _ => true) [] (r.Stems.map sid ++ r.Fluffed))
theorem lens_ok (r : Relay) : (if (decide (((r.Routes.length : Nat) : Int) > 2)) = true then (some true) else (if (decide (((r.Stems.length : Nat) : Int) > 64)) = true then (some true) else (some (decide (((r.Fluffed.length : Nat) : Int) > 2048))))) = some (!(decide (r.Routes.length ≤ 2) && (decide (r.Stems.length ≤ 64) && decide (r.Fluffed.length ≤ 2048)))) := by
  by_cases h1 : r.Routes.length ≤ 2
  · rw [if_neg (by simp; omega)]
    by_cases h2 : r.Stems.length ≤ 64
    · rw [if_neg (by simp; omega)]
      by_cases h3 : r.Fluffed.length ≤ 2048
      · simp [h1, h2, h3]; omega
      · simp [h1, h2, h3]; omega
    · rw [if_pos (by simp; omega)]; simp [h1, h2]
  · rw [if_pos (by simp; omega)]; simp [h1]
theorem soundA (r : Relay) (k : Nat) : relay_sound.f (k + 3000) r = some (soundB r) := by
  unfold relay_sound.f
  rw [lens_ok, Option.bind_some]
  unfold soundB
  by_cases h : (decide (r.Routes.length ≤ 2) && (decide (r.Stems.length ≤ 64) && decide (r.Fluffed.length ≤ 2048))) = true
  · rw [h]
    simp only [Bool.and_eq_true, decide_eq_true_eq] at h
    obtain ⟨h1, h2, h3⟩ := h
    have l0 := soundR_l r (by omega) r.Routes.length (k + 3000 - r.Routes.length - r.Routes.length - 1) 0 (by omega)
    have e0 : ((0 : Nat) : Int) = 0 := rfl
    rw [show k + 3000 - r.Routes.length - r.Routes.length - 1 + r.Routes.length + r.Routes.length + 1 = k + 3000 by omega, e0, List.take_zero, List.drop_zero] at l0
    rw [if_neg (by decide), l0, Option.bind_some]
    by_cases hr : okF nn [] r.Routes = true
    · rw [if_pos hr, hr]
      dsimp only
      have s0 := stemmed_ok r (by omega) r.Stems.length (k + 3000 - r.Stems.length - 1) [] 0 (by omega) (by simp; omega)
      rw [show k + 3000 - r.Stems.length - 1 + r.Stems.length + 1 = k + 3000 by omega, e0, List.drop_zero, List.nil_append] at s0
      have hst : relay_stemmed.f (k + 3000) (Relay.mk r.Epoch r.Diffuse r.Routes r.Stems r.Fluffed) = some (r.Stems.map sid) := by
        unfold relay_stemmed.f
        have : relay_stemmed.l0 (Relay.mk r.Epoch r.Diffuse r.Routes r.Stems r.Fluffed) (k + 3000) ([] : List H32) 0 = _ := s0
        rw [this]; rfl
      have hml : (r.Stems.map sid).length ≤ 64 := by simpa using h2
      have hl : (r.Stems.map sid ++ r.Fluffed).length ≤ 2112 := by rw [List.length_append]; omega
      rw [hst, Option.bind_some, concatH_ok _ _ _ (by omega) (by omega), Option.bind_some, Option.bind_some]
      dsimp only
      have m0 := soundM_l (r.Stems.map sid ++ r.Fluffed) (by omega) (r.Stems.map sid ++ r.Fluffed).length (k + 3000 - (r.Stems.map sid ++ r.Fluffed).length - 1) [] 0 (by omega) (fun x => by simp [mget])
      rw [show k + 3000 - (r.Stems.map sid ++ r.Fluffed).length - 1 + (r.Stems.map sid ++ r.Fluffed).length + 1 = k + 3000 by omega, e0, List.take_zero, List.drop_zero] at m0
      rw [m0, Option.bind_some]
      by_cases hf : okF (fun _ => true) [] (r.Stems.map sid ++ r.Fluffed) = true
      · rw [if_pos hf, hf]; rfl
      · rw [if_neg hf]
        have : okF (fun _ => true) [] (r.Stems.map sid ++ r.Fluffed) = false := by simpa using hf
        rw [this]; rfl
    · rw [if_neg hr]
      have : okF nn [] r.Routes = false := by simpa using hr
      rw [this]; rfl
  · have h' : (decide (r.Routes.length ≤ 2) && (decide (r.Stems.length ≤ 64) && decide (r.Fluffed.length ≤ 2048))) = false := by simpa using h
    rw [h']; rfl

/-! ## the reference's soundness -/
theorem soundR0 (r : Relay) (h2 : r.Routes.length ≤ 2) (k : Nat) : ref40_Sound.l0 r (k + 3) 0 = some (if okF nn [] r.Routes then .go () else .ret false) := by
  have hw1 : IntKind.i64.wrap (0 + 1) = 1 := by decide
  have hw2 : IntKind.i64.wrap (1 + 1) = 2 := by decide
  obtain ⟨e, d, l, s, f⟩ := r
  dsimp only at h2
  match l, h2 with
  | [], _ => rfl
  | [a], _ =>
    rw [ref40_Sound.l0]
    dsimp only
    rw [if_pos (by simp), if_pos (by simp)]
    by_cases ha : a < 0
    · rw [if_pos (by simpa using ha), Option.bind_some, if_pos rfl]
      simp [okF, nn, ha]
    · rw [if_neg (by simpa using ha), if_neg (by decide), Option.bind_some, if_neg (by decide), hw1, ref40_Sound.l0, if_neg (by simp)]
      simp [okF, nn, ha]
  | [a, b], _ =>
    rw [ref40_Sound.l0]
    dsimp only
    rw [if_pos (by simp), if_pos (by simp)]
    by_cases ha : a < 0
    · rw [if_pos (by simpa using ha), Option.bind_some, if_pos rfl]
      simp [okF, nn, ha]
    · rw [if_neg (by simpa using ha), if_neg (by decide), Option.bind_some, if_neg (by decide), hw1, ref40_Sound.l0]
      dsimp only
      rw [if_pos (by simp), if_pos (by simp)]
      by_cases hb : b < 0
      · rw [if_pos (by simpa using hb), Option.bind_some, if_pos rfl]
        simp [okF, nn, ha, hb]
      · rw [if_neg (by simpa using hb), if_pos (by decide), if_pos (by simp), if_pos (by simp), Option.bind_some]
        by_cases hab : a = b
        · rw [if_pos (by simp [hab])]
          simp [okF, nn, hab]
        · rw [if_neg (by simpa using hab), hw2, ref40_Sound.l0, if_neg (by simp)]
          have : ¬ b = a := fun e => hab e.symm
          simp [okF, nn, ha, hb, this]
theorem soundR1 (r : Relay) (hl : r.Fluffed.length ≤ 1000000) : ∀ (m k t : Nat), t + m = r.Fluffed.length → ref40_Sound.l1 r (k + r.Fluffed.length + m + 1) (t : Int) = some (if okF (fun _ => true) (r.Fluffed.take t) (r.Fluffed.drop t) then .go () else .ret false)
  | 0, k, t, h => by rw [ref40_Sound.l1, if_neg (by simp; omega), List.drop_of_length_le (by omega)]; rfl
  | m + 1, k, t, h => by
    have hlt : t < r.Fluffed.length := by omega
    rw [show k + r.Fluffed.length + (m + 1) + 1 = k + r.Fluffed.length + m + 1 + 1 by omega, ref40_Sound.l1, if_pos (by simp; omega), if_pos ⟨by omega, by omega⟩, if_pos ⟨by omega, by omega⟩, getD_at hlt, suc t (by omega), soundR1 r hl m k (t + 1) (by omega), okF_step _ hlt, Int.toNat_natCast, has_ok _ _ (by rw [List.length_take]; omega) _ (by rw [List.length_take]; omega), Option.bind_some]
    by_cases h2 : r.Fluffed[t] ∈ r.Fluffed.take t
    · rw [if_pos (by simpa using h2)]; simp [h2]
    · rw [if_neg (by simpa using h2)]; simp [h2]
theorem idx_take {α : Type} [BEq α] [LawfulBEq α] : ∀ (l : List α) (t : Nat) (h : t < l.length), l.idxOf l[t] = t ↔ l[t] ∉ l.take t
  | [], t, h => by simp at h
  | x :: l, 0, h => by simp [List.idxOf_cons]
  | x :: l, t + 1, h => by
    rw [List.getElem_cons_succ, List.take_succ_cons, List.mem_cons, not_or]
    by_cases hx : x = l[t]'(by simpa using h)
    · rw [hx, idx_zero]; simp
    · rw [idx_succ hx, ← idx_take l t (by simpa using h)]
      constructor
      · intro e; exact ⟨fun e2 => hx e2.symm, by omega⟩
      · intro e; omega
theorem soundR2 (r : Relay) (hl : r.Stems.length ≤ 1000000) (hf : r.Fluffed.length ≤ 1000000) : ∀ (m k t : Nat), t + m = r.Stems.length → ref40_Sound.l2 r (k + r.Stems.length + r.Fluffed.length + m + 1) (t : Int) = some (if okF (fun x => !(decide (x ∈ r.Fluffed))) ((r.Stems.map sid).take t) ((r.Stems.map sid).drop t) then .go () else .ret false)
  | 0, k, t, h => by rw [ref40_Sound.l2, if_neg (by simp; omega), List.drop_of_length_le (by simp; omega)]; rfl
  | m + 1, k, t, h => by
    have hlt : t < r.Stems.length := by omega
    have hlt' : t < (r.Stems.map sid).length := by simpa using hlt
    have hid : (r.Stems[t]).ID = (r.Stems.map sid)[t] := by rw [List.getElem_map]
    rw [show k + r.Stems.length + r.Fluffed.length + (m + 1) + 1 = k + r.Stems.length + r.Fluffed.length + m + 1 + 1 by omega, ref40_Sound.l2, if_pos (by simp; omega), if_pos ⟨by omega, by omega⟩, if_pos ⟨by omega, by omega⟩, getD_at hlt, suc t (by omega), soundR2 r hl hf m k (t + 1) (by omega), okF_step _ hlt', hid, find_ok _ _ hl _ (by omega), if_pos (List.getElem_mem hlt'), Option.bind_some, has_ok _ _ hf _ (by omega)]
    have hi := idx_take (r.Stems.map sid) t hlt'
    by_cases h2 : (r.Stems.map sid)[t] ∈ (r.Stems.map sid).take t
    · have hne : ¬ (((r.Stems.map sid).idxOf (r.Stems.map sid)[t] : Nat) : Int) = (t : Int) := fun e => (hi.1 (by omega)) h2
      rw [if_pos (by simpa using hne), Option.bind_some, if_pos rfl]
      simp only [h2, decide_true, Bool.not_true, Bool.and_false, Bool.false_and]
      rfl
    · have he : (((r.Stems.map sid).idxOf (r.Stems.map sid)[t] : Nat) : Int) = (t : Int) := by rw [hi.2 h2]
      rw [he, if_neg (by simp), Option.bind_some, Option.bind_some]
      by_cases h3 : (r.Stems.map sid)[t] ∈ r.Fluffed
      · rw [if_pos (by simpa using h3)]
        simp only [h3, decide_true, Bool.not_true, Bool.false_and]
        rfl
      · rw [if_neg (by simpa using h3)]
        simp only [h2, h3, decide_false, Bool.not_false, Bool.true_and]
theorem okF_split (a b : List H32) : okF (fun _ => true) [] (a ++ b) = (okF (fun _ => true) [] b && okF (fun x => !(decide (x ∈ b))) [] a) := by
  rw [Bool.eq_iff_iff, Bool.and_eq_true, okF_iff, okF_iff, okF_iff, List.nodup_append]
  simp only [List.not_mem_nil, not_false_eq_true, and_self, implies_true, true_and, Bool.not_eq_true', decide_eq_false_iff_not, and_true]
  constructor
  · rintro ⟨h1, h2, h3⟩
    exact ⟨h2, fun x hx hb => h3 x hx x hb rfl, h1⟩
  · rintro ⟨h1, h2, h3⟩
    exact ⟨h3, h1, fun x hx y hy e => h2 x hx (e ▸ hy)⟩
theorem soundRf (r : Relay) (k : Nat) : ref40_Sound.f (k + 3000 + 3000) r = some (soundB r) := by
  unfold ref40_Sound.f
  rw [lens_ok, Option.bind_some]
  unfold soundB
  by_cases h : (decide (r.Routes.length ≤ 2) && (decide (r.Stems.length ≤ 64) && decide (r.Fluffed.length ≤ 2048))) = true
  · rw [h]
    simp only [Bool.and_eq_true, decide_eq_true_eq] at h
    obtain ⟨h1, h2, h3⟩ := h
    have e0 : ((0 : Nat) : Int) = 0 := rfl
    have l1 := soundR1 r (by omega) r.Fluffed.length (k + 3000 + 3000 - r.Fluffed.length - r.Fluffed.length - 1) 0 (by omega)
    rw [show k + 3000 + 3000 - r.Fluffed.length - r.Fluffed.length - 1 + r.Fluffed.length + r.Fluffed.length + 1 = k + 3000 + 3000 by omega, e0, List.take_zero, List.drop_zero] at l1
    have l2 := soundR2 r (by omega) (by omega) r.Stems.length (k + 3000 + 3000 - r.Stems.length - r.Fluffed.length - r.Stems.length - 1) 0 (by omega)
    rw [show k + 3000 + 3000 - r.Stems.length - r.Fluffed.length - r.Stems.length - 1 + r.Stems.length + r.Fluffed.length + r.Stems.length + 1 = k + 3000 + 3000 by omega, e0, List.take_zero, List.drop_zero] at l2
    have l0 := soundR0 r h1 (k + 2997 + 3000)
    rw [show k + 2997 + 3000 + 3 = k + 3000 + 3000 by omega] at l0
    rw [if_neg (by decide), l0, Option.bind_some, okF_split]
    cases okF nn [] r.Routes with
    | false => rfl
    | true =>
      rw [if_pos rfl]
      dsimp only
      rw [l1, Option.bind_some]
      cases okF (fun _ => true) [] r.Fluffed with
      | false => rfl
      | true =>
        rw [if_pos rfl]
        dsimp only
        rw [l2, Option.bind_some]
        cases okF (fun x => !(decide (x ∈ r.Fluffed))) [] (r.Stems.map sid) with
        | false => rfl
        | true => rfl
  · have h' : (decide (r.Routes.length ≤ 2) && (decide (r.Stems.length ≤ 64) && decide (r.Fluffed.length ≤ 2048))) = false := by simpa using h
    rw [h']; rfl

/-! ## rows from which some are struck -/
theorem filt_step {α : Type} (p : α → Bool) {l : List α} {j : Nat} (h : j < l.length) : (l.take (j + 1)).filter p = (l.take j).filter p ++ (if p l[j] then [l[j]] else []) := by
  rw [List.take_succ_eq_append_getElem h, List.filter_append]
  congr 1
  cases hp : p l[j] <;> simp [hp]
/-- one step of the compaction -/
theorem comp_step {α : Type} (p : α → Bool) {l xs : List α} {i j : Nat} (hx : xs.length = l.length) (hij : i < j) (hj : j < l.length) (h1 : xs.take i = (l.take j).filter p) (h2 : xs.drop j = l.drop j) :
    xs[j]'(by omega) = l[j] ∧ (p l[j] = true → (xs.set i l[j]).take (i + 1) = (l.take (j + 1)).filter p ∧ (xs.set i l[j]).drop (j + 1) = l.drop (j + 1)) ∧ (p l[j] = false → xs.take i = (l.take (j + 1)).filter p ∧ xs.drop (j + 1) = l.drop (j + 1)) := by
  have hd : xs.drop (j + 1) = l.drop (j + 1) := by
    have := congrArg (List.drop 1) h2
    rwa [List.drop_drop, List.drop_drop] at this
  refine ⟨?_, fun hp => ⟨?_, ?_⟩, fun hp => ⟨?_, hd⟩⟩
  · have h3 : (xs.drop j)[0]? = (l.drop j)[0]? := by rw [h2]
    rw [List.getElem?_drop, List.getElem?_drop, Nat.add_zero, List.getElem?_eq_getElem (by omega), List.getElem?_eq_getElem hj] at h3
    exact Option.some.inj h3
  · rw [filt_step p hj, hp, if_pos rfl, ← h1, List.take_succ_eq_append_getElem (by rw [List.length_set]; omega), List.getElem_set_self]
    congr 1
    rw [List.take_set_of_le (Nat.le_refl i)]
  · rw [List.drop_set_of_lt (by omega)]
    exact hd
  · rw [filt_step p hj, hp, if_neg (by decide), List.append_nil, h1]
def keepId (id : H32) (x : Stem) : Bool := !(x.ID == id)
theorem fluff_l (id : H32) (r : Relay) (hl : r.Stems.length ≤ 1000000) : ∀ (m k : Nat) (xs : List Stem) (i j : Nat), j + m = r.Stems.length → i < j → xs.length = r.Stems.length → xs.take i = (r.Stems.take j).filter (keepId id) → xs.drop j = r.Stems.drop j →
    ∃ (ys : List Stem) (i' : Nat), relay_Fluff.l1 id r (k + m + 1) xs (i : Int) (j : Int) = some (ys, (i' : Int)) ∧ ys.length = r.Stems.length ∧ i' ≤ r.Stems.length ∧ ys.take i' = r.Stems.filter (keepId id) ∧ i' = (r.Stems.filter (keepId id)).length
  | 0, k, xs, i, j, h, hij, hx, h1, h2 => by
    rw [List.take_of_length_le (l := r.Stems) (by omega)] at h1
    refine ⟨xs, i, by rw [relay_Fluff.l1, if_neg (by simp; omega)], hx, by omega, h1, ?_⟩
    rw [← h1, List.length_take]
    omega
  | m + 1, k, xs, i, j, h, hij, hx, h1, h2 => by
    have hj : j < r.Stems.length := by omega
    obtain ⟨c1, c2, c3⟩ := comp_step (keepId id) hx hij hj h1 h2
    have hg : xs.getD (j : Int).toNat Stem.z = r.Stems[j] := by rw [getD_at (by omega), c1]
    rw [show k + (m + 1) + 1 = k + m + 1 + 1 by omega, relay_Fluff.l1, hg, if_pos (by simp; omega), if_pos ⟨by omega, by omega⟩, suc j (by omega), suc i (by omega), Int.toNat_natCast]
    cases hk : keepId id r.Stems[j] with
    | true =>
      have hk' : (!(r.Stems[j].ID == id)) = true := hk
      obtain ⟨d1, d2⟩ := c2 hk
      rw [if_pos hk', if_pos ⟨by omega, by omega⟩, Option.bind_some]
      exact fluff_l id r hl m k (xs.set i r.Stems[j]) (i + 1) (j + 1) (by omega) (by omega) (by rw [List.length_set]; exact hx) d1 d2
    | false =>
      have hk' : ¬ (!(r.Stems[j].ID == id)) = true := by
        intro h
        have : keepId id r.Stems[j] = true := h
        rw [hk] at this; cases this
      obtain ⟨d1, d2⟩ := c3 hk
      rw [if_neg hk', Option.bind_some]
      exact fluff_l id r hl m k xs i (j + 1) (by omega) (by omega) hx d1 d2
theorem fluff_find (id : H32) (r : Relay) : ∀ (k : Nat) (t : Int), relay_Fluff.l0 id r k t = ref40_find.l0 r.Stems id k t
  | 0, _ => rfl
  | k + 1, t => by
    rw [relay_Fluff.l0, ref40_find.l0]
    simp only [fluff_find id r k]
theorem filter_none (id : H32) (l : List Stem) (h : id ∉ l.map sid) : l.filter (keepId id) = l := by
  rw [List.filter_eq_self]
  intro x hx
  have : x.ID ≠ id := fun e => h (List.mem_map.2 ⟨x, hx, e⟩)
  simpa [keepId] using this
theorem filter_first (id : H32) : ∀ (l : List Stem), id ∈ l.map sid → (l.take ((l.map sid).idxOf id + 1)).filter (keepId id) = l.take ((l.map sid).idxOf id)
  | [], h => by simp at h
  | x :: l, h => by
    rw [List.map_cons] at h ⊢
    by_cases he : sid x = id
    · rw [← he, idx_zero]
      simp [keepId]
    · rw [idx_succ he, List.take_succ_cons, List.take_succ_cons, List.filter_cons_of_pos (by simpa [keepId] using he), filter_first id l ((List.mem_cons.1 h).resolve_left (fun e => he e.symm))]
/-- what is left when one is struck whose number stands once -/
theorem filter_once (id : H32) (l : List Stem) (hn : (l.map sid).Nodup) (h : id ∈ l.map sid) : l.filter (keepId id) = l.take ((l.map sid).idxOf id) ++ l.drop ((l.map sid).idxOf id + 1) := by
  have hlt : (l.map sid).idxOf id < (l.map sid).length := List.idxOf_lt_length_iff.2 h
  conv => lhs; rw [← List.take_append_drop ((l.map sid).idxOf id + 1) l, List.filter_append, filter_first id l h]
  congr 1
  apply filter_none
  rw [List.map_drop]
  intro hm
  have hd := hn
  rw [← List.take_append_drop ((l.map sid).idxOf id + 1) (l.map sid), List.nodup_append] at hd
  refine hd.2.2 id ?_ id hm rfl
  have : (l.map sid)[(l.map sid).idxOf id] = id := List.getElem_idxOf hlt
  rw [List.take_succ_eq_append_getElem hlt, this]
  simp
def stripped (id : H32) (r : Relay) : Relay := ⟨r.Epoch, r.Diffuse, r.Routes, r.Stems.filter (keepId id), r.Fluffed ++ [id]⟩
def fluffV (r : Relay) (id : H32) : Relay × Int :=
  if !(soundB r) then (Relay.mk 0 false [] [] [], 6) else if id ∈ r.Fluffed then (Relay.mk 0 false [] [] [], 150) else if 2048 ≤ r.Fluffed.length then (Relay.mk 0 false [] [] [], 380) else (stripped id r, 0)
theorem fluffV_ok {r : Relay} (id : H32) (h : soundB r = true) : fluffV r id = if id ∈ r.Fluffed then (Relay.mk 0 false [] [] [], 150) else if 2048 ≤ r.Fluffed.length then (Relay.mk 0 false [] [] [], 380) else (stripped id r, 0) := by
  unfold fluffV
  rw [h]
  rfl
theorem fluffV_no {r : Relay} (id : H32) (h : soundB r = false) : fluffV r id = (Relay.mk 0 false [] [] [], 6) := by
  unfold fluffV
  rw [h]
  rfl
theorem sound_lens {r : Relay} (h : soundB r = true) : r.Routes.length ≤ 2 ∧ r.Stems.length ≤ 64 ∧ r.Fluffed.length ≤ 2048 ∧ (r.Stems.map sid ++ r.Fluffed).Nodup := by
  unfold soundB at h
  simp only [Bool.and_eq_true, decide_eq_true_eq] at h
  exact ⟨h.1.1, h.1.2.1, h.1.2.2, ((okF_iff _ _ _).1 h.2.2).2⟩
theorem clone_ok (k : Nat) (r : Relay) (h1 : r.Routes.length ≤ 1000000) (h2 : r.Stems.length ≤ 1000000) (h3 : r.Fluffed.length ≤ 1000000) : relay_clone.f k r = some r ∧ ref40_Copied.f k r = some r := by
  constructor
  · unfold relay_clone.f slices_Clone_int.f slices_Clone_Stem.f slices_Clone_Hash.f
    rw [if_pos (by omega), Option.bind_some, if_pos (by omega), Option.bind_some, if_pos (by omega)]
    rfl
  · unfold ref40_Copied.f
    rw [if_pos (by omega), if_pos (by omega), if_pos (by omega)]
    rfl
theorem fluffA (r : Relay) (id : H32) (k : Nat) : relay_Fluff.f (k + 3000) r id = some (fluffV r id) := by
  unfold relay_Fluff.f
  have hs : relay_sound.f (k + 3000) (Relay.mk r.Epoch r.Diffuse r.Routes r.Stems r.Fluffed) = some (soundB r) := soundA r k
  rw [hs, Option.bind_some]
  cases hb : soundB r with
  | false => rw [fluffV_no id hb]; rfl
  | true =>
    obtain ⟨h1, h2, h3, h4⟩ := sound_lens hb
    rw [fluffV_ok id hb, if_neg (by decide), containsH_ok _ _ (by omega) _ (by omega), Option.bind_some]
    by_cases hf : id ∈ r.Fluffed
    · rw [if_pos (by simpa using hf), if_pos hf]
    · rw [if_neg (by simpa using hf), if_neg hf]
      by_cases hl : 2048 ≤ r.Fluffed.length
      · rw [if_pos (by simp; omega), if_pos hl]
      · rw [if_neg (by simp; omega), if_neg hl]
        have hc : relay_clone.f (k + 3000) (Relay.mk r.Epoch r.Diffuse r.Routes r.Stems r.Fluffed) = some r := (clone_ok (k + 3000) r (by omega) (by omega) (by omega)).1
        rw [hc, Option.bind_some]
        have hfi := find_l0 r.Stems id (by omega) (k + 3000) (by omega)
        rw [fluff_find, hfi]
        have hfin : ∀ xs : List Stem, xs = r.Stems.filter (keepId id) → (if (r.Fluffed.length + 1) * 32 ≤ 140737488355328 then (some ((Relay.mk r.Epoch r.Diffuse r.Routes xs (r.Fluffed ++ [id])), (0 : Int))) else none) = some (stripped id r, 0) := fun xs hx => by
          rw [if_pos (by omega), hx]; rfl
        by_cases hm : id ∈ r.Stems.map sid
        · rw [if_pos hm, Option.bind_some]
          dsimp only
          rw [Option.bind_some, if_neg (by simp)]
          have hlt : (r.Stems.map sid).idxOf id < r.Stems.length := by have := List.idxOf_lt_length_iff.2 hm; simpa using this
          rw [suc _ (by omega)]
          obtain ⟨ys, i', e, y1, y2, y3, y4⟩ := fluff_l id r (by omega) (r.Stems.length - ((r.Stems.map sid).idxOf id + 1)) (k + 3000 - (r.Stems.length - ((r.Stems.map sid).idxOf id + 1)) - 1) r.Stems ((r.Stems.map sid).idxOf id) ((r.Stems.map sid).idxOf id + 1) (by omega) (by omega) rfl (filter_first id r.Stems hm).symm rfl
          rw [show k + 3000 - (r.Stems.length - ((r.Stems.map sid).idxOf id + 1)) - 1 + (r.Stems.length - ((r.Stems.map sid).idxOf id + 1)) + 1 = k + 3000 by omega] at e
          rw [e, Option.bind_some]
          dsimp only
          rw [if_pos ⟨by omega, by omega⟩, if_pos ⟨by omega, by omega⟩, Option.bind_some, Int.toNat_natCast]
          refine hfin _ ?_
          rw [List.take_left' (by rw [List.length_take]; omega), y3]
        · rw [if_neg hm, Option.bind_some]
          dsimp only
          rw [Option.bind_some, if_pos (by decide), Option.bind_some]
          exact hfin _ (filter_none id r.Stems hm).symm
theorem fluffR (r : Relay) (id : H32) (k : Nat) : ref40_Fluff.f (k + 3000 + 3000) r id = some (fluffV r id) := by
  unfold ref40_Fluff.f
  have hs : ref40_Sound.f (k + 3000 + 3000) (Relay.mk r.Epoch r.Diffuse r.Routes r.Stems r.Fluffed) = some (soundB r) := soundRf r k
  rw [hs, Option.bind_some]
  cases hb : soundB r with
  | false => rw [fluffV_no id hb]; rfl
  | true =>
    obtain ⟨h1, h2, h3, h4⟩ := sound_lens hb
    rw [fluffV_ok id hb, if_neg (by decide), has_ok _ _ (by omega) _ (by omega), Option.bind_some]
    by_cases hf : id ∈ r.Fluffed
    · rw [if_pos (by simpa using hf), if_pos hf]
    · rw [if_neg (by simpa using hf), if_neg hf]
      by_cases hl : 2048 ≤ r.Fluffed.length
      · rw [if_pos (by simp; omega), if_pos hl]
      · rw [if_neg (by simp; omega), if_neg hl]
        have hc : ref40_Copied.f (k + 3000 + 3000) (Relay.mk r.Epoch r.Diffuse r.Routes r.Stems r.Fluffed) = some r := (clone_ok (k + 3000 + 3000) r (by omega) (by omega) (by omega)).2
        rw [hc, Option.bind_some, find_ok r.Stems id (by omega) (k + 3000 + 3000) (by omega), Option.bind_some]
        have hfin : ∀ xs : List Stem, xs = r.Stems.filter (keepId id) → (if (r.Fluffed.length + 1) * 32 ≤ 140737488355328 then (some ((Relay.mk r.Epoch r.Diffuse r.Routes xs (r.Fluffed ++ [id])), (0 : Int))) else none) = some (stripped id r, 0) := fun xs hx => by
          rw [if_pos (by omega), hx]; rfl
        by_cases hm : id ∈ r.Stems.map sid
        · have hlt : (r.Stems.map sid).idxOf id < r.Stems.length := by have := List.idxOf_lt_length_iff.2 hm; simpa using this
          rw [if_pos hm, if_pos (by simp), suc _ (by omega), if_pos ⟨by omega, by omega⟩, if_pos ⟨by omega, by omega⟩, Int.toNat_natCast, Int.toNat_natCast, if_pos (by omega), if_pos (by omega), Option.bind_some]
          exact hfin _ (filter_once id r.Stems (List.nodup_append.1 h4).1 hm).symm
        · rw [if_neg hm, if_neg (by decide), Option.bind_some]
          exact hfin _ (filter_none id r.Stems hm).symm

/-! ## those that are due -/
def late (now : Int) (x : Stem) : Bool := !(decide (x.Due ≤ now))
def due (now : Int) (x : Stem) : Bool := decide (x.Due ≤ now)
def dueIds (now : Int) (l : List Stem) : List H32 := (l.filter (due now)).map sid
theorem due_step (now : Int) {l : List Stem} {j : Nat} (h : j < l.length) : dueIds now (l.take (j + 1)) = dueIds now (l.take j) ++ (if due now l[j] then [l[j].ID] else []) := by
  unfold dueIds
  rw [filt_step _ h, List.map_append]
  congr 1
  cases due now l[j] <;> rfl
theorem due_none (now : Int) {l : List Stem} {n : Nat} (h : ∀ x ∈ l.take n, due now x = false) : dueIds now (l.take n) = [] ∧ (l.take n).filter (late now) = l.take n := by
  constructor
  · unfold dueIds
    rw [List.filter_eq_nil_iff.2 (fun x hx => by rw [h x hx]; decide)]
    rfl
  · rw [List.filter_eq_self]
    intro x hx
    have := h x hx
    unfold due at this
    unfold late
    rw [this]
    rfl
/-- the first one that is due -/
theorem due0 (now : Int) (r : Relay) (hl : r.Stems.length ≤ 1000000) : ∀ (m k t : Nat), t + m = r.Stems.length → (∀ x ∈ r.Stems.take t, due now x = false) →
    (∃ (i : Nat) (hi : i < r.Stems.length), relay_Due.l0 now r (k + m + 1) [] (t : Int) = some (.ret ([r.Stems[i].ID], (i : Int))) ∧ due now r.Stems[i] = true ∧ ∀ x ∈ r.Stems.take i, due now x = false) ∨
    (relay_Due.l0 now r (k + m + 1) [] (t : Int) = some (.go []) ∧ ∀ x ∈ r.Stems, due now x = false)
  | 0, k, t, h, hn => by
    rw [List.take_of_length_le (by omega)] at hn
    exact .inr ⟨by rw [relay_Due.l0, if_neg (by simp; omega)], hn⟩
  | m + 1, k, t, h, hn => by
    have hlt : t < r.Stems.length := by omega
    rw [show k + (m + 1) + 1 = k + m + 1 + 1 by omega, relay_Due.l0, getD_at hlt, if_pos (by simp; omega), if_pos ⟨by omega, by omega⟩, suc t (by omega)]
    cases hd : due now r.Stems[t] with
    | true =>
      have hd' : decide (r.Stems[t].Due ≤ now) = true := hd
      refine .inl ⟨t, hlt, ?_, hd, hn⟩
      rw [if_pos hd', if_pos (by decide), Option.bind_some, if_pos hd']
      rfl
    | false =>
      have hd' : decide (r.Stems[t].Due ≤ now) = false := hd
      rw [hd', if_neg (by decide), Option.bind_some, if_neg (by decide)]
      refine due0 now r hl m k (t + 1) (by omega) ?_
      intro x hx
      rw [List.take_succ_eq_append_getElem hlt] at hx
      rcases List.mem_append.1 hx with h1 | h1
      · exact hn x h1
      · rw [List.mem_singleton.1 h1]; exact hd
theorem due_l (now : Int) (r : Relay) (hl : r.Stems.length ≤ 1000000) : ∀ (m k : Nat) (xs : List Stem) (hs : List H32) (i j : Nat), j + m = r.Stems.length → i < j → xs.length = r.Stems.length → xs.take i = (r.Stems.take j).filter (late now) → xs.drop j = r.Stems.drop j → hs = dueIds now (r.Stems.take j) →
    ∃ (ys : List Stem) (i' : Nat), relay_Due.l1 now r (k + m + 1) xs hs (i : Int) (j : Int) = some (ys, (i' : Int), dueIds now r.Stems) ∧ ys.length = r.Stems.length ∧ i' ≤ r.Stems.length ∧ ys.take i' = r.Stems.filter (late now)
  | 0, k, xs, hs, i, j, h, hij, hx, h1, h2, h3 => by
    rw [List.take_of_length_le (l := r.Stems) (by omega)] at h1 h3
    subst h3
    exact ⟨xs, i, by rw [relay_Due.l1, if_neg (by simp; omega)], hx, by omega, h1⟩
  | m + 1, k, xs, hs, i, j, h, hij, hx, h1, h2, h3 => by
    have hj : j < r.Stems.length := by omega
    obtain ⟨c1, c2, c3⟩ := comp_step (late now) hx hij hj h1 h2
    have hg : xs.getD (j : Int).toNat Stem.z = r.Stems[j] := by rw [getD_at (by omega), c1]
    have hsl : hs.length ≤ j := by
      rw [h3]; unfold dueIds
      rw [List.length_map]
      exact Nat.le_trans (List.length_filter_le _ _) (by rw [List.length_take]; omega)
    have hst := due_step now hj
    rw [← h3] at hst
    rw [show k + (m + 1) + 1 = k + m + 1 + 1 by omega, relay_Due.l1, hg, if_pos (by simp; omega), if_pos ⟨by omega, by omega⟩, suc j (by omega), suc i (by omega), Int.toNat_natCast]
    cases hd : due now r.Stems[j] with
    | true =>
      have hd' : decide (r.Stems[j].Due ≤ now) = true := hd
      have hk : late now r.Stems[j] = false := by unfold late; rw [hd']; rfl
      obtain ⟨d1, d2⟩ := c3 hk
      rw [hd, if_pos rfl] at hst
      rw [hd', if_pos rfl, if_pos (by omega), Option.bind_some, if_neg (by decide), Option.bind_some]
      exact due_l now r hl m k xs _ i (j + 1) (by omega) (by omega) hx d1 d2 hst.symm
    | false =>
      have hd' : decide (r.Stems[j].Due ≤ now) = false := hd
      have hk : late now r.Stems[j] = true := by unfold late; rw [hd']; rfl
      obtain ⟨d1, d2⟩ := c2 hk
      rw [hd, if_neg (by decide), List.append_nil] at hst
      rw [hd', if_neg (by decide), Option.bind_some, if_pos (by decide), if_pos ⟨by omega, by omega⟩, Option.bind_some]
      exact due_l now r hl m k (xs.set i r.Stems[j]) _ (i + 1) (j + 1) (by omega) (by omega) (by rw [List.length_set]; exact hx) d1 d2 hst.symm
def dueV (r : Relay) (now : Int) : Relay × List H32 :=
  if soundB r then (⟨r.Epoch, r.Diffuse, r.Routes, r.Stems.filter (late now), r.Fluffed⟩, dueIds now r.Stems) else (r, [])
theorem dueV_ok {r : Relay} (now : Int) (h : soundB r = true) : dueV r now = (⟨r.Epoch, r.Diffuse, r.Routes, r.Stems.filter (late now), r.Fluffed⟩, dueIds now r.Stems) := by
  unfold dueV; rw [h]; rfl
theorem dueV_no {r : Relay} (now : Int) (h : soundB r = false) : dueV r now = (r, []) := by
  unfold dueV; rw [h]; rfl
theorem dueA (r : Relay) (now : Int) (b1 : r.Routes.length ≤ 1000000) (b2 : r.Stems.length ≤ 1000000) (b3 : r.Fluffed.length ≤ 1000000) (k : Nat) : relay_Due.f (k + 3000) r now = some (dueV r now) := by
  unfold relay_Due.f
  have hc : relay_clone.f (k + 3000) (Relay.mk r.Epoch r.Diffuse r.Routes r.Stems r.Fluffed) = some r := (clone_ok (k + 3000) r b1 b2 b3).1
  have hs : relay_sound.f (k + 3000) (Relay.mk r.Epoch r.Diffuse r.Routes r.Stems r.Fluffed) = some (soundB r) := soundA r k
  rw [hc, Option.bind_some, hs, Option.bind_some]
  cases hb : soundB r with
  | false => rw [dueV_no now hb]; rfl
  | true =>
    obtain ⟨h1, h2, h3, h4⟩ := sound_lens hb
    rw [dueV_ok now hb, if_neg (by decide)]
    have e0 : ((0 : Nat) : Int) = 0 := rfl
    have d0 := due0 now r (by omega) r.Stems.length (k + 3000 - r.Stems.length - 1) 0 (by omega) (by simp)
    rw [show k + 3000 - r.Stems.length - 1 + r.Stems.length + 1 = k + 3000 by omega, e0] at d0
    rcases d0 with ⟨i, hi, e, hd, hn⟩ | ⟨e, hn⟩
    · obtain ⟨n1, n2⟩ := due_none now hn
      have f1 : (r.Stems.take (i + 1)).filter (late now) = r.Stems.take i := by
        rw [filt_step _ hi, n2]
        have : late now r.Stems[i] = false := by unfold late; unfold due at hd; rw [hd]; rfl
        rw [this]; simp
      have f2 : dueIds now (r.Stems.take (i + 1)) = [r.Stems[i].ID] := by
        rw [due_step now hi, n1, hd]; rfl
      obtain ⟨ys, i', e2, y1, y2, y3⟩ := due_l now r (by omega) (r.Stems.length - (i + 1)) (k + 3000 - (r.Stems.length - (i + 1)) - 1) r.Stems [r.Stems[i].ID] i (i + 1) (by omega) (by omega) rfl f1.symm rfl f2.symm
      rw [show k + 3000 - (r.Stems.length - (i + 1)) - 1 + (r.Stems.length - (i + 1)) + 1 = k + 3000 by omega] at e2
      rw [e, Option.bind_some]
      dsimp only
      rw [Option.bind_some]
      dsimp only
      rw [if_neg (by simp), suc i (by omega), e2, Option.bind_some]
      dsimp only
      rw [if_pos ⟨by omega, by omega⟩, if_pos ⟨by omega, by omega⟩, Option.bind_some]
      dsimp only
      rw [Option.bind_some, Int.toNat_natCast, List.take_left' (by rw [List.length_take]; omega), y3]
    · have hn' : ∀ x ∈ r.Stems.take r.Stems.length, due now x = false := by rw [List.take_length]; exact hn
      obtain ⟨n1, n2⟩ := due_none now hn'
      rw [List.take_length] at n1 n2
      rw [e, Option.bind_some]
      dsimp only
      rw [Option.bind_some]
      dsimp only
      rw [if_pos (by decide), Option.bind_some]
      dsimp only
      rw [Option.bind_some, n1, n2]
theorem dueR_l (r : Relay) (now : Int) (hl : r.Stems.length ≤ 1000000) : ∀ (m k t : Nat), t + m = r.Stems.length → ref40_Due.l0 r now (k + m + 1) ((r.Stems.take t).filter (late now)) (dueIds now (r.Stems.take t)) (t : Int) = some (r.Stems.filter (late now), dueIds now r.Stems)
  | 0, k, t, h => by rw [ref40_Due.l0, if_neg (by simp; omega), List.take_of_length_le (l := r.Stems) (by omega)]
  | m + 1, k, t, h => by
    have hlt : t < r.Stems.length := by omega
    have b1 : ((r.Stems.take t).filter (late now)).length ≤ t := Nat.le_trans (List.length_filter_le _ _) (by rw [List.length_take]; omega)
    have b2 : (dueIds now (r.Stems.take t)).length ≤ t := by
      unfold dueIds
      rw [List.length_map]
      exact Nat.le_trans (List.length_filter_le _ _) (by rw [List.length_take]; omega)
    have ih := dueR_l r now hl m k (t + 1) (by omega)
    rw [due_step now hlt, filt_step _ hlt] at ih
    rw [show k + (m + 1) + 1 = k + m + 1 + 1 by omega, ref40_Due.l0, getD_at hlt, if_pos (by simp; omega), if_pos ⟨by omega, by omega⟩, suc t (by omega)]
    cases hd : due now r.Stems[t] with
    | true =>
      have hd' : decide (r.Stems[t].Due ≤ now) = true := hd
      have hk : late now r.Stems[t] = false := by unfold late; rw [hd']; rfl
      rw [hd, hk, if_pos rfl, if_neg (by decide), List.append_nil] at ih
      rw [hd', if_pos rfl, if_pos ⟨by omega, by omega⟩, if_pos (by omega), Option.bind_some]
      exact ih
    | false =>
      have hd' : decide (r.Stems[t].Due ≤ now) = false := hd
      have hk : late now r.Stems[t] = true := by unfold late; rw [hd']; rfl
      rw [hd, hk, if_pos rfl, if_neg (by decide), List.append_nil] at ih
      rw [hd', if_neg (by decide), if_pos ⟨by omega, by omega⟩, if_pos (by omega), Option.bind_some]
      exact ih
theorem dueR (r : Relay) (now : Int) (b1 : r.Routes.length ≤ 1000000) (b2 : r.Stems.length ≤ 1000000) (b3 : r.Fluffed.length ≤ 1000000) (k : Nat) : ref40_Due.f (k + 3000 + 3000) r now = some (dueV r now) := by
  unfold ref40_Due.f
  have hc : ref40_Copied.f (k + 3000 + 3000) (Relay.mk r.Epoch r.Diffuse r.Routes r.Stems r.Fluffed) = some r := (clone_ok (k + 3000 + 3000) r b1 b2 b3).2
  have hs : ref40_Sound.f (k + 3000 + 3000) (Relay.mk r.Epoch r.Diffuse r.Routes r.Stems r.Fluffed) = some (soundB r) := soundRf r k
  rw [hc, Option.bind_some, hs, Option.bind_some]
  cases hb : soundB r with
  | false => rw [dueV_no now hb]; rfl
  | true =>
    obtain ⟨h1, h2, h3, h4⟩ := sound_lens hb
    rw [dueV_ok now hb, if_neg (by decide)]
    have l0 := dueR_l r now (by omega) r.Stems.length (k + 3000 + 3000 - r.Stems.length - 1) 0 (by omega)
    have e0 : ((0 : Nat) : Int) = 0 := rfl
    rw [show k + 3000 + 3000 - r.Stems.length - 1 + r.Stems.length + 1 = k + 3000 + 3000 by omega, e0, List.take_zero] at l0
    have l0' : ref40_Due.l0 r now (k + 3000 + 3000) ([] : List Stem) ([] : List H32) 0 = _ := l0
    rw [l0', Option.bind_some]
/-! ## likeness -/
theorem sameI_l (a : List Int) (ha : a.length ≤ 1000000) : ∀ (m k t : Nat), t + m = a.length → ref40_SameInts.l0 a a (k + m + 1) (t : Int) = some (.go ())
  | 0, k, t, h => by rw [ref40_SameInts.l0, if_neg (by simp; omega)]
  | m + 1, k, t, h => by
    have hlt : t < a.length := by omega
    rw [show k + (m + 1) + 1 = k + m + 1 + 1 by omega, ref40_SameInts.l0, if_pos (by simp; omega), if_pos ⟨by omega, by omega⟩, if_pos ⟨by omega, by omega⟩, if_neg (by simp), suc t (by omega), sameI_l a ha m k (t + 1) (by omega)]
theorem sameI (a : List Int) (ha : a.length ≤ 1000000) (k : Nat) (hk : a.length < k) : ref40_SameInts.f k a a = some true := by
  have h := sameI_l a ha a.length (k - a.length - 1) 0 (by omega)
  have e0 : ((0 : Nat) : Int) = 0 := rfl
  rw [show k - a.length - 1 + a.length + 1 = k by omega, e0] at h
  unfold ref40_SameInts.f
  rw [if_neg (by simp), h]
  rfl
theorem sameH_l (a : List H32) (ha : a.length ≤ 1000000) : ∀ (m k t : Nat), t + m = a.length → ref40_SameHashes.l0 a a (k + m + 1) (t : Int) = some (.go ())
  | 0, k, t, h => by rw [ref40_SameHashes.l0, if_neg (by simp; omega)]
  | m + 1, k, t, h => by
    have hlt : t < a.length := by omega
    rw [show k + (m + 1) + 1 = k + m + 1 + 1 by omega, ref40_SameHashes.l0, if_pos (by simp; omega), if_pos ⟨by omega, by omega⟩, if_pos ⟨by omega, by omega⟩, if_neg (by simp), suc t (by omega), sameH_l a ha m k (t + 1) (by omega)]
theorem sameH (a : List H32) (ha : a.length ≤ 1000000) (k : Nat) (hk : a.length < k) : ref40_SameHashes.f k a a = some true := by
  have h := sameH_l a ha a.length (k - a.length - 1) 0 (by omega)
  have e0 : ((0 : Nat) : Int) = 0 := rfl
  rw [show k - a.length - 1 + a.length + 1 = k by omega, e0] at h
  unfold ref40_SameHashes.f
  rw [if_neg (by simp), h]
  rfl
theorem sameS_l (a : Relay) (ha : a.Stems.length ≤ 1000000) : ∀ (m k t : Nat), t + m = a.Stems.length → ref40_Same.l0 a a (k + m + 1) (t : Int) = some (.go ())
  | 0, k, t, h => by rw [ref40_Same.l0, if_neg (by simp; omega)]
  | m + 1, k, t, h => by
    have hlt : t < a.Stems.length := by omega
    have he : (a.Stems.getD (t : Int).toNat Stem.z == a.Stems.getD (t : Int).toNat Stem.z) = true := (Stem.eqb_iff _ _).2 rfl
    rw [show k + (m + 1) + 1 = k + m + 1 + 1 by omega, ref40_Same.l0, if_pos (by simp; omega), if_pos ⟨by omega, by omega⟩, if_pos ⟨by omega, by omega⟩, he, if_neg (by decide), suc t (by omega), sameS_l a ha m k (t + 1) (by omega)]
theorem same_ok (a : Relay) (h1 : a.Routes.length ≤ 1000000) (h2 : a.Stems.length ≤ 1000000) (h3 : a.Fluffed.length ≤ 1000000) (k : Nat) (k1 : a.Routes.length < k) (k2 : a.Stems.length < k) (k3 : a.Fluffed.length < k) : ref40_Same.f k a a = some true := by
  have h := sameS_l a h2 a.Stems.length (k - a.Stems.length - 1) 0 (by omega)
  have e0 : ((0 : Nat) : Int) = 0 := rfl
  rw [show k - a.Stems.length - 1 + a.Stems.length + 1 = k by omega, e0] at h
  unfold ref40_Same.f
  rw [if_neg (by simp), if_neg (by simp), sameI _ h1 k k1, Option.bind_some, if_neg (by decide), sameH _ h3 k k3, Option.bind_some, if_neg (by decide), Option.bind_some, if_neg (by simp), h]
  rfl

/-! ## the deck -/
theorem mod_ok (k : Nat) (v n : Int) (hn : 0 < n) (hb : n < 4611686018427387904) : ∃ r, mill_Mod.f k v n = some r ∧ 0 ≤ r ∧ r < n := by
  have h1 := Int.tmod_lt_of_pos v hn
  have h2 : -n < v.tmod n := by
    have := Int.tmod_lt_of_pos (-v) hn
    rw [Int.neg_tmod] at this
    omega
  unfold mill_Mod.f
  rw [if_pos (by omega)]
  by_cases h : v.tmod n < 0
  · refine ⟨v.tmod n + n, ?_, by omega, by omega⟩
    rw [if_pos (by simpa using h), wr (by omega) (by omega)]; rfl
  · refine ⟨v.tmod n, ?_, by omega, by omega⟩
    rw [if_neg (by simpa using h)]; rfl
abbrev small : Int := 17592186044416
theorem left_ok (k : Nat) (L : List Int) (p : Int) : mill_Deck_Left.f k (lightclientmill_Deck.mk L p) = some (decide (p < (L.length : Int)), lightclientmill_Deck.mk L p) := rfl
theorem next_ok (k : Nat) (L : List Int) (hL : (L.length : Int) ≤ small) (p : Int) (h0 : 0 ≤ p) (h1 : p ≤ (L.length : Int)) (n : Int) (hn : 0 < n) (hb : n < 4611686018427387904) :
    ∃ v q, mill_Deck_Next.f k (lightclientmill_Deck.mk L p) n = some (v, lightclientmill_Deck.mk L q) ∧ 0 ≤ v ∧ v < n ∧ 0 ≤ q ∧ q ≤ (L.length : Int) := by
  unfold small at hL
  unfold mill_Deck_Next.f
  rw [left_ok, Option.bind_some]
  by_cases h : p < (L.length : Int)
  · have e1 : IntKind.i64.wrap (p + 1) = p + 1 := wr (by omega) (by omega)
    have e2 : IntKind.i64.wrap (p + 1 - 1) = p := by rw [wr (by omega) (by omega)]; omega
    obtain ⟨v, ev, hv0, hv1⟩ := mod_ok k (L.getD p.toNat 0) n hn hb
    refine ⟨v, p + 1, ?_, hv0, hv1, by omega, by omega⟩
    simp only [e1, e2, h, decide_true, Bool.not_true, Bool.false_eq_true, if_false, h0, and_self, if_true, ev, Option.bind_some]
  · exact ⟨0, p, by simp [h], by omega, hn, h0, h1⟩

/-! ## what a relay has on the stem ends -/
theorem lhas_l (l : List H32) (v : H32) (hl : l.length ≤ 1000000) : ∀ (m k t : Nat), t + m = l.length → law40_has.l0 l v (k + m + 1) (t : Int) = some (if v ∈ l.drop t then .ret true else .go ())
  | 0, k, t, h => by rw [law40_has.l0, if_neg (by simp; omega), List.drop_of_length_le (by omega), if_neg (by simp)]
  | m + 1, k, t, h => by
    have hlt : t < l.length := by omega
    rw [show k + (m + 1) + 1 = k + m + 1 + 1 by omega, law40_has.l0, if_pos (by simp; omega), if_pos ⟨by omega, by omega⟩, getD_at hlt, suc t (by omega), List.drop_eq_getElem_cons hlt]
    by_cases he : l[t] = v
    · rw [if_pos (by simp [he]), if_pos (by simp [he])]
    · rw [if_neg (by simpa using he), lhas_l l v hl m k (t + 1) (by omega)]
      by_cases hm : v ∈ l.drop (t + 1)
      · rw [if_pos hm, if_pos (List.mem_cons_of_mem _ hm)]
      · rw [if_neg hm, if_neg (fun h => (List.mem_cons.1 h).elim (fun e => he e.symm) hm)]
theorem lhas_ok (l : List H32) (v : H32) (hl : l.length ≤ 1000000) (k : Nat) (hk : l.length < k) : law40_has.f k l v = some (decide (v ∈ l)) := by
  obtain ⟨q, rfl⟩ : ∃ q, k = q + l.length + 1 := ⟨k - l.length - 1, by omega⟩
  have h := lhas_l l v hl l.length q 0 (by omega)
  have e0 : ((0 : Nat) : Int) = 0 := rfl
  rw [e0, List.drop_zero] at h
  unfold law40_has.f
  rw [h]
  by_cases hm : v ∈ l
  · rw [if_pos hm]; simp [hm]
  · rw [if_neg hm]; simp [hm]
theorem fluffK (r : Relay) (id : H32) (k : Nat) (hk : 3000 ≤ k) : relay_Fluff.f k r id = some (fluffV r id) := by
  obtain ⟨q, rfl⟩ : ∃ q, k = q + 3000 := ⟨k - 3000, by omega⟩
  exact fluffA r id q
theorem dueK (r : Relay) (now : Int) (hb : soundB r = true) (k : Nat) (hk : 3000 ≤ k) : relay_Due.f k r now = some (dueV r now) := by
  obtain ⟨q, rfl⟩ : ∃ q, k = q + 3000 := ⟨k - 3000, by omega⟩
  obtain ⟨h1, h2, h3, _⟩ := sound_lens hb
  exact dueA r now (by omega) (by omega) (by omega) q
theorem soundK (r : Relay) (k : Nat) (hk : 3000 ≤ k) : relay_sound.f k r = some (soundB r) := by
  obtain ⟨q, rfl⟩ : ∃ q, k = q + 3000 := ⟨k - 3000, by omega⟩
  exact soundA r q
theorem sound_of {r : Relay} (hr : r.Routes = [4, 7]) (h2 : r.Stems.length ≤ 64) (h3 : r.Fluffed.length ≤ 2048) (hn : (r.Stems.map sid ++ r.Fluffed).Nodup) : soundB r = true := by
  unfold soundB
  have h1 : okF (fun _ => true) [] (r.Stems.map sid ++ r.Fluffed) = true := (okF_iff _ _ _).2 ⟨fun x _ => ⟨rfl, by simp⟩, hn⟩
  rw [h1, hr]
  simp only [Bool.and_eq_true, decide_eq_true_eq]
  exact ⟨⟨by decide, h2, h3⟩, by decide, trivial⟩
/-- .. of those that are due, each is fluffed -/
theorem ends_l1 (sent D : List H32) (x : Relay) (e : Int) (d : Bool) (S0 : List Stem) (F0 : List H32) (hS : S0.length ≤ 64) (hF : (F0 ++ D).length ≤ 2000) (hn : (S0.map sid ++ (F0 ++ D)).Nodup) (hsub : ∀ h ∈ D, h ∈ sent) (hsl : sent.length ≤ 2000) : ∀ (m k t : Nat), t + m = D.length →
    law40_RelayEnds.l1 sent (x, D) (k + 4000 + m + 1) e d [4, 7] S0 (F0 ++ D.take t) (F0 ++ D.take t) (t : Int) = some (.go (e, d, [4, 7], S0, F0 ++ D, F0 ++ D))
  | 0, k, t, h => by
    rw [law40_RelayEnds.l1]
    dsimp only
    rw [if_neg (by simp; omega), List.take_of_length_le (by omega)]
  | m + 1, k, t, h => by
    have hlt : t < D.length := by omega
    have hDl : D.length ≤ 2000 := by rw [List.length_append] at hF; omega
    have hfl : (F0 ++ D.take t).length ≤ 2000 := by
      rw [List.length_append] at hF ⊢
      rw [List.length_take]; omega
    have hfl2 : (F0 ++ D.take t).length + 1 ≤ 2000 := by
      rw [List.length_append] at hF ⊢
      rw [List.length_take]; omega
    have hD : D = D.take t ++ D[t] :: D.drop (t + 1) := by rw [← List.drop_eq_getElem_cons hlt, List.take_append_drop]
    have hn2 : (S0.map sid ++ (F0 ++ D.take t)).Nodup ∧ D[t] ∉ S0.map sid ∧ D[t] ∉ F0 ++ D.take t := by
      rw [hD, ← List.append_assoc F0, ← List.append_assoc] at hn
      obtain ⟨n1, n2, n3⟩ := List.nodup_append.1 hn
      refine ⟨n1, fun hm => ?_, fun hm => ?_⟩
      · exact n3 D[t] (List.mem_append.2 (.inl hm)) D[t] List.mem_cons_self rfl
      · exact n3 D[t] (List.mem_append.2 (.inr hm)) D[t] List.mem_cons_self rfl
    obtain ⟨n1, n2, n3⟩ := hn2
    have hb : soundB (Relay.mk e d [4, 7] S0 (F0 ++ D.take t)) = true := sound_of rfl hS (by show (F0 ++ D.take t).length ≤ 2048; omega) n1
    have hv : fluffV (Relay.mk e d [4, 7] S0 (F0 ++ D.take t)) D[t] = (Relay.mk e d [4, 7] S0 (F0 ++ D.take (t + 1)), 0) := by
      rw [fluffV_ok _ hb, if_neg n3, if_neg (by show ¬ 2048 ≤ (F0 ++ D.take t).length; omega)]
      unfold stripped
      dsimp only
      rw [filter_none _ _ n2, List.take_succ_eq_append_getElem hlt, List.append_assoc]
    rw [show k + 4000 + (m + 1) + 1 = k + 4000 + m + 1 + 1 by omega, law40_RelayEnds.l1]
    dsimp only
    rw [if_pos (by simp; omega), if_pos ⟨by omega, by omega⟩, getD_at hlt, suc t (by omega), lhas_ok _ _ (by omega) _ (by omega), Option.bind_some, if_neg (by simpa using n3), lhas_ok _ _ (by omega) _ (by omega), Option.bind_some, Option.bind_some, if_neg (by simpa using hsub _ (List.getElem_mem hlt)), fluffK _ _ _ (by omega), hv, Option.bind_some]
    dsimp only
    rw [if_neg (by decide), if_pos (by omega), Option.bind_some, List.append_assoc, ← List.take_succ_eq_append_getElem hlt]
    exact ends_l1 sent D x e d S0 F0 hS hF hn hsub hsl m k (t + 1) (by omega)
theorem route_ok (r : Relay) (hr : r.Routes = [4, 7]) (k : Nat) (f : Int) : ∃ v, relay_Route.f k r f = some v := by
  unfold relay_Route.f
  rw [hr, if_neg (by decide), if_pos (by decide), if_pos (by decide), if_pos (by decide)]
  by_cases h : ((f.tmod 2) != 0) = true
  · rw [if_pos h, Option.bind_some]
    by_cases h2 : (f != -1) = true
    · rw [if_pos h2, Option.bind_some]
      dsimp only
      split <;> exact ⟨_, rfl⟩
    · rw [if_neg h2, Option.bind_some]
      dsimp only
      split <;> exact ⟨_, rfl⟩
  · rw [if_neg h, Option.bind_some, if_neg (by decide), Option.bind_some]
    dsimp only
    split <;> exact ⟨_, rfl⟩
theorem hear_ok (r : Relay) (hr : r.Routes = [4, 7]) (hd : r.Diffuse = false) (hb : soundB r = true) (f : Int) (hf : -1 ≤ f) (id : H32) (now : Int) (n0 : 0 ≤ now) (n1 : now ≤ 100000) (k : Nat) (hk : 4000 ≤ k) :
    ∃ x to e, relay_Hear.f k r f id now 10 = some (x, to, e) ∧ ((e == 0) = true → to ≥ 0 → id ∉ r.Stems.map sid ∧ id ∉ r.Fluffed ∧ r.Stems.length < 64 ∧ ∃ a b, x = Relay.mk r.Epoch r.Diffuse r.Routes (r.Stems ++ [Stem.mk id a b (now + 10)]) r.Fluffed) := by
  obtain ⟨h1, h2, h3, h4⟩ := sound_lens hb
  have hs : relay_sound.f k (Relay.mk r.Epoch r.Diffuse r.Routes r.Stems r.Fluffed) = some (soundB r) := soundK r k (by omega)
  have e0 : ((0 : Nat) : Int) = 0 := rfl
  have s0 := stemmed_ok r (by omega) r.Stems.length (k - r.Stems.length - 1) [] 0 (by omega) (by simp; omega)
  rw [show k - r.Stems.length - 1 + r.Stems.length + 1 = k by omega, e0, List.drop_zero, List.nil_append] at s0
  have hst : relay_stemmed.f k (Relay.mk r.Epoch r.Diffuse r.Routes r.Stems r.Fluffed) = some (r.Stems.map sid) := by
    unfold relay_stemmed.f
    have : relay_stemmed.l0 (Relay.mk r.Epoch r.Diffuse r.Routes r.Stems r.Fluffed) k ([] : List H32) 0 = _ := s0
    rw [this]; rfl
  have hc : relay_clone.f k (Relay.mk r.Epoch r.Diffuse r.Routes r.Stems r.Fluffed) = some r := (clone_ok k r (by omega) (by omega) (by omega)).1
  obtain ⟨v, hv0⟩ := route_ok r hr k f
  have hv : relay_Route.f k (Relay.mk r.Epoch r.Diffuse r.Routes r.Stems r.Fluffed) f = some v := hv0
  have hml : (r.Stems.map sid).length ≤ 64 := by simpa using h2
  have hla : relay_later.f k now 10 = some (now + 10) := by
    unfold relay_later.f
    have e1 : IntKind.u32.wrap (4294967295 - now) = 4294967295 - now := by
      obtain ⟨n, hn⟩ : ∃ n : Nat, 4294967295 - now = n := ⟨(4294967295 - now).toNat, by omega⟩
      rw [hn]
      exact wrapu .u32 rfl n (by show n < 4294967296; omega)
    have e2 : IntKind.u32.wrap (now + 10) = now + 10 := by
      obtain ⟨n, hn⟩ : ∃ n : Nat, now + 10 = n := ⟨(now + 10).toNat, by omega⟩
      rw [hn]
      exact wrapu .u32 rfl n (by show n < 4294967296; omega)
    rw [e1, if_neg (by omega), e2]
  unfold relay_Hear.f
  rw [hs, hb, Option.bind_some, if_neg (by decide), Option.bind_some, if_neg (by simp; omega), hst, Option.bind_some, containsH_ok _ _ (by omega) _ (by omega), Option.bind_some]
  by_cases m1 : id ∈ r.Stems.map sid
  · rw [if_pos (by simpa using m1), Option.bind_some, if_pos rfl]
    exact ⟨_, _, _, rfl, fun h => by cases h⟩
  · rw [if_neg (by simpa using m1), containsH_ok _ _ (by omega) _ (by omega), Option.bind_some, Option.bind_some]
    by_cases m2 : id ∈ r.Fluffed
    · rw [if_pos (by simpa using m2)]
      exact ⟨_, _, _, rfl, fun h => by cases h⟩
    · rw [if_neg (by simpa using m2), hv, Option.bind_some, hd, if_neg (by decide), Option.bind_some]
      rw [hd] at hc
      by_cases hneg : v < 0
      · rw [if_pos (by simpa using hneg), hc, Option.bind_some]
        exact ⟨_, _, _, rfl, fun _ h => absurd h (by decide)⟩
      · rw [if_neg (by simpa using hneg)]
        by_cases h64 : 64 ≤ r.Stems.length
        · rw [if_pos (by simp; omega)]
          exact ⟨_, _, _, rfl, fun h => by cases h⟩
        · rw [if_neg (by simp; omega), hc, Option.bind_some, hla, Option.bind_some, if_pos (by omega), Option.bind_some]
          exact ⟨_, _, _, rfl, fun _ _ => ⟨m1, m2, by omega, _, _, by rw [hd]⟩⟩
theorem next2 (k : Nat) (L : List Int) (hL : (L.length : Int) ≤ small) (p : Int) (h0 : 0 ≤ p) (h1 : p ≤ (L.length : Int)) (n : Int) (hn : 0 < n) (hb : n < 4611686018427387904) :
    ∃ v q, mill_Deck_Next.f k (lightclientmill_Deck.mk L p) n = some (v, lightclientmill_Deck.mk L q) ∧ 0 ≤ v ∧ v < n ∧ p ≤ q ∧ q ≤ (L.length : Int) ∧ (p < (L.length : Int) → q = p + 1) := by
  unfold small at hL
  unfold mill_Deck_Next.f
  rw [left_ok, Option.bind_some]
  by_cases h : p < (L.length : Int)
  · have e1 : IntKind.i64.wrap (p + 1) = p + 1 := wr (by omega) (by omega)
    have e2 : IntKind.i64.wrap (p + 1 - 1) = p := by rw [wr (by omega) (by omega)]; omega
    obtain ⟨v, ev, hv0, hv1⟩ := mod_ok k (L.getD p.toNat 0) n hn hb
    refine ⟨v, p + 1, ?_, hv0, hv1, by omega, by omega, fun _ => rfl⟩
    simp only [e1, e2, h, decide_true, Bool.not_true, Bool.false_eq_true, if_false, h0, and_self, if_true, ev, Option.bind_some]
  · exact ⟨0, p, by simp [h], by omega, hn, by omega, h1, fun hh => absurd hh h⟩
structure Inv (r : Relay) (sent gone : List H32) (now p : Int) : Prop where
  hr : r.Routes = [4, 7]
  hd : r.Diffuse = false
  hb : soundB r = true
  hg : gone = r.Fluffed
  h1 : ∀ h ∈ sent, h ∈ r.Stems.map sid ∨ h ∈ r.Fluffed
  h2 : ∀ x ∈ r.Stems, sid x ∈ sent ∧ x.Due ≤ now + 10
  n0 : 0 ≤ now
  n1 : now ≤ 5 * p
  c : (r.Stems.length : Int) + r.Fluffed.length ≤ p
  cs : (sent.length : Int) ≤ p
theorem u32s (x : Int) (h0 : 0 ≤ x) (h1 : x < 4294967296) : IntKind.u32.wrap x = x := by
  obtain ⟨n, rfl⟩ : ∃ n : Nat, x = n := ⟨x.toNat, by omega⟩
  exact wrapu .u32 rfl n (by show n < 4294967296; omega)
theorem due_all (now : Int) (l : List Stem) : ∀ h, h ∈ l.map sid ↔ h ∈ dueIds now l ∨ h ∈ (l.filter (late now)).map sid := by
  intro h
  unfold dueIds
  simp only [List.mem_map, List.mem_filter]
  constructor
  · rintro ⟨x, hx, rfl⟩
    cases hd : due now x with
    | true => exact .inl ⟨x, ⟨hx, hd⟩, rfl⟩
    | false => exact .inr ⟨x, ⟨hx, by unfold late; unfold due at hd; rw [hd]; rfl⟩, rfl⟩
  · rintro (⟨x, ⟨hx, _⟩, rfl⟩ | ⟨x, ⟨hx, _⟩, rfl⟩) <;> exact ⟨x, hx, rfl⟩
theorem due_perm (now : Int) : ∀ (l : List Stem) (F : List H32), (l.map sid ++ F).Nodup → ((l.filter (late now)).map sid ++ (F ++ dueIds now l)).Nodup ∧ (l.filter (late now)).length + (dueIds now l).length = l.length := by
  intro l F hn
  have hp : List.Perm (l.map sid ++ F) ((l.filter (late now)).map sid ++ (F ++ dueIds now l)) := by
    have h1 : List.Perm l (l.filter (due now) ++ l.filter (fun x => !(due now x))) := (List.filter_append_perm (due now) l).symm
    have h2 : l.filter (fun x => !(due now x)) = l.filter (late now) := rfl
    rw [h2] at h1
    have h3 : List.Perm (l.map sid) (dueIds now l ++ (l.filter (late now)).map sid) := by
      have := h1.map sid
      rwa [List.map_append] at this
    refine (h3.append_right F).trans ?_
    rw [List.append_assoc]
    refine List.perm_append_comm.trans ?_
    rw [List.append_assoc]
  refine ⟨hp.nodup_iff.1 hn, ?_⟩
  have := hp.length_eq
  simp only [List.length_append, List.length_map] at this
  omega

theorem ends_l0 (L : List Int) (hL : L.length ≤ 200) : ∀ (m k : Nat) (r : Relay) (p : Int) (sent gone : List H32) (now : Int), 0 ≤ p → p ≤ (L.length : Int) → (L.length : Int) - p ≤ m → Inv r sent gone now p →
    ∃ r' sent' gone' now' p', law40_RelayEnds.l0 L (k + 6000 + m + 1) r.Epoch r.Diffuse r.Routes r.Stems r.Fluffed p sent gone now = some (.go (r'.Epoch, r'.Diffuse, r'.Routes, r'.Stems, r'.Fluffed, sent', gone', now')) ∧ Inv r' sent' gone' now' p' ∧ p' ≤ 200
  | m, k, r, p, sent, gone, now, p0, p1, hm, hI => by
    have hsm : (L.length : Int) ≤ small := by unfold small; omega
    by_cases hlt : p < (L.length : Int)
    · obtain ⟨m, rfl⟩ : ∃ q, m = q + 1 := ⟨m - 1, by omega⟩
      obtain ⟨v1, q1, e1, a1, b1, c1, d1, f1⟩ := next2 (k + 6000 + (m + 1)) L hsm p p0 p1 5 (by omega) (by omega)
      have hq1 := f1 hlt
      obtain ⟨v2, q2, e2, a2, b2, c2, d2, _⟩ := next2 (k + 6000 + (m + 1)) L hsm q1 (by omega) d1 30 (by omega) (by omega)
      obtain ⟨v3, q3, e3, a3, b3, c3, d3, _⟩ := next2 (k + 6000 + (m + 1)) L hsm q2 (by omega) d2 4 (by omega) (by omega)
      obtain ⟨hr, hd, hb, hg, h1, h2, n0, n1, hc, hcs⟩ := hI
      have hnow : IntKind.u32.wrap (now + (IntKind.u32.wrap v1)) = now + v1 := by rw [u32s v1 (by omega) (by omega), u32s _ (by omega) (by omega)]
      obtain ⟨l1, l2, l3, nd⟩ := sound_lens hb
      have hI' : ∀ q, p + 1 ≤ q → Inv r sent gone (now + v1) q := fun q hq => ⟨hr, hd, hb, hg, h1, fun x hx => ⟨(h2 x hx).1, by have := (h2 x hx).2; omega⟩, by omega, by omega, by omega, by omega⟩
      have ih := fun (r : Relay) (q : Int) (sent gone : List H32) (hq : p + 1 ≤ q) (hq2 : q ≤ (L.length : Int)) (h : Inv r sent gone (now + v1) q) => ends_l0 L hL m k r q sent gone (now + v1) (by omega) hq2 (by omega) h
      have hgl : gone.length ≤ 2048 := by rw [hg]; exact l3
      generalize hid : ((Vector.replicate 32 0 : Vector Int 32).setIfInBounds 0 (IntKind.u8.wrap v2)) = id
      rw [law40_RelayEnds.l0, left_ok, Option.bind_some]
      dsimp only
      rw [if_pos (by simpa using hlt), e1, Option.bind_some]
      dsimp only
      rw [e2, Option.bind_some]
      dsimp only
      rw [e3, Option.bind_some]
      dsimp only
      rw [hnow, hid]
      by_cases hz : (v3 == 0) = true
      · have hf : relay_Fluff.f (k + 6000 + (m + 1)) (Relay.mk r.Epoch r.Diffuse r.Routes r.Stems r.Fluffed) id = some (fluffV r id) := fluffK r id _ (by omega)
        rw [if_pos hz, hf, Option.bind_some, fluffV_ok id hb]
        by_cases m1 : id ∈ r.Fluffed
        · rw [if_pos m1, if_neg (by decide)]
          exact ih r q3 sent gone (by omega) (by omega) (hI' q3 (by omega))
        · rw [if_neg m1]
          by_cases m2 : 2048 ≤ r.Fluffed.length
          · rw [if_pos m2, if_neg (by decide)]
            exact ih r q3 sent gone (by omega) (by omega) (hI' q3 (by omega))
          · rw [if_neg m2]
            dsimp only
            rw [if_pos (by decide), if_pos (by omega), Option.bind_some]
            refine ih (stripped id r) q3 sent (gone ++ [id]) (by omega) (by omega) ?_
            have hfil : (r.Stems.filter (keepId id)).length ≤ r.Stems.length := List.length_filter_le _ _
            have hnot : id ∉ (r.Stems.filter (keepId id)).map sid := by
              intro hm
              obtain ⟨x, hx, e⟩ := List.mem_map.1 hm
              have := (List.mem_filter.1 hx).2
              have e' : x.ID = id := e
              simp [keepId, e'] at this
            refine ⟨hr, hd, ?_, by rw [hg]; rfl, ?_, ?_, by omega, by omega, ?_, by omega⟩
            · refine sound_of hr (by show (r.Stems.filter (keepId id)).length ≤ 64; omega) (by show (r.Fluffed ++ [id]).length ≤ 2048; simp; omega) ?_
              show ((r.Stems.filter (keepId id)).map sid ++ (r.Fluffed ++ [id])).Nodup
              rw [← List.append_assoc, List.nodup_append]
              refine ⟨List.Sublist.nodup (List.Sublist.append (List.Sublist.map sid List.filter_sublist) (List.Sublist.refl _)) nd, by simp, ?_⟩
              intro a ha b hb' e
              have hbi : b = id := by simpa using hb'
              subst hbi; subst e
              rcases List.mem_append.1 ha with h | h
              · exact hnot h
              · exact m1 h
            · intro h hh
              by_cases hi : h = id
              · exact .inr (by show h ∈ r.Fluffed ++ [id]; simp [hi])
              · rcases h1 h hh with h3 | h3
                · refine .inl ?_
                  obtain ⟨x, hx, e⟩ := List.mem_map.1 h3
                  refine List.mem_map.2 ⟨x, List.mem_filter.2 ⟨hx, ?_⟩, e⟩
                  have e' : x.ID = h := e
                  unfold keepId
                  rw [e']
                  simpa using hi
                · exact .inr (List.mem_append.2 (.inl h3))
            · intro x hx
              have hx' := (List.mem_filter.1 hx).1
              exact ⟨(h2 x hx').1, by have := (h2 x hx').2; omega⟩
            · show (((r.Stems.filter (keepId id)).length : Nat) : Int) + (((r.Fluffed ++ [id]).length : Nat) : Int) ≤ q3
              simp only [List.length_append, List.length_cons, List.length_nil]
              omega
      · rw [if_neg hz]
        by_cases ho : (v3 == 1) = true
        · have hdu : relay_Due.f (k + 6000 + (m + 1)) (Relay.mk r.Epoch r.Diffuse r.Routes r.Stems r.Fluffed) (now + v1) = some (dueV r (now + v1)) := dueK r (now + v1) hb _ (by omega)
          obtain ⟨np, nl⟩ := due_perm (now + v1) r.Stems r.Fluffed nd
          have hda := due_all (now + v1) r.Stems
          have hFD : (r.Fluffed ++ dueIds (now + v1) r.Stems).length ≤ 2000 := by rw [List.length_append]; omega
          have hsl : (r.Stems.filter (late (now + v1))).length ≤ 64 := by omega
          have hin := ends_l1 sent (dueIds (now + v1) r.Stems) (Relay.mk r.Epoch r.Diffuse r.Routes (r.Stems.filter (late (now + v1))) r.Fluffed) r.Epoch r.Diffuse (r.Stems.filter (late (now + v1))) r.Fluffed hsl hFD np (fun h hh => by
              have := (hda h).2 (.inl hh)
              obtain ⟨x, hx, e⟩ := List.mem_map.1 this
              rw [← e]
              exact (h2 x hx).1) (by omega) (dueIds (now + v1) r.Stems).length (k + 6000 + (m + 1) - 4000 - (dueIds (now + v1) r.Stems).length - 1) 0 (by omega)
          have hdl : (dueIds (now + v1) r.Stems).length ≤ 64 := by omega
          have e0 : ((0 : Nat) : Int) = 0 := rfl
          rw [show k + 6000 + (m + 1) - 4000 - (dueIds (now + v1) r.Stems).length - 1 + 4000 + (dueIds (now + v1) r.Stems).length + 1 = k + 6000 + (m + 1) by omega, e0, List.take_zero, List.append_nil, ← hr, ← hg] at hin
          rw [if_pos ho, hdu, Option.bind_some, dueV_ok _ hb]
          dsimp only
          rw [← hg, hin, Option.bind_some]
          dsimp only
          refine ih (Relay.mk r.Epoch r.Diffuse r.Routes (r.Stems.filter (late (now + v1))) (gone ++ dueIds (now + v1) r.Stems)) q3 sent (gone ++ dueIds (now + v1) r.Stems) (by omega) (by omega) ?_
          rw [hg] at *
          refine ⟨hr, hd, sound_of hr hsl (by show (r.Fluffed ++ dueIds (now + v1) r.Stems).length ≤ 2048; omega) np, rfl, ?_, ?_, by omega, by omega, ?_, by omega⟩
          · intro h hh
            rcases h1 h hh with h3 | h3
            · rcases (hda h).1 h3 with h4 | h4
              · exact .inr (List.mem_append.2 (.inr h4))
              · exact .inl h4
            · exact .inr (List.mem_append.2 (.inl h3))
          · intro x hx
            have hx' := (List.mem_filter.1 hx).1
            exact ⟨(h2 x hx').1, by have := (h2 x hx').2; omega⟩
          · show (((r.Stems.filter (late (now + v1))).length : Nat) : Int) + (((r.Fluffed ++ dueIds (now + v1) r.Stems).length : Nat) : Int) ≤ q3
            rw [List.length_append]
            omega
        · obtain ⟨v4, q4, e4, a4, b4, c4, d4, _⟩ := next2 (k + 6000 + (m + 1)) L hsm q3 (by omega) d3 9 (by omega) (by omega)
          obtain ⟨x, to, e, hx, hxo⟩ := hear_ok r hr hd hb (v4 - 1) (by omega) id (now + v1) (by omega) (by omega) (k + 6000 + (m + 1)) (by omega)
          have hx' : relay_Hear.f (k + 6000 + (m + 1)) (Relay.mk r.Epoch r.Diffuse r.Routes r.Stems r.Fluffed) (v4 - 1) id (now + v1) 10 = some (x, to, e) := hx
          rw [if_neg ho, e4, Option.bind_some]
          dsimp only
          rw [wr (x := v4 - 1) (by omega) (by omega), hx', Option.bind_some, Option.bind_some]
          dsimp only
          by_cases he : (e == 0) = true
          · rw [if_pos he, Option.bind_some]
            by_cases ht : to ≥ 0
            · obtain ⟨m1, m2, m3, a, b, rfl⟩ := hxo he ht
              rw [if_pos (by simpa using ht), if_pos (by omega), Option.bind_some]
              dsimp only
              refine ih (Relay.mk r.Epoch r.Diffuse r.Routes (r.Stems ++ [Stem.mk id a b (now + v1 + 10)]) r.Fluffed) q4 (sent ++ [id]) gone (by omega) (by omega) ?_
              refine ⟨hr, hd, ?_, hg, ?_, ?_, by omega, by omega, ?_, ?_⟩
              · refine sound_of hr (by show (r.Stems ++ [Stem.mk id a b (now + v1 + 10)]).length ≤ 64; simp; omega) l3 ?_
                show ((r.Stems ++ [Stem.mk id a b (now + v1 + 10)]).map sid ++ r.Fluffed).Nodup
                rw [List.map_append, List.append_assoc]
                have hp : List.Perm (r.Stems.map sid ++ ([id] ++ r.Fluffed)) (id :: (r.Stems.map sid ++ r.Fluffed)) := List.perm_middle
                exact hp.nodup_iff.2 (List.nodup_cons.2 ⟨fun h => (List.mem_append.1 h).elim m1 m2, nd⟩)
              · intro h hh
                rcases List.mem_append.1 hh with h3 | h3
                · rcases h1 h h3 with h4 | h4
                  · exact .inl (by show h ∈ (r.Stems ++ [Stem.mk id a b (now + v1 + 10)]).map sid; rw [List.map_append]; exact List.mem_append.2 (.inl h4))
                  · exact .inr h4
                · have : h = id := by simpa using h3
                  exact .inl (by show h ∈ (r.Stems ++ [Stem.mk id a b (now + v1 + 10)]).map sid; rw [List.map_append, this]; simp)
              · intro y hy
                rcases List.mem_append.1 hy with h3 | h3
                · exact ⟨List.mem_append.2 (.inl (h2 y h3).1), by have := (h2 y h3).2; omega⟩
                · have : y = Stem.mk id a b (now + v1 + 10) := by simpa using h3
                  subst this
                  exact ⟨List.mem_append.2 (.inr (by simp)), Int.le_refl _⟩
              · show (((r.Stems ++ [Stem.mk id a b (now + v1 + 10)]).length : Nat) : Int) + ((r.Fluffed.length : Nat) : Int) ≤ q4
                simp only [List.length_append, List.length_cons, List.length_nil]
                omega
              · simp only [List.length_append, List.length_cons, List.length_nil]
                omega
            · rw [if_neg (by simpa using ht)]
              exact ih r q4 sent gone (by omega) (by omega) (hI' q4 (by omega))
          · rw [if_neg he, Option.bind_some, if_neg (by decide)]
            exact ih r q4 sent gone (by omega) (by omega) (hI' q4 (by omega))
    · refine ⟨r, sent, gone, now, p, ?_, hI, by omega⟩
      rw [law40_RelayEnds.l0, left_ok, Option.bind_some]
      dsimp only
      rw [if_neg (by simpa using hlt)]
theorem ends_l2 (sent gone : List H32) (x : Relay × List H32) (hs : sent.length ≤ 1000) (hg : (gone ++ x.2).length ≤ 3000) (h : ∀ y ∈ sent, y ∈ gone ++ x.2) : ∀ (m k t : Nat), t + m = sent.length → law40_RelayEnds.l2 sent gone x (k + 4000 + m + 1) (t : Int) = some (.go ())
  | 0, k, t, ht => by rw [law40_RelayEnds.l2, if_neg (by simp; omega)]
  | m + 1, k, t, ht => by
    have hlt : t < sent.length := by omega
    have hm := h sent[t] (List.getElem_mem hlt)
    rw [show k + 4000 + (m + 1) + 1 = k + 4000 + m + 1 + 1 by omega, law40_RelayEnds.l2, if_pos (by simp; omega), if_pos ⟨by omega, by omega⟩, getD_at hlt, suc t (by omega), lhas_ok _ _ (by omega) _ (by omega), Option.bind_some, decide_eq_true hm, if_neg (by decide)]
    exact ends_l2 sent gone x hs hg h m k (t + 1) (by omega)
theorem sane40 (k : Nat) : law40_sane.f (k + 40) = some true := by kernel_rfl
theorem relayEnds_true (C L : List Int) : ∃ k, law40_RelayEnds.f k C L = some true := by
  refine ⟨8000, ?_⟩
  have hs : law40_sane.f 8000 = some true := by have := sane40 7960; exact this
  unfold law40_RelayEnds.f mill_Few.f mill_New.f
  rw [hs, Option.bind_some, if_neg (by decide), Option.bind_some]
  by_cases hL : L.length ≤ 200
  · rw [if_neg (by simp; omega), Option.bind_some]
    dsimp only
    have hI : Inv (Relay.mk 0 false [4, 7] [] []) [] [] 0 0 := ⟨rfl, rfl, sound_of rfl (by decide) (by decide) (by decide), rfl, by simp, by simp, by omega, by omega, by simp, by simp⟩
    obtain ⟨r', sent, gone, now, p, e, ⟨hr, hd, hb, hg, h1, h2, n0, n1, hc, hcs⟩, hp⟩ := ends_l0 L hL 200 1799 (Relay.mk 0 false [4, 7] [] []) 0 [] [] 0 (by omega) (by omega) (by omega) hI
    have e' : law40_RelayEnds.l0 L 8000 0 false [(4 : Int), (7 : Int)] ([] : List Stem) ([] : List H32) 0 ([] : List H32) ([] : List H32) 0 = _ := e
    rw [e', Option.bind_some]
    dsimp only
    obtain ⟨l1, l2, l3, nd⟩ := sound_lens hb
    have hdu : relay_Due.f 8000 (Relay.mk r'.Epoch r'.Diffuse r'.Routes r'.Stems r'.Fluffed) (now + 10) = some (dueV r' (now + 10)) := dueK r' (now + 10) hb _ (by omega)
    have hnone : r'.Stems.filter (late (now + 10)) = [] := by
      rw [List.filter_eq_nil_iff]
      intro x hx
      have := (h2 x hx).2
      simp [late]; omega
    have hda := due_all (now + 10) r'.Stems
    obtain ⟨np, nl⟩ := due_perm (now + 10) r'.Stems r'.Fluffed nd
    have hgl : gone.length ≤ 2048 := by rw [hg]; exact l3
    rw [u32s _ (by omega) (by omega), hdu, Option.bind_some, dueV_ok _ hb, hnone]
    dsimp only
    have hl2 := ends_l2 sent gone (Relay.mk r'.Epoch r'.Diffuse r'.Routes [] r'.Fluffed, dueIds (now + 10) r'.Stems) (by omega) (by rw [List.length_append]; show gone.length + (dueIds (now + 10) r'.Stems).length ≤ 3000; omega) (fun y hy => by
      rcases h1 y hy with h3 | h3
      · rcases (hda y).1 h3 with h4 | h4
        · exact List.mem_append.2 (.inr h4)
        · rw [hnone] at h4; cases h4
      · exact List.mem_append.2 (.inl (hg ▸ h3))) sent.length (8000 - 4000 - sent.length - 1) 0 (by omega)
    have e0 : ((0 : Nat) : Int) = 0 := rfl
    rw [show 8000 - 4000 - sent.length - 1 + 4000 + sent.length + 1 = 8000 by omega, e0] at hl2
    rw [if_pos (by omega), hl2, Option.bind_some]
    rfl
  · rw [if_pos (by simp; omega)]

end Go.Proofs.Ytnhgfdinnbadeaa.G
namespace Go.Proofs.Ytnhgfdinnbadeaa.relayEnds
open Go Go.ChangeShapes Go.WideShapes Go.ChangeAt Go.RowKit
open Go.ChangeMaps (open_string shut_string)
theorem own : ownKnob Try.prog.godebug = none := by kernel_rfl
theorem laidOut : laidOutB Try.prog = true := by kernel_rfl
set_option maxRecDepth 100000 in
theorem lifted (os : Os) (started : os.Started) (H : Type) (enc : TypeId × Value → H) :
    ReturnsInHanded {} Try.checked os 6 .any (Rows.relayEndsSpec.pre6 enc Try.prog Try.f6 Rows.relayEndsRow.domain false) (Rows.relayEndsSpec.post enc Try.prog Try.f6 false true false false) := by
  refine returnsInHanded_of_change_sized (C := Try.checked) own started (by kernel_rfl) Try.func6
    (ChangeSpec.witness6 (enc := enc) (C := Try.checked) false ⟨#[], #[.slice none 0 0, .slice none 0 0], []⟩ 8 (by kernel_rfl) (by kernel_rfl) (by kernel_rfl) (by kernel_rfl)) ?_
  intro W base args ds gs before hval0 hW hcnd hsz0 _
  have hsz : (DataW.weightsEach Try.prog (Try.f6.params.toList ++ Rows.relayEndsSpec.plain.varTypes Try.prog) (ds ++ gs)).all (· ≤ reachBytes) = true := hsz0
  have hval : ∀ (j : Nat) t v, Try.f6.params[j]? = some t → args[j]? = some v → Value.okWide Try.prog W .any base t v := hval0
  have hW' := hW
  obtain ⟨p, q, hA0, hV, rfl, hfz, hnd⟩ := hW
  have hA : DataW.TrodAll enc Try.prog W 0 (fun _ => true) true Try.f6.params.toList args.toList ds p := hA0
  rw [Try.params6] at hA hval hsz
  obtain ⟨v0, vs0, d0, ds0, p0, q0, hargs, rfl, rfl, h0, r0⟩ := trodAll_cons hA
  obtain ⟨v1, vs1, d1, ds1, p1, q1, rfl, rfl, rfl, h1, r1⟩ := trodAll_cons r0
  obtain ⟨rfl, rfl, rfl⟩ := trodAll_nil r1
  obtain rfl : args = #[v0, v1] := by cases args; simp_all
  obtain ⟨rfl, rfl⟩ := trodVars_none hV
  obtain ⟨A0, len0, cap0, rfl⟩ := okWide_slice Try.underlying22 (hval 0 22 v0 rfl rfl)
  have k0 := h0
  have lt0 : ∀ x ∈ p0, x.block < W.heap.size := by obtain ⟨m, hm⟩ := k0; exact DataW.trod_lt m _ _ _ hm
  have y0 : len0 * 8 ≤ 140737488351232 := PrintWords.sized_ints hsz (j := 0) (t := 22) rfl rfl Try.underlying22 Try.underlying3 (by kernel_rfl) (by kernel_rfl) h0
  obtain ⟨a0, hz0, rw0, cf0, wf0⟩ : ∃ zs : List Int, zs.length = len0 ∧ G.Row (G.Pl.int .i64) W A0 zs ∧ zs.length ≤ cap0 ∧ ∀ n ∈ zs, (Lit.int .i64 n).wf = true := by
    obtain ⟨fuel, hf⟩ := h0
    rcases open_ints Try.underlying22 Try.underlying3 (by kernel_rfl) hf with ⟨hcs, _⟩ | ⟨x, l, c, zs, hcs, _, hl, hm, hz, _, hcell, hwz⟩
    · simp [Value.cells] at hcs
      obtain ⟨rfl, rfl, rfl⟩ := hcs
      exact ⟨[], rfl, G.Row.nil _ _, Nat.zero_le _, fun _ h => by cases h⟩
    · simp [Value.cells] at hcs
      obtain ⟨rfl, rfl, rfl⟩ := hcs
      have hz' : zs.length = cap0 := by simpa using hz
      exact ⟨zs.take len0, by rw [List.length_take]; omega, G.row_take hcell (by omega), by rw [List.length_take]; omega, fun n hn => hwz n (List.mem_of_mem_take hn)⟩
  subst hz0
  obtain ⟨A1, len1, cap1, rfl⟩ := okWide_slice Try.underlying22 (hval 1 22 v1 rfl rfl)
  have k1 := h1
  have lt1 : ∀ x ∈ p1, x.block < W.heap.size := by obtain ⟨m, hm⟩ := k1; exact DataW.trod_lt m _ _ _ hm
  have y1 : len1 * 8 ≤ 140737488351232 := PrintWords.sized_ints hsz (j := 1) (t := 22) rfl rfl Try.underlying22 Try.underlying3 (by kernel_rfl) (by kernel_rfl) h1
  obtain ⟨a1, hz1, rw1, cf1, wf1⟩ : ∃ zs : List Int, zs.length = len1 ∧ G.Row (G.Pl.int .i64) W A1 zs ∧ zs.length ≤ cap1 ∧ ∀ n ∈ zs, (Lit.int .i64 n).wf = true := by
    obtain ⟨fuel, hf⟩ := h1
    rcases open_ints Try.underlying22 Try.underlying3 (by kernel_rfl) hf with ⟨hcs, _⟩ | ⟨x, l, c, zs, hcs, _, hl, hm, hz, _, hcell, hwz⟩
    · simp [Value.cells] at hcs
      obtain ⟨rfl, rfl, rfl⟩ := hcs
      exact ⟨[], rfl, G.Row.nil _ _, Nat.zero_le _, fun _ h => by cases h⟩
    · simp [Value.cells] at hcs
      obtain ⟨rfl, rfl, rfl⟩ := hcs
      have hz' : zs.length = cap1 := by simpa using hz
      exact ⟨zs.take len1, by rw [List.length_take]; omega, G.row_take hcell (by omega), by rw [List.length_take]; omega, fun n hn => hwz n (List.mem_of_mem_take hn)⟩
  subst hz1
  clear hA0 hval0 hsz0 hsz
  obtain ⟨K, hK⟩ := G.relayEnds_true a0 a1
  refine (G.law40_RelayEnds.calls K a0 a1 [] _ _ true W ⟨A0, cap0, rfl, G.Ro.of rw0, cf0⟩ ⟨A1, cap1, rfl, G.Ro.of rw1, cf1⟩ (G.Mem.nil W) hK).mono fun e W' he => ?_
  obtain ⟨v, rfl, rfl, hM⟩ := he
  have bel := hM.below
  exact ⟨_, rfl, _, _, _, [], _, [], hW', trodAll_mk1 (shut_bool Try.underlying4 _), (trodAll_cons_mk (Below.trod laidOut (by kernel_rfl) (of_decide_eq_true (by kernel_rfl)) k0 bel lt0) (trodAll_cons_mk (Below.trod laidOut (by kernel_rfl) (of_decide_eq_true (by kernel_rfl)) k1 bel lt1) trodAll_mk0)), rfl, bel.frame _, fun h => by cases h⟩
theorem over : Rows.relayEndsRow.holds Try.pinned (OpenSpec.ofChange Rows.relayEndsSpec) :=
  OpenClaim.holds_of_wide 6 Try.f6 rfl rfl rfl rfl rfl rfl rfl ⟨rfl, rfl, rfl, rfl, rfl⟩ rfl rfl rfl rfl rfl (by kernel_rfl) Try.func6 (by kernel_rfl)
    (of_decide_eq_true (by kernel_rfl)) (by unfold Func.isWrapper; first | (rw [if_pos (by decide +kernel)]; kernel_rfl) | (rw [if_neg (by decide +kernel)]; exact ⟨rfl, rfl⟩))
    (fun os started H enc _ => lifted os started H enc)
theorem proved : Rows.RelayEndsSaid := over
#print axioms proved
end Go.Proofs.Ytnhgfdinnbadeaa.relayEnds
namespace Go.Proofs.Ytnhgfdinnbadeaa
/-- The row, under a short name, for the claim. -/
theorem relayEnds_holds : Rows.RelayEndsSaid := relayEnds.proved
end Go.Proofs.Ytnhgfdinnbadeaa
