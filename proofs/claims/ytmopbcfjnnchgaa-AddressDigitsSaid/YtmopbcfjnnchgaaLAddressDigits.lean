/- The address's turns between bytes and digits agree with the reference. Conditions: none beyond the statement's own. -/
import Derived.Test.YtmopbcfjnnchgaaRows
import Derived.Test.YtmopbcfjnnchgaaFAddressDigits
import Derived.WalkKit
import Derived.ProofKit
import Derived.OpenShut
import Derived.ShutString
import Derived.ChangeOld
import Derived.Below
import Derived.SizedLaws
import Derived.Test.YtmopbcfjnnchgaaWSized
set_option linter.unusedVariables false
set_option linter.unusedSimpArgs false
namespace Go.Proofs.Ytmopbcfjnnchgaa.PrintWords
/-- The name by which the row finds the word on a slice's weight. -/
theorem sized_ints {H : Type} {enc : TypeId × Value → H} {P : Program} {W : World} {base : Nat} {spare : Nat → Bool} {held : Bool} {t e : TypeId} {k : IntKind} {a : Option Addr} {len cap : Nat} {d : DataW H} {ps : List MemPlace} {ts : List TypeId} {ds : List (DataW H)} {j : Nat}
    (hsz : (DataW.weightsEach P ts ds).all (· ≤ reachBytes) = true) (ht : ts[j]? = some t) (hd : ds[j]? = some d) (hu : P.underlying t = some (.slice e)) (he : P.underlying e = some (.int k)) (hc : P.cellsOf e = 1) {B : Nat} (hB : P.bytesOf e = B)
    (h : DataW.Trod enc P W base spare held t (.slice a len cap) d ps) : len * B ≤ 140737488351232 :=
  Go.Proofs.YtmopbcfjnnchgaaW.PrintWords.sized_ints hsz ht hd hu he hc hB h
end Go.Proofs.Ytmopbcfjnnchgaa.PrintWords
namespace Go.Proofs.Ytmopbcfjnnchgaa.G
open Go Go.RowKit Go.Proofs
/-! ## of all laws: enough fuel -/
def Ev (p : Nat → Prop) : Prop := ∃ K, ∀ k, K ≤ k → p k
theorem Ev.mono {p q : Nat → Prop} (h : Ev p) (f : ∀ k, p k → q k) : Ev q := by
  obtain ⟨K, hK⟩ := h
  exact ⟨K, fun k hk => f k (hK k hk)⟩
theorem Ev.and {p q : Nat → Prop} (h : Ev p) (h2 : Ev q) : Ev fun k => p k ∧ q k := by
  obtain ⟨K, hK⟩ := h
  obtain ⟨L, hL⟩ := h2
  exact ⟨max K L, fun k hk => ⟨hK k (by omega), hL k (by omega)⟩⟩
theorem Ev.of {p : Nat → Prop} (K : Nat) (h : ∀ k, p (k + K)) : Ev p := ⟨K, fun k hk => by have := h (k - K); rwa [Nat.sub_add_cancel hk] at this⟩
theorem Ev.all {p : Nat → Prop} (h : ∀ k, p k) : Ev p := ⟨0, fun k _ => h k⟩
/-- behind one round -/
theorem Ev.succ {p : Nat → Prop} (h : Ev fun k => p (k + 1)) : Ev p := by
  obtain ⟨K, hK⟩ := h
  refine ⟨K + 1, fun k hk => ?_⟩
  have h1 := hK (k - 1) (by omega)
  have e : k - 1 + 1 = k := by omega
  rw [← e]
  exact h1
theorem Ev.get {p : Nat → Prop} (h : Ev p) : ∃ k, p k := by
  obtain ⟨K, hK⟩ := h
  exact ⟨K, hK K (Nat.le_refl _)⟩
theorem wr {x : Int} (h0 : -9223372036854775808 ≤ x) (h1 : x < 9223372036854775808) : IntKind.i64.wrap x = x := by
  simp only [IntKind.wrap, IntKind.bits, IntKind.signed]
  simp
  omega
theorem wr8 {x : Int} (h0 : 0 ≤ x) (h1 : x < 256) : IntKind.u8.wrap x = x := by
  simp only [IntKind.wrap, IntKind.bits, IntKind.signed]
  simp
  omega
theorem wr8_lt (x : Int) : 0 ≤ IntKind.u8.wrap x ∧ IntKind.u8.wrap x < 256 := by
  simp only [IntKind.wrap, IntKind.bits, IntKind.signed]
  simp
  omega
theorem wu64 {x : Int} (h0 : 0 ≤ x) (h1 : x < 18446744073709551616) : IntKind.u64.wrap x = x := by
  simp only [IntKind.wrap, IntKind.bits, IntKind.signed]
  simp
  omega
/-! ## words as numbers -/
theorem wrapu (k : IntKind) (hk : k.signed = false) (x : Nat) (h : x < 2 ^ k.bits) : k.wrap (x : Int) = x := by
  cases k <;> simp [IntKind.signed] at hk <;> simp [IntKind.wrap, IntKind.bits, IntKind.signed] at h ⊢ <;> omega
theorem wrapi (k : IntKind) (x : Nat) (h : x < 2 ^ (k.bits - 1)) : k.wrap (x : Int) = x := by
  cases k <;> simp [IntKind.wrap, IntKind.bits, IntKind.signed] at h ⊢ <;> omega
theorem ofInt_nat (n : Nat) (x : Nat) : BitVec.ofInt n (x : Int) = BitVec.ofNat n x := by simp
theorem iand_i (k : IntKind) (x y : Nat) (hx : x < 2 ^ (k.bits - 1)) (hy : y < 2 ^ (k.bits - 1)) : iand k (x : Int) (y : Int) = ((x &&& y : Nat) : Int) := by
  have hle : 2 ^ (k.bits - 1) ≤ 2 ^ k.bits := Nat.pow_le_pow_right (by decide) (by omega)
  unfold iand
  rw [ofInt_nat, ofInt_nat, BitVec.toNat_and, BitVec.toNat_ofNat, BitVec.toNat_ofNat, Nat.mod_eq_of_lt (by omega), Nat.mod_eq_of_lt (by omega)]
  exact wrapi k _ (Nat.lt_of_le_of_lt Nat.and_le_left hx)
theorem iand_u (k : IntKind) (hk : k.signed = false) (x y : Nat) (hx : x < 2 ^ k.bits) (hy : y < 2 ^ k.bits) : iand k (x : Int) (y : Int) = ((x &&& y : Nat) : Int) := by
  unfold iand
  rw [ofInt_nat, ofInt_nat, BitVec.toNat_and, BitVec.toNat_ofNat, BitVec.toNat_ofNat, Nat.mod_eq_of_lt hx, Nat.mod_eq_of_lt hy]
  exact wrapu k hk _ (Nat.lt_of_le_of_lt Nat.and_le_left hx)
theorem ior_i (k : IntKind) (x y : Nat) (hx : x < 2 ^ (k.bits - 1)) (hy : y < 2 ^ (k.bits - 1)) : ior k (x : Int) (y : Int) = ((x ||| y : Nat) : Int) := by
  have hle : 2 ^ (k.bits - 1) ≤ 2 ^ k.bits := Nat.pow_le_pow_right (by decide) (by omega)
  unfold ior
  rw [ofInt_nat, ofInt_nat, BitVec.toNat_or, BitVec.toNat_ofNat, BitVec.toNat_ofNat, Nat.mod_eq_of_lt (by omega), Nat.mod_eq_of_lt (by omega)]
  exact wrapi k _ (Nat.or_lt_two_pow hx hy)
theorem ior_u (k : IntKind) (hk : k.signed = false) (x y : Nat) (hx : x < 2 ^ k.bits) (hy : y < 2 ^ k.bits) : ior k (x : Int) (y : Int) = ((x ||| y : Nat) : Int) := by
  unfold ior
  rw [ofInt_nat, ofInt_nat, BitVec.toNat_or, BitVec.toNat_ofNat, BitVec.toNat_ofNat, Nat.mod_eq_of_lt hx, Nat.mod_eq_of_lt hy]
  exact wrapu k hk _ (Nat.or_lt_two_pow hx hy)
theorem ixor_u (k : IntKind) (hk : k.signed = false) (x y : Nat) (hx : x < 2 ^ k.bits) (hy : y < 2 ^ k.bits) : ixor k (x : Int) (y : Int) = ((x ^^^ y : Nat) : Int) := by
  unfold ixor
  rw [ofInt_nat, ofInt_nat, BitVec.toNat_xor, BitVec.toNat_ofNat, BitVec.toNat_ofNat, Nat.mod_eq_of_lt hx, Nat.mod_eq_of_lt hy]
  exact wrapu k hk _ (Nat.xor_lt_two_pow hx hy)
theorem ishr_n (k : IntKind) (x s : Nat) (hs : s ≤ k.bits) : ishr k (x : Int) (s : Int) = ((x / 2 ^ s : Nat) : Int) := by
  unfold ishr
  rw [Int.toNat_natCast, Nat.min_eq_left hs, show (2 : Int) ^ s = ((2 ^ s : Nat) : Int) by simp, Int.fdiv_eq_ediv_of_nonneg _ (Int.natCast_nonneg _)]
  exact (Int.natCast_ediv _ _).symm
theorem ishl_i (k : IntKind) (x s : Nat) (hs : s ≤ k.bits) (h : x * 2 ^ s < 2 ^ (k.bits - 1)) : ishl k (x : Int) (s : Int) = ((x * 2 ^ s : Nat) : Int) := by
  unfold ishl
  rw [Int.toNat_natCast, Nat.min_eq_left hs, show (2 : Int) ^ s = ((2 ^ s : Nat) : Int) by simp, ← Int.natCast_mul]
  exact wrapi k _ h
theorem ishl_u (k : IntKind) (hk : k.signed = false) (x s : Nat) (hs : s ≤ k.bits) (h : x * 2 ^ s < 2 ^ k.bits) : ishl k (x : Int) (s : Int) = ((x * 2 ^ s : Nat) : Int) := by
  unfold ishl
  rw [Int.toNat_natCast, Nat.min_eq_left hs, show (2 : Int) ^ s = ((2 ^ s : Nat) : Int) by simp, ← Int.natCast_mul]
  exact wrapu k hk _ h
theorem wf_nat {k : IntKind} {x : Int} (hk : k.signed = false) (h : (Lit.int k x).wf = true) : ∃ n : Nat, x = n ∧ n < 2 ^ k.bits := by
  refine ⟨x.toNat, ?_⟩
  cases k <;> simp [IntKind.signed] at hk <;> simp [Lit.wf, IntKind.min, IntKind.max, IntKind.bits, IntKind.signed] at h ⊢ <;> omega
/-! ## loops that go over a range and append -/
theorem app_loop {L : Nat → List Int → Int → Option (List Int)} {n : Nat} {g : Int → Int} (hn : n ≤ 1099511627776)
    (hstep : ∀ k xs t, L (k + 1) xs t = if (decide (t < ((n : Nat) : Int))) = true then (if 0 ≤ t ∧ t < ((n : Nat) : Int) then (if (xs.length + 1) * 1 ≤ 140737488355328 then (L k (xs ++ [g t]) (IntKind.i64.wrap (t + 1))) else none) else none) else (some xs)) :
    ∀ (m k : Nat) (xs : List Int) (t : Nat), t + m = n → xs.length + m ≤ 70368744177664 → L (k + m + 1) xs (t : Int) = some (xs ++ (List.range' t m).map fun (i : Nat) => g (i : Int))
  | 0, k, xs, t, h1, h2 => by rw [hstep, if_neg (by simp; omega)]; simp
  | m + 1, k, xs, t, h1, h2 => by
    rw [hstep, if_pos (by simp; omega), if_pos ⟨by omega, by omega⟩, if_pos (by omega), wr (by omega) (by omega)]
    have := app_loop hn hstep m k (xs ++ [g t]) (t + 1) (by omega) (by simp; omega)
    rw [show k + (m + 1) = k + m + 1 by omega]
    have e : ((t : Int) + 1) = ((t + 1 : Nat) : Int) := by omega
    rw [e, this, List.range'_succ]
    simp
theorem app_all {L : Nat → List Int → Int → Option (List Int)} {n : Nat} {g : Int → Int} (hn : n ≤ 1099511627776)
    (hstep : ∀ k xs t, L (k + 1) xs t = if (decide (t < ((n : Nat) : Int))) = true then (if 0 ≤ t ∧ t < ((n : Nat) : Int) then (if (xs.length + 1) * 1 ≤ 140737488355328 then (L k (xs ++ [g t]) (IntKind.i64.wrap (t + 1))) else none) else none) else (some xs))
    (xs : List Int) (hx : xs.length ≤ 1099511627776) : Ev fun k => L k xs 0 = some (xs ++ (List.range n).map fun (i : Nat) => g (i : Int)) :=
  Ev.of (n + 1) fun k => by
    have h := app_loop hn hstep n k xs 0 (by omega) (by omega)
    rw [List.range_eq_range']
    exact h
theorem map_range_getD (d : List Int) (f : Int → Int) : ((List.range d.length).map fun (i : Nat) => f (d.getD (i : Int).toNat 0)) = d.map f := by
  apply List.ext_getElem
  · simp
  · intro i h1 h2
    simp only [List.length_map, List.length_range] at h1
    simp only [List.getElem_map, List.getElem_range, Int.toNat_natCast]
    rw [List.getD_eq_getElem?_getD, List.getElem?_eq_getElem h1]
    rfl
theorem map_range_sg (s : ByteArray) (f : Int → Int) : ((List.range s.size).map fun (i : Nat) => f (sg s (i : Int))) = (bytesOf s).map f := by
  rw [← map_range_getD, length_bytesOf]
  apply List.map_congr_left
  intro i hi
  congr 1
  have hi' : i < s.size := List.mem_range.1 hi
  unfold sg bytesOf
  simp only [Int.toNat_natCast]
  rw [List.getD_eq_getElem?_getD, List.getD_eq_getElem?_getD, List.getElem?_map]
  have hl : i < s.data.toList.length := by simpa using hi'
  rw [List.getElem?_eq_getElem hl]
  rfl
/-! ## digits as groups of bits -/
def nb (w x : Nat) : List Bool := (List.range w).map fun i => x.testBit (w - 1 - i)
def val (l : List Bool) : Nat := l.foldl (fun v b => 2 * v + b.toNat) 0
theorem val_from (l : List Bool) : ∀ v : Nat, l.foldl (fun v b => 2 * v + b.toNat) v = v * 2 ^ l.length + val l := by
  induction l with
  | nil => intro v; simp [val]
  | cons b l ih =>
    intro v
    simp only [List.foldl_cons, List.length_cons, val]
    rw [ih, ih (2 * 0 + b.toNat)]
    simp only [Nat.pow_succ, Nat.mul_zero, Nat.zero_add, Nat.add_mul]
    rw [Nat.mul_comm 2 v, Nat.mul_assoc, Nat.mul_comm 2 (2 ^ l.length), Nat.add_assoc]
theorem val_append (p q : List Bool) : val (p ++ q) = val p * 2 ^ q.length + val q := by
  unfold val
  rw [List.foldl_append, val_from q]
  rfl
theorem val_cons (b : Bool) (l : List Bool) : val (b :: l) = b.toNat * 2 ^ l.length + val l := by
  have := val_append [b] l
  simpa [val] using this
theorem val_lt : ∀ l : List Bool, val l < 2 ^ l.length
  | [] => by simp [val]
  | b :: l => by
    rw [val_cons, List.length_cons, Nat.pow_succ]
    have := val_lt l
    cases b <;> simp <;> omega
theorem val_zeros (n : Nat) : val (List.replicate n false) = 0 := by
  induction n with
  | zero => rfl
  | succ n ih => rw [List.replicate_succ, val_cons, ih]; simp
theorem length_nb (w x : Nat) : (nb w x).length = w := by simp [nb]
theorem nb_get (w x i : Nat) (h : i < w) : (nb w x).getD i false = x.testBit (w - 1 - i) := by
  simp [nb, List.getD_eq_getElem?_getD, h]
theorem nb_succ (w x : Nat) : nb (w + 1) x = x.testBit w :: nb w x := by
  unfold nb
  rw [List.range_succ_eq_map, List.map_cons, List.map_map]
  congr 1
  apply List.map_congr_left
  intro i hi
  simp only [Function.comp]
  congr 1
  have := List.mem_range.1 hi
  omega
theorem val_nb : ∀ (w x : Nat), val (nb w x) = x % 2 ^ w
  | 0, x => by simp [nb, val]; omega
  | w + 1, x => by
    rw [nb_succ, val_cons, val_nb w x, length_nb]
    have h := Nat.testBit_eq_decide_div_mod_eq (x := x) (i := w)
    rw [h]
    have h2 : x % 2 ^ (w + 1) = 2 ^ w * (x / 2 ^ w % 2) + x % 2 ^ w := by
      rw [Nat.pow_succ, Nat.mod_mul, Nat.add_comm]
    rw [h2, Nat.mul_comm]
    congr 1
    rcases Nat.mod_two_eq_zero_or_one (x / 2 ^ w) with h3 | h3 <;> simp [h3]
def chunks (w : Nat) : Nat → List Bool → List Nat
  | 0, _ => []
  | m + 1, l => val (l.take w) :: chunks w m (l.drop w)
def groups (w : Nat) (l : List Bool) : List Nat := chunks w (l.length / w) l
def over (w : Nat) (l : List Bool) : List Bool := l.drop (w * (l.length / w))
theorem length_chunks (w : Nat) : ∀ (m : Nat) (l : List Bool), (chunks w m l).length = m
  | 0, _ => rfl
  | m + 1, l => by simp [chunks, length_chunks w m]
theorem chunks_get (w : Nat) : ∀ (m : Nat) (l : List Bool) (i : Nat), i < m → (chunks w m l)[i]? = some (val ((l.drop (w * i)).take w))
  | 0, _, i, h => by omega
  | m + 1, l, 0, _ => by simp [chunks]
  | m + 1, l, i + 1, h => by
    simp only [chunks, List.getElem?_cons_succ]
    rw [chunks_get w m (l.drop w) i (by omega), List.drop_drop, Nat.mul_succ, Nat.add_comm w]
theorem length_over (w : Nat) (l : List Bool) : (over w l).length = l.length % w := by
  unfold over
  rw [List.length_drop]
  have := Nat.div_add_mod l.length w
  omega
theorem groups_small {w : Nat} {l : List Bool} (h : l.length < w) : groups w l = [] ∧ over w l = l := by
  unfold groups over
  rw [Nat.div_eq_of_lt h]
  exact ⟨rfl, by simp⟩
theorem groups_step {w : Nat} {l : List Bool} (hw : 0 < w) (h : w ≤ l.length) : groups w l = val (l.take w) :: groups w (l.drop w) ∧ over w l = over w (l.drop w) := by
  have e : l.length / w = (l.drop w).length / w + 1 := by
    rw [List.length_drop]
    have := Nat.sub_add_cancel h
    conv => lhs; rw [← this]
    rw [Nat.add_div_right _ hw]
  unfold groups over
  rw [e]
  refine ⟨rfl, ?_⟩
  rw [List.drop_drop, Nat.mul_succ, Nat.add_comm]
theorem groups_append (w : Nat) (hw : 0 < w) (q : List Bool) : ∀ (n : Nat) (p : List Bool), p.length ≤ n → groups w (p ++ q) = groups w p ++ groups w (over w p ++ q) ∧ over w (p ++ q) = over w (over w p ++ q)
  | n, p, hn => by
    by_cases h : p.length < w
    · rw [(groups_small h).1, (groups_small h).2]; exact ⟨rfl, rfl⟩
    · cases n with
      | zero => omega
      | succ n =>
        have hle : w ≤ p.length := by omega
        have h1 := groups_step hw hle
        have h2 := groups_step (l := p ++ q) hw (by simp; omega)
        have h3 : (p ++ q).drop w = p.drop w ++ q := List.drop_append_of_le_length hle
        have h4 : (p ++ q).take w = p.take w := List.take_append_of_le_length hle
        rw [h3, h4] at h2
        have ih := groups_append w hw q n (p.drop w) (by rw [List.length_drop]; omega)
        rw [h2.1, h2.2, h1.1, h1.2, ih.1, ih.2]
        exact ⟨rfl, rfl⟩
theorem flat_get (w : Nat) (hw : 0 < w) : ∀ (b : List Nat) (i : Nat), (b.flatMap (nb w)).getD i false = (if i < w * b.length then (b.getD (i / w) 0).testBit (w - 1 - i % w) else false)
  | [], i => by simp
  | x :: b, i => by
    have hm : w * (b.length + 1) = w * b.length + w := Nat.mul_succ _ _
    rw [List.flatMap_cons, List.getD_eq_getElem?_getD, List.getElem?_append]
    by_cases h : i < w
    · rw [if_pos (by rw [length_nb]; exact h), ← List.getD_eq_getElem?_getD, nb_get w x i h, if_pos (by rw [List.length_cons]; omega), Nat.div_eq_of_lt h, Nat.mod_eq_of_lt h]
      rfl
    · rw [if_neg (by rw [length_nb]; exact h), length_nb, ← List.getD_eq_getElem?_getD, flat_get w hw b (i - w)]
      have e1 : i / w = (i - w) / w + 1 := Nat.div_eq_sub_div hw (by omega)
      have e2 : i % w = (i - w) % w := Nat.mod_eq_sub_mod (by omega)
      rw [e1, e2, List.getD_cons_succ, List.length_cons]
      by_cases h2 : i - w < w * b.length
      · rw [if_pos h2, if_pos (by omega)]
      · rw [if_neg h2, if_neg (by omega)]
theorem length_flat (w : Nat) (b : List Nat) : (b.flatMap (nb w)).length = w * b.length := by
  induction b with
  | nil => simp
  | cons x b ih => rw [List.flatMap_cons, List.length_append, length_nb, ih, List.length_cons, Nat.mul_succ]; omega
def ints (l : List Nat) : List Int := l.map fun (n : Nat) => (n : Int)
theorem ints_append (p q : List Nat) : ints (p ++ q) = ints p ++ ints q := by simp [ints]
theorem length_ints (l : List Nat) : (ints l).length = l.length := by simp [ints]
theorem ints_getD (l : List Nat) (i : Nat) : (ints l).getD i 0 = ((l.getD i 0 : Nat) : Int) := by
  simp only [ints, List.getD_eq_getElem?_getD, List.getElem?_map]
  cases l[i]? <;> rfl
theorem ints_of_wf : ∀ (l : List Int), (∀ n ∈ l, (Lit.int .u8 n).wf = true) → ∃ b : List Nat, l = ints b ∧ ∀ x ∈ b, x < 256
  | [], _ => ⟨[], rfl, by simp⟩
  | n :: l, h => by
    obtain ⟨x, rfl, hx⟩ := wf_nat rfl (h n (by simp))
    obtain ⟨b, rfl, hb⟩ := ints_of_wf l (fun m hm => h m (by simp [hm]))
    refine ⟨x :: b, rfl, fun y hy => ?_⟩
    rcases List.mem_cons.1 hy with rfl | hy
    · exact hx
    · exact hb y hy
theorem val_split (w : Nat) (h : List Bool) (hw : w ≤ h.length) : val h = val (h.take w) * 2 ^ (h.length - w) + val (h.drop w) := by
  conv => lhs; rw [← List.take_append_drop w h]
  rw [val_append, List.length_drop]
theorem val_bound {h : List Bool} {n : Nat} (hn : h.length ≤ n) : val h < 2 ^ n := Nat.lt_of_lt_of_le (val_lt h) (Nat.pow_le_pow_right (by decide) hn)
theorem reg1 (w : Nat) (hw0 : 0 < w) (hw : w ≤ 8) : ∀ (m F : Nat) (xs : List Int) (h : List Bool), h.length ≤ 15 → h.length / w = m → m + 1 ≤ F → xs.length + m ≤ 1099511627776 →
    address_regroup.l1 (w : Int) F xs (val h : Int) (h.length : Int) = some (xs ++ ints (groups w h), (val (over w h) : Int), ((over w h).length : Int))
  | 0, F, xs, h, hl, hm, hF, hx => by
    obtain ⟨F, rfl⟩ : ∃ q, F = q + 1 := ⟨F - 1, by omega⟩
    have hlt : h.length < w := (Nat.div_eq_zero_iff_lt hw0).1 hm
    rw [address_regroup.l1, if_neg (by simp; omega), (groups_small hlt).1, (groups_small hlt).2]
    simp [ints]
  | m + 1, F, xs, h, hl, hm, hF, hx => by
    obtain ⟨F, rfl⟩ : ∃ q, F = q + 1 := ⟨F - 1, by omega⟩
    have hle : w ≤ h.length := by
      rcases Nat.lt_or_ge h.length w with h1 | h1
      · rw [Nat.div_eq_of_lt h1] at hm; omega
      · exact h1
    obtain ⟨s, hs⟩ : ∃ s, h.length - w = s := ⟨_, rfl⟩
    have hsw : IntKind.i64.wrap ((h.length : Int) - (w : Int)) = (s : Int) := by rw [wr (by omega) (by omega)]; omega
    have hv := val_split w h hle
    rw [hs] at hv
    have hd : val (h.drop w) < 2 ^ s := by have := val_lt (h.drop w); rwa [List.length_drop, hs] at this
    have ht : val (h.take w) < 2 ^ w := by have := val_lt (h.take w); rwa [List.length_take, Nat.min_eq_left hle] at this
    have hw8 : 2 ^ w ≤ 2 ^ 8 := Nat.pow_le_pow_right (by decide) hw
    have hs15 : 2 ^ s ≤ 2 ^ 15 := Nat.pow_le_pow_right (by decide) (by omega)
    have hs0 : 0 < 2 ^ s := Nat.two_pow_pos s
    have hvb := val_bound (h := h) (n := 15) hl
    have e1 : IntKind.u8.wrap (ishr .i64 (val h : Int) (s : Int)) = ((val (h.take w) : Nat) : Int) := by
      rw [ishr_n .i64 _ _ (by show s ≤ 64; omega), hv, Nat.mul_comm, Nat.mul_add_div hs0, Nat.div_eq_of_lt hd, Nat.add_zero, wr8 (by omega) (by omega)]
    have e2 : iand .i64 (val h : Int) (IntKind.i64.wrap (ishl .i64 1 (s : Int) - 1)) = ((val (h.drop w) : Nat) : Int) := by
      have e3 : ishl .i64 1 (s : Int) = ((2 ^ s : Nat) : Int) := by
        have := ishl_i .i64 1 s (by show s ≤ 64; omega) (by show 1 * 2 ^ s < 2 ^ 63; omega)
        rw [Nat.one_mul] at this
        exact this
      rw [e3, show ((2 ^ s : Nat) : Int) - 1 = ((2 ^ s - 1 : Nat) : Int) by omega, wr (by omega) (by omega), iand_i .i64 _ _ (by show _ < 2 ^ 63; omega) (by show _ < 2 ^ 63; omega), Nat.and_two_pow_sub_one_eq_mod, hv, Nat.mul_comm, Nat.mul_add_mod, Nat.mod_eq_of_lt hd]
    have hst := groups_step hw0 hle
    have hl2 : (h.drop w).length = s := by rw [List.length_drop, hs]
    have hm2 : (h.drop w).length / w = m := by
      rw [List.length_drop]
      have h3 : h.length / w = (h.length - w) / w + 1 := Nat.div_eq_sub_div hw0 hle
      omega
    have ih := reg1 w hw0 hw m F (xs ++ [((val (h.take w) : Nat) : Int)]) (h.drop w) (by rw [hl2]; omega) hm2 (by omega) (by simp; omega)
    rw [address_regroup.l1, if_pos (by simp; omega), hsw, if_pos (by omega), if_pos (by omega), if_pos (by omega), e1, e2, ← hl2, ih, hst.1, hst.2]
    simp [ints]
theorem or_add (a n x : Nat) (h : x < 2 ^ n) : a * 2 ^ n ||| x = a * 2 ^ n + x := by
  have := Nat.shiftLeft_add_eq_or_of_lt h a
  rw [Nat.shiftLeft_eq] at this
  exact this.symm
theorem reg0 (f w : Nat) (hw0 : 0 < w) (hw : w ≤ 8) (hf : f ≤ 8) (b : List Nat) (hb : ∀ x ∈ b, x < 2 ^ f) (hlen : b.length ≤ 100000) : ∀ (m F : Nat) (xs : List Int) (h : List Bool) (t : Nat), t + m = b.length → h.length < w → m + 20 ≤ F → xs.length + 16 * m ≤ 1099511627776 →
    address_regroup.l0 (ints b) (f : Int) (w : Int) F xs (val h : Int) (h.length : Int) (t : Int) = some (xs ++ ints (groups w (h ++ (b.drop t).flatMap (nb f))), (val (over w (h ++ (b.drop t).flatMap (nb f))) : Int), ((over w (h ++ (b.drop t).flatMap (nb f))).length : Int))
  | 0, F, xs, h, t, ht, hh, hF, hx => by
    obtain ⟨F, rfl⟩ : ∃ q, F = q + 1 := ⟨F - 1, by omega⟩
    rw [address_regroup.l0, if_neg (by rw [length_ints]; simp; omega), List.drop_of_length_le (by omega)]
    simp only [List.flatMap_nil, List.append_nil]
    rw [(groups_small hh).1, (groups_small hh).2]
    simp [ints]
  | m + 1, F, xs, h, t, ht, hh, hF, hx => by
    obtain ⟨F, rfl⟩ : ∃ q, F = q + 1 := ⟨F - 1, by omega⟩
    have hlt : t < b.length := by omega
    have hxb := hb b[t] (List.getElem_mem hlt)
    have hget : (ints b).getD (t : Int).toNat 0 = ((b[t] : Nat) : Int) := by
      rw [Int.toNat_natCast, ints_getD, List.getD_eq_getElem?_getD, List.getElem?_eq_getElem hlt]; rfl
    have hvb := val_bound (h := h) (n := 8) (by omega)
    have hf8 : 2 ^ f ≤ 2 ^ 8 := Nat.pow_le_pow_right (by decide) hf
    have hprod : val h * 2 ^ f < 2 ^ 16 := Nat.lt_of_le_of_lt (Nat.mul_le_mul (Nat.le_of_lt_succ (by omega : val h < 255 + 1)) hf8) (by decide)
    have e1 : ior .i64 (ishl .i64 (val h : Int) (f : Int)) (IntKind.i64.wrap ((b[t] : Nat) : Int)) = ((val (h ++ nb f b[t]) : Nat) : Int) := by
      rw [ishl_i .i64 _ _ (by show f ≤ 64; omega) (by show _ < 2 ^ 63; omega), wr (by omega) (by omega), ior_i .i64 _ _ (by show _ < 2 ^ 63; omega) (by show _ < 2 ^ 63; omega), or_add _ _ _ hxb, val_append, length_nb, val_nb, Nat.mod_eq_of_lt hxb]
    have e2 : IntKind.i64.wrap ((h.length : Int) + (f : Int)) = ((h ++ nb f b[t]).length : Int) := by
      rw [wr (by omega) (by omega), List.length_append, length_nb]; omega
    have hl15 : (h ++ nb f b[t]).length ≤ 15 := by rw [List.length_append, length_nb]; omega
    have hdiv : (h ++ nb f b[t]).length / w ≤ 15 := Nat.le_trans (Nat.div_le_self _ _) hl15
    have r1 := reg1 w hw0 hw _ F xs (h ++ nb f b[t]) hl15 rfl (by omega) (by omega)
    have hov : (over w (h ++ nb f b[t])).length < w := by rw [length_over]; exact Nat.mod_lt _ hw0
    have hgl : (groups w (h ++ nb f b[t])).length ≤ 15 := by unfold groups; rw [length_chunks]; exact hdiv
    have ih := reg0 f w hw0 hw hf b hb hlen m F (xs ++ ints (groups w (h ++ nb f b[t]))) (over w (h ++ nb f b[t])) (t + 1) (by omega) hov (by omega) (by rw [List.length_append, length_ints]; omega)
    have hga := groups_append w hw0 ((b.drop (t + 1)).flatMap (nb f)) _ (h ++ nb f b[t]) (Nat.le_refl _)
    rw [address_regroup.l0, if_pos (by rw [length_ints]; simp; omega), if_pos ⟨by omega, by rw [length_ints]; omega⟩, if_pos (by omega), hget, e1, e2, r1, Option.bind_some]
    dsimp only
    rw [wr (by omega) (by omega), show ((t : Int) + 1) = ((t + 1 : Nat) : Int) by omega, ih, List.drop_eq_getElem_cons hlt, List.flatMap_cons, ← List.append_assoc, hga.1, hga.2, ints_append, List.append_assoc]
theorem regroup_ok (f w : Nat) (hw0 : 0 < w) (hw : w ≤ 8) (hf : f ≤ 8) (b : List Nat) (hb : ∀ x ∈ b, x < 2 ^ f) (hlen : b.length ≤ 100000) : Ev fun k => address_regroup.f k (ints b) (f : Int) (w : Int) = some (ints (groups w (b.flatMap (nb f))), (val (over w (b.flatMap (nb f))) : Int), ((over w (b.flatMap (nb f))).length : Int)) :=
  Ev.of (b.length + 20) fun k => by
    have h := reg0 f w hw0 hw hf b hb hlen b.length (k + (b.length + 20)) [] [] 0 (by omega) (by simpa using hw0) (by omega) (by simp; omega)
    unfold address_regroup.f
    simp only [List.nil_append, List.drop_zero] at h
    have e : address_regroup.l0 (ints b) (f : Int) (w : Int) (k + (b.length + 20)) ([] : List Int) 0 0 0 = _ := h
    rw [e]
    rfl
theorem convA (b : List Nat) (hb : ∀ x ∈ b, x < 256) (hlen : b.length ≤ 100000) : Ev fun k => address_Convert.f k (ints b) = some (ints (groups 5 (b.flatMap (nb 8) ++ List.replicate ((5 - (8 * b.length) % 5) % 5) false))) := by
  have hL := length_flat 8 b
  obtain ⟨L, hLe⟩ : ∃ L, b.flatMap (nb 8) = L := ⟨_, rfl⟩
  refine (regroup_ok 8 5 (by decide) (by decide) (by decide) b hb hlen).mono fun k h => ?_
  rw [hLe] at h hL ⊢
  have h' : address_regroup.f k (ints b) 8 5 = _ := h
  have hov : (over 5 L).length = (8 * b.length) % 5 := by rw [length_over, hL]
  have hg := (groups_append 5 (by decide) (List.replicate ((5 - (8 * b.length) % 5) % 5) false) _ L (Nat.le_refl _)).1
  have hgl : (groups 5 L).length ≤ 800000 := by
    unfold groups; rw [length_chunks]; exact Nat.le_trans (Nat.div_le_self _ _) (by omega)
  unfold address_Convert.f
  rw [h', Option.bind_some]
  dsimp only
  rw [hg, hov]
  by_cases h0 : (8 * b.length) % 5 = 0
  · have hnil : over 5 L = [] := List.eq_nil_of_length_eq_zero (by omega)
    rw [h0, hnil, if_neg (by simp)]
    simp [groups, chunks, ints]
  · obtain ⟨c, hc⟩ : ∃ c, (8 * b.length) % 5 = c := ⟨_, rfl⟩
    rw [hc] at h0 hov ⊢
    have hc5 : c < 5 := by omega
    have hpad : (5 - c) % 5 = 5 - c := Nat.mod_eq_of_lt (by omega)
    have h5 : (over 5 L ++ List.replicate (5 - c) false).length = 5 := by rw [List.length_append, hov, List.length_replicate]; omega
    have hs := groups_step (w := 5) (l := over 5 L ++ List.replicate (5 - c) false) (by decide) (by omega)
    have hs1 : groups 5 (over 5 L ++ List.replicate (5 - c) false) = [val (over 5 L ++ List.replicate (5 - c) false)] := by
      rw [hs.1, List.take_of_length_le (by omega), List.drop_of_length_le (by omega)]
      rfl
    have hvl := val_bound (h := over 5 L) (n := c) (by omega)
    have hc2 : val (over 5 L) * 2 ^ (5 - c) < 32 := by
      have : 2 ^ c * 2 ^ (5 - c) = 32 := by rw [← Nat.pow_add, show c + (5 - c) = 5 by omega]
      rw [← this]
      exact (Nat.mul_lt_mul_right (Nat.two_pow_pos _)).2 hvl
    rw [hpad, hs1, if_pos (by simp; omega), show (5 : Int) - (c : Int) = ((5 - c : Nat) : Int) by omega, wr (by omega) (by omega), if_pos (by omega), if_pos (by rw [length_ints]; omega), ishl_i .i64 _ _ (by show 5 - c ≤ 64; omega) (by show _ < 2 ^ 63; omega), wr8 (by omega) (by omega), val_append, val_zeros, List.length_replicate]
    simp [ints]
def gb (b : List Nat) (i : Nat) : Bool := (b.flatMap (nb 8)).getD i false
theorem bit_val (x s : Nat) (hx : x < 256) (hs : s ≤ 7) : iand .u8 (ishr .u8 (x : Int) (s : Int)) 1 = ((x.testBit s).toNat : Int) := by
  have hd : x / 2 ^ s < 256 := Nat.lt_of_le_of_lt (Nat.div_le_self _ _) hx
  have h1 := iand_u .u8 rfl (x / 2 ^ s) 1 hd (by decide)
  rw [ishr_n .u8 _ _ (by show s ≤ 8; omega)]
  have e : ((1 : Nat) : Int) = 1 := rfl
  rw [e] at h1
  rw [h1, Nat.and_one_is_mod, Nat.testBit_eq_decide_div_mod_eq]
  rcases Nat.mod_two_eq_zero_or_one (x / 2 ^ s) with h | h <;> simp [h]
theorem getD_lt (b : List Nat) (hb : ∀ x ∈ b, x < 256) (i : Nat) : b.getD i 0 < 256 := by
  rw [List.getD_eq_getElem?_getD]
  cases h : b[i]? with
  | none => decide
  | some x => exact hb x (List.mem_of_getElem? h)
theorem conv1 (b : List Nat) (hb : ∀ x ∈ b, x < 256) (hlen : b.length ≤ 100000) (t : Nat) (ht : t ≤ 1000000) (F d i : Nat) (hd : d < 128) (hi : i < t + 5) : ref27_Convert.l1 (ints b) (t : Int) (F + 1) (d : Int) (i : Int) = ref27_Convert.l1 (ints b) (t : Int) F ((2 * d + (gb b i).toNat : Nat) : Int) ((i + 1 : Nat) : Int) := by
  have e2 : ishl .u8 (d : Int) 1 = ((2 * d : Nat) : Int) := by
    have := ishl_u .u8 rfl d 1 (by decide) (by show d * 2 ^ 1 < 2 ^ 8; omega)
    have e : ((1 : Nat) : Int) = 1 := rfl
    rw [e] at this
    rw [this]; omega
  have hg : gb b i = (if i < 8 * b.length then (b.getD (i / 8) 0).testBit (8 - 1 - i % 8) else false) := flat_get 8 (by decide) b i
  rw [ref27_Convert.l1, wr (x := (t : Int) + 5) (by omega) (by omega), if_pos (by simp; omega), length_ints, wr (x := 8 * ((b.length : Nat) : Int)) (by omega) (by omega), wr (x := (i : Int) + 1) (by omega) (by omega), e2, show ((i : Int) + 1) = ((i + 1 : Nat) : Int) by omega]
  by_cases h : i < 8 * b.length
  · have ed : IntKind.i64.wrap ((i : Int).tdiv 8) = ((i / 8 : Nat) : Int) := by
      rw [Int.tdiv_eq_ediv_of_nonneg (by omega), wr (by omega) (by omega)]; omega
    have em : IntKind.u64.wrap (IntKind.i64.wrap (7 - (i : Int).tmod 8)) = ((7 - i % 8 : Nat) : Int) := by
      rw [Int.tmod_eq_emod_of_nonneg (by omega), wr (by omega) (by omega), wu64 (by omega) (by omega)]; omega
    have hbit := bit_val (b.getD (i / 8) 0) (7 - i % 8) (getD_lt b hb _) (by omega)
    have hor := or_add d 1 ((gb b i).toNat) (by cases gb b i <;> decide)
    rw [hg, if_pos h] at hor ⊢
    have e7 : 8 - 1 - i % 8 = 7 - i % 8 := by omega
    rw [e7] at hor ⊢
    rw [if_pos (by simp; omega), ed, em, if_pos ⟨by omega, by omega⟩, if_pos (by omega), Option.bind_some, Int.toNat_natCast, ints_getD, hbit, ior_u .u8 rfl _ _ (by show _ < 2 ^ 8; omega) (by cases (b.getD (i / 8) 0).testBit (7 - i % 8) <;> decide)]
    rw [Nat.pow_one, Nat.mul_comm d 2] at hor
    rw [hor]
  · rw [hg, if_neg h, if_neg (by simp; omega), Option.bind_some]
    rfl
theorem conv5 (b : List Nat) (hb : ∀ x ∈ b, x < 256) (hlen : b.length ≤ 100000) (t : Nat) (ht : t ≤ 1000000) (F : Nat) : ref27_Convert.l1 (ints b) (t : Int) (F + 6) 0 (t : Int) = some ((val [gb b t, gb b (t + 1), gb b (t + 2), gb b (t + 3), gb b (t + 4)] : Nat) : Int) := by
  have hn : ∀ x : Bool, x.toNat ≤ 1 := fun x => by cases x <;> decide
  have n0 := hn (gb b t)
  have n1 := hn (gb b (t + 1))
  have n2 := hn (gb b (t + 2))
  have n3 := hn (gb b (t + 3))
  have n4 := hn (gb b (t + 4))
  have n2' := hn (gb b (t + 1 + 1))
  have n3' := hn (gb b (t + 1 + 1 + 1))
  have n4' := hn (gb b (t + 1 + 1 + 1 + 1))
  have s0 := conv1 b hb hlen t ht (F + 5) 0 t (by omega) (by omega)
  have e0 : ((0 : Nat) : Int) = 0 := rfl
  rw [e0] at s0
  rw [s0, conv1 b hb hlen t ht (F + 4) _ (t + 1) (by omega) (by omega), conv1 b hb hlen t ht (F + 3) _ (t + 1 + 1) (by omega) (by omega), conv1 b hb hlen t ht (F + 2) _ (t + 1 + 1 + 1) (by omega) (by omega), conv1 b hb hlen t ht (F + 1) _ (t + 1 + 1 + 1 + 1) (by omega) (by omega), ref27_Convert.l1, wr (x := (t : Int) + 5) (by omega) (by omega), if_neg (by simp; omega)]
  congr 2
theorem five_bits (P : List Bool) (t : Nat) (h : t + 5 ≤ P.length) : (P.drop t).take 5 = [P.getD t false, P.getD (t + 1) false, P.getD (t + 2) false, P.getD (t + 3) false, P.getD (t + 4) false] := by
  have d0 := List.drop_eq_getElem_cons (l := P) (i := t) (by omega)
  have d1 := List.drop_eq_getElem_cons (l := P) (i := t + 1) (by omega)
  have d2 := List.drop_eq_getElem_cons (l := P) (i := t + 2) (by omega)
  have d3 := List.drop_eq_getElem_cons (l := P) (i := t + 3) (by omega)
  have d4 := List.drop_eq_getElem_cons (l := P) (i := t + 4) (by omega)
  have g : ∀ j (hj : j < P.length), P.getD j false = P[j] := fun j hj => by rw [List.getD_eq_getElem?_getD, List.getElem?_eq_getElem hj]; rfl
  rw [d0, d1, d2, d3, d4, g t (by omega), g (t + 1) (by omega), g (t + 2) (by omega), g (t + 3) (by omega), g (t + 4) (by omega)]
  rfl
theorem conv0 (b : List Nat) (hb : ∀ x ∈ b, x < 256) (hlen : b.length ≤ 100000) (n : Nat) (hn1 : 8 * b.length ≤ 5 * n) (hn2 : 5 * n < 8 * b.length + 5) (P : List Bool) (hP : P.length = 5 * n) (hPg : ∀ i, P.getD i false = gb b i) : ∀ (m F : Nat) (xs : List Int) (j : Nat), j + m = n → m + 10 ≤ F → xs.length + m ≤ 1099511627776 →
    ref27_Convert.l0 (ints b) F xs ((5 * j : Nat) : Int) = some (xs ++ ints (chunks 5 m (P.drop (5 * j))))
  | 0, F, xs, j, hj, hF, hx => by
    obtain ⟨F, rfl⟩ : ∃ q, F = q + 1 := ⟨F - 1, by omega⟩
    rw [ref27_Convert.l0, length_ints, wr (x := 8 * ((b.length : Nat) : Int)) (by omega) (by omega), if_neg (by simp; omega)]
    simp [chunks, ints]
  | m + 1, F, xs, j, hj, hF, hx => by
    obtain ⟨F, rfl⟩ : ∃ q, F = q + 7 := ⟨F - 7, by omega⟩
    have ih := conv0 b hb hlen n hn1 hn2 P hP hPg m (F + 6) (xs ++ [((val ((P.drop (5 * j)).take 5) : Nat) : Int)]) (j + 1) (by omega) (by omega) (by simp; omega)
    have h5 := conv5 b hb hlen (5 * j) (by omega) F
    have hb5 := five_bits P (5 * j) (by omega)
    simp only [hPg] at hb5
    rw [show F + 7 = F + 6 + 1 by omega, ref27_Convert.l0, length_ints, wr (x := 8 * ((b.length : Nat) : Int)) (by omega) (by omega), if_pos (by simp; omega), h5, Option.bind_some, if_pos (by omega), wr (by omega) (by omega), show (((5 * j : Nat) : Int) + 5) = ((5 * (j + 1) : Nat) : Int) by omega, ← hb5, ih]
    simp [chunks, ints, Nat.mul_succ]
theorem convR (b : List Nat) (hb : ∀ x ∈ b, x < 256) (hlen : b.length ≤ 100000) : Ev fun k => ref27_Convert.f k (ints b) = some (ints (groups 5 (b.flatMap (nb 8) ++ List.replicate ((5 - (8 * b.length) % 5) % 5) false))) := by
  have hL := length_flat 8 b
  obtain ⟨P, hP⟩ : ∃ P, b.flatMap (nb 8) ++ List.replicate ((5 - (8 * b.length) % 5) % 5) false = P := ⟨_, rfl⟩
  have hPl : P.length = 8 * b.length + (5 - (8 * b.length) % 5) % 5 := by rw [← hP, List.length_append, hL, List.length_replicate]
  obtain ⟨n, hn⟩ : ∃ n, P.length / 5 = n := ⟨_, rfl⟩
  have hPn : P.length = 5 * n := by omega
  have hPg : ∀ i, P.getD i false = gb b i := fun i => by
    rw [← hP, List.getD_eq_getElem?_getD, List.getElem?_append]
    unfold gb
    by_cases h : i < (b.flatMap (nb 8)).length
    · rw [if_pos h, List.getD_eq_getElem?_getD]
    · rw [if_neg h, List.getD_eq_getElem?_getD, List.getElem?_eq_none (l := b.flatMap (nb 8)) (by omega)]
      cases hq : (List.replicate ((5 - (8 * b.length) % 5) % 5) false)[i - (b.flatMap (nb 8)).length]? with
      | none => rfl
      | some x => have := List.eq_of_mem_replicate (List.mem_of_getElem? hq); rw [this]; rfl
  rw [hP]
  refine Ev.of (n + 10) fun k => ?_
  have h := conv0 b hb hlen n (by omega) (by omega) P hPn hPg n (k + (n + 10)) [] 0 (by omega) (by omega) (by simp; omega)
  unfold ref27_Convert.f
  have e : ref27_Convert.l0 (ints b) (k + (n + 10)) ([] : List Int) 0 = _ := h
  rw [e, Option.bind_some]
  simp only [List.nil_append, Nat.mul_zero, List.drop_zero]
  unfold groups
  rw [hn]
def gd (d : List Nat) (i : Nat) : Bool := (d.flatMap (nb 5)).getD i false
def backV (d : List Nat) : List Int × Int :=
  if d.any (fun x => decide (31 < x)) then ([], 5)
  else if (over 8 (d.flatMap (nb 5))).length ≥ 5 ∨ val (over 8 (d.flatMap (nb 5))) ≠ 0 then ([], 3)
  else (ints (groups 8 (d.flatMap (nb 5))), 0)
theorem chk_eq (d : List Int) : ∀ (k : Nat) (t : Int), address_Back.l0 d k t = ref27_Back.l0 d k t
  | 0, _ => rfl
  | k + 1, t => by
    rw [address_Back.l0, ref27_Back.l0]
    simp only [chk_eq d k]
theorem chk_ok (d : List Nat) (hlen : d.length ≤ 100000) : ∀ (m F t : Nat), t + m = d.length → m + 1 ≤ F → ref27_Back.l0 (ints d) F (t : Int) = some (if (d.drop t).any (fun x => decide (31 < x)) then .ret ([], 5) else .go ())
  | 0, F, t, h, hF => by
    obtain ⟨F, rfl⟩ : ∃ q, F = q + 1 := ⟨F - 1, by omega⟩
    rw [ref27_Back.l0, length_ints, if_neg (by simp; omega), List.drop_of_length_le (by omega)]
    rfl
  | m + 1, F, t, h, hF => by
    obtain ⟨F, rfl⟩ : ∃ q, F = q + 1 := ⟨F - 1, by omega⟩
    have hlt : t < d.length := by omega
    have hget : (ints d).getD (t : Int).toNat 0 = ((d[t] : Nat) : Int) := by
      rw [Int.toNat_natCast, ints_getD, List.getD_eq_getElem?_getD, List.getElem?_eq_getElem hlt]; rfl
    rw [ref27_Back.l0, length_ints, if_pos (by simp; omega), if_pos ⟨by omega, by omega⟩, hget, wr (by omega) (by omega), show ((t : Int) + 1) = ((t + 1 : Nat) : Int) by omega, chk_ok d hlen m F (t + 1) (by omega) (by omega), List.drop_eq_getElem_cons hlt, List.any_cons]
    by_cases hx : 31 < d[t]
    · rw [if_pos (by simp; omega), if_pos (by simp [hx])]
    · rw [if_neg (by simp; omega)]
      simp [hx]
theorem backA (d : List Nat) (hlen : d.length ≤ 100000) : Ev fun k => address_Back.f k (ints d) = some (backV d) := by
  by_cases h : d.any (fun x => decide (31 < x))
  · refine Ev.of (d.length + 1) fun k => ?_
    have hc := chk_ok d hlen d.length (k + (d.length + 1)) 0 (by omega) (by omega)
    have e : ref27_Back.l0 (ints d) (k + (d.length + 1)) 0 = _ := hc
    unfold address_Back.f backV
    rw [chk_eq, e, Option.bind_some, List.drop_zero, if_pos h, if_pos h]
  · have hb : ∀ x ∈ d, x < 2 ^ 5 := fun x hx => by
      have h2 : ¬ 31 < x := fun hgt => h (List.any_eq_true.2 ⟨x, hx, by simpa using hgt⟩)
      omega
    refine ((regroup_ok 5 8 (by decide) (by decide) (by decide) d hb hlen).and (Ev.of (p := fun k => ref27_Back.l0 (ints d) k 0 = some (if (d.drop 0).any (fun x => decide (31 < x)) then .ret ([], 5) else .go ())) (d.length + 1) fun k => chk_ok d hlen d.length (k + (d.length + 1)) 0 (by omega) (by omega))).mono fun k ⟨h1, h2⟩ => ?_
    have h1' : address_regroup.f k (ints d) 5 8 = _ := h1
    unfold address_Back.f backV
    rw [chk_eq, h2, Option.bind_some, List.drop_zero, if_neg h, if_neg h]
    dsimp only
    rw [h1', Option.bind_some]
    dsimp only
    by_cases h5 : (over 8 (d.flatMap (nb 5))).length ≥ 5
    · rw [if_pos (by simp; omega), Option.bind_some, if_pos rfl, if_pos (.inl h5)]
    · rw [if_neg (by simp; omega), Option.bind_some]
      by_cases h0 : val (over 8 (d.flatMap (nb 5))) = 0
      · rw [if_neg (by simp [h0]), if_neg (by simp [h0]; omega)]
      · rw [if_pos (by simpa using h0), if_pos (.inr h0)]
theorem window {X Y : List Bool} {s w : Nat} (hl : X.length = Y.length) (h : ∀ c, c < w → X.getD (s + c) false = Y.getD (s + c) false) : (X.drop s).take w = (Y.drop s).take w := by
  apply List.ext_getElem?
  intro c
  rw [List.getElem?_take, List.getElem?_take]
  by_cases hc : c < w
  · rw [if_pos hc, if_pos hc, List.getElem?_drop, List.getElem?_drop]
    have h1 := h c hc
    by_cases h2 : s + c < X.length
    · rw [List.getElem?_eq_getElem h2, List.getElem?_eq_getElem (hl ▸ h2)]
      simp only [List.getD_eq_getElem?_getD, List.getElem?_eq_getElem h2, List.getElem?_eq_getElem (hl ▸ h2), Option.getD_some] at h1
      rw [h1]
    · rw [List.getElem?_eq_none (by omega), List.getElem?_eq_none (by omega)]
  · rw [if_neg hc, if_neg hc]
theorem chunk_at (p : List Bool) (bit : Bool) (n : Nat) : val (((p ++ bit :: List.replicate n false).drop (8 * (p.length / 8))).take 8) = val (p.drop (8 * (p.length / 8))) * 2 ^ (min (n + 1) (8 - p.length % 8)) + bit.toNat * 2 ^ (min n (7 - p.length % 8)) := by
  have hle : 8 * (p.length / 8) ≤ p.length := Nat.mul_div_le _ _
  have hl : (p.drop (8 * (p.length / 8))).length = p.length % 8 := by rw [List.length_drop]; omega
  have hlt := Nat.mod_lt p.length (show 0 < 8 by decide)
  rw [List.drop_append_of_le_length hle, List.take_append, List.take_of_length_le (by omega), hl, show 8 - p.length % 8 = (7 - p.length % 8) + 1 by omega, List.take_succ_cons, List.take_replicate, val_append, val_cons, val_zeros]
  simp only [List.length_cons, List.length_replicate, Nat.add_zero]
  rw [show min (7 - p.length % 8) n + 1 = min (n + 1) (7 - p.length % 8 + 1) by omega, show min (7 - p.length % 8) n = min n (7 - p.length % 8) by omega]
theorem chunk_put (q : Nat) (p : List Bool) (bit : Bool) (n : Nat) (hlen : p.length + 1 + n = 8 * q) :
    (chunks 8 q (p ++ false :: List.replicate n false)).set (p.length / 8) ((chunks 8 q (p ++ false :: List.replicate n false)).getD (p.length / 8) 0 ||| bit.toNat * 2 ^ (7 - p.length % 8)) = chunks 8 q (p ++ bit :: List.replicate n false) := by
  have hlt := Nat.mod_lt p.length (show 0 < 8 by decide)
  have hq : p.length / 8 < q := by omega
  have hn : 7 - p.length % 8 ≤ n := by omega
  apply List.ext_getElem?
  intro g
  rw [List.getElem?_set]
  by_cases hg : p.length / 8 = g
  · rw [if_pos hg, if_pos (by rw [length_chunks]; omega), chunks_get 8 q _ g (by omega), List.getD_eq_getElem?_getD, hg, chunks_get 8 q _ g (by omega), Option.getD_some, ← hg, chunk_at, chunk_at, Nat.min_eq_right (by omega), Nat.min_eq_right hn]
    congr 1
    have : bit.toNat * 2 ^ (7 - p.length % 8) < 2 ^ (8 - p.length % 8) := by
      rw [show 8 - p.length % 8 = 7 - p.length % 8 + 1 by omega, Nat.pow_succ]
      have := Nat.two_pow_pos (7 - p.length % 8)
      cases bit <;> simp <;> omega
    simp only [Bool.toNat_false, Nat.zero_mul, Nat.add_zero]
    exact or_add _ _ _ this
  · rw [if_neg hg]
    by_cases hgq : g < q
    · rw [chunks_get 8 q _ g hgq, chunks_get 8 q _ g hgq]
      congr 2
      refine window (by simp) fun c hc => ?_
      have hne : 8 * g + c ≠ p.length := by omega
      simp only [List.getD_eq_getElem?_getD, List.getElem?_append]
      by_cases h1 : 8 * g + c < p.length
      · rw [if_pos h1, if_pos h1]
      · rw [if_neg h1, if_neg h1, List.getElem?_cons, List.getElem?_cons, if_neg (by omega), if_neg (by omega)]
    · rw [List.getElem?_eq_none (by rw [length_chunks]; omega), List.getElem?_eq_none (by rw [length_chunks]; omega)]
theorem val_zero_iff (l : List Bool) : val l = 0 ↔ l.any id = false := by
  induction l with
  | nil => simp [val]
  | cons b l ih =>
    rw [val_cons, List.any_cons]
    have := Nat.two_pow_pos l.length
    cases b <;> simp_all
section
variable (d : List Nat) (hb : ∀ x ∈ d, x < 256) (hlen : d.length ≤ 100000)
include hb hlen
theorem bitB (i : Nat) (hi : i < 5 * d.length) : iand .u8 (ishr .u8 ((ints d).getD (IntKind.i64.wrap ((i : Int).tdiv 5)).toNat 0) (IntKind.u64.wrap (IntKind.i64.wrap (4 - (i : Int).tmod 5)))) 1 = ((gd d i).toNat : Int) := by
  have ed : IntKind.i64.wrap ((i : Int).tdiv 5) = ((i / 5 : Nat) : Int) := by
    rw [Int.tdiv_eq_ediv_of_nonneg (by omega), wr (by omega) (by omega)]; omega
  have em : IntKind.u64.wrap (IntKind.i64.wrap (4 - (i : Int).tmod 5)) = ((4 - i % 5 : Nat) : Int) := by
    rw [Int.tmod_eq_emod_of_nonneg (by omega), wr (by omega) (by omega), wu64 (by omega) (by omega)]; omega
  have hg : gd d i = (if i < 5 * d.length then (d.getD (i / 5) 0).testBit (5 - 1 - i % 5) else false) := flat_get 5 (by decide) d i
  rw [ed, em, Int.toNat_natCast, ints_getD, bit_val _ _ (getD_lt d hb _) (by omega), hg, if_pos hi, show 5 - 1 - i % 5 = 4 - i % 5 by omega]
theorem back2 (q : Nat) (hq : q = 5 * d.length / 8) (xs : List Int) : ∀ (m F i : Nat), i + m = 5 * d.length → 8 * q ≤ i → m + 1 ≤ F →
    ref27_Back.l1 (ints d) F xs (i : Int) = some (if ((d.flatMap (nb 5)).drop i).any id then .ret ([], 3) else .go xs)
  | 0, F, i, h, hi, hF => by
    obtain ⟨F, rfl⟩ : ∃ q, F = q + 1 := ⟨F - 1, by omega⟩
    rw [ref27_Back.l1, length_ints, wr (x := 5 * ((d.length : Nat) : Int)) (by omega) (by omega), if_neg (by simp; omega), List.drop_of_length_le (by rw [length_flat]; omega)]
    rfl
  | m + 1, F, i, h, hi, hF => by
    obtain ⟨F, rfl⟩ : ∃ q, F = q + 1 := ⟨F - 1, by omega⟩
    have hlt : i < 5 * d.length := by omega
    have hbit := bitB d hb hlen i hlt
    have ed : IntKind.i64.wrap ((i : Int).tdiv 5) = ((i / 5 : Nat) : Int) := by
      rw [Int.tdiv_eq_ediv_of_nonneg (by omega), wr (by omega) (by omega)]; omega
    have em : IntKind.u64.wrap (IntKind.i64.wrap (4 - (i : Int).tmod 5)) = ((4 - i % 5 : Nat) : Int) := by
      rw [Int.tmod_eq_emod_of_nonneg (by omega), wr (by omega) (by omega), wu64 (by omega) (by omega)]; omega
    have eq8 : (IntKind.i64.wrap ((IntKind.i64.wrap (5 * ((d.length : Nat) : Int))).tdiv 8)).toNat = q := by
      rw [wr (x := 5 * ((d.length : Nat) : Int)) (by omega) (by omega), Int.tdiv_eq_ediv_of_nonneg (by omega), wr (by omega) (by omega)]; omega
    have hL : i < (d.flatMap (nb 5)).length := by rw [length_flat]; omega
    have hgd : gd d i = (d.flatMap (nb 5))[i] := by unfold gd; rw [List.getD_eq_getElem?_getD, List.getElem?_eq_getElem hL]; rfl
    rw [ref27_Back.l1, length_ints, hbit, eq8, ed, em, wr (x := 5 * ((d.length : Nat) : Int)) (by omega) (by omega), if_pos (by simp; omega), if_pos ⟨by omega, by omega⟩, if_pos (by omega), wr (x := 8 * ((q : Nat) : Int)) (by omega) (by omega), if_neg (by simp; omega), wr (x := (i : Int) + 1) (by omega) (by omega), show ((i : Int) + 1) = ((i + 1 : Nat) : Int) by omega, List.drop_eq_getElem_cons hL, List.any_cons, ← hgd]
    cases hv : gd d i with
    | true => rfl
    | false =>
      have ih := back2 q hq xs m F (i + 1) (by omega) (by omega) (by omega)
      show ref27_Back.l1 (ints d) F xs ((i + 1 : Nat) : Int) = _
      rw [ih]
      rfl
theorem back1 (q : Nat) (hq : q = 5 * d.length / 8) : ∀ (m F i : Nat), i + m = 8 * q → 5 * d.length + 10 ≤ F + i →
    ref27_Back.l1 (ints d) F (ints (chunks 8 q ((d.flatMap (nb 5)).take i ++ List.replicate m false))) (i : Int) = some (if ((d.flatMap (nb 5)).drop (8 * q)).any id then .ret ([], 3) else .go (ints (groups 8 (d.flatMap (nb 5)))))
  | 0, F, i, h, hF => by
    have hi : i = 8 * q := by omega
    subst hi
    have hg : chunks 8 q ((d.flatMap (nb 5)).take (8 * q) ++ List.replicate 0 false) = groups 8 (d.flatMap (nb 5)) := by
      unfold groups
      rw [length_flat, ← hq]
      apply List.ext_getElem?
      intro g
      by_cases hg : g < q
      · rw [chunks_get 8 q _ g hg, chunks_get 8 q _ g hg]
        congr 2
        simp only [List.replicate_zero, List.append_nil]
        rw [List.drop_take, List.take_take, Nat.min_eq_left (by omega)]
      · rw [List.getElem?_eq_none (by rw [length_chunks]; omega), List.getElem?_eq_none (by rw [length_chunks]; omega)]
    rw [hg]
    exact back2 d hb hlen q hq _ (5 * d.length - 8 * q) F (8 * q) (by omega) (Nat.le_refl _) (by omega)
  | m + 1, F, i, h, hF => by
    obtain ⟨F, rfl⟩ : ∃ q, F = q + 1 := ⟨F - 1, by omega⟩
    have hlt : i < 5 * d.length := by omega
    have hL : i < (d.flatMap (nb 5)).length := by rw [length_flat]; omega
    have hbit := bitB d hb hlen i hlt
    have ed5 : IntKind.i64.wrap ((i : Int).tdiv 5) = ((i / 5 : Nat) : Int) := by
      rw [Int.tdiv_eq_ediv_of_nonneg (by omega), wr (by omega) (by omega)]; omega
    have em5 : IntKind.u64.wrap (IntKind.i64.wrap (4 - (i : Int).tmod 5)) = ((4 - i % 5 : Nat) : Int) := by
      rw [Int.tmod_eq_emod_of_nonneg (by omega), wr (by omega) (by omega), wu64 (by omega) (by omega)]; omega
    have ed8 : IntKind.i64.wrap ((i : Int).tdiv 8) = ((i / 8 : Nat) : Int) := by
      rw [Int.tdiv_eq_ediv_of_nonneg (by omega), wr (by omega) (by omega)]; omega
    have em8 : IntKind.u64.wrap (IntKind.i64.wrap (7 - (i : Int).tmod 8)) = ((7 - i % 8 : Nat) : Int) := by
      rw [Int.tmod_eq_emod_of_nonneg (by omega), wr (by omega) (by omega), wu64 (by omega) (by omega)]; omega
    have eq8 : (IntKind.i64.wrap ((IntKind.i64.wrap (5 * ((d.length : Nat) : Int))).tdiv 8)).toNat = q := by
      rw [wr (x := 5 * ((d.length : Nat) : Int)) (by omega) (by omega), Int.tdiv_eq_ediv_of_nonneg (by omega), wr (by omega) (by omega)]; omega
    have hpl : ((d.flatMap (nb 5)).take i).length = i := by rw [List.length_take]; omega
    have hcp := chunk_put q ((d.flatMap (nb 5)).take i) (gd d i) m (by rw [hpl]; omega)
    rw [hpl] at hcp
    have hgd : gd d i = (d.flatMap (nb 5))[i] := by unfold gd; rw [List.getD_eq_getElem?_getD, List.getElem?_eq_getElem hL]; rfl
    have htk : (d.flatMap (nb 5)).take i ++ gd d i :: List.replicate m false = (d.flatMap (nb 5)).take (i + 1) ++ List.replicate m false := by
      rw [List.take_succ_eq_append_getElem hL, ← hgd, List.append_assoc]
      rfl
    rw [htk] at hcp
    have hrep : (d.flatMap (nb 5)).take i ++ List.replicate (m + 1) false = (d.flatMap (nb 5)).take i ++ false :: List.replicate m false := by rw [List.replicate_succ]
    have hold : (chunks 8 q ((d.flatMap (nb 5)).take i ++ false :: List.replicate m false)).getD (i / 8) 0 < 256 := by
      rw [List.getD_eq_getElem?_getD, chunks_get 8 q _ _ (by omega), Option.getD_some]
      exact val_bound (n := 8) (by rw [List.length_take]; omega)
    have hsh : (gd d i).toNat * 2 ^ (7 - i % 8) < 256 := by
      have : 2 ^ (7 - i % 8) ≤ 2 ^ 7 := Nat.pow_le_pow_right (by decide) (by omega)
      cases gd d i <;> simp <;> omega
    have hset : ∀ (l : List Nat) (j v : Nat), (ints l).set j (v : Int) = ints (l.set j v) := fun l j v => by simp [ints, List.map_set]
    have ih := back1 q hq m F (i + 1) (by omega) (by omega)
    rw [ref27_Back.l1, length_ints, hbit, eq8, ed5, em5, ed8, em8, wr (x := 5 * ((d.length : Nat) : Int)) (by omega) (by omega), if_pos (by simp; omega), if_pos ⟨by omega, by omega⟩, if_pos (by omega), wr (x := 8 * ((q : Nat) : Int)) (by omega) (by omega), if_pos (by simp; omega), if_pos ⟨by omega, by omega⟩, if_pos (by omega), if_pos ⟨by omega, by omega⟩, Option.bind_some]
    dsimp only
    rw [Int.toNat_natCast, ints_getD, ishl_u .u8 rfl _ _ (by show 7 - i % 8 ≤ 8; omega) (by show _ < 2 ^ 8; exact hsh), hrep, ior_u .u8 rfl _ _ (by show _ < 2 ^ 8; exact hold) (by show _ < 2 ^ 8; exact hsh), hset, hcp, wr (x := (i : Int) + 1) (by omega) (by omega), show ((i : Int) + 1) = ((i + 1 : Nat) : Int) by omega, ih]
theorem backR : Ev fun k => ref27_Back.f k (ints d) = some (backV d) := by
  obtain ⟨q, hq⟩ : ∃ q, q = 5 * d.length / 8 := ⟨_, rfl⟩
  refine Ev.of (5 * d.length + 10) fun k => ?_
  have hc := chk_ok d hlen d.length (k + (5 * d.length + 10)) 0 (by omega) (by omega)
  have e : ref27_Back.l0 (ints d) (k + (5 * d.length + 10)) 0 = _ := hc
  unfold ref27_Back.f backV
  rw [e, Option.bind_some, List.drop_zero]
  by_cases h : d.any (fun x => decide (31 < x))
  · rw [if_pos h, if_pos h]
  · have e8 : IntKind.i64.wrap ((IntKind.i64.wrap (5 * ((d.length : Nat) : Int))).tdiv 8) = (q : Int) := by
      rw [wr (x := 5 * ((d.length : Nat) : Int)) (by omega) (by omega), Int.tdiv_eq_ediv_of_nonneg (by omega), wr (by omega) (by omega)]; omega
    have hb1 := back1 d hb hlen q hq (8 * q) (k + (5 * d.length + 10)) 0 (by omega) (by omega)
    have hz : ints (chunks 8 q ((d.flatMap (nb 5)).take 0 ++ List.replicate (8 * q) false)) = List.replicate q (0 : Int) := by
      apply List.ext_getElem
      · simp [ints, length_chunks]
      · intro g h1 h2
        have hg : g < q := by simpa using h2
        have := chunks_get 8 q (List.replicate (8 * q) false) g hg
        have h3 := (List.getElem?_eq_some_iff.1 this).2
        simp only [ints, List.take_zero, List.nil_append, List.getElem_map, List.getElem_replicate, h3, List.drop_replicate, List.take_replicate, val_zeros]
        rfl
    rw [hz] at hb1
    have hb1' : ref27_Back.l1 (ints d) (k + (5 * d.length + 10)) (List.replicate q (0 : Int)) 0 = _ := hb1
    have hov : over 8 (d.flatMap (nb 5)) = (d.flatMap (nb 5)).drop (8 * q) := by unfold over; rw [length_flat, ← hq]
    have hol : (over 8 (d.flatMap (nb 5))).length = 5 * d.length - 8 * q := by rw [hov, List.length_drop, length_flat]
    rw [if_neg h, if_neg h]
    dsimp only
    rw [length_ints, e8, if_pos (by omega), Int.toNat_natCast, hb1', Option.bind_some]
    by_cases ha : ((d.flatMap (nb 5)).drop (8 * q)).any id
    · have hv : val (over 8 (d.flatMap (nb 5))) ≠ 0 := by rw [hov]; intro h0; rw [(val_zero_iff _).1 h0] at ha; cases ha
      rw [if_pos ha, if_pos (.inr hv)]
    · have hv : val (over 8 (d.flatMap (nb 5))) = 0 := by rw [hov]; exact (val_zero_iff _).2 (by simpa using ha)
      rw [if_neg ha]
      dsimp only
      rw [wr (x := 5 * ((d.length : Nat) : Int)) (by omega) (by omega), wr (x := 8 * ((q : Nat) : Int)) (by omega) (by omega), wr (by omega) (by omega)]
      by_cases h5 : (over 8 (d.flatMap (nb 5))).length ≥ 5
      · rw [if_pos (by simp; omega), if_pos (.inl h5)]
      · rw [if_neg (by simp; omega), if_neg (by simp [hv]; omega)]
end
theorem sane27 (k : Nat) : law27_sane.f (k + 40) = some true := by rfl
def pad5 (b : List Nat) : List Nat := groups 5 (b.flatMap (nb 8) ++ List.replicate ((5 - (8 * b.length) % 5) % 5) false)
theorem pad5_lt (b : List Nat) : ∀ x ∈ pad5 b, x < 256 := by
  intro x hx
  obtain ⟨i, hi, rfl⟩ := List.mem_iff_getElem.1 hx
  unfold pad5 groups at *
  rw [length_chunks] at hi
  have h := chunks_get 5 _ (b.flatMap (nb 8) ++ List.replicate ((5 - (8 * b.length) % 5) % 5) false) i hi
  obtain ⟨h1, h2⟩ := List.getElem?_eq_some_iff.1 h
  rw [h2]
  have h3 := val_bound (h := ((b.flatMap (nb 8) ++ List.replicate ((5 - (8 * b.length) % 5) % 5) false).drop (5 * i)).take 5) (n := 5) (by rw [List.length_take]; omega)
  omega
theorem pad5_len (b : List Nat) : (pad5 b).length ≤ 8 * b.length + 5 := by
  unfold pad5 groups
  rw [length_chunks, List.length_append, length_flat, List.length_replicate]
  have h1 := Nat.mod_lt (5 - (8 * b.length) % 5) (show 0 < 5 by decide)
  have h2 := Nat.div_le_self (8 * b.length + (5 - (8 * b.length) % 5) % 5) 5
  omega
theorem mods_ints (d : List Nat) : (ints d).map (fun x => x.tmod 32) = ints (d.map fun x => x % 32) := by
  simp only [ints, List.map_map]
  apply List.map_congr_left
  intro x _
  show ((x : Int).tmod 32) = ((x % 32 : Nat) : Int)
  rw [Int.tmod_eq_emod_of_nonneg (by omega)]
  omega
theorem mods_ok (d : List Nat) (hd : d.length ≤ 200) : Ev fun k => law27_AddressDigits.l0 (ints d) k [] 0 = some (ints (d.map fun x => x % 32)) := by
  have h := app_all (L := law27_AddressDigits.l0 (ints d)) (n := (ints d).length) (g := fun t => ((ints d).getD t.toNat 0).tmod 32) (by rw [length_ints]; omega) (fun k xs t => rfl) [] (by simp)
  refine h.mono fun k hk => ?_
  rw [hk, List.nil_append, map_range_getD (ints d) (fun x => x.tmod 32), mods_ints]
theorem same01 (k : Nat) (a : List Int) : ref01_Same.f k a a = some true := by
  unfold ref01_Same.f
  simp
theorem addressDigits_true (b d : List Int) (wb : ∀ n ∈ b, (Lit.int .u8 n).wf = true) (wd : ∀ n ∈ d, (Lit.int .u8 n).wf = true) : ∃ k, law27_AddressDigits.f k b d = some true := by
  obtain ⟨b, rfl, hb⟩ := ints_of_wf b wb
  obtain ⟨d, rfl, hd⟩ := ints_of_wf d wd
  have hsane : Ev fun k => law27_sane.f k = some true := Ev.of 40 sane27
  by_cases hs : b.length ≤ 120 ∧ d.length ≤ 200
  · have he : ∀ x ∈ d.map (fun x => x % 32), x < 256 := by
      intro x hx
      obtain ⟨y, _, rfl⟩ := List.mem_map.1 hx
      show y % 32 < 256
      omega
    have hp := pad5_len b
    obtain ⟨k, h1, h2, h3, h4, h5, h6, h7, h8, h9, h10⟩ := (hsane.and ((mods_ok d hs.2).and ((convA b hb (by omega)).and ((convR b hb (by omega)).and ((backA d (by omega)).and ((backR d hd (by omega)).and ((backA (d.map fun x => x % 32) (by simp; omega)).and ((backR (d.map fun x => x % 32) he (by simp; omega)).and ((backA (pad5 b) (by omega)).and (backR (pad5 b) (pad5_lt b) (by omega))))))))))).get
    refine ⟨k, ?_⟩
    have h3' : address_Convert.f k (ints b) = some (ints (pad5 b)) := h3
    have h4' : ref27_Convert.f k (ints b) = some (ints (pad5 b)) := h4
    unfold law27_AddressDigits.f
    rw [h1, Option.bind_some, if_neg (by decide), length_ints, length_ints, if_neg (by simp; omega), Option.bind_some, if_neg (by simp; omega), h2, Option.bind_some, h4', Option.bind_some, h5, Option.bind_some, h6, Option.bind_some, if_neg (by simp), same01, Option.bind_some, Option.bind_some, if_neg (by decide), h7, Option.bind_some, h8, Option.bind_some, if_neg (by simp), same01, Option.bind_some, Option.bind_some, if_neg (by decide), h9, Option.bind_some, h10, Option.bind_some, if_neg (by simp), same01, Option.bind_some, Option.bind_some, if_neg (by decide), h3', Option.bind_some, Option.bind_some, same01, Option.bind_some]
  · obtain ⟨k, h5⟩ := hsane.get
    refine ⟨k, ?_⟩
    unfold law27_AddressDigits.f
    rw [h5, Option.bind_some, if_neg (by decide), length_ints, length_ints]
    by_cases h1 : b.length > 120
    · rw [if_pos (by simp; omega)]; rfl
    · rw [if_neg (by simp; omega), Option.bind_some, if_pos (by simp; omega)]
end Go.Proofs.Ytmopbcfjnnchgaa.G
namespace Go.Proofs.Ytmopbcfjnnchgaa.addressDigits
open Go Go.ChangeShapes Go.WideShapes Go.ChangeAt Go.RowKit
open Go.ChangeMaps (open_string shut_string)
theorem own : ownKnob Try.prog.godebug = none := by kernel_rfl
theorem laidOut : laidOutB Try.prog = true := by kernel_rfl
set_option maxRecDepth 100000 in
theorem lifted (os : Os) (started : os.Started) (H : Type) (enc : TypeId × Value → H) :
    ReturnsInHanded {} Try.checked os 3 .any (Rows.addressDigitsSpec.pre6 enc Try.prog Try.f3 Rows.addressDigitsRow.domain false) (Rows.addressDigitsSpec.post enc Try.prog Try.f3 false true false false) := by
  refine returnsInHanded_of_change_sized (C := Try.checked) own started (by kernel_rfl) Try.func3
    (ChangeSpec.witness6 (enc := enc) (C := Try.checked) false ⟨#[], #[.slice none 0 0, .slice none 0 0], []⟩ 8 (by kernel_rfl) (by kernel_rfl) (by kernel_rfl) (by kernel_rfl)) ?_
  intro W base args ds gs before hval0 hW hcnd hsz0 _
  have hsz : (DataW.weightsEach Try.prog (Try.f3.params.toList ++ Rows.addressDigitsSpec.plain.varTypes Try.prog) (ds ++ gs)).all (· ≤ reachBytes) = true := hsz0
  have hval : ∀ (j : Nat) t v, Try.f3.params[j]? = some t → args[j]? = some v → Value.okWide Try.prog W .any base t v := hval0
  have hW' := hW
  obtain ⟨p, q, hA0, hV, rfl, hfz, hnd⟩ := hW
  have hA : DataW.TrodAll enc Try.prog W 0 (fun _ => true) true Try.f3.params.toList args.toList ds p := hA0
  rw [Try.params3] at hA hval hsz
  obtain ⟨v0, vs0, d0, ds0, p0, q0, hargs, rfl, rfl, h0, r0⟩ := trodAll_cons hA
  obtain ⟨v1, vs1, d1, ds1, p1, q1, rfl, rfl, rfl, h1, r1⟩ := trodAll_cons r0
  obtain ⟨rfl, rfl, rfl⟩ := trodAll_nil r1
  obtain rfl : args = #[v0, v1] := by cases args; simp_all
  obtain ⟨rfl, rfl⟩ := trodVars_none hV
  obtain ⟨A0, len0, cap0, rfl⟩ := okWide_slice Try.underlying22 (hval 0 22 v0 rfl rfl)
  have k0 := h0
  have lt0 : ∀ x ∈ p0, x.block < W.heap.size := by obtain ⟨m, hm⟩ := k0; exact DataW.trod_lt m _ _ _ hm
  have y0 : len0 * 1 ≤ 140737488351232 := PrintWords.sized_ints hsz (j := 0) (t := 22) rfl rfl Try.underlying22 Try.underlying5 (by kernel_rfl) (by kernel_rfl) h0
  obtain ⟨a0, hz0, rw0, cf0, wf0⟩ : ∃ zs : List Int, zs.length = len0 ∧ G.Row (G.Pl.int .u8) W A0 zs ∧ zs.length ≤ cap0 ∧ ∀ n ∈ zs, (Lit.int .u8 n).wf = true := by
    obtain ⟨fuel, hf⟩ := h0
    rcases open_ints Try.underlying22 Try.underlying5 (by kernel_rfl) hf with ⟨hcs, _⟩ | ⟨x, l, c, zs, hcs, _, hl, hm, hz, _, hcell, hwz⟩
    · simp [Value.cells] at hcs
      obtain ⟨rfl, rfl, rfl⟩ := hcs
      exact ⟨[], rfl, G.Row.nil _ _, Nat.zero_le _, fun _ h => by cases h⟩
    · simp [Value.cells] at hcs
      obtain ⟨rfl, rfl, rfl⟩ := hcs
      have hz' : zs.length = cap0 := by simpa using hz
      exact ⟨zs.take len0, by rw [List.length_take]; omega, G.row_take hcell (by omega), by rw [List.length_take]; omega, fun n hn => hwz n (List.mem_of_mem_take hn)⟩
  subst hz0
  obtain ⟨A1, len1, cap1, rfl⟩ := okWide_slice Try.underlying22 (hval 1 22 v1 rfl rfl)
  have k1 := h1
  have lt1 : ∀ x ∈ p1, x.block < W.heap.size := by obtain ⟨m, hm⟩ := k1; exact DataW.trod_lt m _ _ _ hm
  have y1 : len1 * 1 ≤ 140737488351232 := PrintWords.sized_ints hsz (j := 1) (t := 22) rfl rfl Try.underlying22 Try.underlying5 (by kernel_rfl) (by kernel_rfl) h1
  obtain ⟨a1, hz1, rw1, cf1, wf1⟩ : ∃ zs : List Int, zs.length = len1 ∧ G.Row (G.Pl.int .u8) W A1 zs ∧ zs.length ≤ cap1 ∧ ∀ n ∈ zs, (Lit.int .u8 n).wf = true := by
    obtain ⟨fuel, hf⟩ := h1
    rcases open_ints Try.underlying22 Try.underlying5 (by kernel_rfl) hf with ⟨hcs, _⟩ | ⟨x, l, c, zs, hcs, _, hl, hm, hz, _, hcell, hwz⟩
    · simp [Value.cells] at hcs
      obtain ⟨rfl, rfl, rfl⟩ := hcs
      exact ⟨[], rfl, G.Row.nil _ _, Nat.zero_le _, fun _ h => by cases h⟩
    · simp [Value.cells] at hcs
      obtain ⟨rfl, rfl, rfl⟩ := hcs
      have hz' : zs.length = cap1 := by simpa using hz
      exact ⟨zs.take len1, by rw [List.length_take]; omega, G.row_take hcell (by omega), by rw [List.length_take]; omega, fun n hn => hwz n (List.mem_of_mem_take hn)⟩
  subst hz1
  clear hA0 hval0 hsz0 hsz
  obtain ⟨K, hK⟩ := G.addressDigits_true a0 a1 wf0 wf1
  refine (G.law27_AddressDigits.calls K a0 a1 [] _ _ true W ⟨A0, cap0, rfl, G.Ro.of rw0, cf0⟩ ⟨A1, cap1, rfl, G.Ro.of rw1, cf1⟩ (G.Mem.nil W) hK).mono fun e W' he => ?_
  obtain ⟨v, rfl, rfl, hM⟩ := he
  have bel := hM.below
  exact ⟨_, rfl, _, _, _, [], _, [], hW', trodAll_mk1 (shut_bool Try.underlying4 _), (trodAll_cons_mk (Below.trod laidOut (by kernel_rfl) (of_decide_eq_true (by kernel_rfl)) k0 bel lt0) (trodAll_cons_mk (Below.trod laidOut (by kernel_rfl) (of_decide_eq_true (by kernel_rfl)) k1 bel lt1) trodAll_mk0)), rfl, bel.frame _, fun h => by cases h⟩
theorem over : Rows.addressDigitsRow.holds Try.pinned (OpenSpec.ofChange Rows.addressDigitsSpec) :=
  OpenClaim.holds_of_wide 3 Try.f3 rfl rfl rfl rfl rfl rfl rfl ⟨rfl, rfl, rfl, rfl, rfl⟩ rfl rfl rfl rfl rfl (by kernel_rfl) Try.func3 (by kernel_rfl)
    (of_decide_eq_true (by kernel_rfl)) (by unfold Func.isWrapper; first | (rw [if_pos (by decide +kernel)]; kernel_rfl) | (rw [if_neg (by decide +kernel)]; exact ⟨rfl, rfl⟩))
    (fun os started H enc _ => lifted os started H enc)
theorem proved : Rows.AddressDigitsSaid := over
#print axioms proved
end Go.Proofs.Ytmopbcfjnnchgaa.addressDigits
namespace Go.Proofs.Ytmopbcfjnnchgaa
/-- The row, under a short name, for the claim. -/
theorem addressDigits_holds : Rows.AddressDigitsSaid := addressDigits.proved
end Go.Proofs.Ytmopbcfjnnchgaa
