/- For every list of numbers and every origin: the way of a transaction and what the first spy on it sees are the same from every node ahead of the spy. Conditions: none beyond the statement's own. -/
import Derived.Test.YtnhgfdinnbadeaaPRelayHidesx3
import Derived.Test.YtnhgfdinnbadeaaWSized
namespace Go.Proofs.Ytnhgfdinnbadeaa.PrintWords
/-- The name by which the row finds the word on a slice's weight. -/
theorem sized_ints {H : Type} {enc : TypeId × Value → H} {P : Program} {W : World} {base : Nat} {spare : Nat → Bool} {held : Bool} {t e : TypeId} {k : IntKind} {a : Option Addr} {len cap : Nat} {d : DataW H} {ps : List MemPlace} {ts : List TypeId} {ds : List (DataW H)} {j : Nat}
    (hsz : (DataW.weightsEach P ts ds).all (· ≤ reachBytes) = true) (ht : ts[j]? = some t) (hd : ds[j]? = some d) (hu : P.underlying t = some (.slice e)) (he : P.underlying e = some (.int k)) (hc : P.cellsOf e = 1) {B : Nat} (hB : P.bytesOf e = B)
    (h : DataW.Trod enc P W base spare held t (.slice a len cap) d ps) : len * B ≤ 140737488351232 :=
  Go.Proofs.YtnhgfdinnbadeaaW.PrintWords.sized_ints hsz ht hd hu he hc hB h
end Go.Proofs.Ytnhgfdinnbadeaa.PrintWords
namespace Go.Proofs.Ytnhgfdinnbadeaa.Pure
open Go.RowKit Go.Proofs.Ytnhgfdinnbadeaa.PRelayHides Go.Proofs.YtnhgfdinnbadeaaW.PrintWords Go.Proofs.YtnhgfdinnbadeaaW.PrintLast

theorem w1 {i : Int} (h0 : 0 ≤ i) (h : i < 4611686018427387904) : wrap64 (i + 1) = i + 1 := by unfold wrap64; omega
theorem wm {i : Int} (h0 : 0 ≤ i) (h : i < 4611686018427387904) : wrap64 (i - 1) = i - 1 := by unfold wrap64; omega
theorem rd_nat (xs : List Int) (i : Nat) : rd xs (i : Int) = xs.getD i 0 := by simp [rd]

theorem index_some (xs : List Int) (a : Int) (hn : xs.length ≤ 1000) (d : Nat) : ∀ (k i : Nat), i ≤ xs.length → xs.length - i = d → d < k →
    ∃ r, slices_Index_int_int.l0 k xs a (xs.length : Int) (i : Int) = some r ∧ (0 ≤ r ↔ a ∈ xs.drop i) := by
  induction d with
  | zero =>
    intro k i hi hd hk
    obtain ⟨k, rfl⟩ : ∃ m, k = m + 1 := ⟨k - 1, by omega⟩
    refine ⟨-1, by simp only [slices_Index_int_int.l0]; rw [if_neg (by omega)], ?_⟩
    have : xs.drop i = [] := List.drop_eq_nil_of_le (by omega)
    rw [this]; simp
  | succ d ih =>
    intro k i hi hd hk
    obtain ⟨k, rfl⟩ : ∃ m, k = m + 1 := ⟨k - 1, by omega⟩
    have hlt : i < xs.length := by omega
    have hr : rd xs (i : Int) = xs[i] := by rw [rd_nat]; simp [hlt]
    have hdr : xs.drop i = xs[i] :: xs.drop (i + 1) := List.drop_eq_getElem_cons hlt
    by_cases e : a = xs[i]
    · refine ⟨(i : Int), ?_, ?_⟩
      · simp only [slices_Index_int_int.l0]; rw [if_pos (by omega), if_pos (by omega), if_pos (by omega), hr, if_pos e]
      · rw [hdr, e]; exact ⟨fun _ => List.mem_cons_self, fun _ => by omega⟩
    · obtain ⟨r, h1, h2⟩ := ih k (i + 1) (by omega) (by omega) (by omega)
      refine ⟨r, ?_, ?_⟩
      · simp only [slices_Index_int_int.l0]; rw [if_pos (by omega), if_pos (by omega), if_pos (by omega), hr, if_neg e, w1 (by omega) (by omega)]
        exact h1
      · rw [h2, hdr, List.mem_cons]
        exact ⟨.inr, fun h => h.resolve_left e⟩

theorem nodup_inj {l : List Int} (h : l.Nodup) {i j : Nat} (hi : i < l.length) (hj : j < l.length) (e : l[i] = l[j]) : i = j := by
  have hp := List.pairwise_iff_getElem.1 h
  rcases Nat.lt_trichotomy i j with g | g | g
  · exact absurd e (hp i j hi hj g)
  · exact g
  · exact absurd e.symm (hp j i hj hi g)

theorem contains_some (xs : List Int) (a : Int) (hn : xs.length ≤ 1000) (k : Nat) (hk : xs.length < k) : slices_Contains_int_int.f k xs a = some (decide (a ∈ xs)) := by
  obtain ⟨r, h1, h2⟩ := index_some xs a hn xs.length k 0 (by omega) (by omega) hk
  unfold slices_Contains_int_int.f slices_Index_int_int.f
  rw [show ((0 : Nat) : Int) = 0 from rfl] at h1
  rw [h1]; simp only [Option.bind_some, List.drop_zero] at h2 ⊢
  by_cases e : a ∈ xs
  · have := h2.2 e; simp [e, this]
  · have : ¬ 0 ≤ r := fun h => e (h2.1 h)
    simp [e]; omega

theorem pigeon (n : Nat) : ∀ l : List Int, l.Nodup → (∀ x ∈ l, 0 ≤ x ∧ x < (n : Int)) → l.length ≤ n := by
  induction n with
  | zero =>
    intro l _ h
    cases l with
    | nil => simp
    | cons x t => have := h x (by simp); omega
  | succ n ih =>
    intro l hd h
    by_cases e : (n : Int) ∈ l
    · have h1 := ih (l.erase (n : Int)) (hd.erase _) (fun x hx => by
        have h2 := (hd.mem_erase_iff).1 hx
        have h3 := h x h2.2
        have h4 := h2.1
        omega)
      have h5 := List.length_erase_of_mem e
      omega
    · have := ih l hd (fun x hx => by
        have h3 := h x hx
        have h4 : x ≠ (n : Int) := fun he => e (he ▸ hx)
        omega)
      omega

def W (r : List Int) (f : List Bool) : Nat → List Int → Int → List Int
  | 0, way, _ => way
  | d + 1, way, x => if 0 ≤ x ∧ x < (r.length : Int) ∧ x ∉ way then (if f.getD x.toNat false = true ∧ 1 ≤ way.length then way ++ [x] else W r f d (way ++ [x]) (rd r x)) else way

theorem walk_l0 (r : List Int) (f : List Bool) (hl : f.length = r.length) (hn : r.length ≤ 64) (d : Nat) : ∀ (k : Nat) (way : List Int) (x : Int),
    way.Nodup → (∀ y ∈ way, 0 ≤ y ∧ y < (r.length : Int)) → r.length < d + way.length → 2 * d + 100 ≤ k →
    relay_Walk.l0 k r f (r.length : Int) way x = some (W r f d way x) := by
  induction d with
  | zero =>
    intro k way x h1 h2 h3 h4
    have := pigeon r.length way h1 h2
    omega
  | succ d ih =>
    intro k way x h1 h2 h3 h4
    have hw := pigeon r.length way h1 h2
    obtain ⟨k, rfl⟩ : ∃ m, k = m + 2 := ⟨k - 2, by omega⟩
    have hc := contains_some way x (by omega) (k + 1) (by omega)
    have hJ0 : relay_Walk.j2 (k + 1) r f (r.length : Int) way x false = some way := by simp [relay_Walk.j2]
    by_cases c : 0 ≤ x ∧ x < (r.length : Int) ∧ x ∉ way
    · obtain ⟨c1, c2, c3⟩ := c
      have hrf : rdOf false f x = f.getD x.toNat false := rfl
      have e : relay_Walk.l0 (k + 2) r f (r.length : Int) way x = relay_Walk.j2 (k + 1) r f (r.length : Int) way x true := by
        simp only [relay_Walk.l0]
        rw [if_pos c1, if_pos c2, hc]
        simp [c3]
      rw [e]
      have hW : W r f (d + 1) way x = if f.getD x.toNat false = true ∧ 1 ≤ way.length then way ++ [x] else W r f d (way ++ [x]) (rd r x) := by
        simp only [W]; rw [if_pos ⟨c1, c2, c3⟩]
      rw [hW]
      have hnx := ih k (way ++ [x]) (rd r x) (by
          rw [List.nodup_append]
          refine ⟨h1, by simp, ?_⟩
          intro a ha b hb hab
          simp at hb
          subst hb; subst hab
          exact c3 ha) (by
          intro y hy
          simp at hy
          rcases hy with hy | rfl
          · exact h2 y hy
          · exact ⟨c1, c2⟩) (by simp; omega) (by omega)
      simp only [relay_Walk.j2]
      rw [if_pos trivial, if_pos (by omega)]
      simp only [Option.bind_some]
      rw [if_pos c1, if_pos (by omega), hrf]
      by_cases b : f.getD x.toNat false = true
      · rw [if_pos b]
        by_cases g : 1 ≤ way.length
        · rw [if_pos (by simp; omega), if_pos ⟨b, g⟩]
        · rw [if_neg (by simp; omega), if_pos c2, if_neg (fun h => g h.2)]
          exact hnx
      · rw [if_neg b, if_pos c2, if_neg (fun h => b h.1)]
        exact hnx
    · have hW : W r f (d + 1) way x = way := by simp only [W]; rw [if_neg c]
      rw [hW]
      simp only [relay_Walk.l0]
      by_cases c1 : 0 ≤ x
      · rw [if_pos c1]
        by_cases c2 : x < (r.length : Int)
        · rw [if_pos c2, hc]
          have c3 : x ∈ way := by
            by_cases c3 : x ∈ way
            · exact c3
            · exact absurd ⟨c1, c2, c3⟩ c
          simp [c3, hJ0]
        · rw [if_neg c2, hJ0]
      · rw [if_neg c1, hJ0]

theorem walk_f (r : List Int) (f : List Bool) (hl : f.length = r.length) (hn : r.length ≤ 64) (o : Int) (h0 : 0 ≤ o) (h1 : o < (r.length : Int)) (k : Nat) (hk : 300 ≤ k) :
    relay_Walk.f k r f o = some (W r f (r.length + 1) [] o) := by
  obtain ⟨k, rfl⟩ : ∃ m, k = m + 1 := ⟨k - 1, by omega⟩
  unfold relay_Walk.f
  rw [if_pos (by omega), if_neg (by omega), if_neg (by omega), show decide (o ≥ (r.length : Int)) = false by simp; omega]
  simp only [relay_Walk.j0]
  rw [if_neg (by simp)]
  exact walk_l0 r f hl hn (r.length + 1) k [] o (by simp) (by simp) (by simp) (by omega)

theorem W_prefix (r : List Int) (f : List Bool) (d : Nat) : ∀ way x, ∃ t, W r f d way x = way ++ t := by
  induction d with
  | zero => intro way x; exact ⟨[], by simp [W]⟩
  | succ d ih =>
    intro way x
    simp only [W]
    by_cases c : 0 ≤ x ∧ x < (r.length : Int) ∧ x ∉ way
    · rw [if_pos c]
      by_cases b : f.getD x.toNat false = true ∧ 1 ≤ way.length
      · rw [if_pos b]; exact ⟨[x], rfl⟩
      · rw [if_neg b]
        obtain ⟨t, ht⟩ := ih (way ++ [x]) (rd r x)
        exact ⟨x :: t, by rw [ht]; simp⟩
    · rw [if_neg c]; exact ⟨[], by simp⟩

structure PathOk (r : List Int) (f : List Bool) (w : List Int) : Prop where
  nodup : w.Nodup
  range : ∀ x ∈ w, 0 ≤ x ∧ x < (r.length : Int)
  chain : ∀ j, j + 1 < w.length → w.getD (j + 1) 0 = rd r (w.getD j 0)
  quiet : ∀ j, 1 ≤ j → j + 1 < w.length → f.getD (w.getD j 0).toNat false = false

theorem getD_left (a b : List Int) (j : Nat) (h : j < a.length) : (a ++ b).getD j 0 = a.getD j 0 := by
  simp [List.getD_eq_getElem?_getD, List.getElem?_append_left h]
theorem getD_mid (a : List Int) (x : Int) : (a ++ [x]).getD a.length 0 = x := by
  simp [List.getD_eq_getElem?_getD]

theorem W_ok (r : List Int) (f : List Bool) (d : Nat) : ∀ way x, PathOk r f way → (∀ j, j + 1 = way.length → x = rd r (way.getD j 0)) → (∀ j, 1 ≤ j → j + 1 = way.length → f.getD (way.getD j 0).toNat false = false) →
    PathOk r f (W r f d way x) := by
  induction d with
  | zero => intro way x h _ _; simpa [W] using h
  | succ d ih =>
    intro way x h hx hq
    simp only [W]
    by_cases c : 0 ≤ x ∧ x < (r.length : Int) ∧ x ∉ way
    · rw [if_pos c]
      obtain ⟨c1, c2, c3⟩ := c
      have hok : PathOk r f (way ++ [x]) := by
        refine ⟨?_, ?_, ?_, ?_⟩
        · rw [List.nodup_append]
          refine ⟨h.nodup, by simp, ?_⟩
          intro a ha b hb hab
          simp at hb
          subst hb; subst hab
          exact c3 ha
        · intro y hy
          simp at hy
          rcases hy with hy | rfl
          · exact h.range y hy
          · exact ⟨c1, c2⟩
        · intro j hj
          simp at hj
          rw [getD_left way [x] j (by omega)]
          by_cases e : j + 1 < way.length
          · rw [getD_left way [x] (j + 1) e]; exact h.chain j e
          · have e' : j + 1 = way.length := by omega
            rw [e', getD_mid]; exact hx j e'
        · intro j h1 hj
          simp at hj
          rw [getD_left way [x] j (by omega)]
          by_cases e : j + 1 < way.length
          · exact h.quiet j h1 e
          · exact hq j h1 (by omega)
      by_cases b : f.getD x.toNat false = true ∧ 1 ≤ way.length
      · rw [if_pos b]; exact hok
      · rw [if_neg b]
        refine ih _ _ hok ?_ ?_
        · intro j hj
          simp at hj
          subst hj
          rw [getD_mid]
        · intro j h1 hj
          simp at hj
          subst hj
          rw [getD_mid]
          cases hb : f.getD x.toNat false with
          | false => rfl
          | true => exact absurd ⟨hb, h1⟩ b
    · rw [if_neg c]; exact h

theorem W_ok0 (r : List Int) (f : List Bool) (d : Nat) (o : Int) : PathOk r f (W r f d [] o) :=
  W_ok r f d [] o ⟨by simp, by simp, by simp, by simp⟩ (by simp) (by simp)

def spyB (s : List Bool) (x : Int) : Prop := 0 ≤ x ∧ x < (s.length : Int) ∧ s.getD x.toNat false = true

theorem seen_step_no (k : Nat) (w : List Int) (s : List Bool) (i : Nat) (hi : i < w.length) (hw : w.length ≤ 1000) (h : i = 0 ∨ ¬ spyB s (w.getD i 0)) :
    relay_Seen.l0 (k + 1) w s w (w.length : Int) (i : Int) = relay_Seen.l0 k w s w (w.length : Int) ((i + 1 : Nat) : Int) := by
  have hr : rd w (i : Int) = w.getD i 0 := rd_nat w i
  have hk : wrap64 ((i : Int) + 1) = ((i + 1 : Nat) : Int) := by rw [w1 (by omega) (by omega)]; rfl
  simp only [relay_Seen.l0]
  rw [if_pos (by omega), if_pos (by omega), if_pos (by omega), hr, hk]
  by_cases e : i = 0
  · rw [if_neg (by omega)]
  · rw [if_pos (by omega)]
    have hs : ¬ spyB s (w.getD i 0) := by
      rcases h with h | h
      · exact absurd h e
      · exact h
    by_cases c1 : w.getD i 0 ≥ 0
    · rw [if_pos c1]
      by_cases c2 : w.getD i 0 < (s.length : Int)
      · rw [if_pos c2, if_pos (by omega), if_neg]
        intro c3
        exact hs ⟨c1, c2, c3⟩
      · rw [if_neg c2]
    · rw [if_neg c1]

theorem seen_step_yes (k : Nat) (w : List Int) (s : List Bool) (i : Nat) (h1 : 1 ≤ i) (hi : i < w.length) (hw : w.length ≤ 1000) (h : spyB s (w.getD i 0)) :
    relay_Seen.l0 (k + 1) w s w (w.length : Int) (i : Int) = some ((i : Int), w.getD (i - 1) 0) := by
  have hr : rd w (i : Int) = w.getD i 0 := rd_nat w i
  have hk : wrap64 ((i : Int) - 1) = ((i - 1 : Nat) : Int) := by rw [wm (by omega) (by omega)]; omega
  simp only [relay_Seen.l0]
  obtain ⟨c1, c2, c3⟩ := h
  have c3' : rdOf false s (w.getD i 0) = true := c3
  rw [if_pos (by omega), if_pos (by omega), if_pos (by omega), hr, if_pos (by omega), if_pos c1, if_pos c2, if_pos c1, if_pos c3', hk, if_pos (by omega), if_pos (by omega), rd_nat]

/-- the first spy, at i0 -/
theorem seen_at (w : List Int) (s : List Bool) (hw : w.length ≤ 1000) (i0 : Nat) (h1 : 1 ≤ i0) (h2 : i0 < w.length) (hs : spyB s (w.getD i0 0)) (d : Nat) :
    ∀ (k i : Nat), i ≤ i0 → i0 - i = d → d < k → (∀ j, 1 ≤ j → i ≤ j → j < i0 → ¬ spyB s (w.getD j 0)) →
      relay_Seen.l0 k w s w (w.length : Int) (i : Int) = some ((i0 : Int), w.getD (i0 - 1) 0) := by
  induction d with
  | zero =>
    intro k i hi hd hk _
    obtain ⟨k, rfl⟩ : ∃ m, k = m + 1 := ⟨k - 1, by omega⟩
    obtain rfl : i = i0 := by omega
    exact seen_step_yes k w s i h1 h2 hw hs
  | succ d ih =>
    intro k i hi hd hk hn
    obtain ⟨k, rfl⟩ : ∃ m, k = m + 1 := ⟨k - 1, by omega⟩
    rw [seen_step_no k w s i (by omega) hw (by
      by_cases e : i = 0
      · exact .inl e
      · exact .inr (hn i (by omega) (by omega) (by omega)))]
    exact ih k (i + 1) (by omega) (by omega) (by omega) (fun j a b c => hn j a (by omega) c)

theorem seen_none (w : List Int) (s : List Bool) (hw : w.length ≤ 1000) (d : Nat) :
    ∀ (k i : Nat), i ≤ w.length → w.length - i = d → d < k → (∀ j, 1 ≤ j → i ≤ j → j < w.length → ¬ spyB s (w.getD j 0)) →
      relay_Seen.l0 k w s w (w.length : Int) (i : Int) = some (-1, -1) := by
  induction d with
  | zero =>
    intro k i hi hd hk _
    obtain ⟨k, rfl⟩ : ∃ m, k = m + 1 := ⟨k - 1, by omega⟩
    simp only [relay_Seen.l0]; rw [if_neg (by omega)]
  | succ d ih =>
    intro k i hi hd hk hn
    obtain ⟨k, rfl⟩ : ∃ m, k = m + 1 := ⟨k - 1, by omega⟩
    rw [seen_step_no k w s i (by omega) hw (by
      by_cases e : i = 0
      · exact .inl e
      · exact .inr (hn i (by omega) (by omega) (by omega)))]
    exact ih k (i + 1) (by omega) (by omega) (by omega) (fun j a b c => hn j a (by omega) c)

/-- the least place of a spy, or none -/
theorem first_spy (w : List Int) (s : List Bool) (n : Nat) : (∃ i0, 1 ≤ i0 ∧ i0 < n ∧ spyB s (w.getD i0 0) ∧ ∀ j, 1 ≤ j → j < i0 → ¬ spyB s (w.getD j 0)) ∨ (∀ j, 1 ≤ j → j < n → ¬ spyB s (w.getD j 0)) := by
  induction n with
  | zero => right; intro j _ h; omega
  | succ n ih =>
    rcases ih with ⟨i0, a, b, c, d⟩ | h
    · exact .inl ⟨i0, a, by omega, c, d⟩
    · by_cases e : 1 ≤ n ∧ spyB s (w.getD n 0)
      · exact .inl ⟨n, e.1, by omega, e.2, fun j a b => h j a b⟩
      · right
        intro j a b hs
        by_cases g : j = n
        · subst g; exact e ⟨a, hs⟩
        · exact h j a (by omega) hs

theorem seen_f_at (w : List Int) (s : List Bool) (hw : w.length ≤ 1000) (i0 : Nat) (h1 : 1 ≤ i0) (h2 : i0 < w.length) (hs : spyB s (w.getD i0 0)) (hn : ∀ j, 1 ≤ j → j < i0 → ¬ spyB s (w.getD j 0)) (k : Nat) (hk : 1001 ≤ k) :
    relay_Seen.f k w s = some ((i0 : Int), w.getD (i0 - 1) 0) := by
  unfold relay_Seen.f
  exact seen_at w s hw i0 h1 h2 hs i0 k 0 (by omega) (by omega) (by omega) (fun j a _ c => hn j a c)
theorem seen_f_none (w : List Int) (s : List Bool) (hw : w.length ≤ 1000) (hn : ∀ j, 1 ≤ j → j < w.length → ¬ spyB s (w.getD j 0)) (k : Nat) (hk : 1001 ≤ k) :
    relay_Seen.f k w s = some (-1, -1) := by
  unfold relay_Seen.f
  exact seen_none w s hw w.length k 0 (by omega) (by omega) (by omega) (fun j a _ c => hn j a c)

/-! the deck -/
theorem mod_some (a n : Int) (h1 : 1 ≤ n) (h2 : n ≤ 1000000) : ∃ v, lightclientmill_Mod.f a n = some v ∧ 0 ≤ v ∧ v < n := by
  have ha := Int.tmod_lt_of_pos a (show 0 < n by omega)
  have hb := Int.lt_tmod_of_pos a (show 0 < n by omega)
  unfold lightclientmill_Mod.f
  rw [if_neg (by omega)]
  by_cases c : Int.tmod a n < 0
  · rw [if_pos c]
    have : wrap64 (Int.tmod a n + n) = Int.tmod a n + n := by unfold wrap64; omega
    rw [this]
    exact ⟨_, rfl, by omega, by omega⟩
  · rw [if_neg c]; exact ⟨_, rfl, by omega, by omega⟩

theorem next_some (xs : List Int) (p : Int) (hp : 0 ≤ p) (hq : p ≤ (xs.length : Int)) (hl : xs.length ≤ 140737488351232) (n : Int) (h1 : 1 ≤ n) (h2 : n ≤ 1000000) :
    ∃ v q, lightclientmill_Deck_Next.f xs p n = some (v, q) ∧ 0 ≤ v ∧ v < n ∧ 0 ≤ q ∧ q ≤ (xs.length : Int) := by
  unfold lightclientmill_Deck_Next.f lightclientmill_Deck_Left.f
  simp only [Option.bind_some]
  by_cases c : p < (xs.length : Int)
  · rw [if_pos (by simp [c]), w1 hp (by omega), show wrap64 (p + 1 - 1) = p by unfold wrap64; omega, if_pos hp, if_pos c]
    obtain ⟨v, hv, a, b⟩ := mod_some (rd xs p) n h1 h2
    rw [hv]
    exact ⟨v, p + 1, rfl, a, b, by omega, by omega⟩
  · rw [if_neg (by simp [c])]
    exact ⟨0, p, rfl, by omega, by omega, hp, hq⟩

theorem range_some (xs : List Int) (p : Int) (hp : 0 ≤ p) (hq : p ≤ (xs.length : Int)) (hl : xs.length ≤ 140737488351232) (a b : Int) (h0 : 0 ≤ a) (h1 : a ≤ b) (h2 : b ≤ 10000) :
    ∃ v q, lightclientmill_Deck_Range.f xs p a b = some (v, q) ∧ a ≤ v ∧ v ≤ b ∧ 0 ≤ q ∧ q ≤ (xs.length : Int) := by
  unfold lightclientmill_Deck_Range.f
  have e1 : wrap64 (wrap64 (b - a) + 1) = b - a + 1 := by unfold wrap64; omega
  rw [e1]
  obtain ⟨v, q, h, c, d, e, f⟩ := next_some xs p hp hq hl (b - a + 1) (by omega) (by omega)
  rw [h]
  have e2 : wrap64 (a + v) = a + v := by unfold wrap64; omega
  simp only [Option.bind_some, e2]
  exact ⟨a + v, q, rfl, by omega, by omega, e, f⟩

theorem graph_l0 (xs : List Int) (hl : xs.length ≤ 140737488351232) (n : Int) (hn0 : 0 ≤ n) (hn : n ≤ 8) (d : Nat) : ∀ (k : Nat) (r : List Int) (f s : List Bool) (i p : Int),
    0 ≤ i → i ≤ n → n - i = d → d < k → (r.length : Int) = i → (f.length : Int) = i → (s.length : Int) = i → 0 ≤ p → p ≤ (xs.length : Int) →
    ∃ r' f' s', lightclientlaw40_graph.l0 k n r f s i xs p = some (r', f', s') ∧ (r'.length : Int) = n ∧ (f'.length : Int) = n ∧ (s'.length : Int) = n := by
  induction d with
  | zero =>
    intro k r f s i p h0 h1 hd hk hr hf hs hp hq
    obtain ⟨k, rfl⟩ : ∃ m, k = m + 1 := ⟨k - 1, by omega⟩
    refine ⟨r, f, s, ?_, by omega, by omega, by omega⟩
    simp only [lightclientlaw40_graph.l0]; rw [if_neg (by omega)]
  | succ d ih =>
    intro k r f s i p h0 h1 hd hk hr hf hs hp hq
    obtain ⟨k, rfl⟩ : ∃ m, k = m + 1 := ⟨k - 1, by omega⟩
    obtain ⟨v1, q1, e1, _, _, p1, p1'⟩ := next_some xs p hp hq hl (n + 1) (by omega) (by omega)
    obtain ⟨v2, q2, e2, _, _, p2, p2'⟩ := next_some xs q1 p1 p1' hl 4 (by omega) (by omega)
    obtain ⟨v3, q3, e3, _, _, p3, p3'⟩ := next_some xs q2 p2 p2' hl 3 (by omega) (by omega)
    simp only [lightclientlaw40_graph.l0]
    rw [if_pos (by omega), w1 hn0 (by omega), e1]
    simp only [Option.bind_some]
    rw [if_pos (by omega), e2]
    simp only [Option.bind_some]
    rw [if_pos (by omega), e3]
    simp only [Option.bind_some]
    rw [if_pos (by omega), w1 h0 (by omega)]
    exact ih k _ _ _ (i + 1) q3 (by omega) (by omega) (by omega) (by omega) (by simp; omega) (by simp; omega) (by simp; omega) p3 p3'

theorem graph_some (xs : List Int) (hl : xs.length ≤ 140737488351232) (k : Nat) (hk : 20 ≤ k) :
    ∃ r f s, lightclientlaw40_graph.f k xs = some (r, f, s) ∧ 1 ≤ r.length ∧ r.length ≤ 8 ∧ f.length = r.length ∧ s.length = r.length := by
  unfold lightclientlaw40_graph.f lightclientmill_New.f
  simp only [Option.bind_some]
  obtain ⟨v, q, e, a, b, c, d⟩ := range_some xs 0 (by omega) (by omega) hl 1 8 (by omega) (by omega) (by omega)
  rw [e]
  simp only [Option.bind_some]
  obtain ⟨r, f, s, h, h1, h2, h3⟩ := graph_l0 xs hl v (by omega) (by omega) v.toNat k [] [] [] 0 q (by omega) (by omega) (by omega) (by omega) (by simp) (by simp) (by simp) c d
  exact ⟨r, f, s, h, by omega, by omega, by omega, by omega⟩

theorem sane_some (k : Nat) (hk : 2000 ≤ k) : lightclientlaw40_sane.f k = some true := by
  have h : lightclientlaw40_sane.f 40 = some true := by decide +kernel
  exact at_rounds lightclientlaw40_sane.mono (by omega) h

/-! the way from a later node is the rest of the way -/
theorem sub_walk (r : List Int) (f : List Bool) (w : List Int) (h : PathOk r f w) (i0 : Nat) (hi : i0 < w.length) (k : Nat) (e : Nat) :
    ∀ (d j : Nat), k + j ≤ i0 → i0 - (k + j) = e → e < d →
      ∃ t, W r f d ((w.drop k).take j) (w.getD (k + j) 0) = (w.drop k).take (i0 - k + 1) ++ t := by
  induction e with
  | zero =>
    intro d j hj he hd
    obtain ⟨d, rfl⟩ : ∃ m, d = m + 1 := ⟨d - 1, by omega⟩
    have hkj : k + j < w.length := by omega
    have hx : w.getD (k + j) 0 = w[k + j] := by simp [hkj]
    have hr := h.range w[k + j] (List.getElem_mem hkj)
    have hnot : w[k + j] ∉ (w.drop k).take j := by
      intro hm
      obtain ⟨q, hq, hqe⟩ := List.mem_iff_getElem.1 hm
      simp at hq hqe
      have := nodup_inj h.nodup (i := k + q) (j := k + j) (by omega) hkj hqe
      omega
    have htk : (w.drop k).take j ++ [w[k + j]] = (w.drop k).take (j + 1) := by
      rw [List.take_succ_eq_append_getElem (by simp; omega)]; simp
    have hji : j + 1 = i0 - k + 1 := by omega
    rw [hx]
    simp only [W]
    rw [if_pos ⟨hr.1, hr.2, hnot⟩, htk, hji]
    by_cases b : f.getD w[k + j].toNat false = true ∧ 1 ≤ ((w.drop k).take j).length
    · rw [if_pos b]; exact ⟨[], by simp⟩
    · rw [if_neg b]
      exact W_prefix r f d _ _
  | succ e ih =>
    intro d j hj he hd
    obtain ⟨d, rfl⟩ : ∃ m, d = m + 1 := ⟨d - 1, by omega⟩
    have hkj : k + j < w.length := by omega
    have hx : w.getD (k + j) 0 = w[k + j] := by simp [hkj]
    have hr := h.range w[k + j] (List.getElem_mem hkj)
    have hnot : w[k + j] ∉ (w.drop k).take j := by
      intro hm
      obtain ⟨q, hq, hqe⟩ := List.mem_iff_getElem.1 hm
      simp at hq hqe
      have := nodup_inj h.nodup (i := k + q) (j := k + j) (by omega) hkj hqe
      omega
    have htk : (w.drop k).take j ++ [w[k + j]] = (w.drop k).take (j + 1) := by
      rw [List.take_succ_eq_append_getElem (by simp; omega)]; simp
    have hch := h.chain (k + j) (by omega)
    have hq : ¬ (f.getD w[k + j].toNat false = true ∧ 1 ≤ ((w.drop k).take j).length) := by
      intro ⟨b1, b2⟩
      simp at b2
      have := h.quiet (k + j) (by omega) (by omega)
      rw [hx, b1] at this
      exact Bool.noConfusion this
    obtain ⟨t, ht⟩ := ih d (j + 1) (by omega) (by omega) (by omega)
    refine ⟨t, ?_⟩
    rw [hx] at hch ⊢
    simp only [W]
    rw [if_pos ⟨hr.1, hr.2, hnot⟩, htk, if_neg hq, ← hch]
    exact ht

theorem sub_walk0 (r : List Int) (f : List Bool) (w : List Int) (h : PathOk r f w) (i0 : Nat) (hi : i0 < w.length) (k : Nat) (hk : k ≤ i0) :
    ∃ t, W r f (r.length + 1) [] (w.getD k 0) = (w.drop k).take (i0 - k + 1) ++ t := by
  have hp := pigeon r.length w h.nodup h.range
  have := sub_walk r f w h i0 hi k (i0 - k) (r.length + 1) 0 (by omega) (by omega) (by omega)
  simpa using this

theorem hides_l0 (r : List Int) (f s : List Bool) (hl : f.length = r.length) (hn : r.length ≤ 64) (w : List Int) (h : PathOk r f w) (i0 : Nat) (h1 : 1 ≤ i0) (h2 : i0 < w.length)
    (hs : spyB s (w.getD i0 0)) (hno : ∀ j, 1 ≤ j → j < i0 → ¬ spyB s (w.getD j 0)) (d : Nat) : ∀ (k j : Nat), j ≤ i0 → i0 - j = d → d + 2000 ≤ k →
    lightclientlaw40_RelayHides.l0 k r f s w (i0 : Int) (w.getD (i0 - 1) 0) (j : Int) = some true := by
  have hp := pigeon r.length w h.nodup h.range
  induction d with
  | zero =>
    intro k j hj hd hk
    obtain ⟨k, rfl⟩ : ∃ m, k = m + 1 := ⟨k - 1, by omega⟩
    simp only [lightclientlaw40_RelayHides.l0]; rw [if_neg (by omega)]
  | succ d ih =>
    intro k j hj hd hk
    obtain ⟨k, rfl⟩ : ∃ m, k = m + 1 := ⟨k - 1, by omega⟩
    have hjw : j < w.length := by omega
    have hxj : w.getD j 0 = w[j] := by simp [hjw]
    have hr := h.range w[j] (List.getElem_mem hjw)
    obtain ⟨t, ht⟩ := sub_walk0 r f w h i0 h2 j (by omega)
    have hW := walk_f r f hl hn (w.getD j 0) (by rw [hxj]; exact hr.1) (by rw [hxj]; exact hr.2) k (by omega)
    rw [ht] at hW
    have hvok := W_ok0 r f (r.length + 1) (w.getD j 0)
    rw [ht] at hvok
    obtain ⟨v, hv⟩ : ∃ v, v = (w.drop j).take (i0 - j + 1) ++ t := ⟨_, rfl⟩
    rw [← hv] at hW hvok
    have hvl : v.length ≤ r.length := pigeon r.length v hvok.nodup hvok.range
    have hlen : i0 - j + 1 ≤ v.length := by rw [hv]; simp; omega
    have hg : ∀ m, m ≤ i0 - j → v.getD m 0 = w.getD (j + m) 0 := by
      intro m hm
      rw [hv, getD_left _ _ _ (by simp; omega)]
      simp only [List.getD_eq_getElem?_getD]
      rw [List.getElem?_take, if_pos (by omega), List.getElem?_drop]
    have hS := seen_f_at v s (by omega) (i0 - j) (by omega) (by omega) (by rw [hg _ (by omega), show j + (i0 - j) = i0 by omega]; exact hs) (fun m a b => by
      rw [hg m (by omega)]; exact hno (j + m) (by omega) (by omega)) k (by omega)
    have hrd : rd w (j : Int) = w.getD j 0 := rd_nat w j
    have e1 : wrap64 ((i0 : Int) - (j : Int)) = ((i0 - j : Nat) : Int) := by unfold wrap64; omega
    have e2 : v.getD (i0 - j - 1) 0 = w.getD (i0 - 1) 0 := by rw [hg _ (by omega), show j + (i0 - j - 1) = i0 - 1 by omega]
    have e3 : rd v ((i0 - j : Nat) : Int) = rd w (i0 : Int) := by rw [rd_nat, rd_nat, hg _ (by omega), show j + (i0 - j) = i0 by omega]
    simp only [lightclientlaw40_RelayHides.l0]
    rw [if_pos (by omega), if_pos (by omega), if_pos (by omega), hrd, hW]
    simp only [Option.bind_some]
    rw [hS]
    simp only [Option.bind_some]
    rw [e1, if_pos rfl, if_pos e2, if_pos (by omega), if_pos (by omega), if_pos (by omega), if_pos (by omega), if_pos e3, w1 (by omega) (by omega)]
    exact ih k (j + 1) (by omega) (by omega) (by omega)

theorem RelayHides : lightclientlaw40_RelayHides.Pure := by
  intro l0 a1 _ hlen _ _
  refine ⟨5000, ?_⟩
  obtain ⟨r, f, s, hG, hn1, hn8, hf, hsl⟩ := graph_some l0 (by omega) 5000 (by omega)
  obtain ⟨o, hM, ho0, ho1⟩ := mod_some a1 (r.length : Int) (by omega) (by omega)
  have hW := walk_f r f hf (by omega) o ho0 ho1 5000 (by omega)
  have hok := W_ok0 r f (r.length + 1) o
  have hhead : ∃ t, W r f (r.length + 1) [] o = o :: t := by
    simp only [W]
    rw [if_pos ⟨ho0, ho1, by simp⟩, if_neg (by simp)]
    obtain ⟨t, ht⟩ := W_prefix r f r.length ([] ++ [o]) (rd r o)
    exact ⟨t, by rw [ht]; simp⟩
  obtain ⟨w, hw⟩ : ∃ w, w = W r f (r.length + 1) [] o := ⟨_, rfl⟩
  rw [← hw] at hW hok hhead
  have hp := pigeon r.length w hok.nodup hok.range
  unfold lightclientlaw40_RelayHides.f
  rw [sane_some 5000 (by omega)]
  simp only [Option.bind_some, if_true]
  rw [hG]
  simp only [Option.bind_some]
  rw [hM]
  simp only [Option.bind_some]
  rw [hW]
  simp only [Option.bind_some]
  rcases first_spy w s w.length with ⟨i0, h1, h2, hs, hno⟩ | hno
  · have hS := seen_f_at w s (by omega) i0 h1 h2 hs hno 5000 (by omega)
    rw [hS]
    simp only [Option.bind_some]
    have e1 : wrap64 ((i0 : Int) - 1) = ((i0 - 1 : Nat) : Int) := by rw [wm (by omega) (by omega)]; omega
    rw [if_neg (by omega), if_neg (by omega), if_neg (by omega), e1, if_pos (by omega), if_pos (by omega), rd_nat, if_pos rfl, if_pos (by omega), if_pos (by omega), rd_nat]
    obtain ⟨c1, c2, c3⟩ := hs
    have c3' : rdOf false s (w.getD i0 0) = true := c3
    rw [if_pos c1, if_pos c2, c3']
    have hL := hides_l0 r f s hf (by omega) w hok i0 h1 h2 ⟨c1, c2, c3⟩ hno i0 4999 0 (by omega) (by omega) (by omega)
    show lightclientlaw40_RelayHides.j0 (4999 + 1) r f s w (i0 : Int) (w.getD (i0 - 1) 0) false = some true
    simp only [lightclientlaw40_RelayHides.j0]
    rw [if_neg (by simp)]
    exact hL
  · have hS := seen_f_none w s (by omega) hno 5000 (by omega)
    rw [hS]
    simp only [Option.bind_some]
    obtain ⟨t, ht⟩ := hhead
    rw [if_pos (by omega), if_pos trivial, if_pos (by rw [ht]; simp), if_pos (by rw [ht]; simp), ht]
    simp [rd]

end Go.Proofs.Ytnhgfdinnbadeaa.Pure
