/- A law's arguments that are structs and rows of structs, opened. No conditions. -/
import Derived.Test.YtjjahfpamjmacaaV
import Derived.Deep.Slices
import Derived.ChangeArms
set_option linter.unusedVariables false
set_option linter.unusedSimpArgs false
namespace Go.Proofs.Ytjjahfpamjmacaa.G
open Go Go.RowKit Go.ChangeShapes Go.WideShapes
/-- Whatever a caller hands over at the type is some value's cells. -/
def OpensAs {α : Type} (P : Program) (p : Pl α) (t : TypeId) : Prop := P.cellsOf t = p.sz ∧
  ∀ (H : Type) (enc : TypeId × Value → H) (w : World) (base : Nat) (sp : Nat → Bool) (held : Bool) (fuel : Nat) (cs : List Value) (x : DataW H × List MemPlace), cs.length = p.sz → DataW.trod enc P w base sp held fuel t cs = some x → ∃ a, cs = p.enc a
theorem opens_int {P : Program} {t : TypeId} {k : IntKind} (hu : P.underlying t = some (.int k)) (hc : P.cellsOf t = 1) : OpensAs P (Pl.int k) t :=
  ⟨hc, fun H enc w base sp held fuel cs x hl h => by
    obtain ⟨n, rfl, _, _⟩ := DataW.trod_int hu h
    exact ⟨n, rfl⟩⟩
theorem opens_bool {P : Program} {t : TypeId} (hu : P.underlying t = some .bool) (hc : P.cellsOf t = 1) : OpensAs P Pl.bool t :=
  ⟨hc, fun H enc w base sp held fuel cs x hl h => by
    cases fuel with
    | zero => simp [DataW.trod] at h
    | succ q =>
      rw [DataW.trod_step] at h
      unfold DataW.trodStep at h
      simp only [hu] at h
      split at h <;> first | (cases h; done) | skip
      all_goals first | exact ⟨_, rfl⟩ | simp_all⟩
theorem opens_vec {P : Program} {t e : TypeId} {m : Nat} {k : IntKind} {hn : 0 < m} (hu : P.underlying t = some (.array m e)) (he : P.underlying e = some (.int k)) (hcT : P.cellsOf t = m) (hc : P.cellsOf e = 1) : OpensAs P (Pl.vec m k hn) t :=
  ⟨hcT, fun H enc w base sp held fuel cs x hl h => by
    have hl' : cs.length = m := hl
    obtain ⟨zs, hzs, _⟩ := trod_vec hu he hc hl' h
    have hlen : zs.length = m := by rw [← hl', hzs, List.length_map]
    exact ⟨⟨zs.toArray, by simpa using hlen⟩, hzs⟩⟩
section
variable {H : Type} {enc : TypeId × Value → H} {P : Program} {w : World} {base : Nat} {sp : Nat → Bool} {held : Bool}
theorem open_field {α : Type} {p : Pl α} {t : TypeId} {fs : Array Field} {fuel : Nat} {cs : List Value} {x : DataW H × List MemPlace} (hu : P.underlying t = some (.struct fs)) (h : DataW.trod enc P w base sp held fuel t cs = some x)
    (i : Nat) (f : Field) (hi : fs[i]? = some f) (po : OpensAs P p f.type) (hle : f.offset + p.sz ≤ cs.length) : ∃ a, (cs.drop f.offset).take p.sz = p.enc a := by
  obtain ⟨xs, n, _, _, _, hlen, hf⟩ := DataW.trod_struct hu h
  have h1 := hf i f hi
  have hx : i < xs.length := by
    have := (Array.getElem?_eq_some_iff.1 hi).1
    omega
  rw [List.getElem?_eq_getElem hx, po.1] at h1
  exact po.2 H enc w base sp held n _ _ (by rw [List.length_take, List.length_drop]; omega) h1
theorem cut (cs : List Value) (a b : Nat) : cs.drop a = (cs.drop a).take b ++ cs.drop (a + b) := by
  rw [← List.drop_drop, List.take_append_drop]
theorem At.flat_of {α : Type} {p : Pl α} {ad : Addr} : ∀ (xs : List α), (∀ i (hi : i < xs.length), At w (ad.add (i * p.sz)) (p.enc xs[i])) → At w ad (p.flat xs) := by
  intro xs
  induction xs generalizing ad with
  | nil => intro _ j v hv; simp [Pl.flat] at hv
  | cons x xs ih =>
    intro h j v hv
    rw [Pl.flat_cons] at hv
    by_cases hj : j < (p.enc x).length
    · rw [List.getElem?_append_left hj] at hv
      have h0 := h 0 (by simp) j v hv
      rw [Nat.zero_mul, add_zero] at h0
      exact h0
    · rw [List.getElem?_append_right (by omega), p.len] at hv
      have h1 := ih (ad := ad.add p.sz) (fun i hi => by
        have h2 := h (i + 1) (by simpa using hi)
        rw [add_add]
        have e : p.sz + i * p.sz = (i + 1) * p.sz := by rw [Nat.succ_mul]; omega
        rw [e]
        exact h2) (j - p.sz) v hv
      rw [add_add] at h1
      rw [p.len] at hj
      rw [show p.sz + (j - p.sz) = j by omega] at h1
      exact h1
theorem open_rows {α : Type} [Inhabited α] {p : Pl α} {t e : TypeId} {fuel : Nat} {A : Option Addr} {len cap : Nat} {x : DataW H × List MemPlace} (hu : P.underlying t = some (.slice e)) (po : OpensAs P p e)
    (h : DataW.trod enc P w base sp held fuel t [.slice A len cap] = some x) : ∃ xs : List α, xs.length = len ∧ Row p w A xs ∧ xs.length ≤ cap := by
  rcases Go.Deep.open_slice hu h with ⟨e0, _⟩ | ⟨a, l, c, m, n, D, Pp, e0, _, hl, _, hm, _, hel⟩
  · have e1 := (List.cons.inj e0).1
    obtain ⟨rfl, rfl, rfl⟩ := Value.slice.inj e1
    exact ⟨[], rfl, Row.nil _ _, Nat.le_refl _⟩
  · have e1 := (List.cons.inj e0).1
    obtain ⟨rfl, rfl, rfl⟩ := Value.slice.inj e1
    have hlm : len ≤ m := by rw [hm]; split <;> omega
    have hex : ∀ i, ∃ a' : α, i < len → At w (a.add (i * p.sz)) (p.enc a') := by
      intro i
      by_cases hi : i < len
      · obtain ⟨cs', h1, h2⟩ := hel i (by omega)
        rw [po.1] at h1
        obtain ⟨_, hlc, hcell⟩ := World.cells?_some h1
        obtain ⟨a', ea⟩ := po.2 H enc w base sp held n cs' _ hlc h2
        refine ⟨a', fun _ j v hv => ?_⟩
        rw [← ea] at hv
        have hj : j < p.sz := by rw [← hlc]; exact (List.getElem?_eq_some_iff.1 hv).1
        rw [hcell j hj, hv]
      · exact ⟨default, fun h => absurd h hi⟩
    obtain ⟨f, hf⟩ := Classical.axiomOfChoice hex
    refine ⟨(List.range len).map f, by simp, ⟨(fun e => by cases e), fun ad e => ?_⟩, by simpa using hl⟩
    cases e
    refine At.flat_of _ fun i hi => ?_
    have hi' : i < len := by simpa using hi
    have e2 : ((List.range len).map f)[i] = f i := by simp
    rw [e2]
    exact hf i hi'
end
end Go.Proofs.Ytjjahfpamjmacaa.G
