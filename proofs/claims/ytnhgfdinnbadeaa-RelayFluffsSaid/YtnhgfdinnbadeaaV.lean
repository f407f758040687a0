/- A law's arguments that are arrays of numbers, opened. No conditions. -/
import Derived.Test.YtnhgfdinnbadeaaD
import Derived.WideKeyArr2
import Derived.WalkKit
import Derived.ProofKit
import Derived.OpenShut
set_option linter.unusedVariables false
set_option linter.unusedSimpArgs false
namespace Go.Proofs.Ytnhgfdinnbadeaa.G
open Go Go.RowKit Go.ChangeShapes Go.WideShapes
theorem ints_of {k : IntKind} : ∀ (l : List Value), (∀ u ∈ l, ∃ z, u = Value.int k z ∧ (Lit.int k z).wf = true) → ∃ zs : List Int, l = zs.map (Value.int k) ∧ ∀ z ∈ zs, (Lit.int k z).wf = true
  | [], _ => ⟨[], rfl, by simp⟩
  | u :: l, h => by
    obtain ⟨z, rfl, hz⟩ := h u (by simp)
    obtain ⟨zs, rfl, hzs⟩ := ints_of l (fun v hv => h v (by simp [hv]))
    exact ⟨z :: zs, rfl, by simpa using ⟨hz, hzs⟩⟩
theorem trod_vec {H : Type} {enc : TypeId × Value → H} {P : Program} {W : World} {base : Nat} {sp : Nat → Bool} {held : Bool} {T e : TypeId} {m fuel : Nat} {k : IntKind} {cs : List Value} {x : DataW H × List MemPlace} (hu : P.underlying T = some (.array m e)) (he : P.underlying e = some (.int k)) (hc : P.cellsOf e = 1) (hl : cs.length = m) (hf : DataW.trod enc P W base sp held fuel T cs = some x) :
    ∃ zs : List Int, cs = zs.map (Value.int k) ∧ ∀ z ∈ zs, (Lit.int k z).wf = true := by
  cases fuel with
  | zero => simp [DataW.trod] at hf
  | succ q =>
    rw [DataW.trod_step] at hf
    unfold DataW.trodStep at hf
    simp only [hu] at hf
    split at hf
    · simp only [Option.map_eq_some_iff] at hf
      obtain ⟨ys, hy, _⟩ := hf
      refine ints_of cs fun u hu' => ?_
      obtain ⟨i, hi, rfl⟩ := List.getElem_of_mem hu'
      have hmem : ∀ (L : List Nat) (zs : List (DataW H × List MemPlace)), L.mapM (fun i => DataW.trod enc P W base sp held q e ((cs.drop (i * P.cellsOf e)).take (P.cellsOf e))) = some zs → ∀ j ∈ L, ∃ y, DataW.trod enc P W base sp held q e ((cs.drop (j * P.cellsOf e)).take (P.cellsOf e)) = some y := by
        intro L
        induction L with
        | nil => intro zs _ j hj; cases hj
        | cons a L ih =>
          intro zs h j hj
          rw [List.mapM_cons] at h
          simp only [bind, Option.bind_eq_some_iff, pure, Option.some.injEq] at h
          obtain ⟨y, hy, ys, hys, rfl⟩ := h
          rcases List.mem_cons.1 hj with rfl | hj
          · exact ⟨y, hy⟩
          · exact ih ys hys j hj
      obtain ⟨y, hy2⟩ := hmem _ ys hy i (List.mem_range.2 (by omega))
      obtain ⟨z, ez, _, wz⟩ := DataW.trod_int he hy2
      refine ⟨z, ?_, wz⟩
      rw [hc, Nat.mul_one] at ez
      have ez2 : (cs[i] :: cs.drop (i + 1)).take 1 = [Value.int k z] := by rw [← List.drop_eq_getElem_cons hi]; exact ez
      have ez3 : [cs[i]] = [Value.int k z] := ez2
      exact (List.cons.inj ez3).1
    · cases hf
theorem open_vec {H : Type} {enc : TypeId × Value → H} {P : Program} {W : World} {base b0 : Nat} {sp : Nat → Bool} {held : Bool} {r : Reach} {T e : TypeId} {m : Nat} {k : IntKind} {hn : 0 < m} {v : Value} {d : DataW H} {ps : List MemPlace} (hu : P.underlying T = some (.array m e)) (he : P.underlying e = some (.int k)) (hcT : (P.cellsOf T, P.cellsOf e) = (m, 1)) (hval : Value.okWide P W r b0 T v) (hd : DataW.Trod enc P W base sp held T v d ps) :
    ∃ x : Vector Int m, v = .agg ((Pl.vec m k hn).enc x).toArray ∧ ∀ z ∈ x.toList, (Lit.int k z).wf = true := by
  simp only [Prod.mk.injEq] at hcT
  simp only [Value.okWide, hu] at hval
  obtain ⟨cs, rfl, h2, _⟩ := hval
  obtain ⟨fuel, hf⟩ := hd
  have hl : cs.toList.length = m := by rw [Array.length_toList, h2, hcT.1]
  obtain ⟨zs, hzs, hwf⟩ := trod_vec hu he hcT.2 hl hf
  have hlen : zs.length = m := by rw [← hl, hzs, List.length_map]
  refine ⟨⟨zs.toArray, by simpa using hlen⟩, ?_, by simpa using hwf⟩
  congr 1
  apply Array.toList_inj.1
  rw [hzs]
  rfl
end Go.Proofs.Ytnhgfdinnbadeaa.G
