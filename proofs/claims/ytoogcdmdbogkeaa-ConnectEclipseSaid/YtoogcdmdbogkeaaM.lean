/- Memory told as one list: what a list of entries says of a world, and the steps that make or write memory. No conditions. -/
import Derived.Test.YtoogcdmdbogkeaaG
import Derived.Lib.ConvBytes
import Derived.Laws.BytesString
import Derived.LoopN
set_option linter.unusedVariables false
set_option linter.unusedSimpArgs false
set_option linter.unusedSectionVars false
namespace Go.Proofs.Ytoogcdmdbogkeaa.G
open Go Go.RowKit

/-! ## 20. Memory as one list -/
def Cold (fr : Nat × Nat) (sz : Nat) : Prop := ∀ o, o < sz → (decide (fr.1 ≤ o) && decide (o < fr.2)) = false
theorem cold0 (sz : Nat) : Cold (0, 0) sz := fun o _ => by simp
theorem cold_end (sz : Nat) : Cold (sz, sz + 1) sz := fun o h => by
  have : ¬ sz ≤ o := by omega
  simp [this]
/-- a slice's cells: those from the offset o on, n * sz of them -/
def RowOk (w : World) (e : TypeId) (sz : Nat) (v : Value) (cs : List Value) : Prop :=
  (v = .slice none 0 0 ∧ cs = []) ∨
  ∃ g o n cap cur fr, v = .slice (some ⟨g, o, none⟩) n cap ∧ w.heap[g]? = some (.cells cur e fr) ∧ Cold fr cur.size ∧ n ≤ cap ∧ cap ≤ maxLen ∧ o + cap * sz ≤ cur.size ∧ (cur.toList.drop o).take (n * sz) = cs
inductive Ent where
  | box (g : Nat) (T : TypeId) (cs : List Value)
  | row (e : TypeId) (sz : Nat) (v : Value) (cs : List Value)
  /-- a row of the call's own that is changed no more: it may be named more than once -/
  | fro (e : TypeId) (sz : Nat) (v : Value) (cs : List Value)
  | map (g : Nat) (es : List (Value × Value))
def Ent.key : Ent → Option Nat
  | .box g _ _ => some g
  | .row _ _ v _ => v.ownBlock
  | .fro _ _ v _ => v.ownBlock
  | .map g _ => some g
def Ent.isFro : Ent → Bool
  | .fro _ _ _ _ => true
  | _ => false
def Asun (x y : Ent) : Prop := (x.isFro = true ∧ y.isFro = true) ∨ ∀ k, x.key = some k → y.key ≠ some k
def Ent.ok (w : World) : Ent → Prop
  | .box g T cs => w.heap[g]? = some (.cells cs.toArray T (0, 0))
  | .row e sz v cs => RowOk w e sz v cs
  | .fro e sz v cs => RowOk w e sz v cs
  | .map g es => ∃ me clock, w.heap[g]? = some (.map me clock) ∧ me.toList.map (fun e => (e.key, e.val)) = es
inductive Put : List Ent → Ent → Ent → List Ent → Prop
  | z {x y : Ent} {M : List Ent} : Put (x :: M) x y (y :: M)
  | s {z x y : Ent} {M M' : List Ent} : Put M x y M' → Put (z :: M) x y (z :: M')
structure Mem (F : List (Option Nat)) (w0 w : World) (M : List Ent) : Prop where
  os : w.os = w0.os
  tape : w.tape = w0.tape
  output : w.output = w0.output
  size : w0.heap.size ≤ w.heap.size
  frame : ∀ b, b < w0.heap.size → some b ∉ F → w.heap[b]? = w0.heap[b]?
  ok : ∀ x ∈ M, x.ok w
  low : ∀ x ∈ M, ∀ k, x.key = some k → w0.heap.size ≤ k ∨ some k ∈ F
  apart : M.Pairwise Asun
variable {P : Program} {n : Nat} {E : Env} {a : Act} {w w' w0 : World} {ops : Array Oper} {Q : Exit → Act → World → Prop} {rest : List Oper} {C : Act → World → Prop} {F : List (Option Nat)} {M M' : List Ent} {x y : Ent}

theorem lt_of_some {w : World} {g : Nat} {o : Obj} (h : w.heap[g]? = some o) : g < w.heap.size := (Array.getElem?_eq_some_iff.1 h).1
theorem RowOk.lt {e sz v cs} (h : RowOk w e sz v cs) : ∀ k, v.ownBlock = some k → k < w.heap.size := fun k hk => by
  rcases h with ⟨rfl, _⟩ | ⟨g, o, q, cap, cur, fr, rfl, hg, _⟩
  · cases hk
  · cases hk; exact lt_of_some hg
theorem Ent.lt (h : x.ok w) : ∀ k, x.key = some k → k < w.heap.size := fun k hk => by
  cases x with
  | box g T cs => cases hk; exact lt_of_some h
  | row e sz v cs => exact RowOk.lt h k hk
  | fro e sz v cs => exact RowOk.lt h k hk
  | map g es => cases hk; obtain ⟨_, _, hg, _⟩ := h; exact lt_of_some hg
theorem RowOk.same {e sz v cs} (h : RowOk w e sz v cs) (hb : ∀ k, v.ownBlock = some k → w'.heap[k]? = w.heap[k]?) : RowOk w' e sz v cs := by
  rcases h with h | ⟨g, o, q, cap, cur, fr, rfl, hg, r⟩
  · exact .inl h
  · exact .inr ⟨g, o, q, cap, cur, fr, rfl, (hb g rfl).trans hg, r⟩
theorem Ent.same (h : x.ok w) (hb : ∀ k, x.key = some k → w'.heap[k]? = w.heap[k]?) : x.ok w' := by
  cases x with
  | box g T cs => exact (hb g rfl).trans h
  | row e sz v cs => exact RowOk.same h hb
  | fro e sz v cs => exact RowOk.same h hb
  | map g es => obtain ⟨me, c, hg, r⟩ := h; exact ⟨me, c, (hb g rfl).trans hg, r⟩
theorem apart_symm {u v : Option Nat} (h : ∀ k, u = some k → v ≠ some k) : ∀ k, v = some k → u ≠ some k := fun k h1 h2 => h k h2 h1

theorem Asun.symm {x y : Ent} (h : Asun x y) : Asun y x := h.elim (fun h => .inl ⟨h.2, h.1⟩) (fun h => .inr (apart_symm h))
theorem Asun.left {x y : Ent} (h : Asun x y) (hx : x.isFro = false) : ∀ k, x.key = some k → y.key ≠ some k := h.elim (fun h => by rw [hx] at h; cases h.1) (fun h => h)
theorem Asun.right {x y : Ent} (h : Asun x y) (hy : y.isFro = false) : ∀ k, x.key = some k → y.key ≠ some k := h.elim (fun h => by rw [hy] at h; cases h.2) (fun h => h)
theorem Mem.nil (w : World) : Mem [] w w [] := ⟨rfl, rfl, rfl, Nat.le_refl _, fun _ _ _ => rfl, by simp, by simp, .nil⟩
theorem Mem.ext (h : Mem F w0 w M) (hb : Below w.heap.size w w') : Mem F w0 w' M :=
  ⟨hb.os.trans h.os, hb.tape.trans h.tape, hb.output.trans h.output, Nat.le_trans h.size hb.size,
    fun b h1 h2 => (hb.block b (Nat.lt_of_lt_of_le h1 h.size)).trans (h.frame b h1 h2),
    fun x hx => Ent.same (h.ok x hx) fun k hk => hb.block k (Ent.lt (h.ok x hx) k hk), h.low, h.apart⟩
theorem Mem.new (h : Mem F w0 w M) (hb : Below w.heap.size w w') (hx : x.ok w') (hk : ∀ k, x.key = some k → w.heap.size ≤ k) : Mem F w0 w' (x :: M) := by
  have h' := h.ext hb
  refine ⟨h'.os, h'.tape, h'.output, h'.size, h'.frame, ?_, ?_, ?_⟩
  · intro y hy
    rcases List.mem_cons.1 hy with rfl | hy
    · exact hx
    · exact h'.ok y hy
  · intro y hy k hk'
    rcases List.mem_cons.1 hy with rfl | hy
    · exact .inl (Nat.le_trans h.size (hk k hk'))
    · exact h.low y hy k hk'
  · refine List.pairwise_cons.2 ⟨fun y hy => .inr fun k h1 h2 => ?_, h.apart⟩
    have h3 := Ent.lt (h.ok y hy) k h2
    have h4 := hk k h1
    omega
theorem Put.mem (h : Put M x y M') : x ∈ M := by
  induction h with
  | z => simp
  | s _ ih => simp [ih]
theorem Put.out {R : Ent → Ent → Prop} (hs : ∀ a b, R a b → R b a) (h : Put M x y M') (hp : M.Pairwise R) : ∀ z ∈ M', z = y ∨ (z ∈ M ∧ R x z) := by
  induction h with
  | @z x y M =>
    intro z hz
    rcases List.mem_cons.1 hz with rfl | hz
    · exact .inl rfl
    · exact .inr ⟨by simp [hz], (List.pairwise_cons.1 hp).1 z hz⟩
  | @s q x y M M' hput ih =>
    intro z hz
    rcases List.mem_cons.1 hz with rfl | hz
    · exact .inr ⟨by simp, hs _ _ ((List.pairwise_cons.1 hp).1 _ hput.mem)⟩
    · rcases ih (List.pairwise_cons.1 hp).2 z hz with h | ⟨h1, h2⟩
      · exact .inl h
      · exact .inr ⟨by simp [h1], h2⟩
theorem Put.pairwise {R : Ent → Ent → Prop} (hs : ∀ a b, R a b → R b a) (h : Put M x y M') (hp : M.Pairwise R) (hy : ∀ z ∈ M, R x z → R y z) : M'.Pairwise R := by
  induction h with
  | @z x y M =>
    refine List.pairwise_cons.2 ⟨fun z hz => hy z (by simp [hz]) ((List.pairwise_cons.1 hp).1 z hz), (List.pairwise_cons.1 hp).2⟩
  | @s q x y M M' hput ih =>
    have hp' := List.pairwise_cons.1 hp
    refine List.pairwise_cons.2 ⟨fun z hz => ?_, ih hp'.2 fun z hz => hy z (by simp [hz])⟩
    rcases hput.out hs hp'.2 z hz with rfl | ⟨h1, h2⟩
    · exact hs _ _ (hy q (by simp) (hs _ _ (hp'.1 _ hput.mem)))
    · exact hp'.1 z h1
theorem Mem.put (hp : Put M x y M') (h : Mem F w0 w M) (hg : w.grownBy w' x.key) (hy : y.ok w') (hk : y.key = x.key ∨ ∀ k, y.key = some k → w.heap.size ≤ k) (hxf : x.isFro = false := by rfl) : Mem F w0 w' M' := by
  have hs : ∀ a b : Ent, Asun a b → Asun b a := fun a b h => h.symm
  refine ⟨hg.os.trans h.os, hg.tape.trans h.tape, hg.output.trans h.output, Nat.le_trans h.size hg.size, ?_, ?_, ?_, ?_⟩
  · intro b h1 h2
    refine (hg.block b (Nat.lt_of_lt_of_le h1 h.size) fun e => ?_).trans (h.frame b h1 h2)
    rcases h.low x hp.mem b e.symm with h3 | h3
    · omega
    · exact h2 h3
  · intro z hz
    rcases hp.out hs h.apart z hz with rfl | ⟨h1, h2⟩
    · exact hy
    · exact Ent.same (h.ok z h1) fun k hk => hg.block k (Ent.lt (h.ok z h1) k hk) fun e => h2.left hxf k e.symm hk
  · intro z hz k hk'
    rcases hp.out hs h.apart z hz with rfl | ⟨h1, _⟩
    · rcases hk with hk | hk
      · exact h.low x hp.mem k (hk ▸ hk')
      · exact .inl (Nat.le_trans h.size (hk k hk'))
    · exact h.low z h1 k hk'
  · refine hp.pairwise hs h.apart fun z hz h1 => .inr fun k h2 => ?_
    rcases hk with hk | hk
    · exact h1.left hxf k (hk ▸ h2)
    · intro h3
      have := Ent.lt (h.ok z hz) k h3
      have := hk k h2
      omega
theorem Mem.get (h : Mem F w0 w M) (hp : Put M x x M) : x.ok w := h.ok x hp.mem
/-- an entry told in another way -/
theorem Mem.re (h : Mem F w0 w M) (hp : Put M x y M') (hy : x.ok w → y.ok w) (hk : y.key = x.key) (hxf : x.isFro = false := by rfl) : Mem F w0 w M' :=
  h.put hp ⟨rfl, rfl, rfl, Nat.le_refl _, fun _ _ _ => rfl⟩ (hy (h.ok x hp.mem)) (.inl hk) hxf
/-- a row that is changed no more -/
theorem Mem.freeze {e : TypeId} {sz : Nat} {v : Value} {cs : List Value} (h : Mem F w0 w M) (hp : Put M (.row e sz v cs) (.fro e sz v cs) M') : Mem F w0 w M' := h.re hp (fun h => h) rfl
/-- .. named once more -/
theorem Mem.dup {e : TypeId} {sz : Nat} {v : Value} {cs : List Value} (h : Mem F w0 w M) (hp : Put M (.fro e sz v cs) (.fro e sz v cs) M) : Mem F w0 w (.fro e sz v cs :: M) := by
  refine ⟨h.os, h.tape, h.output, h.size, h.frame, ?_, ?_, List.pairwise_cons.2 ⟨fun z hz => ?_, h.apart⟩⟩
  · intro z hz
    rcases List.mem_cons.1 hz with rfl | hz
    · exact h.ok _ hp.mem
    · exact h.ok z hz
  · intro z hz
    rcases List.mem_cons.1 hz with rfl | hz
    · exact h.low _ hp.mem
    · exact h.low z hz
  · cases hzf : z.isFro with
    | true => exact .inl ⟨rfl, hzf⟩
    | false =>
      have hne : ∀ (L : List Ent), L.Pairwise Asun → (Ent.fro e sz v cs) ∈ L → z ∈ L → Asun (.fro e sz v cs) z := by
        intro L
        induction L with
        | nil => intro _ h; cases h
        | cons q L ih =>
          intro hp h1 h2
          have hp' := List.pairwise_cons.1 hp
          rcases List.mem_cons.1 h1 with rfl | h3
          · rcases List.mem_cons.1 h2 with rfl | h2
            · exact .inl ⟨rfl, rfl⟩
            · exact hp'.1 z h2
          · rcases List.mem_cons.1 h2 with h4 | h2
            · rw [h4]; exact (hp'.1 _ h3).symm
            · exact ih hp'.2 h3 h2
      exact hne M h.apart hp.mem hz
def selE (M : List Ent) : List Nat → Option (List Ent)
  | [] => some []
  | i :: r => match M[i]?, selE M r with
    | some x, some l => some (x :: l)
    | _, _ => none
theorem selE_get : ∀ (is : List Nat) (M' : List Ent), selE M is = some M' → M'.length = is.length ∧ ∀ j (h : j < M'.length) (h' : j < is.length), M[is[j]]? = some M'[j]
  | [], M', h => by cases h; exact ⟨rfl, fun j h => by simp at h⟩
  | i :: r, M', h => by
    simp only [selE] at h
    cases hx : M[i]? with
    | none => rw [hx] at h; cases h
    | some x =>
      cases hl : selE M r with
      | none => rw [hx, hl] at h; cases h
      | some l =>
        rw [hx, hl] at h
        cases h
        obtain ⟨h1, h2⟩ := selE_get r l hl
        refine ⟨by simp [h1], fun j h h' => ?_⟩
        cases j with
        | zero => simpa using hx
        | succ j => simpa using h2 j (by simpa using h) (by simpa using h')
/-- entries in another order; some are let go -/
theorem Mem.sel (h : Mem F w0 w M) (is : List Nat) (hs : selE M is = some M') (hn : is.Nodup) : Mem F w0 w M' := by
  obtain ⟨hl, hg⟩ := selE_get is M' hs
  have hmem : ∀ x ∈ M', x ∈ M := fun x hx => by
    obtain ⟨j, hj, rfl⟩ := List.getElem_of_mem hx
    exact List.mem_of_getElem? (hg j hj (hl ▸ hj))
  refine ⟨h.os, h.tape, h.output, h.size, h.frame, fun x hx => h.ok x (hmem x hx), fun x hx => h.low x (hmem x hx), ?_⟩
  refine List.pairwise_iff_getElem.2 fun i j hi hj hij => ?_
  have e1 := hg i hi (hl ▸ hi)
  have e2 := hg j hj (hl ▸ hj)
  have hne : is[i]'(hl ▸ hi) ≠ is[j]'(hl ▸ hj) := List.pairwise_iff_getElem.1 hn i j (hl ▸ hi) (hl ▸ hj) hij
  obtain ⟨l1, e1⟩ := List.getElem?_eq_some_iff.1 e1
  obtain ⟨l2, e2⟩ := List.getElem?_eq_some_iff.1 e2
  have hp := List.pairwise_iff_getElem.1 h.apart
  rcases Nat.lt_or_gt_of_ne hne with hlt | hlt
  · have := hp _ _ l1 l2 hlt
    rw [e1, e2] at this
    exact this
  · have := hp _ _ l2 l1 hlt
    rw [e1, e2] at this
    exact this.symm
/-- what is handed to a call -/
theorem Mem.self (h : Mem F w0 w M) : Mem (M.map Ent.key) w w M :=
  ⟨rfl, rfl, rfl, Nat.le_refl _, fun _ _ _ => rfl, h.ok, fun x hx k hk => .inr (List.mem_map.2 ⟨x, hx, hk⟩), h.apart⟩
/-- behind a call that was handed Ms and left M' -/
theorem Mem.call {Ms R : List Ent} (h : Mem F w0 w (Ms ++ R)) (h' : Mem (Ms.map Ent.key) w w' M') (hms : Ms.all (fun x => !x.isFro) = true := by rfl) : Mem F w0 w' (M' ++ R) := by
  have hmf : ∀ y ∈ Ms, y.isFro = false := fun y hy => by simpa using List.all_eq_true.1 hms y hy
  have hR : ∀ x ∈ R, ∀ k, x.key = some k → some k ∉ Ms.map Ent.key := fun x hx k hk hm => by
    obtain ⟨y, hy, e⟩ := List.mem_map.1 hm
    exact ((List.pairwise_append.1 h.apart).2.2 y hy x hx).left (hmf y hy) k e hk
  have hlow : ∀ k, some k ∈ Ms.map Ent.key → w0.heap.size ≤ k ∨ some k ∈ F := fun k hm => by
    obtain ⟨y, hy, e⟩ := List.mem_map.1 hm
    exact h.low y (by simp [hy]) k e
  refine ⟨h'.os.trans h.os, h'.tape.trans h.tape, h'.output.trans h.output, Nat.le_trans h.size h'.size, ?_, ?_, ?_, ?_⟩
  · intro b h1 h2
    refine (h'.frame b (Nat.lt_of_lt_of_le h1 h.size) fun hm => ?_).trans (h.frame b h1 h2)
    rcases hlow b hm with h3 | h3
    · omega
    · exact h2 h3
  · intro x hx
    rcases List.mem_append.1 hx with hx | hx
    · exact h'.ok x hx
    · have hok := h.ok x (by simp [hx])
      exact Ent.same hok fun k hk => h'.frame k (Ent.lt hok k hk) (hR x hx k hk)
  · intro x hx k hk
    rcases List.mem_append.1 hx with hx | hx
    · rcases h'.low x hx k hk with h3 | h3
      · exact .inl (Nat.le_trans h.size h3)
      · exact hlow k h3
    · exact h.low x (by simp [hx]) k hk
  · refine List.pairwise_append.2 ⟨h'.apart, (List.pairwise_append.1 h.apart).2.1, fun x hx y hy => .inr fun k h1 h2 => ?_⟩
    rcases h'.low x hx k h1 with h3 | h3
    · have := Ent.lt (h.ok y (by simp [hy])) k h2
      omega
    · exact hR y hy k h2 h3
theorem Mem.below (h : Mem [] w0 w M) : Below w0.heap.size w0 w := ⟨h.os, h.tape, h.output, h.size, fun k hk => h.frame k hk (by simp)⟩
theorem Mem.addnil (h : Mem F w0 w M) (e : TypeId) (sz : Nat) : Mem F w0 w (.row e sz (.slice none 0 0) [] :: M) :=
  h.new (Below.refl _ _) (x := .row e sz (.slice none 0 0) []) (.inl ⟨rfl, rfl⟩) (fun _ hk => by cases hk)

/-! ## 21. Slices that are only read -/
section
variable {α : Type} {p : Pl α} {A : Option Addr} {xs : List α}
def Ro (F : List (Option Nat)) (p : Pl α) (w : World) (A : Option Addr) (xs : List α) : Prop := Row p w A xs ∧ ∀ ad, A = some ad → xs = [] ∨ some ad.block ∉ F
theorem Ro.of (h : Row p w A xs) : Ro [] p w A xs := ⟨h, fun _ _ => .inr (by simp)⟩
theorem Row.notmt (h : Row p w A xs) (hne : xs ≠ []) : ∃ ad, A = some ad ∧ ad.block < w.heap.size := by
  cases A with
  | none => exact absurd (h.1 rfl) hne
  | some ad =>
    refine ⟨ad, rfl, ?_⟩
    cases xs with
    | nil => exact absurd rfl hne
    | cons x xs =>
      have hp := p.pos
      have hl := p.len x
      have h1 := h.2 ad rfl 0 ((p.flat (x :: xs))[0]'(by rw [p.flat_len]; simp; omega)) (List.getElem?_eq_getElem _)
      exact World.block_lt_of_cell? w _ h1
theorem Row.same (h : Row p w A xs) (hb : ∀ ad, A = some ad → xs ≠ [] → w'.heap[ad.block]? = w.heap[ad.block]?) : Row p w' A xs := by
  refine ⟨h.1, fun ad e j v hv => ?_⟩
  have hne : xs ≠ [] := fun e => by subst e; simp [Pl.flat] at hv
  have h1 := h.2 ad e j v hv
  have h3 : (ad.add j).block = ad.block := by unfold Addr.add; split <;> rfl
  have h4 : w'.heap[(ad.add j).block]? = w.heap[(ad.add j).block]? := by rw [h3]; exact hb ad e hne
  rw [World.cell?_of_block h4]
  exact h1
theorem Mem.ro (hM : Mem F w0 w M) (h : Ro F p w0 A xs) : Row p w A xs :=
  h.1.same fun ad e hne => by
    obtain ⟨ad', e', hlt⟩ := h.1.notmt hne
    rw [e] at e'
    cases e'
    rcases h.2 ad e with h2 | h2
    · exact absurd h2 hne
    · exact hM.frame _ hlt h2
/-- handed to a call that is handed Ms -/
theorem Mem.roC {Ms R : List Ent} (hM : Mem F w0 w (Ms ++ R)) (h : Ro F p w0 A xs) : Ro (Ms.map Ent.key) p w A xs := by
  refine ⟨hM.ro h, fun ad e => ?_⟩
  by_cases hne : xs = []
  · exact .inl hne
  · refine .inr fun hm => ?_
    obtain ⟨ad', e', hlt⟩ := h.1.notmt hne
    rw [e] at e'
    cases e'
    obtain ⟨y, hy, ek⟩ := List.mem_map.1 hm
    rcases h.2 ad e with h2 | h2
    · exact hne h2
    · rcases hM.low y (by simp [hy]) _ ek with h3 | h3
      · omega
      · exact h2 h3
theorem flat_inj_len {p : Pl α} {xs : List α} {n : Nat} (h : (p.flat xs).length = n * p.sz) : xs.length = n := by
  rw [p.flat_len] at h
  exact Nat.eq_of_mul_eq_mul_right p.pos h
variable {e : TypeId} {v : Value} {q c : Nat}
theorem RowOk.length {sz : Nat} {cs : List Value} (h : RowOk w e sz (.slice A q c) cs) : cs.length = q * sz := by
  rcases h with ⟨h1, h2⟩ | ⟨g, o, n, cap, cur, fr, h1, hg, hc, hn, hm, hs, ht⟩
  · cases h1; subst h2; simp
  · injection h1 with e1 e2 e3
    subst e2; subst e3
    have : q * sz ≤ c * sz := Nat.mul_le_mul_right _ hn
    rw [← ht, List.length_take, List.length_drop, Array.length_toList]
    omega
theorem RowOk.len (h : RowOk w e p.sz (.slice A q c) (p.flat xs)) : xs.length = q := flat_inj_len (p := p) h.length
theorem RowOk.cap {sz : Nat} {cs : List Value} (h : RowOk w e sz (.slice A q c) cs) : q ≤ c := by
  rcases h with ⟨h1, h2⟩ | ⟨g, o, n, cap, cur, fr, h1, hg, hc, hn, hm, hs, ht⟩
  · cases h1; exact Nat.le_refl _
  · injection h1 with e1 e2 e3
    omega
theorem RowOk.form (h : RowOk w e p.sz v (p.flat xs)) : ∃ A c, v = .slice A xs.length c := by
  have hh := h
  rcases h with ⟨rfl, h2⟩ | ⟨g, o, n, cap, cur, fr, rfl, hg, hc, hn, hm, hs, ht⟩
  · exact ⟨none, 0, by rw [hh.len]⟩
  · exact ⟨_, _, by rw [hh.len]⟩
theorem RowOk.row (h : RowOk w e p.sz (.slice A q c) (p.flat xs)) : Row p w A xs := by
  have hh := h
  rcases h with ⟨h1, h2⟩ | ⟨g, o, n, cap, cur, fr, h1, hg, hc, hn, hm, hs, ht⟩
  · cases h1
    have := hh.len
    have : xs = [] := List.eq_nil_of_length_eq_zero (by omega)
    subst this
    exact Row.nil p w
  · injection h1 with e1 e2 e3
    subst e1
    refine ⟨(fun e => by cases e), fun ad e j u hu => ?_⟩
    cases e
    rw [add_mk, cell_of_row w g (o + j) cur _ fr hg]
    rw [← ht, List.getElem?_take] at hu
    split at hu
    · rw [List.getElem?_drop] at hu
      simpa using hu
    · cases hu
theorem Ent.row_ok (h : Ent.ok w (.row e p.sz (.slice A q c) (p.flat xs))) : Row p w A xs := RowOk.row h
/-- a row of the call's own, read by a call that is not handed it -/
theorem Mem.rowC {Ms R : List Ent} (hM : Mem F w0 w (Ms ++ R)) (hp : Put R (.row e p.sz (.slice A q c) (p.flat xs)) (.row e p.sz (.slice A q c) (p.flat xs)) R) : Ro (Ms.map Ent.key) p w A xs := by
  have hok := hM.ok _ (List.mem_append.2 (.inr hp.mem))
  refine ⟨RowOk.row hok, fun ad ea => .inr fun hm => ?_⟩
  subst ea
  obtain ⟨y, hy, ek⟩ := List.mem_map.1 hm
  exact ((List.pairwise_append.1 hM.apart).2.2 y hy _ hp.mem).right rfl _ ek rfl
/-- .. of a row that is changed no more -/
theorem Mem.froC {Ms R : List Ent} (hM : Mem F w0 w (Ms ++ R)) (hp : Put R (.fro e p.sz (.slice A q c) (p.flat xs)) (.fro e p.sz (.slice A q c) (p.flat xs)) R) (hms : Ms.all (fun x => !x.isFro) = true := by rfl) : Ro (Ms.map Ent.key) p w A xs := by
  have hok := hM.ok _ (List.mem_append.2 (.inr hp.mem))
  have hmf : ∀ y ∈ Ms, y.isFro = false := fun y hy => by simpa using List.all_eq_true.1 hms y hy
  refine ⟨RowOk.row hok, fun ad ea => .inr fun hm => ?_⟩
  subst ea
  obtain ⟨y, hy, ek⟩ := List.mem_map.1 hm
  exact ((List.pairwise_append.1 hM.apart).2.2 y hy _ hp.mem).left (hmf y hy) _ ek rfl
theorem Ro.nil (F : List (Option Nat)) (p : Pl α) (w : World) : Ro F p w none [] := ⟨Row.nil p w, fun _ e => by cases e⟩
def adrop (A : Option Addr) (c l sz : Nat) : Option Addr := if c = l then A else A.map (·.add (l * sz))
theorem add_block (ad : Addr) (m : Nat) : (ad.add m).block = ad.block := by unfold Addr.add; split <;> rfl
theorem adrop_block {A : Option Addr} {c l sz : Nat} {ad : Addr} (h : adrop A c l sz = some ad) : ∃ ad', A = some ad' ∧ ad'.block = ad.block := by
  unfold adrop at h
  split at h
  · exact ⟨ad, h, rfl⟩
  · cases A with
    | none => cases h
    | some a0 => cases h; exact ⟨a0, rfl, (add_block _ _).symm⟩
theorem Row.drop' (h : Row p w A xs) {c l : Nat} (hl : l ≤ xs.length) (hc : xs.length ≤ c) : Row p w (adrop A c l p.sz) (xs.drop l) := by
  unfold adrop
  split
  · have : xs.drop l = [] := List.drop_of_length_le (by omega)
    rw [this]
    exact ⟨fun _ => rfl, fun ad _ j v hv => by simp [Pl.flat] at hv⟩
  · exact h.drop l hl
theorem Ro.drop (h : Ro F p w A xs) {c l : Nat} (hl : l ≤ xs.length) (hc : xs.length ≤ c) : Ro F p w (adrop A c l p.sz) (xs.drop l) := by
  refine ⟨h.1.drop' hl hc, fun ad e => ?_⟩
  obtain ⟨ad', e1, e2⟩ := adrop_block e
  rcases h.2 ad' e1 with h3 | h3
  · subst h3; exact .inl (by simp)
  · exact .inr (e2 ▸ h3)
theorem Ro.take (h : Ro F p w A xs) (i : Nat) : Ro F p w A (xs.take i) := by
  refine ⟨h.1.take i, fun ad e => ?_⟩
  rcases h.2 ad e with h3 | h3
  · subst h3; exact .inl (by simp)
  · exact .inr h3
theorem Row.elem' (h : Row p w A xs) {m : Nat} (hn : xs.length = m) (z : α) (i : Int) (h0 : 0 ≤ i) (h1 : i < (m : Int)) : ∃ ad, A = some ad ∧ At w (ad.add (i.toNat * p.sz)) (p.enc (xs.getD i.toNat z)) :=
  h.elem z i h0 (by omega)
/-- x[l:h] as a value of its own, in place -/
theorem RowOk.cut {l m : Nat} (h : RowOk w e p.sz (.slice A q c) (p.flat xs)) (hl : l ≤ m) (hm : m ≤ q) : RowOk w e p.sz (.slice (adrop A c l p.sz) (m - l) (c - l)) (p.flat ((xs.take m).drop l)) := by
  have hlen := h.len
  rcases h with ⟨h1, h2⟩ | ⟨g, o, n, cap, cur, fr, h1, hg, hc, hn, hx, hs, ht⟩
  · cases h1
    have hx0 : xs = [] := List.eq_nil_of_length_eq_zero (by omega)
    have : m = 0 := by omega
    have : l = 0 := by omega
    subst hx0; subst this
    exact .inl ⟨by simp [adrop]; omega, by simp [Pl.flat]⟩
  · injection h1 with e1 e2 e3
    subst e2; subst e3; subst e1
    have hmul : l * p.sz ≤ c * p.sz := Nat.mul_le_mul_right _ (by omega)
    have hsub : (c - l) * p.sz = c * p.sz - l * p.sz := Nat.sub_mul _ _ _
    by_cases hcl : c = l
    · have hml : m = l := by omega
      subst hml
      refine .inr ⟨g, o, 0, 0, cur, fr, by simp [adrop, hcl], hg, hc, Nat.le_refl _, by simp [maxLen], by omega, ?_⟩
      rw [List.drop_take]
      simp [Pl.flat]
    · refine .inr ⟨g, o + l * p.sz, m - l, c - l, cur, fr, ?_, hg, hc, by omega, by omega, by omega, ?_⟩
      · unfold adrop; rw [if_neg hcl, Option.map_some, add_mk]
      · have e1 : p.flat ((xs.take m).drop l) = ((p.flat xs).take (m * p.sz)).drop (l * p.sz) := by
          have h1 : p.flat (xs.take m) = (p.flat xs).take (m * p.sz) := by
            conv => rhs; rw [← List.take_append_drop m xs, p.flat_append]
            rw [List.take_left' (by rw [p.flat_len, List.length_take, Nat.min_eq_left (by omega)])]
          rw [← h1]
          conv => rhs; rw [← List.take_append_drop l (xs.take m), p.flat_append]
          rw [List.drop_left' (by rw [p.flat_len, List.length_take, Nat.min_eq_left (by rw [List.length_take]; omega)])]
        rw [e1, ← ht, List.take_take, Nat.min_eq_left (Nat.mul_le_mul_right _ hm), List.drop_take, List.drop_drop, Nat.sub_mul]
end

/-! ## 22. Cells written -/
def spl (cs : List Value) (off : Nat) (c : List Value) : List Value := cs.take off ++ (c ++ cs.drop (off + c.length))
theorem spl_len {cs c : List Value} {off : Nat} (h : off + c.length ≤ cs.length) : (spl cs off c).length = cs.length := by
  simp only [spl, List.length_append, List.length_take, List.length_drop]; omega
theorem spl_mid {A B R c : List Value} {o j : Nat} (hA : A.length = o) (h : j + c.length ≤ B.length) : spl (A ++ (B ++ R)) (o + j) c = A ++ (spl B j c ++ R) := by
  subst hA
  unfold spl
  rw [List.take_length_add_append, List.take_append_of_le_length (by omega), Nat.add_assoc, List.drop_length_add_append, List.drop_append_of_le_length h]
  simp only [List.append_assoc]
theorem spl_all {cs c : List Value} (h : cs.length = c.length) : spl cs 0 c = c := by
  unfold spl
  rw [Nat.zero_add, List.drop_of_length_le (by omega)]
  simp
theorem splice_spl (cs : List Value) (off : Nat) (c : Array Value) : splice cs.toArray off c = (spl cs off c.toList).toArray := by
  simp [splice, spl]
theorem run_cells_cold (P : Program) (g o : Nat) (t : TypeId) (fr : Nat × Nat) : ∀ (vs : List Value) (i : Nat) (cur : Array Value) (w : World), w.heap[g]? = some (.cells cur t fr) → Cold fr cur.size → o + i + vs.length ≤ cur.size → (∀ v ∈ vs, v.oneCell' = true) →
    (storeCells ⟨g, o, none⟩ vs i).run P w = .ok () (w.setRow g (cur.toList.take (o + i) ++ vs ++ cur.toList.drop (o + i + vs.length)).toArray)
  | [], i, cur, w, hg, _, _, _ => by
    simp only [storeCells, List.append_nil, List.length_nil, Nat.add_zero, List.take_append_drop, Array.toArray_toList]
    rw [setRow_self w g cur t fr hg]
    rfl
  | v :: rest, i, cur, w, hg, hc, hl, h1 => by
    have hi : o + i < cur.size := by simp at hl; omega
    have hadd : (⟨g, o, none⟩ : Addr).add i = ⟨g, o + i, none⟩ := by unfold Addr.add; split <;> simp_all
    have hcell : w.cell? ⟨g, o + i, none⟩ = some cur[o + i] := by simp [World.cell?, hg, hi]
    have hfro : w.frozen? ⟨g, o + i, none⟩ = false := by
      have := hc (o + i) hi
      simp only [World.frozen?, hg]
      exact this
    have hst : (store ((⟨g, o, none⟩ : Addr).add i) v).run P w = .ok () (w.setRow g (cur.setIfInBounds (o + i) v)) := by
      rw [hadd, Go.run_store P w _ v _ (h1 v (by simp)), hcell]
      simp [hfro, setCell_eq_setRow w g (o + i) cur t fr v hg]
    have ih := run_cells_cold P g o t fr rest (i + 1) (cur.setIfInBounds (o + i) v) (w.setRow g (cur.setIfInBounds (o + i) v)) (setRow_heap w g cur _ t _ hg) (by simpa using hc) (by simp at hl ⊢; omega) (fun x hx => h1 x (by simp [hx]))
    simp only [storeCells, Sem.run_bind, hst, Result.andThen_ok, ih, setRow_setRow]
    congr 3
    have e := list_seg_step cur.toList (o + i) v rest (by simp at hl ⊢; omega)
    simpa [Array.toList_setIfInBounds, Nat.add_assoc] using e
theorem run_cells_spl (P : Program) {g o : Nat} {t : TypeId} {fr : Nat × Nat} {vs : List Value} {cur : Array Value} (hg : w.heap[g]? = some (.cells cur t fr)) (hc : Cold fr cur.size) (hl : o + vs.length ≤ cur.size) (h1 : ∀ v ∈ vs, v.oneCell' = true) :
    (storeCells ⟨g, o, none⟩ vs).run P w = .ok () (w.setRow g (spl cur.toList o vs).toArray) := by
  have h := run_cells_cold P g o t fr vs 0 cur w hg hc (by simpa using hl) h1
  simp only [Nat.add_zero] at h
  rw [h]
  simp [spl]
theorem grown_setRow (w : World) (g : Nat) (cs : Array Value) : w.grownBy (w.setRow g cs) (some g) := ⟨rfl, rfl, rfl, by simp, fun k _ hk => setRow_other w g k _ (fun e => hk (by rw [e]))⟩

/-! ## 23. The operations -/
section
variable {d : Nat} {ty : TypeId} {pos : String} {af : Array Edge} {x y : Operand} {v u : Value} {T : TypeId}
theorem e_box {cs : List Value} (hM : Mem F w0 w M) (hA : Has n E a) (hx : ev E x = some v) (hc : v.cells.toList = cs) (hd : d < n)
    (K : ∀ w' g, Mem F w0 w' (.box g T cs :: M) → Below w.heap.size w w' → ∀ a', Has n ((d, .pointer (some ⟨g, 0, none⟩)) :: E) a' → C a' w') : Go1 P ops Q ⟨some d, .box T x, ty, pos, af, none⟩ C a w :=
  st_box (cs := v.cells) hA hx rfl hd fun w' g hg hz hX hE a' hA' => K w' g (hM.new hE (x := .box g T cs) (by subst hc; simpa [Ent.ok] using hX) (fun k hk => by cases hk; omega)) hE a' hA'
theorem e_alloc {z : Value} {cs : List Value} (hM : Mem F w0 w M) (hz : ∀ w, (zeroValue T).run P w = .ok z w) (hc : z.cells.toList = cs) (hA : Has n E a) (hd : d < n)
    (K : ∀ w' g, Mem F w0 w' (.box g T cs :: M) → Below w.heap.size w w' → ∀ a', Has n ((d, .pointer (some ⟨g, 0, none⟩)) :: E) a' → C a' w') : Go1 P ops Q ⟨some d, .alloc T, ty, pos, af, none⟩ C a w :=
  st_alloc (cs := z.cells) hz rfl hA hd fun w' g hg hz hX hE a' hA' => K w' g (hM.new hE (x := .box g T cs) (by subst hc; simpa [Ent.ok] using hX) (fun k hk => by cases hk; omega)) hE a' hA'
theorem e_store {T0 : TypeId} {ad : Addr} {g off m : Nat} {cur cs' : List Value} (hM : Mem F w0 w M) (hp : Put M (.box g T0 cur) (.box g T0 cs') M') (hs : ∀ w, (sizeOf T).run P w = .ok m w) (hA : Has n E a) (hx : ev E x = some (.pointer (some ad))) (he : ad = ⟨g, off, none⟩) (hy : ev E y = some v) (hm : v.cells.size = m) (h1 : ∀ u ∈ v.cells.toList, u.oneCell' = true) (hl : off + m ≤ cur.length) (hc : spl cur off v.cells.toList = cs')
    (K : ∀ w', Mem F w0 w' M' → w.grownBy w' (some g) → ∀ a', Has n E a' → C a' w') : Go1 P ops Q ⟨none, .store T x y, ty, pos, af, none⟩ C a w := by
  refine st_store (T0 := T0) (cur := cur.toArray) hs hA hx he hy hm h1 (hM.ok _ hp.mem) (by simpa using hl) fun w' hX hg hz a' hA' => K w' (hM.put hp hg ?_ (.inl rfl)) hg a' hA'
  show w'.heap[g]? = _
  rw [hX, splice_spl, hc]
theorem e_setrow {α : Type} {p : Pl α} {T0 : TypeId} {off m q c : Nat} {xs : List α} {x1 y1 : α} {ad pt : Addr} {A : Option Addr} {i : Int} (hM : Mem F w0 w M) (hp : Put M (.row T0 p.sz (.slice A q c) (p.flat xs)) (.row T0 p.sz (.slice A q c) (p.flat (xs.set i.toNat y1))) M') (hs : ∀ w, (sizeOf T).run P w = .ok m w) (hA : Has n E a) (hx : ev E x = some (.pointer (some pt))) (hpt : pt = (ad.add (i.toNat * p.sz)).add off) (hq : A = some ad) (hy : ev E y = some v) (hm : v.cells.size = m) (h1 : ∀ u ∈ v.cells.toList, u.oneCell' = true)
    (h0 : 0 ≤ i) (hi : i < (q : Int)) (hx1 : xs.getD i.toNat x1 = x1) (hfit : off + m ≤ p.sz) (hv : spl (p.enc x1) off v.cells.toList = p.enc y1)
    (K : ∀ w', Mem F w0 w' M' → w.grownBy w' (Value.ownBlock (.slice A q c)) → ∀ a', Has n E a' → C a' w') : Go1 P ops Q ⟨none, .store T x y, ty, pos, af, none⟩ C a w := by
  subst hq; subst hpt; subst hm
  have hok : RowOk w T0 p.sz (.slice (some ad) q c) (p.flat xs) := hM.ok _ hp.mem
  have hlen := hok.len
  have hi' : i.toNat < xs.length := by omega
  have hxi : xs[i.toNat] = x1 := by
    rw [List.getD_eq_getElem?_getD, List.getElem?_eq_getElem hi'] at hx1
    simpa using hx1
  have hok2 := hok
  rcases hok with ⟨h2, _⟩ | ⟨g, o, q', cap, cur, fr, h2, hg, hc, hn, hcm, hsz, ht⟩
  · cases h2
  injection h2 with e1 e2 e3
  injection e1 with e1
  subst e1; subst e2; subst e3
  have hm1 : (i.toNat + 1) * p.sz ≤ q * p.sz := Nat.mul_le_mul_right _ (by omega)
  have hm2 : q * p.sz ≤ c * p.sz := Nat.mul_le_mul_right _ hn
  have hm3 : (i.toNat + 1) * p.sz = i.toNat * p.sz + p.sz := Nat.succ_mul _ _
  have hcl : v.cells.toList.length = v.cells.size := by simp
  have hst := run_cells_spl P (o := o + i.toNat * p.sz + off) (vs := v.cells.toList) hg hc (by omega) h1
  have hA1 : (p.flat (xs.take i.toNat)).length = i.toNat * p.sz := by rw [p.flat_len, List.length_take, Nat.min_eq_left (by omega)]
  have hsplit : cur.toList = cur.toList.take o ++ (p.flat xs ++ cur.toList.drop (o + q * p.sz)) := by
    rw [← ht, ← List.drop_drop, List.take_append_drop, List.take_append_drop]
  have hto : (cur.toList.take o).length = o := by rw [List.length_take, Array.length_toList]; omega
  have e1 : spl (p.flat xs) (i.toNat * p.sz + off) v.cells.toList = p.flat (xs.set i.toNat y1) := by
    rw [p.flat_split xs i.toNat hi', hxi, spl_mid hA1 (by rw [p.len]; omega), hv, List.set_eq_take_append_cons_drop, if_pos hi', p.flat_append, p.flat_cons]
  have e2 : spl cur.toList (o + i.toNat * p.sz + off) v.cells.toList = cur.toList.take o ++ (p.flat (xs.set i.toNat y1) ++ cur.toList.drop (o + q * p.sz)) := by
    conv => lhs; rw [hsplit]
    rw [Nat.add_assoc, spl_mid hto (by rw [p.flat_len]; rw [hlen]; omega), e1]
  refine sts (w' := w.setRow g (spl cur.toList (o + i.toNat * p.sz + off) v.cells.toList).toArray) hA ?_ (K _ (hM.put hp (grown_setRow _ _ _) ?_ (.inl rfl)) (grown_setRow _ _ _))
  · have f1 := hA.ev hx
    have f2 := hA.ev hy
    rw [add_mk, add_mk] at f1
    simp [execOp, f1, f2, Instr.storeAt, Instr.sureAddr, storeVar, hs, hst]
  · refine .inr ⟨g, o, q, c, _, fr, rfl, setRow_heap w g cur _ T0 fr hg, ?_, hn, hcm, ?_, ?_⟩
    · rw [List.size_toArray, spl_len (by rw [hcl, Array.length_toList]; omega), Array.length_toList]; exact hc
    · rw [List.size_toArray, spl_len (by rw [hcl, Array.length_toList]; omega), Array.length_toList]; exact hsz
    · show List.take _ (List.drop o (spl cur.toList (o + i.toNat * p.sz + off) v.cells.toList)) = _
      rw [e2, List.drop_left' hto, List.take_left' (by rw [p.flat_len, List.length_set, hlen])]
theorem Own.rowOk {α : Type} {p : Pl α} {e : TypeId} {N : Nat} {v : Value} {xs : List α} (h : Own p e N w v xs) : RowOk w e p.sz v (p.flat xs) := by
  obtain ⟨hl, h2⟩ := h
  rcases h2 with ⟨h2, h3⟩ | ⟨g, cap, cur, h2, hg, hh, hn, hm, hs, ht⟩
  · exact .inl ⟨h2, by have : xs = [] := List.eq_nil_of_length_eq_zero h3; subst this; rfl⟩
  · exact .inr ⟨g, 0, _, cap, cur, (0, 0), h2, hh, cold0 _, hn, hm, by omega, by simpa using ht⟩
theorem e_lit0 {α : Type} {p : Pl α} {t e : TypeId} {z : Value} {bytes : Nat} {sty : TypeId} (h : Elt P p t e z bytes) (hM : Mem F w0 w M) (hA : Has n E a) (hd : d < n)
    (K : ∀ w' g, Mem F w0 w' (.row e p.sz (.slice (some ⟨g, 0, none⟩) 0 0) (p.flat []) :: M) → Below w.heap.size w w' → ∀ a', Has n ((d, .slice (some ⟨g, 0, none⟩) 0 0) :: E) a' → C a' w') :
    Go1 P ops Q ⟨some d, .buildSlice t 0 #[], sty, pos, af, none⟩ C a w :=
  st_lit0 h hA hd fun w' g hg hz hO hE a' hA' => K w' g (hM.new hE (x := .row e p.sz (.slice (some ⟨g, 0, none⟩) 0 0) (p.flat [])) (Own.rowOk (xs := []) hO) (fun k hk => by cases hk; exact Nat.le_of_eq hg.symm)) hE a' hA'
theorem e_litN {α : Type} {p : Pl α} {t e : TypeId} {z : Value} {bytes : Nat} {sty : TypeId} {k : Nat} {parts : Array (Nat × Operand)} (xs : List α) (us : List Value) (h : Elt P p t e z bytes) (hM : Mem F w0 w M) (hk : xs.length = k) (hs16 : k * p.sz ≤ 16777216) (hA : Has n E a) (hv : parts.toList.map (fun p => (p.1, ev E p.2)) = (enumV 0 us).map (fun q => (q.1, some q.2))) (hc : us.map (·.cells) = xs.map (fun x => (p.enc x).toArray)) (hne : xs ≠ []) (hd : d < n)
    (K : ∀ w' g, Mem F w0 w' (.row e p.sz (.slice (some ⟨g, 0, none⟩) k k) (p.flat xs) :: M) → Below w.heap.size w w' → ∀ a', Has n ((d, .slice (some ⟨g, 0, none⟩) k k) :: E) a' → C a' w') :
    Go1 P ops Q ⟨some d, .buildSlice t k parts, sty, pos, af, none⟩ C a w :=
  st_litN xs us h hk hs16 hA hv hc hne hd fun w' g hg hz hO hE a' hA' => K w' g (hM.new hE (x := .row e p.sz (.slice (some ⟨g, 0, none⟩) k k) (p.flat xs)) (Own.rowOk hO) (fun k hk => by cases hk; exact Nat.le_of_eq hg.symm)) hE a' hA'
/-- a literal whose elements hold slices: its cells, one after the other -/
theorem fill_wide (sz : Nat) : ∀ (us : List Value) (dn : List Value) (i : Nat) (rest : List Value), (∀ u ∈ us, u.cells.size = sz) → rest.length = us.length * sz → dn.length = i * sz →
    Instr.fill (fun i => some (i * sz, sz)) (dn ++ rest).toArray (enumV i us) = some (dn ++ us.flatMap (·.cells.toList)).toArray
  | [], dn, i, rest, _, hr, _ => by
    have : rest = [] := List.eq_nil_of_length_eq_zero (by simpa using hr)
    subst this
    simp [enumV, Instr.fill]
  | u :: us, dn, i, rest, hu, hr, hd => by
    have hm : (us.length + 1) * sz = us.length * sz + sz := Nat.succ_mul _ _
    have hus := hu u (by simp)
    simp only [List.length_cons] at hr
    have ih := fill_wide sz us (dn ++ u.cells.toList) (i + 1) (rest.drop sz) (fun v hv => hu v (by simp [hv])) (by rw [List.length_drop]; omega) (by rw [Nat.succ_mul]; simp [hus, hd])
    rw [enumV, fill_cons (off := i * sz) (size := sz) rfl hus (by simp [hd]; omega)]
    have e1 : rest = rest.take sz ++ rest.drop sz := (List.take_append_drop _ _).symm
    have e2 : splice (dn ++ rest).toArray (i * sz) u.cells = ((dn ++ u.cells.toList) ++ rest.drop sz).toArray := by
      rw [show dn ++ rest = dn ++ (rest.take sz ++ rest.drop sz) by rw [← e1], splice_mid _ _ _ _ _ hd (by rw [List.length_take]; omega)]
      simp [List.append_assoc]
    rw [e2, ih]
    simp [List.append_assoc]
theorem e_litW {t e : TypeId} {z : Value} {sz : Nat} {sty : TypeId} {k : Nat} {parts : Array (Nat × Operand)} {cs : List Value} (us : List Value) (ht : P.underlying t = some (.slice e)) (hz : ∀ w, (zeroValue e).run P w = .ok z w) (hs : ∀ w, (sizeOf e).run P w = .ok sz w) (hM : Mem F w0 w M) (hk : us.length = k) (hs16 : Nat.ble (k * sz) 16777216 = true) (hpos : Nat.blt 0 (k * sz) = true) (hA : Has n E a) (hv : parts.toList.map (fun p => (p.1, ev E p.2)) = (enumV 0 us).map (fun q => (q.1, some q.2))) (hu : ∀ u ∈ us, u.cells.size = sz) (hc : us.flatMap (·.cells.toList) = cs) (hd : d < n)
    (K : ∀ w' g, Mem F w0 w' (.box g e cs :: M) → Below w.heap.size w w' → ∀ a', Has n ((d, .slice (some ⟨g, 0, none⟩) k k) :: E) a' → C a' w') :
    Go1 P ops Q ⟨some d, .buildSlice t k parts, sty, pos, af, none⟩ C a w := by
  subst hk
  have h1 := parts_ev hA hv
  have hs16' : us.length * sz ≤ 16777216 := Nat.le_of_ble_eq_true hs16
  have hpos' : 1 ≤ us.length * sz := Nat.le_of_ble_eq_true hpos
  have hok : Ent.ok (w.alloc (.cells cs.toArray e)) (.box w.heap.size e cs) := heap_alloc_new w _
  refine stv (v := .slice (some ⟨w.heap.size, 0, none⟩) us.length us.length) (w' := w.alloc (.cells cs.toArray e)) hA hd ?_ (K _ w.heap.size (hM.new (Below.new w _) hok (fun k hk => by cases hk; exact Nat.le_refl _)) (Below.new w _))
  have hf := fill_wide sz us [] 0 (((Array.range (us.length * sz)).map (z.cells[· % z.cells.size]!)).toList) hu (by simp) (by simp)
  simp only [List.nil_append, Array.toArray_toList, hc] at hf
  have h24 : ¬ (us.length * sz > 2 ^ 24) := by omega
  have h0 : ¬ (us.length * sz = 0) := by omega
  simp only [execOp, Instr.buildSlice, Sem.run_bind, run_underlying ht, Result.andThen_ok, hs, hz, if_neg h24, if_neg h0, Sem.run_pure, h1, hf]
  simp [newRow]
end

end Go.Proofs.Ytoogcdmdbogkeaa.G
