/- The library of steps, part five: maps of the function's own. No conditions. -/
import Derived.Test.YtnhgfdinnbadeaaD
set_option linter.unusedVariables false
set_option linter.unusedSimpArgs false
set_option linter.unusedSectionVars false
namespace Go.Proofs.Ytnhgfdinnbadeaa.G
open Go Go.RowKit
variable {P : Program} {n : Nat} {E : Env} {a : Act} {w w' w0 : World} {ops : Array Oper} {Q : Exit → Act → World → Prop} {rest : List Oper} {C : Act → World → Prop} {F : List (Option Nat)} {M M' : List Ent}

/-! ## 31. Maps -/
section
variable {κ α : Type} [BEq κ]
def mget : List (κ × α) → κ → Option α
  | [], _ => none
  | x :: xs, k => if k == x.1 then some x.2 else mget xs k
def mput : List (κ × α) → κ → α → List (κ × α)
  | [], k, v => [(k, v)]
  | x :: xs, k, v => if k == x.1 then (k, v) :: xs else x :: mput xs k v
def mfind : List (κ × α) → κ → Nat → Option (Nat × α)
  | [], _, _ => none
  | x :: xs, k, i => if k == x.1 then some (i, x.2) else mfind xs k (i + 1)
theorem mfind_get (k : κ) : ∀ (m : List (κ × α)) (i : Nat), (mfind m k i).map (·.2) = mget m k
  | [], i => rfl
  | x :: xs, i => by
    rw [mfind, mget]
    by_cases h : (k == x.1) = true
    · rw [if_pos h, if_pos h]; rfl
    · rw [if_neg h, if_neg h]; exact mfind_get k xs (i + 1)
def mapE (ek : κ → Value) (ev : α → Value) (m : List (κ × α)) : List (Value × Value) := m.map fun x => (ek x.1, ev x.2)
end
/-- keys that are arrays of plain things: what Go asks of them -/
structure KeyOk {κ : Type} [BEq κ] (P : Program) (T : TypeId) (p : Pl κ) : Prop where
  eq : ∃ m, Nat.ble m 10000 = true ∧ EqOk P T p m
  iff : ∀ x y : κ, (x == y) = true ↔ x = y
  chk : ∀ b x w, (Instr.checkKey b 10000 T (.agg (p.enc x).toArray)).run P w = .ok () w
  now : ∀ (d : TypeDesc) (x y : κ), P.underlying T = some d → Instr.sameNow d (.agg (p.enc x).toArray) (.agg (p.enc y).toArray) = none
  bits : ∀ x : κ, Instr.sameBits 10000 (.agg (p.enc x).toArray) (.agg (p.enc x).toArray) = true
  und : ∃ d, P.underlying T = some d
theorem bits_vec {m : Nat} {k : IntKind} (hn : 0 < m) (x : Vector Int m) : Instr.sameBits 10000 (.agg ((Pl.vec m k hn).enc x).toArray) (.agg ((Pl.vec m k hn).enc x).toArray) = true := by
  rw [Instr.sameBits]
  simp only [BEq.rfl, Bool.true_and, List.all_eq_true, Prod.forall]
  intro u v huv
  obtain ⟨i, hi, e⟩ := List.getElem_of_mem huv
  simp only [List.getElem_zip, Prod.mk.injEq] at e
  obtain ⟨rfl, e⟩ := e
  subst e
  have hm : ((Pl.vec m k hn).enc x)[i]'(by simpa using hi) ∈ (Pl.vec m k hn).enc x := List.getElem_mem _
  obtain ⟨z, _, hz⟩ := List.mem_map.1 hm
  have hz' : ((Pl.vec m k hn).enc x).toArray.toList[i]'(by simpa using hi) = Value.int k z := by simpa using hz.symm
  rw [hz']
  simp [Instr.sameBits]
theorem checkItems {e : TypeId} {k : IntKind} {q : Nat} (he : P.underlying e = some (.int k)) (hagg : ∀ w, (isAgg e).run P w = .ok false w) (hs : ∀ w, (sizeOf e).run P w = .ok 1 w) (b : Bool) (cs : List Value) (w : World) : ∀ (js : List Nat), (∀ j ∈ js, j < cs.length) →
    (forIn js PUnit.unit fun i _ => (do Instr.checkKey b (q + 1) e (← part e cs.toArray (i * (← sizeOf e))); pure (ForInStep.yield PUnit.unit) : Sem (ForInStep PUnit))).run P w = .ok PUnit.unit w
  | [], _ => by simp
  | j :: js, hj => by
    have ih := checkItems (q := q) he hagg hs b cs w js (fun i hi => hj i (by simp [hi]))
    have hjl := hj j (by simp)
    have p1 : (part e cs.toArray (j * 1)).run P w = .ok cs[j] w := by simp [part, hagg, hjl]
    have c1 : (Instr.checkKey b (q + 1) e cs[j]).run P w = .ok () w := by
      simp only [Instr.checkKey, Sem.run_bind, run_underlying he, Result.andThen_ok]
      rfl
    simp only [List.forIn_cons, Sem.run_bind, hs, p1, c1, Result.andThen_ok, Sem.run_pure, ih]
theorem key_vec {T e : TypeId} {m : Nat} {k : IntKind} (hn : 0 < m) (hu : P.underlying T = some (.array m e)) (he : P.underlying e = some (.int k)) (hagg : ∀ w, (isAgg e).run P w = .ok false w) (hs : ∀ w, (sizeOf e).run P w = .ok 1 w) (hc : P.cellsOf e = 1) (hi : (P.info? e).isSome = true) : KeyOk P T (Pl.vec m k hn) where
  eq := ⟨2, rfl, fun d x y w => eq_vec hn d hu hagg he hc hi x y w⟩
  iff := fun x y => by simp
  chk := fun b x w => by
    rw [Instr.checkKey]
    have h := checkItems (q := 9998) he hagg hs b ((Pl.vec m k hn).enc x) w (List.range m) (fun j hj => by rw [(Pl.vec m k hn).len]; exact List.mem_range.1 hj)
    simp only [Sem.run_bind, run_underlying hu, Result.andThen_ok]
    rw [Std.Legacy.Range.forIn_eq_forIn_range']
    simp only [Std.Legacy.Range.size, Nat.sub_zero, Nat.add_sub_cancel, Nat.div_one, ← List.range_eq_range']
    exact (congrArg (fun r : Result PUnit => r.andThen fun _ w' => (pure () : Sem Unit).run P w') h).trans (by simp)
  now := fun d x y hd => by rw [hu] at hd; cases hd; simp [Instr.sameNow]
  bits := bits_vec hn
  und := ⟨_, hu⟩
section
variable {κ α : Type} [BEq κ] {p : Pl κ} {T : TypeId} {ev' : α → Value}
theorem find_asking (K : KeyOk P T p) (k : κ) (w : World) : ∀ (m : List (κ × α)) (es : List MapEntry) (i : Nat), es.map (fun e => (e.key, e.val)) = mapE (fun x => .agg (p.enc x).toArray) ev' m →
    (Instr.findAsking T (.agg (p.enc k).toArray) es i).run P w = .ok ((mfind m k i).map fun x => (x.1, ev' x.2)) w
  | [], es, i, h => by
    have : es = [] := by simpa [mapE] using h
    subst this
    simp [Instr.findAsking, mfind]
  | x :: xs, es, i, h => by
    cases es with
    | nil => simp [mapE] at h
    | cons e es =>
      simp only [mapE, List.map_cons, List.cons.injEq, Prod.mk.injEq] at h
      obtain ⟨⟨h1, h2⟩, h3⟩ := h
      obtain ⟨q, hq, he⟩ := K.eq
      have h4 := he (10000 - q) k x.1 w
      rw [Nat.sub_add_cancel (Nat.le_of_ble_eq_true hq)] at h4
      have h5 : (Op.equal T (.agg (p.enc k).toArray) e.key).run P w = .ok (k == x.1) w := by rw [h1]; exact h4
      have ih := find_asking K k w xs es (i + 1) h3
      simp only [Instr.findAsking, Sem.run_bind, h5, Result.andThen_ok, mfind]
      by_cases hk : (k == x.1) = true
      · rw [if_pos hk, if_pos hk]; simp [h2]
      · rw [if_neg hk, if_neg hk]; exact ih
theorem find_key (K : KeyOk P T p) (k : κ) (w : World) (m : List (κ × α)) (es : List MapEntry) (h : es.map (fun e => (e.key, e.val)) = mapE (fun x => .agg (p.enc x).toArray) ev' m) :
    (Instr.findKey T (.agg (p.enc k).toArray) es).run P w = .ok ((mfind m k 0).map fun x => (x.1, ev' x.2)) w := by
  obtain ⟨d, hd⟩ := K.und
  simp only [Instr.findKey, Sem.run_bind, run_underlying hd, Result.andThen_ok]
  cases m with
  | nil =>
    have : es = [] := by simpa [mapE] using h
    subst this
    simp [Instr.findNow, mfind]
  | cons x xs =>
    cases es with
    | nil => simp [mapE] at h
    | cons e es =>
      have h' := h
      simp only [mapE, List.map_cons, List.cons.injEq, Prod.mk.injEq] at h'
      have hn : Instr.findNow d (.agg (p.enc k).toArray) (e :: es) 0 = none := by
        rw [Instr.findNow, h'.1.1, K.now d k x.1 hd]
      rw [hn]
      exact find_asking K k w (x :: xs) (e :: es) 0 h
theorem mfind_put (k : κ) (v : α) (ek : κ → Value) : ∀ (m : List (κ × α)) (es : List MapEntry) (i : Nat), es.map (fun e => (e.key, e.val)) = mapE ek ev' m →
    (mfind m k i = none → mapE ek ev' (mput m k v) = mapE ek ev' m ++ [(ek k, ev' v)]) ∧
    (∀ j y, mfind m k i = some (j, y) → i ≤ j ∧ (∀ (h : j - i < es.length), ∃ x : κ × α, (k == x.1) = true ∧ es[j - i].key = ek x.1) ∧ j - i < es.length ∧ (es.modify (j - i) fun e => { e with key := ek k, val := ev' v }).map (fun e => (e.key, e.val)) = mapE ek ev' (mput m k v))
  | [], es, i, h => ⟨fun _ => rfl, fun j y hj => by cases hj⟩
  | x :: xs, es, i, h => by
    cases es with
    | nil => simp [mapE] at h
    | cons e es =>
      simp only [mapE, List.map_cons, List.cons.injEq, Prod.mk.injEq] at h
      obtain ⟨⟨h1, h2⟩, h3⟩ := h
      have ih := mfind_put k v ek xs es (i + 1) h3
      rw [mfind, mput]
      by_cases hk : (k == x.1) = true
      · rw [if_pos hk, if_pos hk]
        refine ⟨fun h => by simp at h, fun j y hj => ?_⟩
        obtain ⟨rfl, rfl⟩ := Prod.mk.inj (Option.some.inj hj)
        refine ⟨Nat.le_refl _, fun _ => ⟨x, hk, by simp [h1]⟩, by simp, ?_⟩
        simp [mapE, h3]
      · rw [if_neg hk, if_neg hk]
        refine ⟨fun h => ?_, fun j y hj => ?_⟩
        · have := ih.1 h
          simp only [mapE, List.map_cons, List.cons_append] at this ⊢
          rw [this]
        · obtain ⟨a1, a2, a3, a4⟩ := ih.2 j y hj
          have ej : j - i = (j - (i + 1)) + 1 := by omega
          refine ⟨by omega, fun hl => ?_, by rw [ej]; simpa using a3, ?_⟩
          · obtain ⟨z, z1, z2⟩ := a2 a3
            refine ⟨z, z1, ?_⟩
            simp only [ej, List.getElem_cons_succ]
            exact z2
          · rw [ej, List.modify_succ_cons, List.map_cons, a4]
            simp [mapE, h1, h2]
end
def MapAt (w : World) (g : Nat) (es : List (Value × Value)) : Prop := ∃ me clock, w.heap[g]? = some (.map me clock) ∧ me.toList.map (fun e => (e.key, e.val)) = es
theorem Mem.map {g : Nat} {es : List (Value × Value)} (hM : Mem F w0 w M) (hp : Put M (.map g es) (.map g es) M) : MapAt w g es := hM.ok _ hp.mem
theorem MapAt.extB {g : Nat} {es : List (Value × Value)} (h : MapAt w g es) (hb : Below w.heap.size w w') : MapAt w' g es := by
  obtain ⟨me, c, hg, e⟩ := h
  exact ⟨me, c, (hb.block g (lt_of_some hg)).trans hg, e⟩
section
variable {κ α : Type} [BEq κ] {p : Pl κ} {T vt t : TypeId} {ev' : α → Value} {m : List (κ × α)} {k : κ} {z : α} {d g : Nat} {ty : TypeId} {pos : String} {af : Array Edge} {x y u : Operand} {zv : Value}
theorem run_lookup (K : KeyOk P T p) (hu : P.underlying t = some (.map T vt)) (hz : ∀ w, (zeroValue vt).run P w = .ok zv w) (hzv : zv = ev' z) (h : MapAt w g (mapE (fun x => .agg (p.enc x).toArray) ev' m)) (cm : Bool) :
    (Instr.lookup t (.map (some g)) (.agg (p.enc k).toArray) cm).run P w = .ok (if cm then .tuple #[ev' ((mget m k).getD z), .bool (mget m k).isSome] else ev' ((mget m k).getD z)) w := by
  obtain ⟨me, c, hg, hes⟩ := h
  have hgo : (getObj g).run P w = .ok (.map me c) w := MapKept.run_getObj_map hg
  have hf := find_key K k w m me.toList hes
  have hgm := mfind_get k m 0
  unfold Instr.lookup
  simp only [Sem.run_bind, run_underlying hu, Result.andThen_ok, hgo, Sem.run_pure, K.chk, hf]
  cases hm : mfind m k 0 with
  | none =>
    rw [hm] at hgm
    have : mget m k = none := hgm.symm
    rw [this]
    simp [hz, hzv]
  | some q =>
    rw [hm] at hgm
    have : mget m k = some q.2 := hgm.symm
    rw [this]
    simp
theorem run_look1 (K : KeyOk P T p) (hu : P.underlying t = some (.map T vt)) (hz : ∀ w, (zeroValue vt).run P w = .ok zv w) (hzv : zv = ev' z) (hx : a.eval x = .map (some g)) (hy : a.eval y = .agg (p.enc k).toArray) (h : MapAt w g (mapE (fun x => .agg (p.enc x).toArray) ev' m)) :
    (execOp a.eval ⟨some d, .lookup t x y false, ty, pos, af, none⟩).run P w = .ok (.value (ev' ((mget m k).getD z))) w := by
  have := run_lookup (k := k) K hu hz hzv h false
  simp [execOp, hx, hy, this]
theorem run_look2 (K : KeyOk P T p) (hu : P.underlying t = some (.map T vt)) (hz : ∀ w, (zeroValue vt).run P w = .ok zv w) (hzv : zv = ev' z) (hx : a.eval x = .map (some g)) (hy : a.eval y = .agg (p.enc k).toArray) (h : MapAt w g (mapE (fun x => .agg (p.enc x).toArray) ev' m)) :
    (execOp a.eval ⟨some d, .lookup t x y true, ty, pos, af, none⟩).run P w = .ok (.value (.tuple #[ev' ((mget m k).getD z), .bool (mget m k).isSome])) w := by
  have := run_lookup (k := k) K hu hz hzv h true
  simp [execOp, hx, hy, this]
theorem e_makeMap {ek : κ → Value} (hm : m = []) (hM : Mem F w0 w M) (hA : Has n E a) (hd : d < n)
    (Kk : ∀ w' g, Mem F w0 w' (.map g (mapE ek ev' m) :: M) → Below w.heap.size w w' → ∀ a', Has n ((d, .map (some g)) :: E) a' → C a' w') :
    Go1 P ops Q ⟨some d, .makeMap t none, ty, pos, af, none⟩ C a w := by
  subst hm
  have hok : Ent.ok (w.alloc (.map #[] 0)) (.map w.heap.size (mapE ek ev' ([] : List (κ × α)))) := ⟨#[], 0, heap_alloc_new w _, rfl⟩
  refine stv (v := .map (some w.heap.size)) (w' := w.alloc (.map #[] 0)) hA hd ?_ (Kk _ _ (hM.new (Below.new w _) hok (fun k hk => by cases hk; exact Nat.le_refl _)) (Below.new w _))
  simp [execOp, Instr.makeMap]
theorem run_mapput (K : KeyOk P T p) (hu : P.underlying t = some (.map T vt)) {v : α} (h : MapAt w g (mapE (fun x => .agg (p.enc x).toArray) ev' m)) :
    ∃ w', (Instr.mapUpdate t (.map (some g)) (.agg (p.enc k).toArray) (ev' v)).run P w = .ok () w' ∧ MapAt w' g (mapE (fun x => .agg (p.enc x).toArray) ev' (mput m k v)) ∧ w.grownBy w' (some g) := by
  obtain ⟨me, c, hg, hes⟩ := h
  have hgl := lt_of_some hg
  have hf := find_key K k w m me.toList hes
  have hp := mfind_put k v (fun x => .agg (p.enc x).toArray) m me.toList 0 hes
  have hset : ∀ o, w.grownBy { w with heap := w.heap.setIfInBounds g o } (some g) := fun o => ⟨rfl, rfl, rfl, by simp, fun b hb hne => by
    have : g ≠ b := fun e => hne (by rw [e])
    simp [Array.getElem?_setIfInBounds_ne this]⟩
  cases hm : mfind m k 0 with
  | none =>
    rw [hm] at hf
    refine ⟨_, by simp [Instr.mapUpdate, run_underlying hu, MapKept.run_getObj_map hg, K.chk, hf, MapKept.run_setObj_map _ hg, Result.andThen]; rfl, ⟨_, _, by simp [hgl]; exact ⟨rfl, rfl⟩, ?_⟩, hset _⟩
    rw [hp.1 hm, ← hes]
    simp
  | some q =>
    obtain ⟨j, y⟩ := q
    rw [hm] at hf
    obtain ⟨_, h2, h3, h4⟩ := hp.2 j y hm
    rw [Nat.sub_zero] at h2 h3 h4
    obtain ⟨x, hx, hxk⟩ := h2 h3
    have hxe := (K.iff k x.1).1 hx
    have hk : ((me[j]?).map (·.key)).getD (.agg (p.enc k).toArray) = .agg (p.enc k).toArray := by
      have e : me[j]? = some (me.toList[j]) := by simp
      rw [e, hxe]
      simpa using hxk
    have hst : (Instr.keyThatStays (((me[j]?).map (·.key)).getD (.agg (p.enc k).toArray)) (.agg (p.enc k).toArray)).run P w = .ok (.agg (p.enc k).toArray) w := by
      rw [hk]
      unfold Instr.keyThatStays
      rw [if_pos (K.bits k)]
      rfl
    refine ⟨_, by simp [Instr.mapUpdate, run_underlying hu, MapKept.run_getObj_map hg, K.chk, hf, hst, MapKept.run_setObj_map _ hg, Result.andThen]; rfl, ⟨_, _, by simp [hgl]; exact ⟨rfl, rfl⟩, ?_⟩, hset _⟩
    rw [Array.toList_modify]
    exact h4
theorem e_mapput (K : KeyOk P T p) (hu : P.underlying t = some (.map T vt)) {v : α} (hM : Mem F w0 w M) (hp : Put M (.map g (mapE (fun x => .agg (p.enc x).toArray) ev' m)) (.map g (mapE (fun x => .agg (p.enc x).toArray) ev' (mput m k v))) M') (hA : Has n E a) (hx : ev E x = some (.map (some g))) (hy : ev E y = some (.agg (p.enc k).toArray)) (hz : ev E u = some (ev' v))
    (Kk : ∀ w', Mem F w0 w' M' → w.grownBy w' (some g) → ∀ a', Has n E a' → C a' w') : Go1 P ops Q ⟨none, .mapUpdate t x y u, ty, pos, af, none⟩ C a w := by
  obtain ⟨w', h1, h2, h3⟩ := run_mapput (k := k) (v := v) K hu (hM.ok _ hp.mem)
  refine sts hA (w' := w') ?_ (Kk w' (hM.put hp h3 h2 (.inl rfl)) h3)
  simp [execOp, hA.ev hx, hA.ev hy, hA.ev hz, h1]
end
end Go.Proofs.Ytnhgfdinnbadeaa.G
