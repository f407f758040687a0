/- append, make, copies of strings, parts of slices: the steps for them over the list of entries. No conditions. -/
import Derived.Test.YtoogcdmdbogkeaaM
set_option linter.unusedVariables false
set_option linter.unusedSimpArgs false
set_option linter.unusedSectionVars false
namespace Go.Proofs.Ytoogcdmdbogkeaa.G
open Go Go.RowKit
variable {P : Program} {n : Nat} {E : Env} {a : Act} {w w' w0 : World} {ops : Array Oper} {Q : Exit → Act → World → Prop} {rest : List Oper} {C : Act → World → Prop} {F : List (Option Nat)} {M M' : List Ent} {x y : Ent}

/-! ## 24. append, make, copies of strings -/
theorem RowOk.cells {e : TypeId} {sz : Nat} {ad : Addr} {q c : Nat} {cs : List Value} (h : RowOk w e sz (.slice (some ad) q c) cs) : ∀ j u, cs[j]? = some u → w.cell? (ad.add j) = some u := fun j u hu => by
  rcases h with ⟨h1, h2⟩ | ⟨g, o, n, cap, cur, fr, h1, hg, hc, hn, hm, hs, ht⟩
  · cases h1
  · injection h1 with e1 e2 e3
    injection e1 with e1
    subst e1
    rw [add_mk, cell_of_row w g (o + j) cur _ fr hg]
    rw [← ht, List.getElem?_take] at hu
    split at hu
    · rw [List.getElem?_drop] at hu
      simpa using hu
    · cases hu
/-- what append takes its new elements from: a slice, a string -/
structure Src (P : Program) (w : World) (t : TypeId) (sz : Nat) (x : Value) (m : Nat) (news : List Value) : Prop where
  len : ∀ w', (Builtin.lenOf x).run P w' = .ok m w'
  cells : ∀ w', w'.heap = w.heap → (Builtin.firstCells sz m x).run P w' = .ok news.toArray w'
  ty : (∃ e, P.underlying t = some (.slice e)) ∨ P.underlying t = some .string
  sum : news.length = m * sz
  one : ∀ u ∈ news, u.oneCell' = true
theorem Src.row {α : Type} {p : Pl α} {A : Option Addr} {ys : List α} {m c t e : Nat} (hu : P.underlying t = some (.slice e)) (hR : Row p w A ys) (hm : ys.length = m) : Src P w t p.sz (.slice A m c) m (p.flat ys) := by
  subst hm
  refine ⟨fun w' => by simp [Builtin.lenOf], fun w' hw => ?_, (.inl ⟨_, hu⟩), p.flat_len ys, p.flat_one ys⟩
  cases A with
  | none => rw [hR.1 rfl]; simp [Builtin.firstCells, Pl.flat]
  | some ad =>
    refine run_firstCells_some w' p.sz ys.length ad ys.length c (p.flat ys) (p.flat_len ys) fun j v hj => ?_
    have h1 := hR.2 ad rfl j v hj
    rw [← h1]
    unfold World.cell?
    rw [hw]
def bytesOf (s : ByteArray) : List Int := s.data.toList.map fun b => (b.toNat : Int)
def ofBytes (l : List Int) : ByteArray := ⟨(l.map fun n => UInt8.ofNat n.toNat).toArray⟩
theorem flat_int (k : IntKind) (xs : List Int) : (Pl.int k).flat xs = xs.map (Value.int k) := by
  unfold Pl.flat
  induction xs with
  | nil => rfl
  | cons x xs ih => rw [List.flatMap_cons, ih]; rfl
theorem length_bytesOf (s : ByteArray) : (bytesOf s).length = s.size := by simp [bytesOf]
theorem Src.str {t : TypeId} {s : ByteArray} (hu : P.underlying t = some .string) : Src P w t (Pl.int .u8).sz (.string s) s.size ((Pl.int .u8).flat (bytesOf s)) := by
  refine ⟨fun w' => by simp [Builtin.lenOf], fun w' _ => ?_, (.inr hu), by rw [Pl.flat_len, length_bytesOf], Pl.flat_one _ _⟩
  have h : s.extract 0 s.size = s := ByteArray.extract_zero_size
  simp only [Builtin.firstCells, h, flat_int, bytesOf, Sem.run_pure, List.map_map]
  congr 1
  apply Array.toList_inj.1
  simp
theorem run_app2 {t tx e ty : TypeId} {i : TypeInfo} {z : Value} {sz bytes : Nat} (ht : P.underlying t = some (.slice e)) (hi : P.info? e = some i) (hz : i.zero = some z) (hsize : i.size = sz) (hby : i.bytes = bytes) (hzs : z.cells.size = sz) (hsz : 0 < sz) (hb0 : 0 < bytes)
    {v x : Value} {A : Option Addr} {q c m : Nat} {cs news : List Value} (hv : v = .slice A q c) (hok : RowOk w e sz v cs) (hs : Src P w tx sz x m news) (hbytes : (q + m) * bytes ≤ 140737488355328) :
    ∃ v' w', (Builtin.append_ #[t, tx] ty #[v, x]).run P w = .ok v' w' ∧ RowOk w' e sz v' (cs ++ news) ∧ w.grownBy w' v.ownBlock ∧ (v'.ownBlock = v.ownBlock ∨ ∀ k, v'.ownBlock = some k → w.heap.size ≤ k) ∧ ∃ A' c', v' = .slice A' (q + m) c' := by
  subst hv; subst hsize; subst hby
  have hcl := hok.length
  have hle : q + m ≤ 140737488355328 := Nat.le_trans (Nat.le_mul_of_pos_right _ hb0) hbytes
  have hlen := hs.len w
  have hcells := hs.cells w rfl
  have hcellsd := hs.cells w.drew rfl
  by_cases hroom : q + m ≤ c
  · cases A with
    | none =>
      rcases hok with ⟨h1, h2⟩ | ⟨g, o, n, cap, cur, fr, h1, _⟩
      · cases h1
        subst h2
        obtain rfl : m = 0 := by omega
        have hn : news = [] := List.eq_nil_of_length_eq_zero (by simpa using hs.sum)
        subst hn
        refine ⟨.slice none 0 0, w, ?_, .inl ⟨rfl, rfl⟩, ⟨rfl, rfl, rfl, Nat.le_refl _, fun _ _ _ => rfl⟩, .inl rfl, none, 0, rfl⟩
        rcases hs.ty with ⟨e2, hty⟩ | hty
        · simp [Builtin.append_, run_underlying ht, run_underlying hty, sizeOf, typeInfo, hi, hlen, hcells]
        · simp [Builtin.append_, run_underlying ht, run_underlying hty, sizeOf, typeInfo, hi, hlen, hcells]
      · cases h1
    | some ad =>
      have hok2 := hok
      rcases hok with ⟨h1, h2⟩ | ⟨g, o, n, cap, cur, fr, h1, hg, hc, hn, hm, hsz2, htk⟩
      · cases h1
      · injection h1 with e1 e2 e3
        injection e1 with e1
        subst e1; subst e2; subst e3
        have hmul : (q + m) * i.size ≤ c * i.size := Nat.mul_le_mul_right _ hroom
        rw [Nat.add_mul] at hmul
        have hsum := hs.sum
        have hst := run_cells_spl P (o := o + q * i.size) (vs := news) hg hc (by omega) hs.one
        have hto : (cur.toList.take o).length = o := by rw [List.length_take, Array.length_toList]; omega
        have hsplit : cur.toList = cur.toList.take o ++ (cs ++ cur.toList.drop (o + q * i.size)) := by
          rw [← htk, ← List.drop_drop, List.take_append_drop, List.take_append_drop]
        have hsl : (spl cur.toList (o + q * i.size) news).length = cur.size := by
          have h2 : cur.toList.length = cur.size := Array.length_toList
          have h1 : o + q * i.size + news.length ≤ cur.toList.length := by omega
          rw [spl_len h1, h2]
        have e4 : spl cur.toList (o + q * i.size) news = cur.toList.take o ++ (cs ++ news ++ cur.toList.drop (o + q * i.size + news.length)) := by
          unfold spl
          have : cur.toList.take (o + q * i.size) = cur.toList.take o ++ cs := by
            conv => lhs; rw [hsplit]
            rw [← List.append_assoc, List.take_left' (by rw [List.length_append, hto, hcl])]
          rw [this]
          simp [List.append_assoc]
        refine ⟨.slice (some ⟨g, o, none⟩) (q + m) c, w.setRow g (spl cur.toList (o + q * i.size) news).toArray, ?_, ?_, grown_setRow _ _ _, .inl rfl, _, _, rfl⟩
        · rcases hs.ty with ⟨e2, hty⟩ | hty
          · simp [Builtin.append_, run_underlying ht, run_underlying hty, sizeOf, typeInfo, hi, hlen, hcells, hroom, add_mk, hst]
          · simp [Builtin.append_, run_underlying ht, run_underlying hty, sizeOf, typeInfo, hi, hlen, hcells, hroom, add_mk, hst]
        · refine .inr ⟨g, o, q + m, c, _, fr, rfl, setRow_heap w g cur _ e fr hg, ?_, hroom, hm, ?_, ?_⟩
          · rw [List.size_toArray, hsl]; exact hc
          · rw [List.size_toArray, hsl]; exact hsz2
          · show List.take _ (List.drop o (spl cur.toList (o + q * i.size) news)) = _
            rw [e4, List.drop_left' hto, List.take_left' (by rw [List.length_append, hcl, hsum, Nat.add_mul])]
  · have hfit := growslice_fits (need := q + m) (old := c) (bytes := i.bytes) (by omega) hbytes
    have h63' : ¬ (9223372036854775807 < ((q : Int) + (m : Int))) := by omega
    have h48' : ¬ (281474976710656 < Builtin.nextslicecap (q + m) c * i.bytes) := by omega
    have hbz : ¬ i.bytes = 0 := by omega
    have hge := grownCap_ge w (q + m) c e
    have hcm : grownCap w (q + m) c e ≤ maxLen := grownCap_le_maxLen w (q + m) c e (by simp only [maxLen]; omega)
    have hold : (Builtin.firstCells i.size q (.slice A q c)).run P w.drew = .ok cs.toArray w.drew := by
      cases A with
      | none =>
        rcases hok with ⟨h1, h2⟩ | ⟨g, o, n, cap, cur, fr, h1, _⟩
        · subst h2; simp [Builtin.firstCells]
        · cases h1
      | some ad => exact run_firstCells_some w.drew i.size q ad q c cs hcl (by simpa using hok.cells)
    refine ⟨.slice (some ⟨w.heap.size, 0, none⟩) (q + m) (grownCap w (q + m) c e), w.drew.alloc (.cells (cs.toArray ++ news.toArray ++ Builtin.zeroCells z.cells (grownCap w (q + m) c e - (q + m))) e), ?_, ?_, ⟨rfl, rfl, rfl, by simp, fun k hk _ => heap_alloc_old w.drew _ k hk⟩, .inr (fun k hk => by cases hk; exact Nat.le_refl _), _, _, rfl⟩
    · have e5 : (cs ++ news).toArray = cs.toArray ++ news.toArray := by simp
      rcases hs.ty with ⟨e2, hty⟩ | hty
      · simp [Builtin.append_, run_underlying ht, run_underlying hty, sizeOf, typeInfo, zeroValue, hi, hz, hlen, hroom, h63', h48', hbz, Question.forced, hold, hcellsd, newRow, grownCap]
        rw [e5, Array.append_assoc]
      · simp [Builtin.append_, run_underlying ht, run_underlying hty, sizeOf, typeInfo, zeroValue, hi, hz, hlen, hroom, h63', h48', hbz, Question.forced, hold, hcellsd, newRow, grownCap]
        rw [e5, Array.append_assoc]
    · refine .inr ⟨w.heap.size, 0, q + m, _, _, (0, 0), rfl, heap_alloc_new w.drew _, cold0 _, hge, hcm, ?_, ?_⟩
      · simp only [Array.size_append, List.size_toArray, size_zeroCells, hzs, hcl, hs.sum, ← Nat.add_mul, Nat.zero_add]
        apply Nat.le_of_eq
        congr 1
        omega
      · simp only [Array.toList_append, List.append_assoc, List.drop_zero]
        rw [← List.append_assoc]
        exact List.take_left' (by rw [List.length_append, hcl, hs.sum, Nat.add_mul])
section
variable {d : Nat} {ty : TypeId} {pos : String} {af : Array Edge} {x y : Operand} {v u : Value} {T : TypeId}
theorem e_append {M'' : Value → List Ent} {α : Type} {p : Pl α} {t tx e : TypeId} {z : Value} {bytes : Nat} {A : Option Addr} {q c m : Nat} {xs ys : List α} (h : Elt P p t e z bytes) (hM : Mem F w0 w M) (hp : ∀ v', Put M (.row e p.sz (.slice A q c) (p.flat xs)) (.row e p.sz v' (p.flat (xs ++ ys))) (M'' v')) (hs : Src P w tx p.sz u m (p.flat ys)) (hl : (q + m) * bytes ≤ 140737488355328) (hA : Has n E a) (hx : ev E x = some (.slice A q c)) (hy : ev E y = some u) (hd : d < n)
    (K : ∀ w' A' c', Mem F w0 w' (M'' (.slice A' (q + m) c')) → w.grownBy w' (Value.ownBlock (.slice A q c)) → ∀ a', Has n ((d, .slice A' (q + m) c') :: E) a' → C a' w') :
    Go1 P ops Q ⟨some d, .call { callee := .builtin .append, args := #[x, y], argTypes := #[t, tx] }, ty, pos, af, none⟩ C a w := by
  obtain ⟨i, hi, hz, hsz, hby⟩ := h.info
  obtain ⟨v', w', hr, ho, hg, hk, A', c', rfl⟩ := run_app2 (ty := ty) h.ht hi hz hsz hby h.hz p.pos h.hb rfl (hM.ok _ (hp (.slice none 0 0)).mem) hs hl
  refine stv (v := .slice A' (q + m) c') (w' := w') hA hd ?_ (K w' A' c' (hM.put (hp _) hg (by rw [p.flat_append]; exact ho) hk) hg)
  have e1 := hA.ev hx
  have e2 := hA.ev hy
  rw [eop_builtin]
  simp [builtin, e1, e2, hr]
/-- append to nil: a new entry -/
theorem e_append0 {α : Type} {p : Pl α} {t tx e : TypeId} {z : Value} {bytes : Nat} {m : Nat} {ys : List α} (h : Elt P p t e z bytes) (hM : Mem F w0 w M) (hs : Src P w tx p.sz u m (p.flat ys)) (hl : m * bytes ≤ 140737488355328) (hA : Has n E a) (hx : ev E x = some (.slice none 0 0)) (hy : ev E y = some u) (hd : d < n)
    (K : ∀ w' A' c', Mem F w0 w' (.row e p.sz (.slice A' m c') (p.flat ys) :: M) → w.grownBy w' none → ∀ a', Has n ((d, .slice A' m c') :: E) a' → C a' w') :
    Go1 P ops Q ⟨some d, .call { callee := .builtin .append, args := #[x, y], argTypes := #[t, tx] }, ty, pos, af, none⟩ C a w := by
  refine e_append (M := .row e p.sz (.slice none 0 0) (p.flat ([] : List α)) :: M) (M'' := fun v' => .row e p.sz v' (p.flat ([] ++ ys)) :: M) (xs := []) (q := 0) (m := m) h (hM.addnil e p.sz) (fun v' => .z) hs (by rw [Nat.zero_add]; exact hl) hA hx hy hd fun w' A' c' h1 h2 a' h3 => ?_
  rw [Nat.zero_add] at h1 h3
  rw [List.nil_append] at h1
  exact K w' A' c' h1 h2 a' h3
theorem made_cells {α : Type} (p : Pl α) (zx : α) (zc : Array Value) (hz : zc.toList = p.enc zx) (m : Nat) : (madeCells zc (m * p.sz)).toList = p.flat (List.replicate m zx) := by
  have hsz : zc.size = p.sz := by rw [← Array.length_toList, hz, p.len]
  have hp := p.pos
  apply List.ext_getElem?
  intro j
  simp only [madeCells, Array.toList_map, Array.toList_range, List.getElem?_map, hsz]
  by_cases hj : j < m * p.sz
  · rw [List.getElem?_range hj]
    have hlt : j / p.sz < m := Nat.div_lt_of_lt_mul (by rw [Nat.mul_comm]; exact hj)
    have hmod := Nat.mod_lt j hp
    have h1 := p.flat_split (List.replicate m zx) (j / p.sz) (by simpa using hlt)
    rw [h1]
    have hA1 : (p.flat ((List.replicate m zx).take (j / p.sz))).length = (j / p.sz) * p.sz := by rw [p.flat_len, List.length_take, List.length_replicate, Nat.min_eq_left (by omega)]
    have hdm : j / p.sz * p.sz + j % p.sz = j := by rw [Nat.mul_comm]; exact Nat.div_add_mod j p.sz
    rw [List.getElem?_append_right (by omega), hA1, show j - j / p.sz * p.sz = j % p.sz by omega, List.getElem?_append_left (by rw [p.len]; exact hmod), List.getElem_replicate, ← hz]
    simp only [Option.map_some]
    rw [getElem!_pos zc (j % p.sz) (by rw [hsz]; exact hmod), Array.getElem?_toList, Array.getElem?_eq_getElem (by rw [hsz]; exact hmod)]
  · have h1 : (List.range (m * p.sz))[j]? = none := List.getElem?_eq_none (by simp; omega)
    rw [h1, List.getElem?_eq_none (by rw [p.flat_len, List.length_replicate]; omega)]
    rfl
theorem e_make {α : Type} {p : Pl α} {t e : TypeId} {z : Value} {bytes : Nat} {zx : α} {k1 k2 : IntKind} {l : Int} (h : Elt P p t e z bytes) (hz : z.cells.toList = p.enc zx) (hM : Mem F w0 w M) (hA : Has n E a) (hx : ev E x = some (.int k1 l)) (hy : ev E y = some (.int k2 l)) (h0 : 0 ≤ l) (hl : l * bytes ≤ 140737488355328) (hd : d < n)
    (K : ∀ w' g, Mem F w0 w' (.row e p.sz (.slice (some ⟨g, 0, none⟩) l.toNat l.toNat) (p.flat (List.replicate l.toNat zx)) :: M) → Below w.heap.size w w' → ∀ a', Has n ((d, .slice (some ⟨g, 0, none⟩) l.toNat l.toNat) :: E) a' → C a' w') :
    Go1 P ops Q ⟨some d, .makeSlice t x y, ty, pos, af, none⟩ C a w := by
  obtain ⟨i, hi, hzz, hsz, hby⟩ := h.info
  have hb := h.hb
  have hle : l ≤ 140737488355328 := by
    have h1 : l * 1 ≤ l * (bytes : Int) := Int.mul_le_mul_of_nonneg_left (by omega) h0
    omega
  have hr := run_make (P := P) w t e i z h.ht hi hzz k1 k2 l l h0 (Int.le_refl _) (by rw [hby, Int.mul_comm]; omega) (by omega)
  have hc := made_cells p zx z.cells hz l.toNat
  rw [hsz] at hr
  have hok : Ent.ok (w.alloc (.cells (madeCells z.cells (l.toNat * p.sz)) e)) (.row e p.sz (.slice (some ⟨w.heap.size, 0, none⟩) l.toNat l.toNat) (p.flat (List.replicate l.toNat zx))) :=
    .inr ⟨w.heap.size, 0, l.toNat, l.toNat, _, (0, 0), rfl, heap_alloc_new w _, cold0 _, Nat.le_refl _, by simp only [maxLen]; omega, by rw [size_madeCells]; omega, by rw [List.drop_zero, hc, List.take_of_length_le (by rw [p.flat_len]; simp)]⟩
  refine stv (v := .slice (some ⟨w.heap.size, 0, none⟩) l.toNat l.toNat) (w' := w.alloc (.cells (madeCells z.cells (l.toNat * p.sz)) e)) hA hd ?_ (K _ _ (hM.new (Below.new w _) hok (fun k hk => by cases hk; exact Nat.le_refl _)) (Below.new w _))
  have e1 := hA.ev hx
  have e2 := hA.ev hy
  simp [execOp, e1, e2, hr]
theorem e_str2bytes {src dst e : TypeId} {s : ByteArray} {ds : TypeDesc} (hs : P.underlying src = some ds) (hd' : P.underlying dst = some (.slice e)) (he : P.underlying e = some (.int .u8)) (hM : Mem F w0 w M) (hA : Has n E a) (hx : ev E x = some (.string s)) (hl : s.size ≤ 140737488355328) (hd : d < n)
    (K : ∀ w' g c, Mem F w0 w' (.row e (Pl.int .u8).sz (.slice (some ⟨g, 0, none⟩) s.size c) ((Pl.int .u8).flat (bytesOf s)) :: M) → Below w.heap.size w w' → ∀ a', Has n ((d, .slice (some ⟨g, 0, none⟩) s.size c) :: E) a' → C a' w') :
    Go1 P ops Q ⟨some d, .convert src dst x, ty, pos, af, none⟩ C a w := by
  have hr := Go.Lib.run_convert_string_bytes (P := P) w src dst e s hs hd' he
  have hge := grownCap_ge w s.size 0 e
  have hcm := grownCap_le_maxLen w s.size 0 e (by simp only [maxLen]; omega)
  have hsz : (Go.Lib.bytesCells w e s).size = grownCap w s.size 0 e := by simp [Go.Lib.bytesCells]; omega
  have hok : Ent.ok (Go.Lib.bytesWorld w e s) (.row e (Pl.int .u8).sz (.slice (some ⟨w.heap.size, 0, none⟩) s.size (grownCap w s.size 0 e)) ((Pl.int .u8).flat (bytesOf s))) := by
    refine .inr ⟨w.heap.size, 0, s.size, _, _, _, rfl, Go.Lib.bytesWorld_at_new w e s, cold_end _, hge, hcm, by rw [hsz]; show 0 + _ * 1 ≤ _; omega, ?_⟩
    rw [flat_int, List.drop_zero]
    show List.take (s.size * 1) _ = _
    simp [Go.Lib.bytesCells, bytesOf, List.take_append_of_le_length]
  have hb : Below w.heap.size w (Go.Lib.bytesWorld w e s) := by
    refine ⟨?_, ?_, ?_, ?_, fun k hk => Go.Lib.bytesWorld_at_old w e s k hk⟩
    · simp only [Go.Lib.bytesWorld, World.freeze]; split <;> rfl
    · simp only [Go.Lib.bytesWorld, World.freeze]; split <;> rfl
    · simp only [Go.Lib.bytesWorld, World.freeze]; split <;> rfl
    · rw [Go.Lib.bytesWorld_size]; omega
  refine stv (v := .slice (some ⟨w.heap.size, 0, none⟩) s.size (grownCap w s.size 0 e)) (w' := Go.Lib.bytesWorld w e s) hA hd ?_ (K _ _ _ (hM.new hb hok (fun k hk => by cases hk; exact Nat.le_refl _)) hb)
  have e1 := hA.ev hx
  simp [execOp, e1, hr]
end

/-! ## 25. Further steps -/
theorem spl_seg (segs : List (List Value)) (i : Nat) (c : List Value) (off : Nat) {s : List Value} (hi : segs[i]? = some s) (ho : (segs.take i).flatten.length = off) (hs : s.length = c.length) : spl segs.flatten off c = (segs.set i c).flatten := by
  have h := splice_seg segs i c.toArray off hi ho (by simpa using hs)
  rw [splice_spl] at h
  simpa using h
theorem vec_spl' {m : Nat} {k : IntKind} {hn : 0 < m} (v : Vector Int m) (x : Int) (j : Nat) (h1 : j < m) : spl ((Pl.vec m k hn).enc v) j [.int k x] = (Pl.vec m k hn).enc (v.setIfInBounds j x) := by
  have h := vec_splice' (k := k) (hn := hn) v x j h1
  rw [splice_spl] at h
  simpa using h
theorem vec_spl {m : Nat} {k : IntKind} {hn : 0 < m} {i : Int} (v : Vector Int m) (x : Int) (h0 : 0 ≤ i) (h1 : i < (m : Int)) : spl ((Pl.vec m k hn).enc v) (i.toNat * 1) [.int k x] = (Pl.vec m k hn).enc (vs v i x) := by
  rw [Nat.mul_one]
  exact vec_spl' v x i.toNat (by omega)
theorem Mem.box (hM : Mem F w0 w M) {g : Nat} {T : TypeId} {cs : List Value} (hp : Put M (.box g T cs) (.box g T cs) M) : At w ⟨g, 0, none⟩ cs := by
  have h : w.heap[g]? = some (.cells cs.toArray T (0, 0)) := hM.ok _ hp.mem
  exact At.box' h
theorem Mem.row (hM : Mem F w0 w M) {α : Type} {p : Pl α} {e : TypeId} {v : Value} {xs : List α} (hp : Put M (.row e p.sz v (p.flat xs)) (.row e p.sz v (p.flat xs)) M) : RowOk w e p.sz v (p.flat xs) := hM.ok _ hp.mem
theorem Mem.frow (hM : Mem F w0 w M) {α : Type} {p : Pl α} {e : TypeId} {v : Value} {xs : List α} (hp : Put M (.fro e p.sz v (p.flat xs)) (.fro e p.sz v (p.flat xs)) M) : RowOk w e p.sz v (p.flat xs) := hM.ok _ hp.mem
/-- a slice that is only read, told by its header -/
def RoV (F : List (Option Nat)) {α : Type} (p : Pl α) (w : World) (v : Value) (xs : List α) : Prop := ∃ A c, v = .slice A xs.length c ∧ Ro F p w A xs ∧ xs.length ≤ c
theorem RoV.mk {α : Type} {p : Pl α} {A : Option Addr} {q c : Nat} {xs : List α} (h : Ro F p w A xs) (hq : xs.length = q) (hc : q ≤ c) : RoV F p w (.slice A q c) xs := by
  subst hq; exact ⟨A, c, rfl, h, hc⟩
theorem RoV.nil (F : List (Option Nat)) {α : Type} (p : Pl α) (w : World) : RoV F p w (.slice none 0 0) [] := ⟨none, 0, rfl, Ro.nil F p w, Nat.le_refl _⟩
theorem Mem.front {Ms R : List Ent} (h : Mem F w0 w (Ms ++ R)) : Mem (Ms.map Ent.key) w w Ms :=
  Mem.self (F := F) (w0 := w0) ⟨h.os, h.tape, h.output, h.size, h.frame, fun x hx => h.ok x (by simp [hx]), fun x hx => h.low x (by simp [hx]), (List.pairwise_append.1 h.apart).1⟩
theorem inl_call {d : Nat} {ty : TypeId} {pos : String} {af : Array Edge} {f : FuncId} {xs : Array Operand} {ats : Array TypeId} (hcall : ∀ as w, (callFunc f as).run P w = .ok (.enter f as) w) (hA : Has n E a) (args : List Value)
    (hx : xs.toList.map (ev E) = args.map some) (hd : d < n) (hc : Calls P f args.toArray w fun e w' => ∃ v, e = .returned v ∧ ∀ a', Has n ((d, v) :: E) a' → C a' w') :
    Go1 P ops Q ⟨some d, .call { callee := .value (.func f), args := xs, argTypes := ats }, ty, pos, af, none⟩ C a w :=
  st_call hcall hA args hx hd hc fun _ _ h => h
theorem evs_map {xs : Array Operand} (hA : Has n E a) (args : List Value) (hx : xs.toList.map (ev E) = args.map some) : xs.map a.eval = args.toArray := by
  apply Array.toList_inj.1
  rw [Array.toList_map]
  revert args
  induction xs.toList with
  | nil =>
    intro args hx
    cases args with
    | nil => rfl
    | cons _ _ => simp at hx
  | cons x xs ih =>
    intro args hx
    cases args with
    | nil => simp at hx
    | cons b args =>
      simp only [List.map_cons, List.cons.injEq] at hx
      have := ih args hx.2
      simp only [List.map_cons, hA.ev hx.1, this]
/-- a call of a function value -/
theorem inl_callv {d t : Nat} {ty : TypeId} {pos : String} {af : Array Edge} {f : FuncId} {caps : List Value} {xs : Array Operand} {ats : Array TypeId} (hcall : ∀ as w, (callFunc f as).run P w = .ok (.enter f as) w) (hA : Has n E a) (hf : Env.get E t = some (.func (.func f) #[] caps.toArray)) (args : List Value)
    (hx : xs.toList.map (ev E) = args.map some) (hd : d < n) (hc : Calls P f (args ++ caps).toArray w fun e w' => ∃ v, e = .returned v ∧ ∀ a', Has n ((d, v) :: E) a' → C a' w') :
    Go1 P ops Q ⟨some d, .call { callee := .value (.tmp t), args := xs, argTypes := ats }, ty, pos, af, none⟩ C a w := by
  refine Go1.plain rfl ?_
  have hargs := evs_map hA args hx
  have hev : a.eval (.tmp t) = .func (.func f) #[] caps.toArray := hA.get t _ hf
  have hrun : execOp a.eval ⟨some d, .call { callee := .value (.tmp t), args := xs, argTypes := ats }, ty, pos, af, none⟩ = callFunc f (args ++ caps).toArray := by
    have e1 : (#[] : Array Value) ++ xs.map a.eval ++ caps.toArray = (args ++ caps).toArray := by rw [hargs]; simp
    rw [← e1]
    show (do let dd ← resolve a.eval { callee := .value (.tmp t), args := xs, argTypes := ats } ty; invoke dd.target dd.args) = _
    simp only [resolve, hev, Deferred.ofValue]
    rfl
  unfold Oper.wp
  rw [hrun, hcall, Oper.upon_enter]
  refine hc.mono fun e w' he => ?_
  obtain ⟨v, rfl, hR⟩ := he
  exact hR _ (hA.put hd v)
theorem AnyF.rebase {S S' : World → Prop} {T : List Nat} (hS : ∀ w', S' w' → S w') : ∀ (f : Nat) (L : Array Bool) (a : Act) (w : World), AnyF P ops Q S' T f L a w → AnyF P ops Q S T f L a w
  | 0, _, _, _, h => h
  | f + 1, L, a, w, h => ⟨h.1, fun i hi => wpOp_mono (fun a' w' h' => ⟨fun hn => hS w' (h'.1 hn), AnyF.rebase hS f _ a' w' h'.2⟩) (h.2 i hi)⟩
theorem rebase {T : List Nat} {wS : World} {f : Nat} {L : Array Bool} (hS : Below wS.heap.size wS w) (h : Below w.heap.size w w → AnyF P ops Q (fun w' => Below w.heap.size w w') T f L a w) : AnyF P ops Q (fun w' => Below wS.heap.size wS w') T f L a w :=
  AnyF.rebase (fun _ h' => hS.trans (h'.mono hS.size)) f L a w (h (Below.refl _ w))
theorem rounds_s {c : Code} {k : Nat} (h : c.wp P (Exit.then (Code.rounds P c Q k) Q) a w) : Code.rounds P c Q (k + 1) a w := h
section
variable {d : Nat} {ty : TypeId} {pos : String} {af : Array Edge} {x y : Operand} {v u : Value} {T : TypeId} {t e : TypeId}
theorem run_cap_slice {A : Option Addr} {c q : Nat} (ht : P.underlying t = some (.slice e)) (hx : a.eval x = .slice A q c) :
    (execOp a.eval ⟨some d, .call { callee := .builtin .cap, args := #[x], argTypes := #[t] }, ty, pos, af, none⟩).run P w = .ok (.value (.int .i64 (c : Int))) w := by
  simp [execOp, resolve, invoke, builtin, Builtin.cap_, hx, run_underlying ht, goInt]
/-- x[l:], x[:h], x[l:h] -/
theorem run_cut {sz : Nat} {A : Option Addr} {q c : Nat} (hu : P.underlying t = some (.slice e)) (hs : ∀ w, (sizeOf e).run P w = .ok sz w) (hc : q ≤ c) {ol oh : Option Operand} (l h : Nat) (hl : ∀ z, ol = some z → ∃ k, a.eval z = .int k (l : Int)) (hl0 : ol = none → l = 0) (hh : ∀ z, oh = some z → ∃ k, a.eval z = .int k (h : Int)) (hh0 : oh = none → h = q) (hx : a.eval x = .slice A q c) (h1 : l ≤ h) (h2 : h ≤ q) :
    (execOp a.eval ⟨some d, .slice t x ol oh none, ty, pos, af, none⟩).run P w = .ok (.value (.slice (adrop A c l sz) (h - l) (c - l))) w := by
  have e1 : (l : Int) ≤ (h : Int) := by omega
  have e2 : (h : Int) ≤ (c : Int) := by omega
  have e3 : (0 : Int) ≤ (l : Int) := by omega
  have e4 : (0 : Int) ≤ (h : Int) := by omega
  cases ol with
  | none =>
    obtain rfl := hl0 rfl
    cases oh with
    | none =>
      obtain rfl := hh0 rfl
      simp only [execOp, hx, Instr.sliceAt, Instr.slice, Instr.sliceBounds, Instr.sliceBound, asIntOf, Sem.run_bind, Sem.run_pure, Result.andThen_ok, run_underlying hu, hs, Option.map_some, Option.map_none, adrop]
    | some z2 =>
      obtain ⟨k2, hz2⟩ := hh z2 rfl
      simp only [execOp, hx, hz2, Instr.sliceAt, Instr.slice, Instr.sliceBounds, Instr.sliceBound, asIntOf, Sem.run_bind, Sem.run_pure, Result.andThen_ok, run_underlying hu, hs, Option.map_some, Option.map_none, e2, e4, and_self, if_true, Int.toNat_natCast, adrop, Option.isSome_none, Bool.false_eq_true, if_false]
  | some z1 =>
    obtain ⟨k1, hz1⟩ := hl z1 rfl
    cases oh with
    | none =>
      obtain rfl := hh0 rfl
      simp only [execOp, hx, hz1, Instr.sliceAt, Instr.slice, Instr.sliceBounds, Instr.sliceBound, asIntOf, Sem.run_bind, Sem.run_pure, Result.andThen_ok, run_underlying hu, hs, Option.map_some, Option.map_none, e1, e3, and_self, if_true, Int.toNat_natCast, adrop, Option.isSome_none, Bool.false_eq_true, if_false]
    | some z2 =>
      obtain ⟨k2, hz2⟩ := hh z2 rfl
      simp only [execOp, hx, hz1, hz2, Instr.sliceAt, Instr.slice, Instr.sliceBounds, Instr.sliceBound, asIntOf, Sem.run_bind, Sem.run_pure, Result.andThen_ok, run_underlying hu, hs, Option.map_some, Option.map_none, e1, e2, e3, e4, and_self, if_true, Int.toNat_natCast, adrop, Option.isSome_none, Bool.false_eq_true, if_false]
end

/-! ## 26. Parts of slices, arrays, strings -/
section
variable {d : Nat} {ty : TypeId} {pos : String} {af : Array Edge} {x y y2 : Operand} {v u : Value} {T : TypeId} {t e : TypeId}
theorem run_lo {sz : Nat} {A : Option Addr} {q c : Nat} {k : IntKind} {i : Int} (hu : P.underlying t = some (.slice e)) (hs : ∀ w, (sizeOf e).run P w = .ok sz w) (hc : q ≤ c) (h0 : 0 ≤ i) (h1 : i ≤ (q : Int)) (hx : a.eval x = .slice A q c) (hy : a.eval y = .int k i) :
    (execOp a.eval ⟨some d, .slice t x (some y) none none, ty, pos, af, none⟩).run P w = .ok (.value (.slice (adrop A c i.toNat sz) (q - i.toNat) (c - i.toNat))) w := by
  refine run_cut hu hs hc i.toNat q (fun z hz => ?_) (fun h => by cases h) (fun z hz => by cases hz) (fun _ => rfl) hx (by omega) (Nat.le_refl _)
  cases hz
  exact ⟨k, by rw [Int.toNat_of_nonneg h0]; exact hy⟩
theorem run_lohi {sz : Nat} {A : Option Addr} {q c : Nat} {k k2 : IntKind} {i j : Int} (hu : P.underlying t = some (.slice e)) (hs : ∀ w, (sizeOf e).run P w = .ok sz w) (hc : q ≤ c) (h0 : 0 ≤ i) (h1 : i ≤ j) (h2 : j ≤ (q : Int)) (hx : a.eval x = .slice A q c) (hy : a.eval y = .int k i) (hy2 : a.eval y2 = .int k2 j) :
    (execOp a.eval ⟨some d, .slice t x (some y) (some y2) none, ty, pos, af, none⟩).run P w = .ok (.value (.slice (adrop A c i.toNat sz) (j.toNat - i.toNat) (c - i.toNat))) w := by
  refine run_cut hu hs hc i.toNat j.toNat (fun z hz => ?_) (fun h => by cases h) (fun z hz => ?_) (fun h => by cases h) hx (by omega) (by omega)
  · cases hz; exact ⟨k, by rw [Int.toNat_of_nonneg h0]; exact hy⟩
  · cases hz; exact ⟨k2, by rw [Int.toNat_of_nonneg (by omega)]; exact hy2⟩
theorem adrop0 (A : Option Addr) (c sz : Nat) : adrop A c 0 sz = A := by
  unfold adrop
  split
  · rfl
  · rw [Nat.zero_mul]; cases A <;> rfl
theorem run_hi {sz : Nat} {A : Option Addr} {q c : Nat} {k2 : IntKind} {j : Int} (hu : P.underlying t = some (.slice e)) (hs : ∀ w, (sizeOf e).run P w = .ok sz w) (hc : q ≤ c) (h1 : 0 ≤ j) (h2 : j ≤ (q : Int)) (hx : a.eval x = .slice A q c) (hy2 : a.eval y2 = .int k2 j) :
    (execOp a.eval ⟨some d, .slice t x none (some y2) none, ty, pos, af, none⟩).run P w = .ok (.value (.slice A j.toNat c)) w := by
  have h := run_cut (w := w) (d := d) (ty := ty) (pos := pos) (af := af) (ol := none) (oh := some y2) hu hs hc 0 j.toNat (fun z hz => by cases hz) (fun _ => rfl) (fun z hz => by cases hz; exact ⟨k2, by rw [Int.toNat_of_nonneg h1]; exact hy2⟩) (fun h => by cases h) hx (by omega) (by omega)
  rw [adrop0] at h
  exact h
theorem run_whole {sz : Nat} {A : Option Addr} {q c : Nat} (hu : P.underlying t = some (.slice e)) (hs : ∀ w, (sizeOf e).run P w = .ok sz w) (hc : q ≤ c) (hx : a.eval x = .slice A q c) :
    (execOp a.eval ⟨some d, .slice t x none none none, ty, pos, af, none⟩).run P w = .ok (.value (.slice A q c)) w := by
  have h := run_cut (w := w) (d := d) (ty := ty) (pos := pos) (af := af) (ol := none) (oh := none) hu hs hc 0 q (fun z hz => by cases hz) (fun _ => rfl) (fun z hz => by cases hz) (fun _ => rfl) hx (by omega) (by omega)
  rw [adrop0] at h
  exact h
/-- parts of an array in memory -/
theorem run_arr {N sz : Nat} {ad : Addr} {ol oh : Option Operand} (hu : P.underlying t = some (.array N e)) (hs : ∀ w, (sizeOf e).run P w = .ok sz w) (l h : Nat) (hl : ∀ z, ol = some z → ∃ k, a.eval z = .int k (l : Int)) (hl0 : ol = none → l = 0) (hh : ∀ z, oh = some z → ∃ k, a.eval z = .int k (h : Int)) (hh0 : oh = none → h = N) (hx : a.eval x = .pointer (some ad)) (h1 : l ≤ h) (h2 : h ≤ N) :
    (execOp a.eval ⟨some d, .slice t x ol oh none, ty, pos, af, none⟩).run P w = .ok (.value (.slice (adrop (some ad) N l sz) (h - l) (N - l))) w := by
  have e1 : (l : Int) ≤ (h : Int) := by omega
  have e2 : (h : Int) ≤ (N : Int) := by omega
  have e3 : (0 : Int) ≤ (l : Int) := by omega
  have e4 : (0 : Int) ≤ (h : Int) := by omega
  have e5 : (if N = l then some ad else Option.map (fun q => q.add (l * sz)) (some ad)) = some (if N = l then ad else ad.add (l * sz)) := by split <;> rfl
  unfold adrop
  rw [e5]
  cases ol with
  | none =>
    obtain rfl := hl0 rfl
    cases oh with
    | none =>
      obtain rfl := hh0 rfl
      simp only [execOp, hx, Instr.sliceAt, Instr.sureAddr, Instr.sliceBounds, Instr.sliceBound, asIntOf, Sem.run_bind, Sem.run_pure, Result.andThen_ok, run_underlying hu, hs, Option.map_some, Option.map_none]
    | some z2 =>
      obtain ⟨k2, hz2⟩ := hh z2 rfl
      simp only [execOp, hx, hz2, Instr.sliceAt, Instr.sureAddr, Instr.sliceBounds, Instr.sliceBound, asIntOf, Sem.run_bind, Sem.run_pure, Result.andThen_ok, run_underlying hu, hs, Option.map_some, Option.map_none, e2, e4, and_self, if_true, Int.toNat_natCast]
  | some z1 =>
    obtain ⟨k1, hz1⟩ := hl z1 rfl
    cases oh with
    | none =>
      obtain rfl := hh0 rfl
      simp only [execOp, hx, hz1, Instr.sliceAt, Instr.sureAddr, Instr.sliceBounds, Instr.sliceBound, asIntOf, Sem.run_bind, Sem.run_pure, Result.andThen_ok, run_underlying hu, hs, Option.map_some, Option.map_none, e1, e3, and_self, if_true, Int.toNat_natCast]
    | some z2 =>
      obtain ⟨k2, hz2⟩ := hh z2 rfl
      simp only [execOp, hx, hz1, hz2, Instr.sliceAt, Instr.sureAddr, Instr.sliceBounds, Instr.sliceBound, asIntOf, Sem.run_bind, Sem.run_pure, Result.andThen_ok, run_underlying hu, hs, Option.map_some, Option.map_none, e1, e2, e3, e4, and_self, if_true, Int.toNat_natCast]
end
end Go.Proofs.Ytoogcdmdbogkeaa.G
