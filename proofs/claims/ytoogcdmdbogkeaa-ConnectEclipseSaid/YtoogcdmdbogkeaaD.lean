/- Small facts for the walks: results in memory, fields of values, strings, appended zeros. No conditions. -/
import Derived.Test.YtoogcdmdbogkeaaC
set_option linter.unusedVariables false
set_option linter.unusedSimpArgs false
set_option linter.unusedSectionVars false
namespace Go.Proofs.Ytoogcdmdbogkeaa.G
open Go Go.RowKit
variable {P : Program} {n : Nat} {E : Env} {a : Act} {w w' w0 : World} {ops : Array Oper} {Q : Exit → Act → World → Prop} {rest : List Oper} {C : Act → World → Prop} {F : List (Option Nat)} {M M' : List Ent}

/-! ## 30. Small facts -/
theorem At.extB {ad : Addr} {cs : List Value} (h : At w ad cs) (hb : Below w.heap.size w w') : At w' ad cs := h.ext fun b hlt => hb.block b hlt
section
variable {α : Type} {p : Pl α} {A : Option Addr} {xs : List α}
theorem Row.extB (h : Row p w A xs) (hb : Below w.heap.size w w') : Row p w' A xs := h.ext hb
theorem Row.elem2 (h : Row p w A xs) {m : Nat} (hn : xs.length = m) (z : α) {i : Int} (h0 : 0 ≤ i) (h1 : i < (m : Int)) {ad : Addr} (hq : A = some ad) : At w (ad.add (i.toNat * p.sz)) (p.enc (xs.getD i.toNat z)) := by
  obtain ⟨ad', e, h2⟩ := h.elem z i h0 (by omega)
  rw [hq] at e
  cases e
  exact h2
end
theorem Row.arr {m : Nat} {k : IntKind} {hn : 0 < m} {v : Vector Int m} {ad : Addr} (h : At w ad ((Pl.vec m k hn).enc v)) : Row (Pl.int k) w (some ad) v.toList :=
  ⟨(fun e => by cases e), fun ad' e => by cases e; rw [flat_int]; exact h⟩
theorem len_drop {α : Type} {xs : List α} {q l : Nat} (h : xs.length = q) : (xs.drop l).length = q - l := by rw [List.length_drop, h]
theorem len_take {α : Type} {xs : List α} {q m : Nat} (h : xs.length = q) (hm : m ≤ q) : (xs.take m).length = m := by rw [List.length_take]; omega
theorem len_td {α : Type} {xs : List α} {q l m : Nat} (h : xs.length = q) (hm : m ≤ q) : ((xs.take m).drop l).length = m - l := by rw [List.length_drop, List.length_take]; omega
theorem vlen {m : Nat} (v : Vector Int m) : v.toList.length = m := by simp
/-- an array in a box, read by a call that is not handed the box -/
theorem Mem.arrC {Ms R : List Ent} {k : IntKind} {xs : List Int} {g : Nat} {T : TypeId} {cs : List Value} {ad : Addr} (hM : Mem F w0 w (Ms ++ R)) (hp : Put R (.box g T cs) (.box g T cs) R) (ha : ad.block = g) (h : Row (Pl.int k) w (some ad) xs) : Ro (Ms.map Ent.key) (Pl.int k) w (some ad) xs := by
  refine ⟨h, fun ad' e => .inr fun hm => ?_⟩
  cases e
  obtain ⟨y, hy, ek⟩ := List.mem_map.1 hm
  exact ((List.pairwise_append.1 hM.apart).2.2 y hy _ hp.mem).right rfl _ ek (by rw [ha]; rfl)
theorem arr_eq {cs c : List Value} {d : Array Value} {off : Nat} (h : spl cs off d.toList = c) : splice cs.toArray off d = c.toArray := by rw [splice_spl, h]
theorem enc_fitL {α : Type} (p : Pl α) (x : α) {m : Nat} (h : Nat.ble m p.sz = true) : Nat.ble m (p.enc x).length = true := by rw [p.len]; exact h
theorem one_nil : ∀ l ∈ ([] : List (List Value)), ∀ u ∈ l, u.oneCell' = true := by simp
theorem one_cons {s : List Value} {r : List (List Value)} (h : ∀ u ∈ s, u.oneCell' = true) (h2 : ∀ l ∈ r, ∀ u ∈ l, u.oneCell' = true) : ∀ l ∈ s :: r, ∀ u ∈ l, u.oneCell' = true := by
  intro l hl
  rcases List.mem_cons.1 hl with rfl | hl
  · exact h
  · exact h2 l hl
theorem one_flat {r : List (List Value)} (h : ∀ l ∈ r, ∀ u ∈ l, u.oneCell' = true) : ∀ u ∈ (Value.agg r.flatten.toArray).cells.toList, u.oneCell' = true := by
  intro u hu
  obtain ⟨l, hl, hu⟩ := List.mem_flatten.1 (show u ∈ r.flatten from hu)
  exact h l hl u hu
section
variable {α : Type} {p : Pl α} {A : Option Addr} {xs : List α} {e : TypeId} {q c : Nat}
theorem RowOk.cutlo {l : Nat} (h : RowOk w e p.sz (.slice A q c) (p.flat xs)) (hl : l ≤ xs.length) : RowOk w e p.sz (.slice (adrop A c l p.sz) (q - l) (c - l)) (p.flat (xs.drop l)) := by
  have h1 := h.len
  have h2 := h.cut (l := l) (m := q) (by omega) (Nat.le_refl _)
  rw [List.take_of_length_le (by omega)] at h2
  exact h2
theorem RowOk.cuthi {m : Nat} (h : RowOk w e p.sz (.slice A q c) (p.flat xs)) (hm : m ≤ q) : RowOk w e p.sz (.slice A m c) (p.flat (xs.take m)) := by
  have h2 := h.cut (l := 0) (m := m) (Nat.zero_le _) hm
  rw [adrop0] at h2
  exact h2
theorem key_adrop (A : Option Addr) (q c l sz q2 c2 : Nat) : Value.ownBlock (.slice (adrop A c l sz) q2 c2) = Value.ownBlock (.slice A q c) := by
  unfold adrop
  split
  · cases A <;> rfl
  · cases A with
    | none => rfl
    | some ad => simp [Value.ownBlock, add_block]
theorem key_hi (A : Option Addr) (q c q2 c2 : Nat) : Value.ownBlock (.slice A q2 c2) = Value.ownBlock (.slice A q c) := by cases A <;> rfl
end
def RVok (P : Program) (E : Env) (w : World) (x : ResultVar) (v : Value) : Prop := ∀ (n : Nat) (a : Act), Has n E a → (match x with
    | .tmp t => a.tmps[t]?.getD undef = v
    | .cell t T => ∃ ad, a.tmps[t]?.getD undef = .pointer (some ad) ∧ (loadVar T ad).run P w = .ok v w)
theorem RV.tmp {t : Nat} {v : Value} (h : Env.get E t = some v) : RVok P E w (.tmp t) v := fun n a hA => by
  have := hA.get t v h
  simpa using this
theorem RV.cell {t : Nat} {T : TypeId} {v : Value} {ad : Addr} (h : Env.get E t = some (.pointer (some ad))) (hl : (loadVar T ad).run P w = .ok v w) : RVok P E w (.cell t T) v := fun n a hA => by
  have := hA.get t _ h
  exact ⟨ad, by simpa using this, hl⟩
theorem ret_mix2 {fn : Func} {R : Ending → World → Prop} {x1 x2 : ResultVar} {v1 v2 : Value} (hA : Has n E a) (hr : fn.results = #[x1, x2]) (h1 : RVok P E w x1 v1) (h2 : RVok P E w x2 v2) (h : R (.returned (.tuple #[v1, v2])) w) : bodyPost P fn R .ret a w := by
  refine ⟨hA.dfr, .tuple #[v1, v2], ?_, h⟩
  have e1 := h1 n a hA
  have e2 := h2 n a hA
  cases x1 with
  | tmp t1 => cases x2 with
    | tmp t2 => simp only at e1 e2; simp [results, hr, e1, e2]
    | cell t2 T2 => simp only at e1 e2; obtain ⟨ad, f1, f2⟩ := e2; simp [results, hr, e1, f1, f2, asAddr]
  | cell t1 T1 => cases x2 with
    | tmp t2 => simp only at e1 e2; obtain ⟨ad, f1, f2⟩ := e1; simp [results, hr, e2, f1, f2, asAddr]
    | cell t2 T2 => simp only at e1 e2; obtain ⟨ad, f1, f2⟩ := e1; obtain ⟨ad', f1', f2'⟩ := e2; simp [results, hr, f1, f2, f1', f2', asAddr]
theorem ret_mix3 {fn : Func} {R : Ending → World → Prop} {x1 x2 x3 : ResultVar} {v1 v2 v3 : Value} (hA : Has n E a) (hr : fn.results = #[x1, x2, x3]) (h1 : RVok P E w x1 v1) (h2 : RVok P E w x2 v2) (h3 : RVok P E w x3 v3) (h : R (.returned (.tuple #[v1, v2, v3])) w) : bodyPost P fn R .ret a w := by
  refine ⟨hA.dfr, .tuple #[v1, v2, v3], ?_, h⟩
  have e1 := h1 n a hA
  have e2 := h2 n a hA
  have e3 := h3 n a hA
  cases x1 <;> cases x2 <;> cases x3 <;> (simp only at e1 e2 e3) <;> (try obtain ⟨ad1, f1, g1⟩ := e1) <;> (try obtain ⟨ad2, f2, g2⟩ := e2) <;> (try obtain ⟨ad3, f3, g3⟩ := e3) <;> simp_all [results, asAddr]
theorem run_loadW {T : TypeId} {ad : Addr} {m : Nat} {cs : List Value} (hagg : ∀ w, (isAgg T).run P w = .ok true w) (hs : ∀ w, (sizeOf T).run P w = .ok m w) (hm : cs.length = m) (h : At w ad cs) : (loadVar T ad).run P w = .ok (.agg cs.toArray) w :=
  run_loadN (hagg w) (by rw [hm]; exact hs w) h
theorem fill_nilS {place : Nat → Option (Nat × Nat)} {cells : Array Value} : Instr.fill place cells [] = some cells := rfl
theorem fill_seg {place : Nat → Option (Nat × Nat)} {segs : List (List Value)} (i : Nat) {off size : Nat} {v : Value} {s : List Value} {rest : List (Nat × Value)} {r : Option (Array Value)} (hp : place i = some (off, size)) (hs : v.cells.size = size) (hi : segs[i]? = some s) (ho : (segs.take i).flatten.length = off) (hl : s.length = v.cells.size) (h : Instr.fill place (segs.set i v.cells.toList).flatten.toArray rest = r) :
    Instr.fill place segs.flatten.toArray ((i, v) :: rest) = r := by
  have hlen : off + size ≤ segs.flatten.toArray.size := by
    rw [List.size_toArray, seg_split segs i hi]
    simp only [List.length_append]
    omega
  rw [fill_cons hp hs hlen, splice_seg segs i v.cells off hi ho hl, h]
section
variable {d : Nat} {ty : TypeId} {pos : String} {af : Array Edge} {x y y2 : Operand} {v u : Value} {T : TypeId} {t e : TypeId}
theorem run_arr0 {N sz : Nat} {ad : Addr} {ol oh : Option Operand} (hu : P.underlying t = some (.array N e)) (hs : ∀ w, (sizeOf e).run P w = .ok sz w) (h : Nat) (hl : ∀ z, ol = some z → ∃ k, a.eval z = .int k ((0 : Nat) : Int)) (hl0 : ol = none → (0 : Nat) = 0) (hh : ∀ z, oh = some z → ∃ k, a.eval z = .int k (h : Int)) (hh0 : oh = none → h = N) (hx : a.eval x = .pointer (some ad)) (h2 : h ≤ N) :
    (execOp a.eval ⟨some d, .slice t x ol oh none, ty, pos, af, none⟩).run P w = .ok (.value (.slice (some ad) h N)) w := by
  have h1 := run_arr (w := w) (d := d) (ty := ty) (pos := pos) (af := af) hu hs 0 h hl hl0 hh hh0 hx (Nat.zero_le _) h2
  rw [adrop0] at h1
  exact h1
theorem run_fn2 (hA : Has n E a) {fn : Fn} {cs : Array Operand} (args : List Value) (hx : cs.toList.map (ev E) = args.map some) : (execOp a.eval ⟨some d, .makeFunc fn #[] cs, ty, pos, af, none⟩).run P w = .ok (.value (.func fn #[] args.toArray)) w := by
  have h := evs_map hA args hx
  simp [execOp, Instr.makeFunc, h]
theorem run_fieldv {fs : Array Field} {f : Field} {j : Nat} {cs : Array Value} (hu : P.underlying t = some (.struct fs)) (hf : fs[j]? = some f) (hp : (part f.type cs f.offset).run P w = .ok v w) (hx : a.eval x = .agg cs) :
    (execOp a.eval ⟨some d, .field t x j, ty, pos, af, none⟩).run P w = .ok (.value v) w := by
  simp [execOp, hx, Instr.field, run_underlying hu, hf, asAgg, hp]
theorem run_fieldv1 {fs : Array Field} {f : Field} {j : Nat} {cs : Array Value} (hu : P.underlying t = some (.struct fs)) (hf : fs[j]? = some f) (hagg : ∀ w, (isAgg f.type).run P w = .ok false w) (hc : cs[f.offset]? = some v) (hx : a.eval x = .agg cs) :
    (execOp a.eval ⟨some d, .field t x j, ty, pos, af, none⟩).run P w = .ok (.value v) w :=
  run_fieldv hu hf (by simp [part, hagg, hc]) hx
theorem run_catstr {s r : ByteArray} (hx : a.eval x = .string s) (hy : a.eval y = .string r) (h : s.size + r.size ≤ 140737488355328) {yt : TypeId} :
    (execOp a.eval ⟨some d, .binOp .add t x y yt, ty, pos, af, none⟩).run P w = .ok (.value (.string (s ++ r))) w := by
  have h1 : ¬ (((s.size + r.size : Nat) : Int) > IntKind.i64.max) := by simp only [IntKind.max, IntKind.bits, IntKind.signed]; simp; omega
  have h2 : (Op.stringOp .add s r).run P w = .ok (.string (s ++ r)) w := by
    simp only [Op.stringOp, if_neg h1, Sem.run_pure]
  have h3 : (binOp .add t (.string s) (.string r)).run P w = .ok (.string (s ++ r)) w := h2
  have h4 : (eqGuard .add t x y (.string s) (.string r)).run P w = .ok () w := rfl
  simp only [execOp, hx, hy, Sem.run_bind, h3, h4, Sem.run_pure, Result.andThen_ok]
theorem run_strlo {s : ByteArray} {k : IntKind} {i : Int} (hu : P.underlying t = some .string) (h0 : 0 ≤ i) (h1 : i ≤ (s.size : Int)) (hx : a.eval x = .string s) (hy : a.eval y = .int k i) :
    (execOp a.eval ⟨some d, .slice t x (some y) none none, ty, pos, af, none⟩).run P w = .ok (.value (.string (s.extract i.toNat s.size))) w := by
  simp [execOp, hx, hy, Instr.sliceAt, Instr.slice, Instr.sliceBounds, Instr.sliceBound, asIntOf, run_underlying hu, h0, h1]
theorem run_strhi {s : ByteArray} {k : IntKind} {i : Int} (hu : P.underlying t = some .string) (h0 : 0 ≤ i) (h1 : i ≤ (s.size : Int)) (hx : a.eval x = .string s) (hy : a.eval y = .int k i) :
    (execOp a.eval ⟨some d, .slice t x none (some y) none, ty, pos, af, none⟩).run P w = .ok (.value (.string (s.extract 0 i.toNat))) w := by
  simp [execOp, hx, hy, Instr.sliceAt, Instr.slice, Instr.sliceBounds, Instr.sliceBound, asIntOf, run_underlying hu, h0, h1]
theorem run_strlohi {s : ByteArray} {k k2 : IntKind} {i j : Int} (hu : P.underlying t = some .string) (h0 : 0 ≤ i) (h1 : i ≤ j) (h2 : j ≤ (s.size : Int)) (hx : a.eval x = .string s) (hy : a.eval y = .int k i) (hy2 : a.eval y2 = .int k2 j) :
    (execOp a.eval ⟨some d, .slice t x (some y) (some y2) none, ty, pos, af, none⟩).run P w = .ok (.value (.string (s.extract i.toNat j.toNat))) w := by
  have h3 : 0 ≤ j := by omega
  have h4 : i ≤ (j.toNat : Int) := by omega
  simp only [execOp, hx, hy, hy2, Instr.sliceAt, Instr.slice, Instr.sliceBounds, Instr.sliceBound, asIntOf, Sem.run_bind, Sem.run_pure, Result.andThen_ok, run_underlying hu, h0, h2, h3, h4, and_self, if_true, Option.map_some, Option.map_none, Option.isSome_none, Bool.false_eq_true, if_false]
theorem foldl_push : ∀ (l : List Int) (r : ByteArray), l.foldl (fun r n => r.push (UInt8.ofNat n.toNat)) r = ⟨r.data ++ (l.map fun n => UInt8.ofNat n.toNat).toArray⟩
  | [], r => by simp
  | b :: l, r => by
    simp only [List.foldl_cons]
    rw [foldl_push l]
    simp [ByteArray.push]
theorem run_bytes2str {src dst : TypeId} {A : Option Addr} {q c : Nat} {xs : List Int} (hs : P.underlying src = some (.slice e)) (he : P.underlying e = some (.int .u8)) (hd : P.underlying dst = some .string) (hx : a.eval x = .slice A q c) (hR : Row (Pl.int .u8) w A xs) (hq : xs.length = q) :
    (execOp a.eval ⟨some d, .convert src dst x, ty, pos, af, none⟩).run P w = .ok (.value (.string (ofBytes xs))) w := by
  subst hq
  have h1 := run_convert_bytes_string (P := P) w src dst e A xs.length c hs he hd
  have h2 : (Conv.bytesToString (.slice A xs.length c)).run P w = .ok (.string (ofBytes xs)) w := by
    cases A with
    | none => rw [hR.1 rfl]; simp [Conv.bytesToString, ofBytes]; rfl
    | some ad =>
      have h3 := hR.2 ad rfl
      rw [flat_int] at h3
      have h4 := run_loadCells_list (P := P) w ad (xs.map (Value.int .u8)) h3
      rw [List.length_map] at h4
      rw [run_bytesToString w ad xs.length c xs h4, foldl_push]
      simp [ofBytes]
  simp only [execOp, hx, Sem.run_bind, h1, h2, Result.andThen_ok, Sem.run_pure]
end


/-! ## 30b. append(v, make(.., l)...) -/
theorem run_appz {t tx e ty : TypeId} {kx : IntKind} {i : TypeInfo} {z : Value} {sz bytes : Nat} (ht : P.underlying t = some (.slice e)) (htx : P.underlying tx = some (.int kx)) (hi : P.info? e = some i) (hz : i.zero = some z) (hsize : i.size = sz) (hby : i.bytes = bytes) (hzs : z.cells.size = sz) (hsz : 0 < sz) (hb0 : 0 < bytes)
    {v : Value} {A : Option Addr} {q c : Nat} {l : Int} {ky : IntKind} {cs news : List Value} (hv : v = .slice A q c) (hok : RowOk w e sz v cs) (h0 : 0 ≤ l) (hnews : (Builtin.zeroCells z.cells l.toNat).toList = news) (hone : ∀ u ∈ news, u.oneCell' = true) (hbytes : (q + l.toNat) * bytes ≤ 140737488355328) :
    ∃ v' w', (Builtin.append_ #[t, tx] ty #[v, .int ky l]).run P w = .ok v' w' ∧ RowOk w' e sz v' (cs ++ news) ∧ w.grownBy w' v.ownBlock ∧ (v'.ownBlock = v.ownBlock ∨ ∀ k, v'.ownBlock = some k → w.heap.size ≤ k) ∧ ∃ A' c', v' = .slice A' (q + l.toNat) c' := by
  subst hv; subst hsize; subst hby
  have hcl := hok.length
  have hm : ∃ m : Nat, l = (m : Int) := ⟨l.toNat, by omega⟩
  obtain ⟨m, rfl⟩ := hm
  simp only [Int.toNat_natCast] at hnews hbytes ⊢
  have hle : q + m ≤ 140737488355328 := Nat.le_trans (Nat.le_mul_of_pos_right _ hb0) hbytes
  have hsum : news.length = m * i.size := by rw [← hnews, Array.length_toList, size_zeroCells, hzs]
  have hmm : m * i.bytes ≤ 140737488355328 := Nat.le_trans (Nat.mul_le_mul_right _ (by omega)) hbytes
  have w1 : IntKind.i64.wrap (m : Int) = (m : Int) := by rw [IntKind.wrap_i64]; omega
  have n1 : ¬ ((m : Int) < 0) := by omega
  have n2 : ¬ (281474976710656 < (m : Int) * (i.bytes : Int)) := by
    have : ((m * i.bytes : Nat) : Int) ≤ 140737488355328 := by omega
    rw [Int.natCast_mul] at this
    omega
  have hn2 : Builtin.zeroCells z.cells m = news.toArray := by rw [← hnews]
  by_cases hroom : q + m ≤ c
  · cases A with
    | none =>
      rcases hok with ⟨h1, h2⟩ | ⟨g, o, n, cap, cur, fr, h1, _⟩
      · cases h1
        subst h2
        obtain rfl : m = 0 := by omega
        have hn : news = [] := List.eq_nil_of_length_eq_zero (by simpa using hsum)
        subst hn
        refine ⟨.slice none 0 0, w, ?_, .inl ⟨rfl, rfl⟩, ⟨rfl, rfl, rfl, Nat.le_refl _, fun _ _ _ => rfl⟩, .inl rfl, none, 0, rfl⟩
        simp [Builtin.append_, run_underlying ht, run_underlying htx, sizeOf, typeInfo, hi, asInt, asIntOf, IntKind.wrap_i64]
      · cases h1
    | some ad =>
      rcases hok with ⟨h1, h2⟩ | ⟨g, o, n, cap, cur, fr, h1, hg, hc, hn, hmx, hsz2, htk⟩
      · cases h1
      · injection h1 with e1 e2 e3
        injection e1 with e1
        subst e1; subst e2; subst e3
        have hmul : (q + m) * i.size ≤ c * i.size := Nat.mul_le_mul_right _ hroom
        rw [Nat.add_mul] at hmul
        have hst := run_cells_spl P (o := o + q * i.size) (vs := news) hg hc (by omega) hone
        have hto : (cur.toList.take o).length = o := by rw [List.length_take, Array.length_toList]; omega
        have hsplit : cur.toList = cur.toList.take o ++ (cs ++ cur.toList.drop (o + q * i.size)) := by
          rw [← htk, ← List.drop_drop, List.take_append_drop, List.take_append_drop]
        have hsl : (spl cur.toList (o + q * i.size) news).length = cur.size := by
          have h2 : cur.toList.length = cur.size := Array.length_toList
          have h1 : o + q * i.size + news.length ≤ cur.toList.length := by omega
          rw [spl_len h1, h2]
        have e4 : spl cur.toList (o + q * i.size) news = cur.toList.take o ++ (cs ++ news ++ cur.toList.drop (o + q * i.size + news.length)) := by
          unfold spl
          have : cur.toList.take (o + q * i.size) = cur.toList.take o ++ cs := by
            conv => lhs; rw [hsplit]
            rw [← List.append_assoc, List.take_left' (by rw [List.length_append, hto, hcl])]
          rw [this]
          simp [List.append_assoc]
        refine ⟨.slice (some ⟨g, o, none⟩) (q + m) c, w.setRow g (spl cur.toList (o + q * i.size) news).toArray, ?_, ?_, grown_setRow _ _ _, .inl rfl, _, _, rfl⟩
        · by_cases hz0 : m * i.size = 0
          · have hn0 : news = [] := List.eq_nil_of_length_eq_zero (by omega)
            subst hn0
            have hst' : (storeCells ⟨g, o + q * i.size, none⟩ []).run P w = .ok () (w.setRow g (spl cur.toList (o + q * i.size) []).toArray) := hst
            simp [Builtin.append_, run_underlying ht, run_underlying htx, sizeOf, typeInfo, hi, asInt, asIntOf, w1, n1, n2, hroom, add_mk, hz0, hst']
          · simp [Builtin.append_, run_underlying ht, run_underlying htx, sizeOf, typeInfo, hi, asInt, asIntOf, w1, n1, n2, hroom, add_mk, hz0, zeroValue, hz, hn2, hst]
        · refine .inr ⟨g, o, q + m, c, _, fr, rfl, setRow_heap w g cur _ e fr hg, ?_, hroom, hmx, ?_, ?_⟩
          · rw [List.size_toArray, hsl]; exact hc
          · rw [List.size_toArray, hsl]; exact hsz2
          · show List.take _ (List.drop o (spl cur.toList (o + q * i.size) news)) = _
            rw [e4, List.drop_left' hto, List.take_left' (by rw [List.length_append, hcl, hsum, Nat.add_mul])]
  · have hfit := growslice_fits (need := q + m) (old := c) (bytes := i.bytes) (by omega) hbytes
    have h63' : ¬ (9223372036854775807 < ((q : Int) + (m : Int))) := by omega
    have h48' : ¬ (281474976710656 < Builtin.nextslicecap (q + m) c * i.bytes) := by omega
    have hge := grownCap_ge w (q + m) c e
    have hcm : grownCap w (q + m) c e ≤ maxLen := grownCap_le_maxLen w (q + m) c e (by simp only [maxLen]; omega)
    have hold : (Builtin.firstCells i.size q (.slice A q c)).run P w.drew = .ok cs.toArray w.drew := by
      cases A with
      | none =>
        rcases hok with ⟨h1, h2⟩ | ⟨g, o, n, cap, cur, fr, h1, _⟩
        · subst h2; simp [Builtin.firstCells]
        · cases h1
      | some ad => exact run_firstCells_some w.drew i.size q ad q c cs hcl (by simpa using hok.cells)
    refine ⟨.slice (some ⟨w.heap.size, 0, none⟩) (q + m) (grownCap w (q + m) c e), w.drew.alloc (.cells (cs.toArray ++ news.toArray ++ Builtin.zeroCells z.cells (grownCap w (q + m) c e - (q + m))) e), ?_, ?_, ⟨rfl, rfl, rfl, by simp, fun k hk _ => heap_alloc_old w.drew _ k hk⟩, .inr (fun k hk => by cases hk; exact Nat.le_refl _), _, _, rfl⟩
    · have e5 : (cs ++ news).toArray = cs.toArray ++ news.toArray := by simp
      by_cases hz0 : m * i.size = 0
      · have hn0 : news = [] := List.eq_nil_of_length_eq_zero (by omega)
        subst hn0
        simp [Builtin.append_, run_underlying ht, run_underlying htx, sizeOf, typeInfo, hi, asInt, asIntOf, w1, n1, n2, hroom, h63', h48', Question.forced, hold, hz0, zeroValue, hz, newRow, grownCap]
      · simp [Builtin.append_, run_underlying ht, run_underlying htx, sizeOf, typeInfo, hi, asInt, asIntOf, w1, n1, n2, hroom, h63', h48', Question.forced, hold, hz0, zeroValue, hz, hn2, newRow, grownCap]
        rw [e5, Array.append_assoc]
    · refine .inr ⟨w.heap.size, 0, q + m, _, _, (0, 0), rfl, heap_alloc_new w.drew _, cold0 _, hge, hcm, ?_, ?_⟩
      · simp only [Array.size_append, List.size_toArray, size_zeroCells, hzs, hcl, hsum, ← Nat.add_mul, Nat.zero_add]
        apply Nat.le_of_eq
        congr 1
        omega
      · simp only [Array.toList_append, List.append_assoc, List.drop_zero]
        rw [← List.append_assoc]
        exact List.take_left' (by rw [List.length_append, hcl, hsum, Nat.add_mul])
section
variable {d : Nat} {ty : TypeId} {pos : String} {af : Array Edge} {x y : Operand}
theorem e_appendz {M'' : Value → List Ent} {α : Type} {p : Pl α} {t tx e : TypeId} {kx ky : IntKind} {z : Value} {bytes : Nat} {A : Option Addr} {q c : Nat} {l : Int} {xs : List α} {zx : α} (h : Elt P p t e z bytes) (hzx : z.cells.toList = p.enc zx) (htx : P.underlying tx = some (.int kx)) (hM : Mem F w0 w M) (hp : ∀ v', Put M (.row e p.sz (.slice A q c) (p.flat xs)) (.row e p.sz v' (p.flat (xs ++ List.replicate l.toNat zx))) (M'' v')) (h0 : 0 ≤ l) (hl : (q + l.toNat) * bytes ≤ 140737488355328) (hA : Has n E a) (hx : ev E x = some (.slice A q c)) (hy : ev E y = some (.int ky l)) (hd : d < n)
    (K : ∀ w' A' c', Mem F w0 w' (M'' (.slice A' (q + l.toNat) c')) → w.grownBy w' (Value.ownBlock (.slice A q c)) → ∀ a', Has n ((d, .slice A' (q + l.toNat) c') :: E) a' → C a' w') :
    Go1 P ops Q ⟨some d, .call { callee := .builtin .append, args := #[x, y], argTypes := #[t, tx] }, ty, pos, af, none⟩ C a w := by
  obtain ⟨i, hi, hz, hsz, hby⟩ := h.info
  have hnews : (Builtin.zeroCells z.cells l.toNat).toList = p.flat (List.replicate l.toNat zx) := by
    rw [← made_cells p zx z.cells hzx l.toNat]
    simp only [Builtin.zeroCells, madeCells, h.hz]
  obtain ⟨v', w', hr, ho, hg, hk, A', c', rfl⟩ := run_appz (ty := ty) (ky := ky) h.ht htx hi hz hsz hby h.hz p.pos h.hb rfl (hM.ok _ (hp (.slice none 0 0)).mem) h0 hnews (p.flat_one _) hl
  refine stv (v := .slice A' (q + l.toNat) c') (w' := w') hA hd ?_ (K w' A' c' (hM.put (hp _) hg (by rw [p.flat_append]; exact ho) hk) hg)
  have e1 := hA.ev hx
  have e2 := hA.ev hy
  rw [eop_builtin]
  simp [builtin, e1, e2, hr]
end
/-! ## A row of the caller's, asked whether it is nil -/
section
variable {d : Nat} {t : TypeId} {x y : Operand} {yt ty : TypeId} {pos : String} {af : Array Edge}
theorem run_slnil {e : TypeId} {A : Option Addr} {q c : Nat} {nl : Bool} (hu : P.underlying t = some (.slice e)) (hx : a.eval x = .slice A q c) (hy : a.eval y = .slice none 0 0) (hn : A.isNone = nl) :
    (execOp a.eval ⟨some d, .binOp .eql t x y yt, ty, pos, af, none⟩).run P w = .ok (.value (.bool nl)) w := by
  subst hn
  have hq : (eqGuard .eql t x y (.slice A q c) (.slice none 0 0)).run P w = .ok () w := rfl
  have hr : (binOp .eql t (.slice A q c) (.slice none 0 0)).run P w = .ok (.bool A.isNone) w := by
    have h : ∀ d : Nat, (Op.equalIn (d + 1) t (.slice A q c) (.slice none 0 0)).run P w = .ok A.isNone w := fun d => by
      cases A <;> simp [Op.equalIn, run_underlying hu]
    have h1 := h 9999
    simp only [binOp, Op.equal, Op.maxDepth]
    simp [h1]
  simp only [execOp, hx, hy, Sem.run_bind, hq, hr, Result.andThen_ok, Sem.run_pure]
end
/-! ## What is new lies above: for regions that draw their order -/
section
variable {d : Nat} {ty : TypeId} {pos : String} {af : Array Edge} {x y : Operand} {u : Value}
theorem e_lit0L {α : Type} {p : Pl α} {t e : TypeId} {z : Value} {bytes : Nat} {sty : TypeId} (h : Elt P p t e z bytes) (hM : Mem F w0 w M) (hA : Has n E a) (hd : d < n)
    (K : ∀ w' g, Mem F w0 w' (.row e p.sz (.slice (some ⟨g, 0, none⟩) 0 0) (p.flat []) :: M) → Below w.heap.size w w' → w.heap.size ≤ g → ∀ a', Has n ((d, .slice (some ⟨g, 0, none⟩) 0 0) :: E) a' → C a' w') :
    Go1 P ops Q ⟨some d, .buildSlice t 0 #[], sty, pos, af, none⟩ C a w :=
  st_lit0 h hA hd fun w' g hg hz hO hE a' hA' => K w' g (hM.new hE (x := .row e p.sz (.slice (some ⟨g, 0, none⟩) 0 0) (p.flat [])) (Own.rowOk (xs := []) hO) (fun k hk => by cases hk; exact Nat.le_of_eq hg.symm)) hE (Nat.le_of_eq hg.symm) a' hA'
theorem e_litNL {α : Type} {p : Pl α} {t e : TypeId} {z : Value} {bytes : Nat} {sty : TypeId} {k : Nat} {parts : Array (Nat × Operand)} (xs : List α) (us : List Value) (h : Elt P p t e z bytes) (hM : Mem F w0 w M) (hk : xs.length = k) (hs16 : k * p.sz ≤ 16777216) (hA : Has n E a) (hv : parts.toList.map (fun p => (p.1, ev E p.2)) = (enumV 0 us).map (fun q => (q.1, some q.2))) (hc : us.map (·.cells) = xs.map (fun x => (p.enc x).toArray)) (hne : xs ≠ []) (hd : d < n)
    (K : ∀ w' g, Mem F w0 w' (.row e p.sz (.slice (some ⟨g, 0, none⟩) k k) (p.flat xs) :: M) → Below w.heap.size w w' → w.heap.size ≤ g → ∀ a', Has n ((d, .slice (some ⟨g, 0, none⟩) k k) :: E) a' → C a' w') :
    Go1 P ops Q ⟨some d, .buildSlice t k parts, sty, pos, af, none⟩ C a w :=
  st_litN xs us h hk hs16 hA hv hc hne hd fun w' g hg hz hO hE a' hA' => K w' g (hM.new hE (x := .row e p.sz (.slice (some ⟨g, 0, none⟩) k k) (p.flat xs)) (Own.rowOk hO) (fun k hk => by cases hk; exact Nat.le_of_eq hg.symm)) hE (Nat.le_of_eq hg.symm) a' hA'
theorem e_appendL {M'' : Value → List Ent} {α : Type} {p : Pl α} {t tx e : TypeId} {z : Value} {bytes : Nat} {A : Option Addr} {q c m : Nat} {xs ys : List α} (h : Elt P p t e z bytes) (hM : Mem F w0 w M) (hp : ∀ v', Put M (.row e p.sz (.slice A q c) (p.flat xs)) (.row e p.sz v' (p.flat (xs ++ ys))) (M'' v')) (hs : Src P w tx p.sz u m (p.flat ys)) (hl : (q + m) * bytes ≤ 140737488355328) (hA : Has n E a) (hx : ev E x = some (.slice A q c)) (hy : ev E y = some u) (hd : d < n)
    (K : ∀ w' A' c', Mem F w0 w' (M'' (.slice A' (q + m) c')) → w.grownBy w' (Value.ownBlock (.slice A q c)) → (∀ B, B ≤ w.heap.size → (∀ k, Value.ownBlock (.slice A q c) = some k → B ≤ k) → ∀ k, Value.ownBlock (.slice A' (q + m) c') = some k → B ≤ k) → ∀ a', Has n ((d, .slice A' (q + m) c') :: E) a' → C a' w') :
    Go1 P ops Q ⟨some d, .call { callee := .builtin .append, args := #[x, y], argTypes := #[t, tx] }, ty, pos, af, none⟩ C a w := by
  obtain ⟨i, hi, hz, hsz, hby⟩ := h.info
  obtain ⟨v', w', hr, ho, hg, hk, A', c', rfl⟩ := run_app2 (ty := ty) h.ht hi hz hsz hby h.hz p.pos h.hb rfl (hM.ok _ (hp (.slice none 0 0)).mem) hs hl
  refine stv (v := .slice A' (q + m) c') (w' := w') hA hd ?_ (K w' A' c' (hM.put (hp _) hg (by rw [p.flat_append]; exact ho) hk) hg (fun B hB ho k hk' => hk.elim (fun e => ho k (e ▸ hk')) (fun h => Nat.le_trans hB (h k hk'))))
  have e1 := hA.ev hx
  have e2 := hA.ev hy
  rw [eop_builtin]
  simp [builtin, e1, e2, hr]
theorem e_append0L {α : Type} {p : Pl α} {t tx e : TypeId} {z : Value} {bytes : Nat} {m : Nat} {ys : List α} (h : Elt P p t e z bytes) (hM : Mem F w0 w M) (hs : Src P w tx p.sz u m (p.flat ys)) (hl : m * bytes ≤ 140737488355328) (hA : Has n E a) (hx : ev E x = some (.slice none 0 0)) (hy : ev E y = some u) (hd : d < n)
    (K : ∀ w' A' c', Mem F w0 w' (.row e p.sz (.slice A' m c') (p.flat ys) :: M) → w.grownBy w' none → (∀ k, Value.ownBlock (.slice A' m c') = some k → w.heap.size ≤ k) → ∀ a', Has n ((d, .slice A' m c') :: E) a' → C a' w') :
    Go1 P ops Q ⟨some d, .call { callee := .builtin .append, args := #[x, y], argTypes := #[t, tx] }, ty, pos, af, none⟩ C a w := by
  refine e_appendL (M := .row e p.sz (.slice none 0 0) (p.flat ([] : List α)) :: M) (M'' := fun v' => .row e p.sz v' (p.flat ([] ++ ys)) :: M) (xs := []) (q := 0) (m := m) h (hM.addnil e p.sz) (fun v' => .z) hs (by rw [Nat.zero_add]; exact hl) hA hx hy hd fun w' A' c' h1 h2 h4 a' h3 => ?_
  rw [Nat.zero_add] at h1 h3 h4
  rw [List.nil_append] at h1
  exact K w' A' c' h1 h2 (fun k hk => h4 w.heap.size (Nat.le_refl _) (fun k hk => by cases hk) k hk) a' h3
theorem e_makeL {α : Type} {p : Pl α} {t e : TypeId} {z : Value} {bytes : Nat} {zx : α} {k1 k2 : IntKind} {l : Int} (h : Elt P p t e z bytes) (hz : z.cells.toList = p.enc zx) (hM : Mem F w0 w M) (hA : Has n E a) (hx : ev E x = some (.int k1 l)) (hy : ev E y = some (.int k2 l)) (h0 : 0 ≤ l) (hl : l * bytes ≤ 140737488355328) (hd : d < n)
    (K : ∀ w' g, Mem F w0 w' (.row e p.sz (.slice (some ⟨g, 0, none⟩) l.toNat l.toNat) (p.flat (List.replicate l.toNat zx)) :: M) → Below w.heap.size w w' → w.heap.size ≤ g → ∀ a', Has n ((d, .slice (some ⟨g, 0, none⟩) l.toNat l.toNat) :: E) a' → C a' w') :
    Go1 P ops Q ⟨some d, .makeSlice t x y, ty, pos, af, none⟩ C a w := by
  obtain ⟨i, hi, hzz, hsz, hby⟩ := h.info
  have hb := h.hb
  have hle : l ≤ 140737488355328 := by
    have h1 : l * 1 ≤ l * (bytes : Int) := Int.mul_le_mul_of_nonneg_left (by omega) h0
    omega
  have hr := run_make (P := P) w t e i z h.ht hi hzz k1 k2 l l h0 (Int.le_refl _) (by rw [hby, Int.mul_comm]; omega) (by omega)
  have hc := made_cells p zx z.cells hz l.toNat
  rw [hsz] at hr
  have hok : Ent.ok (w.alloc (.cells (madeCells z.cells (l.toNat * p.sz)) e)) (.row e p.sz (.slice (some ⟨w.heap.size, 0, none⟩) l.toNat l.toNat) (p.flat (List.replicate l.toNat zx))) :=
    .inr ⟨w.heap.size, 0, l.toNat, l.toNat, _, (0, 0), rfl, heap_alloc_new w _, cold0 _, Nat.le_refl _, by simp only [maxLen]; omega, by rw [size_madeCells]; omega, by rw [List.drop_zero, hc, List.take_of_length_le (by rw [p.flat_len]; simp)]⟩
  refine stv (v := .slice (some ⟨w.heap.size, 0, none⟩) l.toNat l.toNat) (w' := w.alloc (.cells (madeCells z.cells (l.toNat * p.sz)) e)) hA hd ?_ (K _ _ (hM.new (Below.new w _) hok (fun k hk => by cases hk; exact Nat.le_refl _)) (Below.new w _) (Nat.le_refl _))
  have e1 := hA.ev hx
  have e2 := hA.ev hy
  simp [execOp, e1, e2, hr]
/-- make with a room -/
theorem flat_take {α : Type} (p : Pl α) (xs : List α) (m : Nat) (hm : m ≤ xs.length) : (p.flat xs).take (m * p.sz) = p.flat (xs.take m) := by
  conv => lhs; rw [← List.take_append_drop m xs, p.flat_append]
  rw [List.take_left' (by rw [p.flat_len, List.length_take, Nat.min_eq_left hm])]
theorem e_makeR {α : Type} {p : Pl α} {t e : TypeId} {z : Value} {bytes : Nat} {zx : α} {k1 k2 : IntKind} {l q : Int} (h : Elt P p t e z bytes) (hz : z.cells.toList = p.enc zx) (hM : Mem F w0 w M) (hA : Has n E a) (hx : ev E x = some (.int k1 l)) (hy : ev E y = some (.int k2 q)) (h0 : 0 ≤ l) (hq : l ≤ q) (hl : q * bytes ≤ 140737488355328) (hd : d < n)
    (K : ∀ w' g, Mem F w0 w' (.row e p.sz (.slice (some ⟨g, 0, none⟩) l.toNat q.toNat) (p.flat (List.replicate l.toNat zx)) :: M) → Below w.heap.size w w' → ∀ a', Has n ((d, .slice (some ⟨g, 0, none⟩) l.toNat q.toNat) :: E) a' → C a' w') :
    Go1 P ops Q ⟨some d, .makeSlice t x y, ty, pos, af, none⟩ C a w := by
  obtain ⟨i, hi, hzz, hsz, hby⟩ := h.info
  have hb := h.hb
  have hle : q ≤ 140737488355328 := by
    have h1 : q * 1 ≤ q * (bytes : Int) := Int.mul_le_mul_of_nonneg_left (by omega) (by omega)
    omega
  have hr := run_make (P := P) w t e i z h.ht hi hzz k1 k2 l q h0 hq (by rw [hby, Int.mul_comm]; omega) (by omega)
  have hc := made_cells p zx z.cells hz q.toNat
  rw [hsz] at hr
  have hlq : l.toNat * p.sz ≤ q.toNat * p.sz := Nat.mul_le_mul_right _ (by omega)
  have hok : Ent.ok (w.alloc (.cells (madeCells z.cells (q.toNat * p.sz)) e)) (.row e p.sz (.slice (some ⟨w.heap.size, 0, none⟩) l.toNat q.toNat) (p.flat (List.replicate l.toNat zx))) :=
    .inr ⟨w.heap.size, 0, l.toNat, q.toNat, _, (0, 0), rfl, heap_alloc_new w _, cold0 _, by omega, by simp only [maxLen]; omega, by rw [size_madeCells]; omega, by rw [List.drop_zero, hc, flat_take _ _ _ (by rw [List.length_replicate]; omega), List.take_replicate, Nat.min_eq_left (by omega)]⟩
  refine stv (v := .slice (some ⟨w.heap.size, 0, none⟩) l.toNat q.toNat) (w' := w.alloc (.cells (madeCells z.cells (q.toNat * p.sz)) e)) hA hd ?_ (K _ _ (hM.new (Below.new w _) hok (fun k hk => by cases hk; exact Nat.le_refl _)) (Below.new w _))
  have e1 := hA.ev hx
  have e2 := hA.ev hy
  simp [execOp, e1, e2, hr]
theorem e_makeRL {α : Type} {p : Pl α} {t e : TypeId} {z : Value} {bytes : Nat} {zx : α} {k1 k2 : IntKind} {l q : Int} (h : Elt P p t e z bytes) (hz : z.cells.toList = p.enc zx) (hM : Mem F w0 w M) (hA : Has n E a) (hx : ev E x = some (.int k1 l)) (hy : ev E y = some (.int k2 q)) (h0 : 0 ≤ l) (hq : l ≤ q) (hl : q * bytes ≤ 140737488355328) (hd : d < n)
    (K : ∀ w' g, Mem F w0 w' (.row e p.sz (.slice (some ⟨g, 0, none⟩) l.toNat q.toNat) (p.flat (List.replicate l.toNat zx)) :: M) → Below w.heap.size w w' → w.heap.size ≤ g → ∀ a', Has n ((d, .slice (some ⟨g, 0, none⟩) l.toNat q.toNat) :: E) a' → C a' w') :
    Go1 P ops Q ⟨some d, .makeSlice t x y, ty, pos, af, none⟩ C a w := by
  obtain ⟨i, hi, hzz, hsz, hby⟩ := h.info
  have hb := h.hb
  have hle : q ≤ 140737488355328 := by
    have h1 : q * 1 ≤ q * (bytes : Int) := Int.mul_le_mul_of_nonneg_left (by omega) (by omega)
    omega
  have hr := run_make (P := P) w t e i z h.ht hi hzz k1 k2 l q h0 hq (by rw [hby, Int.mul_comm]; omega) (by omega)
  have hc := made_cells p zx z.cells hz q.toNat
  rw [hsz] at hr
  have hlq : l.toNat * p.sz ≤ q.toNat * p.sz := Nat.mul_le_mul_right _ (by omega)
  have hok : Ent.ok (w.alloc (.cells (madeCells z.cells (q.toNat * p.sz)) e)) (.row e p.sz (.slice (some ⟨w.heap.size, 0, none⟩) l.toNat q.toNat) (p.flat (List.replicate l.toNat zx))) :=
    .inr ⟨w.heap.size, 0, l.toNat, q.toNat, _, (0, 0), rfl, heap_alloc_new w _, cold0 _, by omega, by simp only [maxLen]; omega, by rw [size_madeCells]; omega, by rw [List.drop_zero, hc, flat_take _ _ _ (by rw [List.length_replicate]; omega), List.take_replicate, Nat.min_eq_left (by omega)]⟩
  refine stv (v := .slice (some ⟨w.heap.size, 0, none⟩) l.toNat q.toNat) (w' := w.alloc (.cells (madeCells z.cells (q.toNat * p.sz)) e)) hA hd ?_ (K _ _ (hM.new (Below.new w _) hok (fun k hk => by cases hk; exact Nat.le_refl _)) (Below.new w _) (Nat.le_refl _))
  have e1 := hA.ev hx
  have e2 := hA.ev hy
  simp [execOp, e1, e2, hr]
/-- a call of a function value, by contract -/
theorem st_callv {t : Nat} {f : FuncId} {caps : List Value} {xs : Array Operand} {ats : Array TypeId} {R : Value → World → Prop} (hcall : ∀ as w, (callFunc f as).run P w = .ok (.enter f as) w) (hA : Has n E a) (hf : Env.get E t = some (.func (.func f) #[] caps.toArray)) (args : List Value)
    (hx : xs.toList.map (ev E) = args.map some) (hd : d < n) (hc : Calls P f (args ++ caps).toArray w fun e w' => ∃ v, e = .returned v ∧ R v w') (K : ∀ v w', R v w' → ∀ a', Has n ((d, v) :: E) a' → C a' w') :
    Go1 P ops Q ⟨some d, .call { callee := .value (.tmp t), args := xs, argTypes := ats }, ty, pos, af, none⟩ C a w :=
  inl_callv hcall hA hf args hx hd (hc.mono fun e w' he => by
    obtain ⟨v, h1, h2⟩ := he
    exact ⟨v, h1, K v w' h2⟩)
/-- a part of a part, written -/
theorem spl_in2 {segs : List (List Value)} {c s s' : List Value} (i off1 off2 : Nat) (hi : segs[i]? = some s) (ho : (segs.take i).flatten.length = off1) (hl : off2 + c.length ≤ s.length) (h : spl s off2 c = s') : spl segs.flatten (off1 + off2) c = (segs.set i s').flatten := by
  obtain ⟨hlt, hs⟩ := List.getElem?_eq_some_iff.1 hi
  have e1 : segs.flatten = (segs.take i).flatten ++ (s ++ (segs.drop (i + 1)).flatten) := by
    conv => lhs; rw [← List.take_append_drop i segs, List.flatten_append, List.drop_eq_getElem_cons hlt, hs, List.flatten_cons]
  have e2 : (segs.set i s').flatten = (segs.take i).flatten ++ (s' ++ (segs.drop (i + 1)).flatten) := by
    rw [List.set_eq_take_append_cons_drop, if_pos hlt, List.flatten_append, List.flatten_cons]
  rw [e1, e2, spl_mid ho hl, h]
theorem e_appendzL {M'' : Value → List Ent} {α : Type} {p : Pl α} {t tx e : TypeId} {kx ky : IntKind} {z : Value} {bytes : Nat} {A : Option Addr} {q c : Nat} {l : Int} {xs : List α} {zx : α} (h : Elt P p t e z bytes) (hzx : z.cells.toList = p.enc zx) (htx : P.underlying tx = some (.int kx)) (hM : Mem F w0 w M) (hp : ∀ v', Put M (.row e p.sz (.slice A q c) (p.flat xs)) (.row e p.sz v' (p.flat (xs ++ List.replicate l.toNat zx))) (M'' v')) (h0 : 0 ≤ l) (hl : (q + l.toNat) * bytes ≤ 140737488355328) (hA : Has n E a) (hx : ev E x = some (.slice A q c)) (hy : ev E y = some (.int ky l)) (hd : d < n)
    (K : ∀ w' A' c', Mem F w0 w' (M'' (.slice A' (q + l.toNat) c')) → w.grownBy w' (Value.ownBlock (.slice A q c)) → (∀ B, B ≤ w.heap.size → (∀ k, Value.ownBlock (.slice A q c) = some k → B ≤ k) → ∀ k, Value.ownBlock (.slice A' (q + l.toNat) c') = some k → B ≤ k) → ∀ a', Has n ((d, .slice A' (q + l.toNat) c') :: E) a' → C a' w') :
    Go1 P ops Q ⟨some d, .call { callee := .builtin .append, args := #[x, y], argTypes := #[t, tx] }, ty, pos, af, none⟩ C a w := by
  obtain ⟨i, hi, hz, hsz, hby⟩ := h.info
  have hnews : (Builtin.zeroCells z.cells l.toNat).toList = p.flat (List.replicate l.toNat zx) := by
    rw [← made_cells p zx z.cells hzx l.toNat]
    simp only [Builtin.zeroCells, madeCells, h.hz]
  obtain ⟨v', w', hr, ho, hg, hk, A', c', rfl⟩ := run_appz (ty := ty) (ky := ky) h.ht htx hi hz hsz hby h.hz p.pos h.hb rfl (hM.ok _ (hp (.slice none 0 0)).mem) h0 hnews (p.flat_one _) hl
  refine stv (v := .slice A' (q + l.toNat) c') (w' := w') hA hd ?_ (K w' A' c' (hM.put (hp _) hg (by rw [p.flat_append]; exact ho) hk) hg (fun B hB ho k hk' => hk.elim (fun e => ho k (e ▸ hk')) (fun h => Nat.le_trans hB (h k hk'))))
  have e1 := hA.ev hx
  have e2 := hA.ev hy
  rw [eop_builtin]
  simp [builtin, e1, e2, hr]
end
/-! ## The builtin clear, over a part of an own row -/
section
variable {ty : TypeId} {pos : String} {af : Array Edge} {x : Operand}
theorem stn {op : Op} {v : Value} (hA : Has n E a)
    (hrun : (execOp a.eval ⟨none, op, ty, pos, af, none⟩).run P w = .ok (.value v) w')
    (K : ∀ a', Has n E a' → C a' w') : Go1 P ops Q ⟨none, op, ty, pos, af, none⟩ C a w := by
  refine Go1.plain rfl ?_
  unfold Oper.wp
  rw [hrun]
  exact K _ hA
theorem e_clear {α : Type} {p : Pl α} {t e : TypeId} {z : Value} {bytes : Nat} {zx : α} {A : Option Addr} {q c lo : Nat} {xs : List α} (h : Elt P p t e z bytes) (hzx : z.cells.toList = p.enc zx) (hM : Mem F w0 w M) (hp : Put M (.row e p.sz (.slice A q c) (p.flat xs)) (.row e p.sz (.slice A q c) (p.flat (xs.take lo ++ List.replicate (q - lo) zx))) M')
    (hlo : lo ≤ q) (hA : Has n E a) (hx : ev E x = some (.slice (adrop A c lo p.sz) (q - lo) (c - lo)))
    (K : ∀ w', Mem F w0 w' M' → w.grownBy w' (Value.ownBlock (.slice A q c)) → ∀ a', Has n E a' → C a' w') :
    Go1 P ops Q ⟨none, .call { callee := .builtin .clear, args := #[x], argTypes := #[t] }, ty, pos, af, none⟩ C a w := by
  have hok : RowOk w e p.sz (.slice A q c) (p.flat xs) := hM.ok _ hp.mem
  have hlen := hok.len
  have e1 := hA.ev hx
  have idle : q - lo = 0 → Go1 P ops Q ⟨none, .call { callee := .builtin .clear, args := #[x], argTypes := #[t] }, ty, pos, af, none⟩ C a w := by
    intro h0
    have hg : w.grownBy w (Value.ownBlock (.slice A q c)) := ⟨rfl, rfl, rfl, Nat.le_refl _, fun _ _ _ => rfl⟩
    refine stn (v := .tuple #[]) (w' := w) hA ?_ (K w (hM.put hp hg ?_ (.inl rfl)) hg)
    · rw [h0] at e1
      rw [eop_builtin]
      cases hu : adrop A c lo p.sz with
      | none => rw [hu] at e1; simp [builtin, e1, Builtin.clear_, run_underlying h.ht]
      | some ad => rw [hu] at e1; simp [builtin, e1, Builtin.clear_, run_underlying h.ht]
    · show RowOk w e p.sz _ _
      rw [h0, List.replicate_zero, List.append_nil, List.take_of_length_le (by omega)]
      exact hok
  by_cases h0 : q - lo = 0
  · exact idle h0
  · have hok2 := hok
    rcases hok with ⟨h2, _⟩ | ⟨g, o, q', cap, cur, fr, h2, hg, hc, hn, hcm, hsz, ht⟩
    · injection h2 with _ e2 _
      omega
    injection h2 with f1 f2 f3
    subst f1; subst f2; subst f3
    obtain ⟨i, hi, hzz, hs, hby⟩ := h.info
    have hnews : (Builtin.zeroCells z.cells (q - lo)).toList = p.flat (List.replicate (q - lo) zx) := by
      rw [← made_cells p zx z.cells hzx (q - lo)]
      simp only [Builtin.zeroCells, madeCells, h.hz]
    have hfl : (p.flat (List.replicate (q - lo) zx)).length = (q - lo) * p.sz := by rw [p.flat_len, List.length_replicate]
    have hm1 : (q - lo) * p.sz + lo * p.sz = q * p.sz := by rw [← Nat.add_mul, Nat.sub_add_cancel hlo]
    have hm2 : q * p.sz ≤ c * p.sz := Nat.mul_le_mul_right _ hn
    have hst := run_cells_spl P (o := o + lo * p.sz) (vs := p.flat (List.replicate (q - lo) zx)) hg hc (by omega) (p.flat_one _)
    have had : adrop (some ⟨g, o, none⟩) c lo p.sz = some ⟨g, o + lo * p.sz, none⟩ := by
      unfold adrop
      rw [if_neg (by omega), Option.map_some, add_mk]
    have hto : (cur.toList.take o).length = o := by rw [List.length_take, Array.length_toList]; omega
    have htk : (p.flat (xs.take lo)).length = lo * p.sz := by rw [p.flat_len, List.length_take, Nat.min_eq_left (by omega)]
    have hsplit : cur.toList = cur.toList.take o ++ (p.flat xs ++ cur.toList.drop (o + q * p.sz)) := by
      rw [← ht, ← List.drop_drop, List.take_append_drop, List.take_append_drop]
    have hxs : p.flat xs = p.flat (xs.take lo) ++ (p.flat (xs.drop lo) ++ []) := by rw [List.append_nil, ← p.flat_append, List.take_append_drop]
    have hdl : (p.flat (xs.drop lo)).length = (q - lo) * p.sz := by rw [p.flat_len, List.length_drop, hlen]
    have htake : (p.flat xs).take (lo * p.sz) = p.flat (xs.take lo) := by
      rw [hxs, ← htk, List.take_left]
    have e3 : spl (p.flat xs) (lo * p.sz) (p.flat (List.replicate (q - lo) zx)) = p.flat (xs.take lo ++ List.replicate (q - lo) zx) := by
      unfold spl
      rw [hfl, p.flat_append, htake, Nat.add_comm (lo * p.sz), hm1, List.drop_of_length_le (by rw [p.flat_len]; rw [hlen]; exact Nat.le_refl _), List.append_nil]
    have e2 : spl cur.toList (o + lo * p.sz) (p.flat (List.replicate (q - lo) zx)) = cur.toList.take o ++ (p.flat (xs.take lo ++ List.replicate (q - lo) zx) ++ cur.toList.drop (o + q * p.sz)) := by
      conv => lhs; rw [hsplit]
      rw [spl_mid hto (by rw [p.flat_len xs, hlen, hfl]; omega), e3]
    have hlen2 : (p.flat (xs.take lo ++ List.replicate (q - lo) zx)).length = q * p.sz := by
      rw [p.flat_append, List.length_append, htk, hfl]; omega
    have hzr : ∀ w, (zeroValue e).run P w = .ok z w := run_zero (by rw [hi]; simp [hzz])
    refine stn (v := .tuple #[]) (w' := w.setRow g (spl cur.toList (o + lo * p.sz) (p.flat (List.replicate (q - lo) zx))).toArray) hA ?_ (K _ (hM.put hp (grown_setRow _ _ _) ?_ (.inl rfl)) (grown_setRow _ _ _))
    · rw [had] at e1
      obtain ⟨m, hm⟩ : ∃ m, q - lo = m + 1 := ⟨q - lo - 1, by omega⟩
      rw [eop_builtin]
      rw [hm] at e1 hnews hst ⊢
      simp [builtin, e1, Builtin.clear_, run_underlying h.ht, hzr, hnews, hst]
    · refine .inr ⟨g, o, q, c, _, fr, rfl, setRow_heap w g cur _ e fr hg, ?_, hn, hcm, ?_, ?_⟩
      · rw [List.size_toArray, spl_len (by rw [hfl, Array.length_toList]; omega), Array.length_toList]; exact hc
      · rw [List.size_toArray, spl_len (by rw [hfl, Array.length_toList]; omega), Array.length_toList]; exact hsz
      · show List.take _ (List.drop o (spl cur.toList (o + lo * p.sz) (p.flat (List.replicate (q - lo) zx)))) = _
        rw [e2, List.drop_left' hto, List.take_left' hlen2]
end
/-- a row of the call's own, read by a call that is not handed it: all that the call asks -/
theorem Mem.roV {F : List (Option Nat)} {w0 w : World} {Ms R : List Ent} {α : Type} {p : Pl α} {e : TypeId} {A : Option Addr} {q c : Nat} {xs : List α} (hM : Mem F w0 w (Ms ++ R)) (hp : Put R (.row e p.sz (.slice A q c) (p.flat xs)) (.row e p.sz (.slice A q c) (p.flat xs)) R) : RoV (Ms.map Ent.key) p w (.slice A q c) xs :=
  have hok : RowOk w e p.sz (.slice A q c) (p.flat xs) := hM.ok _ (List.mem_append.2 (.inr hp.mem))
  RoV.mk (hM.rowC hp) (RowOk.len hok) (RowOk.cap hok)
end Go.Proofs.Ytoogcdmdbogkeaa.G
