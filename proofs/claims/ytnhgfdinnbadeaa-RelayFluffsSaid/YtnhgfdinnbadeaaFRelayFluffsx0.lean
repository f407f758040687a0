/- The functions that a law of this seat reaches: what each comes to, as a plain function, and that its code comes to it. Conditions: the plain function gives a value (enough fuel, no panic). -/
import Derived.Test.YtnhgfdinnbadeaaChecked
import Derived.Test.YtnhgfdinnbadeaaE
set_option linter.unusedVariables false
set_option linter.unusedSimpArgs false
namespace Go.Proofs.Ytnhgfdinnbadeaa.G
open Go Go.RowKit Go.Proofs
structure lightclientmill_Deck where
  L : (List Int)
  At_ : Int
def lightclientmill_Deck.z : lightclientmill_Deck := ⟨[], (0 : Int)⟩
def pHash : Pl (Vector Int 32) := Pl.vec 32 .u8 (by decide)
theorem eq_Hash : EqOk Try.prog 34 pHash 2 := fun d x y w => eq_vec (by decide) d Try.underlying34 Try.isAgg5 Try.underlying5 (by kernel_rfl) (by kernel_rfl) x y w
structure Stem where
  ID : (Vector Int 32)
  From_ : Int
  To_ : Int
  Due : Int
def Stem.z : Stem := ⟨(Vector.replicate 32 0 : Vector Int 32), (0 : Int), (0 : Int), (0 : Int)⟩
def Stem.segs (x : Stem) : List (List Value) := [pHash.enc x.ID, (Pl.int .i64).enc x.From_, (Pl.int .i64).enc x.To_, (Pl.int .u32).enc x.Due]
theorem Stem.segs_len (x : Stem) : x.segs.flatten.length = 35 := by
  simp only [Stem.segs, List.flatten_cons, List.flatten_nil, List.length_append, List.length_nil, Pl.len]
  rfl
def pStem : Pl Stem := ⟨35, fun x => x.segs.flatten, Stem.segs_len, fun x u hu => by
  simp only [Stem.segs, List.mem_flatten, List.mem_cons, List.not_mem_nil, or_false] at hu
  obtain ⟨l, hl, hu⟩ := hu
  rcases hl with rfl | rfl | rfl | rfl
  all_goals exact Pl.one _ _ u hu, by decide⟩
def Stem.eqb (x y : Stem) : Bool := (x.ID == y.ID && (x.From_ == y.From_ && (x.To_ == y.To_ && (x.Due == y.Due && true))))
instance : BEq Stem := ⟨Stem.eqb⟩
theorem Stem.eqb_iff (x y : Stem) : (x == y) = true ↔ x = y := by
  show Stem.eqb x y = true ↔ x = y
  cases x; cases y
  simp [Stem.eqb, and_assoc]
theorem eq_Stem : EqOk Try.prog 61 pStem 3 := fun d x y w => eq_struct (P := Try.prog) (d := d + 2) Try.underlying61 (by kernel_rfl) (eqf_cons (by decide) (part_agg Try.isAgg34 Try.sizeOf34 x.segs 0 rfl (by first | rfl | (simp only [Stem.segs, List.take, List.flatten_cons, List.flatten_nil, List.length_append, List.length_nil, Pl.len]; rfl)) (Pl.len _ _)) (part_agg Try.isAgg34 Try.sizeOf34 y.segs 0 rfl (by first | rfl | (simp only [Stem.segs, List.take, List.flatten_cons, List.flatten_nil, List.length_append, List.length_nil, Pl.len]; rfl)) (Pl.len _ _)) (eq_Hash d x.ID y.ID w)
    (eqf_cons (by decide) (part_one Try.isAgg3 x.segs 1 rfl (by first | rfl | (simp only [Stem.segs, List.take, List.flatten_cons, List.flatten_nil, List.length_append, List.length_nil, Pl.len]; rfl))) (part_one Try.isAgg3 y.segs 1 rfl (by first | rfl | (simp only [Stem.segs, List.take, List.flatten_cons, List.flatten_nil, List.length_append, List.length_nil, Pl.len]; rfl))) (run_equalIn_int w (d + 1) _ _ _ _ _ Try.underlying3)
    (eqf_cons (by decide) (part_one Try.isAgg3 x.segs 2 rfl (by first | rfl | (simp only [Stem.segs, List.take, List.flatten_cons, List.flatten_nil, List.length_append, List.length_nil, Pl.len]; rfl))) (part_one Try.isAgg3 y.segs 2 rfl (by first | rfl | (simp only [Stem.segs, List.take, List.flatten_cons, List.flatten_nil, List.length_append, List.length_nil, Pl.len]; rfl))) (run_equalIn_int w (d + 1) _ _ _ _ _ Try.underlying3)
    (eqf_cons (by decide) (part_one Try.isAgg35 x.segs 3 rfl (by first | rfl | (simp only [Stem.segs, List.take, List.flatten_cons, List.flatten_nil, List.length_append, List.length_nil, Pl.len]; rfl))) (part_one Try.isAgg35 y.segs 3 rfl (by first | rfl | (simp only [Stem.segs, List.take, List.flatten_cons, List.flatten_nil, List.length_append, List.length_nil, Pl.len]; rfl))) (run_equalIn_int w (d + 1) _ _ _ _ _ Try.underlying35)
    (eqf_nil)))))
theorem Stem.at_ID {w : World} {ad : Addr} {x : Stem} (h : At w ad (pStem.enc x)) : At w (ad.add 0) (pHash.enc x.ID) := At.seg (segs := x.segs) h 0 rfl (by
  first | rfl | simp only [Stem.segs, List.take, List.flatten_cons, List.flatten_nil, List.length_append, List.length_nil, Pl.len]; rfl)
theorem Stem.spl_ID (x : Stem) (y : (Vector Int 32)) : spl (pStem.enc x) 0 (pHash.enc y) = pStem.enc { x with ID := y } := spl_seg x.segs 0 (pHash.enc y) 0 rfl (by
  first | rfl | simp only [Stem.segs, List.take, List.flatten_cons, List.flatten_nil, List.length_append, List.length_nil, Pl.len]; rfl) (by simp [Pl.len])
theorem Stem.at_From_ {w : World} {ad : Addr} {x : Stem} (h : At w ad (pStem.enc x)) : At w (ad.add 32) ((Pl.int .i64).enc x.From_) := At.seg (segs := x.segs) h 1 rfl (by
  first | rfl | simp only [Stem.segs, List.take, List.flatten_cons, List.flatten_nil, List.length_append, List.length_nil, Pl.len]; rfl)
theorem Stem.spl_From_ (x : Stem) (y : Int) : spl (pStem.enc x) 32 ((Pl.int .i64).enc y) = pStem.enc { x with From_ := y } := spl_seg x.segs 1 ((Pl.int .i64).enc y) 32 rfl (by
  first | rfl | simp only [Stem.segs, List.take, List.flatten_cons, List.flatten_nil, List.length_append, List.length_nil, Pl.len]; rfl) (by simp [Pl.len])
theorem Stem.at_To_ {w : World} {ad : Addr} {x : Stem} (h : At w ad (pStem.enc x)) : At w (ad.add 33) ((Pl.int .i64).enc x.To_) := At.seg (segs := x.segs) h 2 rfl (by
  first | rfl | simp only [Stem.segs, List.take, List.flatten_cons, List.flatten_nil, List.length_append, List.length_nil, Pl.len]; rfl)
theorem Stem.spl_To_ (x : Stem) (y : Int) : spl (pStem.enc x) 33 ((Pl.int .i64).enc y) = pStem.enc { x with To_ := y } := spl_seg x.segs 2 ((Pl.int .i64).enc y) 33 rfl (by
  first | rfl | simp only [Stem.segs, List.take, List.flatten_cons, List.flatten_nil, List.length_append, List.length_nil, Pl.len]; rfl) (by simp [Pl.len])
theorem Stem.at_Due {w : World} {ad : Addr} {x : Stem} (h : At w ad (pStem.enc x)) : At w (ad.add 34) ((Pl.int .u32).enc x.Due) := At.seg (segs := x.segs) h 3 rfl (by
  first | rfl | simp only [Stem.segs, List.take, List.flatten_cons, List.flatten_nil, List.length_append, List.length_nil, Pl.len]; rfl)
theorem Stem.spl_Due (x : Stem) (y : Int) : spl (pStem.enc x) 34 ((Pl.int .u32).enc y) = pStem.enc { x with Due := y } := spl_seg x.segs 3 ((Pl.int .u32).enc y) 34 rfl (by
  first | rfl | simp only [Stem.segs, List.take, List.flatten_cons, List.flatten_nil, List.length_append, List.length_nil, Pl.len]; rfl) (by simp [Pl.len])
structure Relay where
  Epoch : Int
  Diffuse : Bool
  Routes : (List Int)
  Stems : (List Stem)
  Fluffed : (List (Vector Int 32))
def Relay.z : Relay := ⟨(0 : Int), false, [], [], []⟩
theorem zero4 : ∀ w, (zeroValue 4).run Try.prog w = .ok (.bool false) w := run_zero (by kernel_rfl)
theorem zero34 : ∀ w, (zeroValue 34).run Try.prog w = .ok (.agg (pHash.enc (Vector.replicate 32 0 : Vector Int 32)).toArray) w := run_zero (by kernel_rfl)
theorem zero37 : ∀ w, (zeroValue 37).run Try.prog w = .ok (.slice none 0 0) w := run_zero (by kernel_rfl)
theorem zero39 : ∀ w, (zeroValue 39).run Try.prog w = .ok (.agg #[(.int .u32 (0 : Int)), (.bool false), (.slice none 0 0), (.slice none 0 0), (.slice none 0 0)]) w := run_zero (by kernel_rfl)
theorem zero61 : ∀ w, (zeroValue 61).run Try.prog w = .ok (.agg (pStem.enc Stem.z).toArray) w := run_zero (by kernel_rfl)
theorem zero63 : ∀ w, (zeroValue 63).run Try.prog w = .ok (.agg #[(.slice none 0 0), (.int .i64 (0 : Int))]) w := run_zero (by kernel_rfl)
theorem elt22 : Elt Try.prog (Pl.int .i64) 22 3 (.int .i64 (0 : Int)) 8 := ⟨Try.underlying22, by kernel_rfl, by first | rfl | simp [Value.cells, Pl.len], by decide⟩
theorem elt24 : Elt Try.prog Pl.bool 24 4 (.bool false) 1 := ⟨Try.underlying24, by kernel_rfl, by first | rfl | simp [Value.cells, Pl.len], by decide⟩
theorem elt36 : Elt Try.prog pStem 36 61 (.agg (pStem.enc Stem.z).toArray) 56 := ⟨Try.underlying36, by kernel_rfl, by first | rfl | simp [Value.cells, Pl.len], by decide⟩
theorem elt37 : Elt Try.prog pHash 37 34 (.agg (pHash.enc (Vector.replicate 32 0 : Vector Int 32)).toArray) 32 := ⟨Try.underlying37, by kernel_rfl, by first | rfl | simp [Value.cells, Pl.len], by decide⟩
theorem elt49 : Elt Try.prog (Pl.int .u32) 49 35 (.int .u32 (0 : Int)) 4 := ⟨Try.underlying49, by kernel_rfl, by first | rfl | simp [Value.cells, Pl.len], by decide⟩
theorem key34 : KeyOk Try.prog 34 pHash := key_vec (by decide) Try.underlying34 Try.underlying5 Try.isAgg5 Try.sizeOf5 (by kernel_rfl) (by kernel_rfl)
def slices_Index_int.l0 (s_0 : (List Int)) (v_1 : Int) : Nat → Int → Option (Out Int (Unit))
  | 0, _ => none
  | k + 1, t92 => (if (decide (t92 < ((s_0.length : Nat) : Int))) = true then (if 0 ≤ t92 ∧ t92 < ((s_0.length : Nat) : Int) then (if (v_1 == (s_0.getD t92.toNat (0 : Int))) = true then (some (.ret t92)) else (slices_Index_int.l0 s_0 v_1 k (IntKind.i64.wrap (t92 + 1)))) else none) else (some (.go ())))
def slices_Index_int.f (k : Nat) (s_0 : (List Int)) (v_1 : Int) : Option Int := (Option.bind (α := Out Int (Unit)) (slices_Index_int.l0 s_0 v_1 k 0) (fun o => match o with | .ret r => some r | .go _ => (some (-1))))
set_option maxRecDepth 100000 in
theorem slices_Index_int.calls (k : Nat) (s_0 : (List Int)) (v_1 : Int) (F : List (Option Nat)) (v0 : Value) (r : Int) (w0 : World) (h0 : RoV F (Pl.int .i64) w0 v0 s_0) (hM : Mem F w0 w0 []) (H : slices_Index_int.f k s_0 v_1 = some r) :
    Calls Try.prog 42 #[v0, (.int .i64 v_1)] w0 fun e w' => ∃ v, e = .returned v ∧ v = (.int .i64 r) ∧ Mem F w0 w' [] := by
  unfold slices_Index_int.f at H
  obtain ⟨A0, c0, rfl, hr0, hc0⟩ := h0
  refine enterL (n := 19) [(.slice A0 s_0.length c0), (.int .i64 v_1)] Try.func42 rfl rfl rfl ?_
  intro a hA
  refine wp_seq ?_
  refine wp_region_lit ?_
  refine L1 (stv hA (by decide) (run_assign (hA.ev rfl)) ?_)
  clear hA; intro a hA
  refine LQ ?_
  refine TN ?_
  refine wp_seq ?_
  refine wp_seq ?_
  refine wp_region_lit ?_
  refine L1 (stv hA (by decide) (run_move (hA.ev rfl)) ?_)
  clear hA; intro a hA
  refine L1 (stv hA (by decide) (run_len_slice Try.underlying22 (hA.ev rfl)) ?_)
  clear hA; intro a hA
  refine L1 (stv hA (by decide) (run_move (hA.ev rfl)) ?_)
  clear hA; intro a hA
  refine LQ ?_
  refine TN ?_
  obtain ⟨o94, H93, H⟩ := Option.bind_eq_some_iff.1 H
  refine cutC (fun a w => (.go ()) = o94 ∧ Mem F w0 w [] ∧ Has 19 [] a) ?_ ?_
  · refine wp_block ?_
    refine wp_loop_ghost (fun m a w => ∃ (t92 : Int), slices_Index_int.l0 s_0 v_1 m t92 = some o94 ∧ Mem F w0 w [] ∧ Has 19 [(0, (.slice A0 s_0.length c0)), (1, (.int .i64 v_1)), (7, (.int .i64 ((s_0.length : Nat) : Int))), (8, (.int .i64 t92))] a) k ⟨0, H93, hM, ((((hA.nil.cons (hA.get 8 _ rfl)).cons (hA.get 7 _ rfl)).cons (hA.get 1 _ rfl)).cons (hA.get 0 _ rfl))⟩ ?_
    clear hM hA; rintro m95 a w96 ⟨t92, H93, hM, hA⟩
    cases m95 with
    | zero => exact absurd H93 (by simp [slices_Index_int.l0])
    | succ m95 =>
    rw [slices_Index_int.l0] at H93
    refine wp_seq ?_
    refine wp_region_lit ?_
    refine L1 (stv hA (by decide) (run_bin (hA.ev rfl) (hA.ev rfl) (bin_lss _ _ _ _)) ?_)
    clear hA; intro a hA
    refine LQ ?_
    refine TN ?_
    refine wp_seq ?_
    refine tcond (b := (decide (t92 < ((s_0.length : Nat) : Int)))) hA rfl (fun hb97 => ?_) (fun hb97 => ?_)
    · replace H93 := ite_t hb97 H93
      refine wp_skip ?_
      refine TN ?_
      refine wp_seq ?_
      refine wp_block ?_
      refine wp_seq ?_
      refine wp_region_lit ?_
      refine L1 (stv hA (by decide) (run_move (hA.ev rfl)) ?_)
      clear hA; intro a hA
      refine L1 (stv hA (by decide) (run_assign (hA.ev rfl)) ?_)
      clear hA; intro a hA
      refine LQ ?_
      refine TN ?_
      refine wp_seq ?_
      refine wp_region_lit ?_
      refine L1 (stv hA (by decide) (run_move (hA.ev rfl)) ?_)
      clear hA; intro a hA
      refine L1 (stv hA (by decide) (run_move (hA.ev rfl)) ?_)
      clear hA; intro a hA
      refine L1 (stv hA (by decide) (run_move (hA.ev rfl)) ?_)
      clear hA; intro a hA
      obtain ⟨⟨hi98, hj99⟩, H93⟩ := ite_some H93
      obtain ⟨ad100, hq101, hat102⟩ := Row.elem' (p := (Pl.int .i64)) (hM.ro hr0) (Eq.refl s_0.length) (0 : Int) t92 hi98 hj99
      refine L1 (stv hA (by decide) (run_idx Try.underlying22 Try.sizeOf3 (hA.ev rfl) hq101 (hA.ev rfl) hi98 hj99) ?_)
      clear hA; intro a hA
      refine L1 (stv hA (by decide) (run_ld (hA.ev rfl) (run_loadS Try.isAgg3 hat102)) ?_)
      clear hA; intro a hA
      refine L1 (stv hA (by decide) (run_bin (hA.ev rfl) (hA.ev rfl) (bin_eql _ _ _ _)) ?_)
      clear hA; intro a hA
      refine LQ ?_
      refine TN ?_
      refine tcond (b := (v_1 == (s_0.getD t92.toNat (0 : Int)))) hA rfl (fun hb103 => ?_) (fun hb103 => ?_)
      · replace H93 := ite_t hb103 H93
        refine wp_seq ?_
        refine wp_region_lit ?_
        refine L1 (stv hA (by decide) (run_move (hA.ev rfl)) ?_)
        clear hA; intro a hA
        refine L1 (stv hA (by decide) (run_assign (hA.ev rfl)) ?_)
        clear hA; intro a hA
        refine LQ ?_
        refine TN ?_
        refine wp_ret ?_
        obtain rfl := Option.some.inj H93
        dsimp only at H
        obtain rfl := Option.some.inj H
        refine BR ?_
        refine TR ?_
        refine TR ?_
        refine BR ?_
        refine TR ?_
        refine TR ?_
        exact ret_post1 (fn := Try.f42) hA rfl rfl ⟨_, rfl, rfl, hM⟩
      · replace H93 := ite_f hb103 H93
        refine wp_skip ?_
        refine BN ?_
        refine TN ?_
        refine wp_region_lit ?_
        refine L1 (stv hA (by decide) (run_bin (hA.ev rfl) (hA.ev rfl) (bin_add _ _ _ _)) ?_)
        clear hA; intro a hA
        refine L1 (stv hA (by decide) (run_move (hA.ev rfl)) ?_)
        clear hA; intro a hA
        refine LQ ?_
        exact ⟨_, Nat.lt_succ_self m95, IntKind.i64.wrap (t92 + 1), H93, hM, ((((hA.nil.cons (hA.get 8 _ rfl)).cons (hA.get 7 _ rfl)).cons (hA.get 1 _ rfl)).cons (hA.get 0 _ rfl))⟩
    · replace H93 := ite_f hb97 H93
      refine wp_exit ?_
      refine TX ?_
      refine TX ?_
      refine BX ?_
      exact ⟨Option.some.inj H93, hM, hA.nil⟩
  clear hM hA
  rintro a w104 ⟨rfl, hM, hA⟩
  try dsimp only at H
  refine TN ?_
  refine wp_seq ?_
  refine wp_region_lit ?_
  refine L1 (stv hA (by decide) (run_assign (hA.ev rfl)) ?_)
  clear hA; intro a hA
  refine LQ ?_
  refine TN ?_
  refine wp_ret ?_
  obtain rfl := Option.some.inj H
  exact ret_post1 (fn := Try.f42) hA rfl rfl ⟨_, rfl, rfl, hM⟩

def slices_Contains_int.f (k : Nat) (s_0 : (List Int)) (v_1 : Int) : Option Bool := ((slices_Index_int.f k s_0 v_1).bind fun r4 => (some (decide (r4 ≥ 0))))
set_option maxRecDepth 100000 in
theorem slices_Contains_int.calls (k : Nat) (s_0 : (List Int)) (v_1 : Int) (F : List (Option Nat)) (v0 : Value) (r : Bool) (w0 : World) (h0 : RoV F (Pl.int .i64) w0 v0 s_0) (hM : Mem F w0 w0 []) (H : slices_Contains_int.f k s_0 v_1 = some r) :
    Calls Try.prog 28 #[v0, (.int .i64 v_1)] w0 fun e w' => ∃ v, e = .returned v ∧ v = (.bool r) ∧ Mem F w0 w' [] := by
  unfold slices_Contains_int.f at H
  obtain ⟨A0, c0, rfl, hr0, hc0⟩ := h0
  refine enterL (n := 9) [(.slice A0 s_0.length c0), (.int .i64 v_1)] Try.func28 rfl rfl rfl ?_
  intro a hA
  refine wp_seq ?_
  refine wp_region_lit ?_
  refine L1 (stv hA (by decide) (run_assign (hA.ev rfl)) ?_)
  clear hA; intro a hA
  refine LQ ?_
  refine TN ?_
  refine wp_seq ?_
  refine wp_region_lit ?_
  refine L1 (stv hA (by decide) (run_move (hA.ev rfl)) ?_)
  clear hA; intro a hA
  refine L1 (stv hA (by decide) (run_move (hA.ev rfl)) ?_)
  clear hA; intro a hA
  obtain ⟨r4, H5, H⟩ := Option.bind_eq_some_iff.1 H
  refine L1 (st_call Try.call42 hA [(.slice A0 s_0.length c0), (.int .i64 v_1)] rfl (by decide) (slices_Index_int.calls _ _ _ _ _ _ _ ((RoV.mk (hM.roC (Ms := []) hr0) (Eq.refl s_0.length) hc0)) (hM.front (Ms := [])) H5) ?_)
  clear hA; rintro _ w6 ⟨rfl, hMc⟩ a hA
  have hE := hMc.below; have hM := hM.call (Ms := []) hMc
  clear hMc; simp only [List.cons_append, List.nil_append] at hM
  refine L1 (stv hA (by decide) (run_bin (hA.ev rfl) (hA.ev rfl) (bin_geq _ _ _ _)) ?_)
  clear hA; intro a hA
  refine L1 (stv hA (by decide) (run_assign (hA.ev rfl)) ?_)
  clear hA; intro a hA
  refine LQ ?_
  refine TN ?_
  refine wp_ret ?_
  obtain rfl := Option.some.inj H
  exact ret_post1 (fn := Try.f28) hA rfl rfl ⟨_, rfl, rfl, hM⟩

def relay_Walk.l0 (routes_0 : (List Int)) (diffuse_1 : (List Bool)) : Nat → (List Int) → Int → Option ((List Int))
  | 0, _, _ => none
  | k + 1, xs511, t513 => (Option.bind (α := Bool) (if (decide (t513 ≥ 0)) = true then (if (decide (t513 < ((routes_0.length : Nat) : Int))) = true then ((slices_Contains_int.f k xs511 t513).bind fun r541 => (some (!r541))) else (some false)) else (some false)) (fun t536 => (if t536 = true then (if (xs511.length + 1) * 8 ≤ 140737488355328 then (Option.bind (α := Bool) (if 0 ≤ t513 ∧ t513 < ((diffuse_1.length : Nat) : Int) then (if (diffuse_1.getD t513.toNat false) = true then (some (decide ((((xs511.length + 1) : Nat) : Int) > 1))) else (some false)) else none) (fun t565 => (if t565 = true then (some (xs511 ++ [t513])) else (if 0 ≤ t513 ∧ t513 < ((routes_0.length : Nat) : Int) then (relay_Walk.l0 routes_0 diffuse_1 k (xs511 ++ [t513]) (routes_0.getD t513.toNat (0 : Int))) else none)))) else none) else (some xs511))))
def relay_Walk.f (k : Nat) (routes_0 : (List Int)) (diffuse_1 : (List Bool)) (origin_2 : Int) : Option (List Int) := (Option.bind (α := Bool) (if (((routes_0.length : Nat) : Int) != ((diffuse_1.length : Nat) : Int)) = true then (some true) else (if (decide (((routes_0.length : Nat) : Int) > 64)) = true then (some true) else (if (decide (origin_2 < 0)) = true then (some true) else (some (decide (origin_2 ≥ ((routes_0.length : Nat) : Int))))))) (fun t299 => (if t299 = true then (some ([] : List Int)) else (Option.bind (α := (List Int)) (relay_Walk.l0 routes_0 diffuse_1 k ([] : List Int) origin_2) (fun xs519 => (some xs519))))))
set_option maxRecDepth 100000 in
theorem relay_Walk.calls (k : Nat) (routes_0 : (List Int)) (diffuse_1 : (List Bool)) (origin_2 : Int) (F : List (Option Nat)) (v0 : Value) (v1 : Value) (r : (List Int)) (w0 : World) (h0 : RoV F (Pl.int .i64) w0 v0 routes_0) (h1 : RoV F Pl.bool w0 v1 diffuse_1) (hM : Mem F w0 w0 []) (H : relay_Walk.f k routes_0 diffuse_1 origin_2 = some r) :
    Calls Try.prog 10 #[v0, v1, (.int .i64 origin_2)] w0 fun e w' => ∃ v, e = .returned v ∧ ∃ (ur_0 : Value), v = ur_0 ∧ Mem F w0 w' [.row 3 (Pl.int .i64).sz ur_0 ((Pl.int .i64).flat r)] := by
  unfold relay_Walk.f at H
  obtain ⟨A0, c0, rfl, hr0, hc0⟩ := h0
  obtain ⟨A1, c1, rfl, hr1, hc1⟩ := h1
  refine enterL (n := 61) [(.slice A0 routes_0.length c0), (.slice A1 diffuse_1.length c1), (.int .i64 origin_2)] Try.func10 rfl rfl rfl ?_
  intro a hA
  refine wp_seq ?_
  refine wp_region_lit ?_
  refine L1 (stv hA (by decide) (run_assign (hA.ev rfl)) ?_)
  clear hA; intro a hA
  refine LQ ?_
  refine TN ?_
  refine wp_seq ?_
  refine wp_region_lit ?_
  refine L1 (stv hA (by decide) (run_move (hA.ev rfl)) ?_)
  clear hA; intro a hA
  refine L1 (stv hA (by decide) (run_len_slice Try.underlying22 (hA.ev rfl)) ?_)
  clear hA; intro a hA
  refine L1 (stv hA (by decide) (run_assign (hA.ev rfl)) ?_)
  clear hA; intro a hA
  refine LQ ?_
  refine TN ?_
  refine wp_seq ?_
  refine wp_seq ?_
  obtain ⟨o301, H300, H⟩ := Option.bind_eq_some_iff.1 H
  refine cutC (fun a w => ∃ (t299 : Bool), t299 = o301 ∧ Mem F w0 w [] ∧ Has 61 [(0, (.slice A0 routes_0.length c0)), (1, (.slice A1 diffuse_1.length c1)), (2, (.int .i64 origin_2)), (7, (.int .i64 ((routes_0.length : Nat) : Int))), (28, (.bool t299))] a) ?_ ?_
  · refine wp_region_lit ?_
    refine L1 (stv hA (by decide) (run_move (hA.ev rfl)) ?_)
    clear hA; intro a hA
    refine L1 (stv hA (by decide) (run_move (hA.ev rfl)) ?_)
    clear hA; intro a hA
    refine L1 (stv hA (by decide) (run_len_slice Try.underlying24 (hA.ev rfl)) ?_)
    clear hA; intro a hA
    refine L1 (stv hA (by decide) (run_bin (hA.ev rfl) (hA.ev rfl) (bin_neq _ _ _ _)) ?_)
    clear hA; intro a hA
    refine L1 (stv hA (by decide) (run_move (hA.ev rfl)) ?_)
    clear hA; intro a hA
    refine bsplit (b := (((routes_0.length : Nat) : Int) != ((diffuse_1.length : Nat) : Int))) (fun hb302 => ?_) (fun hb302 => ?_)
    · replace H300 := ite_t hb302 H300
      have hA := hA.re (t := 16) rfl (congrArg Value.bool hb302)
      refine L1 (gate_off rfl (by decide) rfl hA (by decide) rfl rfl ?_); clear hA; intro a hA
      refine L1 (gate_off rfl (by decide) rfl hA (by decide) rfl rfl ?_); clear hA; intro a hA
      refine L1 (stv hA (by decide) (run_pick (hA.ev rfl) (fun _ => hA.ev rfl) (fun h => Bool.noConfusion h)) ?_)
      clear hA; intro a hA
      refine L1 (stv hA (by decide) (run_move (hA.ev rfl)) ?_)
      clear hA; intro a hA
      refine L1 (gate_off rfl (by decide) rfl hA (by decide) rfl rfl ?_); clear hA; intro a hA
      refine L1 (gate_off rfl (by decide) rfl hA (by decide) rfl rfl ?_); clear hA; intro a hA
      refine L1 (stv hA (by decide) (run_pick (hA.ev rfl) (fun _ => hA.ev rfl) (fun h => Bool.noConfusion h)) ?_)
      clear hA; intro a hA
      refine L1 (stv hA (by decide) (run_move (hA.ev rfl)) ?_)
      clear hA; intro a hA
      refine L1 (gate_off rfl (by decide) rfl hA (by decide) rfl rfl ?_); clear hA; intro a hA
      refine L1 (gate_off rfl (by decide) rfl hA (by decide) rfl rfl ?_); clear hA; intro a hA
      refine L1 (gate_off rfl (by decide) rfl hA (by decide) rfl rfl ?_); clear hA; intro a hA
      refine L1 (stv hA (by decide) (run_pick (hA.ev rfl) (fun _ => hA.ev rfl) (fun h => Bool.noConfusion h)) ?_)
      clear hA; intro a hA
      refine LQ ?_
      exact ⟨true, Option.some.inj H300, hM, (((((hA.nil.cons (hA.get 28 _ rfl)).cons (hA.get 7 _ rfl)).cons (hA.get 2 _ rfl)).cons (hA.get 1 _ rfl)).cons (hA.get 0 _ rfl))⟩
    · replace H300 := ite_f hb302 H300
      have hA := hA.re (t := 16) rfl (congrArg Value.bool hb302)
      refine L1 (gate_on rfl rfl hA (by decide) rfl (stv hA (by decide) (run_move (hA.ev rfl)) ?_))
      clear hA; intro a hA
      refine L1 (gate_on rfl rfl hA (by decide) rfl (stv hA (by decide) (run_bin (hA.ev rfl) (hA.ev rfl) (bin_gtr _ _ _ _)) ?_))
      clear hA; intro a hA
      refine L1 (stv hA (by decide) (run_pick (hA.ev rfl) (fun h => Bool.noConfusion h) (fun _ => hA.ev rfl)) ?_)
      clear hA; intro a hA
      refine L1 (stv hA (by decide) (run_move (hA.ev rfl)) ?_)
      clear hA; intro a hA
      refine bsplit (b := (decide (((routes_0.length : Nat) : Int) > 64))) (fun hb303 => ?_) (fun hb303 => ?_)
      · replace H300 := ite_t hb303 H300
        have hA := hA.re (t := 20) rfl (congrArg Value.bool hb303)
        refine L1 (gate_off rfl (by decide) rfl hA (by decide) rfl rfl ?_); clear hA; intro a hA
        refine L1 (gate_off rfl (by decide) rfl hA (by decide) rfl rfl ?_); clear hA; intro a hA
        refine L1 (stv hA (by decide) (run_pick (hA.ev rfl) (fun _ => hA.ev rfl) (fun h => Bool.noConfusion h)) ?_)
        clear hA; intro a hA
        refine L1 (stv hA (by decide) (run_move (hA.ev rfl)) ?_)
        clear hA; intro a hA
        refine L1 (gate_off rfl (by decide) rfl hA (by decide) rfl rfl ?_); clear hA; intro a hA
        refine L1 (gate_off rfl (by decide) rfl hA (by decide) rfl rfl ?_); clear hA; intro a hA
        refine L1 (gate_off rfl (by decide) rfl hA (by decide) rfl rfl ?_); clear hA; intro a hA
        refine L1 (stv hA (by decide) (run_pick (hA.ev rfl) (fun _ => hA.ev rfl) (fun h => Bool.noConfusion h)) ?_)
        clear hA; intro a hA
        refine LQ ?_
        exact ⟨true, Option.some.inj H300, hM, (((((hA.nil.cons (hA.get 28 _ rfl)).cons (hA.get 7 _ rfl)).cons (hA.get 2 _ rfl)).cons (hA.get 1 _ rfl)).cons (hA.get 0 _ rfl))⟩
      · replace H300 := ite_f hb303 H300
        have hA := hA.re (t := 20) rfl (congrArg Value.bool hb303)
        refine L1 (gate_on rfl rfl hA (by decide) rfl (stv hA (by decide) (run_move (hA.ev rfl)) ?_))
        clear hA; intro a hA
        refine L1 (gate_on rfl rfl hA (by decide) rfl (stv hA (by decide) (run_bin (hA.ev rfl) (hA.ev rfl) (bin_lss _ _ _ _)) ?_))
        clear hA; intro a hA
        refine L1 (stv hA (by decide) (run_pick (hA.ev rfl) (fun h => Bool.noConfusion h) (fun _ => hA.ev rfl)) ?_)
        clear hA; intro a hA
        refine L1 (stv hA (by decide) (run_move (hA.ev rfl)) ?_)
        clear hA; intro a hA
        refine bsplit (b := (decide (origin_2 < 0))) (fun hb304 => ?_) (fun hb304 => ?_)
        · replace H300 := ite_t hb304 H300
          have hA := hA.re (t := 24) rfl (congrArg Value.bool hb304)
          refine L1 (gate_off rfl (by decide) rfl hA (by decide) rfl rfl ?_); clear hA; intro a hA
          refine L1 (gate_off rfl (by decide) rfl hA (by decide) rfl rfl ?_); clear hA; intro a hA
          refine L1 (gate_off rfl (by decide) rfl hA (by decide) rfl rfl ?_); clear hA; intro a hA
          refine L1 (stv hA (by decide) (run_pick (hA.ev rfl) (fun _ => hA.ev rfl) (fun h => Bool.noConfusion h)) ?_)
          clear hA; intro a hA
          refine LQ ?_
          exact ⟨true, Option.some.inj H300, hM, (((((hA.nil.cons (hA.get 28 _ rfl)).cons (hA.get 7 _ rfl)).cons (hA.get 2 _ rfl)).cons (hA.get 1 _ rfl)).cons (hA.get 0 _ rfl))⟩
        · replace H300 := ite_f hb304 H300
          have hA := hA.re (t := 24) rfl (congrArg Value.bool hb304)
          refine L1 (gate_on rfl rfl hA (by decide) rfl (stv hA (by decide) (run_move (hA.ev rfl)) ?_))
          clear hA; intro a hA
          refine L1 (gate_on rfl rfl hA (by decide) rfl (stv hA (by decide) (run_move (hA.ev rfl)) ?_))
          clear hA; intro a hA
          refine L1 (gate_on rfl rfl hA (by decide) rfl (stv hA (by decide) (run_bin (hA.ev rfl) (hA.ev rfl) (bin_geq _ _ _ _)) ?_))
          clear hA; intro a hA
          refine L1 (stv hA (by decide) (run_pick (hA.ev rfl) (fun h => Bool.noConfusion h) (fun _ => hA.ev rfl)) ?_)
          clear hA; intro a hA
          refine LQ ?_
          exact ⟨(decide (origin_2 ≥ ((routes_0.length : Nat) : Int))), Option.some.inj H300, hM, (((((hA.nil.cons (hA.get 28 _ rfl)).cons (hA.get 7 _ rfl)).cons (hA.get 2 _ rfl)).cons (hA.get 1 _ rfl)).cons (hA.get 0 _ rfl))⟩
  clear hM hA
  rintro a w305 ⟨t299, rfl, hM, hA⟩
  try dsimp only at H
  refine TN ?_
  refine tcond (b := t299) hA rfl (fun hb306 => ?_) (fun hb306 => ?_)
  · replace H := ite_t hb306 H
    refine wp_seq ?_
    refine wp_region_lit ?_
    refine L1 (stv hA (by decide) (run_assign (hA.ev rfl)) ?_)
    clear hA; intro a hA
    refine LQ ?_
    refine TN ?_
    refine wp_ret ?_
    have hM := hM.addnil 3 ((Pl.int .i64)).sz
    obtain rfl := Option.some.inj H
    refine TR ?_
    exact ret_post1 (fn := Try.f10) hA rfl rfl ⟨_, rfl, (.slice none 0 0), rfl, hM⟩
  · replace H := ite_f hb306 H
    refine wp_skip ?_
    refine TN ?_
    refine wp_seq ?_
    refine wp_region_lit ?_
    refine L1 (stv hA (by decide) (run_assign (hA.ev rfl)) ?_)
    clear hA; intro a hA
    refine LQ ?_
    refine TN ?_
    refine wp_seq ?_
    refine wp_seq ?_
    refine wp_region_lit ?_
    refine L1 (stv hA (by decide) (run_move (hA.ev rfl)) ?_)
    clear hA; intro a hA
    refine L1 (stv hA (by decide) (run_assign (hA.ev rfl)) ?_)
    clear hA; intro a hA
    refine LQ ?_
    refine TN ?_
    obtain ⟨o521, H520, H⟩ := Option.bind_eq_some_iff.1 H
    refine cutC (fun a w => ∃ (xs519 : (List Int)) (v516 : Value), xs519 = o521 ∧ Mem F w0 w [.row 3 (Pl.int .i64).sz v516 ((Pl.int .i64).flat xs519)] ∧ Has 61 [(8, v516)] a) ?_ ?_
    · refine wp_block ?_
      have hM := hM.addnil 3 ((Pl.int .i64)).sz
      refine wp_loop_ghost (fun m a w => ∃ (xs511 : (List Int)) (t513 : Int) (v508 : Value), relay_Walk.l0 routes_0 diffuse_1 m xs511 t513 = some o521 ∧ Mem F w0 w [.row 3 (Pl.int .i64).sz v508 ((Pl.int .i64).flat xs511)] ∧ Has 61 [(0, (.slice A0 routes_0.length c0)), (1, (.slice A1 diffuse_1.length c1)), (7, (.int .i64 ((routes_0.length : Nat) : Int))), (8, v508), (9, (.int .i64 t513))] a) k ⟨([] : List Int), origin_2, (.slice none 0 0), H520, hM, (((((hA.nil.cons (hA.get 9 _ rfl)).cons (hA.get 8 _ rfl)).cons (hA.get 7 _ rfl)).cons (hA.get 1 _ rfl)).cons (hA.get 0 _ rfl))⟩ ?_
      clear hM hA; rintro m523 a w524 ⟨xs511, t513, v508, H520, hM, hA⟩
      cases m523 with
      | zero => exact absurd H520 (by simp [relay_Walk.l0])
      | succ m523 =>
      rw [relay_Walk.l0] at H520
      obtain ⟨A509, c510, rfl⟩ := RowOk.form (hM.row (p := (Pl.int .i64)) .z)
      refine wp_seq ?_
      refine wp_seq ?_
      obtain ⟨o538, H537, H520⟩ := Option.bind_eq_some_iff.1 H520
      refine cutC (fun a w => ∃ (t536 : Bool), t536 = o538 ∧ Mem F w0 w [.row 3 (Pl.int .i64).sz (.slice A509 xs511.length c510) ((Pl.int .i64).flat xs511)] ∧ Has 61 [(0, (.slice A0 routes_0.length c0)), (1, (.slice A1 diffuse_1.length c1)), (7, (.int .i64 ((routes_0.length : Nat) : Int))), (8, (.slice A509 xs511.length c510)), (9, (.int .i64 t513)), (42, (.bool t536))] a) ?_ ?_
      · refine wp_region_lit ?_
        refine L1 (stv hA (by decide) (run_move (hA.ev rfl)) ?_)
        clear hA; intro a hA
        refine L1 (stv hA (by decide) (run_bin (hA.ev rfl) (hA.ev rfl) (bin_geq _ _ _ _)) ?_)
        clear hA; intro a hA
        refine L1 (stv hA (by decide) (run_move (hA.ev rfl)) ?_)
        clear hA; intro a hA
        refine bsplit (b := (decide (t513 ≥ 0))) (fun hb539 => ?_) (fun hb539 => ?_)
        · replace H537 := ite_t hb539 H537
          have hA := hA.re (t := 32) rfl (congrArg Value.bool hb539)
          refine L1 (gate_on rfl rfl hA (by decide) rfl (stv hA (by decide) (run_move (hA.ev rfl)) ?_))
          clear hA; intro a hA
          refine L1 (gate_on rfl rfl hA (by decide) rfl (stv hA (by decide) (run_move (hA.ev rfl)) ?_))
          clear hA; intro a hA
          refine L1 (gate_on rfl rfl hA (by decide) rfl (stv hA (by decide) (run_bin (hA.ev rfl) (hA.ev rfl) (bin_lss _ _ _ _)) ?_))
          clear hA; intro a hA
          refine L1 (stv hA (by decide) (run_pick (hA.ev rfl) (fun _ => hA.ev rfl) (fun h => Bool.noConfusion h)) ?_)
          clear hA; intro a hA
          refine L1 (stv hA (by decide) (run_move (hA.ev rfl)) ?_)
          clear hA; intro a hA
          refine bsplit (b := (decide (t513 < ((routes_0.length : Nat) : Int)))) (fun hb540 => ?_) (fun hb540 => ?_)
          · replace H537 := ite_t hb540 H537
            have hA := hA.re (t := 37) rfl (congrArg Value.bool hb540)
            refine L1 (gate_on rfl rfl hA (by decide) rfl (stv hA (by decide) (run_move (hA.ev rfl)) ?_))
            clear hA; intro a hA
            refine L1 (gate_on rfl rfl hA (by decide) rfl (stv hA (by decide) (run_move (hA.ev rfl)) ?_))
            clear hA; intro a hA
            obtain ⟨r541, H542, H537⟩ := Option.bind_eq_some_iff.1 H537
            refine L1 (gate_on rfl rfl hA (by decide) rfl (st_call Try.call28 hA [(.slice A509 xs511.length c510), (.int .i64 t513)] rfl (by decide) (slices_Contains_int.calls _ _ _ _ _ _ _ ((RoV.mk (hM.rowC (p := (Pl.int .i64)) (Ms := []) .z) (RowOk.len (hM.row (p := (Pl.int .i64)) .z)) (RowOk.cap (hM.row (p := (Pl.int .i64)) .z)))) (hM.front (Ms := [])) H542) ?_))
            clear hA; rintro _ w543 ⟨rfl, hMc⟩ a hA
            have hE := hMc.below; have hM := hM.call (Ms := []) hMc
            clear hMc; simp only [List.cons_append, List.nil_append] at hM
            refine L1 (gate_on rfl rfl hA (by decide) rfl (stv hA (by decide) (run_not (hA.ev rfl)) ?_))
            clear hA; intro a hA
            refine L1 (stv hA (by decide) (run_pick (hA.ev rfl) (fun _ => hA.ev rfl) (fun h => Bool.noConfusion h)) ?_)
            clear hA; intro a hA
            refine LQ ?_
            exact ⟨(!r541), Option.some.inj H537, hM, ((((((hA.nil.cons (hA.get 42 _ rfl)).cons (hA.get 9 _ rfl)).cons (hA.get 8 _ rfl)).cons (hA.get 7 _ rfl)).cons (hA.get 1 _ rfl)).cons (hA.get 0 _ rfl))⟩
          · replace H537 := ite_f hb540 H537
            have hA := hA.re (t := 37) rfl (congrArg Value.bool hb540)
            refine L1 (gate_off rfl (by decide) rfl hA (by decide) rfl rfl ?_); clear hA; intro a hA
            refine L1 (gate_off rfl (by decide) rfl hA (by decide) rfl rfl ?_); clear hA; intro a hA
            refine L1 (gate_off rfl (by decide) rfl hA (by decide) rfl rfl ?_); clear hA; intro a hA
            refine L1 (gate_off rfl (by decide) rfl hA (by decide) rfl rfl ?_); clear hA; intro a hA
            refine L1 (stv hA (by decide) (run_pick (hA.ev rfl) (fun h => Bool.noConfusion h) (fun _ => hA.ev rfl)) ?_)
            clear hA; intro a hA
            refine LQ ?_
            exact ⟨false, Option.some.inj H537, hM, ((((((hA.nil.cons (hA.get 42 _ rfl)).cons (hA.get 9 _ rfl)).cons (hA.get 8 _ rfl)).cons (hA.get 7 _ rfl)).cons (hA.get 1 _ rfl)).cons (hA.get 0 _ rfl))⟩
        · replace H537 := ite_f hb539 H537
          have hA := hA.re (t := 32) rfl (congrArg Value.bool hb539)
          refine L1 (gate_off rfl (by decide) rfl hA (by decide) rfl rfl ?_); clear hA; intro a hA
          refine L1 (gate_off rfl (by decide) rfl hA (by decide) rfl rfl ?_); clear hA; intro a hA
          refine L1 (gate_off rfl (by decide) rfl hA (by decide) rfl rfl ?_); clear hA; intro a hA
          refine L1 (stv hA (by decide) (run_pick (hA.ev rfl) (fun h => Bool.noConfusion h) (fun _ => hA.ev rfl)) ?_)
          clear hA; intro a hA
          refine L1 (stv hA (by decide) (run_move (hA.ev rfl)) ?_)
          clear hA; intro a hA
          refine L1 (gate_off rfl (by decide) rfl hA (by decide) rfl rfl ?_); clear hA; intro a hA
          refine L1 (gate_off rfl (by decide) rfl hA (by decide) rfl rfl ?_); clear hA; intro a hA
          refine L1 (gate_off rfl (by decide) rfl hA (by decide) rfl rfl ?_); clear hA; intro a hA
          refine L1 (gate_off rfl (by decide) rfl hA (by decide) rfl rfl ?_); clear hA; intro a hA
          refine L1 (stv hA (by decide) (run_pick (hA.ev rfl) (fun h => Bool.noConfusion h) (fun _ => hA.ev rfl)) ?_)
          clear hA; intro a hA
          refine LQ ?_
          exact ⟨false, Option.some.inj H537, hM, ((((((hA.nil.cons (hA.get 42 _ rfl)).cons (hA.get 9 _ rfl)).cons (hA.get 8 _ rfl)).cons (hA.get 7 _ rfl)).cons (hA.get 1 _ rfl)).cons (hA.get 0 _ rfl))⟩
      clear hM hA
      rintro a w544 ⟨t536, rfl, hM, hA⟩
      try dsimp only at H520
      refine TN ?_
      refine tcond (b := t536) hA rfl (fun hb545 => ?_) (fun hb545 => ?_)
      · replace H520 := ite_t hb545 H520
        refine wp_skip ?_
        refine TN ?_
        refine wp_seq ?_
        refine wp_block ?_
        refine wp_seq ?_
        refine wp_region_lit ?_
        refine L1 (stv hA (by decide) (run_move (hA.ev rfl)) ?_)
        clear hA; intro a hA
        refine L1 (stv hA (by decide) (run_move (hA.ev rfl)) ?_)
        clear hA; intro a hA
        refine L1 (e_litN [t513] [(.int .i64 t513)] elt22 hM rfl (by decide) hA rfl rfl (List.cons_ne_nil _ _) (by decide) ?_)
        clear hM hA; intro w547 g546 hM hE  a hA
        obtain ⟨hl551, H520⟩ := ite_some H520
        refine L1 (e_append elt22 hM (fun _ => (.s .z)) (Src.row Try.underlying22 (RowOk.row (hM.row (p := (Pl.int .i64)) .z)) (RowOk.len (hM.row (p := (Pl.int .i64)) .z))) hl551 hA rfl rfl (by decide) ?_)
        clear hM hA; intro w552 A549 c550 hM hE  a hA
        refine L1 (stv hA (by decide) (run_assign (hA.ev rfl)) ?_)
        clear hA; intro a hA
        refine LQ ?_
        refine TN ?_
        refine wp_seq ?_
        obtain ⟨o567, H566, H520⟩ := Option.bind_eq_some_iff.1 H520
        refine cutC (fun a w => ∃ (t565 : Bool), t565 = o567 ∧ Mem F w0 w [.row 3 (Pl.int .i64).sz (.slice A549 (xs511.length + 1) c550) ((Pl.int .i64).flat (xs511 ++ [t513]))] ∧ Has 61 [(0, (.slice A0 routes_0.length c0)), (1, (.slice A1 diffuse_1.length c1)), (7, (.int .i64 ((routes_0.length : Nat) : Int))), (8, (.slice A549 (xs511.length + 1) c550)), (9, (.int .i64 t513)), (59, (.bool t565))] a) ?_ ?_
        · refine wp_region_lit ?_
          refine L1 (stv hA (by decide) (run_move (hA.ev rfl)) ?_)
          clear hA; intro a hA
          refine L1 (stv hA (by decide) (run_move (hA.ev rfl)) ?_)
          clear hA; intro a hA
          obtain ⟨⟨hi568, hj569⟩, H566⟩ := ite_some H566
          obtain ⟨ad570, hq571, hat572⟩ := Row.elem' (p := Pl.bool) (hM.ro hr1) (Eq.refl diffuse_1.length) false t513 hi568 hj569
          refine L1 (stv hA (by decide) (run_idx Try.underlying24 Try.sizeOf4 (hA.ev rfl) hq571 (hA.ev rfl) hi568 hj569) ?_)
          clear hA; intro a hA
          refine L1 (stv hA (by decide) (run_ld (hA.ev rfl) (run_loadS Try.isAgg4 hat572)) ?_)
          clear hA; intro a hA
          refine L1 (stv hA (by decide) (run_move (hA.ev rfl)) ?_)
          clear hA; intro a hA
          refine bsplit (b := (diffuse_1.getD t513.toNat false)) (fun hb573 => ?_) (fun hb573 => ?_)
          · replace H566 := ite_t hb573 H566
            have hA := hA.re (t := 55) rfl (congrArg Value.bool hb573)
            refine L1 (gate_on rfl rfl hA (by decide) rfl (stv hA (by decide) (run_move (hA.ev rfl)) ?_))
            clear hA; intro a hA
            refine L1 (gate_on rfl rfl hA (by decide) rfl (stv hA (by decide) (run_len_slice Try.underlying22 (hA.ev rfl)) ?_))
            clear hA; intro a hA
            refine L1 (gate_on rfl rfl hA (by decide) rfl (stv hA (by decide) (run_bin (hA.ev rfl) (hA.ev rfl) (bin_gtr _ _ _ _)) ?_))
            clear hA; intro a hA
            refine L1 (stv hA (by decide) (run_pick (hA.ev rfl) (fun _ => hA.ev rfl) (fun h => Bool.noConfusion h)) ?_)
            clear hA; intro a hA
            refine LQ ?_
            exact ⟨(decide ((((xs511.length + 1) : Nat) : Int) > 1)), Option.some.inj H566, (hM.sel [1] rfl (by decide)), ((((((hA.nil.cons (hA.get 59 _ rfl)).cons (hA.get 9 _ rfl)).cons (hA.get 8 _ rfl)).cons (hA.get 7 _ rfl)).cons (hA.get 1 _ rfl)).cons (hA.get 0 _ rfl))⟩
          · replace H566 := ite_f hb573 H566
            have hA := hA.re (t := 55) rfl (congrArg Value.bool hb573)
            refine L1 (gate_off rfl (by decide) rfl hA (by decide) rfl rfl ?_); clear hA; intro a hA
            refine L1 (gate_off rfl (by decide) rfl hA (by decide) rfl rfl ?_); clear hA; intro a hA
            refine L1 (gate_off rfl (by decide) rfl hA (by decide) rfl rfl ?_); clear hA; intro a hA
            refine L1 (stv hA (by decide) (run_pick (hA.ev rfl) (fun h => Bool.noConfusion h) (fun _ => hA.ev rfl)) ?_)
            clear hA; intro a hA
            refine LQ ?_
            exact ⟨false, Option.some.inj H566, (hM.sel [1] rfl (by decide)), ((((((hA.nil.cons (hA.get 59 _ rfl)).cons (hA.get 9 _ rfl)).cons (hA.get 8 _ rfl)).cons (hA.get 7 _ rfl)).cons (hA.get 1 _ rfl)).cons (hA.get 0 _ rfl))⟩
        clear hM hA
        rintro a w574 ⟨t565, rfl, hM, hA⟩
        try dsimp only at H520
        refine TN ?_
        refine tcond (b := t565) hA rfl (fun hb575 => ?_) (fun hb575 => ?_)
        · replace H520 := ite_t hb575 H520
          refine wp_exit ?_
          refine BO rfl ?_
          refine TX ?_
          refine TX ?_
          refine BX ?_
          exact ⟨(xs511 ++ [t513]), (.slice A549 (xs511.length + 1) c550), Option.some.inj H520, hM, (hA.nil.cons (hA.get 8 _ rfl))⟩
        · replace H520 := ite_f hb575 H520
          refine wp_skip ?_
          refine BN ?_
          refine TN ?_
          refine wp_region_lit ?_
          refine L1 (stv hA (by decide) (run_move (hA.ev rfl)) ?_)
          clear hA; intro a hA
          refine L1 (stv hA (by decide) (run_move (hA.ev rfl)) ?_)
          clear hA; intro a hA
          obtain ⟨⟨hi576, hj577⟩, H520⟩ := ite_some H520
          obtain ⟨ad578, hq579, hat580⟩ := Row.elem' (p := (Pl.int .i64)) (hM.ro hr0) (Eq.refl routes_0.length) (0 : Int) t513 hi576 hj577
          refine L1 (stv hA (by decide) (run_idx Try.underlying22 Try.sizeOf3 (hA.ev rfl) hq579 (hA.ev rfl) hi576 hj577) ?_)
          clear hA; intro a hA
          refine L1 (stv hA (by decide) (run_ld (hA.ev rfl) (run_loadS Try.isAgg3 hat580)) ?_)
          clear hA; intro a hA
          refine L1 (stv hA (by decide) (run_assign (hA.ev rfl)) ?_)
          clear hA; intro a hA
          refine LQ ?_
          exact ⟨_, Nat.lt_succ_self m523, (xs511 ++ [t513]), (routes_0.getD t513.toNat (0 : Int)), (.slice A549 (xs511.length + 1) c550), H520, hM, (((((hA.nil.cons (hA.get 9 _ rfl)).cons (hA.get 8 _ rfl)).cons (hA.get 7 _ rfl)).cons (hA.get 1 _ rfl)).cons (hA.get 0 _ rfl))⟩
      · replace H520 := ite_f hb545 H520
        refine wp_exit ?_
        refine TX ?_
        refine TX ?_
        refine BX ?_
        exact ⟨xs511, (.slice A509 xs511.length c510), Option.some.inj H520, hM, (hA.nil.cons (hA.get 8 _ rfl))⟩
    clear hM hA
    rintro a w581 ⟨xs519, v516, rfl, hM, hA⟩
    try dsimp only at H
    obtain ⟨A517, c518, rfl⟩ := RowOk.form (hM.row (p := (Pl.int .i64)) .z)
    refine TN ?_
    refine wp_seq ?_
    refine wp_region_lit ?_
    refine L1 (stv hA (by decide) (run_move (hA.ev rfl)) ?_)
    clear hA; intro a hA
    refine L1 (stv hA (by decide) (run_assign (hA.ev rfl)) ?_)
    clear hA; intro a hA
    refine LQ ?_
    refine TN ?_
    refine wp_ret ?_
    obtain rfl := Option.some.inj H
    exact ret_post1 (fn := Try.f10) hA rfl rfl ⟨_, rfl, (.slice A517 xs519.length c518), rfl, hM⟩

def relay_Seen.l0 (path_0 : (List Int)) (spies_1 : (List Bool)) : Nat → Int → Option (Out (Int × Int) (Unit))
  | 0, _ => none
  | k + 1, t270 => (if (decide (t270 < ((path_0.length : Nat) : Int))) = true then (if 0 ≤ t270 ∧ t270 < ((path_0.length : Nat) : Int) then (Option.bind (α := Bool) (if (decide (t270 > 0)) = true then (if (decide ((path_0.getD t270.toNat (0 : Int)) ≥ 0)) = true then (if (decide ((path_0.getD t270.toNat (0 : Int)) < ((spies_1.length : Nat) : Int))) = true then (if 0 ≤ (path_0.getD t270.toNat (0 : Int)) ∧ (path_0.getD t270.toNat (0 : Int)) < ((spies_1.length : Nat) : Int) then (some (spies_1.getD (path_0.getD t270.toNat (0 : Int)).toNat false)) else none) else (some false)) else (some false)) else (some false)) (fun t296 => (if t296 = true then (if 0 ≤ (IntKind.i64.wrap (t270 - 1)) ∧ (IntKind.i64.wrap (t270 - 1)) < ((path_0.length : Nat) : Int) then (some (.ret (t270, (path_0.getD (IntKind.i64.wrap (t270 - 1)).toNat (0 : Int))))) else none) else (relay_Seen.l0 path_0 spies_1 k (IntKind.i64.wrap (t270 + 1)))))) else none) else (some (.go ())))
def relay_Seen.f (k : Nat) (path_0 : (List Int)) (spies_1 : (List Bool)) : Option (Int × Int) := (Option.bind (α := Out (Int × Int) (Unit)) (relay_Seen.l0 path_0 spies_1 k 0) (fun o => match o with | .ret r => some r | .go _ => (some ((-1), (-1)))))
set_option maxRecDepth 100000 in
theorem relay_Seen.calls (k : Nat) (path_0 : (List Int)) (spies_1 : (List Bool)) (F : List (Option Nat)) (v0 : Value) (v1 : Value) (r : (Int × Int)) (w0 : World) (h0 : RoV F (Pl.int .i64) w0 v0 path_0) (h1 : RoV F Pl.bool w0 v1 spies_1) (hM : Mem F w0 w0 []) (H : relay_Seen.f k path_0 spies_1 = some r) :
    Calls Try.prog 11 #[v0, v1] w0 fun e w' => ∃ v, e = .returned v ∧ v = (.tuple #[(.int .i64 r.1), (.int .i64 r.2)]) ∧ Mem F w0 w' [] := by
  unfold relay_Seen.f at H
  obtain ⟨A0, c0, rfl, hr0, hc0⟩ := h0
  obtain ⟨A1, c1, rfl, hr1, hc1⟩ := h1
  refine enterL (n := 40) [(.slice A0 path_0.length c0), (.slice A1 spies_1.length c1)] Try.func11 rfl rfl rfl ?_
  intro a hA
  refine wp_seq ?_
  refine wp_region_lit ?_
  refine L1 (stv hA (by decide) (run_assign (hA.ev rfl)) ?_)
  clear hA; intro a hA
  refine L1 (stv hA (by decide) (run_assign (hA.ev rfl)) ?_)
  clear hA; intro a hA
  refine LQ ?_
  refine TN ?_
  refine wp_seq ?_
  refine wp_seq ?_
  refine wp_region_lit ?_
  refine L1 (stv hA (by decide) (run_move (hA.ev rfl)) ?_)
  clear hA; intro a hA
  refine L1 (stv hA (by decide) (run_len_slice Try.underlying22 (hA.ev rfl)) ?_)
  clear hA; intro a hA
  refine L1 (stv hA (by decide) (run_move (hA.ev rfl)) ?_)
  clear hA; intro a hA
  refine LQ ?_
  refine TN ?_
  obtain ⟨o272, H271, H⟩ := Option.bind_eq_some_iff.1 H
  refine cutC (fun a w => (.go ()) = o272 ∧ Mem F w0 w [] ∧ Has 40 [] a) ?_ ?_
  · refine wp_block ?_
    refine wp_loop_ghost (fun m a w => ∃ (t270 : Int), relay_Seen.l0 path_0 spies_1 m t270 = some o272 ∧ Mem F w0 w [] ∧ Has 40 [(0, (.slice A0 path_0.length c0)), (1, (.slice A1 spies_1.length c1)), (8, (.slice A0 path_0.length c0)), (9, (.int .i64 ((path_0.length : Nat) : Int))), (10, (.int .i64 t270))] a) k ⟨0, H271, hM, (((((hA.nil.cons (hA.get 10 _ rfl)).cons (hA.get 9 _ rfl)).cons (hA.get 8 _ rfl)).cons (hA.get 1 _ rfl)).cons (hA.get 0 _ rfl))⟩ ?_
    clear hM hA; rintro m273 a w274 ⟨t270, H271, hM, hA⟩
    cases m273 with
    | zero => exact absurd H271 (by simp [relay_Seen.l0])
    | succ m273 =>
    rw [relay_Seen.l0] at H271
    refine wp_seq ?_
    refine wp_region_lit ?_
    refine L1 (stv hA (by decide) (run_bin (hA.ev rfl) (hA.ev rfl) (bin_lss _ _ _ _)) ?_)
    clear hA; intro a hA
    refine LQ ?_
    refine TN ?_
    refine wp_seq ?_
    refine tcond (b := (decide (t270 < ((path_0.length : Nat) : Int)))) hA rfl (fun hb275 => ?_) (fun hb275 => ?_)
    · replace H271 := ite_t hb275 H271
      refine wp_skip ?_
      refine TN ?_
      refine wp_seq ?_
      refine wp_block ?_
      refine wp_seq ?_
      refine wp_region_lit ?_
      refine L1 (stv hA (by decide) (run_move (hA.ev rfl)) ?_)
      clear hA; intro a hA
      obtain ⟨⟨hi276, hj277⟩, H271⟩ := ite_some H271
      obtain ⟨ad278, hq279, hat280⟩ := Row.elem' (p := (Pl.int .i64)) (hM.ro hr0) (Eq.refl path_0.length) (0 : Int) t270 hi276 hj277
      refine L1 (stv hA (by decide) (run_idx Try.underlying22 Try.sizeOf3 (hA.ev rfl) hq279 (hA.ev rfl) hi276 hj277) ?_)
      clear hA; intro a hA
      refine L1 (stv hA (by decide) (run_ld (hA.ev rfl) (run_loadS Try.isAgg3 hat280)) ?_)
      clear hA; intro a hA
      refine L1 (stv hA (by decide) (run_assign (hA.ev rfl)) ?_)
      clear hA; intro a hA
      refine L1 (stv hA (by decide) (run_assign (hA.ev rfl)) ?_)
      clear hA; intro a hA
      refine LQ ?_
      refine TN ?_
      refine wp_seq ?_
      obtain ⟨o298, H297, H271⟩ := Option.bind_eq_some_iff.1 H271
      refine cutC (fun a w => ∃ (t296 : Bool), t296 = o298 ∧ Mem F w0 w [] ∧ Has 40 [(0, (.slice A0 path_0.length c0)), (1, (.slice A1 spies_1.length c1)), (6, (.int .i64 t270)), (8, (.slice A0 path_0.length c0)), (9, (.int .i64 ((path_0.length : Nat) : Int))), (10, (.int .i64 t270)), (32, (.bool t296))] a) ?_ ?_
      · refine wp_region_lit ?_
        refine L1 (stv hA (by decide) (run_move (hA.ev rfl)) ?_)
        clear hA; intro a hA
        refine L1 (stv hA (by decide) (run_bin (hA.ev rfl) (hA.ev rfl) (bin_gtr _ _ _ _)) ?_)
        clear hA; intro a hA
        refine L1 (stv hA (by decide) (run_move (hA.ev rfl)) ?_)
        clear hA; intro a hA
        refine bsplit (b := (decide (t270 > 0))) (fun hb299 => ?_) (fun hb299 => ?_)
        · replace H297 := ite_t hb299 H297
          have hA := hA.re (t := 17) rfl (congrArg Value.bool hb299)
          refine L1 (gate_on rfl rfl hA (by decide) rfl (stv hA (by decide) (run_move (hA.ev rfl)) ?_))
          clear hA; intro a hA
          refine L1 (gate_on rfl rfl hA (by decide) rfl (stv hA (by decide) (run_bin (hA.ev rfl) (hA.ev rfl) (bin_geq _ _ _ _)) ?_))
          clear hA; intro a hA
          refine L1 (stv hA (by decide) (run_pick (hA.ev rfl) (fun _ => hA.ev rfl) (fun h => Bool.noConfusion h)) ?_)
          clear hA; intro a hA
          refine L1 (stv hA (by decide) (run_move (hA.ev rfl)) ?_)
          clear hA; intro a hA
          refine bsplit (b := (decide ((path_0.getD t270.toNat (0 : Int)) ≥ 0))) (fun hb300 => ?_) (fun hb300 => ?_)
          · replace H297 := ite_t hb300 H297
            have hA := hA.re (t := 21) rfl (congrArg Value.bool hb300)
            refine L1 (gate_on rfl rfl hA (by decide) rfl (stv hA (by decide) (run_move (hA.ev rfl)) ?_))
            clear hA; intro a hA
            refine L1 (gate_on rfl rfl hA (by decide) rfl (stv hA (by decide) (run_move (hA.ev rfl)) ?_))
            clear hA; intro a hA
            refine L1 (gate_on rfl rfl hA (by decide) rfl (stv hA (by decide) (run_len_slice Try.underlying24 (hA.ev rfl)) ?_))
            clear hA; intro a hA
            refine L1 (gate_on rfl rfl hA (by decide) rfl (stv hA (by decide) (run_bin (hA.ev rfl) (hA.ev rfl) (bin_lss _ _ _ _)) ?_))
            clear hA; intro a hA
            refine L1 (stv hA (by decide) (run_pick (hA.ev rfl) (fun _ => hA.ev rfl) (fun h => Bool.noConfusion h)) ?_)
            clear hA; intro a hA
            refine L1 (stv hA (by decide) (run_move (hA.ev rfl)) ?_)
            clear hA; intro a hA
            refine bsplit (b := (decide ((path_0.getD t270.toNat (0 : Int)) < ((spies_1.length : Nat) : Int)))) (fun hb301 => ?_) (fun hb301 => ?_)
            · replace H297 := ite_t hb301 H297
              have hA := hA.re (t := 27) rfl (congrArg Value.bool hb301)
              refine L1 (gate_on rfl rfl hA (by decide) rfl (stv hA (by decide) (run_move (hA.ev rfl)) ?_))
              clear hA; intro a hA
              refine L1 (gate_on rfl rfl hA (by decide) rfl (stv hA (by decide) (run_move (hA.ev rfl)) ?_))
              clear hA; intro a hA
              obtain ⟨⟨hi302, hj303⟩, H297⟩ := ite_some H297
              obtain ⟨ad304, hq305, hat306⟩ := Row.elem' (p := Pl.bool) (hM.ro hr1) (Eq.refl spies_1.length) false (path_0.getD t270.toNat (0 : Int)) hi302 hj303
              refine L1 (gate_on rfl rfl hA (by decide) rfl (stv hA (by decide) (run_idx Try.underlying24 Try.sizeOf4 (hA.ev rfl) hq305 (hA.ev rfl) hi302 hj303) ?_))
              clear hA; intro a hA
              refine L1 (gate_on rfl rfl hA (by decide) rfl (stv hA (by decide) (run_ld (hA.ev rfl) (run_loadS Try.isAgg4 hat306)) ?_))
              clear hA; intro a hA
              refine L1 (stv hA (by decide) (run_pick (hA.ev rfl) (fun _ => hA.ev rfl) (fun h => Bool.noConfusion h)) ?_)
              clear hA; intro a hA
              refine LQ ?_
              exact ⟨(spies_1.getD (path_0.getD t270.toNat (0 : Int)).toNat false), Option.some.inj H297, hM, (((((((hA.nil.cons (hA.get 32 _ rfl)).cons (hA.get 10 _ rfl)).cons (hA.get 9 _ rfl)).cons (hA.get 8 _ rfl)).cons (hA.get 6 _ rfl)).cons (hA.get 1 _ rfl)).cons (hA.get 0 _ rfl))⟩
            · replace H297 := ite_f hb301 H297
              have hA := hA.re (t := 27) rfl (congrArg Value.bool hb301)
              refine L1 (gate_off rfl (by decide) rfl hA (by decide) rfl rfl ?_); clear hA; intro a hA
              refine L1 (gate_off rfl (by decide) rfl hA (by decide) rfl rfl ?_); clear hA; intro a hA
              refine L1 (gate_off rfl (by decide) rfl hA (by decide) rfl rfl ?_); clear hA; intro a hA
              refine L1 (gate_off rfl (by decide) rfl hA (by decide) rfl rfl ?_); clear hA; intro a hA
              refine L1 (stv hA (by decide) (run_pick (hA.ev rfl) (fun h => Bool.noConfusion h) (fun _ => hA.ev rfl)) ?_)
              clear hA; intro a hA
              refine LQ ?_
              exact ⟨false, Option.some.inj H297, hM, (((((((hA.nil.cons (hA.get 32 _ rfl)).cons (hA.get 10 _ rfl)).cons (hA.get 9 _ rfl)).cons (hA.get 8 _ rfl)).cons (hA.get 6 _ rfl)).cons (hA.get 1 _ rfl)).cons (hA.get 0 _ rfl))⟩
          · replace H297 := ite_f hb300 H297
            have hA := hA.re (t := 21) rfl (congrArg Value.bool hb300)
            refine L1 (gate_off rfl (by decide) rfl hA (by decide) rfl rfl ?_); clear hA; intro a hA
            refine L1 (gate_off rfl (by decide) rfl hA (by decide) rfl rfl ?_); clear hA; intro a hA
            refine L1 (gate_off rfl (by decide) rfl hA (by decide) rfl rfl ?_); clear hA; intro a hA
            refine L1 (gate_off rfl (by decide) rfl hA (by decide) rfl rfl ?_); clear hA; intro a hA
            refine L1 (stv hA (by decide) (run_pick (hA.ev rfl) (fun h => Bool.noConfusion h) (fun _ => hA.ev rfl)) ?_)
            clear hA; intro a hA
            refine L1 (stv hA (by decide) (run_move (hA.ev rfl)) ?_)
            clear hA; intro a hA
            refine L1 (gate_off rfl (by decide) rfl hA (by decide) rfl rfl ?_); clear hA; intro a hA
            refine L1 (gate_off rfl (by decide) rfl hA (by decide) rfl rfl ?_); clear hA; intro a hA
            refine L1 (gate_off rfl (by decide) rfl hA (by decide) rfl rfl ?_); clear hA; intro a hA
            refine L1 (gate_off rfl (by decide) rfl hA (by decide) rfl rfl ?_); clear hA; intro a hA
            refine L1 (stv hA (by decide) (run_pick (hA.ev rfl) (fun h => Bool.noConfusion h) (fun _ => hA.ev rfl)) ?_)
            clear hA; intro a hA
            refine LQ ?_
            exact ⟨false, Option.some.inj H297, hM, (((((((hA.nil.cons (hA.get 32 _ rfl)).cons (hA.get 10 _ rfl)).cons (hA.get 9 _ rfl)).cons (hA.get 8 _ rfl)).cons (hA.get 6 _ rfl)).cons (hA.get 1 _ rfl)).cons (hA.get 0 _ rfl))⟩
        · replace H297 := ite_f hb299 H297
          have hA := hA.re (t := 17) rfl (congrArg Value.bool hb299)
          refine L1 (gate_off rfl (by decide) rfl hA (by decide) rfl rfl ?_); clear hA; intro a hA
          refine L1 (gate_off rfl (by decide) rfl hA (by decide) rfl rfl ?_); clear hA; intro a hA
          refine L1 (stv hA (by decide) (run_pick (hA.ev rfl) (fun h => Bool.noConfusion h) (fun _ => hA.ev rfl)) ?_)
          clear hA; intro a hA
          refine L1 (stv hA (by decide) (run_move (hA.ev rfl)) ?_)
          clear hA; intro a hA
          refine L1 (gate_off rfl (by decide) rfl hA (by decide) rfl rfl ?_); clear hA; intro a hA
          refine L1 (gate_off rfl (by decide) rfl hA (by decide) rfl rfl ?_); clear hA; intro a hA
          refine L1 (gate_off rfl (by decide) rfl hA (by decide) rfl rfl ?_); clear hA; intro a hA
          refine L1 (gate_off rfl (by decide) rfl hA (by decide) rfl rfl ?_); clear hA; intro a hA
          refine L1 (stv hA (by decide) (run_pick (hA.ev rfl) (fun h => Bool.noConfusion h) (fun _ => hA.ev rfl)) ?_)
          clear hA; intro a hA
          refine L1 (stv hA (by decide) (run_move (hA.ev rfl)) ?_)
          clear hA; intro a hA
          refine L1 (gate_off rfl (by decide) rfl hA (by decide) rfl rfl ?_); clear hA; intro a hA
          refine L1 (gate_off rfl (by decide) rfl hA (by decide) rfl rfl ?_); clear hA; intro a hA
          refine L1 (gate_off rfl (by decide) rfl hA (by decide) rfl rfl ?_); clear hA; intro a hA
          refine L1 (gate_off rfl (by decide) rfl hA (by decide) rfl rfl ?_); clear hA; intro a hA
          refine L1 (stv hA (by decide) (run_pick (hA.ev rfl) (fun h => Bool.noConfusion h) (fun _ => hA.ev rfl)) ?_)
          clear hA; intro a hA
          refine LQ ?_
          exact ⟨false, Option.some.inj H297, hM, (((((((hA.nil.cons (hA.get 32 _ rfl)).cons (hA.get 10 _ rfl)).cons (hA.get 9 _ rfl)).cons (hA.get 8 _ rfl)).cons (hA.get 6 _ rfl)).cons (hA.get 1 _ rfl)).cons (hA.get 0 _ rfl))⟩
      clear hM hA
      rintro a w307 ⟨t296, rfl, hM, hA⟩
      try dsimp only at H271
      refine TN ?_
      refine tcond (b := t296) hA rfl (fun hb308 => ?_) (fun hb308 => ?_)
      · replace H271 := ite_t hb308 H271
        refine wp_seq ?_
        refine draw (fun w' => Below w307.heap.size w307 w') [] rfl ?_
        intro w309 hw hS; replace hM := hM.ext hS; clear hw
        refine d_takef (i := 0) (L' := #[true, false, false, false, false, false, false, false]) rfl (by kernel_rfl) rfl (fun _ _ _ h => h) hA (by decide) (fun _ => hS) (fun a w' hA => run_move (hA.ev rfl)) ?_; clear hA; intro a hA
        refine d_takef (i := 1) (L' := #[true, true, false, false, false, false, false, false]) rfl (by kernel_rfl) rfl (fun _ _ _ h => h) hA (by decide) (fun _ => hS) (fun a w' hA => run_move (hA.ev rfl)) ?_; clear hA; intro a hA
        refine d_takef (i := 2) (L' := #[true, true, true, false, false, false, false, false]) rfl (by kernel_rfl) rfl (fun _ _ _ h => h) hA (by decide) (fun _ => hS) (fun a w' hA => run_move (hA.ev rfl)) ?_; clear hA; intro a hA
        refine d_takef (i := 3) (L' := #[true, true, true, true, false, false, false, false]) rfl (by kernel_rfl) rfl (fun _ _ _ h => h) hA (by decide) (fun _ => hS) (fun a w' hA => run_bin (hA.ev rfl) (hA.ev rfl) (bin_sub _ _ _ _)) ?_; clear hA; intro a hA
        obtain ⟨⟨hi311, hj312⟩, H271⟩ := ite_some H271
        obtain ⟨ad313, hq314, hat315⟩ := Row.elem' (p := (Pl.int .i64)) (hM.ro hr0) (Eq.refl path_0.length) (0 : Int) (IntKind.i64.wrap (t270 - 1)) hi311 hj312
        refine d_takef (i := 4) (L' := #[true, true, true, true, true, false, false, false]) rfl (by kernel_rfl) rfl (fun _ _ _ h => h) hA (by decide) (fun _ => hS) (fun a w' hA => run_idx Try.underlying22 Try.sizeOf3 (hA.ev rfl) hq314 (hA.ev rfl) hi311 hj312) ?_; clear hA; intro a hA
        refine rebase hS ?_; clear hS; intro hS
        refine d_take (i := 5) (L' := #[true, true, true, true, true, true, false, false]) rfl (by kernel_rfl) rfl (fun _ _ _ h => h) hA (by decide) rfl hS (fun a w' hA hS' => run_ld (hA.ev rfl) (run_loadS Try.isAgg3 ((hat315).extB hS'))) ?_; clear hA; intro a hA
        refine d_takef (i := 6) (L' := #[true, true, true, true, true, true, true, false]) rfl (by kernel_rfl) rfl (fun _ _ _ h => h) hA (by decide) (fun _ => hS) (fun a w' hA => run_assign (hA.ev rfl)) ?_; clear hA; intro a hA
        refine d_takef (i := 7) (L' := #[true, true, true, true, true, true, true, true]) rfl (by kernel_rfl) rfl (fun _ _ _ h => h) hA (by decide) (fun _ => hS) (fun a w' hA => run_assign (hA.ev rfl)) ?_; clear hA; intro a hA
        refine d_done (by kernel_rfl) ?_
        refine TN ?_
        refine wp_ret ?_
        obtain rfl := Option.some.inj H271
        dsimp only at H
        obtain rfl := Option.some.inj H
        refine BR ?_
        refine TR ?_
        refine TR ?_
        refine BR ?_
        refine TR ?_
        refine TR ?_
        exact ret_post2 (fn := Try.f11) hA rfl rfl rfl ⟨_, rfl, rfl, hM⟩
      · replace H271 := ite_f hb308 H271
        refine wp_skip ?_
        refine BN ?_
        refine TN ?_
        refine wp_region_lit ?_
        refine L1 (stv hA (by decide) (run_bin (hA.ev rfl) (hA.ev rfl) (bin_add _ _ _ _)) ?_)
        clear hA; intro a hA
        refine L1 (stv hA (by decide) (run_move (hA.ev rfl)) ?_)
        clear hA; intro a hA
        refine LQ ?_
        exact ⟨_, Nat.lt_succ_self m273, IntKind.i64.wrap (t270 + 1), H271, hM, (((((hA.nil.cons (hA.get 10 _ rfl)).cons (hA.get 9 _ rfl)).cons (hA.get 8 _ rfl)).cons (hA.get 1 _ rfl)).cons (hA.get 0 _ rfl))⟩
    · replace H271 := ite_f hb275 H271
      refine wp_exit ?_
      refine TX ?_
      refine TX ?_
      refine BX ?_
      exact ⟨Option.some.inj H271, hM, hA.nil⟩
  clear hM hA
  rintro a w316 ⟨rfl, hM, hA⟩
  try dsimp only at H
  refine TN ?_
  refine wp_seq ?_
  refine wp_region_lit ?_
  refine L1 (stv hA (by decide) (run_assign (hA.ev rfl)) ?_)
  clear hA; intro a hA
  refine L1 (stv hA (by decide) (run_assign (hA.ev rfl)) ?_)
  clear hA; intro a hA
  refine LQ ?_
  refine TN ?_
  refine wp_ret ?_
  obtain rfl := Option.some.inj H
  exact ret_post2 (fn := Try.f11) hA rfl rfl rfl ⟨_, rfl, rfl, hM⟩

def ref40_SameInts.l0 (a_0 : (List Int)) (b_1 : (List Int)) : Nat → Int → Option (Out Bool (Unit))
  | 0, _ => none
  | k + 1, i135 => (if (decide (i135 < ((a_0.length : Nat) : Int))) = true then (if 0 ≤ i135 ∧ i135 < ((a_0.length : Nat) : Int) then (if 0 ≤ i135 ∧ i135 < ((b_1.length : Nat) : Int) then (if ((a_0.getD i135.toNat (0 : Int)) != (b_1.getD i135.toNat (0 : Int))) = true then (some (.ret false)) else (ref40_SameInts.l0 a_0 b_1 k (IntKind.i64.wrap (i135 + 1)))) else none) else none) else (some (.go ())))
def ref40_SameInts.f (k : Nat) (a_0 : (List Int)) (b_1 : (List Int)) : Option Bool := (if (((a_0.length : Nat) : Int) != ((b_1.length : Nat) : Int)) = true then (some false) else (Option.bind (α := Out Bool (Unit)) (ref40_SameInts.l0 a_0 b_1 k 0) (fun o => match o with | .ret r => some r | .go _ => (some true))))
set_option maxRecDepth 100000 in
theorem ref40_SameInts.calls (k : Nat) (a_0 : (List Int)) (b_1 : (List Int)) (F : List (Option Nat)) (v0 : Value) (v1 : Value) (r : Bool) (w0 : World) (h0 : RoV F (Pl.int .i64) w0 v0 a_0) (h1 : RoV F (Pl.int .i64) w0 v1 b_1) (hM : Mem F w0 w0 []) (H : ref40_SameInts.f k a_0 b_1 = some r) :
    Calls Try.prog 26 #[v0, v1] w0 fun e w' => ∃ v, e = .returned v ∧ v = (.bool r) ∧ Mem F w0 w' [] := by
  unfold ref40_SameInts.f at H
  obtain ⟨A0, c0, rfl, hr0, hc0⟩ := h0
  obtain ⟨A1, c1, rfl, hr1, hc1⟩ := h1
  refine enterL (n := 26) [(.slice A0 a_0.length c0), (.slice A1 b_1.length c1)] Try.func26 rfl rfl rfl ?_
  intro a hA
  refine wp_seq ?_
  refine wp_region_lit ?_
  refine L1 (stv hA (by decide) (run_assign (hA.ev rfl)) ?_)
  clear hA; intro a hA
  refine LQ ?_
  refine TN ?_
  refine wp_seq ?_
  refine wp_seq ?_
  refine wp_region_lit ?_
  refine L1 (stv hA (by decide) (run_move (hA.ev rfl)) ?_)
  clear hA; intro a hA
  refine L1 (stv hA (by decide) (run_len_slice Try.underlying22 (hA.ev rfl)) ?_)
  clear hA; intro a hA
  refine L1 (stv hA (by decide) (run_move (hA.ev rfl)) ?_)
  clear hA; intro a hA
  refine L1 (stv hA (by decide) (run_len_slice Try.underlying22 (hA.ev rfl)) ?_)
  clear hA; intro a hA
  refine L1 (stv hA (by decide) (run_bin (hA.ev rfl) (hA.ev rfl) (bin_neq _ _ _ _)) ?_)
  clear hA; intro a hA
  refine LQ ?_
  refine TN ?_
  refine tcond (b := (((a_0.length : Nat) : Int) != ((b_1.length : Nat) : Int))) hA rfl (fun hb78 => ?_) (fun hb78 => ?_)
  · replace H := ite_t hb78 H
    refine wp_seq ?_
    refine wp_region_lit ?_
    refine L1 (stv hA (by decide) (run_assign (hA.ev rfl)) ?_)
    clear hA; intro a hA
    refine LQ ?_
    refine TN ?_
    refine wp_ret ?_
    obtain rfl := Option.some.inj H
    refine TR ?_
    exact ret_post1 (fn := Try.f26) hA rfl rfl ⟨_, rfl, rfl, hM⟩
  · replace H := ite_f hb78 H
    refine wp_skip ?_
    refine TN ?_
    refine wp_seq ?_
    refine wp_seq ?_
    refine wp_region_lit ?_
    refine L1 (stv hA (by decide) (run_assign (hA.ev rfl)) ?_)
    clear hA; intro a hA
    refine LQ ?_
    refine TN ?_
    obtain ⟨o137, H136, H⟩ := Option.bind_eq_some_iff.1 H
    refine cutC (fun a w => (.go ()) = o137 ∧ Mem F w0 w [] ∧ Has 26 [] a) ?_ ?_
    · refine wp_block ?_
      refine wp_loop_ghost (fun m a w => ∃ (i135 : Int), ref40_SameInts.l0 a_0 b_1 m i135 = some o137 ∧ Mem F w0 w [] ∧ Has 26 [(0, (.slice A0 a_0.length c0)), (1, (.slice A1 b_1.length c1)), (5, (.int .i64 i135))] a) k ⟨0, H136, hM, (((hA.nil.cons (hA.get 5 _ rfl)).cons (hA.get 1 _ rfl)).cons (hA.get 0 _ rfl))⟩ ?_
      clear hM hA; rintro m138 a w139 ⟨i135, H136, hM, hA⟩
      cases m138 with
      | zero => exact absurd H136 (by simp [ref40_SameInts.l0])
      | succ m138 =>
      rw [ref40_SameInts.l0] at H136
      refine wp_seq ?_
      refine wp_seq ?_
      refine wp_region_lit ?_
      refine L1 (stv hA (by decide) (run_move (hA.ev rfl)) ?_)
      clear hA; intro a hA
      refine L1 (stv hA (by decide) (run_move (hA.ev rfl)) ?_)
      clear hA; intro a hA
      refine L1 (stv hA (by decide) (run_len_slice Try.underlying22 (hA.ev rfl)) ?_)
      clear hA; intro a hA
      refine L1 (stv hA (by decide) (run_bin (hA.ev rfl) (hA.ev rfl) (bin_lss _ _ _ _)) ?_)
      clear hA; intro a hA
      refine LQ ?_
      refine TN ?_
      refine tcond (b := (decide (i135 < ((a_0.length : Nat) : Int)))) hA rfl (fun hb140 => ?_) (fun hb140 => ?_)
      · replace H136 := ite_t hb140 H136
        refine wp_skip ?_
        refine TN ?_
        refine wp_seq ?_
        refine wp_block ?_
        refine wp_seq ?_
        refine draw (fun w' => Below w139.heap.size w139 w') [] rfl ?_
        intro w141 hw hS; replace hM := hM.ext hS; clear hw
        refine d_takef (i := 0) (L' := #[true, false, false, false, false, false, false, false, false]) rfl (by kernel_rfl) rfl (fun _ _ _ h => h) hA (by decide) (fun _ => hS) (fun a w' hA => run_move (hA.ev rfl)) ?_; clear hA; intro a hA
        refine d_takef (i := 1) (L' := #[true, true, false, false, false, false, false, false, false]) rfl (by kernel_rfl) rfl (fun _ _ _ h => h) hA (by decide) (fun _ => hS) (fun a w' hA => run_move (hA.ev rfl)) ?_; clear hA; intro a hA
        obtain ⟨⟨hi143, hj144⟩, H136⟩ := ite_some H136
        obtain ⟨ad145, hq146, hat147⟩ := Row.elem' (p := (Pl.int .i64)) (hM.ro hr0) (Eq.refl a_0.length) (0 : Int) i135 hi143 hj144
        refine d_takef (i := 2) (L' := #[true, true, true, false, false, false, false, false, false]) rfl (by kernel_rfl) rfl (fun _ _ _ h => h) hA (by decide) (fun _ => hS) (fun a w' hA => run_idx Try.underlying22 Try.sizeOf3 (hA.ev rfl) hq146 (hA.ev rfl) hi143 hj144) ?_; clear hA; intro a hA
        refine rebase hS ?_; clear hS; intro hS
        refine d_take (i := 3) (L' := #[true, true, true, true, false, false, false, false, false]) rfl (by kernel_rfl) rfl (fun _ _ _ h => h) hA (by decide) rfl hS (fun a w' hA hS' => run_ld (hA.ev rfl) (run_loadS Try.isAgg3 ((hat147).extB hS'))) ?_; clear hA; intro a hA
        refine d_takef (i := 4) (L' := #[true, true, true, true, true, false, false, false, false]) rfl (by kernel_rfl) rfl (fun _ _ _ h => h) hA (by decide) (fun _ => hS) (fun a w' hA => run_move (hA.ev rfl)) ?_; clear hA; intro a hA
        refine d_takef (i := 5) (L' := #[true, true, true, true, true, true, false, false, false]) rfl (by kernel_rfl) rfl (fun _ _ _ h => h) hA (by decide) (fun _ => hS) (fun a w' hA => run_move (hA.ev rfl)) ?_; clear hA; intro a hA
        obtain ⟨⟨hi148, hj149⟩, H136⟩ := ite_some H136
        obtain ⟨ad150, hq151, hat152⟩ := Row.elem' (p := (Pl.int .i64)) (hM.ro hr1) (Eq.refl b_1.length) (0 : Int) i135 hi148 hj149
        refine d_takef (i := 6) (L' := #[true, true, true, true, true, true, true, false, false]) rfl (by kernel_rfl) rfl (fun _ _ _ h => h) hA (by decide) (fun _ => hS) (fun a w' hA => run_idx Try.underlying22 Try.sizeOf3 (hA.ev rfl) hq151 (hA.ev rfl) hi148 hj149) ?_; clear hA; intro a hA
        refine d_take (i := 7) (L' := #[true, true, true, true, true, true, true, true, false]) rfl (by kernel_rfl) rfl (fun _ _ _ h => h) hA (by decide) rfl hS (fun a w' hA hS' => run_ld (hA.ev rfl) (run_loadS Try.isAgg3 ((hat152).extB hS'))) ?_; clear hA; intro a hA
        refine d_takef (i := 8) (L' := #[true, true, true, true, true, true, true, true, true]) rfl (by kernel_rfl) rfl (fun _ _ _ h => h) hA (by decide) (fun _ => hS) (fun a w' hA => run_bin (hA.ev rfl) (hA.ev rfl) (bin_neq _ _ _ _)) ?_; clear hA; intro a hA
        refine d_done (by kernel_rfl) ?_
        refine TN ?_
        refine tcond (b := ((a_0.getD i135.toNat (0 : Int)) != (b_1.getD i135.toNat (0 : Int)))) hA rfl (fun hb153 => ?_) (fun hb153 => ?_)
        · replace H136 := ite_t hb153 H136
          refine wp_seq ?_
          refine wp_region_lit ?_
          refine L1 (stv hA (by decide) (run_assign (hA.ev rfl)) ?_)
          clear hA; intro a hA
          refine LQ ?_
          refine TN ?_
          refine wp_ret ?_
          obtain rfl := Option.some.inj H136
          dsimp only at H
          obtain rfl := Option.some.inj H
          refine BR ?_
          refine TR ?_
          refine TR ?_
          refine BR ?_
          refine TR ?_
          refine TR ?_
          exact ret_post1 (fn := Try.f26) hA rfl rfl ⟨_, rfl, rfl, hM⟩
        · replace H136 := ite_f hb153 H136
          refine wp_skip ?_
          refine BN ?_
          refine TN ?_
          refine wp_region_lit ?_
          refine L1 (stv hA (by decide) (run_move (hA.ev rfl)) ?_)
          clear hA; intro a hA
          refine L1 (stv hA (by decide) (run_bin (hA.ev rfl) (hA.ev rfl) (bin_add _ _ _ _)) ?_)
          clear hA; intro a hA
          refine L1 (stv hA (by decide) (run_assign (hA.ev rfl)) ?_)
          clear hA; intro a hA
          refine LQ ?_
          exact ⟨_, Nat.lt_succ_self m138, IntKind.i64.wrap (i135 + 1), H136, hM, (((hA.nil.cons (hA.get 5 _ rfl)).cons (hA.get 1 _ rfl)).cons (hA.get 0 _ rfl))⟩
      · replace H136 := ite_f hb140 H136
        refine wp_exit ?_
        refine TX ?_
        refine TX ?_
        refine BX ?_
        exact ⟨Option.some.inj H136, hM, hA.nil⟩
    clear hM hA
    rintro a w154 ⟨rfl, hM, hA⟩
    try dsimp only at H
    refine TN ?_
    refine wp_seq ?_
    refine wp_region_lit ?_
    refine L1 (stv hA (by decide) (run_assign (hA.ev rfl)) ?_)
    clear hA; intro a hA
    refine LQ ?_
    refine TN ?_
    refine wp_ret ?_
    obtain rfl := Option.some.inj H
    exact ret_post1 (fn := Try.f26) hA rfl rfl ⟨_, rfl, rfl, hM⟩

def law40_sane.f (k : Nat)  : Option Bool := (if 0 ≤ (4 : Int) ∧ (4 : Int) * 1 ≤ 140737488355328 then ((relay_Walk.f k [(1 : Int), (2 : Int), (3 : Int), ((-1) : Int)] (List.replicate ((4 : Int).toNat) false) 0).bind fun r51 => ((relay_Seen.f k r51 [false, false, true, false]).bind fun r61 => (Option.bind (α := Bool) ((ref40_SameInts.f k r51 [(0 : Int), (1 : Int), (2 : Int), (3 : Int)]).bind fun r79 => (if r79 = true then (if (r61.1 == 2) = true then (some (r61.2 == 1)) else (some false)) else (some false))) (fun t73 => (some t73))))) else none)
set_option maxRecDepth 100000 in
theorem law40_sane.calls (k : Nat)  (F : List (Option Nat)) (r : Bool) (w0 : World) (hM : Mem F w0 w0 []) (H : law40_sane.f k  = some r) :
    Calls Try.prog 7 #[] w0 fun e w' => ∃ v, e = .returned v ∧ v = (.bool r) ∧ Mem F w0 w' [] := by
  unfold law40_sane.f at H
  refine enterL (n := 24) [] Try.func7 rfl rfl rfl ?_
  intro a hA
  refine wp_seq ?_
  refine wp_region_lit ?_
  refine L1 (stv hA (by decide) (run_assign (hA.ev rfl)) ?_)
  clear hA; intro a hA
  refine LQ ?_
  refine TN ?_
  refine wp_seq ?_
  refine wp_region_lit ?_
  refine L1 (e_litN [(1 : Int), (2 : Int), (3 : Int), ((-1) : Int)] [(.int .i64 1), (.int .i64 2), (.int .i64 3), (.int .i64 (-1))] elt22 hM rfl (by decide) hA rfl rfl (List.cons_ne_nil _ _) (by decide) ?_)
  clear hM hA; intro w44 g43 hM hE  a hA
  obtain ⟨⟨hi47, hj48⟩, H⟩ := ite_some H
  refine L1 (e_make elt24 rfl hM hA rfl rfl hi47 hj48 (by decide) ?_)
  clear hM hA; intro w49 g46 hM hE  a hA
  obtain ⟨r51, H52, H⟩ := Option.bind_eq_some_iff.1 H
  refine L1 (st_call Try.call10 hA [(.slice (some ⟨g43, 0, none⟩) 4 4), (.slice (some ⟨g46, 0, none⟩) ((4 : Int).toNat) ((4 : Int).toNat)), (.int .i64 0)] rfl (by decide) (relay_Walk.calls _ _ _ _ _ _ _ _ _ ((RoV.mk (hM.rowC (p := (Pl.int .i64)) (Ms := []) (.s .z)) (RowOk.len (hM.row (p := (Pl.int .i64)) (.s .z))) (RowOk.cap (hM.row (p := (Pl.int .i64)) (.s .z))))) ((RoV.mk (hM.rowC (p := Pl.bool) (Ms := []) .z) (RowOk.len (hM.row (p := Pl.bool) .z)) (RowOk.cap (hM.row (p := Pl.bool) .z)))) (hM.front (Ms := [])) H52) ?_)
  clear hA; rintro _ w53 ⟨v54, rfl, hMc⟩ a hA
  have hE := hMc.below; have hM := hM.call (Ms := []) hMc
  clear hMc; simp only [List.cons_append, List.nil_append] at hM
  obtain ⟨A56, c57, rfl⟩ := RowOk.form (hM.row (p := (Pl.int .i64)) .z)
  refine L1 (stv hA (by decide) (run_assign (hA.ev rfl)) ?_)
  clear hA; intro a hA
  refine LQ ?_
  refine TN ?_
  refine wp_seq ?_
  refine wp_region_lit ?_
  refine L1 (stv hA (by decide) (run_move (hA.ev rfl)) ?_)
  clear hA; intro a hA
  refine L1 (e_litN [false, false, true, false] [(.bool false), (.bool false), (.bool true), (.bool false)] elt24 hM rfl (by decide) hA rfl rfl (List.cons_ne_nil _ _) (by decide) ?_)
  clear hM hA; intro w59 g58 hM hE  a hA
  obtain ⟨r61, H62, H⟩ := Option.bind_eq_some_iff.1 H
  refine L1 (st_call Try.call11 hA [(.slice A56 r51.length c57), (.slice (some ⟨g58, 0, none⟩) 4 4)] rfl (by decide) (relay_Seen.calls _ _ _ _ _ _ _ _ ((RoV.mk (hM.rowC (p := (Pl.int .i64)) (Ms := []) (.s .z)) (RowOk.len (hM.row (p := (Pl.int .i64)) (.s .z))) (RowOk.cap (hM.row (p := (Pl.int .i64)) (.s .z))))) ((RoV.mk (hM.rowC (p := Pl.bool) (Ms := []) .z) (RowOk.len (hM.row (p := Pl.bool) .z)) (RowOk.cap (hM.row (p := Pl.bool) .z)))) (hM.front (Ms := [])) H62) ?_)
  clear hA; rintro _ w63 ⟨rfl, hMc⟩ a hA
  have hE := hMc.below; have hM := hM.call (Ms := []) hMc
  clear hMc; simp only [List.cons_append, List.nil_append] at hM
  refine L1 (stv hA (by decide) (run_move (hA.ev rfl)) ?_)
  clear hA; intro a hA
  refine L1 (stv hA (by decide) (run_ext (hA.ev rfl) rfl) ?_)
  clear hA; intro a hA
  refine L1 (stv hA (by decide) (run_ext (hA.ev rfl) rfl) ?_)
  clear hA; intro a hA
  refine L1 (stv hA (by decide) (run_assign (hA.ev rfl)) ?_)
  clear hA; intro a hA
  refine L1 (stv hA (by decide) (run_assign (hA.ev rfl)) ?_)
  clear hA; intro a hA
  refine LQ ?_
  refine TN ?_
  refine wp_seq ?_
  obtain ⟨o75, H74, H⟩ := Option.bind_eq_some_iff.1 H
  refine cutC (fun a w => ∃ (t73 : Bool), t73 = o75 ∧ Mem F w0 w [] ∧ Has 24 [(0, (.bool t73))] a) ?_ ?_
  · refine wp_region_lit ?_
    refine L1 (stv hA (by decide) (run_move (hA.ev rfl)) ?_)
    clear hA; intro a hA
    refine L1 (e_litN [(0 : Int), (1 : Int), (2 : Int), (3 : Int)] [(.int .i64 0), (.int .i64 1), (.int .i64 2), (.int .i64 3)] elt22 hM rfl (by decide) hA rfl rfl (List.cons_ne_nil _ _) (by decide) ?_)
    clear hM hA; intro w77 g76 hM hE  a hA
    obtain ⟨r79, H80, H74⟩ := Option.bind_eq_some_iff.1 H74
    refine L1 (st_call Try.call26 hA [(.slice A56 r51.length c57), (.slice (some ⟨g76, 0, none⟩) 4 4)] rfl (by decide) (ref40_SameInts.calls _ _ _ _ _ _ _ _ ((RoV.mk (hM.rowC (p := (Pl.int .i64)) (Ms := []) (.s (.s .z))) (RowOk.len (hM.row (p := (Pl.int .i64)) (.s (.s .z)))) (RowOk.cap (hM.row (p := (Pl.int .i64)) (.s (.s .z)))))) ((RoV.mk (hM.rowC (p := (Pl.int .i64)) (Ms := []) .z) (RowOk.len (hM.row (p := (Pl.int .i64)) .z)) (RowOk.cap (hM.row (p := (Pl.int .i64)) .z)))) (hM.front (Ms := [])) H80) ?_)
    clear hA; rintro _ w81 ⟨rfl, hMc⟩ a hA
    have hE := hMc.below; have hM := hM.call (Ms := []) hMc
    clear hMc; simp only [List.cons_append, List.nil_append] at hM
    refine L1 (stv hA (by decide) (run_move (hA.ev rfl)) ?_)
    clear hA; intro a hA
    refine bsplit (b := r79) (fun hb82 => ?_) (fun hb82 => ?_)
    · replace H74 := ite_t hb82 H74
      have hA := hA.re (t := 16) rfl (congrArg Value.bool hb82)
      refine L1 (gate_on rfl rfl hA (by decide) rfl (stv hA (by decide) (run_move (hA.ev rfl)) ?_))
      clear hA; intro a hA
      refine L1 (gate_on rfl rfl hA (by decide) rfl (stv hA (by decide) (run_bin (hA.ev rfl) (hA.ev rfl) (bin_eql _ _ _ _)) ?_))
      clear hA; intro a hA
      refine L1 (stv hA (by decide) (run_pick (hA.ev rfl) (fun _ => hA.ev rfl) (fun h => Bool.noConfusion h)) ?_)
      clear hA; intro a hA
      refine L1 (stv hA (by decide) (run_move (hA.ev rfl)) ?_)
      clear hA; intro a hA
      refine bsplit (b := (r61.1 == 2)) (fun hb83 => ?_) (fun hb83 => ?_)
      · replace H74 := ite_t hb83 H74
        have hA := hA.re (t := 20) rfl (congrArg Value.bool hb83)
        refine L1 (gate_on rfl rfl hA (by decide) rfl (stv hA (by decide) (run_move (hA.ev rfl)) ?_))
        clear hA; intro a hA
        refine L1 (gate_on rfl rfl hA (by decide) rfl (stv hA (by decide) (run_bin (hA.ev rfl) (hA.ev rfl) (bin_eql _ _ _ _)) ?_))
        clear hA; intro a hA
        refine L1 (stv hA (by decide) (run_pick (hA.ev rfl) (fun _ => hA.ev rfl) (fun h => Bool.noConfusion h)) ?_)
        clear hA; intro a hA
        refine L1 (stv hA (by decide) (run_assign (hA.ev rfl)) ?_)
        clear hA; intro a hA
        refine LQ ?_
        exact ⟨(r61.2 == 1), Option.some.inj H74, (hM.sel [] rfl (by decide)), (hA.nil.cons (hA.get 0 _ rfl))⟩
      · replace H74 := ite_f hb83 H74
        have hA := hA.re (t := 20) rfl (congrArg Value.bool hb83)
        refine L1 (gate_off rfl (by decide) rfl hA (by decide) rfl rfl ?_); clear hA; intro a hA
        refine L1 (gate_off rfl (by decide) rfl hA (by decide) rfl rfl ?_); clear hA; intro a hA
        refine L1 (stv hA (by decide) (run_pick (hA.ev rfl) (fun h => Bool.noConfusion h) (fun _ => hA.ev rfl)) ?_)
        clear hA; intro a hA
        refine L1 (stv hA (by decide) (run_assign (hA.ev rfl)) ?_)
        clear hA; intro a hA
        refine LQ ?_
        exact ⟨false, Option.some.inj H74, (hM.sel [] rfl (by decide)), (hA.nil.cons (hA.get 0 _ rfl))⟩
    · replace H74 := ite_f hb82 H74
      have hA := hA.re (t := 16) rfl (congrArg Value.bool hb82)
      refine L1 (gate_off rfl (by decide) rfl hA (by decide) rfl rfl ?_); clear hA; intro a hA
      refine L1 (gate_off rfl (by decide) rfl hA (by decide) rfl rfl ?_); clear hA; intro a hA
      refine L1 (stv hA (by decide) (run_pick (hA.ev rfl) (fun h => Bool.noConfusion h) (fun _ => hA.ev rfl)) ?_)
      clear hA; intro a hA
      refine L1 (stv hA (by decide) (run_move (hA.ev rfl)) ?_)
      clear hA; intro a hA
      refine L1 (gate_off rfl (by decide) rfl hA (by decide) rfl rfl ?_); clear hA; intro a hA
      refine L1 (gate_off rfl (by decide) rfl hA (by decide) rfl rfl ?_); clear hA; intro a hA
      refine L1 (stv hA (by decide) (run_pick (hA.ev rfl) (fun h => Bool.noConfusion h) (fun _ => hA.ev rfl)) ?_)
      clear hA; intro a hA
      refine L1 (stv hA (by decide) (run_assign (hA.ev rfl)) ?_)
      clear hA; intro a hA
      refine LQ ?_
      exact ⟨false, Option.some.inj H74, (hM.sel [] rfl (by decide)), (hA.nil.cons (hA.get 0 _ rfl))⟩
  clear hM hA
  rintro a w84 ⟨t73, rfl, hM, hA⟩
  try dsimp only at H
  refine TN ?_
  refine wp_ret ?_
  obtain rfl := Option.some.inj H
  exact ret_post1 (fn := Try.f7) hA rfl rfl ⟨_, rfl, rfl, hM⟩

def mill_Mod.f (k : Nat) (v_0 : Int) (n_1 : Int) : Option Int := (if ¬ n_1 = 0 then (Option.bind (α := Int) (if (decide ((v_0.tmod n_1) < 0)) = true then (some (IntKind.i64.wrap ((v_0.tmod n_1) + n_1))) else (some (v_0.tmod n_1))) (fun t12 => (some t12))) else none)
set_option maxRecDepth 100000 in
theorem mill_Mod.calls (k : Nat) (v_0 : Int) (n_1 : Int) (F : List (Option Nat)) (r : Int) (w0 : World) (hM : Mem F w0 w0 []) (H : mill_Mod.f k v_0 n_1 = some r) :
    Calls Try.prog 9 #[(.int .i64 v_0), (.int .i64 n_1)] w0 fun e w' => ∃ v, e = .returned v ∧ v = (.int .i64 r) ∧ Mem F w0 w' [] := by
  unfold mill_Mod.f at H
  refine enterL (n := 15) [(.int .i64 v_0), (.int .i64 n_1)] Try.func9 rfl rfl rfl ?_
  intro a hA
  refine wp_seq ?_
  refine wp_region_lit ?_
  refine L1 (stv hA (by decide) (run_assign (hA.ev rfl)) ?_)
  clear hA; intro a hA
  refine LQ ?_
  refine TN ?_
  refine wp_seq ?_
  refine wp_region_lit ?_
  refine L1 (stv hA (by decide) (run_move (hA.ev rfl)) ?_)
  clear hA; intro a hA
  refine L1 (stv hA (by decide) (run_move (hA.ev rfl)) ?_)
  clear hA; intro a hA
  obtain ⟨hd9, H⟩ := ite_some H
  refine L1 (stv hA (by decide) (run_bin (hA.ev rfl) (hA.ev rfl) (bin_rem _ _ _ _ hd9)) ?_)
  clear hA; intro a hA
  refine L1 (stv hA (by decide) (run_assign (hA.ev rfl)) ?_)
  clear hA; intro a hA
  refine LQ ?_
  refine TN ?_
  refine wp_seq ?_
  refine wp_seq ?_
  refine wp_region_lit ?_
  refine L1 (stv hA (by decide) (run_move (hA.ev rfl)) ?_)
  clear hA; intro a hA
  refine L1 (stv hA (by decide) (run_bin (hA.ev rfl) (hA.ev rfl) (bin_lss _ _ _ _)) ?_)
  clear hA; intro a hA
  refine LQ ?_
  refine TN ?_
  obtain ⟨o14, H13, H⟩ := Option.bind_eq_some_iff.1 H
  refine cutC (fun a w => ∃ (t12 : Int), t12 = o14 ∧ Mem F w0 w [] ∧ Has 15 [(5, (.int .i64 t12))] a) ?_ ?_
  · refine tcond (b := (decide ((v_0.tmod n_1) < 0))) hA rfl (fun hb15 => ?_) (fun hb15 => ?_)
    · replace H13 := ite_t hb15 H13
      refine wp_region_lit ?_
      refine L1 (stv hA (by decide) (run_move (hA.ev rfl)) ?_)
      clear hA; intro a hA
      refine L1 (stv hA (by decide) (run_move (hA.ev rfl)) ?_)
      clear hA; intro a hA
      refine L1 (stv hA (by decide) (run_bin (hA.ev rfl) (hA.ev rfl) (bin_add _ _ _ _)) ?_)
      clear hA; intro a hA
      refine L1 (stv hA (by decide) (run_assign (hA.ev rfl)) ?_)
      clear hA; intro a hA
      refine LQ ?_
      exact ⟨IntKind.i64.wrap ((v_0.tmod n_1) + n_1), Option.some.inj H13, hM, (hA.nil.cons (hA.get 5 _ rfl))⟩
    · replace H13 := ite_f hb15 H13
      refine wp_skip ?_
      exact ⟨v_0.tmod n_1, Option.some.inj H13, hM, (hA.nil.cons (hA.get 5 _ rfl))⟩
  clear hM hA
  rintro a w16 ⟨t12, rfl, hM, hA⟩
  try dsimp only at H
  refine TN ?_
  refine wp_seq ?_
  refine wp_region_lit ?_
  refine L1 (stv hA (by decide) (run_move (hA.ev rfl)) ?_)
  clear hA; intro a hA
  refine L1 (stv hA (by decide) (run_assign (hA.ev rfl)) ?_)
  clear hA; intro a hA
  refine LQ ?_
  refine TN ?_
  refine wp_ret ?_
  obtain rfl := Option.some.inj H
  exact ret_post1 (fn := Try.f9) hA rfl rfl ⟨_, rfl, rfl, hM⟩

def mill_Deck_Left.f (k : Nat) (d_0 : lightclientmill_Deck) : Option (Bool × lightclientmill_Deck) := (some ((decide (d_0.At_ < ((d_0.L.length : Nat) : Int))), (lightclientmill_Deck.mk d_0.L d_0.At_)))
set_option maxRecDepth 100000 in
theorem mill_Deck_Left.calls (k : Nat) (d_0 : lightclientmill_Deck) (F : List (Option Nat)) (g0 : Nat) (v0_0 : Value) (r : (Bool × lightclientmill_Deck)) (w0 : World) (h0_0 : RoV F (Pl.int .i64) w0 v0_0 d_0.L) (hM : Mem F w0 w0 [.box g0 63 [v0_0, (.int .i64 d_0.At_)]]) (H : mill_Deck_Left.f k d_0 = some r) :
    Calls Try.prog 22 #[(.pointer (some (⟨g0, 0, none⟩)))] w0 fun e w' => ∃ v, e = .returned v ∧ v = (.bool r.1) ∧ Mem F w0 w' [.box g0 63 [v0_0, (.int .i64 r.2.At_)]] := by
  unfold mill_Deck_Left.f at H
  obtain ⟨A0_0, c0_0, rfl, hr0_0, hc0_0⟩ := h0_0
  refine enterL (n := 13) [(.pointer (some (⟨g0, 0, none⟩)))] Try.func22 rfl rfl rfl ?_
  intro a hA
  refine wp_seq ?_
  refine wp_region_lit ?_
  refine L1 (stv hA (by decide) (run_assign (hA.ev rfl)) ?_)
  clear hA; intro a hA
  refine LQ ?_
  refine TN ?_
  refine wp_seq ?_
  refine draw (fun w' => Below w0.heap.size w0 w') [] rfl ?_
  intro w3 hw hS; replace hM := hM.ext hS; clear hw
  refine d_takef (i := 0) (L' := #[true, false, false, false, false, false, false, false, false, false, false]) rfl (by kernel_rfl) rfl (fun _ _ _ h => h) hA (by decide) (fun _ => hS) (fun a w' hA => run_move (hA.ev rfl)) ?_; clear hA; intro a hA
  refine d_takef (i := 1) (L' := #[true, true, false, false, false, false, false, false, false, false, false]) rfl (by kernel_rfl) rfl (fun _ _ _ h => h) hA (by decide) (fun _ => hS) (fun a w' hA => run_nilchk (hA.ev rfl)) ?_; clear hA; intro a hA
  refine d_takef (i := 2) (L' := #[true, true, true, false, false, false, false, false, false, false, false]) rfl (by kernel_rfl) rfl (fun _ _ _ h => h) hA (by decide) (fun _ => hS) (fun a w' hA => run_field' Try.underlying63 rfl rfl Try.sizeOf3 (by decide) (hA.ev rfl)) ?_; clear hA; intro a hA
  refine rebase hS ?_; clear hS; intro hS
  refine d_take (i := 3) (L' := #[true, true, true, true, false, false, false, false, false, false, false]) rfl (by kernel_rfl) rfl (fun _ _ _ h => h) hA (by decide) rfl hS (fun a w' hA hS' => run_ld (hA.ev rfl) (run_loadS Try.isAgg3 ((At.seg1 (hM.box .z) 1 rfl).extB hS'))) ?_; clear hA; intro a hA
  refine d_takef (i := 4) (L' := #[true, true, true, true, true, false, false, false, false, false, false]) rfl (by kernel_rfl) rfl (fun _ _ _ h => h) hA (by decide) (fun _ => hS) (fun a w' hA => run_move (hA.ev rfl)) ?_; clear hA; intro a hA
  refine d_takef (i := 5) (L' := #[true, true, true, true, true, true, false, false, false, false, false]) rfl (by kernel_rfl) rfl (fun _ _ _ h => h) hA (by decide) (fun _ => hS) (fun a w' hA => run_nilchk (hA.ev rfl)) ?_; clear hA; intro a hA
  refine d_takef (i := 6) (L' := #[true, true, true, true, true, true, true, false, false, false, false]) rfl (by kernel_rfl) rfl (fun _ _ _ h => h) hA (by decide) (fun _ => hS) (fun a w' hA => run_field' Try.underlying63 rfl rfl Try.sizeOf22 (by decide) (hA.ev rfl)) ?_; clear hA; intro a hA
  refine d_take (i := 7) (L' := #[true, true, true, true, true, true, true, true, false, false, false]) rfl (by kernel_rfl) rfl (fun _ _ _ h => h) hA (by decide) rfl hS (fun a w' hA hS' => run_ld (hA.ev rfl) (run_loadS Try.isAgg22 ((At.seg1 (hM.box .z) 0 rfl).extB hS'))) ?_; clear hA; intro a hA
  refine d_takef (i := 8) (L' := #[true, true, true, true, true, true, true, true, true, false, false]) rfl (by kernel_rfl) rfl (fun _ _ _ h => h) hA (by decide) (fun _ => hS) (fun a w' hA => run_len_slice Try.underlying22 (hA.ev rfl)) ?_; clear hA; intro a hA
  refine d_takef (i := 9) (L' := #[true, true, true, true, true, true, true, true, true, true, false]) rfl (by kernel_rfl) rfl (fun _ _ _ h => h) hA (by decide) (fun _ => hS) (fun a w' hA => run_bin (hA.ev rfl) (hA.ev rfl) (bin_lss _ _ _ _)) ?_; clear hA; intro a hA
  refine d_takef (i := 10) (L' := #[true, true, true, true, true, true, true, true, true, true, true]) rfl (by kernel_rfl) rfl (fun _ _ _ h => h) hA (by decide) (fun _ => hS) (fun a w' hA => run_assign (hA.ev rfl)) ?_; clear hA; intro a hA
  refine d_done (by kernel_rfl) ?_
  refine TN ?_
  refine wp_ret ?_
  obtain rfl := Option.some.inj H
  exact ret_post1 (fn := Try.f22) hA rfl rfl ⟨_, rfl, rfl, hM⟩

def mill_Deck_Next.f (k : Nat) (d_0 : lightclientmill_Deck) (n_1 : Int) : Option (Int × lightclientmill_Deck) := ((mill_Deck_Left.f k (lightclientmill_Deck.mk d_0.L d_0.At_)).bind fun r16 => (if (!r16.1) = true then (some (0, (lightclientmill_Deck.mk d_0.L r16.2.At_))) else (if 0 ≤ (IntKind.i64.wrap ((IntKind.i64.wrap (r16.2.At_ + 1)) - 1)) ∧ (IntKind.i64.wrap ((IntKind.i64.wrap (r16.2.At_ + 1)) - 1)) < ((d_0.L.length : Nat) : Int) then ((mill_Mod.f k (d_0.L.getD (IntKind.i64.wrap ((IntKind.i64.wrap (r16.2.At_ + 1)) - 1)).toNat (0 : Int)) n_1).bind fun r28 => (some (r28, (lightclientmill_Deck.mk d_0.L (IntKind.i64.wrap (r16.2.At_ + 1)))))) else none)))
set_option maxRecDepth 100000 in
theorem mill_Deck_Next.calls (k : Nat) (d_0 : lightclientmill_Deck) (n_1 : Int) (F : List (Option Nat)) (g0 : Nat) (v0_0 : Value) (r : (Int × lightclientmill_Deck)) (w0 : World) (h0_0 : RoV F (Pl.int .i64) w0 v0_0 d_0.L) (hM : Mem F w0 w0 [.box g0 63 [v0_0, (.int .i64 d_0.At_)]]) (H : mill_Deck_Next.f k d_0 n_1 = some r) :
    Calls Try.prog 23 #[(.pointer (some (⟨g0, 0, none⟩))), (.int .i64 n_1)] w0 fun e w' => ∃ v, e = .returned v ∧ v = (.int .i64 r.1) ∧ Mem F w0 w' [.box g0 63 [v0_0, (.int .i64 r.2.At_)]] := by
  unfold mill_Deck_Next.f at H
  obtain ⟨A0_0, c0_0, rfl, hr0_0, hc0_0⟩ := h0_0
  refine enterL (n := 28) [(.pointer (some (⟨g0, 0, none⟩))), (.int .i64 n_1)] Try.func23 rfl rfl rfl ?_
  intro a hA
  refine wp_seq ?_
  refine wp_region_lit ?_
  refine L1 (stv hA (by decide) (run_assign (hA.ev rfl)) ?_)
  clear hA; intro a hA
  refine LQ ?_
  refine TN ?_
  refine wp_seq ?_
  refine wp_seq ?_
  refine wp_region_lit ?_
  refine L1 (stv hA (by decide) (run_move (hA.ev rfl)) ?_)
  clear hA; intro a hA
  obtain ⟨r16, H17, H⟩ := Option.bind_eq_some_iff.1 H
  refine L1 (st_call Try.call22 hA [(.pointer (some (⟨g0, 0, none⟩)))] rfl (by decide) (mill_Deck_Left.calls _ (lightclientmill_Deck.mk d_0.L d_0.At_) _ _ _ _ _ ((RoV.mk (hM.roC (Ms := [_]) hr0_0) (Eq.refl d_0.L.length) hc0_0)) (hM.front (Ms := [_])) H17) ?_)
  clear hA; rintro _ w18 ⟨rfl, hMc⟩ a hA
  have hM := hM.call (Ms := [_]) hMc
  clear hMc; simp only [List.cons_append, List.nil_append] at hM
  refine L1 (stv hA (by decide) (run_not (hA.ev rfl)) ?_)
  clear hA; intro a hA
  refine LQ ?_
  refine TN ?_
  refine tcond (b := (!r16.1)) hA rfl (fun hb19 => ?_) (fun hb19 => ?_)
  · replace H := ite_t hb19 H
    refine wp_seq ?_
    refine wp_region_lit ?_
    refine L1 (stv hA (by decide) (run_assign (hA.ev rfl)) ?_)
    clear hA; intro a hA
    refine LQ ?_
    refine TN ?_
    refine wp_ret ?_
    obtain rfl := Option.some.inj H
    refine TR ?_
    exact ret_post1 (fn := Try.f23) hA rfl rfl ⟨_, rfl, rfl, hM⟩
  · replace H := ite_f hb19 H
    refine wp_skip ?_
    refine TN ?_
    refine wp_seq ?_
    refine wp_region_lit ?_
    refine L1 (stv hA (by decide) (run_move (hA.ev rfl)) ?_)
    clear hA; intro a hA
    refine L1 (stv hA (by decide) (run_nilchk (hA.ev rfl)) ?_)
    clear hA; intro a hA
    refine L1 (stv hA (by decide) (run_field' Try.underlying63 rfl rfl Try.sizeOf3 (by decide) (hA.ev rfl)) ?_)
    clear hA; intro a hA
    refine L1 (stv hA (by decide) (run_ld (hA.ev rfl) (run_loadS Try.isAgg3 (At.seg1 (hM.box .z) 1 rfl))) ?_)
    clear hA; intro a hA
    refine L1 (stv hA (by decide) (run_bin (hA.ev rfl) (hA.ev rfl) (bin_add _ _ _ _)) ?_)
    clear hA; intro a hA
    refine L1 (stv hA (by decide) (run_nilchk (hA.ev rfl)) ?_)
    clear hA; intro a hA
    refine L1 (stv hA (by decide) (run_field' Try.underlying63 rfl rfl Try.sizeOf3 (by decide) (hA.ev rfl)) ?_)
    clear hA; intro a hA
    refine L1 (e_store (g := g0) (off := 1) (cur := [(.slice A0_0 d_0.L.length c0_0), (.int .i64 r16.2.At_)]) (cs' := [(.slice A0_0 d_0.L.length c0_0), (.int .i64 (IntKind.i64.wrap (r16.2.At_ + 1)))]) hM .z Try.sizeOf3 hA rfl (by simp [add_mk]) rfl (by first | rfl | simp [Value.cells, Pl.len]) (one_val rfl) (by first | exact Nat.le_of_ble_eq_true rfl | (simp [Pl.len]; done)) (rfl) ?_)
    clear hM hA; intro w20  hM hE  a hA
    refine LQ ?_
    refine TN ?_
    refine wp_seq ?_
    refine draw (fun w' => Below w20.heap.size w20 w') [] rfl ?_
    intro w21 hw hS; replace hM := hM.ext hS; clear hw
    refine d_takef (i := 0) (L' := #[true, false, false, false, false, false, false, false, false, false, false, false, false, false]) rfl (by kernel_rfl) rfl (fun _ _ _ h => h) hA (by decide) (fun _ => hS) (fun a w' hA => run_move (hA.ev rfl)) ?_; clear hA; intro a hA
    refine d_takef (i := 1) (L' := #[true, true, false, false, false, false, false, false, false, false, false, false, false, false]) rfl (by kernel_rfl) rfl (fun _ _ _ h => h) hA (by decide) (fun _ => hS) (fun a w' hA => run_nilchk (hA.ev rfl)) ?_; clear hA; intro a hA
    refine d_takef (i := 2) (L' := #[true, true, true, false, false, false, false, false, false, false, false, false, false, false]) rfl (by kernel_rfl) rfl (fun _ _ _ h => h) hA (by decide) (fun _ => hS) (fun a w' hA => run_field' Try.underlying63 rfl rfl Try.sizeOf22 (by decide) (hA.ev rfl)) ?_; clear hA; intro a hA
    refine rebase hS ?_; clear hS; intro hS
    refine d_take (i := 3) (L' := #[true, true, true, true, false, false, false, false, false, false, false, false, false, false]) rfl (by kernel_rfl) rfl (fun _ _ _ h => h) hA (by decide) rfl hS (fun a w' hA hS' => run_ld (hA.ev rfl) (run_loadS Try.isAgg22 ((At.seg1 (hM.box .z) 0 rfl).extB hS'))) ?_; clear hA; intro a hA
    refine d_takef (i := 4) (L' := #[true, true, true, true, true, false, false, false, false, false, false, false, false, false]) rfl (by kernel_rfl) rfl (fun _ _ _ h => h) hA (by decide) (fun _ => hS) (fun a w' hA => run_move (hA.ev rfl)) ?_; clear hA; intro a hA
    refine d_takef (i := 5) (L' := #[true, true, true, true, true, true, false, false, false, false, false, false, false, false]) rfl (by kernel_rfl) rfl (fun _ _ _ h => h) hA (by decide) (fun _ => hS) (fun a w' hA => run_nilchk (hA.ev rfl)) ?_; clear hA; intro a hA
    refine d_takef (i := 6) (L' := #[true, true, true, true, true, true, true, false, false, false, false, false, false, false]) rfl (by kernel_rfl) rfl (fun _ _ _ h => h) hA (by decide) (fun _ => hS) (fun a w' hA => run_field' Try.underlying63 rfl rfl Try.sizeOf3 (by decide) (hA.ev rfl)) ?_; clear hA; intro a hA
    refine d_take (i := 7) (L' := #[true, true, true, true, true, true, true, true, false, false, false, false, false, false]) rfl (by kernel_rfl) rfl (fun _ _ _ h => h) hA (by decide) rfl hS (fun a w' hA hS' => run_ld (hA.ev rfl) (run_loadS Try.isAgg3 ((At.seg1 (hM.box .z) 1 rfl).extB hS'))) ?_; clear hA; intro a hA
    refine d_takef (i := 8) (L' := #[true, true, true, true, true, true, true, true, true, false, false, false, false, false]) rfl (by kernel_rfl) rfl (fun _ _ _ h => h) hA (by decide) (fun _ => hS) (fun a w' hA => run_bin (hA.ev rfl) (hA.ev rfl) (bin_sub _ _ _ _)) ?_; clear hA; intro a hA
    obtain ⟨⟨hi23, hj24⟩, H⟩ := ite_some H
    obtain ⟨ad25, hq26, hat27⟩ := Row.elem' (p := (Pl.int .i64)) (hM.ro hr0_0) (Eq.refl d_0.L.length) (0 : Int) (IntKind.i64.wrap ((IntKind.i64.wrap (r16.2.At_ + 1)) - 1)) hi23 hj24
    refine d_takef (i := 9) (L' := #[true, true, true, true, true, true, true, true, true, true, false, false, false, false]) rfl (by kernel_rfl) rfl (fun _ _ _ h => h) hA (by decide) (fun _ => hS) (fun a w' hA => run_idx Try.underlying22 Try.sizeOf3 (hA.ev rfl) hq26 (hA.ev rfl) hi23 hj24) ?_; clear hA; intro a hA
    refine d_take (i := 10) (L' := #[true, true, true, true, true, true, true, true, true, true, true, false, false, false]) rfl (by kernel_rfl) rfl (fun _ _ _ h => h) hA (by decide) rfl hS (fun a w' hA hS' => run_ld (hA.ev rfl) (run_loadS Try.isAgg3 ((hat27).extB hS'))) ?_; clear hA; intro a hA
    refine d_takef (i := 11) (L' := #[true, true, true, true, true, true, true, true, true, true, true, true, false, false]) rfl (by kernel_rfl) rfl (fun _ _ _ h => h) hA (by decide) (fun _ => hS) (fun a w' hA => run_move (hA.ev rfl)) ?_; clear hA; intro a hA
    obtain ⟨r28, H29, H⟩ := Option.bind_eq_some_iff.1 H
    refine d_one (i := 12) (L' := #[true, true, true, true, true, true, true, true, true, true, true, true, true, false]) (by kernel_rfl) rfl rfl (st_call Try.call9 hA [(.int .i64 (d_0.L.getD (IntKind.i64.wrap ((IntKind.i64.wrap (r16.2.At_ + 1)) - 1)).toNat (0 : Int))), (.int .i64 n_1)] rfl (by decide) (mill_Mod.calls _ _ _ _ _ _ (hM.front (Ms := [])) H29) ?_)
    clear hA; rintro _ w30 ⟨rfl, hMc⟩ a hA
    have hE := hMc.below; have hM := hM.call (Ms := []) hMc
    clear hMc; simp only [List.cons_append, List.nil_append] at hM
    replace hS := hS.trans (hE.mono hS.size)
    refine ⟨fun _ => hS, ?_⟩
    refine d_takef (i := 13) (L' := #[true, true, true, true, true, true, true, true, true, true, true, true, true, true]) rfl (by kernel_rfl) rfl (fun _ _ _ h => h) hA (by decide) (fun _ => hS) (fun a w' hA => run_assign (hA.ev rfl)) ?_; clear hA; intro a hA
    refine d_done (by kernel_rfl) ?_
    refine TN ?_
    refine wp_ret ?_
    obtain rfl := Option.some.inj H
    exact ret_post1 (fn := Try.f23) hA rfl rfl ⟨_, rfl, rfl, hM⟩

end Go.Proofs.Ytnhgfdinnbadeaa.G
