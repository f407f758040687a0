/- The functions that a law of this seat reaches: what each comes to, as a plain function, and that its code comes to it. Conditions: the plain function gives a value (enough fuel, no panic). -/
import Derived.Test.YtnhgfdinnbadeaaChecked
import Derived.Test.YtnhgfdinnbadeaaE
set_option linter.unusedVariables false
set_option linter.unusedSimpArgs false
namespace Go.Proofs.Ytnhgfdinnbadeaa.G
open Go Go.RowKit Go.Proofs
abbrev tT : Bool := true
abbrev fF : Bool := false
structure lightclientmill_Deck where
  L : (List Int)
  At_ : Int
def lightclientmill_Deck.z : lightclientmill_Deck := ⟨[], (0 : Int)⟩
def pHash : Pl (Vector Int 32) := Pl.vec 32 .u8 (by decide)
theorem eq_Hash : EqOk Try.prog 34 pHash 2 := fun d x y w => eq_vec (by decide) d Try.underlying34 Try.isAgg5 Try.underlying5 (by kernel_rfl) (by kernel_rfl) x y w
structure Stem where
  ID : (Vector Int 32)
  From_ : Int
  To_ : Int
  Due : Int
def Stem.z : Stem := ⟨(Vector.replicate 32 0 : Vector Int 32), (0 : Int), (0 : Int), (0 : Int)⟩
def Stem.segs (x : Stem) : List (List Value) := [pHash.enc x.ID, (Pl.int .i64).enc x.From_, (Pl.int .i64).enc x.To_, (Pl.int .u32).enc x.Due]
theorem Stem.segs_len (x : Stem) : x.segs.flatten.length = 35 := by
  simp only [Stem.segs, List.flatten_cons, List.flatten_nil, List.length_append, List.length_nil, Pl.len]
  rfl
def pStem : Pl Stem := ⟨35, fun x => x.segs.flatten, Stem.segs_len, fun x u hu => by
  simp only [Stem.segs, List.mem_flatten, List.mem_cons, List.not_mem_nil, or_false] at hu
  obtain ⟨l, hl, hu⟩ := hu
  rcases hl with rfl | rfl | rfl | rfl
  all_goals exact Pl.one _ _ u hu, by decide⟩
def Stem.eqb (x y : Stem) : Bool := (x.ID == y.ID && (x.From_ == y.From_ && (x.To_ == y.To_ && (x.Due == y.Due && true))))
instance : BEq Stem := ⟨Stem.eqb⟩
theorem Stem.eqb_iff (x y : Stem) : (x == y) = true ↔ x = y := by
  show Stem.eqb x y = true ↔ x = y
  cases x; cases y
  simp [Stem.eqb, and_assoc]
theorem eq_Stem : EqOk Try.prog 61 pStem 3 := fun d x y w => eq_struct (P := Try.prog) (d := d + 2) Try.underlying61 (by kernel_rfl) (eqf_cons (by decide) (part_agg Try.isAgg34 Try.sizeOf34 x.segs 0 rfl (by first | rfl | (simp only [Stem.segs, List.take, List.flatten_cons, List.flatten_nil, List.length_append, List.length_nil, Pl.len]; rfl)) (Pl.len _ _)) (part_agg Try.isAgg34 Try.sizeOf34 y.segs 0 rfl (by first | rfl | (simp only [Stem.segs, List.take, List.flatten_cons, List.flatten_nil, List.length_append, List.length_nil, Pl.len]; rfl)) (Pl.len _ _)) (eq_Hash d x.ID y.ID w)
    (eqf_cons (by decide) (part_one Try.isAgg3 x.segs 1 rfl (by first | rfl | (simp only [Stem.segs, List.take, List.flatten_cons, List.flatten_nil, List.length_append, List.length_nil, Pl.len]; rfl))) (part_one Try.isAgg3 y.segs 1 rfl (by first | rfl | (simp only [Stem.segs, List.take, List.flatten_cons, List.flatten_nil, List.length_append, List.length_nil, Pl.len]; rfl))) (run_equalIn_int w (d + 1) _ _ _ _ _ Try.underlying3)
    (eqf_cons (by decide) (part_one Try.isAgg3 x.segs 2 rfl (by first | rfl | (simp only [Stem.segs, List.take, List.flatten_cons, List.flatten_nil, List.length_append, List.length_nil, Pl.len]; rfl))) (part_one Try.isAgg3 y.segs 2 rfl (by first | rfl | (simp only [Stem.segs, List.take, List.flatten_cons, List.flatten_nil, List.length_append, List.length_nil, Pl.len]; rfl))) (run_equalIn_int w (d + 1) _ _ _ _ _ Try.underlying3)
    (eqf_cons (by decide) (part_one Try.isAgg35 x.segs 3 rfl (by first | rfl | (simp only [Stem.segs, List.take, List.flatten_cons, List.flatten_nil, List.length_append, List.length_nil, Pl.len]; rfl))) (part_one Try.isAgg35 y.segs 3 rfl (by first | rfl | (simp only [Stem.segs, List.take, List.flatten_cons, List.flatten_nil, List.length_append, List.length_nil, Pl.len]; rfl))) (run_equalIn_int w (d + 1) _ _ _ _ _ Try.underlying35)
    (eqf_nil)))))
theorem Stem.at_ID {w : World} {ad : Addr} {x : Stem} (h : At w ad (pStem.enc x)) : At w (ad.add 0) (pHash.enc x.ID) := At.seg (segs := x.segs) h 0 rfl (by
  first | rfl | simp only [Stem.segs, List.take, List.flatten_cons, List.flatten_nil, List.length_append, List.length_nil, Pl.len]; rfl)
theorem Stem.spl_ID (x : Stem) (y : (Vector Int 32)) : spl (pStem.enc x) 0 (pHash.enc y) = pStem.enc { x with ID := y } := spl_seg x.segs 0 (pHash.enc y) 0 rfl (by
  first | rfl | simp only [Stem.segs, List.take, List.flatten_cons, List.flatten_nil, List.length_append, List.length_nil, Pl.len]; rfl) (by simp [Pl.len])
theorem Stem.at_From_ {w : World} {ad : Addr} {x : Stem} (h : At w ad (pStem.enc x)) : At w (ad.add 32) ((Pl.int .i64).enc x.From_) := At.seg (segs := x.segs) h 1 rfl (by
  first | rfl | simp only [Stem.segs, List.take, List.flatten_cons, List.flatten_nil, List.length_append, List.length_nil, Pl.len]; rfl)
theorem Stem.spl_From_ (x : Stem) (y : Int) : spl (pStem.enc x) 32 ((Pl.int .i64).enc y) = pStem.enc { x with From_ := y } := spl_seg x.segs 1 ((Pl.int .i64).enc y) 32 rfl (by
  first | rfl | simp only [Stem.segs, List.take, List.flatten_cons, List.flatten_nil, List.length_append, List.length_nil, Pl.len]; rfl) (by simp [Pl.len])
theorem Stem.at_To_ {w : World} {ad : Addr} {x : Stem} (h : At w ad (pStem.enc x)) : At w (ad.add 33) ((Pl.int .i64).enc x.To_) := At.seg (segs := x.segs) h 2 rfl (by
  first | rfl | simp only [Stem.segs, List.take, List.flatten_cons, List.flatten_nil, List.length_append, List.length_nil, Pl.len]; rfl)
theorem Stem.spl_To_ (x : Stem) (y : Int) : spl (pStem.enc x) 33 ((Pl.int .i64).enc y) = pStem.enc { x with To_ := y } := spl_seg x.segs 2 ((Pl.int .i64).enc y) 33 rfl (by
  first | rfl | simp only [Stem.segs, List.take, List.flatten_cons, List.flatten_nil, List.length_append, List.length_nil, Pl.len]; rfl) (by simp [Pl.len])
theorem Stem.at_Due {w : World} {ad : Addr} {x : Stem} (h : At w ad (pStem.enc x)) : At w (ad.add 34) ((Pl.int .u32).enc x.Due) := At.seg (segs := x.segs) h 3 rfl (by
  first | rfl | simp only [Stem.segs, List.take, List.flatten_cons, List.flatten_nil, List.length_append, List.length_nil, Pl.len]; rfl)
theorem Stem.spl_Due (x : Stem) (y : Int) : spl (pStem.enc x) 34 ((Pl.int .u32).enc y) = pStem.enc { x with Due := y } := spl_seg x.segs 3 ((Pl.int .u32).enc y) 34 rfl (by
  first | rfl | simp only [Stem.segs, List.take, List.flatten_cons, List.flatten_nil, List.length_append, List.length_nil, Pl.len]; rfl) (by simp [Pl.len])
structure Relay where
  Epoch : Int
  Diffuse : Bool
  Routes : (List Int)
  Stems : (List Stem)
  Fluffed : (List (Vector Int 32))
def Relay.z : Relay := ⟨(0 : Int), false, [], [], []⟩
theorem zero4 : ∀ w, (zeroValue 4).run Try.prog w = .ok (.bool false) w := run_zero (by kernel_rfl)
theorem zero34 : ∀ w, (zeroValue 34).run Try.prog w = .ok (.agg (pHash.enc (Vector.replicate 32 0 : Vector Int 32)).toArray) w := run_zero (by kernel_rfl)
theorem zero37 : ∀ w, (zeroValue 37).run Try.prog w = .ok (.slice none 0 0) w := run_zero (by kernel_rfl)
theorem zero39 : ∀ w, (zeroValue 39).run Try.prog w = .ok (.agg #[(.int .u32 (0 : Int)), (.bool false), (.slice none 0 0), (.slice none 0 0), (.slice none 0 0)]) w := run_zero (by kernel_rfl)
theorem zero61 : ∀ w, (zeroValue 61).run Try.prog w = .ok (.agg (pStem.enc Stem.z).toArray) w := run_zero (by kernel_rfl)
theorem zero63 : ∀ w, (zeroValue 63).run Try.prog w = .ok (.agg #[(.slice none 0 0), (.int .i64 (0 : Int))]) w := run_zero (by kernel_rfl)
theorem elt22 : Elt Try.prog (Pl.int .i64) 22 3 (.int .i64 (0 : Int)) 8 := ⟨Try.underlying22, by kernel_rfl, by first | rfl | simp [Value.cells, Pl.len], by decide⟩
theorem elt24 : Elt Try.prog Pl.bool 24 4 (.bool false) 1 := ⟨Try.underlying24, by kernel_rfl, by first | rfl | simp [Value.cells, Pl.len], by decide⟩
theorem elt36 : Elt Try.prog pStem 36 61 (.agg (pStem.enc Stem.z).toArray) 56 := ⟨Try.underlying36, by kernel_rfl, by first | rfl | simp [Value.cells, Pl.len], by decide⟩
theorem elt37 : Elt Try.prog pHash 37 34 (.agg (pHash.enc (Vector.replicate 32 0 : Vector Int 32)).toArray) 32 := ⟨Try.underlying37, by kernel_rfl, by first | rfl | simp [Value.cells, Pl.len], by decide⟩
theorem key34 : KeyOk Try.prog 34 pHash := key_vec (by decide) Try.underlying34 Try.underlying5 Try.isAgg5 Try.sizeOf5 (by kernel_rfl) (by kernel_rfl)
def slices_Index_int.l0 (s_0 : (List Int)) (v_1 : Int) : Nat → Int → Option (Out Int (Unit))
  | 0, _ => none
  | k + 1, t92 => (if (decide (t92 < ((s_0.length : Nat) : Int))) = true then (if 0 ≤ t92 ∧ t92 < ((s_0.length : Nat) : Int) then (if (v_1 == (s_0.getD t92.toNat (0 : Int))) = true then (some (.ret t92)) else (slices_Index_int.l0 s_0 v_1 k (IntKind.i64.wrap (t92 + 1)))) else none) else (some (.go ())))
def slices_Index_int.f (k : Nat) (s_0 : (List Int)) (v_1 : Int) : Option Int := (Option.bind (α := Out Int (Unit)) (slices_Index_int.l0 s_0 v_1 k 0) (fun o => match o with | .ret r => some r | .go _ => (some (-1))))
set_option maxHeartbeats 2000000 in
set_option maxRecDepth 100000 in
theorem slices_Index_int.calls (k : Nat) (s_0 : (List Int)) (v_1 : Int) (F : List (Option Nat)) (v0 : Value) (r : Int) (w0 : World) (h0 : RoV F (Pl.int .i64) w0 v0 s_0) (hM : Mem F w0 w0 []) (H : slices_Index_int.f k s_0 v_1 = some r) :
    Calls Try.prog 42 #[v0, (.int .i64 v_1)] w0 fun e w' => ∃ v, e = .returned v ∧ v = (.int .i64 r) ∧ Mem F w0 w' [] := by
  unfold slices_Index_int.f at H
  obtain ⟨A0, c0, rfl, hr0, hc0⟩ := h0
  refine enterL (n := 19) [(.slice A0 s_0.length c0), (.int .i64 v_1)] Try.func42 rfl rfl rfl ?_
  intro a hA
  refine wp_seq ?_
  refine wp_region_lit ?_
  refine L1 (stv hA (by decide) (run_assign (hA.ev rfl)) ?_)
  clear hA; intro a hA
  refine LQ ?_
  refine TN ?_
  refine wp_seq ?_
  refine wp_seq ?_
  refine wp_region_lit ?_
  refine L1 (stv hA (by decide) (run_move (hA.ev rfl)) ?_)
  clear hA; intro a hA
  refine L1 (stv hA (by decide) (run_len_slice Try.underlying22 (hA.ev rfl)) ?_)
  clear hA; intro a hA
  refine L1 (stv hA (by decide) (run_move (hA.ev rfl)) ?_)
  clear hA; intro a hA
  refine LQ ?_
  refine TN ?_
  obtain ⟨o94, H93, H⟩ := Option.bind_eq_some_iff.1 H
  refine cutC (fun a w => (.go ()) = o94 ∧ Mem F w0 w [] ∧ Has 19 [] a) ?_ ?_
  · refine wp_block ?_
    refine wp_loop_ghost (fun m a w => ∃ (t92 : Int), slices_Index_int.l0 s_0 v_1 m t92 = some o94 ∧ Mem F w0 w [] ∧ Has 19 [(0, (.slice A0 s_0.length c0)), (1, (.int .i64 v_1)), (7, (.int .i64 ((s_0.length : Nat) : Int))), (8, (.int .i64 t92))] a) k ⟨0, H93, hM, ((((hA.nil.cons (hA.get 8 _ rfl)).cons (hA.get 7 _ rfl)).cons (hA.get 1 _ rfl)).cons (hA.get 0 _ rfl))⟩ ?_
    clear hM hA; rintro m95 a w96 ⟨t92, H93, hM, hA⟩
    cases m95 with
    | zero => exact absurd H93 (by simp [slices_Index_int.l0])
    | succ m95 =>
    rw [slices_Index_int.l0] at H93
    refine wp_seq ?_
    refine wp_region_lit ?_
    refine L1 (stv hA (by decide) (run_bin (hA.ev rfl) (hA.ev rfl) (bin_lss _ _ _ _)) ?_)
    clear hA; intro a hA
    refine LQ ?_
    refine TN ?_
    refine wp_seq ?_
    refine tcond (b := (decide (t92 < ((s_0.length : Nat) : Int)))) hA rfl (fun hb97 => ?_) (fun hb97 => ?_)
    · replace H93 := ite_t hb97 H93
      refine wp_skip ?_
      refine TN ?_
      refine wp_seq ?_
      refine wp_block ?_
      refine wp_seq ?_
      refine wp_region_lit ?_
      refine L1 (stv hA (by decide) (run_move (hA.ev rfl)) ?_)
      clear hA; intro a hA
      refine L1 (stv hA (by decide) (run_assign (hA.ev rfl)) ?_)
      clear hA; intro a hA
      refine LQ ?_
      refine TN ?_
      refine wp_seq ?_
      refine wp_region_lit ?_
      refine L1 (stv hA (by decide) (run_move (hA.ev rfl)) ?_)
      clear hA; intro a hA
      refine L1 (stv hA (by decide) (run_move (hA.ev rfl)) ?_)
      clear hA; intro a hA
      refine L1 (stv hA (by decide) (run_move (hA.ev rfl)) ?_)
      clear hA; intro a hA
      obtain ⟨⟨hi98, hj99⟩, H93⟩ := ite_some H93
      obtain ⟨ad100, hq101, hat102⟩ := Row.elem' (p := (Pl.int .i64)) (hM.ro hr0) (Eq.refl s_0.length) (0 : Int) t92 hi98 hj99
      refine L1 (stv hA (by decide) (run_idx Try.underlying22 Try.sizeOf3 (hA.ev rfl) hq101 (hA.ev rfl) hi98 hj99) ?_)
      clear hA; intro a hA
      refine L1 (stv hA (by decide) (run_ld (hA.ev rfl) (run_loadS Try.isAgg3 hat102)) ?_)
      clear hA; intro a hA
      refine L1 (stv hA (by decide) (run_bin (hA.ev rfl) (hA.ev rfl) (bin_eql _ _ _ _)) ?_)
      clear hA; intro a hA
      refine LQ ?_
      refine TN ?_
      refine tcond (b := (v_1 == (s_0.getD t92.toNat (0 : Int)))) hA rfl (fun hb103 => ?_) (fun hb103 => ?_)
      · replace H93 := ite_t hb103 H93
        refine wp_seq ?_
        refine wp_region_lit ?_
        refine L1 (stv hA (by decide) (run_move (hA.ev rfl)) ?_)
        clear hA; intro a hA
        refine L1 (stv hA (by decide) (run_assign (hA.ev rfl)) ?_)
        clear hA; intro a hA
        refine LQ ?_
        refine TN ?_
        refine wp_ret ?_
        obtain rfl := Option.some.inj H93
        dsimp only at H
        obtain rfl := Option.some.inj H
        refine BR ?_
        refine TR ?_
        refine TR ?_
        refine BR ?_
        refine TR ?_
        refine TR ?_
        exact ret_post1 (fn := Try.f42) hA rfl rfl ⟨_, rfl, rfl, hM⟩
      · replace H93 := ite_f hb103 H93
        refine wp_skip ?_
        refine BN ?_
        refine TN ?_
        refine wp_region_lit ?_
        refine L1 (stv hA (by decide) (run_bin (hA.ev rfl) (hA.ev rfl) (bin_add _ _ _ _)) ?_)
        clear hA; intro a hA
        refine L1 (stv hA (by decide) (run_move (hA.ev rfl)) ?_)
        clear hA; intro a hA
        refine LQ ?_
        exact ⟨_, Nat.lt_succ_self m95, IntKind.i64.wrap (t92 + 1), H93, hM, ((((hA.nil.cons (hA.get 8 _ rfl)).cons (hA.get 7 _ rfl)).cons (hA.get 1 _ rfl)).cons (hA.get 0 _ rfl))⟩
    · replace H93 := ite_f hb97 H93
      refine wp_exit ?_
      refine TX ?_
      refine TX ?_
      refine BX ?_
      exact ⟨Option.some.inj H93, hM, hA.nil⟩
  clear hM hA
  rintro a w104 ⟨rfl, hM, hA⟩
  try dsimp only at H
  refine TN ?_
  refine wp_seq ?_
  refine wp_region_lit ?_
  refine L1 (stv hA (by decide) (run_assign (hA.ev rfl)) ?_)
  clear hA; intro a hA
  refine LQ ?_
  refine TN ?_
  refine wp_ret ?_
  obtain rfl := Option.some.inj H
  exact ret_post1 (fn := Try.f42) hA rfl rfl ⟨_, rfl, rfl, hM⟩

def slices_Contains_int.f (k : Nat) (s_0 : (List Int)) (v_1 : Int) : Option Bool := ((slices_Index_int.f k s_0 v_1).bind fun r4 => (some (decide (r4 ≥ 0))))
set_option maxHeartbeats 2000000 in
set_option maxRecDepth 100000 in
theorem slices_Contains_int.calls (k : Nat) (s_0 : (List Int)) (v_1 : Int) (F : List (Option Nat)) (v0 : Value) (r : Bool) (w0 : World) (h0 : RoV F (Pl.int .i64) w0 v0 s_0) (hM : Mem F w0 w0 []) (H : slices_Contains_int.f k s_0 v_1 = some r) :
    Calls Try.prog 28 #[v0, (.int .i64 v_1)] w0 fun e w' => ∃ v, e = .returned v ∧ v = (.bool r) ∧ Mem F w0 w' [] := by
  unfold slices_Contains_int.f at H
  obtain ⟨A0, c0, rfl, hr0, hc0⟩ := h0
  refine enterL (n := 9) [(.slice A0 s_0.length c0), (.int .i64 v_1)] Try.func28 rfl rfl rfl ?_
  intro a hA
  refine wp_seq ?_
  refine wp_region_lit ?_
  refine L1 (stv hA (by decide) (run_assign (hA.ev rfl)) ?_)
  clear hA; intro a hA
  refine LQ ?_
  refine TN ?_
  refine wp_seq ?_
  refine wp_region_lit ?_
  refine L1 (stv hA (by decide) (run_move (hA.ev rfl)) ?_)
  clear hA; intro a hA
  refine L1 (stv hA (by decide) (run_move (hA.ev rfl)) ?_)
  clear hA; intro a hA
  obtain ⟨r4, H5, H⟩ := Option.bind_eq_some_iff.1 H
  refine L1 (st_call Try.call42 hA [(.slice A0 s_0.length c0), (.int .i64 v_1)] rfl (by decide) (slices_Index_int.calls _ _ _ _ _ _ _ ((RoV.mk (hM.roC (Ms := []) hr0) (Eq.refl s_0.length) hc0)) (hM.front (Ms := [])) H5) ?_)
  clear hA; rintro _ w6 ⟨rfl, hMc⟩ a hA
  have hE := hMc.below; have hM := hM.call (Ms := []) hMc
  clear hMc; simp only [List.cons_append, List.nil_append] at hM
  refine L1 (stv hA (by decide) (run_bin (hA.ev rfl) (hA.ev rfl) (bin_geq _ _ _ _)) ?_)
  clear hA; intro a hA
  refine L1 (stv hA (by decide) (run_assign (hA.ev rfl)) ?_)
  clear hA; intro a hA
  refine LQ ?_
  refine TN ?_
  refine wp_ret ?_
  obtain rfl := Option.some.inj H
  exact ret_post1 (fn := Try.f28) hA rfl rfl ⟨_, rfl, rfl, hM⟩

def relay_Walk.l0 (routes_0 : (List Int)) (diffuse_1 : (List Bool)) : Nat → (List Int) → Int → Option ((List Int))
  | 0, _, _ => none
  | k + 1, xs511, t513 => (Option.bind (α := Bool) (if (decide (t513 ≥ 0)) = true then (if (decide (t513 < ((routes_0.length : Nat) : Int))) = true then ((slices_Contains_int.f k xs511 t513).bind fun r541 => (some (!r541))) else (some false)) else (some false)) (fun t536 => (if t536 = true then (if (xs511.length + 1) * 8 ≤ 140737488355328 then (Option.bind (α := Bool) (if 0 ≤ t513 ∧ t513 < ((diffuse_1.length : Nat) : Int) then (if (diffuse_1.getD t513.toNat false) = true then (some (decide ((((xs511.length + 1) : Nat) : Int) > 1))) else (some false)) else none) (fun t565 => (if t565 = true then (some (xs511 ++ [t513])) else (if 0 ≤ t513 ∧ t513 < ((routes_0.length : Nat) : Int) then (relay_Walk.l0 routes_0 diffuse_1 k (xs511 ++ [t513]) (routes_0.getD t513.toNat (0 : Int))) else none)))) else none) else (some xs511))))
def relay_Walk.f (k : Nat) (routes_0 : (List Int)) (diffuse_1 : (List Bool)) (origin_2 : Int) : Option (List Int) := (Option.bind (α := Bool) (if (((routes_0.length : Nat) : Int) != ((diffuse_1.length : Nat) : Int)) = true then (some true) else (if (decide (((routes_0.length : Nat) : Int) > 64)) = true then (some true) else (if (decide (origin_2 < 0)) = true then (some true) else (some (decide (origin_2 ≥ ((routes_0.length : Nat) : Int))))))) (fun t299 => (if t299 = true then (some ([] : List Int)) else (Option.bind (α := (List Int)) (relay_Walk.l0 routes_0 diffuse_1 k ([] : List Int) origin_2) (fun xs519 => (some xs519))))))
set_option maxHeartbeats 2000000 in
set_option maxRecDepth 100000 in
theorem relay_Walk.calls (k : Nat) (routes_0 : (List Int)) (diffuse_1 : (List Bool)) (origin_2 : Int) (F : List (Option Nat)) (v0 : Value) (v1 : Value) (r : (List Int)) (w0 : World) (h0 : RoV F (Pl.int .i64) w0 v0 routes_0) (h1 : RoV F Pl.bool w0 v1 diffuse_1) (hM : Mem F w0 w0 []) (H : relay_Walk.f k routes_0 diffuse_1 origin_2 = some r) :
    Calls Try.prog 10 #[v0, v1, (.int .i64 origin_2)] w0 fun e w' => ∃ v, e = .returned v ∧ ∃ (ur_0 : Value), v = ur_0 ∧ Mem F w0 w' [.row 3 (Pl.int .i64).sz ur_0 ((Pl.int .i64).flat r)] := by
  unfold relay_Walk.f at H
  obtain ⟨A0, c0, rfl, hr0, hc0⟩ := h0
  obtain ⟨A1, c1, rfl, hr1, hc1⟩ := h1
  refine enterL (n := 61) [(.slice A0 routes_0.length c0), (.slice A1 diffuse_1.length c1), (.int .i64 origin_2)] Try.func10 rfl rfl rfl ?_
  intro a hA
  refine wp_seq ?_
  refine wp_region_lit ?_
  refine L1 (stv hA (by decide) (run_assign (hA.ev rfl)) ?_)
  clear hA; intro a hA
  refine LQ ?_
  refine TN ?_
  refine wp_seq ?_
  refine wp_region_lit ?_
  refine L1 (stv hA (by decide) (run_move (hA.ev rfl)) ?_)
  clear hA; intro a hA
  refine L1 (stv hA (by decide) (run_len_slice Try.underlying22 (hA.ev rfl)) ?_)
  clear hA; intro a hA
  refine L1 (stv hA (by decide) (run_assign (hA.ev rfl)) ?_)
  clear hA; intro a hA
  refine LQ ?_
  refine TN ?_
  refine wp_seq ?_
  refine wp_seq ?_
  obtain ⟨o301, H300, H⟩ := Option.bind_eq_some_iff.1 H
  refine cutC (fun a w => ∃ (t299 : Bool), t299 = o301 ∧ Mem F w0 w [] ∧ Has 61 [(0, (.slice A0 routes_0.length c0)), (1, (.slice A1 diffuse_1.length c1)), (2, (.int .i64 origin_2)), (7, (.int .i64 ((routes_0.length : Nat) : Int))), (28, (.bool t299))] a) ?_ ?_
  · refine wp_region_lit ?_
    refine L1 (stv hA (by decide) (run_move (hA.ev rfl)) ?_)
    clear hA; intro a hA
    refine L1 (stv hA (by decide) (run_move (hA.ev rfl)) ?_)
    clear hA; intro a hA
    refine L1 (stv hA (by decide) (run_len_slice Try.underlying24 (hA.ev rfl)) ?_)
    clear hA; intro a hA
    refine L1 (stv hA (by decide) (run_bin (hA.ev rfl) (hA.ev rfl) (bin_neq _ _ _ _)) ?_)
    clear hA; intro a hA
    refine L1 (stv hA (by decide) (run_move (hA.ev rfl)) ?_)
    clear hA; intro a hA
    refine bsplit (b := (((routes_0.length : Nat) : Int) != ((diffuse_1.length : Nat) : Int))) (fun hb302 => ?_) (fun hb302 => ?_)
    · replace H300 := ite_t hb302 H300
      have hA := hA.re (t := 16) rfl (congrArg Value.bool hb302)
      refine L1 (gate_off rfl (by decide) rfl hA (by decide) rfl rfl ?_); clear hA; intro a hA
      refine L1 (gate_off rfl (by decide) rfl hA (by decide) rfl rfl ?_); clear hA; intro a hA
      refine L1 (stv hA (by decide) (run_pick (hA.ev rfl) (fun _ => hA.ev rfl) (fun h => Bool.noConfusion h)) ?_)
      clear hA; intro a hA
      refine L1 (stv hA (by decide) (run_move (hA.ev rfl)) ?_)
      clear hA; intro a hA
      refine L1 (gate_off rfl (by decide) rfl hA (by decide) rfl rfl ?_); clear hA; intro a hA
      refine L1 (gate_off rfl (by decide) rfl hA (by decide) rfl rfl ?_); clear hA; intro a hA
      refine L1 (stv hA (by decide) (run_pick (hA.ev rfl) (fun _ => hA.ev rfl) (fun h => Bool.noConfusion h)) ?_)
      clear hA; intro a hA
      refine L1 (stv hA (by decide) (run_move (hA.ev rfl)) ?_)
      clear hA; intro a hA
      refine L1 (gate_off rfl (by decide) rfl hA (by decide) rfl rfl ?_); clear hA; intro a hA
      refine L1 (gate_off rfl (by decide) rfl hA (by decide) rfl rfl ?_); clear hA; intro a hA
      refine L1 (gate_off rfl (by decide) rfl hA (by decide) rfl rfl ?_); clear hA; intro a hA
      refine L1 (stv hA (by decide) (run_pick (hA.ev rfl) (fun _ => hA.ev rfl) (fun h => Bool.noConfusion h)) ?_)
      clear hA; intro a hA
      refine LQ ?_
      exact ⟨true, Option.some.inj H300, hM, (((((hA.nil.cons (hA.get 28 _ rfl)).cons (hA.get 7 _ rfl)).cons (hA.get 2 _ rfl)).cons (hA.get 1 _ rfl)).cons (hA.get 0 _ rfl))⟩
    · replace H300 := ite_f hb302 H300
      have hA := hA.re (t := 16) rfl (congrArg Value.bool hb302)
      refine L1 (gate_on rfl rfl hA (by decide) rfl (stv hA (by decide) (run_move (hA.ev rfl)) ?_))
      clear hA; intro a hA
      refine L1 (gate_on rfl rfl hA (by decide) rfl (stv hA (by decide) (run_bin (hA.ev rfl) (hA.ev rfl) (bin_gtr _ _ _ _)) ?_))
      clear hA; intro a hA
      refine L1 (stv hA (by decide) (run_pick (hA.ev rfl) (fun h => Bool.noConfusion h) (fun _ => hA.ev rfl)) ?_)
      clear hA; intro a hA
      refine L1 (stv hA (by decide) (run_move (hA.ev rfl)) ?_)
      clear hA; intro a hA
      refine bsplit (b := (decide (((routes_0.length : Nat) : Int) > 64))) (fun hb303 => ?_) (fun hb303 => ?_)
      · replace H300 := ite_t hb303 H300
        have hA := hA.re (t := 20) rfl (congrArg Value.bool hb303)
        refine L1 (gate_off rfl (by decide) rfl hA (by decide) rfl rfl ?_); clear hA; intro a hA
        refine L1 (gate_off rfl (by decide) rfl hA (by decide) rfl rfl ?_); clear hA; intro a hA
        refine L1 (stv hA (by decide) (run_pick (hA.ev rfl) (fun _ => hA.ev rfl) (fun h => Bool.noConfusion h)) ?_)
        clear hA; intro a hA
        refine L1 (stv hA (by decide) (run_move (hA.ev rfl)) ?_)
        clear hA; intro a hA
        refine L1 (gate_off rfl (by decide) rfl hA (by decide) rfl rfl ?_); clear hA; intro a hA
        refine L1 (gate_off rfl (by decide) rfl hA (by decide) rfl rfl ?_); clear hA; intro a hA
        refine L1 (gate_off rfl (by decide) rfl hA (by decide) rfl rfl ?_); clear hA; intro a hA
        refine L1 (stv hA (by decide) (run_pick (hA.ev rfl) (fun _ => hA.ev rfl) (fun h => Bool.noConfusion h)) ?_)
        clear hA; intro a hA
        refine LQ ?_
        exact ⟨true, Option.some.inj H300, hM, (((((hA.nil.cons (hA.get 28 _ rfl)).cons (hA.get 7 _ rfl)).cons (hA.get 2 _ rfl)).cons (hA.get 1 _ rfl)).cons (hA.get 0 _ rfl))⟩
      · replace H300 := ite_f hb303 H300
        have hA := hA.re (t := 20) rfl (congrArg Value.bool hb303)
        refine L1 (gate_on rfl rfl hA (by decide) rfl (stv hA (by decide) (run_move (hA.ev rfl)) ?_))
        clear hA; intro a hA
        refine L1 (gate_on rfl rfl hA (by decide) rfl (stv hA (by decide) (run_bin (hA.ev rfl) (hA.ev rfl) (bin_lss _ _ _ _)) ?_))
        clear hA; intro a hA
        refine L1 (stv hA (by decide) (run_pick (hA.ev rfl) (fun h => Bool.noConfusion h) (fun _ => hA.ev rfl)) ?_)
        clear hA; intro a hA
        refine L1 (stv hA (by decide) (run_move (hA.ev rfl)) ?_)
        clear hA; intro a hA
        refine bsplit (b := (decide (origin_2 < 0))) (fun hb304 => ?_) (fun hb304 => ?_)
        · replace H300 := ite_t hb304 H300
          have hA := hA.re (t := 24) rfl (congrArg Value.bool hb304)
          refine L1 (gate_off rfl (by decide) rfl hA (by decide) rfl rfl ?_); clear hA; intro a hA
          refine L1 (gate_off rfl (by decide) rfl hA (by decide) rfl rfl ?_); clear hA; intro a hA
          refine L1 (gate_off rfl (by decide) rfl hA (by decide) rfl rfl ?_); clear hA; intro a hA
          refine L1 (stv hA (by decide) (run_pick (hA.ev rfl) (fun _ => hA.ev rfl) (fun h => Bool.noConfusion h)) ?_)
          clear hA; intro a hA
          refine LQ ?_
          exact ⟨true, Option.some.inj H300, hM, (((((hA.nil.cons (hA.get 28 _ rfl)).cons (hA.get 7 _ rfl)).cons (hA.get 2 _ rfl)).cons (hA.get 1 _ rfl)).cons (hA.get 0 _ rfl))⟩
        · replace H300 := ite_f hb304 H300
          have hA := hA.re (t := 24) rfl (congrArg Value.bool hb304)
          refine L1 (gate_on rfl rfl hA (by decide) rfl (stv hA (by decide) (run_move (hA.ev rfl)) ?_))
          clear hA; intro a hA
          refine L1 (gate_on rfl rfl hA (by decide) rfl (stv hA (by decide) (run_move (hA.ev rfl)) ?_))
          clear hA; intro a hA
          refine L1 (gate_on rfl rfl hA (by decide) rfl (stv hA (by decide) (run_bin (hA.ev rfl) (hA.ev rfl) (bin_geq _ _ _ _)) ?_))
          clear hA; intro a hA
          refine L1 (stv hA (by decide) (run_pick (hA.ev rfl) (fun h => Bool.noConfusion h) (fun _ => hA.ev rfl)) ?_)
          clear hA; intro a hA
          refine LQ ?_
          exact ⟨(decide (origin_2 ≥ ((routes_0.length : Nat) : Int))), Option.some.inj H300, hM, (((((hA.nil.cons (hA.get 28 _ rfl)).cons (hA.get 7 _ rfl)).cons (hA.get 2 _ rfl)).cons (hA.get 1 _ rfl)).cons (hA.get 0 _ rfl))⟩
  clear hM hA
  rintro a w305 ⟨t299, rfl, hM, hA⟩
  try dsimp only at H
  refine TN ?_
  refine tcond (b := t299) hA rfl (fun hb306 => ?_) (fun hb306 => ?_)
  · replace H := ite_t hb306 H
    refine wp_seq ?_
    refine wp_region_lit ?_
    refine L1 (stv hA (by decide) (run_assign (hA.ev rfl)) ?_)
    clear hA; intro a hA
    refine LQ ?_
    refine TN ?_
    refine wp_ret ?_
    have hM := hM.addnil 3 ((Pl.int .i64)).sz
    obtain rfl := Option.some.inj H
    refine TR ?_
    exact ret_post1 (fn := Try.f10) hA rfl rfl ⟨_, rfl, (.slice none 0 0), rfl, hM⟩
  · replace H := ite_f hb306 H
    refine wp_skip ?_
    refine TN ?_
    refine wp_seq ?_
    refine wp_region_lit ?_
    refine L1 (stv hA (by decide) (run_assign (hA.ev rfl)) ?_)
    clear hA; intro a hA
    refine LQ ?_
    refine TN ?_
    refine wp_seq ?_
    refine wp_seq ?_
    refine wp_region_lit ?_
    refine L1 (stv hA (by decide) (run_move (hA.ev rfl)) ?_)
    clear hA; intro a hA
    refine L1 (stv hA (by decide) (run_assign (hA.ev rfl)) ?_)
    clear hA; intro a hA
    refine LQ ?_
    refine TN ?_
    obtain ⟨o521, H520, H⟩ := Option.bind_eq_some_iff.1 H
    refine cutC (fun a w => ∃ (xs519 : (List Int)) (v516 : Value), xs519 = o521 ∧ Mem F w0 w [.row 3 (Pl.int .i64).sz v516 ((Pl.int .i64).flat xs519)] ∧ Has 61 [(8, v516)] a) ?_ ?_
    · refine wp_block ?_
      have hM := hM.addnil 3 ((Pl.int .i64)).sz
      refine wp_loop_ghost (fun m a w => ∃ (xs511 : (List Int)) (t513 : Int) (v508 : Value), relay_Walk.l0 routes_0 diffuse_1 m xs511 t513 = some o521 ∧ Mem F w0 w [.row 3 (Pl.int .i64).sz v508 ((Pl.int .i64).flat xs511)] ∧ Has 61 [(0, (.slice A0 routes_0.length c0)), (1, (.slice A1 diffuse_1.length c1)), (7, (.int .i64 ((routes_0.length : Nat) : Int))), (8, v508), (9, (.int .i64 t513))] a) k ⟨([] : List Int), origin_2, (.slice none 0 0), H520, hM, (((((hA.nil.cons (hA.get 9 _ rfl)).cons (hA.get 8 _ rfl)).cons (hA.get 7 _ rfl)).cons (hA.get 1 _ rfl)).cons (hA.get 0 _ rfl))⟩ ?_
      clear hM hA; rintro m523 a w524 ⟨xs511, t513, v508, H520, hM, hA⟩
      cases m523 with
      | zero => exact absurd H520 (by simp [relay_Walk.l0])
      | succ m523 =>
      rw [relay_Walk.l0] at H520
      obtain ⟨A509, c510, rfl⟩ := RowOk.form (hM.row (p := (Pl.int .i64)) .z)
      refine wp_seq ?_
      refine wp_seq ?_
      obtain ⟨o538, H537, H520⟩ := Option.bind_eq_some_iff.1 H520
      refine cutC (fun a w => ∃ (t536 : Bool), t536 = o538 ∧ Mem F w0 w [.row 3 (Pl.int .i64).sz (.slice A509 xs511.length c510) ((Pl.int .i64).flat xs511)] ∧ Has 61 [(0, (.slice A0 routes_0.length c0)), (1, (.slice A1 diffuse_1.length c1)), (7, (.int .i64 ((routes_0.length : Nat) : Int))), (8, (.slice A509 xs511.length c510)), (9, (.int .i64 t513)), (42, (.bool t536))] a) ?_ ?_
      · refine wp_region_lit ?_
        refine L1 (stv hA (by decide) (run_move (hA.ev rfl)) ?_)
        clear hA; intro a hA
        refine L1 (stv hA (by decide) (run_bin (hA.ev rfl) (hA.ev rfl) (bin_geq _ _ _ _)) ?_)
        clear hA; intro a hA
        refine L1 (stv hA (by decide) (run_move (hA.ev rfl)) ?_)
        clear hA; intro a hA
        refine bsplit (b := (decide (t513 ≥ 0))) (fun hb539 => ?_) (fun hb539 => ?_)
        · replace H537 := ite_t hb539 H537
          have hA := hA.re (t := 32) rfl (congrArg Value.bool hb539)
          refine L1 (gate_on rfl rfl hA (by decide) rfl (stv hA (by decide) (run_move (hA.ev rfl)) ?_))
          clear hA; intro a hA
          refine L1 (gate_on rfl rfl hA (by decide) rfl (stv hA (by decide) (run_move (hA.ev rfl)) ?_))
          clear hA; intro a hA
          refine L1 (gate_on rfl rfl hA (by decide) rfl (stv hA (by decide) (run_bin (hA.ev rfl) (hA.ev rfl) (bin_lss _ _ _ _)) ?_))
          clear hA; intro a hA
          refine L1 (stv hA (by decide) (run_pick (hA.ev rfl) (fun _ => hA.ev rfl) (fun h => Bool.noConfusion h)) ?_)
          clear hA; intro a hA
          refine L1 (stv hA (by decide) (run_move (hA.ev rfl)) ?_)
          clear hA; intro a hA
          refine bsplit (b := (decide (t513 < ((routes_0.length : Nat) : Int)))) (fun hb540 => ?_) (fun hb540 => ?_)
          · replace H537 := ite_t hb540 H537
            have hA := hA.re (t := 37) rfl (congrArg Value.bool hb540)
            refine L1 (gate_on rfl rfl hA (by decide) rfl (stv hA (by decide) (run_move (hA.ev rfl)) ?_))
            clear hA; intro a hA
            refine L1 (gate_on rfl rfl hA (by decide) rfl (stv hA (by decide) (run_move (hA.ev rfl)) ?_))
            clear hA; intro a hA
            obtain ⟨r541, H542, H537⟩ := Option.bind_eq_some_iff.1 H537
            refine L1 (gate_on rfl rfl hA (by decide) rfl (st_call Try.call28 hA [(.slice A509 xs511.length c510), (.int .i64 t513)] rfl (by decide) (slices_Contains_int.calls _ _ _ _ _ _ _ ((hM.roV (p := (Pl.int .i64)) (Ms := []) .z)) (hM.front (Ms := [])) H542) ?_))
            clear hA; rintro _ w543 ⟨rfl, hMc⟩ a hA
            have hE := hMc.below; have hM := hM.call (Ms := []) hMc
            clear hMc; simp only [List.cons_append, List.nil_append] at hM
            refine L1 (gate_on rfl rfl hA (by decide) rfl (stv hA (by decide) (run_not (hA.ev rfl)) ?_))
            clear hA; intro a hA
            refine L1 (stv hA (by decide) (run_pick (hA.ev rfl) (fun _ => hA.ev rfl) (fun h => Bool.noConfusion h)) ?_)
            clear hA; intro a hA
            refine LQ ?_
            exact ⟨(!r541), Option.some.inj H537, hM, ((((((hA.nil.cons (hA.get 42 _ rfl)).cons (hA.get 9 _ rfl)).cons (hA.get 8 _ rfl)).cons (hA.get 7 _ rfl)).cons (hA.get 1 _ rfl)).cons (hA.get 0 _ rfl))⟩
          · replace H537 := ite_f hb540 H537
            have hA := hA.re (t := 37) rfl (congrArg Value.bool hb540)
            refine L1 (gate_off rfl (by decide) rfl hA (by decide) rfl rfl ?_); clear hA; intro a hA
            refine L1 (gate_off rfl (by decide) rfl hA (by decide) rfl rfl ?_); clear hA; intro a hA
            refine L1 (gate_off rfl (by decide) rfl hA (by decide) rfl rfl ?_); clear hA; intro a hA
            refine L1 (gate_off rfl (by decide) rfl hA (by decide) rfl rfl ?_); clear hA; intro a hA
            refine L1 (stv hA (by decide) (run_pick (hA.ev rfl) (fun h => Bool.noConfusion h) (fun _ => hA.ev rfl)) ?_)
            clear hA; intro a hA
            refine LQ ?_
            exact ⟨false, Option.some.inj H537, hM, ((((((hA.nil.cons (hA.get 42 _ rfl)).cons (hA.get 9 _ rfl)).cons (hA.get 8 _ rfl)).cons (hA.get 7 _ rfl)).cons (hA.get 1 _ rfl)).cons (hA.get 0 _ rfl))⟩
        · replace H537 := ite_f hb539 H537
          have hA := hA.re (t := 32) rfl (congrArg Value.bool hb539)
          refine L1 (gate_off rfl (by decide) rfl hA (by decide) rfl rfl ?_); clear hA; intro a hA
          refine L1 (gate_off rfl (by decide) rfl hA (by decide) rfl rfl ?_); clear hA; intro a hA
          refine L1 (gate_off rfl (by decide) rfl hA (by decide) rfl rfl ?_); clear hA; intro a hA
          refine L1 (stv hA (by decide) (run_pick (hA.ev rfl) (fun h => Bool.noConfusion h) (fun _ => hA.ev rfl)) ?_)
          clear hA; intro a hA
          refine L1 (stv hA (by decide) (run_move (hA.ev rfl)) ?_)
          clear hA; intro a hA
          refine L1 (gate_off rfl (by decide) rfl hA (by decide) rfl rfl ?_); clear hA; intro a hA
          refine L1 (gate_off rfl (by decide) rfl hA (by decide) rfl rfl ?_); clear hA; intro a hA
          refine L1 (gate_off rfl (by decide) rfl hA (by decide) rfl rfl ?_); clear hA; intro a hA
          refine L1 (gate_off rfl (by decide) rfl hA (by decide) rfl rfl ?_); clear hA; intro a hA
          refine L1 (stv hA (by decide) (run_pick (hA.ev rfl) (fun h => Bool.noConfusion h) (fun _ => hA.ev rfl)) ?_)
          clear hA; intro a hA
          refine LQ ?_
          exact ⟨false, Option.some.inj H537, hM, ((((((hA.nil.cons (hA.get 42 _ rfl)).cons (hA.get 9 _ rfl)).cons (hA.get 8 _ rfl)).cons (hA.get 7 _ rfl)).cons (hA.get 1 _ rfl)).cons (hA.get 0 _ rfl))⟩
      clear hM hA
      rintro a w544 ⟨t536, rfl, hM, hA⟩
      try dsimp only at H520
      refine TN ?_
      refine tcond (b := t536) hA rfl (fun hb545 => ?_) (fun hb545 => ?_)
      · replace H520 := ite_t hb545 H520
        refine wp_skip ?_
        refine TN ?_
        refine wp_seq ?_
        refine wp_block ?_
        refine wp_seq ?_
        refine wp_region_lit ?_
        refine L1 (stv hA (by decide) (run_move (hA.ev rfl)) ?_)
        clear hA; intro a hA
        refine L1 (stv hA (by decide) (run_move (hA.ev rfl)) ?_)
        clear hA; intro a hA
        refine L1 (e_litN [t513] [(.int .i64 t513)] elt22 hM rfl (by decide) hA rfl rfl (List.cons_ne_nil _ _) (by decide) ?_)
        clear hM hA; intro w547 g546 hM hE  a hA
        obtain ⟨hl551, H520⟩ := ite_some H520
        refine L1 (e_append elt22 hM (fun _ => (.s .z)) (Src.row Try.underlying22 (RowOk.row (hM.row (p := (Pl.int .i64)) .z)) (RowOk.len (hM.row (p := (Pl.int .i64)) .z))) hl551 hA rfl rfl (by decide) ?_)
        clear hM hA; intro w552 A549 c550 hM hE  a hA
        refine L1 (stv hA (by decide) (run_assign (hA.ev rfl)) ?_)
        clear hA; intro a hA
        refine LQ ?_
        refine TN ?_
        refine wp_seq ?_
        obtain ⟨o567, H566, H520⟩ := Option.bind_eq_some_iff.1 H520
        refine cutC (fun a w => ∃ (t565 : Bool), t565 = o567 ∧ Mem F w0 w [.row 3 (Pl.int .i64).sz (.slice A549 (xs511.length + 1) c550) ((Pl.int .i64).flat (xs511 ++ [t513]))] ∧ Has 61 [(0, (.slice A0 routes_0.length c0)), (1, (.slice A1 diffuse_1.length c1)), (7, (.int .i64 ((routes_0.length : Nat) : Int))), (8, (.slice A549 (xs511.length + 1) c550)), (9, (.int .i64 t513)), (59, (.bool t565))] a) ?_ ?_
        · refine wp_region_lit ?_
          refine L1 (stv hA (by decide) (run_move (hA.ev rfl)) ?_)
          clear hA; intro a hA
          refine L1 (stv hA (by decide) (run_move (hA.ev rfl)) ?_)
          clear hA; intro a hA
          obtain ⟨⟨hi568, hj569⟩, H566⟩ := ite_some H566
          obtain ⟨ad570, hq571, hat572⟩ := Row.elem' (p := Pl.bool) (hM.ro hr1) (Eq.refl diffuse_1.length) false t513 hi568 hj569
          refine L1 (stv hA (by decide) (run_idx Try.underlying24 Try.sizeOf4 (hA.ev rfl) hq571 (hA.ev rfl) hi568 hj569) ?_)
          clear hA; intro a hA
          refine L1 (stv hA (by decide) (run_ld (hA.ev rfl) (run_loadS Try.isAgg4 hat572)) ?_)
          clear hA; intro a hA
          refine L1 (stv hA (by decide) (run_move (hA.ev rfl)) ?_)
          clear hA; intro a hA
          refine bsplit (b := (diffuse_1.getD t513.toNat false)) (fun hb573 => ?_) (fun hb573 => ?_)
          · replace H566 := ite_t hb573 H566
            have hA := hA.re (t := 55) rfl (congrArg Value.bool hb573)
            refine L1 (gate_on rfl rfl hA (by decide) rfl (stv hA (by decide) (run_move (hA.ev rfl)) ?_))
            clear hA; intro a hA
            refine L1 (gate_on rfl rfl hA (by decide) rfl (stv hA (by decide) (run_len_slice Try.underlying22 (hA.ev rfl)) ?_))
            clear hA; intro a hA
            refine L1 (gate_on rfl rfl hA (by decide) rfl (stv hA (by decide) (run_bin (hA.ev rfl) (hA.ev rfl) (bin_gtr _ _ _ _)) ?_))
            clear hA; intro a hA
            refine L1 (stv hA (by decide) (run_pick (hA.ev rfl) (fun _ => hA.ev rfl) (fun h => Bool.noConfusion h)) ?_)
            clear hA; intro a hA
            refine LQ ?_
            exact ⟨(decide ((((xs511.length + 1) : Nat) : Int) > 1)), Option.some.inj H566, (hM.sel [1] rfl (by decide)), ((((((hA.nil.cons (hA.get 59 _ rfl)).cons (hA.get 9 _ rfl)).cons (hA.get 8 _ rfl)).cons (hA.get 7 _ rfl)).cons (hA.get 1 _ rfl)).cons (hA.get 0 _ rfl))⟩
          · replace H566 := ite_f hb573 H566
            have hA := hA.re (t := 55) rfl (congrArg Value.bool hb573)
            refine L1 (gate_off rfl (by decide) rfl hA (by decide) rfl rfl ?_); clear hA; intro a hA
            refine L1 (gate_off rfl (by decide) rfl hA (by decide) rfl rfl ?_); clear hA; intro a hA
            refine L1 (gate_off rfl (by decide) rfl hA (by decide) rfl rfl ?_); clear hA; intro a hA
            refine L1 (stv hA (by decide) (run_pick (hA.ev rfl) (fun h => Bool.noConfusion h) (fun _ => hA.ev rfl)) ?_)
            clear hA; intro a hA
            refine LQ ?_
            exact ⟨false, Option.some.inj H566, (hM.sel [1] rfl (by decide)), ((((((hA.nil.cons (hA.get 59 _ rfl)).cons (hA.get 9 _ rfl)).cons (hA.get 8 _ rfl)).cons (hA.get 7 _ rfl)).cons (hA.get 1 _ rfl)).cons (hA.get 0 _ rfl))⟩
        clear hM hA
        rintro a w574 ⟨t565, rfl, hM, hA⟩
        try dsimp only at H520
        refine TN ?_
        refine tcond (b := t565) hA rfl (fun hb575 => ?_) (fun hb575 => ?_)
        · replace H520 := ite_t hb575 H520
          refine wp_exit ?_
          refine BO rfl ?_
          refine TX ?_
          refine TX ?_
          refine BX ?_
          exact ⟨(xs511 ++ [t513]), (.slice A549 (xs511.length + 1) c550), Option.some.inj H520, hM, (hA.nil.cons (hA.get 8 _ rfl))⟩
        · replace H520 := ite_f hb575 H520
          refine wp_skip ?_
          refine BN ?_
          refine TN ?_
          refine wp_region_lit ?_
          refine L1 (stv hA (by decide) (run_move (hA.ev rfl)) ?_)
          clear hA; intro a hA
          refine L1 (stv hA (by decide) (run_move (hA.ev rfl)) ?_)
          clear hA; intro a hA
          obtain ⟨⟨hi576, hj577⟩, H520⟩ := ite_some H520
          obtain ⟨ad578, hq579, hat580⟩ := Row.elem' (p := (Pl.int .i64)) (hM.ro hr0) (Eq.refl routes_0.length) (0 : Int) t513 hi576 hj577
          refine L1 (stv hA (by decide) (run_idx Try.underlying22 Try.sizeOf3 (hA.ev rfl) hq579 (hA.ev rfl) hi576 hj577) ?_)
          clear hA; intro a hA
          refine L1 (stv hA (by decide) (run_ld (hA.ev rfl) (run_loadS Try.isAgg3 hat580)) ?_)
          clear hA; intro a hA
          refine L1 (stv hA (by decide) (run_assign (hA.ev rfl)) ?_)
          clear hA; intro a hA
          refine LQ ?_
          exact ⟨_, Nat.lt_succ_self m523, (xs511 ++ [t513]), (routes_0.getD t513.toNat (0 : Int)), (.slice A549 (xs511.length + 1) c550), H520, hM, (((((hA.nil.cons (hA.get 9 _ rfl)).cons (hA.get 8 _ rfl)).cons (hA.get 7 _ rfl)).cons (hA.get 1 _ rfl)).cons (hA.get 0 _ rfl))⟩
      · replace H520 := ite_f hb545 H520
        refine wp_exit ?_
        refine TX ?_
        refine TX ?_
        refine BX ?_
        exact ⟨xs511, (.slice A509 xs511.length c510), Option.some.inj H520, hM, (hA.nil.cons (hA.get 8 _ rfl))⟩
    clear hM hA
    rintro a w581 ⟨xs519, v516, rfl, hM, hA⟩
    try dsimp only at H
    obtain ⟨A517, c518, rfl⟩ := RowOk.form (hM.row (p := (Pl.int .i64)) .z)
    refine TN ?_
    refine wp_seq ?_
    refine wp_region_lit ?_
    refine L1 (stv hA (by decide) (run_move (hA.ev rfl)) ?_)
    clear hA; intro a hA
    refine L1 (stv hA (by decide) (run_assign (hA.ev rfl)) ?_)
    clear hA; intro a hA
    refine LQ ?_
    refine TN ?_
    refine wp_ret ?_
    obtain rfl := Option.some.inj H
    exact ret_post1 (fn := Try.f10) hA rfl rfl ⟨_, rfl, (.slice A517 xs519.length c518), rfl, hM⟩

def relay_Seen.l0 (path_0 : (List Int)) (spies_1 : (List Bool)) : Nat → Int → Option (Out (Int × Int) (Unit))
  | 0, _ => none
  | k + 1, t270 => (if (decide (t270 < ((path_0.length : Nat) : Int))) = true then (if 0 ≤ t270 ∧ t270 < ((path_0.length : Nat) : Int) then (Option.bind (α := Bool) (if (decide (t270 > 0)) = true then (if (decide ((path_0.getD t270.toNat (0 : Int)) ≥ 0)) = true then (if (decide ((path_0.getD t270.toNat (0 : Int)) < ((spies_1.length : Nat) : Int))) = true then (if 0 ≤ (path_0.getD t270.toNat (0 : Int)) ∧ (path_0.getD t270.toNat (0 : Int)) < ((spies_1.length : Nat) : Int) then (some (spies_1.getD (path_0.getD t270.toNat (0 : Int)).toNat false)) else none) else (some false)) else (some false)) else (some false)) (fun t296 => (if t296 = true then (if 0 ≤ (IntKind.i64.wrap (t270 - 1)) ∧ (IntKind.i64.wrap (t270 - 1)) < ((path_0.length : Nat) : Int) then (some (.ret (t270, (path_0.getD (IntKind.i64.wrap (t270 - 1)).toNat (0 : Int))))) else none) else (relay_Seen.l0 path_0 spies_1 k (IntKind.i64.wrap (t270 + 1)))))) else none) else (some (.go ())))
def relay_Seen.f (k : Nat) (path_0 : (List Int)) (spies_1 : (List Bool)) : Option (Int × Int) := (Option.bind (α := Out (Int × Int) (Unit)) (relay_Seen.l0 path_0 spies_1 k 0) (fun o => match o with | .ret r => some r | .go _ => (some ((-1), (-1)))))
set_option maxHeartbeats 2000000 in
set_option maxRecDepth 100000 in
theorem relay_Seen.calls (k : Nat) (path_0 : (List Int)) (spies_1 : (List Bool)) (F : List (Option Nat)) (v0 : Value) (v1 : Value) (r : (Int × Int)) (w0 : World) (h0 : RoV F (Pl.int .i64) w0 v0 path_0) (h1 : RoV F Pl.bool w0 v1 spies_1) (hM : Mem F w0 w0 []) (H : relay_Seen.f k path_0 spies_1 = some r) :
    Calls Try.prog 11 #[v0, v1] w0 fun e w' => ∃ v, e = .returned v ∧ v = (.tuple #[(.int .i64 r.1), (.int .i64 r.2)]) ∧ Mem F w0 w' [] := by
  unfold relay_Seen.f at H
  obtain ⟨A0, c0, rfl, hr0, hc0⟩ := h0
  obtain ⟨A1, c1, rfl, hr1, hc1⟩ := h1
  refine enterL (n := 40) [(.slice A0 path_0.length c0), (.slice A1 spies_1.length c1)] Try.func11 rfl rfl rfl ?_
  intro a hA
  refine wp_seq ?_
  refine wp_region_lit ?_
  refine L1 (stv hA (by decide) (run_assign (hA.ev rfl)) ?_)
  clear hA; intro a hA
  refine L1 (stv hA (by decide) (run_assign (hA.ev rfl)) ?_)
  clear hA; intro a hA
  refine LQ ?_
  refine TN ?_
  refine wp_seq ?_
  refine wp_seq ?_
  refine wp_region_lit ?_
  refine L1 (stv hA (by decide) (run_move (hA.ev rfl)) ?_)
  clear hA; intro a hA
  refine L1 (stv hA (by decide) (run_len_slice Try.underlying22 (hA.ev rfl)) ?_)
  clear hA; intro a hA
  refine L1 (stv hA (by decide) (run_move (hA.ev rfl)) ?_)
  clear hA; intro a hA
  refine LQ ?_
  refine TN ?_
  obtain ⟨o272, H271, H⟩ := Option.bind_eq_some_iff.1 H
  refine cutC (fun a w => (.go ()) = o272 ∧ Mem F w0 w [] ∧ Has 40 [] a) ?_ ?_
  · refine wp_block ?_
    refine wp_loop_ghost (fun m a w => ∃ (t270 : Int), relay_Seen.l0 path_0 spies_1 m t270 = some o272 ∧ Mem F w0 w [] ∧ Has 40 [(0, (.slice A0 path_0.length c0)), (1, (.slice A1 spies_1.length c1)), (8, (.slice A0 path_0.length c0)), (9, (.int .i64 ((path_0.length : Nat) : Int))), (10, (.int .i64 t270))] a) k ⟨0, H271, hM, (((((hA.nil.cons (hA.get 10 _ rfl)).cons (hA.get 9 _ rfl)).cons (hA.get 8 _ rfl)).cons (hA.get 1 _ rfl)).cons (hA.get 0 _ rfl))⟩ ?_
    clear hM hA; rintro m273 a w274 ⟨t270, H271, hM, hA⟩
    cases m273 with
    | zero => exact absurd H271 (by simp [relay_Seen.l0])
    | succ m273 =>
    rw [relay_Seen.l0] at H271
    refine wp_seq ?_
    refine wp_region_lit ?_
    refine L1 (stv hA (by decide) (run_bin (hA.ev rfl) (hA.ev rfl) (bin_lss _ _ _ _)) ?_)
    clear hA; intro a hA
    refine LQ ?_
    refine TN ?_
    refine wp_seq ?_
    refine tcond (b := (decide (t270 < ((path_0.length : Nat) : Int)))) hA rfl (fun hb275 => ?_) (fun hb275 => ?_)
    · replace H271 := ite_t hb275 H271
      refine wp_skip ?_
      refine TN ?_
      refine wp_seq ?_
      refine wp_block ?_
      refine wp_seq ?_
      refine wp_region_lit ?_
      refine L1 (stv hA (by decide) (run_move (hA.ev rfl)) ?_)
      clear hA; intro a hA
      obtain ⟨⟨hi276, hj277⟩, H271⟩ := ite_some H271
      obtain ⟨ad278, hq279, hat280⟩ := Row.elem' (p := (Pl.int .i64)) (hM.ro hr0) (Eq.refl path_0.length) (0 : Int) t270 hi276 hj277
      refine L1 (stv hA (by decide) (run_idx Try.underlying22 Try.sizeOf3 (hA.ev rfl) hq279 (hA.ev rfl) hi276 hj277) ?_)
      clear hA; intro a hA
      refine L1 (stv hA (by decide) (run_ld (hA.ev rfl) (run_loadS Try.isAgg3 hat280)) ?_)
      clear hA; intro a hA
      refine L1 (stv hA (by decide) (run_assign (hA.ev rfl)) ?_)
      clear hA; intro a hA
      refine L1 (stv hA (by decide) (run_assign (hA.ev rfl)) ?_)
      clear hA; intro a hA
      refine LQ ?_
      refine TN ?_
      refine wp_seq ?_
      obtain ⟨o298, H297, H271⟩ := Option.bind_eq_some_iff.1 H271
      refine cutC (fun a w => ∃ (t296 : Bool), t296 = o298 ∧ Mem F w0 w [] ∧ Has 40 [(0, (.slice A0 path_0.length c0)), (1, (.slice A1 spies_1.length c1)), (6, (.int .i64 t270)), (8, (.slice A0 path_0.length c0)), (9, (.int .i64 ((path_0.length : Nat) : Int))), (10, (.int .i64 t270)), (32, (.bool t296))] a) ?_ ?_
      · refine wp_region_lit ?_
        refine L1 (stv hA (by decide) (run_move (hA.ev rfl)) ?_)
        clear hA; intro a hA
        refine L1 (stv hA (by decide) (run_bin (hA.ev rfl) (hA.ev rfl) (bin_gtr _ _ _ _)) ?_)
        clear hA; intro a hA
        refine L1 (stv hA (by decide) (run_move (hA.ev rfl)) ?_)
        clear hA; intro a hA
        refine bsplit (b := (decide (t270 > 0))) (fun hb299 => ?_) (fun hb299 => ?_)
        · replace H297 := ite_t hb299 H297
          have hA := hA.re (t := 17) rfl (congrArg Value.bool hb299)
          refine L1 (gate_on rfl rfl hA (by decide) rfl (stv hA (by decide) (run_move (hA.ev rfl)) ?_))
          clear hA; intro a hA
          refine L1 (gate_on rfl rfl hA (by decide) rfl (stv hA (by decide) (run_bin (hA.ev rfl) (hA.ev rfl) (bin_geq _ _ _ _)) ?_))
          clear hA; intro a hA
          refine L1 (stv hA (by decide) (run_pick (hA.ev rfl) (fun _ => hA.ev rfl) (fun h => Bool.noConfusion h)) ?_)
          clear hA; intro a hA
          refine L1 (stv hA (by decide) (run_move (hA.ev rfl)) ?_)
          clear hA; intro a hA
          refine bsplit (b := (decide ((path_0.getD t270.toNat (0 : Int)) ≥ 0))) (fun hb300 => ?_) (fun hb300 => ?_)
          · replace H297 := ite_t hb300 H297
            have hA := hA.re (t := 21) rfl (congrArg Value.bool hb300)
            refine L1 (gate_on rfl rfl hA (by decide) rfl (stv hA (by decide) (run_move (hA.ev rfl)) ?_))
            clear hA; intro a hA
            refine L1 (gate_on rfl rfl hA (by decide) rfl (stv hA (by decide) (run_move (hA.ev rfl)) ?_))
            clear hA; intro a hA
            refine L1 (gate_on rfl rfl hA (by decide) rfl (stv hA (by decide) (run_len_slice Try.underlying24 (hA.ev rfl)) ?_))
            clear hA; intro a hA
            refine L1 (gate_on rfl rfl hA (by decide) rfl (stv hA (by decide) (run_bin (hA.ev rfl) (hA.ev rfl) (bin_lss _ _ _ _)) ?_))
            clear hA; intro a hA
            refine L1 (stv hA (by decide) (run_pick (hA.ev rfl) (fun _ => hA.ev rfl) (fun h => Bool.noConfusion h)) ?_)
            clear hA; intro a hA
            refine L1 (stv hA (by decide) (run_move (hA.ev rfl)) ?_)
            clear hA; intro a hA
            refine bsplit (b := (decide ((path_0.getD t270.toNat (0 : Int)) < ((spies_1.length : Nat) : Int)))) (fun hb301 => ?_) (fun hb301 => ?_)
            · replace H297 := ite_t hb301 H297
              have hA := hA.re (t := 27) rfl (congrArg Value.bool hb301)
              refine L1 (gate_on rfl rfl hA (by decide) rfl (stv hA (by decide) (run_move (hA.ev rfl)) ?_))
              clear hA; intro a hA
              refine L1 (gate_on rfl rfl hA (by decide) rfl (stv hA (by decide) (run_move (hA.ev rfl)) ?_))
              clear hA; intro a hA
              obtain ⟨⟨hi302, hj303⟩, H297⟩ := ite_some H297
              obtain ⟨ad304, hq305, hat306⟩ := Row.elem' (p := Pl.bool) (hM.ro hr1) (Eq.refl spies_1.length) false (path_0.getD t270.toNat (0 : Int)) hi302 hj303
              refine L1 (gate_on rfl rfl hA (by decide) rfl (stv hA (by decide) (run_idx Try.underlying24 Try.sizeOf4 (hA.ev rfl) hq305 (hA.ev rfl) hi302 hj303) ?_))
              clear hA; intro a hA
              refine L1 (gate_on rfl rfl hA (by decide) rfl (stv hA (by decide) (run_ld (hA.ev rfl) (run_loadS Try.isAgg4 hat306)) ?_))
              clear hA; intro a hA
              refine L1 (stv hA (by decide) (run_pick (hA.ev rfl) (fun _ => hA.ev rfl) (fun h => Bool.noConfusion h)) ?_)
              clear hA; intro a hA
              refine LQ ?_
              exact ⟨(spies_1.getD (path_0.getD t270.toNat (0 : Int)).toNat false), Option.some.inj H297, hM, (((((((hA.nil.cons (hA.get 32 _ rfl)).cons (hA.get 10 _ rfl)).cons (hA.get 9 _ rfl)).cons (hA.get 8 _ rfl)).cons (hA.get 6 _ rfl)).cons (hA.get 1 _ rfl)).cons (hA.get 0 _ rfl))⟩
            · replace H297 := ite_f hb301 H297
              have hA := hA.re (t := 27) rfl (congrArg Value.bool hb301)
              refine L1 (gate_off rfl (by decide) rfl hA (by decide) rfl rfl ?_); clear hA; intro a hA
              refine L1 (gate_off rfl (by decide) rfl hA (by decide) rfl rfl ?_); clear hA; intro a hA
              refine L1 (gate_off rfl (by decide) rfl hA (by decide) rfl rfl ?_); clear hA; intro a hA
              refine L1 (gate_off rfl (by decide) rfl hA (by decide) rfl rfl ?_); clear hA; intro a hA
              refine L1 (stv hA (by decide) (run_pick (hA.ev rfl) (fun h => Bool.noConfusion h) (fun _ => hA.ev rfl)) ?_)
              clear hA; intro a hA
              refine LQ ?_
              exact ⟨false, Option.some.inj H297, hM, (((((((hA.nil.cons (hA.get 32 _ rfl)).cons (hA.get 10 _ rfl)).cons (hA.get 9 _ rfl)).cons (hA.get 8 _ rfl)).cons (hA.get 6 _ rfl)).cons (hA.get 1 _ rfl)).cons (hA.get 0 _ rfl))⟩
          · replace H297 := ite_f hb300 H297
            have hA := hA.re (t := 21) rfl (congrArg Value.bool hb300)
            refine L1 (gate_off rfl (by decide) rfl hA (by decide) rfl rfl ?_); clear hA; intro a hA
            refine L1 (gate_off rfl (by decide) rfl hA (by decide) rfl rfl ?_); clear hA; intro a hA
            refine L1 (gate_off rfl (by decide) rfl hA (by decide) rfl rfl ?_); clear hA; intro a hA
            refine L1 (gate_off rfl (by decide) rfl hA (by decide) rfl rfl ?_); clear hA; intro a hA
            refine L1 (stv hA (by decide) (run_pick (hA.ev rfl) (fun h => Bool.noConfusion h) (fun _ => hA.ev rfl)) ?_)
            clear hA; intro a hA
            refine L1 (stv hA (by decide) (run_move (hA.ev rfl)) ?_)
            clear hA; intro a hA
            refine L1 (gate_off rfl (by decide) rfl hA (by decide) rfl rfl ?_); clear hA; intro a hA
            refine L1 (gate_off rfl (by decide) rfl hA (by decide) rfl rfl ?_); clear hA; intro a hA
            refine L1 (gate_off rfl (by decide) rfl hA (by decide) rfl rfl ?_); clear hA; intro a hA
            refine L1 (gate_off rfl (by decide) rfl hA (by decide) rfl rfl ?_); clear hA; intro a hA
            refine L1 (stv hA (by decide) (run_pick (hA.ev rfl) (fun h => Bool.noConfusion h) (fun _ => hA.ev rfl)) ?_)
            clear hA; intro a hA
            refine LQ ?_
            exact ⟨false, Option.some.inj H297, hM, (((((((hA.nil.cons (hA.get 32 _ rfl)).cons (hA.get 10 _ rfl)).cons (hA.get 9 _ rfl)).cons (hA.get 8 _ rfl)).cons (hA.get 6 _ rfl)).cons (hA.get 1 _ rfl)).cons (hA.get 0 _ rfl))⟩
        · replace H297 := ite_f hb299 H297
          have hA := hA.re (t := 17) rfl (congrArg Value.bool hb299)
          refine L1 (gate_off rfl (by decide) rfl hA (by decide) rfl rfl ?_); clear hA; intro a hA
          refine L1 (gate_off rfl (by decide) rfl hA (by decide) rfl rfl ?_); clear hA; intro a hA
          refine L1 (stv hA (by decide) (run_pick (hA.ev rfl) (fun h => Bool.noConfusion h) (fun _ => hA.ev rfl)) ?_)
          clear hA; intro a hA
          refine L1 (stv hA (by decide) (run_move (hA.ev rfl)) ?_)
          clear hA; intro a hA
          refine L1 (gate_off rfl (by decide) rfl hA (by decide) rfl rfl ?_); clear hA; intro a hA
          refine L1 (gate_off rfl (by decide) rfl hA (by decide) rfl rfl ?_); clear hA; intro a hA
          refine L1 (gate_off rfl (by decide) rfl hA (by decide) rfl rfl ?_); clear hA; intro a hA
          refine L1 (gate_off rfl (by decide) rfl hA (by decide) rfl rfl ?_); clear hA; intro a hA
          refine L1 (stv hA (by decide) (run_pick (hA.ev rfl) (fun h => Bool.noConfusion h) (fun _ => hA.ev rfl)) ?_)
          clear hA; intro a hA
          refine L1 (stv hA (by decide) (run_move (hA.ev rfl)) ?_)
          clear hA; intro a hA
          refine L1 (gate_off rfl (by decide) rfl hA (by decide) rfl rfl ?_); clear hA; intro a hA
          refine L1 (gate_off rfl (by decide) rfl hA (by decide) rfl rfl ?_); clear hA; intro a hA
          refine L1 (gate_off rfl (by decide) rfl hA (by decide) rfl rfl ?_); clear hA; intro a hA
          refine L1 (gate_off rfl (by decide) rfl hA (by decide) rfl rfl ?_); clear hA; intro a hA
          refine L1 (stv hA (by decide) (run_pick (hA.ev rfl) (fun h => Bool.noConfusion h) (fun _ => hA.ev rfl)) ?_)
          clear hA; intro a hA
          refine LQ ?_
          exact ⟨false, Option.some.inj H297, hM, (((((((hA.nil.cons (hA.get 32 _ rfl)).cons (hA.get 10 _ rfl)).cons (hA.get 9 _ rfl)).cons (hA.get 8 _ rfl)).cons (hA.get 6 _ rfl)).cons (hA.get 1 _ rfl)).cons (hA.get 0 _ rfl))⟩
      clear hM hA
      rintro a w307 ⟨t296, rfl, hM, hA⟩
      try dsimp only at H271
      refine TN ?_
      refine tcond (b := t296) hA rfl (fun hb308 => ?_) (fun hb308 => ?_)
      · replace H271 := ite_t hb308 H271
        refine wp_seq ?_
        refine draw (fun w' => Below w307.heap.size w307 w') [] rfl ?_
        intro w309 hw hS; replace hM := hM.ext hS; clear hw
        refine d_takef (i := 0) (L' := #[true, false, false, false, false, false, false, false]) rfl (by kernel_rfl) rfl (fun _ _ _ h => h) hA (by decide) (fun _ => hS) (fun a w' hA => run_move (hA.ev rfl)) ?_; clear hA; intro a hA
        refine d_takef (i := 1) (L' := #[true, true, false, false, false, false, false, false]) rfl (by kernel_rfl) rfl (fun _ _ _ h => h) hA (by decide) (fun _ => hS) (fun a w' hA => run_move (hA.ev rfl)) ?_; clear hA; intro a hA
        refine d_takef (i := 2) (L' := #[true, true, true, false, false, false, false, false]) rfl (by kernel_rfl) rfl (fun _ _ _ h => h) hA (by decide) (fun _ => hS) (fun a w' hA => run_move (hA.ev rfl)) ?_; clear hA; intro a hA
        refine d_takef (i := 3) (L' := #[true, true, true, true, false, false, false, false]) rfl (by kernel_rfl) rfl (fun _ _ _ h => h) hA (by decide) (fun _ => hS) (fun a w' hA => run_bin (hA.ev rfl) (hA.ev rfl) (bin_sub _ _ _ _)) ?_; clear hA; intro a hA
        obtain ⟨⟨hi311, hj312⟩, H271⟩ := ite_some H271
        obtain ⟨ad313, hq314, hat315⟩ := Row.elem' (p := (Pl.int .i64)) (hM.ro hr0) (Eq.refl path_0.length) (0 : Int) (IntKind.i64.wrap (t270 - 1)) hi311 hj312
        refine d_takef (i := 4) (L' := #[true, true, true, true, true, false, false, false]) rfl (by kernel_rfl) rfl (fun _ _ _ h => h) hA (by decide) (fun _ => hS) (fun a w' hA => run_idx Try.underlying22 Try.sizeOf3 (hA.ev rfl) hq314 (hA.ev rfl) hi311 hj312) ?_; clear hA; intro a hA
        refine rebase hS ?_; clear hS; intro hS
        refine d_take (i := 5) (L' := #[true, true, true, true, true, true, false, false]) rfl (by kernel_rfl) rfl (fun _ _ _ h => h) hA (by decide) rfl hS (fun a w' hA hS' => run_ld (hA.ev rfl) (run_loadS Try.isAgg3 ((hat315).extB hS'))) ?_; clear hA; intro a hA
        refine d_takef (i := 6) (L' := #[true, true, true, true, true, true, true, false]) rfl (by kernel_rfl) rfl (fun _ _ _ h => h) hA (by decide) (fun _ => hS) (fun a w' hA => run_assign (hA.ev rfl)) ?_; clear hA; intro a hA
        refine d_takef (i := 7) (L' := #[true, true, true, true, true, true, true, true]) rfl (by kernel_rfl) rfl (fun _ _ _ h => h) hA (by decide) (fun _ => hS) (fun a w' hA => run_assign (hA.ev rfl)) ?_; clear hA; intro a hA
        refine d_done (by kernel_rfl) ?_
        refine TN ?_
        refine wp_ret ?_
        obtain rfl := Option.some.inj H271
        dsimp only at H
        obtain rfl := Option.some.inj H
        refine BR ?_
        refine TR ?_
        refine TR ?_
        refine BR ?_
        refine TR ?_
        refine TR ?_
        exact ret_post2 (fn := Try.f11) hA rfl rfl rfl ⟨_, rfl, rfl, hM⟩
      · replace H271 := ite_f hb308 H271
        refine wp_skip ?_
        refine BN ?_
        refine TN ?_
        refine wp_region_lit ?_
        refine L1 (stv hA (by decide) (run_bin (hA.ev rfl) (hA.ev rfl) (bin_add _ _ _ _)) ?_)
        clear hA; intro a hA
        refine L1 (stv hA (by decide) (run_move (hA.ev rfl)) ?_)
        clear hA; intro a hA
        refine LQ ?_
        exact ⟨_, Nat.lt_succ_self m273, IntKind.i64.wrap (t270 + 1), H271, hM, (((((hA.nil.cons (hA.get 10 _ rfl)).cons (hA.get 9 _ rfl)).cons (hA.get 8 _ rfl)).cons (hA.get 1 _ rfl)).cons (hA.get 0 _ rfl))⟩
    · replace H271 := ite_f hb275 H271
      refine wp_exit ?_
      refine TX ?_
      refine TX ?_
      refine BX ?_
      exact ⟨Option.some.inj H271, hM, hA.nil⟩
  clear hM hA
  rintro a w316 ⟨rfl, hM, hA⟩
  try dsimp only at H
  refine TN ?_
  refine wp_seq ?_
  refine wp_region_lit ?_
  refine L1 (stv hA (by decide) (run_assign (hA.ev rfl)) ?_)
  clear hA; intro a hA
  refine L1 (stv hA (by decide) (run_assign (hA.ev rfl)) ?_)
  clear hA; intro a hA
  refine LQ ?_
  refine TN ?_
  refine wp_ret ?_
  obtain rfl := Option.some.inj H
  exact ret_post2 (fn := Try.f11) hA rfl rfl rfl ⟨_, rfl, rfl, hM⟩

def ref40_SameInts.l0 (a_0 : (List Int)) (b_1 : (List Int)) : Nat → Int → Option (Out Bool (Unit))
  | 0, _ => none
  | k + 1, i135 => (if (decide (i135 < ((a_0.length : Nat) : Int))) = true then (if 0 ≤ i135 ∧ i135 < ((a_0.length : Nat) : Int) then (if 0 ≤ i135 ∧ i135 < ((b_1.length : Nat) : Int) then (if ((a_0.getD i135.toNat (0 : Int)) != (b_1.getD i135.toNat (0 : Int))) = true then (some (.ret false)) else (ref40_SameInts.l0 a_0 b_1 k (IntKind.i64.wrap (i135 + 1)))) else none) else none) else (some (.go ())))
def ref40_SameInts.f (k : Nat) (a_0 : (List Int)) (b_1 : (List Int)) : Option Bool := (if (((a_0.length : Nat) : Int) != ((b_1.length : Nat) : Int)) = true then (some false) else (Option.bind (α := Out Bool (Unit)) (ref40_SameInts.l0 a_0 b_1 k 0) (fun o => match o with | .ret r => some r | .go _ => (some true))))
set_option maxHeartbeats 2000000 in
set_option maxRecDepth 100000 in
theorem ref40_SameInts.calls (k : Nat) (a_0 : (List Int)) (b_1 : (List Int)) (F : List (Option Nat)) (v0 : Value) (v1 : Value) (r : Bool) (w0 : World) (h0 : RoV F (Pl.int .i64) w0 v0 a_0) (h1 : RoV F (Pl.int .i64) w0 v1 b_1) (hM : Mem F w0 w0 []) (H : ref40_SameInts.f k a_0 b_1 = some r) :
    Calls Try.prog 26 #[v0, v1] w0 fun e w' => ∃ v, e = .returned v ∧ v = (.bool r) ∧ Mem F w0 w' [] := by
  unfold ref40_SameInts.f at H
  obtain ⟨A0, c0, rfl, hr0, hc0⟩ := h0
  obtain ⟨A1, c1, rfl, hr1, hc1⟩ := h1
  refine enterL (n := 26) [(.slice A0 a_0.length c0), (.slice A1 b_1.length c1)] Try.func26 rfl rfl rfl ?_
  intro a hA
  refine wp_seq ?_
  refine wp_region_lit ?_
  refine L1 (stv hA (by decide) (run_assign (hA.ev rfl)) ?_)
  clear hA; intro a hA
  refine LQ ?_
  refine TN ?_
  refine wp_seq ?_
  refine wp_seq ?_
  refine wp_region_lit ?_
  refine L1 (stv hA (by decide) (run_move (hA.ev rfl)) ?_)
  clear hA; intro a hA
  refine L1 (stv hA (by decide) (run_len_slice Try.underlying22 (hA.ev rfl)) ?_)
  clear hA; intro a hA
  refine L1 (stv hA (by decide) (run_move (hA.ev rfl)) ?_)
  clear hA; intro a hA
  refine L1 (stv hA (by decide) (run_len_slice Try.underlying22 (hA.ev rfl)) ?_)
  clear hA; intro a hA
  refine L1 (stv hA (by decide) (run_bin (hA.ev rfl) (hA.ev rfl) (bin_neq _ _ _ _)) ?_)
  clear hA; intro a hA
  refine LQ ?_
  refine TN ?_
  refine tcond (b := (((a_0.length : Nat) : Int) != ((b_1.length : Nat) : Int))) hA rfl (fun hb78 => ?_) (fun hb78 => ?_)
  · replace H := ite_t hb78 H
    refine wp_seq ?_
    refine wp_region_lit ?_
    refine L1 (stv hA (by decide) (run_assign (hA.ev rfl)) ?_)
    clear hA; intro a hA
    refine LQ ?_
    refine TN ?_
    refine wp_ret ?_
    obtain rfl := Option.some.inj H
    refine TR ?_
    exact ret_post1 (fn := Try.f26) hA rfl rfl ⟨_, rfl, rfl, hM⟩
  · replace H := ite_f hb78 H
    refine wp_skip ?_
    refine TN ?_
    refine wp_seq ?_
    refine wp_seq ?_
    refine wp_region_lit ?_
    refine L1 (stv hA (by decide) (run_assign (hA.ev rfl)) ?_)
    clear hA; intro a hA
    refine LQ ?_
    refine TN ?_
    obtain ⟨o137, H136, H⟩ := Option.bind_eq_some_iff.1 H
    refine cutC (fun a w => (.go ()) = o137 ∧ Mem F w0 w [] ∧ Has 26 [] a) ?_ ?_
    · refine wp_block ?_
      refine wp_loop_ghost (fun m a w => ∃ (i135 : Int), ref40_SameInts.l0 a_0 b_1 m i135 = some o137 ∧ Mem F w0 w [] ∧ Has 26 [(0, (.slice A0 a_0.length c0)), (1, (.slice A1 b_1.length c1)), (5, (.int .i64 i135))] a) k ⟨0, H136, hM, (((hA.nil.cons (hA.get 5 _ rfl)).cons (hA.get 1 _ rfl)).cons (hA.get 0 _ rfl))⟩ ?_
      clear hM hA; rintro m138 a w139 ⟨i135, H136, hM, hA⟩
      cases m138 with
      | zero => exact absurd H136 (by simp [ref40_SameInts.l0])
      | succ m138 =>
      rw [ref40_SameInts.l0] at H136
      refine wp_seq ?_
      refine wp_seq ?_
      refine wp_region_lit ?_
      refine L1 (stv hA (by decide) (run_move (hA.ev rfl)) ?_)
      clear hA; intro a hA
      refine L1 (stv hA (by decide) (run_move (hA.ev rfl)) ?_)
      clear hA; intro a hA
      refine L1 (stv hA (by decide) (run_len_slice Try.underlying22 (hA.ev rfl)) ?_)
      clear hA; intro a hA
      refine L1 (stv hA (by decide) (run_bin (hA.ev rfl) (hA.ev rfl) (bin_lss _ _ _ _)) ?_)
      clear hA; intro a hA
      refine LQ ?_
      refine TN ?_
      refine tcond (b := (decide (i135 < ((a_0.length : Nat) : Int)))) hA rfl (fun hb140 => ?_) (fun hb140 => ?_)
      · replace H136 := ite_t hb140 H136
        refine wp_skip ?_
        refine TN ?_
        refine wp_seq ?_
        refine wp_block ?_
        refine wp_seq ?_
        refine draw (fun w' => Below w139.heap.size w139 w') [] rfl ?_
        intro w141 hw hS; replace hM := hM.ext hS; clear hw
        refine d_takef (i := 0) (L' := #[true, false, false, false, false, false, false, false, false]) rfl (by kernel_rfl) rfl (fun _ _ _ h => h) hA (by decide) (fun _ => hS) (fun a w' hA => run_move (hA.ev rfl)) ?_; clear hA; intro a hA
        refine d_takef (i := 1) (L' := #[true, true, false, false, false, false, false, false, false]) rfl (by kernel_rfl) rfl (fun _ _ _ h => h) hA (by decide) (fun _ => hS) (fun a w' hA => run_move (hA.ev rfl)) ?_; clear hA; intro a hA
        obtain ⟨⟨hi143, hj144⟩, H136⟩ := ite_some H136
        obtain ⟨ad145, hq146, hat147⟩ := Row.elem' (p := (Pl.int .i64)) (hM.ro hr0) (Eq.refl a_0.length) (0 : Int) i135 hi143 hj144
        refine d_takef (i := 2) (L' := #[true, true, true, false, false, false, false, false, false]) rfl (by kernel_rfl) rfl (fun _ _ _ h => h) hA (by decide) (fun _ => hS) (fun a w' hA => run_idx Try.underlying22 Try.sizeOf3 (hA.ev rfl) hq146 (hA.ev rfl) hi143 hj144) ?_; clear hA; intro a hA
        refine rebase hS ?_; clear hS; intro hS
        refine d_take (i := 3) (L' := #[true, true, true, true, false, false, false, false, false]) rfl (by kernel_rfl) rfl (fun _ _ _ h => h) hA (by decide) rfl hS (fun a w' hA hS' => run_ld (hA.ev rfl) (run_loadS Try.isAgg3 ((hat147).extB hS'))) ?_; clear hA; intro a hA
        refine d_takef (i := 4) (L' := #[true, true, true, true, true, false, false, false, false]) rfl (by kernel_rfl) rfl (fun _ _ _ h => h) hA (by decide) (fun _ => hS) (fun a w' hA => run_move (hA.ev rfl)) ?_; clear hA; intro a hA
        refine d_takef (i := 5) (L' := #[true, true, true, true, true, true, false, false, false]) rfl (by kernel_rfl) rfl (fun _ _ _ h => h) hA (by decide) (fun _ => hS) (fun a w' hA => run_move (hA.ev rfl)) ?_; clear hA; intro a hA
        obtain ⟨⟨hi148, hj149⟩, H136⟩ := ite_some H136
        obtain ⟨ad150, hq151, hat152⟩ := Row.elem' (p := (Pl.int .i64)) (hM.ro hr1) (Eq.refl b_1.length) (0 : Int) i135 hi148 hj149
        refine d_takef (i := 6) (L' := #[true, true, true, true, true, true, true, false, false]) rfl (by kernel_rfl) rfl (fun _ _ _ h => h) hA (by decide) (fun _ => hS) (fun a w' hA => run_idx Try.underlying22 Try.sizeOf3 (hA.ev rfl) hq151 (hA.ev rfl) hi148 hj149) ?_; clear hA; intro a hA
        refine d_take (i := 7) (L' := #[true, true, true, true, true, true, true, true, false]) rfl (by kernel_rfl) rfl (fun _ _ _ h => h) hA (by decide) rfl hS (fun a w' hA hS' => run_ld (hA.ev rfl) (run_loadS Try.isAgg3 ((hat152).extB hS'))) ?_; clear hA; intro a hA
        refine d_takef (i := 8) (L' := #[true, true, true, true, true, true, true, true, true]) rfl (by kernel_rfl) rfl (fun _ _ _ h => h) hA (by decide) (fun _ => hS) (fun a w' hA => run_bin (hA.ev rfl) (hA.ev rfl) (bin_neq _ _ _ _)) ?_; clear hA; intro a hA
        refine d_done (by kernel_rfl) ?_
        refine TN ?_
        refine tcond (b := ((a_0.getD i135.toNat (0 : Int)) != (b_1.getD i135.toNat (0 : Int)))) hA rfl (fun hb153 => ?_) (fun hb153 => ?_)
        · replace H136 := ite_t hb153 H136
          refine wp_seq ?_
          refine wp_region_lit ?_
          refine L1 (stv hA (by decide) (run_assign (hA.ev rfl)) ?_)
          clear hA; intro a hA
          refine LQ ?_
          refine TN ?_
          refine wp_ret ?_
          obtain rfl := Option.some.inj H136
          dsimp only at H
          obtain rfl := Option.some.inj H
          refine BR ?_
          refine TR ?_
          refine TR ?_
          refine BR ?_
          refine TR ?_
          refine TR ?_
          exact ret_post1 (fn := Try.f26) hA rfl rfl ⟨_, rfl, rfl, hM⟩
        · replace H136 := ite_f hb153 H136
          refine wp_skip ?_
          refine BN ?_
          refine TN ?_
          refine wp_region_lit ?_
          refine L1 (stv hA (by decide) (run_move (hA.ev rfl)) ?_)
          clear hA; intro a hA
          refine L1 (stv hA (by decide) (run_bin (hA.ev rfl) (hA.ev rfl) (bin_add _ _ _ _)) ?_)
          clear hA; intro a hA
          refine L1 (stv hA (by decide) (run_assign (hA.ev rfl)) ?_)
          clear hA; intro a hA
          refine LQ ?_
          exact ⟨_, Nat.lt_succ_self m138, IntKind.i64.wrap (i135 + 1), H136, hM, (((hA.nil.cons (hA.get 5 _ rfl)).cons (hA.get 1 _ rfl)).cons (hA.get 0 _ rfl))⟩
      · replace H136 := ite_f hb140 H136
        refine wp_exit ?_
        refine TX ?_
        refine TX ?_
        refine BX ?_
        exact ⟨Option.some.inj H136, hM, hA.nil⟩
    clear hM hA
    rintro a w154 ⟨rfl, hM, hA⟩
    try dsimp only at H
    refine TN ?_
    refine wp_seq ?_
    refine wp_region_lit ?_
    refine L1 (stv hA (by decide) (run_assign (hA.ev rfl)) ?_)
    clear hA; intro a hA
    refine LQ ?_
    refine TN ?_
    refine wp_ret ?_
    obtain rfl := Option.some.inj H
    exact ret_post1 (fn := Try.f26) hA rfl rfl ⟨_, rfl, rfl, hM⟩

def law40_sane.f (k : Nat)  : Option Bool := (if 0 ≤ (4 : Int) ∧ (4 : Int) * 1 ≤ 140737488355328 then ((relay_Walk.f k [(1 : Int), (2 : Int), (3 : Int), ((-1) : Int)] (List.replicate ((4 : Int).toNat) false) 0).bind fun r51 => ((relay_Seen.f k r51 [false, false, true, false]).bind fun r61 => (Option.bind (α := Bool) ((ref40_SameInts.f k r51 [(0 : Int), (1 : Int), (2 : Int), (3 : Int)]).bind fun r79 => (if r79 = true then (if (r61.1 == 2) = true then (some (r61.2 == 1)) else (some false)) else (some false))) (fun t73 => (some t73))))) else none)
set_option maxHeartbeats 2000000 in
set_option maxRecDepth 100000 in
theorem law40_sane.calls (k : Nat)  (F : List (Option Nat)) (r : Bool) (w0 : World) (hM : Mem F w0 w0 []) (H : law40_sane.f k  = some r) :
    Calls Try.prog 7 #[] w0 fun e w' => ∃ v, e = .returned v ∧ v = (.bool r) ∧ Mem F w0 w' [] := by
  unfold law40_sane.f at H
  refine enterL (n := 24) [] Try.func7 rfl rfl rfl ?_
  intro a hA
  refine wp_seq ?_
  refine wp_region_lit ?_
  refine L1 (stv hA (by decide) (run_assign (hA.ev rfl)) ?_)
  clear hA; intro a hA
  refine LQ ?_
  refine TN ?_
  refine wp_seq ?_
  refine wp_region_lit ?_
  refine L1 (e_litN [(1 : Int), (2 : Int), (3 : Int), ((-1) : Int)] [(.int .i64 1), (.int .i64 2), (.int .i64 3), (.int .i64 (-1))] elt22 hM rfl (by decide) hA rfl rfl (List.cons_ne_nil _ _) (by decide) ?_)
  clear hM hA; intro w44 g43 hM hE  a hA
  obtain ⟨⟨hi47, hj48⟩, H⟩ := ite_some H
  refine L1 (e_make elt24 rfl hM hA rfl rfl hi47 hj48 (by decide) ?_)
  clear hM hA; intro w49 g46 hM hE  a hA
  obtain ⟨r51, H52, H⟩ := Option.bind_eq_some_iff.1 H
  refine L1 (st_call Try.call10 hA [(.slice (some ⟨g43, 0, none⟩) 4 4), (.slice (some ⟨g46, 0, none⟩) ((4 : Int).toNat) ((4 : Int).toNat)), (.int .i64 0)] rfl (by decide) (relay_Walk.calls _ _ _ _ _ _ _ _ _ ((hM.roV (p := (Pl.int .i64)) (Ms := []) (.s .z))) ((hM.roV (p := Pl.bool) (Ms := []) .z)) (hM.front (Ms := [])) H52) ?_)
  clear hA; rintro _ w53 ⟨v54, rfl, hMc⟩ a hA
  have hE := hMc.below; have hM := hM.call (Ms := []) hMc
  clear hMc; simp only [List.cons_append, List.nil_append] at hM
  obtain ⟨A56, c57, rfl⟩ := RowOk.form (hM.row (p := (Pl.int .i64)) .z)
  refine L1 (stv hA (by decide) (run_assign (hA.ev rfl)) ?_)
  clear hA; intro a hA
  refine LQ ?_
  refine TN ?_
  refine wp_seq ?_
  refine wp_region_lit ?_
  refine L1 (stv hA (by decide) (run_move (hA.ev rfl)) ?_)
  clear hA; intro a hA
  refine L1 (e_litN [false, false, true, false] [(.bool false), (.bool false), (.bool true), (.bool false)] elt24 hM rfl (by decide) hA rfl rfl (List.cons_ne_nil _ _) (by decide) ?_)
  clear hM hA; intro w59 g58 hM hE  a hA
  obtain ⟨r61, H62, H⟩ := Option.bind_eq_some_iff.1 H
  refine L1 (st_call Try.call11 hA [(.slice A56 r51.length c57), (.slice (some ⟨g58, 0, none⟩) 4 4)] rfl (by decide) (relay_Seen.calls _ _ _ _ _ _ _ _ ((hM.roV (p := (Pl.int .i64)) (Ms := []) (.s .z))) ((hM.roV (p := Pl.bool) (Ms := []) .z)) (hM.front (Ms := [])) H62) ?_)
  clear hA; rintro _ w63 ⟨rfl, hMc⟩ a hA
  have hE := hMc.below; have hM := hM.call (Ms := []) hMc
  clear hMc; simp only [List.cons_append, List.nil_append] at hM
  refine L1 (stv hA (by decide) (run_move (hA.ev rfl)) ?_)
  clear hA; intro a hA
  refine L1 (stv hA (by decide) (run_ext (hA.ev rfl) rfl) ?_)
  clear hA; intro a hA
  refine L1 (stv hA (by decide) (run_ext (hA.ev rfl) rfl) ?_)
  clear hA; intro a hA
  refine L1 (stv hA (by decide) (run_assign (hA.ev rfl)) ?_)
  clear hA; intro a hA
  refine L1 (stv hA (by decide) (run_assign (hA.ev rfl)) ?_)
  clear hA; intro a hA
  refine LQ ?_
  refine TN ?_
  refine wp_seq ?_
  obtain ⟨o75, H74, H⟩ := Option.bind_eq_some_iff.1 H
  refine cutC (fun a w => ∃ (t73 : Bool), t73 = o75 ∧ Mem F w0 w [] ∧ Has 24 [(0, (.bool t73))] a) ?_ ?_
  · refine wp_region_lit ?_
    refine L1 (stv hA (by decide) (run_move (hA.ev rfl)) ?_)
    clear hA; intro a hA
    refine L1 (e_litN [(0 : Int), (1 : Int), (2 : Int), (3 : Int)] [(.int .i64 0), (.int .i64 1), (.int .i64 2), (.int .i64 3)] elt22 hM rfl (by decide) hA rfl rfl (List.cons_ne_nil _ _) (by decide) ?_)
    clear hM hA; intro w77 g76 hM hE  a hA
    obtain ⟨r79, H80, H74⟩ := Option.bind_eq_some_iff.1 H74
    refine L1 (st_call Try.call26 hA [(.slice A56 r51.length c57), (.slice (some ⟨g76, 0, none⟩) 4 4)] rfl (by decide) (ref40_SameInts.calls _ _ _ _ _ _ _ _ ((hM.roV (p := (Pl.int .i64)) (Ms := []) (.s (.s .z)))) ((hM.roV (p := (Pl.int .i64)) (Ms := []) .z)) (hM.front (Ms := [])) H80) ?_)
    clear hA; rintro _ w81 ⟨rfl, hMc⟩ a hA
    have hE := hMc.below; have hM := hM.call (Ms := []) hMc
    clear hMc; simp only [List.cons_append, List.nil_append] at hM
    refine L1 (stv hA (by decide) (run_move (hA.ev rfl)) ?_)
    clear hA; intro a hA
    refine bsplit (b := r79) (fun hb82 => ?_) (fun hb82 => ?_)
    · replace H74 := ite_t hb82 H74
      have hA := hA.re (t := 16) rfl (congrArg Value.bool hb82)
      refine L1 (gate_on rfl rfl hA (by decide) rfl (stv hA (by decide) (run_move (hA.ev rfl)) ?_))
      clear hA; intro a hA
      refine L1 (gate_on rfl rfl hA (by decide) rfl (stv hA (by decide) (run_bin (hA.ev rfl) (hA.ev rfl) (bin_eql _ _ _ _)) ?_))
      clear hA; intro a hA
      refine L1 (stv hA (by decide) (run_pick (hA.ev rfl) (fun _ => hA.ev rfl) (fun h => Bool.noConfusion h)) ?_)
      clear hA; intro a hA
      refine L1 (stv hA (by decide) (run_move (hA.ev rfl)) ?_)
      clear hA; intro a hA
      refine bsplit (b := (r61.1 == 2)) (fun hb83 => ?_) (fun hb83 => ?_)
      · replace H74 := ite_t hb83 H74
        have hA := hA.re (t := 20) rfl (congrArg Value.bool hb83)
        refine L1 (gate_on rfl rfl hA (by decide) rfl (stv hA (by decide) (run_move (hA.ev rfl)) ?_))
        clear hA; intro a hA
        refine L1 (gate_on rfl rfl hA (by decide) rfl (stv hA (by decide) (run_bin (hA.ev rfl) (hA.ev rfl) (bin_eql _ _ _ _)) ?_))
        clear hA; intro a hA
        refine L1 (stv hA (by decide) (run_pick (hA.ev rfl) (fun _ => hA.ev rfl) (fun h => Bool.noConfusion h)) ?_)
        clear hA; intro a hA
        refine L1 (stv hA (by decide) (run_assign (hA.ev rfl)) ?_)
        clear hA; intro a hA
        refine LQ ?_
        exact ⟨(r61.2 == 1), Option.some.inj H74, (hM.sel [] rfl (by decide)), (hA.nil.cons (hA.get 0 _ rfl))⟩
      · replace H74 := ite_f hb83 H74
        have hA := hA.re (t := 20) rfl (congrArg Value.bool hb83)
        refine L1 (gate_off rfl (by decide) rfl hA (by decide) rfl rfl ?_); clear hA; intro a hA
        refine L1 (gate_off rfl (by decide) rfl hA (by decide) rfl rfl ?_); clear hA; intro a hA
        refine L1 (stv hA (by decide) (run_pick (hA.ev rfl) (fun h => Bool.noConfusion h) (fun _ => hA.ev rfl)) ?_)
        clear hA; intro a hA
        refine L1 (stv hA (by decide) (run_assign (hA.ev rfl)) ?_)
        clear hA; intro a hA
        refine LQ ?_
        exact ⟨false, Option.some.inj H74, (hM.sel [] rfl (by decide)), (hA.nil.cons (hA.get 0 _ rfl))⟩
    · replace H74 := ite_f hb82 H74
      have hA := hA.re (t := 16) rfl (congrArg Value.bool hb82)
      refine L1 (gate_off rfl (by decide) rfl hA (by decide) rfl rfl ?_); clear hA; intro a hA
      refine L1 (gate_off rfl (by decide) rfl hA (by decide) rfl rfl ?_); clear hA; intro a hA
      refine L1 (stv hA (by decide) (run_pick (hA.ev rfl) (fun h => Bool.noConfusion h) (fun _ => hA.ev rfl)) ?_)
      clear hA; intro a hA
      refine L1 (stv hA (by decide) (run_move (hA.ev rfl)) ?_)
      clear hA; intro a hA
      refine L1 (gate_off rfl (by decide) rfl hA (by decide) rfl rfl ?_); clear hA; intro a hA
      refine L1 (gate_off rfl (by decide) rfl hA (by decide) rfl rfl ?_); clear hA; intro a hA
      refine L1 (stv hA (by decide) (run_pick (hA.ev rfl) (fun h => Bool.noConfusion h) (fun _ => hA.ev rfl)) ?_)
      clear hA; intro a hA
      refine L1 (stv hA (by decide) (run_assign (hA.ev rfl)) ?_)
      clear hA; intro a hA
      refine LQ ?_
      exact ⟨false, Option.some.inj H74, (hM.sel [] rfl (by decide)), (hA.nil.cons (hA.get 0 _ rfl))⟩
  clear hM hA
  rintro a w84 ⟨t73, rfl, hM, hA⟩
  try dsimp only at H
  refine TN ?_
  refine wp_ret ?_
  obtain rfl := Option.some.inj H
  exact ret_post1 (fn := Try.f7) hA rfl rfl ⟨_, rfl, rfl, hM⟩

def mill_New.f (k : Nat) (l_0 : (List Int)) : Option lightclientmill_Deck := (some (lightclientmill_Deck.mk l_0 0))
set_option maxHeartbeats 2000000 in
set_option maxRecDepth 100000 in
theorem mill_New.calls (k : Nat) (l_0 : (List Int)) (F : List (Option Nat)) (v0 : Value) (r : lightclientmill_Deck) (w0 : World) (h0 : RoV F (Pl.int .i64) w0 v0 l_0) (hM : Mem F w0 w0 []) (H : mill_New.f k l_0 = some r) :
    Calls Try.prog 13 #[v0] w0 fun e w' => ∃ v, e = .returned v ∧ ∃ (ggr_0 : Nat), v = (.pointer (some (⟨ggr_0, 0, none⟩))) ∧ Mem F w0 w' [.box ggr_0 63 [v0, (.int .i64 r.At_)]] := by
  unfold mill_New.f at H
  obtain ⟨A0, c0, rfl, hr0, hc0⟩ := h0
  refine enterL (n := 6) [(.slice A0 l_0.length c0)] Try.func13 rfl rfl rfl ?_
  intro a hA
  refine wp_seq ?_
  refine wp_region_lit ?_
  refine L1 (stv hA (by decide) (run_assign (hA.ev rfl)) ?_)
  clear hA; intro a hA
  refine LQ ?_
  refine TN ?_
  refine wp_seq ?_
  refine wp_region_lit ?_
  refine L1 (stv hA (by decide) (run_move (hA.ev rfl)) ?_)
  clear hA; intro a hA
  refine L1 (stv hA (by decide) (run_build (cells := #[(.slice A0 l_0.length c0), (.int .i64 0)]) [(0, (.slice A0 l_0.length c0))] zero63 Try.underlying63 (ss := [1, 1]) ⟨Try.sizeOf22, Try.sizeOf3, trivial⟩ hA rfl (by rfl)) ?_)
  clear hA; intro a hA
  refine L1 (e_box (cs := [(.slice A0 l_0.length c0), (.int .i64 0)]) hM hA rfl rfl (by decide) ?_)
  clear hM hA; intro w5 g4 hM hE  a hA
  refine L1 (stv hA (by decide) (run_assign (hA.ev rfl)) ?_)
  clear hA; intro a hA
  refine LQ ?_
  refine TN ?_
  refine wp_ret ?_
  obtain rfl := Option.some.inj H
  exact ret_post1 (fn := Try.f13) hA rfl rfl ⟨_, rfl, g4, rfl, hM⟩

def relay_stemmed.l0 (r_0 : Relay) : Nat → (List (Vector Int 32)) → Int → Option ((List (Vector Int 32)))
  | 0, _, _ => none
  | k + 1, xs203, t207 => (if (decide (t207 < ((r_0.Stems.length : Nat) : Int))) = true then (if 0 ≤ t207 ∧ t207 < ((r_0.Stems.length : Nat) : Int) then (if (xs203.length + 1) * 32 ≤ 140737488355328 then (relay_stemmed.l0 r_0 k (xs203 ++ [(r_0.Stems.getD t207.toNat Stem.z).ID]) (IntKind.i64.wrap (t207 + 1))) else none) else none) else (some xs203))
def relay_stemmed.f (k : Nat) (r_0 : Relay) : Option (List (Vector Int 32)) := (Option.bind (α := (List (Vector Int 32))) (relay_stemmed.l0 r_0 k ([] : List (Vector Int 32)) 0) (fun xs213 => (some xs213)))
set_option maxHeartbeats 2000000 in
set_option maxRecDepth 100000 in
theorem relay_stemmed.calls (k : Nat) (r_0 : Relay) (F : List (Option Nat)) (v0_2 : Value) (v0_3 : Value) (v0_4 : Value) (r : (List (Vector Int 32))) (w0 : World) (h0_2 : RoV F (Pl.int .i64) w0 v0_2 r_0.Routes) (h0_3 : RoV F pStem w0 v0_3 r_0.Stems) (h0_4 : RoV F pHash w0 v0_4 r_0.Fluffed) (hM : Mem F w0 w0 []) (H : relay_stemmed.f k r_0 = some r) :
    Calls Try.prog 39 #[(.agg #[(.int .u32 r_0.Epoch), (.bool r_0.Diffuse), v0_2, v0_3, v0_4])] w0 fun e w' => ∃ v, e = .returned v ∧ ∃ (ur_0 : Value), v = ur_0 ∧ Mem F w0 w' [.row 34 pHash.sz ur_0 (pHash.flat r)] := by
  unfold relay_stemmed.f at H
  obtain ⟨A0_2, c0_2, rfl, hr0_2, hc0_2⟩ := h0_2
  obtain ⟨A0_3, c0_3, rfl, hr0_3, hc0_3⟩ := h0_3
  obtain ⟨A0_4, c0_4, rfl, hr0_4, hc0_4⟩ := h0_4
  refine enterL (n := 20) [(.agg #[(.int .u32 r_0.Epoch), (.bool r_0.Diffuse), (.slice A0_2 r_0.Routes.length c0_2), (.slice A0_3 r_0.Stems.length c0_3), (.slice A0_4 r_0.Fluffed.length c0_4)])] Try.func39 rfl rfl rfl ?_
  intro a hA
  refine wp_seq ?_
  refine wp_region_lit ?_
  refine L1 (e_box (cs := [(.int .u32 r_0.Epoch), (.bool r_0.Diffuse), (.slice A0_2 r_0.Routes.length c0_2), (.slice A0_3 r_0.Stems.length c0_3), (.slice A0_4 r_0.Fluffed.length c0_4)]) hM hA rfl rfl (by decide) ?_)
  clear hM hA; intro w120 g119 hM hE  a hA
  refine L1 (stv hA (by decide) (run_assign (hA.ev rfl)) ?_)
  clear hA; intro a hA
  refine LQ ?_
  refine TN ?_
  refine wp_seq ?_
  refine wp_region_lit ?_
  refine L1 (stv hA (by decide) (run_assign (hA.ev rfl)) ?_)
  clear hA; intro a hA
  refine LQ ?_
  refine TN ?_
  refine wp_seq ?_
  refine wp_seq ?_
  refine wp_region_lit ?_
  refine L1 (stv hA (by decide) (run_field' Try.underlying39 rfl rfl Try.sizeOf36 (by decide) (hA.ev rfl)) ?_)
  clear hA; intro a hA
  refine L1 (stv hA (by decide) (run_ld (hA.ev rfl) (run_loadS Try.isAgg36 (At.seg1 (hM.box .z) 3 rfl))) ?_)
  clear hA; intro a hA
  refine L1 (stv hA (by decide) (run_len_slice Try.underlying36 (hA.ev rfl)) ?_)
  clear hA; intro a hA
  refine L1 (stv hA (by decide) (run_move (hA.ev rfl)) ?_)
  clear hA; intro a hA
  refine LQ ?_
  refine TN ?_
  obtain ⟨o215, H214, H⟩ := Option.bind_eq_some_iff.1 H
  refine cutC (fun a w => ∃ (xs213 : (List (Vector Int 32))) (v210 : Value), xs213 = o215 ∧ Mem F w0 w [.row 34 pHash.sz v210 (pHash.flat xs213)] ∧ Has 20 [(3, v210)] a) ?_ ?_
  · refine wp_block ?_
    have hM := hM.addnil 34 (pHash).sz
    refine wp_loop_ghost (fun m a w => ∃ (xs203 : (List (Vector Int 32))) (t207 : Int) (v200 : Value), relay_stemmed.l0 r_0 m xs203 t207 = some o215 ∧ Mem F w0 w [.row 34 pHash.sz v200 (pHash.flat xs203)] ∧ Has 20 [(3, v200), (7, (.slice A0_3 r_0.Stems.length c0_3)), (8, (.int .i64 ((r_0.Stems.length : Nat) : Int))), (9, (.int .i64 t207))] a) k ⟨([] : List (Vector Int 32)), 0, (.slice none 0 0), H214, (hM.sel [0] rfl (by decide)), ((((hA.nil.cons (hA.get 9 _ rfl)).cons (hA.get 8 _ rfl)).cons (hA.get 7 _ rfl)).cons (hA.get 3 _ rfl))⟩ ?_
    clear hM hA; rintro m217 a w218 ⟨xs203, t207, v200, H214, hM, hA⟩
    cases m217 with
    | zero => exact absurd H214 (by simp [relay_stemmed.l0])
    | succ m217 =>
    rw [relay_stemmed.l0] at H214
    obtain ⟨A201, c202, rfl⟩ := RowOk.form (hM.row (p := pHash) .z)
    refine wp_seq ?_
    refine wp_region_lit ?_
    refine L1 (stv hA (by decide) (run_bin (hA.ev rfl) (hA.ev rfl) (bin_lss _ _ _ _)) ?_)
    clear hA; intro a hA
    refine LQ ?_
    refine TN ?_
    refine wp_seq ?_
    refine tcond (b := (decide (t207 < ((r_0.Stems.length : Nat) : Int)))) hA rfl (fun hb219 => ?_) (fun hb219 => ?_)
    · replace H214 := ite_t hb219 H214
      refine wp_skip ?_
      refine TN ?_
      refine wp_seq ?_
      refine wp_block ?_
      refine wp_seq ?_
      refine wp_region_lit ?_
      obtain ⟨⟨hi220, hj221⟩, H214⟩ := ite_some H214
      obtain ⟨ad222, hq223, hat224⟩ := Row.elem' (p := pStem) (hM.ro hr0_3) (Eq.refl r_0.Stems.length) Stem.z t207 hi220 hj221
      refine L1 (stv hA (by decide) (run_idx Try.underlying36 Try.sizeOf61 (hA.ev rfl) hq223 (hA.ev rfl) hi220 hj221) ?_)
      clear hA; intro a hA
      refine L1 (stv hA (by decide) (run_ld (hA.ev rfl) (run_loadP Try.isAgg61 Try.sizeOf61 hat224)) ?_)
      clear hA; intro a hA
      refine L1 (e_alloc (cs := (pStem.enc Stem.z)) hM zero61 rfl hA (by decide) ?_)
      clear hM hA; intro w226 g225 hM hE  a hA
      refine L1 (e_store (g := g225) (off := 0) (cur := (pStem.enc Stem.z)) (cs' := (pStem.enc (r_0.Stems.getD t207.toNat Stem.z))) hM .z Try.sizeOf61 hA rfl (by simp [add_mk]) rfl (agg_size _ _) (agg_one _ _) (Nat.le_of_ble_eq_true (enc_fitL _ _ rfl)) (spl_all (by first | rfl | simp [Value.cells, Pl.len])) ?_)
      clear hM hA; intro w228  hM hE  a hA
      refine LQ ?_
      refine TN ?_
      refine wp_region_lit ?_
      refine L1 (stv hA (by decide) (run_move (hA.ev rfl)) ?_)
      clear hA; intro a hA
      refine L1 (stv hA (by decide) (run_field' Try.underlying61 rfl rfl Try.sizeOf34 (by decide) (hA.ev rfl)) ?_)
      clear hA; intro a hA
      refine L1 (stv hA (by decide) (run_ld (hA.ev rfl) (run_loadP Try.isAgg34 Try.sizeOf34 (Stem.at_ID (hM.box .z)))) ?_)
      clear hA; intro a hA
      refine L1 (e_litN [(r_0.Stems.getD t207.toNat Stem.z).ID] [(.agg (pHash.enc ((r_0.Stems.getD t207.toNat Stem.z).ID)).toArray)] elt37 hM rfl (by decide) hA rfl rfl (List.cons_ne_nil _ _) (by decide) ?_)
      clear hM hA; intro w230 g229 hM hE  a hA
      obtain ⟨hl234, H214⟩ := ite_some H214
      refine L1 (e_append elt37 hM (fun _ => (.s (.s .z))) (Src.row Try.underlying37 (RowOk.row (hM.row (p := pHash) .z)) (RowOk.len (hM.row (p := pHash) .z))) hl234 hA rfl rfl (by decide) ?_)
      clear hM hA; intro w235 A232 c233 hM hE  a hA
      refine L1 (stv hA (by decide) (run_assign (hA.ev rfl)) ?_)
      clear hA; intro a hA
      refine LQ ?_
      refine BN ?_
      refine TN ?_
      refine wp_region_lit ?_
      refine L1 (stv hA (by decide) (run_bin (hA.ev rfl) (hA.ev rfl) (bin_add _ _ _ _)) ?_)
      clear hA; intro a hA
      refine L1 (stv hA (by decide) (run_move (hA.ev rfl)) ?_)
      clear hA; intro a hA
      refine LQ ?_
      exact ⟨_, Nat.lt_succ_self m217, (xs203 ++ [(r_0.Stems.getD t207.toNat Stem.z).ID]), IntKind.i64.wrap (t207 + 1), (.slice A232 (xs203.length + 1) c233), H214, (hM.sel [2] rfl (by decide)), ((((hA.nil.cons (hA.get 9 _ rfl)).cons (hA.get 8 _ rfl)).cons (hA.get 7 _ rfl)).cons (hA.get 3 _ rfl))⟩
    · replace H214 := ite_f hb219 H214
      refine wp_exit ?_
      refine TX ?_
      refine TX ?_
      refine BX ?_
      exact ⟨xs203, (.slice A201 xs203.length c202), Option.some.inj H214, hM, (hA.nil.cons (hA.get 3 _ rfl))⟩
  clear hM hA
  rintro a w236 ⟨xs213, v210, rfl, hM, hA⟩
  try dsimp only at H
  obtain ⟨A211, c212, rfl⟩ := RowOk.form (hM.row (p := pHash) .z)
  refine TN ?_
  refine wp_seq ?_
  refine wp_region_lit ?_
  refine L1 (stv hA (by decide) (run_move (hA.ev rfl)) ?_)
  clear hA; intro a hA
  refine L1 (stv hA (by decide) (run_assign (hA.ev rfl)) ?_)
  clear hA; intro a hA
  refine LQ ?_
  refine TN ?_
  refine wp_ret ?_
  obtain rfl := Option.some.inj H
  exact ret_post1 (fn := Try.f39) hA rfl rfl ⟨_, rfl, (.slice A211 xs213.length c212), rfl, hM⟩

def slices_Concat_Hash.f (k : Nat) (slices_0_0 : (List (Vector Int 32))) (slices_0_1 : (List (Vector Int 32))) : Option (List (Vector Int 32)) := (if (decide ((IntKind.i64.wrap (0 + ((slices_0_0.length : Nat) : Int))) < 0)) = true then none else (if (decide ((IntKind.i64.wrap ((IntKind.i64.wrap (0 + ((slices_0_0.length : Nat) : Int))) + ((slices_0_1.length : Nat) : Int))) < 0)) = true then none else (Option.bind (α := (List (Vector Int 32))) (if (decide ((IntKind.i64.wrap ((IntKind.i64.wrap ((IntKind.i64.wrap (0 + ((slices_0_0.length : Nat) : Int))) + ((slices_0_1.length : Nat) : Int))) - 0)) > 0)) = true then (if 0 ≤ (IntKind.i64.wrap ((IntKind.i64.wrap ((IntKind.i64.wrap (0 + ((slices_0_0.length : Nat) : Int))) + ((slices_0_1.length : Nat) : Int))) - 0)) ∧ (0 + (IntKind.i64.wrap ((IntKind.i64.wrap ((IntKind.i64.wrap (0 + ((slices_0_0.length : Nat) : Int))) + ((slices_0_1.length : Nat) : Int))) - 0)).toNat) * 32 ≤ 140737488355328 then (if 0 ≤ (0 : Int) ∧ (0 : Int) ≤ (((0 + (IntKind.i64.wrap ((IntKind.i64.wrap ((IntKind.i64.wrap (0 + ((slices_0_0.length : Nat) : Int))) + ((slices_0_1.length : Nat) : Int))) - 0)).toNat) : Nat) : Int) then (some ((([] : List (Vector Int 32)) ++ List.replicate (IntKind.i64.wrap ((IntKind.i64.wrap ((IntKind.i64.wrap (0 + ((slices_0_0.length : Nat) : Int))) + ((slices_0_1.length : Nat) : Int))) - 0)).toNat (Vector.replicate 32 0 : Vector Int 32)).take ((0 : Int).toNat))) else none) else none) else (some ([] : List (Vector Int 32)))) (fun xs167 => (if (xs167.length + slices_0_0.length) * 32 ≤ 140737488355328 then (if ((xs167.length + slices_0_0.length) + slices_0_1.length) * 32 ≤ 140737488355328 then (some ((xs167 ++ slices_0_0) ++ slices_0_1)) else none) else none)))))
set_option maxHeartbeats 2000000 in
set_option maxRecDepth 100000 in
theorem slices_Concat_Hash.calls (k : Nat) (slices_0_0 : (List (Vector Int 32))) (slices_0_1 : (List (Vector Int 32))) (F : List (Option Nat)) (g0 : Nat) (v0_0 : Value) (v0_1 : Value) (r : (List (Vector Int 32))) (w0 : World) (h0_0 : RoV F pHash w0 v0_0 slices_0_0) (h0_1 : RoV F pHash w0 v0_1 slices_0_1) (hM : Mem F w0 w0 [.box g0 37 (List.flatten [[v0_0], [v0_1]])]) (H : slices_Concat_Hash.f k slices_0_0 slices_0_1 = some r) :
    Calls Try.prog 43 #[(.slice (some ⟨g0, 0, none⟩) 2 2)] w0 fun e w' => ∃ v, e = .returned v ∧ ∃ (ur_0 : Value), v = ur_0 ∧ Mem F w0 w' [.box g0 37 (List.flatten [[v0_0], [v0_1]]), .row 34 pHash.sz ur_0 (pHash.flat r)] := by
  unfold slices_Concat_Hash.f at H
  obtain ⟨A0_0, c0_0, rfl, hr0_0, hc0_0⟩ := h0_0
  obtain ⟨A0_1, c0_1, rfl, hr0_1, hc0_1⟩ := h0_1
  refine enterL (n := 36) [(.slice (some ⟨g0, 0, none⟩) 2 2)] Try.func43 rfl rfl rfl ?_
  intro a hA
  refine wp_seq ?_
  refine wp_region_lit ?_
  refine L1 (stv hA (by decide) (run_assign (hA.ev rfl)) ?_)
  clear hA; intro a hA
  refine LQ ?_
  refine TN ?_
  refine wp_seq ?_
  refine wp_region_lit ?_
  refine L1 (stv hA (by decide) (run_assign (hA.ev rfl)) ?_)
  clear hA; intro a hA
  refine LQ ?_
  refine TN ?_
  refine wp_seq ?_
  refine wp_seq ?_
  refine wp_region_lit ?_
  refine L1 (stv hA (by decide) (run_move (hA.ev rfl)) ?_)
  clear hA; intro a hA
  refine L1 (stv hA (by decide) (run_len_slice Try.underlying80 (hA.ev rfl)) ?_)
  clear hA; intro a hA
  refine L1 (stv hA (by decide) (run_move (hA.ev rfl)) ?_)
  clear hA; intro a hA
  refine LQ ?_
  refine TN ?_
  refine wp_block ?_; refine wp_loop_rounds 40 ?_; refine rounds_s ?_
  refine wp_seq ?_
  refine wp_region_lit ?_
  refine L1 (stv hA (by decide) (run_bin (hA.ev rfl) (hA.ev rfl) (bin_lss _ _ _ _)) ?_)
  clear hA; intro a hA
  refine LQ ?_
  refine TN ?_
  refine wp_seq ?_
  refine tcond_t hA rfl ?_
  refine wp_skip ?_
  refine TN ?_
  refine wp_seq ?_
  refine wp_block ?_
  refine wp_seq ?_
  refine wp_region_lit ?_
  refine L1 (stv hA (by decide) (run_idx Try.underlying80 Try.sizeOf37 (hA.ev rfl) rfl (hA.ev rfl) (by decide) (by decide)) ?_)
  clear hA; intro a hA
  refine L1 (stv hA (by decide) (run_ld (hA.ev rfl) (run_loadS Try.isAgg37 (At.seg (segs := [[(.slice A0_0 slices_0_0.length c0_0)], [(.slice A0_1 slices_0_1.length c0_1)]]) (hM.box .z) 0 rfl rfl))) ?_)
  clear hA; intro a hA
  refine L1 (stv hA (by decide) (run_assign (hA.ev rfl)) ?_)
  clear hA; intro a hA
  refine LQ ?_
  refine TN ?_
  refine wp_seq ?_
  refine wp_region_lit ?_
  refine L1 (stv hA (by decide) (run_move (hA.ev rfl)) ?_)
  clear hA; intro a hA
  refine L1 (stv hA (by decide) (run_move (hA.ev rfl)) ?_)
  clear hA; intro a hA
  refine L1 (stv hA (by decide) (run_len_slice Try.underlying37 (hA.ev rfl)) ?_)
  clear hA; intro a hA
  refine L1 (stv hA (by decide) (run_bin (hA.ev rfl) (hA.ev rfl) (bin_add _ _ _ _)) ?_)
  clear hA; intro a hA
  refine L1 (stv hA (by decide) (run_assign (hA.ev rfl)) ?_)
  clear hA; intro a hA
  refine LQ ?_
  refine TN ?_
  refine wp_seq ?_
  refine wp_region_lit ?_
  refine L1 (stv hA (by decide) (run_move (hA.ev rfl)) ?_)
  clear hA; intro a hA
  refine L1 (stv hA (by decide) (run_bin (hA.ev rfl) (hA.ev rfl) (bin_lss _ _ _ _)) ?_)
  clear hA; intro a hA
  refine LQ ?_
  refine TN ?_
  refine tcond (b := (decide ((IntKind.i64.wrap (0 + ((slices_0_0.length : Nat) : Int))) < 0))) hA rfl (fun hb116 => ?_) (fun hb116 => ?_)
  · replace H := ite_t hb116 H
    cases H
  · replace H := ite_f hb116 H
    refine wp_skip ?_
    refine BN ?_
    refine TN ?_
    refine wp_region_lit ?_
    refine L1 (stv hA (by decide) (run_bin (hA.ev rfl) (hA.ev rfl) (bin_add _ _ _ _)) ?_)
    clear hA; intro a hA
    refine L1 (stv hA (by decide) (run_move (hA.ev rfl)) ?_)
    clear hA; intro a hA
    refine LQ ?_
    refine TN ?_; refine rounds_s ?_
    refine wp_seq ?_
    refine wp_region_lit ?_
    refine L1 (stv hA (by decide) (run_bin (hA.ev rfl) (hA.ev rfl) (bin_lss _ _ _ _)) ?_)
    clear hA; intro a hA
    refine LQ ?_
    refine TN ?_
    refine wp_seq ?_
    refine tcond_t hA rfl ?_
    refine wp_skip ?_
    refine TN ?_
    refine wp_seq ?_
    refine wp_block ?_
    refine wp_seq ?_
    refine wp_region_lit ?_
    refine L1 (stv hA (by decide) (run_idx Try.underlying80 Try.sizeOf37 (hA.ev rfl) rfl (hA.ev rfl) (by decide) (by decide)) ?_)
    clear hA; intro a hA
    refine L1 (stv hA (by decide) (run_ld (hA.ev rfl) (run_loadS Try.isAgg37 (At.seg (segs := [[(.slice A0_0 slices_0_0.length c0_0)], [(.slice A0_1 slices_0_1.length c0_1)]]) (hM.box .z) 1 rfl rfl))) ?_)
    clear hA; intro a hA
    refine L1 (stv hA (by decide) (run_assign (hA.ev rfl)) ?_)
    clear hA; intro a hA
    refine LQ ?_
    refine TN ?_
    refine wp_seq ?_
    refine wp_region_lit ?_
    refine L1 (stv hA (by decide) (run_move (hA.ev rfl)) ?_)
    clear hA; intro a hA
    refine L1 (stv hA (by decide) (run_move (hA.ev rfl)) ?_)
    clear hA; intro a hA
    refine L1 (stv hA (by decide) (run_len_slice Try.underlying37 (hA.ev rfl)) ?_)
    clear hA; intro a hA
    refine L1 (stv hA (by decide) (run_bin (hA.ev rfl) (hA.ev rfl) (bin_add _ _ _ _)) ?_)
    clear hA; intro a hA
    refine L1 (stv hA (by decide) (run_assign (hA.ev rfl)) ?_)
    clear hA; intro a hA
    refine LQ ?_
    refine TN ?_
    refine wp_seq ?_
    refine wp_region_lit ?_
    refine L1 (stv hA (by decide) (run_move (hA.ev rfl)) ?_)
    clear hA; intro a hA
    refine L1 (stv hA (by decide) (run_bin (hA.ev rfl) (hA.ev rfl) (bin_lss _ _ _ _)) ?_)
    clear hA; intro a hA
    refine LQ ?_
    refine TN ?_
    refine tcond (b := (decide ((IntKind.i64.wrap ((IntKind.i64.wrap (0 + ((slices_0_0.length : Nat) : Int))) + ((slices_0_1.length : Nat) : Int))) < 0))) hA rfl (fun hb119 => ?_) (fun hb119 => ?_)
    · replace H := ite_t hb119 H
      cases H
    · replace H := ite_f hb119 H
      refine wp_skip ?_
      refine BN ?_
      refine TN ?_
      refine wp_region_lit ?_
      refine L1 (stv hA (by decide) (run_bin (hA.ev rfl) (hA.ev rfl) (bin_add _ _ _ _)) ?_)
      clear hA; intro a hA
      refine L1 (stv hA (by decide) (run_move (hA.ev rfl)) ?_)
      clear hA; intro a hA
      refine LQ ?_
      refine TN ?_; refine rounds_s ?_
      refine wp_seq ?_
      refine wp_region_lit ?_
      refine L1 (stv hA (by decide) (run_bin (hA.ev rfl) (hA.ev rfl) (bin_lss _ _ _ _)) ?_)
      clear hA; intro a hA
      refine LQ ?_
      refine TN ?_
      refine wp_seq ?_
      refine tcond_f hA rfl ?_
      refine wp_exit ?_
      refine TX ?_
      refine TX ?_
      refine BX ?_
      refine TN ?_
      refine wp_seq ?_
      refine wp_region_lit ?_
      refine L1 (stv hA (by decide) (run_move (hA.ev rfl)) ?_)
      clear hA; intro a hA
      refine L1 (inl_call Try.call49 hA [(.slice none 0 0), (.int .i64 (IntKind.i64.wrap ((IntKind.i64.wrap (0 + ((slices_0_0.length : Nat) : Int))) + ((slices_0_1.length : Nat) : Int))))] rfl (by decide) ?_)
      refine enterL (n := 27) [(.slice none 0 0), (.int .i64 (IntKind.i64.wrap ((IntKind.i64.wrap (0 + ((slices_0_0.length : Nat) : Int))) + ((slices_0_1.length : Nat) : Int))))] Try.func49 rfl rfl rfl ?_
      clear hA; intro a hA
      refine wp_seq ?_
      refine wp_region_lit ?_
      refine L1 (stv hA (by decide) (run_assign (hA.ev rfl)) ?_)
      clear hA; intro a hA
      refine LQ ?_
      refine TN ?_
      refine wp_seq ?_
      refine wp_seq ?_
      refine wp_region_lit ?_
      refine L1 (stv hA (by decide) (run_move (hA.ev rfl)) ?_)
      clear hA; intro a hA
      refine L1 (stv hA (by decide) (run_bin (hA.ev rfl) (hA.ev rfl) (bin_lss _ _ _ _)) ?_)
      clear hA; intro a hA
      refine LQ ?_
      refine TN ?_
      refine tcond_kf hA rfl hb119 ?_
      refine wp_skip ?_
      refine TN ?_
      refine wp_seq ?_
      refine wp_seq ?_
      refine wp_region_lit ?_
      refine L1 (stv hA (by decide) (run_move (hA.ev rfl)) ?_)
      clear hA; intro a hA
      refine L1 (stv hA (by decide) (run_move (hA.ev rfl)) ?_)
      clear hA; intro a hA
      refine L1 (stv hA (by decide) (run_cap_slice Try.underlying37 (hA.ev rfl)) ?_)
      clear hA; intro a hA
      refine L1 (stv hA (by decide) (run_move (hA.ev rfl)) ?_)
      clear hA; intro a hA
      refine L1 (stv hA (by decide) (run_len_slice Try.underlying37 (hA.ev rfl)) ?_)
      clear hA; intro a hA
      refine L1 (stv hA (by decide) (run_bin (hA.ev rfl) (hA.ev rfl) (bin_sub _ _ _ _)) ?_)
      clear hA; intro a hA
      refine L1 (stv hA (by decide) (run_bin (hA.ev rfl) (hA.ev rfl) (bin_sub _ _ _ _)) ?_)
      clear hA; intro a hA
      refine L1 (stv hA (by decide) (run_assign (hA.ev rfl)) ?_)
      clear hA; intro a hA
      refine LQ ?_
      refine TN ?_
      refine wp_seq ?_
      refine wp_region_lit ?_
      refine L1 (stv hA (by decide) (run_move (hA.ev rfl)) ?_)
      clear hA; intro a hA
      refine L1 (stv hA (by decide) (run_bin (hA.ev rfl) (hA.ev rfl) (bin_gtr _ _ _ _)) ?_)
      clear hA; intro a hA
      refine LQ ?_
      refine TN ?_
      obtain ⟨o169, H168, H⟩ := Option.bind_eq_some_iff.1 H
      refine cutC (fun a w => ∃ (xs167 : (List (Vector Int 32))) (v164 : Value), xs167 = o169 ∧ Mem F w0 w [.row 34 pHash.sz v164 (pHash.flat xs167), .box g0 37 (List.flatten [[(.slice A0_0 slices_0_0.length c0_0)], [(.slice A0_1 slices_0_1.length c0_1)]])] ∧ Has 27 [(0, v164)] a) ?_ ?_
      · refine tcond (b := (decide ((IntKind.i64.wrap ((IntKind.i64.wrap ((IntKind.i64.wrap (0 + ((slices_0_0.length : Nat) : Int))) + ((slices_0_1.length : Nat) : Int))) - 0)) > 0))) hA rfl (fun hb170 => ?_) (fun hb170 => ?_)
        · replace H168 := ite_t hb170 H168
          refine wp_region_lit ?_
          refine L1 (stv hA (by decide) (run_move (hA.ev rfl)) ?_)
          clear hA; intro a hA
          refine L1 (stv hA (by decide) (run_move (hA.ev rfl)) ?_)
          clear hA; intro a hA
          refine L1 (stv hA (by decide) (run_cap_slice Try.underlying37 (hA.ev rfl)) ?_)
          clear hA; intro a hA
          refine L1 (stv hA (by decide) (run_hi Try.underlying37 Try.sizeOf34 (Nat.le_refl 0) (by decide) (by decide) (hA.ev rfl) (hA.ev rfl)) ?_)
          clear hA; intro a hA
          refine L1 (stv hA (by decide) (run_move (hA.ev rfl)) ?_)
          clear hA; intro a hA
          have hM := hM.addnil 34 (pHash).sz
          obtain ⟨⟨hi174, hl175⟩, H168⟩ := ite_some H168
          refine L1 (e_appendz (xs := ([] : List (Vector Int 32))) elt37 rfl Try.underlying3 hM (fun _ => .z) hi174 hl175 hA rfl rfl (by decide) ?_)
          clear hM hA; intro w176 A171 c172 hM hE  a hA
          refine L1 (stv hA (by decide) (run_move (hA.ev rfl)) ?_)
          clear hA; intro a hA
          refine L1 (stv hA (by decide) (run_len_slice Try.underlying37 (hA.ev rfl)) ?_)
          clear hA; intro a hA
          obtain ⟨⟨hi177, hj178⟩, H168⟩ := ite_some H168
          refine L1 (stv hA (by decide) (run_hi Try.underlying37 Try.sizeOf34 (RowOk.cap (hM.row (p := pHash) .z)) hi177 hj178 (hA.ev rfl) (hA.ev rfl)) ?_)
          clear hA; intro a hA
          refine L1 (stv hA (by decide) (run_assign (hA.ev rfl)) ?_)
          clear hA; intro a hA
          refine LQ ?_
          have hM := hM.re (y := .row 34 pHash.sz (.slice A171 ((0 : Int).toNat) c172) (pHash.flat ((([] : List (Vector Int 32)) ++ List.replicate (IntKind.i64.wrap ((IntKind.i64.wrap ((IntKind.i64.wrap (0 + ((slices_0_0.length : Nat) : Int))) + ((slices_0_1.length : Nat) : Int))) - 0)).toNat (Vector.replicate 32 0 : Vector Int 32)).take ((0 : Int).toNat)))) .z (fun h => RowOk.cuthi h (by omega)) (key_hi _ _ _ _ _)
          exact ⟨((([] : List (Vector Int 32)) ++ List.replicate (IntKind.i64.wrap ((IntKind.i64.wrap ((IntKind.i64.wrap (0 + ((slices_0_0.length : Nat) : Int))) + ((slices_0_1.length : Nat) : Int))) - 0)).toNat (Vector.replicate 32 0 : Vector Int 32)).take ((0 : Int).toNat)), (.slice A171 ((0 : Int).toNat) c172), Option.some.inj H168, hM, (hA.nil.cons (hA.get 0 _ rfl))⟩
        · replace H168 := ite_f hb170 H168
          refine wp_skip ?_
          have hM := hM.addnil 34 (pHash).sz
          exact ⟨([] : List (Vector Int 32)), (.slice none 0 0), Option.some.inj H168, hM, (hA.nil.cons (hA.get 0 _ rfl))⟩
      clear hM hA
      rintro a w180 ⟨xs167, v164, rfl, hM, hA⟩
      try dsimp only at H
      obtain ⟨A165, c166, rfl⟩ := RowOk.form (hM.row (p := pHash) .z)
      refine TN ?_
      refine wp_seq ?_
      refine wp_region_lit ?_
      refine L1 (stv hA (by decide) (run_move (hA.ev rfl)) ?_)
      clear hA; intro a hA
      refine L1 (stv hA (by decide) (run_assign (hA.ev rfl)) ?_)
      clear hA; intro a hA
      refine LQ ?_
      refine TN ?_
      refine wp_ret ?_
      refine ret_post1 (fn := Try.f49) hA rfl rfl ⟨_, rfl, ?_⟩; clear hA; intro a hA
      refine L1 (stv hA (by decide) (run_assign (hA.ev rfl)) ?_)
      clear hA; intro a hA
      refine LQ ?_
      refine TN ?_
      refine wp_seq ?_
      refine wp_seq ?_
      refine wp_region_lit ?_
      refine L1 (stv hA (by decide) (run_move (hA.ev rfl)) ?_)
      clear hA; intro a hA
      refine L1 (stv hA (by decide) (run_len_slice Try.underlying80 (hA.ev rfl)) ?_)
      clear hA; intro a hA
      refine L1 (stv hA (by decide) (run_move (hA.ev rfl)) ?_)
      clear hA; intro a hA
      refine LQ ?_
      refine TN ?_
      refine wp_block ?_; refine wp_loop_rounds 40 ?_; refine rounds_s ?_
      refine wp_seq ?_
      refine wp_region_lit ?_
      refine L1 (stv hA (by decide) (run_bin (hA.ev rfl) (hA.ev rfl) (bin_lss _ _ _ _)) ?_)
      clear hA; intro a hA
      refine LQ ?_
      refine TN ?_
      refine wp_seq ?_
      refine tcond_t hA rfl ?_
      refine wp_skip ?_
      refine TN ?_
      refine wp_seq ?_
      refine wp_block ?_
      refine wp_seq ?_
      refine wp_region_lit ?_
      refine L1 (stv hA (by decide) (run_idx Try.underlying80 Try.sizeOf37 (hA.ev rfl) rfl (hA.ev rfl) (by decide) (by decide)) ?_)
      clear hA; intro a hA
      refine L1 (stv hA (by decide) (run_ld (hA.ev rfl) (run_loadS Try.isAgg37 (At.seg (segs := [[(.slice A0_0 slices_0_0.length c0_0)], [(.slice A0_1 slices_0_1.length c0_1)]]) (hM.box (.s .z)) 0 rfl rfl))) ?_)
      clear hA; intro a hA
      refine L1 (stv hA (by decide) (run_assign (hA.ev rfl)) ?_)
      clear hA; intro a hA
      refine LQ ?_
      refine TN ?_
      refine wp_region_lit ?_
      refine L1 (stv hA (by decide) (run_move (hA.ev rfl)) ?_)
      clear hA; intro a hA
      refine L1 (stv hA (by decide) (run_move (hA.ev rfl)) ?_)
      clear hA; intro a hA
      obtain ⟨hl184, H⟩ := ite_some H
      refine L1 (e_append elt37 hM (fun _ => .z) (Src.row Try.underlying37 (hM.ro hr0_0) (Eq.refl slices_0_0.length)) hl184 hA rfl rfl (by decide) ?_)
      clear hM hA; intro w185 A182 c183 hM hE  a hA
      refine L1 (stv hA (by decide) (run_assign (hA.ev rfl)) ?_)
      clear hA; intro a hA
      refine LQ ?_
      refine BN ?_
      refine TN ?_
      refine wp_region_lit ?_
      refine L1 (stv hA (by decide) (run_bin (hA.ev rfl) (hA.ev rfl) (bin_add _ _ _ _)) ?_)
      clear hA; intro a hA
      refine L1 (stv hA (by decide) (run_move (hA.ev rfl)) ?_)
      clear hA; intro a hA
      refine LQ ?_
      refine TN ?_; refine rounds_s ?_
      refine wp_seq ?_
      refine wp_region_lit ?_
      refine L1 (stv hA (by decide) (run_bin (hA.ev rfl) (hA.ev rfl) (bin_lss _ _ _ _)) ?_)
      clear hA; intro a hA
      refine LQ ?_
      refine TN ?_
      refine wp_seq ?_
      refine tcond_t hA rfl ?_
      refine wp_skip ?_
      refine TN ?_
      refine wp_seq ?_
      refine wp_block ?_
      refine wp_seq ?_
      refine wp_region_lit ?_
      refine L1 (stv hA (by decide) (run_idx Try.underlying80 Try.sizeOf37 (hA.ev rfl) rfl (hA.ev rfl) (by decide) (by decide)) ?_)
      clear hA; intro a hA
      refine L1 (stv hA (by decide) (run_ld (hA.ev rfl) (run_loadS Try.isAgg37 (At.seg (segs := [[(.slice A0_0 slices_0_0.length c0_0)], [(.slice A0_1 slices_0_1.length c0_1)]]) (hM.box (.s .z)) 1 rfl rfl))) ?_)
      clear hA; intro a hA
      refine L1 (stv hA (by decide) (run_assign (hA.ev rfl)) ?_)
      clear hA; intro a hA
      refine LQ ?_
      refine TN ?_
      refine wp_region_lit ?_
      refine L1 (stv hA (by decide) (run_move (hA.ev rfl)) ?_)
      clear hA; intro a hA
      refine L1 (stv hA (by decide) (run_move (hA.ev rfl)) ?_)
      clear hA; intro a hA
      obtain ⟨hl189, H⟩ := ite_some H
      refine L1 (e_append elt37 hM (fun _ => .z) (Src.row Try.underlying37 (hM.ro hr0_1) (Eq.refl slices_0_1.length)) hl189 hA rfl rfl (by decide) ?_)
      clear hM hA; intro w190 A187 c188 hM hE  a hA
      refine L1 (stv hA (by decide) (run_assign (hA.ev rfl)) ?_)
      clear hA; intro a hA
      refine LQ ?_
      refine BN ?_
      refine TN ?_
      refine wp_region_lit ?_
      refine L1 (stv hA (by decide) (run_bin (hA.ev rfl) (hA.ev rfl) (bin_add _ _ _ _)) ?_)
      clear hA; intro a hA
      refine L1 (stv hA (by decide) (run_move (hA.ev rfl)) ?_)
      clear hA; intro a hA
      refine LQ ?_
      refine TN ?_; refine rounds_s ?_
      refine wp_seq ?_
      refine wp_region_lit ?_
      refine L1 (stv hA (by decide) (run_bin (hA.ev rfl) (hA.ev rfl) (bin_lss _ _ _ _)) ?_)
      clear hA; intro a hA
      refine LQ ?_
      refine TN ?_
      refine wp_seq ?_
      refine tcond_f hA rfl ?_
      refine wp_exit ?_
      refine TX ?_
      refine TX ?_
      refine BX ?_
      refine TN ?_
      refine wp_seq ?_
      refine wp_region_lit ?_
      refine L1 (stv hA (by decide) (run_move (hA.ev rfl)) ?_)
      clear hA; intro a hA
      refine L1 (stv hA (by decide) (run_assign (hA.ev rfl)) ?_)
      clear hA; intro a hA
      refine LQ ?_
      refine TN ?_
      refine wp_ret ?_
      obtain rfl := Option.some.inj H
      exact ret_post1 (fn := Try.f43) hA rfl rfl ⟨_, rfl, (.slice A187 ((xs167.length + slices_0_0.length) + slices_0_1.length) c188), rfl, (hM.sel [1, 0] rfl (by decide))⟩

def relay_sound.l0 (r_0 : Relay) : Nat → Int → Option (Out Bool (Unit))
  | 0, _ => none
  | k + 1, t459 => (if (decide (t459 < ((r_0.Routes.length : Nat) : Int))) = true then (if 0 ≤ t459 ∧ t459 < ((r_0.Routes.length : Nat) : Int) then (Option.bind (α := Bool) (if (decide ((r_0.Routes.getD t459.toNat (0 : Int)) < 0)) = true then (some true) else (if 0 ≤ t459 ∧ t459 ≤ ((r_0.Routes.length : Nat) : Int) then ((slices_Contains_int.f k (r_0.Routes.take t459.toNat) (r_0.Routes.getD t459.toNat (0 : Int))).bind fun r488 => (some r488)) else none)) (fun t482 => (if t482 = true then (some (.ret false)) else (relay_sound.l0 r_0 k (IntKind.i64.wrap (t459 + 1)))))) else none) else (some (.go ())))
def relay_sound.l1 (xs553 : (List (Vector Int 32))) (t555 : Int) : Nat → (List ((Vector Int 32) × Bool)) → Int → Option (Out Bool (Unit))
  | 0, _, _ => none
  | k + 1, mp663, t667 => (if (decide (t667 < t555)) = true then (if 0 ≤ t667 ∧ t667 < ((xs553.length : Nat) : Int) then (if ((mget mp663 (xs553.getD t667.toNat (Vector.replicate 32 0 : Vector Int 32))).getD false) = true then (some (.ret false)) else (relay_sound.l1 xs553 t555 k (mput mp663 (xs553.getD t667.toNat (Vector.replicate 32 0 : Vector Int 32)) true) (IntKind.i64.wrap (t667 + 1)))) else none) else (some (.go ())))
def relay_sound.f (k : Nat) (r_0 : Relay) : Option Bool := (Option.bind (α := Bool) (if (decide (((r_0.Routes.length : Nat) : Int) > 2)) = true then (some true) else (if (decide (((r_0.Stems.length : Nat) : Int) > 64)) = true then (some true) else (some (decide (((r_0.Fluffed.length : Nat) : Int) > 2048))))) (fun t350 => (if t350 = true then (some false) else (Option.bind (α := Out Bool (Unit)) (relay_sound.l0 r_0 k 0) (fun o => match o with | .ret r => some r | .go _ => (Option.bind (α := (List (Vector Int 32)) × Int) ((relay_stemmed.f k (Relay.mk r_0.Epoch r_0.Diffuse r_0.Routes r_0.Stems r_0.Fluffed)).bind fun r560 => ((slices_Concat_Hash.f k r560 r_0.Fluffed).bind fun r569 => (some (r569, ((r569.length : Nat) : Int))))) (fun st => match st with | (xs553, t555) => (Option.bind (α := Out Bool (Unit)) (relay_sound.l1 xs553 t555 k ([] : List ((Vector Int 32) × Bool)) 0) (fun o => match o with | .ret r => some r | .go _ => (some true))))))))))
set_option maxHeartbeats 2000000 in
set_option maxRecDepth 100000 in
theorem relay_sound.calls (k : Nat) (r_0 : Relay) (F : List (Option Nat)) (v0_2 : Value) (v0_3 : Value) (v0_4 : Value) (r : Bool) (w0 : World) (h0_2 : RoV F (Pl.int .i64) w0 v0_2 r_0.Routes) (h0_3 : RoV F pStem w0 v0_3 r_0.Stems) (h0_4 : RoV F pHash w0 v0_4 r_0.Fluffed) (hM : Mem F w0 w0 []) (H : relay_sound.f k r_0 = some r) :
    Calls Try.prog 30 #[(.agg #[(.int .u32 r_0.Epoch), (.bool r_0.Diffuse), v0_2, v0_3, v0_4])] w0 fun e w' => ∃ v, e = .returned v ∧ v = (.bool r) ∧ Mem F w0 w' [] := by
  unfold relay_sound.f at H
  obtain ⟨A0_2, c0_2, rfl, hr0_2, hc0_2⟩ := h0_2
  obtain ⟨A0_3, c0_3, rfl, hr0_3, hc0_3⟩ := h0_3
  obtain ⟨A0_4, c0_4, rfl, hr0_4, hc0_4⟩ := h0_4
  refine enterL (n := 61) [(.agg #[(.int .u32 r_0.Epoch), (.bool r_0.Diffuse), (.slice A0_2 r_0.Routes.length c0_2), (.slice A0_3 r_0.Stems.length c0_3), (.slice A0_4 r_0.Fluffed.length c0_4)])] Try.func30 rfl rfl rfl ?_
  intro a hA
  refine wp_seq ?_
  refine wp_region_lit ?_
  refine L1 (e_box (cs := [(.int .u32 r_0.Epoch), (.bool r_0.Diffuse), (.slice A0_2 r_0.Routes.length c0_2), (.slice A0_3 r_0.Stems.length c0_3), (.slice A0_4 r_0.Fluffed.length c0_4)]) hM hA rfl rfl (by decide) ?_)
  clear hM hA; intro w344 g343 hM hE  a hA
  refine L1 (stv hA (by decide) (run_assign (hA.ev rfl)) ?_)
  clear hA; intro a hA
  refine LQ ?_
  refine TN ?_
  refine wp_seq ?_
  refine wp_seq ?_
  obtain ⟨o352, H351, H⟩ := Option.bind_eq_some_iff.1 H
  refine cutC (fun a w => ∃ (t350 : Bool), t350 = o352 ∧ Mem F w0 w [.box g343 39 [(.int .u32 r_0.Epoch), (.bool r_0.Diffuse), (.slice A0_2 r_0.Routes.length c0_2), (.slice A0_3 r_0.Stems.length c0_3), (.slice A0_4 r_0.Fluffed.length c0_4)]] ∧ Has 61 [(1, (.pointer (some (⟨g343, 0, none⟩)))), (23, (.bool t350))] a) ?_ ?_
  · refine wp_region_lit ?_
    refine L1 (stv hA (by decide) (run_field' Try.underlying39 rfl rfl Try.sizeOf22 (by decide) (hA.ev rfl)) ?_)
    clear hA; intro a hA
    refine L1 (stv hA (by decide) (run_ld (hA.ev rfl) (run_loadS Try.isAgg22 (At.seg1 (hM.box .z) 2 rfl))) ?_)
    clear hA; intro a hA
    refine L1 (stv hA (by decide) (run_len_slice Try.underlying22 (hA.ev rfl)) ?_)
    clear hA; intro a hA
    refine L1 (stv hA (by decide) (run_bin (hA.ev rfl) (hA.ev rfl) (bin_gtr _ _ _ _)) ?_)
    clear hA; intro a hA
    refine L1 (stv hA (by decide) (run_move (hA.ev rfl)) ?_)
    clear hA; intro a hA
    refine bsplit (b := (decide (((r_0.Routes.length : Nat) : Int) > 2))) (fun hb353 => ?_) (fun hb353 => ?_)
    · replace H351 := ite_t hb353 H351
      have hA := hA.re (t := 12) rfl (congrArg Value.bool hb353)
      refine L1 (gate_off rfl (by decide) rfl hA (by decide) rfl rfl ?_); clear hA; intro a hA
      refine L1 (gate_off rfl (by decide) rfl hA (by decide) rfl rfl ?_); clear hA; intro a hA
      refine L1 (gate_off rfl (by decide) rfl hA (by decide) rfl rfl ?_); clear hA; intro a hA
      refine L1 (gate_off rfl (by decide) rfl hA (by decide) rfl rfl ?_); clear hA; intro a hA
      refine L1 (stv hA (by decide) (run_pick (hA.ev rfl) (fun _ => hA.ev rfl) (fun h => Bool.noConfusion h)) ?_)
      clear hA; intro a hA
      refine L1 (stv hA (by decide) (run_move (hA.ev rfl)) ?_)
      clear hA; intro a hA
      refine L1 (gate_off rfl (by decide) rfl hA (by decide) rfl rfl ?_); clear hA; intro a hA
      refine L1 (gate_off rfl (by decide) rfl hA (by decide) rfl rfl ?_); clear hA; intro a hA
      refine L1 (gate_off rfl (by decide) rfl hA (by decide) rfl rfl ?_); clear hA; intro a hA
      refine L1 (gate_off rfl (by decide) rfl hA (by decide) rfl rfl ?_); clear hA; intro a hA
      refine L1 (stv hA (by decide) (run_pick (hA.ev rfl) (fun _ => hA.ev rfl) (fun h => Bool.noConfusion h)) ?_)
      clear hA; intro a hA
      refine LQ ?_
      exact ⟨true, Option.some.inj H351, hM, ((hA.nil.cons (hA.get 23 _ rfl)).cons (hA.get 1 _ rfl))⟩
    · replace H351 := ite_f hb353 H351
      have hA := hA.re (t := 12) rfl (congrArg Value.bool hb353)
      refine L1 (gate_on rfl rfl hA (by decide) rfl (stv hA (by decide) (run_field' Try.underlying39 rfl rfl Try.sizeOf36 (by decide) (hA.ev rfl)) ?_))
      clear hA; intro a hA
      refine L1 (gate_on rfl rfl hA (by decide) rfl (stv hA (by decide) (run_ld (hA.ev rfl) (run_loadS Try.isAgg36 (At.seg1 (hM.box .z) 3 rfl))) ?_))
      clear hA; intro a hA
      refine L1 (gate_on rfl rfl hA (by decide) rfl (stv hA (by decide) (run_len_slice Try.underlying36 (hA.ev rfl)) ?_))
      clear hA; intro a hA
      refine L1 (gate_on rfl rfl hA (by decide) rfl (stv hA (by decide) (run_bin (hA.ev rfl) (hA.ev rfl) (bin_gtr _ _ _ _)) ?_))
      clear hA; intro a hA
      refine L1 (stv hA (by decide) (run_pick (hA.ev rfl) (fun h => Bool.noConfusion h) (fun _ => hA.ev rfl)) ?_)
      clear hA; intro a hA
      refine L1 (stv hA (by decide) (run_move (hA.ev rfl)) ?_)
      clear hA; intro a hA
      refine bsplit (b := (decide (((r_0.Stems.length : Nat) : Int) > 64))) (fun hb354 => ?_) (fun hb354 => ?_)
      · replace H351 := ite_t hb354 H351
        have hA := hA.re (t := 18) rfl (congrArg Value.bool hb354)
        refine L1 (gate_off rfl (by decide) rfl hA (by decide) rfl rfl ?_); clear hA; intro a hA
        refine L1 (gate_off rfl (by decide) rfl hA (by decide) rfl rfl ?_); clear hA; intro a hA
        refine L1 (gate_off rfl (by decide) rfl hA (by decide) rfl rfl ?_); clear hA; intro a hA
        refine L1 (gate_off rfl (by decide) rfl hA (by decide) rfl rfl ?_); clear hA; intro a hA
        refine L1 (stv hA (by decide) (run_pick (hA.ev rfl) (fun _ => hA.ev rfl) (fun h => Bool.noConfusion h)) ?_)
        clear hA; intro a hA
        refine LQ ?_
        exact ⟨true, Option.some.inj H351, hM, ((hA.nil.cons (hA.get 23 _ rfl)).cons (hA.get 1 _ rfl))⟩
      · replace H351 := ite_f hb354 H351
        have hA := hA.re (t := 18) rfl (congrArg Value.bool hb354)
        refine L1 (gate_on rfl rfl hA (by decide) rfl (stv hA (by decide) (run_field' Try.underlying39 rfl rfl Try.sizeOf37 (by decide) (hA.ev rfl)) ?_))
        clear hA; intro a hA
        refine L1 (gate_on rfl rfl hA (by decide) rfl (stv hA (by decide) (run_ld (hA.ev rfl) (run_loadS Try.isAgg37 (At.seg1 (hM.box .z) 4 rfl))) ?_))
        clear hA; intro a hA
        refine L1 (gate_on rfl rfl hA (by decide) rfl (stv hA (by decide) (run_len_slice Try.underlying37 (hA.ev rfl)) ?_))
        clear hA; intro a hA
        refine L1 (gate_on rfl rfl hA (by decide) rfl (stv hA (by decide) (run_bin (hA.ev rfl) (hA.ev rfl) (bin_gtr _ _ _ _)) ?_))
        clear hA; intro a hA
        refine L1 (stv hA (by decide) (run_pick (hA.ev rfl) (fun h => Bool.noConfusion h) (fun _ => hA.ev rfl)) ?_)
        clear hA; intro a hA
        refine LQ ?_
        exact ⟨(decide (((r_0.Fluffed.length : Nat) : Int) > 2048)), Option.some.inj H351, hM, ((hA.nil.cons (hA.get 23 _ rfl)).cons (hA.get 1 _ rfl))⟩
  clear hM hA
  rintro a w355 ⟨t350, rfl, hM, hA⟩
  try dsimp only at H
  refine TN ?_
  refine tcond (b := t350) hA rfl (fun hb356 => ?_) (fun hb356 => ?_)
  · replace H := ite_t hb356 H
    refine wp_seq ?_
    refine wp_region_lit ?_
    refine L1 (stv hA (by decide) (run_assign (hA.ev rfl)) ?_)
    clear hA; intro a hA
    refine LQ ?_
    refine TN ?_
    refine wp_ret ?_
    obtain rfl := Option.some.inj H
    refine TR ?_
    exact ret_post1 (fn := Try.f30) hA rfl rfl ⟨_, rfl, rfl, (hM.sel [] rfl (by decide))⟩
  · replace H := ite_f hb356 H
    refine wp_skip ?_
    refine TN ?_
    refine wp_seq ?_
    refine wp_seq ?_
    refine wp_region_lit ?_
    refine L1 (stv hA (by decide) (run_field' Try.underlying39 rfl rfl Try.sizeOf22 (by decide) (hA.ev rfl)) ?_)
    clear hA; intro a hA
    refine L1 (stv hA (by decide) (run_ld (hA.ev rfl) (run_loadS Try.isAgg22 (At.seg1 (hM.box .z) 2 rfl))) ?_)
    clear hA; intro a hA
    refine L1 (stv hA (by decide) (run_len_slice Try.underlying22 (hA.ev rfl)) ?_)
    clear hA; intro a hA
    refine L1 (stv hA (by decide) (run_move (hA.ev rfl)) ?_)
    clear hA; intro a hA
    refine LQ ?_
    refine TN ?_
    obtain ⟨o462, H461, H⟩ := Option.bind_eq_some_iff.1 H
    refine cutC (fun a w => (.go ()) = o462 ∧ Mem F w0 w [.box g343 39 [(.int .u32 r_0.Epoch), (.bool r_0.Diffuse), (.slice A0_2 r_0.Routes.length c0_2), (.slice A0_3 r_0.Stems.length c0_3), (.slice A0_4 r_0.Fluffed.length c0_4)]] ∧ Has 61 [(1, (.pointer (some (⟨g343, 0, none⟩))))] a) ?_ ?_
    · refine wp_block ?_
      refine wp_loop_ghost (fun m a w => ∃ (t459 : Int), relay_sound.l0 r_0 m t459 = some o462 ∧ Mem F w0 w [.box g343 39 [(.int .u32 r_0.Epoch), (.bool r_0.Diffuse), (.slice A0_2 r_0.Routes.length c0_2), (.slice A0_3 r_0.Stems.length c0_3), (.slice A0_4 r_0.Fluffed.length c0_4)]] ∧ Has 61 [(1, (.pointer (some (⟨g343, 0, none⟩)))), (25, (.slice A0_2 r_0.Routes.length c0_2)), (26, (.int .i64 ((r_0.Routes.length : Nat) : Int))), (27, (.int .i64 t459))] a) k ⟨0, H461, hM, ((((hA.nil.cons (hA.get 27 _ rfl)).cons (hA.get 26 _ rfl)).cons (hA.get 25 _ rfl)).cons (hA.get 1 _ rfl))⟩ ?_
      clear hM hA; rintro m463 a w464 ⟨t459, H461, hM, hA⟩
      cases m463 with
      | zero => exact absurd H461 (by simp [relay_sound.l0])
      | succ m463 =>
      rw [relay_sound.l0] at H461
      refine wp_seq ?_
      refine wp_region_lit ?_
      refine L1 (stv hA (by decide) (run_bin (hA.ev rfl) (hA.ev rfl) (bin_lss _ _ _ _)) ?_)
      clear hA; intro a hA
      refine LQ ?_
      refine TN ?_
      refine wp_seq ?_
      refine tcond (b := (decide (t459 < ((r_0.Routes.length : Nat) : Int)))) hA rfl (fun hb465 => ?_) (fun hb465 => ?_)
      · replace H461 := ite_t hb465 H461
        refine wp_skip ?_
        refine TN ?_
        refine wp_seq ?_
        refine wp_block ?_
        refine wp_seq ?_
        refine wp_region_lit ?_
        refine L1 (stv hA (by decide) (run_move (hA.ev rfl)) ?_)
        clear hA; intro a hA
        obtain ⟨⟨hi466, hj467⟩, H461⟩ := ite_some H461
        obtain ⟨ad468, hq469, hat470⟩ := Row.elem' (p := (Pl.int .i64)) (hM.ro hr0_2) (Eq.refl r_0.Routes.length) (0 : Int) t459 hi466 hj467
        refine L1 (stv hA (by decide) (run_idx Try.underlying22 Try.sizeOf3 (hA.ev rfl) hq469 (hA.ev rfl) hi466 hj467) ?_)
        clear hA; intro a hA
        refine L1 (stv hA (by decide) (run_ld (hA.ev rfl) (run_loadS Try.isAgg3 hat470)) ?_)
        clear hA; intro a hA
        refine L1 (stv hA (by decide) (run_assign (hA.ev rfl)) ?_)
        clear hA; intro a hA
        refine L1 (stv hA (by decide) (run_assign (hA.ev rfl)) ?_)
        clear hA; intro a hA
        refine LQ ?_
        refine TN ?_
        refine wp_seq ?_
        obtain ⟨o484, H483, H461⟩ := Option.bind_eq_some_iff.1 H461
        refine cutC (fun a w => ∃ (t482 : Bool), t482 = o484 ∧ Mem F w0 w [.box g343 39 [(.int .u32 r_0.Epoch), (.bool r_0.Diffuse), (.slice A0_2 r_0.Routes.length c0_2), (.slice A0_3 r_0.Stems.length c0_3), (.slice A0_4 r_0.Fluffed.length c0_4)]] ∧ Has 61 [(1, (.pointer (some (⟨g343, 0, none⟩)))), (25, (.slice A0_2 r_0.Routes.length c0_2)), (26, (.int .i64 ((r_0.Routes.length : Nat) : Int))), (27, (.int .i64 t459)), (41, (.bool t482))] a) ?_ ?_
        · refine wp_region_lit ?_
          refine L1 (stv hA (by decide) (run_move (hA.ev rfl)) ?_)
          clear hA; intro a hA
          refine L1 (stv hA (by decide) (run_bin (hA.ev rfl) (hA.ev rfl) (bin_lss _ _ _ _)) ?_)
          clear hA; intro a hA
          refine L1 (stv hA (by decide) (run_move (hA.ev rfl)) ?_)
          clear hA; intro a hA
          refine bsplit (b := (decide ((r_0.Routes.getD t459.toNat (0 : Int)) < 0))) (fun hb485 => ?_) (fun hb485 => ?_)
          · replace H483 := ite_t hb485 H483
            have hA := hA.re (t := 34) rfl (congrArg Value.bool hb485)
            refine L1 (gate_off rfl (by decide) rfl hA (by decide) rfl rfl ?_); clear hA; intro a hA
            refine L1 (gate_off rfl (by decide) rfl hA (by decide) rfl rfl ?_); clear hA; intro a hA
            refine L1 (gate_off rfl (by decide) rfl hA (by decide) rfl rfl ?_); clear hA; intro a hA
            refine L1 (gate_off rfl (by decide) rfl hA (by decide) rfl rfl ?_); clear hA; intro a hA
            refine L1 (gate_off rfl (by decide) rfl hA (by decide) rfl rfl ?_); clear hA; intro a hA
            refine L1 (gate_off rfl (by decide) rfl hA (by decide) rfl rfl ?_); clear hA; intro a hA
            refine L1 (stv hA (by decide) (run_pick (hA.ev rfl) (fun _ => hA.ev rfl) (fun h => Bool.noConfusion h)) ?_)
            clear hA; intro a hA
            refine LQ ?_
            exact ⟨true, Option.some.inj H483, hM, (((((hA.nil.cons (hA.get 41 _ rfl)).cons (hA.get 27 _ rfl)).cons (hA.get 26 _ rfl)).cons (hA.get 25 _ rfl)).cons (hA.get 1 _ rfl))⟩
          · replace H483 := ite_f hb485 H483
            have hA := hA.re (t := 34) rfl (congrArg Value.bool hb485)
            refine L1 (gate_on rfl rfl hA (by decide) rfl (stv hA (by decide) (run_field' Try.underlying39 rfl rfl Try.sizeOf22 (by decide) (hA.ev rfl)) ?_))
            clear hA; intro a hA
            refine L1 (gate_on rfl rfl hA (by decide) rfl (stv hA (by decide) (run_ld (hA.ev rfl) (run_loadS Try.isAgg22 (At.seg1 (hM.box .z) 2 rfl))) ?_))
            clear hA; intro a hA
            refine L1 (gate_on rfl rfl hA (by decide) rfl (stv hA (by decide) (run_move (hA.ev rfl)) ?_))
            clear hA; intro a hA
            obtain ⟨⟨hi486, hj487⟩, H483⟩ := ite_some H483
            refine L1 (gate_on rfl rfl hA (by decide) rfl (stv hA (by decide) (run_hi Try.underlying22 Try.sizeOf3 hc0_2 hi486 hj487 (hA.ev rfl) (hA.ev rfl)) ?_))
            clear hA; intro a hA
            refine L1 (gate_on rfl rfl hA (by decide) rfl (stv hA (by decide) (run_move (hA.ev rfl)) ?_))
            clear hA; intro a hA
            obtain ⟨r488, H489, H483⟩ := Option.bind_eq_some_iff.1 H483
            refine L1 (gate_on rfl rfl hA (by decide) rfl (st_call Try.call28 hA [(.slice A0_2 t459.toNat c0_2), (.int .i64 (r_0.Routes.getD t459.toNat (0 : Int)))] rfl (by decide) (slices_Contains_int.calls _ _ _ _ _ _ _ ((RoV.mk (Ro.take (hM.roC (Ms := []) hr0_2) t459.toNat) (len_take (Eq.refl r_0.Routes.length) (by omega)) (by have hh1 := hc0_2; omega))) (hM.front (Ms := [])) H489) ?_))
            clear hA; rintro _ w490 ⟨rfl, hMc⟩ a hA
            have hE := hMc.below; have hM := hM.call (Ms := []) hMc
            clear hMc; simp only [List.cons_append, List.nil_append] at hM
            refine L1 (stv hA (by decide) (run_pick (hA.ev rfl) (fun h => Bool.noConfusion h) (fun _ => hA.ev rfl)) ?_)
            clear hA; intro a hA
            refine LQ ?_
            exact ⟨r488, Option.some.inj H483, hM, (((((hA.nil.cons (hA.get 41 _ rfl)).cons (hA.get 27 _ rfl)).cons (hA.get 26 _ rfl)).cons (hA.get 25 _ rfl)).cons (hA.get 1 _ rfl))⟩
        clear hM hA
        rintro a w491 ⟨t482, rfl, hM, hA⟩
        try dsimp only at H461
        refine TN ?_
        refine tcond (b := t482) hA rfl (fun hb492 => ?_) (fun hb492 => ?_)
        · replace H461 := ite_t hb492 H461
          refine wp_seq ?_
          refine wp_region_lit ?_
          refine L1 (stv hA (by decide) (run_assign (hA.ev rfl)) ?_)
          clear hA; intro a hA
          refine LQ ?_
          refine TN ?_
          refine wp_ret ?_
          obtain rfl := Option.some.inj H461
          dsimp only at H
          obtain rfl := Option.some.inj H
          refine BR ?_
          refine TR ?_
          refine TR ?_
          refine BR ?_
          refine TR ?_
          refine TR ?_
          exact ret_post1 (fn := Try.f30) hA rfl rfl ⟨_, rfl, rfl, (hM.sel [] rfl (by decide))⟩
        · replace H461 := ite_f hb492 H461
          refine wp_skip ?_
          refine BN ?_
          refine TN ?_
          refine wp_region_lit ?_
          refine L1 (stv hA (by decide) (run_bin (hA.ev rfl) (hA.ev rfl) (bin_add _ _ _ _)) ?_)
          clear hA; intro a hA
          refine L1 (stv hA (by decide) (run_move (hA.ev rfl)) ?_)
          clear hA; intro a hA
          refine LQ ?_
          exact ⟨_, Nat.lt_succ_self m463, IntKind.i64.wrap (t459 + 1), H461, hM, ((((hA.nil.cons (hA.get 27 _ rfl)).cons (hA.get 26 _ rfl)).cons (hA.get 25 _ rfl)).cons (hA.get 1 _ rfl))⟩
      · replace H461 := ite_f hb465 H461
        refine wp_exit ?_
        refine TX ?_
        refine TX ?_
        refine BX ?_
        exact ⟨Option.some.inj H461, hM, (hA.nil.cons (hA.get 1 _ rfl))⟩
    clear hM hA
    rintro a w493 ⟨rfl, hM, hA⟩
    try dsimp only at H
    refine TN ?_
    refine wp_seq ?_
    refine wp_region_lit ?_
    refine L1 (e_makeMap (m := ([] : List ((Vector Int 32) × Bool))) (ek := (fun x => (.agg (pHash.enc x).toArray))) (ev' := (fun x => (.bool x))) rfl hM hA (by decide) ?_)
    clear hM hA; intro w495 g494 hM hE  a hA
    refine L1 (stv hA (by decide) (run_assign (hA.ev rfl)) ?_)
    clear hA; intro a hA
    refine LQ ?_
    refine TN ?_
    refine wp_seq ?_
    refine wp_seq ?_
    obtain ⟨o558, H557, H⟩ := Option.bind_eq_some_iff.1 H
    refine cutC (fun a w => ∃ (xs553 : (List (Vector Int 32))) (t555 : Int) (v550 : Value), (xs553, t555) = o558 ∧ Mem F w0 w [.map g494 (mapE (fun x => (.agg (pHash.enc x).toArray)) (fun x => (.bool x)) ([] : List ((Vector Int 32) × Bool))), .row 34 pHash.sz v550 (pHash.flat xs553)] ∧ Has 61 [(5, (.map (some g494))), (49, v550), (50, (.int .i64 t555)), (51, (.int .i64 0))] a) ?_ ?_
    · obtain ⟨r560, H561, H557⟩ := Option.bind_eq_some_iff.1 H557
      obtain ⟨r569, H570, H557⟩ := Option.bind_eq_some_iff.1 H557
      refine draw (fun w' => Below w495.heap.size w495 w') [5] rfl ?_
      intro w575 hw hS; replace hM := hM.ext hS; clear hw
      refine d_takef (i := 2) (L' := #[false, false, true, false, false, false, false, false]) rfl (by kernel_rfl) rfl (fun _ _ _ h => h) hA (by decide) (fun _ => hS) (fun a w' hA => run_field' Try.underlying39 rfl rfl Try.sizeOf37 (by decide) (hA.ev rfl)) ?_; clear hA; intro a hA
      refine d_takef (i := 7) (L' := #[false, false, true, false, false, false, false, true]) rfl (by kernel_rfl) rfl (fun _ _ _ h => h) hA (by decide) (fun _ => hS) (fun a w' hA => run_move (hA.ev rfl)) ?_; clear hA; intro a hA
      refine d_many (is := [0, 3]) (by kernel_rfl) (by decide) ⟨?_, ?_, trivial⟩
      · refine d_op (i := 0) (L' := #[true, false, true, false, false, false, false, true]) rfl rfl (stv hA (by decide) (run_ld (hA.ev rfl) (run_loadW Try.isAgg39 Try.sizeOf39 (by simp [Pl.len]; try rfl) (hM.box (.s .z)))) ?_)
        clear hA; intro a hA
        refine ⟨fun _ => hS, ?_⟩
        refine d_many (is := [1, 3]) (by kernel_rfl) (by decide) ⟨?_, ?_, trivial⟩
        · refine d_op (i := 1) (L' := #[true, true, true, false, false, false, false, true]) rfl rfl (st_call Try.call39 hA [(.agg #[(.int .u32 r_0.Epoch), (.bool r_0.Diffuse), (.slice A0_2 r_0.Routes.length c0_2), (.slice A0_3 r_0.Stems.length c0_3), (.slice A0_4 r_0.Fluffed.length c0_4)])] rfl (by decide) (relay_stemmed.calls _ (Relay.mk r_0.Epoch r_0.Diffuse r_0.Routes r_0.Stems r_0.Fluffed) _ _ _ _ _ _ ((RoV.mk (hM.roC (Ms := []) hr0_2) (Eq.refl r_0.Routes.length) hc0_2)) ((RoV.mk (hM.roC (Ms := []) hr0_3) (Eq.refl r_0.Stems.length) hc0_3)) ((RoV.mk (hM.roC (Ms := []) hr0_4) (Eq.refl r_0.Fluffed.length) hc0_4)) (hM.front (Ms := [])) H561) ?_)
          clear hA; rintro _ w576 ⟨v577, rfl, hMc⟩ a hA
          have hE := hMc.below; have hM := hM.call (Ms := []) hMc
          have hlw578 : ∀ k, _ → w495.heap.size ≤ k := fun k hk => Nat.le_trans hS.size ((hMc.low _ (List.Mem.head _) k hk).resolve_right (by simp))
          clear hMc; simp only [List.cons_append, List.nil_append] at hM
          obtain ⟨A579, c580, rfl⟩ := RowOk.form (hM.row (p := pHash) .z)
          replace hS := hS.trans (hE.mono hS.size)
          refine ⟨fun _ => hS, ?_⟩
          refine d_one (i := 3) (L' := #[true, true, true, true, false, false, false, true]) (by kernel_rfl) rfl rfl (stv hA (by decide) (run_ld (hA.ev rfl) (run_loadS Try.isAgg37 (At.seg1 (hM.box (.s (.s .z))) 4 rfl))) ?_)
          clear hA; intro a hA
          refine ⟨fun _ => hS, ?_⟩
          refine d_one (i := 4) (L' := #[true, true, true, true, true, false, false, true]) (by kernel_rfl) rfl rfl (e_litW (cs := (List.flatten [[(.slice A579 r560.length c580)], [(.slice A0_4 r_0.Fluffed.length c0_4)]])) [(.slice A579 r560.length c580), (.slice A0_4 r_0.Fluffed.length c0_4)] Try.underlying80 zero37 Try.sizeOf37 hM rfl rfl rfl hA rfl (by simp [Value.cells, Pl.len]) (by simp [Value.cells]) (by decide) ?_)
          clear hM hA; intro w582 g581 hM hE  a hA
          replace hS := hS.trans (hE.mono hS.size)
          refine ⟨fun _ => hS, ?_⟩
          refine d_one (i := 5) (L' := #[true, true, true, true, true, true, false, true]) (by kernel_rfl) rfl rfl (st_call Try.call43 hA [(.slice (some ⟨g581, 0, none⟩) 2 2)] rfl (by decide) (slices_Concat_Hash.calls _ _ _ _ _ _ _ _ _ ((hM.roV (p := pHash) (Ms := [_]) .z)) ((RoV.mk (hM.roC (Ms := [_]) hr0_4) (Eq.refl r_0.Fluffed.length) hc0_4)) (hM.front (Ms := [_])) H570) ?_)
          clear hA; rintro _ w583 ⟨v584, rfl, hMc⟩ a hA
          have hM := hM.call (Ms := [_]) hMc
          clear hMc; simp only [List.cons_append, List.nil_append] at hM
          obtain ⟨A585, c586, rfl⟩ := RowOk.form (hM.row (p := pHash) (.s .z))
          refine ⟨fun h => absurd h (by decide), ?_⟩
          refine d_takef (i := 6) (L' := #[true, true, true, true, true, true, true, true]) rfl (by kernel_rfl) rfl (fun _ _ _ h => h) hA (by decide) (fun h => absurd h (by decide)) (fun a w' hA => run_len_slice Try.underlying37 (hA.ev rfl)) ?_; clear hA; intro a hA
          refine d_done (by kernel_rfl) ?_
          exact ⟨r569, ((r569.length : Nat) : Int), (.slice A585 r569.length c586), Option.some.inj H557, (hM.sel [3, 1] rfl (by decide)), ((((hA.nil.cons (hA.get 51 _ rfl)).cons (hA.get 50 _ rfl)).cons (hA.get 49 _ rfl)).cons (hA.get 5 _ rfl))⟩
        · refine d_op (i := 3) (L' := #[true, false, true, true, false, false, false, true]) rfl rfl (stv hA (by decide) (run_ld (hA.ev rfl) (run_loadS Try.isAgg37 (At.seg1 (hM.box (.s .z)) 4 rfl))) ?_)
          clear hA; intro a hA
          refine ⟨fun _ => hS, ?_⟩
          refine d_one (i := 1) (L' := #[true, true, true, true, false, false, false, true]) (by kernel_rfl) rfl rfl (st_call Try.call39 hA [(.agg #[(.int .u32 r_0.Epoch), (.bool r_0.Diffuse), (.slice A0_2 r_0.Routes.length c0_2), (.slice A0_3 r_0.Stems.length c0_3), (.slice A0_4 r_0.Fluffed.length c0_4)])] rfl (by decide) (relay_stemmed.calls _ (Relay.mk r_0.Epoch r_0.Diffuse r_0.Routes r_0.Stems r_0.Fluffed) _ _ _ _ _ _ ((RoV.mk (hM.roC (Ms := []) hr0_2) (Eq.refl r_0.Routes.length) hc0_2)) ((RoV.mk (hM.roC (Ms := []) hr0_3) (Eq.refl r_0.Stems.length) hc0_3)) ((RoV.mk (hM.roC (Ms := []) hr0_4) (Eq.refl r_0.Fluffed.length) hc0_4)) (hM.front (Ms := [])) H561) ?_)
          clear hA; rintro _ w587 ⟨v588, rfl, hMc⟩ a hA
          have hE := hMc.below; have hM := hM.call (Ms := []) hMc
          have hlw589 : ∀ k, _ → w495.heap.size ≤ k := fun k hk => Nat.le_trans hS.size ((hMc.low _ (List.Mem.head _) k hk).resolve_right (by simp))
          clear hMc; simp only [List.cons_append, List.nil_append] at hM
          obtain ⟨A590, c591, rfl⟩ := RowOk.form (hM.row (p := pHash) .z)
          replace hS := hS.trans (hE.mono hS.size)
          refine ⟨fun _ => hS, ?_⟩
          refine d_one (i := 4) (L' := #[true, true, true, true, true, false, false, true]) (by kernel_rfl) rfl rfl (e_litW (cs := (List.flatten [[(.slice A590 r560.length c591)], [(.slice A0_4 r_0.Fluffed.length c0_4)]])) [(.slice A590 r560.length c591), (.slice A0_4 r_0.Fluffed.length c0_4)] Try.underlying80 zero37 Try.sizeOf37 hM rfl rfl rfl hA rfl (by simp [Value.cells, Pl.len]) (by simp [Value.cells]) (by decide) ?_)
          clear hM hA; intro w593 g592 hM hE  a hA
          replace hS := hS.trans (hE.mono hS.size)
          refine ⟨fun _ => hS, ?_⟩
          refine d_one (i := 5) (L' := #[true, true, true, true, true, true, false, true]) (by kernel_rfl) rfl rfl (st_call Try.call43 hA [(.slice (some ⟨g592, 0, none⟩) 2 2)] rfl (by decide) (slices_Concat_Hash.calls _ _ _ _ _ _ _ _ _ ((hM.roV (p := pHash) (Ms := [_]) .z)) ((RoV.mk (hM.roC (Ms := [_]) hr0_4) (Eq.refl r_0.Fluffed.length) hc0_4)) (hM.front (Ms := [_])) H570) ?_)
          clear hA; rintro _ w594 ⟨v595, rfl, hMc⟩ a hA
          have hM := hM.call (Ms := [_]) hMc
          clear hMc; simp only [List.cons_append, List.nil_append] at hM
          obtain ⟨A596, c597, rfl⟩ := RowOk.form (hM.row (p := pHash) (.s .z))
          refine ⟨fun h => absurd h (by decide), ?_⟩
          refine d_takef (i := 6) (L' := #[true, true, true, true, true, true, true, true]) rfl (by kernel_rfl) rfl (fun _ _ _ h => h) hA (by decide) (fun h => absurd h (by decide)) (fun a w' hA => run_len_slice Try.underlying37 (hA.ev rfl)) ?_; clear hA; intro a hA
          refine d_done (by kernel_rfl) ?_
          exact ⟨r569, ((r569.length : Nat) : Int), (.slice A596 r569.length c597), Option.some.inj H557, (hM.sel [3, 1] rfl (by decide)), ((((hA.nil.cons (hA.get 51 _ rfl)).cons (hA.get 50 _ rfl)).cons (hA.get 49 _ rfl)).cons (hA.get 5 _ rfl))⟩
      · refine d_op (i := 3) (L' := #[false, false, true, true, false, false, false, true]) rfl rfl (stv hA (by decide) (run_ld (hA.ev rfl) (run_loadS Try.isAgg37 (At.seg1 (hM.box (.s .z)) 4 rfl))) ?_)
        clear hA; intro a hA
        refine ⟨fun _ => hS, ?_⟩
        refine d_one (i := 0) (L' := #[true, false, true, true, false, false, false, true]) (by kernel_rfl) rfl rfl (stv hA (by decide) (run_ld (hA.ev rfl) (run_loadW Try.isAgg39 Try.sizeOf39 (by simp [Pl.len]; try rfl) (hM.box (.s .z)))) ?_)
        clear hA; intro a hA
        refine ⟨fun _ => hS, ?_⟩
        refine d_one (i := 1) (L' := #[true, true, true, true, false, false, false, true]) (by kernel_rfl) rfl rfl (st_call Try.call39 hA [(.agg #[(.int .u32 r_0.Epoch), (.bool r_0.Diffuse), (.slice A0_2 r_0.Routes.length c0_2), (.slice A0_3 r_0.Stems.length c0_3), (.slice A0_4 r_0.Fluffed.length c0_4)])] rfl (by decide) (relay_stemmed.calls _ (Relay.mk r_0.Epoch r_0.Diffuse r_0.Routes r_0.Stems r_0.Fluffed) _ _ _ _ _ _ ((RoV.mk (hM.roC (Ms := []) hr0_2) (Eq.refl r_0.Routes.length) hc0_2)) ((RoV.mk (hM.roC (Ms := []) hr0_3) (Eq.refl r_0.Stems.length) hc0_3)) ((RoV.mk (hM.roC (Ms := []) hr0_4) (Eq.refl r_0.Fluffed.length) hc0_4)) (hM.front (Ms := [])) H561) ?_)
        clear hA; rintro _ w598 ⟨v599, rfl, hMc⟩ a hA
        have hE := hMc.below; have hM := hM.call (Ms := []) hMc
        have hlw600 : ∀ k, _ → w495.heap.size ≤ k := fun k hk => Nat.le_trans hS.size ((hMc.low _ (List.Mem.head _) k hk).resolve_right (by simp))
        clear hMc; simp only [List.cons_append, List.nil_append] at hM
        obtain ⟨A601, c602, rfl⟩ := RowOk.form (hM.row (p := pHash) .z)
        replace hS := hS.trans (hE.mono hS.size)
        refine ⟨fun _ => hS, ?_⟩
        refine d_one (i := 4) (L' := #[true, true, true, true, true, false, false, true]) (by kernel_rfl) rfl rfl (e_litW (cs := (List.flatten [[(.slice A601 r560.length c602)], [(.slice A0_4 r_0.Fluffed.length c0_4)]])) [(.slice A601 r560.length c602), (.slice A0_4 r_0.Fluffed.length c0_4)] Try.underlying80 zero37 Try.sizeOf37 hM rfl rfl rfl hA rfl (by simp [Value.cells, Pl.len]) (by simp [Value.cells]) (by decide) ?_)
        clear hM hA; intro w604 g603 hM hE  a hA
        replace hS := hS.trans (hE.mono hS.size)
        refine ⟨fun _ => hS, ?_⟩
        refine d_one (i := 5) (L' := #[true, true, true, true, true, true, false, true]) (by kernel_rfl) rfl rfl (st_call Try.call43 hA [(.slice (some ⟨g603, 0, none⟩) 2 2)] rfl (by decide) (slices_Concat_Hash.calls _ _ _ _ _ _ _ _ _ ((hM.roV (p := pHash) (Ms := [_]) .z)) ((RoV.mk (hM.roC (Ms := [_]) hr0_4) (Eq.refl r_0.Fluffed.length) hc0_4)) (hM.front (Ms := [_])) H570) ?_)
        clear hA; rintro _ w605 ⟨v606, rfl, hMc⟩ a hA
        have hM := hM.call (Ms := [_]) hMc
        clear hMc; simp only [List.cons_append, List.nil_append] at hM
        obtain ⟨A607, c608, rfl⟩ := RowOk.form (hM.row (p := pHash) (.s .z))
        refine ⟨fun h => absurd h (by decide), ?_⟩
        refine d_takef (i := 6) (L' := #[true, true, true, true, true, true, true, true]) rfl (by kernel_rfl) rfl (fun _ _ _ h => h) hA (by decide) (fun h => absurd h (by decide)) (fun a w' hA => run_len_slice Try.underlying37 (hA.ev rfl)) ?_; clear hA; intro a hA
        refine d_done (by kernel_rfl) ?_
        exact ⟨r569, ((r569.length : Nat) : Int), (.slice A607 r569.length c608), Option.some.inj H557, (hM.sel [3, 1] rfl (by decide)), ((((hA.nil.cons (hA.get 51 _ rfl)).cons (hA.get 50 _ rfl)).cons (hA.get 49 _ rfl)).cons (hA.get 5 _ rfl))⟩
    clear hM hA
    rintro a w609 ⟨xs553, t555, v550, rfl, hM, hA⟩
    try dsimp only at H
    obtain ⟨A551, c552, rfl⟩ := RowOk.form (hM.row (p := pHash) (.s .z))
    refine TN ?_
    obtain ⟨o669, H668, H⟩ := Option.bind_eq_some_iff.1 H
    refine cutC (fun a w => (.go ()) = o669 ∧ Mem F w0 w [] ∧ Has 61 [] a) ?_ ?_
    · refine wp_block ?_
      refine wp_loop_ghost (fun m a w => ∃ (mp663 : (List ((Vector Int 32) × Bool))) (t667 : Int), relay_sound.l1 xs553 t555 m mp663 t667 = some o669 ∧ Mem F w0 w [.map g494 (mapE (fun x => (.agg (pHash.enc x).toArray)) (fun x => (.bool x)) mp663), .row 34 pHash.sz (.slice A551 xs553.length c552) (pHash.flat xs553)] ∧ Has 61 [(5, (.map (some g494))), (49, (.slice A551 xs553.length c552)), (50, (.int .i64 t555)), (51, (.int .i64 t667))] a) k ⟨([] : List ((Vector Int 32) × Bool)), 0, H668, hM, ((((hA.nil.cons (hA.get 51 _ rfl)).cons (hA.get 50 _ rfl)).cons (hA.get 49 _ rfl)).cons (hA.get 5 _ rfl))⟩ ?_
      clear hM hA; rintro m670 a w671 ⟨mp663, t667, H668, hM, hA⟩
      cases m670 with
      | zero => exact absurd H668 (by simp [relay_sound.l1])
      | succ m670 =>
      rw [relay_sound.l1] at H668
      refine wp_seq ?_
      refine wp_region_lit ?_
      refine L1 (stv hA (by decide) (run_bin (hA.ev rfl) (hA.ev rfl) (bin_lss _ _ _ _)) ?_)
      clear hA; intro a hA
      refine LQ ?_
      refine TN ?_
      refine wp_seq ?_
      refine tcond (b := (decide (t667 < t555))) hA rfl (fun hb672 => ?_) (fun hb672 => ?_)
      · replace H668 := ite_t hb672 H668
        refine wp_skip ?_
        refine TN ?_
        refine wp_seq ?_
        refine wp_block ?_
        refine wp_seq ?_
        refine wp_region_lit ?_
        obtain ⟨⟨hi673, hj674⟩, H668⟩ := ite_some H668
        obtain ⟨ad675, hq676, hat677⟩ := Row.elem' (p := pHash) (RowOk.row (hM.row (p := pHash) (.s .z))) (RowOk.len (hM.row (p := pHash) (.s .z))) (Vector.replicate 32 0 : Vector Int 32) t667 hi673 hj674
        refine L1 (stv hA (by decide) (run_idx Try.underlying37 Try.sizeOf34 (hA.ev rfl) hq676 (hA.ev rfl) hi673 hj674) ?_)
        clear hA; intro a hA
        refine L1 (stv hA (by decide) (run_ld (hA.ev rfl) (run_loadP Try.isAgg34 Try.sizeOf34 hat677)) ?_)
        clear hA; intro a hA
        refine L1 (e_alloc (cs := (pHash.enc (Vector.replicate 32 0 : Vector Int 32))) hM zero34 rfl hA (by decide) ?_)
        clear hM hA; intro w679 g678 hM hE  a hA
        refine L1 (e_store (g := g678) (off := 0) (cur := (pHash.enc (Vector.replicate 32 0 : Vector Int 32))) (cs' := (pHash.enc (xs553.getD t667.toNat (Vector.replicate 32 0 : Vector Int 32)))) hM .z Try.sizeOf34 hA rfl (by simp [add_mk]) rfl (agg_size _ _) (agg_one _ _) (Nat.le_of_ble_eq_true (enc_fitL _ _ rfl)) (spl_all (by first | rfl | simp [Value.cells, Pl.len])) ?_)
        clear hM hA; intro w681  hM hE  a hA
        refine LQ ?_
        refine TN ?_
        refine wp_seq ?_
        refine wp_seq ?_
        refine wp_region_lit ?_
        refine L1 (stv hA (by decide) (run_move (hA.ev rfl)) ?_)
        clear hA; intro a hA
        refine L1 (stv hA (by decide) (run_ld (hA.ev rfl) (run_loadP Try.isAgg34 Try.sizeOf34 (hM.box .z))) ?_)
        clear hA; intro a hA
        refine L1 (stv hA (by decide) (run_look1 (m := mp663) (k := (xs553.getD t667.toNat (Vector.replicate 32 0 : Vector Int 32))) (z := false) (ev' := (fun x => (.bool x))) (key34) Try.underlying73 zero4 rfl (hA.ev rfl) (hA.ev rfl) (hM.map (.s .z))) ?_)
        clear hA; intro a hA
        refine LQ ?_
        refine TN ?_
        refine tcond (b := ((mget mp663 (xs553.getD t667.toNat (Vector.replicate 32 0 : Vector Int 32))).getD false)) hA rfl (fun hb682 => ?_) (fun hb682 => ?_)
        · replace H668 := ite_t hb682 H668
          refine wp_seq ?_
          refine wp_region_lit ?_
          refine L1 (stv hA (by decide) (run_assign (hA.ev rfl)) ?_)
          clear hA; intro a hA
          refine LQ ?_
          refine TN ?_
          refine wp_ret ?_
          obtain rfl := Option.some.inj H668
          dsimp only at H
          obtain rfl := Option.some.inj H
          refine TR ?_
          refine BR ?_
          refine TR ?_
          refine TR ?_
          refine BR ?_
          refine TR ?_
          refine TR ?_
          exact ret_post1 (fn := Try.f30) hA rfl rfl ⟨_, rfl, rfl, (hM.sel [] rfl (by decide))⟩
        · replace H668 := ite_f hb682 H668
          refine wp_skip ?_
          refine TN ?_
          refine wp_region_lit ?_
          refine L1 (stv hA (by decide) (run_move (hA.ev rfl)) ?_)
          clear hA; intro a hA
          refine L1 (stv hA (by decide) (run_ld (hA.ev rfl) (run_loadP Try.isAgg34 Try.sizeOf34 (hM.box .z))) ?_)
          clear hA; intro a hA
          refine L1 (e_mapput (m := mp663) (k := (xs553.getD t667.toNat (Vector.replicate 32 0 : Vector Int 32))) (v := true) (ev' := (fun x => (.bool x))) (key34) Try.underlying73 hM (.s .z) hA rfl rfl rfl ?_)
          clear hM hA; intro w683  hM hE  a hA
          refine LQ ?_
          refine BN ?_
          refine TN ?_
          refine wp_region_lit ?_
          refine L1 (stv hA (by decide) (run_bin (hA.ev rfl) (hA.ev rfl) (bin_add _ _ _ _)) ?_)
          clear hA; intro a hA
          refine L1 (stv hA (by decide) (run_move (hA.ev rfl)) ?_)
          clear hA; intro a hA
          refine LQ ?_
          exact ⟨_, Nat.lt_succ_self m670, (mput mp663 (xs553.getD t667.toNat (Vector.replicate 32 0 : Vector Int 32)) true), IntKind.i64.wrap (t667 + 1), H668, (hM.sel [1, 2] rfl (by decide)), ((((hA.nil.cons (hA.get 51 _ rfl)).cons (hA.get 50 _ rfl)).cons (hA.get 49 _ rfl)).cons (hA.get 5 _ rfl))⟩
      · replace H668 := ite_f hb672 H668
        refine wp_exit ?_
        refine TX ?_
        refine TX ?_
        refine BX ?_
        exact ⟨Option.some.inj H668, (hM.sel [] rfl (by decide)), hA.nil⟩
    clear hM hA
    rintro a w684 ⟨rfl, hM, hA⟩
    try dsimp only at H
    refine TN ?_
    refine wp_seq ?_
    refine wp_region_lit ?_
    refine L1 (stv hA (by decide) (run_assign (hA.ev rfl)) ?_)
    clear hA; intro a hA
    refine LQ ?_
    refine TN ?_
    refine wp_ret ?_
    obtain rfl := Option.some.inj H
    exact ret_post1 (fn := Try.f30) hA rfl rfl ⟨_, rfl, rfl, hM⟩

def slices_Index_Hash.l0 (s_0 : (List (Vector Int 32))) (v_1 : (Vector Int 32)) : Nat → Int → Option (Out Int (Unit))
  | 0, _ => none
  | k + 1, t112 => (if (decide (t112 < ((s_0.length : Nat) : Int))) = true then (if 0 ≤ t112 ∧ t112 < ((s_0.length : Nat) : Int) then (if (v_1 == (s_0.getD t112.toNat (Vector.replicate 32 0 : Vector Int 32))) = true then (some (.ret t112)) else (slices_Index_Hash.l0 s_0 v_1 k (IntKind.i64.wrap (t112 + 1)))) else none) else (some (.go ())))
def slices_Index_Hash.f (k : Nat) (s_0 : (List (Vector Int 32))) (v_1 : (Vector Int 32)) : Option Int := (Option.bind (α := Out Int (Unit)) (slices_Index_Hash.l0 s_0 v_1 k 0) (fun o => match o with | .ret r => some r | .go _ => (some (-1))))
set_option maxHeartbeats 2000000 in
set_option maxRecDepth 100000 in
theorem slices_Index_Hash.calls (k : Nat) (s_0 : (List (Vector Int 32))) (v_1 : (Vector Int 32)) (F : List (Option Nat)) (v0 : Value) (r : Int) (w0 : World) (h0 : RoV F pHash w0 v0 s_0) (hM : Mem F w0 w0 []) (H : slices_Index_Hash.f k s_0 v_1 = some r) :
    Calls Try.prog 44 #[v0, (.agg (pHash.enc v_1).toArray)] w0 fun e w' => ∃ v, e = .returned v ∧ v = (.int .i64 r) ∧ Mem F w0 w' [] := by
  unfold slices_Index_Hash.f at H
  obtain ⟨A0, c0, rfl, hr0, hc0⟩ := h0
  refine enterL (n := 19) [(.slice A0 s_0.length c0), (.agg (pHash.enc v_1).toArray)] Try.func44 rfl rfl rfl ?_
  intro a hA
  refine wp_seq ?_
  refine wp_region_lit ?_
  refine L1 (e_box (cs := (pHash.enc v_1)) hM hA rfl rfl (by decide) ?_)
  clear hM hA; intro w65 g64 hM hE  a hA
  refine L1 (stv hA (by decide) (run_assign (hA.ev rfl)) ?_)
  clear hA; intro a hA
  refine LQ ?_
  refine TN ?_
  refine wp_seq ?_
  refine wp_seq ?_
  refine wp_region_lit ?_
  refine L1 (stv hA (by decide) (run_move (hA.ev rfl)) ?_)
  clear hA; intro a hA
  refine L1 (stv hA (by decide) (run_len_slice Try.underlying37 (hA.ev rfl)) ?_)
  clear hA; intro a hA
  refine L1 (stv hA (by decide) (run_move (hA.ev rfl)) ?_)
  clear hA; intro a hA
  refine LQ ?_
  refine TN ?_
  obtain ⟨o114, H113, H⟩ := Option.bind_eq_some_iff.1 H
  refine cutC (fun a w => (.go ()) = o114 ∧ Mem F w0 w [] ∧ Has 19 [] a) ?_ ?_
  · refine wp_block ?_
    refine wp_loop_ghost (fun m a w => ∃ (t112 : Int), slices_Index_Hash.l0 s_0 v_1 m t112 = some o114 ∧ Mem F w0 w [.box g64 34 (pHash.enc v_1)] ∧ Has 19 [(0, (.slice A0 s_0.length c0)), (3, (.pointer (some (⟨g64, 0, none⟩)))), (7, (.int .i64 ((s_0.length : Nat) : Int))), (8, (.int .i64 t112))] a) k ⟨0, H113, hM, ((((hA.nil.cons (hA.get 8 _ rfl)).cons (hA.get 7 _ rfl)).cons (hA.get 3 _ rfl)).cons (hA.get 0 _ rfl))⟩ ?_
    clear hM hA; rintro m115 a w116 ⟨t112, H113, hM, hA⟩
    cases m115 with
    | zero => exact absurd H113 (by simp [slices_Index_Hash.l0])
    | succ m115 =>
    rw [slices_Index_Hash.l0] at H113
    refine wp_seq ?_
    refine wp_region_lit ?_
    refine L1 (stv hA (by decide) (run_bin (hA.ev rfl) (hA.ev rfl) (bin_lss _ _ _ _)) ?_)
    clear hA; intro a hA
    refine LQ ?_
    refine TN ?_
    refine wp_seq ?_
    refine tcond (b := (decide (t112 < ((s_0.length : Nat) : Int)))) hA rfl (fun hb117 => ?_) (fun hb117 => ?_)
    · replace H113 := ite_t hb117 H113
      refine wp_skip ?_
      refine TN ?_
      refine wp_seq ?_
      refine wp_block ?_
      refine wp_seq ?_
      refine wp_region_lit ?_
      refine L1 (stv hA (by decide) (run_move (hA.ev rfl)) ?_)
      clear hA; intro a hA
      refine L1 (stv hA (by decide) (run_assign (hA.ev rfl)) ?_)
      clear hA; intro a hA
      refine LQ ?_
      refine TN ?_
      refine wp_seq ?_
      refine draw (fun w' => Below w116.heap.size w116 w') [] rfl ?_
      intro w118 hw hS; replace hM := hM.ext hS; clear hw
      refine rebase hS ?_; clear hS; intro hS
      refine d_take (i := 0) (L' := #[true, false, false, false, false, false]) rfl (by kernel_rfl) rfl (fun _ _ _ h => h) hA (by decide) rfl hS (fun a w' hA hS' => run_ld (hA.ev rfl) (run_loadP Try.isAgg34 Try.sizeOf34 ((hM.box .z).extB hS'))) ?_; clear hA; intro a hA
      refine d_takef (i := 1) (L' := #[true, true, false, false, false, false]) rfl (by kernel_rfl) rfl (fun _ _ _ h => h) hA (by decide) (fun _ => hS) (fun a w' hA => run_move (hA.ev rfl)) ?_; clear hA; intro a hA
      refine d_takef (i := 2) (L' := #[true, true, true, false, false, false]) rfl (by kernel_rfl) rfl (fun _ _ _ h => h) hA (by decide) (fun _ => hS) (fun a w' hA => run_move (hA.ev rfl)) ?_; clear hA; intro a hA
      obtain ⟨⟨hi120, hj121⟩, H113⟩ := ite_some H113
      obtain ⟨ad122, hq123, hat124⟩ := Row.elem' (p := pHash) (hM.ro hr0) (Eq.refl s_0.length) (Vector.replicate 32 0 : Vector Int 32) t112 hi120 hj121
      refine d_takef (i := 3) (L' := #[true, true, true, true, false, false]) rfl (by kernel_rfl) rfl (fun _ _ _ h => h) hA (by decide) (fun _ => hS) (fun a w' hA => run_idx Try.underlying37 Try.sizeOf34 (hA.ev rfl) hq123 (hA.ev rfl) hi120 hj121) ?_; clear hA; intro a hA
      refine d_take (i := 4) (L' := #[true, true, true, true, true, false]) rfl (by kernel_rfl) rfl (fun _ _ _ h => h) hA (by decide) rfl hS (fun a w' hA hS' => run_ld (hA.ev rfl) (run_loadP Try.isAgg34 Try.sizeOf34 ((hat124).extB hS'))) ?_; clear hA; intro a hA
      refine d_takef (i := 5) (L' := #[true, true, true, true, true, true]) rfl (by kernel_rfl) rfl (fun _ _ _ h => h) hA (by decide) (fun _ => hS) (fun a w' hA => run_aggeql eq_Hash rfl (by kernel_rfl) (hA.ev rfl) (hA.ev rfl)) ?_; clear hA; intro a hA
      refine d_done (by kernel_rfl) ?_
      refine TN ?_
      refine tcond (b := (v_1 == (s_0.getD t112.toNat (Vector.replicate 32 0 : Vector Int 32)))) hA rfl (fun hb125 => ?_) (fun hb125 => ?_)
      · replace H113 := ite_t hb125 H113
        refine wp_seq ?_
        refine wp_region_lit ?_
        refine L1 (stv hA (by decide) (run_move (hA.ev rfl)) ?_)
        clear hA; intro a hA
        refine L1 (stv hA (by decide) (run_assign (hA.ev rfl)) ?_)
        clear hA; intro a hA
        refine LQ ?_
        refine TN ?_
        refine wp_ret ?_
        obtain rfl := Option.some.inj H113
        dsimp only at H
        obtain rfl := Option.some.inj H
        refine BR ?_
        refine TR ?_
        refine TR ?_
        refine BR ?_
        refine TR ?_
        refine TR ?_
        exact ret_post1 (fn := Try.f44) hA rfl rfl ⟨_, rfl, rfl, (hM.sel [] rfl (by decide))⟩
      · replace H113 := ite_f hb125 H113
        refine wp_skip ?_
        refine BN ?_
        refine TN ?_
        refine wp_region_lit ?_
        refine L1 (stv hA (by decide) (run_bin (hA.ev rfl) (hA.ev rfl) (bin_add _ _ _ _)) ?_)
        clear hA; intro a hA
        refine L1 (stv hA (by decide) (run_move (hA.ev rfl)) ?_)
        clear hA; intro a hA
        refine LQ ?_
        exact ⟨_, Nat.lt_succ_self m115, IntKind.i64.wrap (t112 + 1), H113, hM, ((((hA.nil.cons (hA.get 8 _ rfl)).cons (hA.get 7 _ rfl)).cons (hA.get 3 _ rfl)).cons (hA.get 0 _ rfl))⟩
    · replace H113 := ite_f hb117 H113
      refine wp_exit ?_
      refine TX ?_
      refine TX ?_
      refine BX ?_
      exact ⟨Option.some.inj H113, (hM.sel [] rfl (by decide)), hA.nil⟩
  clear hM hA
  rintro a w126 ⟨rfl, hM, hA⟩
  try dsimp only at H
  refine TN ?_
  refine wp_seq ?_
  refine wp_region_lit ?_
  refine L1 (stv hA (by decide) (run_assign (hA.ev rfl)) ?_)
  clear hA; intro a hA
  refine LQ ?_
  refine TN ?_
  refine wp_ret ?_
  obtain rfl := Option.some.inj H
  exact ret_post1 (fn := Try.f44) hA rfl rfl ⟨_, rfl, rfl, hM⟩

def slices_Contains_Hash.f (k : Nat) (s_0 : (List (Vector Int 32))) (v_1 : (Vector Int 32)) : Option Bool := ((slices_Index_Hash.f k s_0 v_1).bind fun r10 => (some (decide (r10 ≥ 0))))
set_option maxHeartbeats 2000000 in
set_option maxRecDepth 100000 in
theorem slices_Contains_Hash.calls (k : Nat) (s_0 : (List (Vector Int 32))) (v_1 : (Vector Int 32)) (F : List (Option Nat)) (v0 : Value) (r : Bool) (w0 : World) (h0 : RoV F pHash w0 v0 s_0) (hM : Mem F w0 w0 []) (H : slices_Contains_Hash.f k s_0 v_1 = some r) :
    Calls Try.prog 31 #[v0, (.agg (pHash.enc v_1).toArray)] w0 fun e w' => ∃ v, e = .returned v ∧ v = (.bool r) ∧ Mem F w0 w' [] := by
  unfold slices_Contains_Hash.f at H
  obtain ⟨A0, c0, rfl, hr0, hc0⟩ := h0
  refine enterL (n := 9) [(.slice A0 s_0.length c0), (.agg (pHash.enc v_1).toArray)] Try.func31 rfl rfl rfl ?_
  intro a hA
  refine wp_seq ?_
  refine wp_region_lit ?_
  refine L1 (e_box (cs := (pHash.enc v_1)) hM hA rfl rfl (by decide) ?_)
  clear hM hA; intro w8 g7 hM hE  a hA
  refine L1 (stv hA (by decide) (run_assign (hA.ev rfl)) ?_)
  clear hA; intro a hA
  refine LQ ?_
  refine TN ?_
  refine wp_seq ?_
  refine wp_region_lit ?_
  refine L1 (stv hA (by decide) (run_move (hA.ev rfl)) ?_)
  clear hA; intro a hA
  refine L1 (stv hA (by decide) (run_ld (hA.ev rfl) (run_loadP Try.isAgg34 Try.sizeOf34 (hM.box .z))) ?_)
  clear hA; intro a hA
  obtain ⟨r10, H11, H⟩ := Option.bind_eq_some_iff.1 H
  refine L1 (st_call Try.call44 hA [(.slice A0 s_0.length c0), (.agg (pHash.enc v_1).toArray)] rfl (by decide) (slices_Index_Hash.calls _ _ _ _ _ _ _ ((RoV.mk (hM.roC (Ms := []) hr0) (Eq.refl s_0.length) hc0)) (hM.front (Ms := [])) H11) ?_)
  clear hA; rintro _ w12 ⟨rfl, hMc⟩ a hA
  have hE := hMc.below; have hM := hM.call (Ms := []) hMc
  clear hMc; simp only [List.cons_append, List.nil_append] at hM
  refine L1 (stv hA (by decide) (run_bin (hA.ev rfl) (hA.ev rfl) (bin_geq _ _ _ _)) ?_)
  clear hA; intro a hA
  refine L1 (stv hA (by decide) (run_assign (hA.ev rfl)) ?_)
  clear hA; intro a hA
  refine LQ ?_
  refine TN ?_
  refine wp_ret ?_
  obtain rfl := Option.some.inj H
  exact ret_post1 (fn := Try.f31) hA rfl rfl ⟨_, rfl, rfl, (hM.sel [] rfl (by decide))⟩

def slices_Clone_intN.f (k : Nat) (s_0 : (List Int)) (nl0 : Bool) : Option (List Int) := (if nl0 = true then (some ([] : List Int)) else (if (0 + s_0.length) * 8 ≤ 140737488355328 then (some (([] : List Int) ++ s_0)) else none))
set_option maxHeartbeats 2000000 in
set_option maxRecDepth 100000 in
theorem slices_Clone_intN.calls (k : Nat) (s_0 : (List Int)) (nl0 : Bool) (F : List (Option Nat)) (v0 : Value) (r : (List Int)) (w0 : World) (h0 : RoV F (Pl.int .i64) w0 v0 s_0) (hnl0 : ∀ A q c, v0 = .slice A q c → A.isNone = nl0) (hM : Mem F w0 w0 []) (H : slices_Clone_intN.f k s_0 nl0 = some r) :
    Calls Try.prog 45 #[v0] w0 fun e w' => ∃ v, e = .returned v ∧ ∃ (ur_0 : Value), v = ur_0 ∧ Mem F w0 w' [.row 3 (Pl.int .i64).sz ur_0 ((Pl.int .i64).flat r)] := by
  unfold slices_Clone_intN.f at H
  obtain ⟨A0, c0, rfl, hr0, hc0⟩ := h0
  have hn0 := hnl0 _ _ _ rfl
  refine enterL (n := 8) [(.slice A0 s_0.length c0)] Try.func45 rfl rfl rfl ?_
  intro a hA
  refine wp_seq ?_
  refine wp_region_lit ?_
  refine L1 (stv hA (by decide) (run_assign (hA.ev rfl)) ?_)
  clear hA; intro a hA
  refine LQ ?_
  refine TN ?_
  refine wp_seq ?_
  refine wp_seq ?_
  refine wp_region_lit ?_
  refine L1 (stv hA (by decide) (run_move (hA.ev rfl)) ?_)
  clear hA; intro a hA
  refine L1 (stv hA (by decide) (run_slnil Try.underlying22 (hA.ev rfl) (hA.ev rfl) hn0) ?_)
  clear hA; intro a hA
  refine LQ ?_
  refine TN ?_
  refine tcond (b := nl0) hA rfl (fun hb9 => ?_) (fun hb9 => ?_)
  · replace H := ite_t hb9 H
    refine wp_seq ?_
    refine wp_region_lit ?_
    refine L1 (stv hA (by decide) (run_assign (hA.ev rfl)) ?_)
    clear hA; intro a hA
    refine LQ ?_
    refine TN ?_
    refine wp_ret ?_
    have hM := hM.addnil 3 ((Pl.int .i64)).sz
    obtain rfl := Option.some.inj H
    refine TR ?_
    exact ret_post1 (fn := Try.f45) hA rfl rfl ⟨_, rfl, (.slice none 0 0), rfl, hM⟩
  · replace H := ite_f hb9 H
    refine wp_skip ?_
    refine TN ?_
    refine wp_seq ?_
    refine wp_region_lit ?_
    refine L1 (e_lit0 elt22 hM hA (by decide) ?_)
    clear hM hA; intro w12 g11 hM hE  a hA
    refine L1 (stv hA (by decide) (run_move (hA.ev rfl)) ?_)
    clear hA; intro a hA
    obtain ⟨hl16, H⟩ := ite_some H
    refine L1 (e_append elt22 hM (fun _ => .z) (Src.row Try.underlying22 (hM.ro hr0) (Eq.refl s_0.length)) hl16 hA rfl rfl (by decide) ?_)
    clear hM hA; intro w17 A14 c15 hM hE  a hA
    refine L1 (stv hA (by decide) (run_assign (hA.ev rfl)) ?_)
    clear hA; intro a hA
    refine LQ ?_
    refine TN ?_
    refine wp_ret ?_
    obtain rfl := Option.some.inj H
    exact ret_post1 (fn := Try.f45) hA rfl rfl ⟨_, rfl, (.slice A14 (0 + s_0.length) c15), rfl, hM⟩

def slices_Clone_int.f (k : Nat) (s_0 : (List Int)) : Option (List Int) := (if s_0.length * 8 ≤ 140737488355328 then (some s_0) else none)
theorem slices_Clone_int.calls (k : Nat) (s_0 : (List Int)) (F : List (Option Nat)) (v0 : Value) (r : (List Int)) (w0 : World) (h0 : RoV F (Pl.int .i64) w0 v0 s_0) (hM : Mem F w0 w0 []) (H : slices_Clone_int.f k s_0 = some r) :
    Calls Try.prog 45 #[v0] w0 fun e w' => ∃ v, e = .returned v ∧ ∃ (ur_0 : Value), v = ur_0 ∧ Mem F w0 w' [.row 3 (Pl.int .i64).sz ur_0 ((Pl.int .i64).flat r)] := by
  obtain ⟨A, c, rfl, hr, hc⟩ := h0
  refine slices_Clone_intN.calls k s_0 A.isNone F _ r w0 ⟨A, c, rfl, hr, hc⟩ (fun A' q c' e => by cases e; rfl) hM ?_
  unfold slices_Clone_int.f at H
  unfold slices_Clone_intN.f
  cases A with
  | none =>
    have e : s_0 = [] := hr.1.1 rfl
    subst e
    simpa using H
  | some ad => simpa using H

def slices_Clone_StemN.f (k : Nat) (s_0 : (List Stem)) (nl0 : Bool) : Option (List Stem) := (if nl0 = true then (some ([] : List Stem)) else (if (0 + s_0.length) * 56 ≤ 140737488355328 then (some (([] : List Stem) ++ s_0)) else none))
set_option maxHeartbeats 2000000 in
set_option maxRecDepth 100000 in
theorem slices_Clone_StemN.calls (k : Nat) (s_0 : (List Stem)) (nl0 : Bool) (F : List (Option Nat)) (v0 : Value) (r : (List Stem)) (w0 : World) (h0 : RoV F pStem w0 v0 s_0) (hnl0 : ∀ A q c, v0 = .slice A q c → A.isNone = nl0) (hM : Mem F w0 w0 []) (H : slices_Clone_StemN.f k s_0 nl0 = some r) :
    Calls Try.prog 46 #[v0] w0 fun e w' => ∃ v, e = .returned v ∧ ∃ (ur_0 : Value), v = ur_0 ∧ Mem F w0 w' [.row 61 pStem.sz ur_0 (pStem.flat r)] := by
  unfold slices_Clone_StemN.f at H
  obtain ⟨A0, c0, rfl, hr0, hc0⟩ := h0
  have hn0 := hnl0 _ _ _ rfl
  refine enterL (n := 8) [(.slice A0 s_0.length c0)] Try.func46 rfl rfl rfl ?_
  intro a hA
  refine wp_seq ?_
  refine wp_region_lit ?_
  refine L1 (stv hA (by decide) (run_assign (hA.ev rfl)) ?_)
  clear hA; intro a hA
  refine LQ ?_
  refine TN ?_
  refine wp_seq ?_
  refine wp_seq ?_
  refine wp_region_lit ?_
  refine L1 (stv hA (by decide) (run_move (hA.ev rfl)) ?_)
  clear hA; intro a hA
  refine L1 (stv hA (by decide) (run_slnil Try.underlying36 (hA.ev rfl) (hA.ev rfl) hn0) ?_)
  clear hA; intro a hA
  refine LQ ?_
  refine TN ?_
  refine tcond (b := nl0) hA rfl (fun hb9 => ?_) (fun hb9 => ?_)
  · replace H := ite_t hb9 H
    refine wp_seq ?_
    refine wp_region_lit ?_
    refine L1 (stv hA (by decide) (run_assign (hA.ev rfl)) ?_)
    clear hA; intro a hA
    refine LQ ?_
    refine TN ?_
    refine wp_ret ?_
    have hM := hM.addnil 61 (pStem).sz
    obtain rfl := Option.some.inj H
    refine TR ?_
    exact ret_post1 (fn := Try.f46) hA rfl rfl ⟨_, rfl, (.slice none 0 0), rfl, hM⟩
  · replace H := ite_f hb9 H
    refine wp_skip ?_
    refine TN ?_
    refine wp_seq ?_
    refine wp_region_lit ?_
    refine L1 (e_lit0 elt36 hM hA (by decide) ?_)
    clear hM hA; intro w12 g11 hM hE  a hA
    refine L1 (stv hA (by decide) (run_move (hA.ev rfl)) ?_)
    clear hA; intro a hA
    obtain ⟨hl16, H⟩ := ite_some H
    refine L1 (e_append elt36 hM (fun _ => .z) (Src.row Try.underlying36 (hM.ro hr0) (Eq.refl s_0.length)) hl16 hA rfl rfl (by decide) ?_)
    clear hM hA; intro w17 A14 c15 hM hE  a hA
    refine L1 (stv hA (by decide) (run_assign (hA.ev rfl)) ?_)
    clear hA; intro a hA
    refine LQ ?_
    refine TN ?_
    refine wp_ret ?_
    obtain rfl := Option.some.inj H
    exact ret_post1 (fn := Try.f46) hA rfl rfl ⟨_, rfl, (.slice A14 (0 + s_0.length) c15), rfl, hM⟩

def slices_Clone_Stem.f (k : Nat) (s_0 : (List Stem)) : Option (List Stem) := (if s_0.length * 56 ≤ 140737488355328 then (some s_0) else none)
theorem slices_Clone_Stem.calls (k : Nat) (s_0 : (List Stem)) (F : List (Option Nat)) (v0 : Value) (r : (List Stem)) (w0 : World) (h0 : RoV F pStem w0 v0 s_0) (hM : Mem F w0 w0 []) (H : slices_Clone_Stem.f k s_0 = some r) :
    Calls Try.prog 46 #[v0] w0 fun e w' => ∃ v, e = .returned v ∧ ∃ (ur_0 : Value), v = ur_0 ∧ Mem F w0 w' [.row 61 pStem.sz ur_0 (pStem.flat r)] := by
  obtain ⟨A, c, rfl, hr, hc⟩ := h0
  refine slices_Clone_StemN.calls k s_0 A.isNone F _ r w0 ⟨A, c, rfl, hr, hc⟩ (fun A' q c' e => by cases e; rfl) hM ?_
  unfold slices_Clone_Stem.f at H
  unfold slices_Clone_StemN.f
  cases A with
  | none =>
    have e : s_0 = [] := hr.1.1 rfl
    subst e
    simpa using H
  | some ad => simpa using H

def slices_Clone_HashN.f (k : Nat) (s_0 : (List (Vector Int 32))) (nl0 : Bool) : Option (List (Vector Int 32)) := (if nl0 = true then (some ([] : List (Vector Int 32))) else (if (0 + s_0.length) * 32 ≤ 140737488355328 then (some (([] : List (Vector Int 32)) ++ s_0)) else none))
set_option maxHeartbeats 2000000 in
set_option maxRecDepth 100000 in
theorem slices_Clone_HashN.calls (k : Nat) (s_0 : (List (Vector Int 32))) (nl0 : Bool) (F : List (Option Nat)) (v0 : Value) (r : (List (Vector Int 32))) (w0 : World) (h0 : RoV F pHash w0 v0 s_0) (hnl0 : ∀ A q c, v0 = .slice A q c → A.isNone = nl0) (hM : Mem F w0 w0 []) (H : slices_Clone_HashN.f k s_0 nl0 = some r) :
    Calls Try.prog 47 #[v0] w0 fun e w' => ∃ v, e = .returned v ∧ ∃ (ur_0 : Value), v = ur_0 ∧ Mem F w0 w' [.row 34 pHash.sz ur_0 (pHash.flat r)] := by
  unfold slices_Clone_HashN.f at H
  obtain ⟨A0, c0, rfl, hr0, hc0⟩ := h0
  have hn0 := hnl0 _ _ _ rfl
  refine enterL (n := 8) [(.slice A0 s_0.length c0)] Try.func47 rfl rfl rfl ?_
  intro a hA
  refine wp_seq ?_
  refine wp_region_lit ?_
  refine L1 (stv hA (by decide) (run_assign (hA.ev rfl)) ?_)
  clear hA; intro a hA
  refine LQ ?_
  refine TN ?_
  refine wp_seq ?_
  refine wp_seq ?_
  refine wp_region_lit ?_
  refine L1 (stv hA (by decide) (run_move (hA.ev rfl)) ?_)
  clear hA; intro a hA
  refine L1 (stv hA (by decide) (run_slnil Try.underlying37 (hA.ev rfl) (hA.ev rfl) hn0) ?_)
  clear hA; intro a hA
  refine LQ ?_
  refine TN ?_
  refine tcond (b := nl0) hA rfl (fun hb9 => ?_) (fun hb9 => ?_)
  · replace H := ite_t hb9 H
    refine wp_seq ?_
    refine wp_region_lit ?_
    refine L1 (stv hA (by decide) (run_assign (hA.ev rfl)) ?_)
    clear hA; intro a hA
    refine LQ ?_
    refine TN ?_
    refine wp_ret ?_
    have hM := hM.addnil 34 (pHash).sz
    obtain rfl := Option.some.inj H
    refine TR ?_
    exact ret_post1 (fn := Try.f47) hA rfl rfl ⟨_, rfl, (.slice none 0 0), rfl, hM⟩
  · replace H := ite_f hb9 H
    refine wp_skip ?_
    refine TN ?_
    refine wp_seq ?_
    refine wp_region_lit ?_
    refine L1 (e_lit0 elt37 hM hA (by decide) ?_)
    clear hM hA; intro w12 g11 hM hE  a hA
    refine L1 (stv hA (by decide) (run_move (hA.ev rfl)) ?_)
    clear hA; intro a hA
    obtain ⟨hl16, H⟩ := ite_some H
    refine L1 (e_append elt37 hM (fun _ => .z) (Src.row Try.underlying37 (hM.ro hr0) (Eq.refl s_0.length)) hl16 hA rfl rfl (by decide) ?_)
    clear hM hA; intro w17 A14 c15 hM hE  a hA
    refine L1 (stv hA (by decide) (run_assign (hA.ev rfl)) ?_)
    clear hA; intro a hA
    refine LQ ?_
    refine TN ?_
    refine wp_ret ?_
    obtain rfl := Option.some.inj H
    exact ret_post1 (fn := Try.f47) hA rfl rfl ⟨_, rfl, (.slice A14 (0 + s_0.length) c15), rfl, hM⟩

def slices_Clone_Hash.f (k : Nat) (s_0 : (List (Vector Int 32))) : Option (List (Vector Int 32)) := (if s_0.length * 32 ≤ 140737488355328 then (some s_0) else none)
theorem slices_Clone_Hash.calls (k : Nat) (s_0 : (List (Vector Int 32))) (F : List (Option Nat)) (v0 : Value) (r : (List (Vector Int 32))) (w0 : World) (h0 : RoV F pHash w0 v0 s_0) (hM : Mem F w0 w0 []) (H : slices_Clone_Hash.f k s_0 = some r) :
    Calls Try.prog 47 #[v0] w0 fun e w' => ∃ v, e = .returned v ∧ ∃ (ur_0 : Value), v = ur_0 ∧ Mem F w0 w' [.row 34 pHash.sz ur_0 (pHash.flat r)] := by
  obtain ⟨A, c, rfl, hr, hc⟩ := h0
  refine slices_Clone_HashN.calls k s_0 A.isNone F _ r w0 ⟨A, c, rfl, hr, hc⟩ (fun A' q c' e => by cases e; rfl) hM ?_
  unfold slices_Clone_Hash.f at H
  unfold slices_Clone_HashN.f
  cases A with
  | none =>
    have e : s_0 = [] := hr.1.1 rfl
    subst e
    simpa using H
  | some ad => simpa using H

def relay_clone.f (k : Nat) (r_0 : Relay) : Option Relay := ((slices_Clone_int.f k r_0.Routes).bind fun r42 => ((slices_Clone_Stem.f k r_0.Stems).bind fun r49 => ((slices_Clone_Hash.f k r_0.Fluffed).bind fun r56 => (some (Relay.mk r_0.Epoch r_0.Diffuse r42 r49 r56)))))
set_option maxHeartbeats 2000000 in
set_option maxRecDepth 100000 in
theorem relay_clone.calls (k : Nat) (r_0 : Relay) (F : List (Option Nat)) (v0_2 : Value) (v0_3 : Value) (v0_4 : Value) (r : Relay) (w0 : World) (h0_2 : RoV F (Pl.int .i64) w0 v0_2 r_0.Routes) (h0_3 : RoV F pStem w0 v0_3 r_0.Stems) (h0_4 : RoV F pHash w0 v0_4 r_0.Fluffed) (hM : Mem F w0 w0 []) (H : relay_clone.f k r_0 = some r) :
    Calls Try.prog 32 #[(.agg #[(.int .u32 r_0.Epoch), (.bool r_0.Diffuse), v0_2, v0_3, v0_4])] w0 fun e w' => ∃ v, e = .returned v ∧ ∃ (ur_0_2 : Value) (ur_0_3 : Value) (ur_0_4 : Value), v = (.agg #[(.int .u32 r.Epoch), (.bool r.Diffuse), ur_0_2, ur_0_3, ur_0_4]) ∧ Mem F w0 w' [.row 3 (Pl.int .i64).sz ur_0_2 ((Pl.int .i64).flat r.Routes), .row 61 pStem.sz ur_0_3 (pStem.flat r.Stems), .row 34 pHash.sz ur_0_4 (pHash.flat r.Fluffed)] := by
  unfold relay_clone.f at H
  obtain ⟨A0_2, c0_2, rfl, hr0_2, hc0_2⟩ := h0_2
  obtain ⟨A0_3, c0_3, rfl, hr0_3, hc0_3⟩ := h0_3
  obtain ⟨A0_4, c0_4, rfl, hr0_4, hc0_4⟩ := h0_4
  refine enterL (n := 16) [(.agg #[(.int .u32 r_0.Epoch), (.bool r_0.Diffuse), (.slice A0_2 r_0.Routes.length c0_2), (.slice A0_3 r_0.Stems.length c0_3), (.slice A0_4 r_0.Fluffed.length c0_4)])] Try.func32 rfl rfl rfl ?_
  intro a hA
  refine wp_seq ?_
  refine wp_region_lit ?_
  refine L1 (e_box (cs := [(.int .u32 r_0.Epoch), (.bool r_0.Diffuse), (.slice A0_2 r_0.Routes.length c0_2), (.slice A0_3 r_0.Stems.length c0_3), (.slice A0_4 r_0.Fluffed.length c0_4)]) hM hA rfl rfl (by decide) ?_)
  clear hM hA; intro w35 g34 hM hE  a hA
  refine L1 (e_alloc (cs := [(.int .u32 0), (.bool false), (.slice none 0 0), (.slice none 0 0), (.slice none 0 0)]) hM zero39 rfl hA (by decide) ?_)
  clear hM hA; intro w38 g37 hM hE  a hA
  refine LQ ?_
  refine TN ?_
  refine wp_seq ?_
  refine draw (fun w' => Below w38.heap.size w38 w') [10, 12, 14] rfl ?_
  intro w40 hw hS; replace hM := hM.ext hS; clear hw
  refine d_takef (i := 0) (L' := #[true, false, false, false, false, false, false, false, false, false, false, false, false, false, false]) rfl (by kernel_rfl) rfl (fun _ _ _ h => h) hA (by decide) (fun _ => hS) (fun a w' hA => run_field' Try.underlying39 rfl rfl Try.sizeOf22 (by decide) (hA.ev rfl)) ?_; clear hA; intro a hA
  refine rebase hS ?_; clear hS; intro hS
  refine d_take (i := 1) (L' := #[true, true, false, false, false, false, false, false, false, false, false, false, false, false, false]) rfl (by kernel_rfl) rfl (fun _ _ _ h => h) hA (by decide) rfl hS (fun a w' hA hS' => run_ld (hA.ev rfl) (run_loadS Try.isAgg22 ((At.seg1 (hM.box (.s .z)) 2 rfl).extB hS'))) ?_; clear hA; intro a hA
  refine d_takef (i := 3) (L' := #[true, true, false, true, false, false, false, false, false, false, false, false, false, false, false]) rfl (by kernel_rfl) rfl (fun _ _ _ h => h) hA (by decide) (fun _ => hS) (fun a w' hA => run_field' Try.underlying39 rfl rfl Try.sizeOf36 (by decide) (hA.ev rfl)) ?_; clear hA; intro a hA
  refine d_take (i := 4) (L' := #[true, true, false, true, true, false, false, false, false, false, false, false, false, false, false]) rfl (by kernel_rfl) rfl (fun _ _ _ h => h) hA (by decide) rfl hS (fun a w' hA hS' => run_ld (hA.ev rfl) (run_loadS Try.isAgg36 ((At.seg1 (hM.box (.s .z)) 3 rfl).extB hS'))) ?_; clear hA; intro a hA
  refine d_takef (i := 6) (L' := #[true, true, false, true, true, false, true, false, false, false, false, false, false, false, false]) rfl (by kernel_rfl) rfl (fun _ _ _ h => h) hA (by decide) (fun _ => hS) (fun a w' hA => run_field' Try.underlying39 rfl rfl Try.sizeOf37 (by decide) (hA.ev rfl)) ?_; clear hA; intro a hA
  refine d_take (i := 7) (L' := #[true, true, false, true, true, false, true, true, false, false, false, false, false, false, false]) rfl (by kernel_rfl) rfl (fun _ _ _ h => h) hA (by decide) rfl hS (fun a w' hA hS' => run_ld (hA.ev rfl) (run_loadS Try.isAgg37 ((At.seg1 (hM.box (.s .z)) 4 rfl).extB hS'))) ?_; clear hA; intro a hA
  obtain ⟨r42, H43, H⟩ := Option.bind_eq_some_iff.1 H
  refine d_one (i := 2) (L' := #[true, true, true, true, true, false, true, true, false, false, false, false, false, false, false]) (by kernel_rfl) rfl rfl (st_call Try.call45 hA [(.slice A0_2 r_0.Routes.length c0_2)] rfl (by decide) (slices_Clone_int.calls _ _ _ _ _ _ ((RoV.mk (hM.roC (Ms := []) hr0_2) (Eq.refl r_0.Routes.length) hc0_2)) (hM.front (Ms := [])) H43) ?_)
  clear hA; rintro _ w44 ⟨v45, rfl, hMc⟩ a hA
  have hE := hMc.below; have hM := hM.call (Ms := []) hMc
  have hlw46 : ∀ k, _ → w40.heap.size ≤ k := fun k hk => Nat.le_trans hS.size ((hMc.low _ (List.Mem.head _) k hk).resolve_right (by simp))
  clear hMc; simp only [List.cons_append, List.nil_append] at hM
  obtain ⟨A47, c48, rfl⟩ := RowOk.form (hM.row (p := (Pl.int .i64)) .z)
  replace hS := hS.trans (hE.mono hS.size)
  refine ⟨fun _ => hS, ?_⟩
  refine d_takef (i := 9) (L' := #[true, true, true, true, true, false, true, true, false, true, false, false, false, false, false]) rfl (by kernel_rfl) rfl (fun _ _ _ h => h) hA (by decide) (fun _ => hS) (fun a w' hA => run_field' Try.underlying39 rfl rfl Try.sizeOf22 (by decide) (hA.ev rfl)) ?_; clear hA; intro a hA
  obtain ⟨r49, H50, H⟩ := Option.bind_eq_some_iff.1 H
  refine d_one (i := 5) (L' := #[true, true, true, true, true, true, true, true, false, true, false, false, false, false, false]) (by kernel_rfl) rfl rfl (st_call Try.call46 hA [(.slice A0_3 r_0.Stems.length c0_3)] rfl (by decide) (slices_Clone_Stem.calls _ _ _ _ _ _ ((RoV.mk (hM.roC (Ms := []) hr0_3) (Eq.refl r_0.Stems.length) hc0_3)) (hM.front (Ms := [])) H50) ?_)
  clear hA; rintro _ w51 ⟨v52, rfl, hMc⟩ a hA
  have hE := hMc.below; have hM := hM.call (Ms := []) hMc
  have hlw53 : ∀ k, _ → w40.heap.size ≤ k := fun k hk => Nat.le_trans hS.size ((hMc.low _ (List.Mem.head _) k hk).resolve_right (by simp))
  clear hMc; simp only [List.cons_append, List.nil_append] at hM
  obtain ⟨A54, c55, rfl⟩ := RowOk.form (hM.row (p := pStem) .z)
  replace hS := hS.trans (hE.mono hS.size)
  refine ⟨fun _ => hS, ?_⟩
  obtain ⟨r56, H57, H⟩ := Option.bind_eq_some_iff.1 H
  refine d_one (i := 8) (L' := #[true, true, true, true, true, true, true, true, true, true, false, false, false, false, false]) (by kernel_rfl) rfl rfl (st_call Try.call47 hA [(.slice A0_4 r_0.Fluffed.length c0_4)] rfl (by decide) (slices_Clone_Hash.calls _ _ _ _ _ _ ((RoV.mk (hM.roC (Ms := []) hr0_4) (Eq.refl r_0.Fluffed.length) hc0_4)) (hM.front (Ms := [])) H57) ?_)
  clear hA; rintro _ w58 ⟨v59, rfl, hMc⟩ a hA
  have hE := hMc.below; have hM := hM.call (Ms := []) hMc
  have hlw60 : ∀ k, _ → w40.heap.size ≤ k := fun k hk => Nat.le_trans hS.size ((hMc.low _ (List.Mem.head _) k hk).resolve_right (by simp))
  clear hMc; simp only [List.cons_append, List.nil_append] at hM
  obtain ⟨A61, c62, rfl⟩ := RowOk.form (hM.row (p := pHash) .z)
  replace hS := hS.trans (hE.mono hS.size)
  refine ⟨fun _ => hS, ?_⟩
  refine d_one (i := 10) (L' := #[true, true, true, true, true, true, true, true, true, true, true, false, false, false, false]) (by kernel_rfl) rfl rfl (e_store (g := g34) (off := 2) (cur := [(.int .u32 r_0.Epoch), (.bool r_0.Diffuse), (.slice A0_2 r_0.Routes.length c0_2), (.slice A0_3 r_0.Stems.length c0_3), (.slice A0_4 r_0.Fluffed.length c0_4)]) (cs' := [(.int .u32 r_0.Epoch), (.bool r_0.Diffuse), (.slice A47 r42.length c48), (.slice A0_3 r_0.Stems.length c0_3), (.slice A0_4 r_0.Fluffed.length c0_4)]) hM (.s (.s (.s (.s .z)))) Try.sizeOf22 hA rfl (by simp [add_mk]) rfl (by first | rfl | simp [Value.cells, Pl.len]) (one_val rfl) (by first | exact Nat.le_of_ble_eq_true rfl | (simp [Pl.len]; done)) (rfl) ?_)
  clear hM hA; intro w63  hM hE  a hA
  refine ⟨fun h => absurd h (by decide), ?_⟩
  refine d_takef (i := 11) (L' := #[true, true, true, true, true, true, true, true, true, true, true, true, false, false, false]) rfl (by kernel_rfl) rfl (fun _ _ _ h => h) hA (by decide) (fun h => absurd h (by decide)) (fun a w' hA => run_field' Try.underlying39 rfl rfl Try.sizeOf36 (by decide) (hA.ev rfl)) ?_; clear hA; intro a hA
  refine d_one (i := 12) (L' := #[true, true, true, true, true, true, true, true, true, true, true, true, true, false, false]) (by kernel_rfl) rfl rfl (e_store (g := g34) (off := 3) (cur := [(.int .u32 r_0.Epoch), (.bool r_0.Diffuse), (.slice A47 r42.length c48), (.slice A0_3 r_0.Stems.length c0_3), (.slice A0_4 r_0.Fluffed.length c0_4)]) (cs' := [(.int .u32 r_0.Epoch), (.bool r_0.Diffuse), (.slice A47 r42.length c48), (.slice A54 r49.length c55), (.slice A0_4 r_0.Fluffed.length c0_4)]) hM (.s (.s (.s (.s .z)))) Try.sizeOf36 hA rfl (by simp [add_mk]) rfl (by first | rfl | simp [Value.cells, Pl.len]) (one_val rfl) (by first | exact Nat.le_of_ble_eq_true rfl | (simp [Pl.len]; done)) (rfl) ?_)
  clear hM hA; intro w64  hM hE  a hA
  refine ⟨fun h => absurd h (by decide), ?_⟩
  refine d_takef (i := 13) (L' := #[true, true, true, true, true, true, true, true, true, true, true, true, true, true, false]) rfl (by kernel_rfl) rfl (fun _ _ _ h => h) hA (by decide) (fun h => absurd h (by decide)) (fun a w' hA => run_field' Try.underlying39 rfl rfl Try.sizeOf37 (by decide) (hA.ev rfl)) ?_; clear hA; intro a hA
  refine d_one (i := 14) (L' := #[true, true, true, true, true, true, true, true, true, true, true, true, true, true, true]) (by kernel_rfl) rfl rfl (e_store (g := g34) (off := 4) (cur := [(.int .u32 r_0.Epoch), (.bool r_0.Diffuse), (.slice A47 r42.length c48), (.slice A54 r49.length c55), (.slice A0_4 r_0.Fluffed.length c0_4)]) (cs' := [(.int .u32 r_0.Epoch), (.bool r_0.Diffuse), (.slice A47 r42.length c48), (.slice A54 r49.length c55), (.slice A61 r56.length c62)]) hM (.s (.s (.s (.s .z)))) Try.sizeOf37 hA rfl (by simp [add_mk]) rfl (by first | rfl | simp [Value.cells, Pl.len]) (one_val rfl) (by first | exact Nat.le_of_ble_eq_true rfl | (simp [Pl.len]; done)) (rfl) ?_)
  clear hM hA; intro w65  hM hE  a hA
  refine ⟨fun h => absurd h (by decide), ?_⟩
  refine d_done (by kernel_rfl) ?_
  refine TN ?_
  refine wp_seq ?_
  refine wp_region_lit ?_
  refine L1 (stv hA (by decide) (run_ld (hA.ev rfl) (run_loadW Try.isAgg39 Try.sizeOf39 (by simp [Pl.len]; try rfl) (hM.box (.s (.s (.s (.s .z))))))) ?_)
  clear hA; intro a hA
  refine L1 (e_store (g := g37) (off := 0) (cur := [(.int .u32 0), (.bool false), (.slice none 0 0), (.slice none 0 0), (.slice none 0 0)]) (cs' := [(.int .u32 r_0.Epoch), (.bool r_0.Diffuse), (.slice A47 r42.length c48), (.slice A54 r49.length c55), (.slice A61 r56.length c62)]) hM (.s (.s (.s .z))) Try.sizeOf39 hA rfl (by simp [add_mk]) rfl (by first | rfl | simp [Value.cells, Pl.len]) (by simp [Value.cells, Value.oneCell']) (by first | exact Nat.le_of_ble_eq_true rfl | (simp [Pl.len]; done)) (spl_all (by first | rfl | simp [Value.cells, Pl.len])) ?_)
  clear hM hA; intro w66  hM hE  a hA
  refine LQ ?_
  refine TN ?_
  refine wp_ret ?_
  obtain rfl := Option.some.inj H
  exact ret_cell (fn := Try.f32) hA rfl rfl (run_loadW Try.isAgg39 Try.sizeOf39 (by simp [Pl.len]; try rfl) (hM.box (.s (.s (.s .z))))) ⟨_, rfl, (.slice A47 r42.length c48), (.slice A54 r49.length c55), (.slice A61 r56.length c62), rfl, (hM.sel [2, 1, 0] rfl (by decide))⟩

def relay_Fluff.l0 (id_1 : (Vector Int 32)) (r792 : Relay) : Nat → Int → Option (Out Int (Unit))
  | 0, _ => none
  | k + 1, t1305 => (if (decide (t1305 < ((r792.Stems.length : Nat) : Int))) = true then (if 0 ≤ t1305 ∧ t1305 < ((r792.Stems.length : Nat) : Int) then (if (((r792.Stems.getD t1305.toNat Stem.z).ID) == id_1) = true then (some (.ret t1305)) else (relay_Fluff.l0 id_1 r792 k (IntKind.i64.wrap (t1305 + 1)))) else none) else (some (.go ())))
def relay_Fluff.l1 (id_1 : (Vector Int 32)) (r792 : Relay) : Nat → (List Stem) → Int → Int → Option ((List Stem) × Int)
  | 0, _, _, _ => none
  | k + 1, xs1462, i1465, j1467 => (if (decide (j1467 < ((r792.Stems.length : Nat) : Int))) = true then (if 0 ≤ j1467 ∧ j1467 < ((r792.Stems.length : Nat) : Int) then (Option.bind (α := (List Stem) × Int) (if (!(((xs1462.getD j1467.toNat Stem.z).ID) == id_1)) = true then (if 0 ≤ i1465 ∧ i1465 < ((r792.Stems.length : Nat) : Int) then (some ((xs1462.set i1465.toNat (xs1462.getD j1467.toNat Stem.z)), IntKind.i64.wrap (i1465 + 1))) else none) else (some (xs1462, i1465))) (fun st => match st with | (xs1500, i1503) => (relay_Fluff.l1 id_1 r792 k xs1500 i1503 (IntKind.i64.wrap (j1467 + 1))))) else none) else (some (xs1462, i1465)))
def relay_Fluff.f (k : Nat) (r_0 : Relay) (id_1 : (Vector Int 32)) : Option (Relay × Int) := ((relay_sound.f k (Relay.mk r_0.Epoch r_0.Diffuse r_0.Routes r_0.Stems r_0.Fluffed)).bind fun r771 => (if (!r771) = true then (some ((Relay.mk 0 false ([] : List Int) ([] : List Stem) ([] : List (Vector Int 32))), 6)) else ((slices_Contains_Hash.f k r_0.Fluffed id_1).bind fun r779 => (if r779 = true then (some ((Relay.mk 0 false ([] : List Int) ([] : List Stem) ([] : List (Vector Int 32))), 150)) else (if (decide (((r_0.Fluffed.length : Nat) : Int) ≥ 2048)) = true then (some ((Relay.mk 0 false ([] : List Int) ([] : List Stem) ([] : List (Vector Int 32))), 380)) else ((relay_clone.f k (Relay.mk r_0.Epoch r_0.Diffuse r_0.Routes r_0.Stems r_0.Fluffed)).bind fun r792 => (Option.bind (α := (List Stem)) (Option.bind (α := Int) (Option.bind (α := Out Int (Unit)) (relay_Fluff.l0 id_1 r792 k 0) (fun o => match o with | .ret r => some r | .go _ => (some (-1)))) (fun t1245 => (if (t1245 == (-1)) = true then (some r792.Stems) else (Option.bind (α := (List Stem) × Int) (relay_Fluff.l1 id_1 r792 k r792.Stems t1245 (IntKind.i64.wrap (t1245 + 1))) (fun st => match st with | (xs1469, i1471) => (if 0 ≤ i1471 ∧ i1471 ≤ ((r792.Stems.length : Nat) : Int) then (if 0 ≤ i1471 ∧ i1471 ≤ ((r792.Stems.length : Nat) : Int) then (some ((xs1469.take i1471.toNat ++ List.replicate (r792.Stems.length - i1471.toNat) Stem.z).take i1471.toNat)) else none) else none)))))) (fun xs1165 => (if (r792.Fluffed.length + 1) * 32 ≤ 140737488355328 then (some ((Relay.mk r792.Epoch r792.Diffuse r792.Routes xs1165 (r792.Fluffed ++ [id_1])), 0)) else none)))))))))
set_option maxHeartbeats 2000000 in
set_option maxRecDepth 100000 in
theorem relay_Fluff.calls (k : Nat) (r_0 : Relay) (id_1 : (Vector Int 32)) (F : List (Option Nat)) (v0_2 : Value) (v0_3 : Value) (v0_4 : Value) (r : (Relay × Int)) (w0 : World) (h0_2 : RoV F (Pl.int .i64) w0 v0_2 r_0.Routes) (h0_3 : RoV F pStem w0 v0_3 r_0.Stems) (h0_4 : RoV F pHash w0 v0_4 r_0.Fluffed) (hM : Mem F w0 w0 []) (H : relay_Fluff.f k r_0 id_1 = some r) :
    Calls Try.prog 15 #[(.agg #[(.int .u32 r_0.Epoch), (.bool r_0.Diffuse), v0_2, v0_3, v0_4]), (.agg (pHash.enc id_1).toArray)] w0 fun e w' => ∃ v, e = .returned v ∧ ∃ (ur_0_2 : Value) (ur_0_3 : Value) (ur_0_4 : Value), v = (.tuple #[(.agg #[(.int .u32 r.1.Epoch), (.bool r.1.Diffuse), ur_0_2, ur_0_3, ur_0_4]), (.int .i64 r.2)]) ∧ Mem F w0 w' [.row 3 (Pl.int .i64).sz ur_0_2 ((Pl.int .i64).flat r.1.Routes), .row 61 pStem.sz ur_0_3 (pStem.flat r.1.Stems), .row 34 pHash.sz ur_0_4 (pHash.flat r.1.Fluffed)] := by
  unfold relay_Fluff.f at H
  obtain ⟨A0_2, c0_2, rfl, hr0_2, hc0_2⟩ := h0_2
  obtain ⟨A0_3, c0_3, rfl, hr0_3, hc0_3⟩ := h0_3
  obtain ⟨A0_4, c0_4, rfl, hr0_4, hc0_4⟩ := h0_4
  refine enterL (n := 37) [(.agg #[(.int .u32 r_0.Epoch), (.bool r_0.Diffuse), (.slice A0_2 r_0.Routes.length c0_2), (.slice A0_3 r_0.Stems.length c0_3), (.slice A0_4 r_0.Fluffed.length c0_4)]), (.agg (pHash.enc id_1).toArray)] Try.func15 rfl rfl rfl ?_
  intro a hA
  refine wp_seq ?_
  refine wp_region_lit ?_
  refine L1 (e_box (cs := [(.int .u32 r_0.Epoch), (.bool r_0.Diffuse), (.slice A0_2 r_0.Routes.length c0_2), (.slice A0_3 r_0.Stems.length c0_3), (.slice A0_4 r_0.Fluffed.length c0_4)]) hM hA rfl rfl (by decide) ?_)
  clear hM hA; intro w763 g762 hM hE  a hA
  refine L1 (e_box (cs := (pHash.enc id_1)) hM hA rfl rfl (by decide) ?_)
  clear hM hA; intro w766 g765 hM hE  a hA
  refine L1 (e_alloc (cs := [(.int .u32 0), (.bool false), (.slice none 0 0), (.slice none 0 0), (.slice none 0 0)]) hM zero39 rfl hA (by decide) ?_)
  clear hM hA; intro w769 g768 hM hE  a hA
  refine L1 (stv hA (by decide) (run_assign (hA.ev rfl)) ?_)
  clear hA; intro a hA
  refine LQ ?_
  refine TN ?_
  refine wp_seq ?_
  refine wp_block ?_
  refine wp_seq ?_
  refine wp_region_lit ?_
  refine L1 (stv hA (by decide) (run_ld (hA.ev rfl) (run_loadW Try.isAgg39 Try.sizeOf39 (by simp [Pl.len]; try rfl) (hM.box (.s (.s .z))))) ?_)
  clear hA; intro a hA
  obtain ⟨r771, H772, H⟩ := Option.bind_eq_some_iff.1 H
  refine L1 (st_call Try.call30 hA [(.agg #[(.int .u32 r_0.Epoch), (.bool r_0.Diffuse), (.slice A0_2 r_0.Routes.length c0_2), (.slice A0_3 r_0.Stems.length c0_3), (.slice A0_4 r_0.Fluffed.length c0_4)])] rfl (by decide) (relay_sound.calls _ (Relay.mk r_0.Epoch r_0.Diffuse r_0.Routes r_0.Stems r_0.Fluffed) _ _ _ _ _ _ ((RoV.mk (hM.roC (Ms := []) hr0_2) (Eq.refl r_0.Routes.length) hc0_2)) ((RoV.mk (hM.roC (Ms := []) hr0_3) (Eq.refl r_0.Stems.length) hc0_3)) ((RoV.mk (hM.roC (Ms := []) hr0_4) (Eq.refl r_0.Fluffed.length) hc0_4)) (hM.front (Ms := [])) H772) ?_)
  clear hA; rintro _ w773 ⟨rfl, hMc⟩ a hA
  have hE := hMc.below; have hM := hM.call (Ms := []) hMc
  clear hMc; simp only [List.cons_append, List.nil_append] at hM
  refine L1 (stv hA (by decide) (run_not (hA.ev rfl)) ?_)
  clear hA; intro a hA
  refine L1 (stv hA (by decide) (run_assign (hA.ev rfl)) ?_)
  clear hA; intro a hA
  refine LQ ?_
  refine TN ?_
  refine tcond (b := (!r771)) hA rfl (fun hb774 => ?_) (fun hb774 => ?_)
  · replace H := ite_t hb774 H
    refine wp_seq ?_
    refine wp_region_lit ?_
    refine L1 (stv hA (by decide) (run_build (cells := #[(.int .u32 0), (.bool false), (.slice none 0 0), (.slice none 0 0), (.slice none 0 0)]) [] zero39 Try.underlying39 (ss := [1, 1, 1, 1, 1]) ⟨Try.sizeOf35, Try.sizeOf4, Try.sizeOf22, Try.sizeOf36, Try.sizeOf37, trivial⟩ hA rfl (by rfl)) ?_)
    clear hA; intro a hA
    refine L1 (e_store (g := g768) (off := 0) (cur := [(.int .u32 0), (.bool false), (.slice none 0 0), (.slice none 0 0), (.slice none 0 0)]) (cs' := [(.int .u32 0), (.bool false), (.slice none 0 0), (.slice none 0 0), (.slice none 0 0)]) hM .z Try.sizeOf39 hA rfl (by simp [add_mk]) rfl (by first | rfl | simp [Value.cells, Pl.len]) (by simp [Value.cells, Value.oneCell']) (by first | exact Nat.le_of_ble_eq_true rfl | (simp [Pl.len]; done)) (spl_all (by first | rfl | simp [Value.cells, Pl.len])) ?_)
    clear hM hA; intro w775  hM hE  a hA
    refine L1 (stv hA (by decide) (run_assign (hA.ev rfl)) ?_)
    clear hA; intro a hA
    refine LQ ?_
    refine TN ?_
    refine wp_ret ?_
    have hM := hM.addnil 3 ((Pl.int .i64)).sz
    have hM := hM.addnil 61 (pStem).sz
    have hM := hM.addnil 34 (pHash).sz
    obtain rfl := Option.some.inj H
    refine BR ?_
    refine TR ?_
    exact ret_mix2 (fn := Try.f15) hA rfl (RV.cell rfl (run_loadW Try.isAgg39 Try.sizeOf39 (by simp [Pl.len]; try rfl) (hM.box (.s (.s (.s .z)))))) (RV.tmp rfl) ⟨_, rfl, (.slice none 0 0), (.slice none 0 0), (.slice none 0 0), rfl, (hM.sel [2, 1, 0] rfl (by decide))⟩
  · replace H := ite_f hb774 H
    refine wp_seq ?_
    refine wp_region_lit ?_
    refine L1 (stv hA (by decide) (run_field' Try.underlying39 rfl rfl Try.sizeOf37 (by decide) (hA.ev rfl)) ?_)
    clear hA; intro a hA
    refine L1 (stv hA (by decide) (run_ld (hA.ev rfl) (run_loadS Try.isAgg37 (At.seg1 (hM.box (.s (.s .z))) 4 rfl))) ?_)
    clear hA; intro a hA
    refine L1 (stv hA (by decide) (run_ld (hA.ev rfl) (run_loadP Try.isAgg34 Try.sizeOf34 (hM.box (.s .z)))) ?_)
    clear hA; intro a hA
    obtain ⟨r779, H780, H⟩ := Option.bind_eq_some_iff.1 H
    refine L1 (st_call Try.call31 hA [(.slice A0_4 r_0.Fluffed.length c0_4), (.agg (pHash.enc id_1).toArray)] rfl (by decide) (slices_Contains_Hash.calls _ _ _ _ _ _ _ ((RoV.mk (hM.roC (Ms := []) hr0_4) (Eq.refl r_0.Fluffed.length) hc0_4)) (hM.front (Ms := [])) H780) ?_)
    clear hA; rintro _ w781 ⟨rfl, hMc⟩ a hA
    have hE := hMc.below; have hM := hM.call (Ms := []) hMc
    clear hMc; simp only [List.cons_append, List.nil_append] at hM
    refine L1 (stv hA (by decide) (run_assign (hA.ev rfl)) ?_)
    clear hA; intro a hA
    refine LQ ?_
    refine TN ?_
    refine tcond (b := r779) hA rfl (fun hb782 => ?_) (fun hb782 => ?_)
    · replace H := ite_t hb782 H
      refine wp_seq ?_
      refine wp_region_lit ?_
      refine L1 (stv hA (by decide) (run_build (cells := #[(.int .u32 0), (.bool false), (.slice none 0 0), (.slice none 0 0), (.slice none 0 0)]) [] zero39 Try.underlying39 (ss := [1, 1, 1, 1, 1]) ⟨Try.sizeOf35, Try.sizeOf4, Try.sizeOf22, Try.sizeOf36, Try.sizeOf37, trivial⟩ hA rfl (by rfl)) ?_)
      clear hA; intro a hA
      refine L1 (e_store (g := g768) (off := 0) (cur := [(.int .u32 0), (.bool false), (.slice none 0 0), (.slice none 0 0), (.slice none 0 0)]) (cs' := [(.int .u32 0), (.bool false), (.slice none 0 0), (.slice none 0 0), (.slice none 0 0)]) hM .z Try.sizeOf39 hA rfl (by simp [add_mk]) rfl (by first | rfl | simp [Value.cells, Pl.len]) (by simp [Value.cells, Value.oneCell']) (by first | exact Nat.le_of_ble_eq_true rfl | (simp [Pl.len]; done)) (spl_all (by first | rfl | simp [Value.cells, Pl.len])) ?_)
      clear hM hA; intro w783  hM hE  a hA
      refine L1 (stv hA (by decide) (run_assign (hA.ev rfl)) ?_)
      clear hA; intro a hA
      refine LQ ?_
      refine TN ?_
      refine wp_ret ?_
      have hM := hM.addnil 3 ((Pl.int .i64)).sz
      have hM := hM.addnil 61 (pStem).sz
      have hM := hM.addnil 34 (pHash).sz
      obtain rfl := Option.some.inj H
      refine BR ?_
      refine TR ?_
      exact ret_mix2 (fn := Try.f15) hA rfl (RV.cell rfl (run_loadW Try.isAgg39 Try.sizeOf39 (by simp [Pl.len]; try rfl) (hM.box (.s (.s (.s .z)))))) (RV.tmp rfl) ⟨_, rfl, (.slice none 0 0), (.slice none 0 0), (.slice none 0 0), rfl, (hM.sel [2, 1, 0] rfl (by decide))⟩
    · replace H := ite_f hb782 H
      refine wp_seq ?_
      refine wp_region_lit ?_
      refine L1 (stv hA (by decide) (run_field' Try.underlying39 rfl rfl Try.sizeOf37 (by decide) (hA.ev rfl)) ?_)
      clear hA; intro a hA
      refine L1 (stv hA (by decide) (run_ld (hA.ev rfl) (run_loadS Try.isAgg37 (At.seg1 (hM.box (.s (.s .z))) 4 rfl))) ?_)
      clear hA; intro a hA
      refine L1 (stv hA (by decide) (run_len_slice Try.underlying37 (hA.ev rfl)) ?_)
      clear hA; intro a hA
      refine L1 (stv hA (by decide) (run_bin (hA.ev rfl) (hA.ev rfl) (bin_geq _ _ _ _)) ?_)
      clear hA; intro a hA
      refine L1 (stv hA (by decide) (run_assign (hA.ev rfl)) ?_)
      clear hA; intro a hA
      refine LQ ?_
      refine TN ?_
      refine tcond (b := (decide (((r_0.Fluffed.length : Nat) : Int) ≥ 2048))) hA rfl (fun hb787 => ?_) (fun hb787 => ?_)
      · replace H := ite_t hb787 H
        refine wp_seq ?_
        refine wp_region_lit ?_
        refine L1 (stv hA (by decide) (run_build (cells := #[(.int .u32 0), (.bool false), (.slice none 0 0), (.slice none 0 0), (.slice none 0 0)]) [] zero39 Try.underlying39 (ss := [1, 1, 1, 1, 1]) ⟨Try.sizeOf35, Try.sizeOf4, Try.sizeOf22, Try.sizeOf36, Try.sizeOf37, trivial⟩ hA rfl (by rfl)) ?_)
        clear hA; intro a hA
        refine L1 (e_store (g := g768) (off := 0) (cur := [(.int .u32 0), (.bool false), (.slice none 0 0), (.slice none 0 0), (.slice none 0 0)]) (cs' := [(.int .u32 0), (.bool false), (.slice none 0 0), (.slice none 0 0), (.slice none 0 0)]) hM .z Try.sizeOf39 hA rfl (by simp [add_mk]) rfl (by first | rfl | simp [Value.cells, Pl.len]) (by simp [Value.cells, Value.oneCell']) (by first | exact Nat.le_of_ble_eq_true rfl | (simp [Pl.len]; done)) (spl_all (by first | rfl | simp [Value.cells, Pl.len])) ?_)
        clear hM hA; intro w788  hM hE  a hA
        refine L1 (stv hA (by decide) (run_assign (hA.ev rfl)) ?_)
        clear hA; intro a hA
        refine LQ ?_
        refine TN ?_
        refine wp_ret ?_
        have hM := hM.addnil 3 ((Pl.int .i64)).sz
        have hM := hM.addnil 61 (pStem).sz
        have hM := hM.addnil 34 (pHash).sz
        obtain rfl := Option.some.inj H
        refine BR ?_
        refine TR ?_
        exact ret_mix2 (fn := Try.f15) hA rfl (RV.cell rfl (run_loadW Try.isAgg39 Try.sizeOf39 (by simp [Pl.len]; try rfl) (hM.box (.s (.s (.s .z)))))) (RV.tmp rfl) ⟨_, rfl, (.slice none 0 0), (.slice none 0 0), (.slice none 0 0), rfl, (hM.sel [2, 1, 0] rfl (by decide))⟩
      · replace H := ite_f hb787 H
        refine wp_skip ?_
        refine BN ?_
        refine TN ?_
        refine wp_seq ?_
        refine wp_region_lit ?_
        refine L1 (stv hA (by decide) (run_ld (hA.ev rfl) (run_loadW Try.isAgg39 Try.sizeOf39 (by simp [Pl.len]; try rfl) (hM.box (.s (.s .z))))) ?_)
        clear hA; intro a hA
        obtain ⟨r792, H793, H⟩ := Option.bind_eq_some_iff.1 H
        refine L1 (st_call Try.call32 hA [(.agg #[(.int .u32 r_0.Epoch), (.bool r_0.Diffuse), (.slice A0_2 r_0.Routes.length c0_2), (.slice A0_3 r_0.Stems.length c0_3), (.slice A0_4 r_0.Fluffed.length c0_4)])] rfl (by decide) (relay_clone.calls _ (Relay.mk r_0.Epoch r_0.Diffuse r_0.Routes r_0.Stems r_0.Fluffed) _ _ _ _ _ _ ((RoV.mk (hM.roC (Ms := []) hr0_2) (Eq.refl r_0.Routes.length) hc0_2)) ((RoV.mk (hM.roC (Ms := []) hr0_3) (Eq.refl r_0.Stems.length) hc0_3)) ((RoV.mk (hM.roC (Ms := []) hr0_4) (Eq.refl r_0.Fluffed.length) hc0_4)) (hM.front (Ms := [])) H793) ?_)
        clear hA; rintro _ w794 ⟨v795, v796, v797, rfl, hMc⟩ a hA
        have hE := hMc.below; have hM := hM.call (Ms := []) hMc
        clear hMc; simp only [List.cons_append, List.nil_append] at hM
        obtain ⟨A799, c800, rfl⟩ := RowOk.form (hM.row (p := (Pl.int .i64)) .z)
        obtain ⟨A802, c803, rfl⟩ := RowOk.form (hM.row (p := pStem) (.s .z))
        obtain ⟨A805, c806, rfl⟩ := RowOk.form (hM.row (p := pHash) (.s (.s .z)))
        refine L1 (e_store (g := g762) (off := 0) (cur := [(.int .u32 r_0.Epoch), (.bool r_0.Diffuse), (.slice A0_2 r_0.Routes.length c0_2), (.slice A0_3 r_0.Stems.length c0_3), (.slice A0_4 r_0.Fluffed.length c0_4)]) (cs' := [(.int .u32 r792.Epoch), (.bool r792.Diffuse), (.slice A799 r792.Routes.length c800), (.slice A802 r792.Stems.length c803), (.slice A805 r792.Fluffed.length c806)]) hM (.s (.s (.s (.s (.s .z))))) Try.sizeOf39 hA rfl (by simp [add_mk]) rfl (by first | rfl | simp [Value.cells, Pl.len]) (by simp [Value.cells, Value.oneCell']) (by first | exact Nat.le_of_ble_eq_true rfl | (simp [Pl.len]; done)) (spl_all (by first | rfl | simp [Value.cells, Pl.len])) ?_)
        clear hM hA; intro w807  hM hE  a hA
        refine LQ ?_
        refine TN ?_
        refine wp_seq ?_
        refine wp_region_lit ?_
        refine L1 (stv hA (by decide) (run_field' Try.underlying39 rfl rfl Try.sizeOf36 (by decide) (hA.ev rfl)) ?_)
        clear hA; intro a hA
        refine L1 (stv hA (by decide) (run_ld (hA.ev rfl) (run_loadS Try.isAgg36 (At.seg1 (hM.box (.s (.s (.s (.s (.s .z)))))) 3 rfl))) ?_)
        clear hA; intro a hA
        refine L1 (stv hA (by decide) (run_fn2 hA [(.pointer (some (⟨g765, 0, none⟩)))] rfl) ?_)
        clear hA; intro a hA
        refine L1 (inl_call Try.call33 hA [(.slice A802 r792.Stems.length c803), (.func (.func 34) #[] #[(.pointer (some (⟨g765, 0, none⟩)))])] rfl (by decide) ?_)
        obtain ⟨o1167, H1166, H⟩ := Option.bind_eq_some_iff.1 H
        refine (show Calls Try.prog 33 _ w807 (fun e w => ∃ v, e = .returned v ∧ ∃ (xs1165 : (List Stem)) (v1162 : Value), xs1165 = o1167 ∧ v = v1162 ∧ Mem F w0 w [.box g762 39 [(.int .u32 r792.Epoch), (.bool r792.Diffuse), (.slice A799 r792.Routes.length c800), (.slice A802 r792.Stems.length c803), (.slice A805 r792.Fluffed.length c806)], .row 3 (Pl.int .i64).sz (.slice A799 r792.Routes.length c800) ((Pl.int .i64).flat r792.Routes), .row 34 pHash.sz (.slice A805 r792.Fluffed.length c806) (pHash.flat r792.Fluffed), .box g765 34 (pHash.enc id_1), .box g768 39 [(.int .u32 0), (.bool false), (.slice none 0 0), (.slice none 0 0), (.slice none 0 0)], .row 61 pStem.sz v1162 (pStem.flat xs1165)]) from ?_).mono ?_
        · refine enterL (n := 42) [(.slice A802 r792.Stems.length c803), (.func (.func 34) #[] #[(.pointer (some (⟨g765, 0, none⟩)))])] Try.func33 rfl rfl rfl ?_
          clear hA; intro a hA
          refine wp_seq ?_
          refine wp_region_lit ?_
          refine L1 (stv hA (by decide) (run_assign (hA.ev rfl)) ?_)
          clear hA; intro a hA
          refine LQ ?_
          refine TN ?_
          refine wp_seq ?_
          refine wp_region_lit ?_
          refine L1 (stv hA (by decide) (run_move (hA.ev rfl)) ?_)
          clear hA; intro a hA
          refine L1 (stv hA (by decide) (run_move (hA.ev rfl)) ?_)
          clear hA; intro a hA
          refine L1 (inl_call Try.call48 hA [(.slice A802 r792.Stems.length c803), (.func (.func 34) #[] #[(.pointer (some (⟨g765, 0, none⟩)))])] rfl (by decide) ?_)
          obtain ⟨o1247, H1246, H1166⟩ := Option.bind_eq_some_iff.1 H1166
          refine (show Calls Try.prog 48 _ w807 (fun e w => ∃ v, e = .returned v ∧ ∃ (t1245 : Int), t1245 = o1247 ∧ v = (.int .i64 t1245) ∧ Mem F w0 w [.row 61 pStem.sz (.slice A802 r792.Stems.length c803) (pStem.flat r792.Stems), .box g765 34 (pHash.enc id_1), .box g762 39 [(.int .u32 r792.Epoch), (.bool r792.Diffuse), (.slice A799 r792.Routes.length c800), (.slice A802 r792.Stems.length c803), (.slice A805 r792.Fluffed.length c806)], .row 3 (Pl.int .i64).sz (.slice A799 r792.Routes.length c800) ((Pl.int .i64).flat r792.Routes), .row 34 pHash.sz (.slice A805 r792.Fluffed.length c806) (pHash.flat r792.Fluffed), .box g768 39 [(.int .u32 0), (.bool false), (.slice none 0 0), (.slice none 0 0), (.slice none 0 0)]]) from ?_).mono ?_
          · refine enterL (n := 19) [(.slice A802 r792.Stems.length c803), (.func (.func 34) #[] #[(.pointer (some (⟨g765, 0, none⟩)))])] Try.func48 rfl rfl rfl ?_
            clear hA; intro a hA
            refine wp_seq ?_
            refine wp_region_lit ?_
            refine L1 (stv hA (by decide) (run_assign (hA.ev rfl)) ?_)
            clear hA; intro a hA
            refine LQ ?_
            refine TN ?_
            refine wp_seq ?_
            refine wp_seq ?_
            refine wp_region_lit ?_
            refine L1 (stv hA (by decide) (run_move (hA.ev rfl)) ?_)
            clear hA; intro a hA
            refine L1 (stv hA (by decide) (run_len_slice Try.underlying36 (hA.ev rfl)) ?_)
            clear hA; intro a hA
            refine L1 (stv hA (by decide) (run_move (hA.ev rfl)) ?_)
            clear hA; intro a hA
            refine LQ ?_
            refine TN ?_
            obtain ⟨o1307, H1306, H1246⟩ := Option.bind_eq_some_iff.1 H1246
            refine cutC (fun a w => (.go ()) = o1307 ∧ Mem F w0 w [.box g765 34 (pHash.enc id_1), .row 61 pStem.sz (.slice A802 r792.Stems.length c803) (pStem.flat r792.Stems), .box g762 39 [(.int .u32 r792.Epoch), (.bool r792.Diffuse), (.slice A799 r792.Routes.length c800), (.slice A802 r792.Stems.length c803), (.slice A805 r792.Fluffed.length c806)], .row 3 (Pl.int .i64).sz (.slice A799 r792.Routes.length c800) ((Pl.int .i64).flat r792.Routes), .row 34 pHash.sz (.slice A805 r792.Fluffed.length c806) (pHash.flat r792.Fluffed), .box g768 39 [(.int .u32 0), (.bool false), (.slice none 0 0), (.slice none 0 0), (.slice none 0 0)]] ∧ Has 19 [] a) ?_ ?_
            · refine wp_block ?_
              refine wp_loop_ghost (fun m a w => ∃ (t1305 : Int), relay_Fluff.l0 id_1 r792 m t1305 = some o1307 ∧ Mem F w0 w [.row 61 pStem.sz (.slice A802 r792.Stems.length c803) (pStem.flat r792.Stems), .box g765 34 (pHash.enc id_1), .box g762 39 [(.int .u32 r792.Epoch), (.bool r792.Diffuse), (.slice A799 r792.Routes.length c800), (.slice A802 r792.Stems.length c803), (.slice A805 r792.Fluffed.length c806)], .row 3 (Pl.int .i64).sz (.slice A799 r792.Routes.length c800) ((Pl.int .i64).flat r792.Routes), .row 34 pHash.sz (.slice A805 r792.Fluffed.length c806) (pHash.flat r792.Fluffed), .box g768 39 [(.int .u32 0), (.bool false), (.slice none 0 0), (.slice none 0 0), (.slice none 0 0)]] ∧ Has 19 [(0, (.slice A802 r792.Stems.length c803)), (1, (.func (.func 34) #[] #[(.pointer (some (⟨g765, 0, none⟩)))])), (7, (.int .i64 ((r792.Stems.length : Nat) : Int))), (8, (.int .i64 t1305))] a) k ⟨0, H1306, (hM.sel [1, 4, 5, 0, 2, 3] rfl (by decide)), ((((hA.nil.cons (hA.get 8 _ rfl)).cons (hA.get 7 _ rfl)).cons (hA.get 1 _ rfl)).cons (hA.get 0 _ rfl))⟩ ?_
              clear hM hA; rintro m1308 a w1309 ⟨t1305, H1306, hM, hA⟩
              cases m1308 with
              | zero => exact absurd H1306 (by simp [relay_Fluff.l0])
              | succ m1308 =>
              rw [relay_Fluff.l0] at H1306
              refine wp_seq ?_
              refine wp_region_lit ?_
              refine L1 (stv hA (by decide) (run_bin (hA.ev rfl) (hA.ev rfl) (bin_lss _ _ _ _)) ?_)
              clear hA; intro a hA
              refine LQ ?_
              refine TN ?_
              refine wp_seq ?_
              refine tcond (b := (decide (t1305 < ((r792.Stems.length : Nat) : Int)))) hA rfl (fun hb1310 => ?_) (fun hb1310 => ?_)
              · replace H1306 := ite_t hb1310 H1306
                refine wp_skip ?_
                refine TN ?_
                refine wp_seq ?_
                refine wp_block ?_
                refine wp_seq ?_
                refine wp_region_lit ?_
                refine L1 (stv hA (by decide) (run_move (hA.ev rfl)) ?_)
                clear hA; intro a hA
                refine L1 (stv hA (by decide) (run_assign (hA.ev rfl)) ?_)
                clear hA; intro a hA
                refine LQ ?_
                refine TN ?_
                refine wp_seq ?_
                refine wp_region_lit ?_
                refine L1 (stv hA (by decide) (run_move (hA.ev rfl)) ?_)
                clear hA; intro a hA
                refine L1 (stv hA (by decide) (run_move (hA.ev rfl)) ?_)
                clear hA; intro a hA
                refine L1 (stv hA (by decide) (run_move (hA.ev rfl)) ?_)
                clear hA; intro a hA
                obtain ⟨⟨hi1311, hj1312⟩, H1306⟩ := ite_some H1306
                obtain ⟨ad1313, hq1314, hat1315⟩ := Row.elem' (p := pStem) (RowOk.row (hM.row (p := pStem) .z)) (RowOk.len (hM.row (p := pStem) .z)) Stem.z t1305 hi1311 hj1312
                refine L1 (stv hA (by decide) (run_idx Try.underlying36 Try.sizeOf61 (hA.ev rfl) hq1314 (hA.ev rfl) hi1311 hj1312) ?_)
                clear hA; intro a hA
                refine L1 (stv hA (by decide) (run_ld (hA.ev rfl) (run_loadP Try.isAgg61 Try.sizeOf61 hat1315)) ?_)
                clear hA; intro a hA
                refine L1 (inl_callv (caps := [(.pointer (some (⟨g765, 0, none⟩)))]) Try.call34 hA rfl [(.agg (pStem.enc (r792.Stems.getD t1305.toNat Stem.z)).toArray)] rfl (by decide) ?_)
                refine enterL (n := 8) [(.agg (pStem.enc (r792.Stems.getD t1305.toNat Stem.z)).toArray), (.pointer (some (⟨g765, 0, none⟩)))] Try.func34 rfl rfl rfl ?_
                clear hA; intro a hA
                refine wp_seq ?_
                refine wp_region_lit ?_
                refine L1 (e_box (cs := (pStem.enc (r792.Stems.getD t1305.toNat Stem.z))) hM hA rfl rfl (by decide) ?_)
                clear hM hA; intro w1320 g1319 hM hE  a hA
                refine L1 (stv hA (by decide) (run_assign (hA.ev rfl)) ?_)
                clear hA; intro a hA
                refine LQ ?_
                refine TN ?_
                refine wp_seq ?_
                refine wp_region_lit ?_
                refine L1 (stv hA (by decide) (run_field' Try.underlying61 rfl rfl Try.sizeOf34 (by decide) (hA.ev rfl)) ?_)
                clear hA; intro a hA
                refine L1 (stv hA (by decide) (run_ld (hA.ev rfl) (run_loadP Try.isAgg34 Try.sizeOf34 (Stem.at_ID (hM.box .z)))) ?_)
                clear hA; intro a hA
                refine L1 (stv hA (by decide) (run_ld (hA.ev rfl) (run_loadP Try.isAgg34 Try.sizeOf34 (hM.box (.s (.s .z))))) ?_)
                clear hA; intro a hA
                refine L1 (stv hA (by decide) (run_aggeql eq_Hash rfl (by kernel_rfl) (hA.ev rfl) (hA.ev rfl)) ?_)
                clear hA; intro a hA
                refine L1 (stv hA (by decide) (run_assign (hA.ev rfl)) ?_)
                clear hA; intro a hA
                refine LQ ?_
                refine TN ?_
                refine wp_ret ?_
                refine ret_post1 (fn := Try.f34) hA rfl rfl ⟨_, rfl, ?_⟩; clear hA; intro a hA
                refine LQ ?_
                refine TN ?_
                refine tcond (b := (((r792.Stems.getD t1305.toNat Stem.z).ID) == id_1)) hA rfl (fun hb1322 => ?_) (fun hb1322 => ?_)
                · replace H1306 := ite_t hb1322 H1306
                  refine wp_seq ?_
                  refine wp_region_lit ?_
                  refine L1 (stv hA (by decide) (run_move (hA.ev rfl)) ?_)
                  clear hA; intro a hA
                  refine L1 (stv hA (by decide) (run_assign (hA.ev rfl)) ?_)
                  clear hA; intro a hA
                  refine LQ ?_
                  refine TN ?_
                  refine wp_ret ?_
                  obtain rfl := Option.some.inj H1306
                  dsimp only at H1246
                  obtain rfl := Option.some.inj H1246
                  refine BR ?_
                  refine TR ?_
                  refine TR ?_
                  refine BR ?_
                  refine TR ?_
                  refine TR ?_
                  exact ret_post1 (fn := Try.f48) hA rfl rfl ⟨_, rfl, t1305, rfl, rfl, (hM.sel [1, 2, 3, 4, 5, 6] rfl (by decide))⟩
                · replace H1306 := ite_f hb1322 H1306
                  refine wp_skip ?_
                  refine BN ?_
                  refine TN ?_
                  refine wp_region_lit ?_
                  refine L1 (stv hA (by decide) (run_bin (hA.ev rfl) (hA.ev rfl) (bin_add _ _ _ _)) ?_)
                  clear hA; intro a hA
                  refine L1 (stv hA (by decide) (run_move (hA.ev rfl)) ?_)
                  clear hA; intro a hA
                  refine LQ ?_
                  exact ⟨_, Nat.lt_succ_self m1308, IntKind.i64.wrap (t1305 + 1), H1306, (hM.sel [1, 2, 3, 4, 5, 6] rfl (by decide)), ((((hA.nil.cons (hA.get 8 _ rfl)).cons (hA.get 7 _ rfl)).cons (hA.get 1 _ rfl)).cons (hA.get 0 _ rfl))⟩
              · replace H1306 := ite_f hb1310 H1306
                refine wp_exit ?_
                refine TX ?_
                refine TX ?_
                refine BX ?_
                exact ⟨Option.some.inj H1306, (hM.sel [1, 0, 2, 3, 4, 5] rfl (by decide)), hA.nil⟩
            clear hM hA
            rintro a w1323 ⟨rfl, hM, hA⟩
            try dsimp only at H1246
            refine TN ?_
            refine wp_seq ?_
            refine wp_region_lit ?_
            refine L1 (stv hA (by decide) (run_assign (hA.ev rfl)) ?_)
            clear hA; intro a hA
            refine LQ ?_
            refine TN ?_
            refine wp_ret ?_
            obtain rfl := Option.some.inj H1246
            exact ret_post1 (fn := Try.f48) hA rfl rfl ⟨_, rfl, (-1), rfl, rfl, (hM.sel [1, 0, 2, 3, 4, 5] rfl (by decide))⟩
          rintro e w1324 ⟨_, rfl, ⟨t1245, rfl, rfl, hM⟩⟩
          refine ⟨_, rfl, ?_⟩; clear hA; intro a hA; try dsimp only at H1166
          refine L1 (stv hA (by decide) (run_assign (hA.ev rfl)) ?_)
          clear hA; intro a hA
          refine LQ ?_
          refine TN ?_
          refine wp_seq ?_
          refine wp_seq ?_
          refine wp_region_lit ?_
          refine L1 (stv hA (by decide) (run_move (hA.ev rfl)) ?_)
          clear hA; intro a hA
          refine L1 (stv hA (by decide) (run_bin (hA.ev rfl) (hA.ev rfl) (bin_eql _ _ _ _)) ?_)
          clear hA; intro a hA
          refine LQ ?_
          refine TN ?_
          refine tcond (b := (t1245 == (-1))) hA rfl (fun hb1325 => ?_) (fun hb1325 => ?_)
          · replace H1166 := ite_t hb1325 H1166
            refine wp_seq ?_
            refine wp_region_lit ?_
            refine L1 (stv hA (by decide) (run_move (hA.ev rfl)) ?_)
            clear hA; intro a hA
            refine L1 (stv hA (by decide) (run_assign (hA.ev rfl)) ?_)
            clear hA; intro a hA
            refine LQ ?_
            refine TN ?_
            refine wp_ret ?_
            obtain rfl := Option.some.inj H1166
            refine TR ?_
            exact ret_post1 (fn := Try.f33) hA rfl rfl ⟨_, rfl, r792.Stems, (.slice A802 r792.Stems.length c803), rfl, rfl, (hM.sel [2, 3, 4, 1, 5, 0] rfl (by decide))⟩
          · replace H1166 := ite_f hb1325 H1166
            refine wp_skip ?_
            refine TN ?_
            refine wp_seq ?_
            refine wp_seq ?_
            refine wp_region_lit ?_
            refine L1 (stv hA (by decide) (run_move (hA.ev rfl)) ?_)
            clear hA; intro a hA
            refine L1 (stv hA (by decide) (run_bin (hA.ev rfl) (hA.ev rfl) (bin_add _ _ _ _)) ?_)
            clear hA; intro a hA
            refine L1 (stv hA (by decide) (run_assign (hA.ev rfl)) ?_)
            clear hA; intro a hA
            refine LQ ?_
            refine TN ?_
            obtain ⟨o1473, H1472, H1166⟩ := Option.bind_eq_some_iff.1 H1166
            refine cutC (fun a w => ∃ (xs1469 : (List Stem)) (i1471 : Int), (xs1469, i1471) = o1473 ∧ Mem F w0 w [.row 61 pStem.sz (.slice A802 r792.Stems.length c803) (pStem.flat xs1469), .box g762 39 [(.int .u32 r792.Epoch), (.bool r792.Diffuse), (.slice A799 r792.Routes.length c800), (.slice A802 r792.Stems.length c803), (.slice A805 r792.Fluffed.length c806)], .row 3 (Pl.int .i64).sz (.slice A799 r792.Routes.length c800) ((Pl.int .i64).flat r792.Routes), .row 34 pHash.sz (.slice A805 r792.Fluffed.length c806) (pHash.flat r792.Fluffed), .box g768 39 [(.int .u32 0), (.bool false), (.slice none 0 0), (.slice none 0 0), (.slice none 0 0)], .box g765 34 (pHash.enc id_1)] ∧ Has 42 [(0, (.slice A802 r792.Stems.length c803)), (5, (.int .i64 i1471))] a) ?_ ?_
            · refine wp_block ?_
              refine wp_loop_ghost (fun m a w => ∃ (xs1462 : (List Stem)) (i1465 : Int) (j1467 : Int), relay_Fluff.l1 id_1 r792 m xs1462 i1465 j1467 = some o1473 ∧ Mem F w0 w [.row 61 pStem.sz (.slice A802 r792.Stems.length c803) (pStem.flat xs1462), .box g765 34 (pHash.enc id_1), .box g762 39 [(.int .u32 r792.Epoch), (.bool r792.Diffuse), (.slice A799 r792.Routes.length c800), (.slice A802 r792.Stems.length c803), (.slice A805 r792.Fluffed.length c806)], .row 3 (Pl.int .i64).sz (.slice A799 r792.Routes.length c800) ((Pl.int .i64).flat r792.Routes), .row 34 pHash.sz (.slice A805 r792.Fluffed.length c806) (pHash.flat r792.Fluffed), .box g768 39 [(.int .u32 0), (.bool false), (.slice none 0 0), (.slice none 0 0), (.slice none 0 0)]] ∧ Has 42 [(0, (.slice A802 r792.Stems.length c803)), (1, (.func (.func 34) #[] #[(.pointer (some (⟨g765, 0, none⟩)))])), (5, (.int .i64 i1465)), (6, (.int .i64 j1467))] a) k ⟨r792.Stems, t1245, IntKind.i64.wrap (t1245 + 1), H1472, hM, ((((hA.nil.cons (hA.get 6 _ rfl)).cons (hA.get 5 _ rfl)).cons (hA.get 1 _ rfl)).cons (hA.get 0 _ rfl))⟩ ?_
              clear hM hA; rintro m1474 a w1475 ⟨xs1462, i1465, j1467, H1472, hM, hA⟩
              cases m1474 with
              | zero => exact absurd H1472 (by simp [relay_Fluff.l1])
              | succ m1474 =>
              rw [relay_Fluff.l1] at H1472
              refine wp_seq ?_
              refine wp_seq ?_
              refine wp_region_lit ?_
              refine L1 (stv hA (by decide) (run_move (hA.ev rfl)) ?_)
              clear hA; intro a hA
              refine L1 (stv hA (by decide) (run_move (hA.ev rfl)) ?_)
              clear hA; intro a hA
              refine L1 (stv hA (by decide) (run_len_slice Try.underlying36 (hA.ev rfl)) ?_)
              clear hA; intro a hA
              refine L1 (stv hA (by decide) (run_bin (hA.ev rfl) (hA.ev rfl) (bin_lss _ _ _ _)) ?_)
              clear hA; intro a hA
              refine LQ ?_
              refine TN ?_
              refine tcond (b := (decide (j1467 < ((r792.Stems.length : Nat) : Int)))) hA rfl (fun hb1476 => ?_) (fun hb1476 => ?_)
              · replace H1472 := ite_t hb1476 H1472
                refine wp_skip ?_
                refine TN ?_
                refine wp_seq ?_
                refine wp_block ?_
                refine wp_seq ?_
                refine wp_region_lit ?_
                refine L1 (stv hA (by decide) (run_move (hA.ev rfl)) ?_)
                clear hA; intro a hA
                refine L1 (stv hA (by decide) (run_move (hA.ev rfl)) ?_)
                clear hA; intro a hA
                obtain ⟨⟨hi1477, hj1478⟩, H1472⟩ := ite_some H1472
                obtain ⟨ad1479, hq1480, hat1481⟩ := Row.elem' (p := pStem) (RowOk.row (hM.row (p := pStem) .z)) (RowOk.len (hM.row (p := pStem) .z)) Stem.z j1467 hi1477 hj1478
                refine L1 (stv hA (by decide) (run_idx Try.underlying36 Try.sizeOf61 (hA.ev rfl) hq1480 (hA.ev rfl) hi1477 hj1478) ?_)
                clear hA; intro a hA
                refine L1 (stv hA (by decide) (run_ld (hA.ev rfl) (run_loadP Try.isAgg61 Try.sizeOf61 hat1481)) ?_)
                clear hA; intro a hA
                refine L1 (e_alloc (cs := (pStem.enc Stem.z)) hM zero61 rfl hA (by decide) ?_)
                clear hM hA; intro w1483 g1482 hM hE  a hA
                refine L1 (e_store (g := g1482) (off := 0) (cur := (pStem.enc Stem.z)) (cs' := (pStem.enc (xs1462.getD j1467.toNat Stem.z))) hM .z Try.sizeOf61 hA rfl (by simp [add_mk]) rfl (agg_size _ _) (agg_one _ _) (Nat.le_of_ble_eq_true (enc_fitL _ _ rfl)) (spl_all (by first | rfl | simp [Value.cells, Pl.len])) ?_)
                clear hM hA; intro w1485  hM hE  a hA
                refine LQ ?_
                refine TN ?_
                refine wp_seq ?_
                refine wp_region_lit ?_
                refine L1 (stv hA (by decide) (run_move (hA.ev rfl)) ?_)
                clear hA; intro a hA
                refine L1 (stv hA (by decide) (run_ld (hA.ev rfl) (run_loadP Try.isAgg61 Try.sizeOf61 (hM.box .z))) ?_)
                clear hA; intro a hA
                refine L1 (inl_callv (caps := [(.pointer (some (⟨g765, 0, none⟩)))]) Try.call34 hA rfl [(.agg (pStem.enc (xs1462.getD j1467.toNat Stem.z)).toArray)] rfl (by decide) ?_)
                refine enterL (n := 8) [(.agg (pStem.enc (xs1462.getD j1467.toNat Stem.z)).toArray), (.pointer (some (⟨g765, 0, none⟩)))] Try.func34 rfl rfl rfl ?_
                clear hA; intro a hA
                refine wp_seq ?_
                refine wp_region_lit ?_
                refine L1 (e_box (cs := (pStem.enc (xs1462.getD j1467.toNat Stem.z))) hM hA rfl rfl (by decide) ?_)
                clear hM hA; intro w1490 g1489 hM hE  a hA
                refine L1 (stv hA (by decide) (run_assign (hA.ev rfl)) ?_)
                clear hA; intro a hA
                refine LQ ?_
                refine TN ?_
                refine wp_seq ?_
                refine wp_region_lit ?_
                refine L1 (stv hA (by decide) (run_field' Try.underlying61 rfl rfl Try.sizeOf34 (by decide) (hA.ev rfl)) ?_)
                clear hA; intro a hA
                refine L1 (stv hA (by decide) (run_ld (hA.ev rfl) (run_loadP Try.isAgg34 Try.sizeOf34 (Stem.at_ID (hM.box .z)))) ?_)
                clear hA; intro a hA
                refine L1 (stv hA (by decide) (run_ld (hA.ev rfl) (run_loadP Try.isAgg34 Try.sizeOf34 (hM.box (.s (.s (.s .z)))))) ?_)
                clear hA; intro a hA
                refine L1 (stv hA (by decide) (run_aggeql eq_Hash rfl (by kernel_rfl) (hA.ev rfl) (hA.ev rfl)) ?_)
                clear hA; intro a hA
                refine L1 (stv hA (by decide) (run_assign (hA.ev rfl)) ?_)
                clear hA; intro a hA
                refine LQ ?_
                refine TN ?_
                refine wp_ret ?_
                refine ret_post1 (fn := Try.f34) hA rfl rfl ⟨_, rfl, ?_⟩; clear hA; intro a hA
                refine L1 (stv hA (by decide) (run_not (hA.ev rfl)) ?_)
                clear hA; intro a hA
                refine LQ ?_
                refine TN ?_
                obtain ⟨o1506, H1505, H1472⟩ := Option.bind_eq_some_iff.1 H1472
                refine cutC (fun a w => ∃ (xs1500 : (List Stem)) (i1503 : Int), (xs1500, i1503) = o1506 ∧ Mem F w0 w [.row 61 pStem.sz (.slice A802 r792.Stems.length c803) (pStem.flat xs1500), .box g765 34 (pHash.enc id_1), .box g762 39 [(.int .u32 r792.Epoch), (.bool r792.Diffuse), (.slice A799 r792.Routes.length c800), (.slice A802 r792.Stems.length c803), (.slice A805 r792.Fluffed.length c806)], .row 3 (Pl.int .i64).sz (.slice A799 r792.Routes.length c800) ((Pl.int .i64).flat r792.Routes), .row 34 pHash.sz (.slice A805 r792.Fluffed.length c806) (pHash.flat r792.Fluffed), .box g768 39 [(.int .u32 0), (.bool false), (.slice none 0 0), (.slice none 0 0), (.slice none 0 0)]] ∧ Has 42 [(0, (.slice A802 r792.Stems.length c803)), (1, (.func (.func 34) #[] #[(.pointer (some (⟨g765, 0, none⟩)))])), (5, (.int .i64 i1503)), (6, (.int .i64 j1467))] a) ?_ ?_
                · refine tcond (b := (!(((xs1462.getD j1467.toNat Stem.z).ID) == id_1))) hA rfl (fun hb1507 => ?_) (fun hb1507 => ?_)
                  · replace H1505 := ite_t hb1507 H1505
                    refine wp_seq ?_
                    refine wp_region_lit ?_
                    refine L1 (stv hA (by decide) (run_move (hA.ev rfl)) ?_)
                    clear hA; intro a hA
                    refine L1 (stv hA (by decide) (run_move (hA.ev rfl)) ?_)
                    clear hA; intro a hA
                    refine L1 (stv hA (by decide) (run_ld (hA.ev rfl) (run_loadP Try.isAgg61 Try.sizeOf61 (hM.box (.s .z)))) ?_)
                    clear hA; intro a hA
                    obtain ⟨⟨hi1508, hj1509⟩, H1505⟩ := ite_some H1505
                    obtain ⟨ad1510, hq1511, hat1512⟩ := Row.elem' (p := pStem) (RowOk.row (hM.row (p := pStem) (.s (.s .z)))) (RowOk.len (hM.row (p := pStem) (.s (.s .z)))) Stem.z i1465 hi1508 hj1509
                    refine L1 (stv hA (by decide) (run_idx Try.underlying36 Try.sizeOf61 (hA.ev rfl) hq1511 (hA.ev rfl) hi1508 hj1509) ?_)
                    clear hA; intro a hA
                    refine L1 (e_setrow (x1 := (xs1462.getD i1465.toNat Stem.z)) (y1 := (xs1462.getD j1467.toNat Stem.z)) (off := 0) hM (.s (.s .z)) Try.sizeOf61 hA rfl rfl hq1511 rfl (agg_size _ _) (agg_one _ _) hi1508 hj1509 (getD_getD _ _ _) (by decide) (spl_all (by first | rfl | simp [Value.cells, Pl.len] | (simp only [Value.cells, Pl.len, List.length_cons, List.length_nil]; done))) ?_)
                    clear hM hA; intro w1513  hM hE  a hA
                    refine LQ ?_
                    refine TN ?_
                    refine wp_region_lit ?_
                    refine L1 (stv hA (by decide) (run_move (hA.ev rfl)) ?_)
                    clear hA; intro a hA
                    refine L1 (stv hA (by decide) (run_bin (hA.ev rfl) (hA.ev rfl) (bin_add _ _ _ _)) ?_)
                    clear hA; intro a hA
                    refine L1 (stv hA (by decide) (run_assign (hA.ev rfl)) ?_)
                    clear hA; intro a hA
                    refine LQ ?_
                    exact ⟨(xs1462.set i1465.toNat (xs1462.getD j1467.toNat Stem.z)), IntKind.i64.wrap (i1465 + 1), Option.some.inj H1505, (hM.sel [2, 3, 4, 5, 6, 7] rfl (by decide)), ((((hA.nil.cons (hA.get 6 _ rfl)).cons (hA.get 5 _ rfl)).cons (hA.get 1 _ rfl)).cons (hA.get 0 _ rfl))⟩
                  · replace H1505 := ite_f hb1507 H1505
                    refine wp_skip ?_
                    exact ⟨xs1462, i1465, Option.some.inj H1505, (hM.sel [2, 3, 4, 5, 6, 7] rfl (by decide)), ((((hA.nil.cons (hA.get 6 _ rfl)).cons (hA.get 5 _ rfl)).cons (hA.get 1 _ rfl)).cons (hA.get 0 _ rfl))⟩
                clear hM hA
                rintro a w1514 ⟨xs1500, i1503, rfl, hM, hA⟩
                try dsimp only at H1472
                refine BN ?_
                refine TN ?_
                refine wp_region_lit ?_
                refine L1 (stv hA (by decide) (run_move (hA.ev rfl)) ?_)
                clear hA; intro a hA
                refine L1 (stv hA (by decide) (run_bin (hA.ev rfl) (hA.ev rfl) (bin_add _ _ _ _)) ?_)
                clear hA; intro a hA
                refine L1 (stv hA (by decide) (run_assign (hA.ev rfl)) ?_)
                clear hA; intro a hA
                refine LQ ?_
                exact ⟨_, Nat.lt_succ_self m1474, xs1500, i1503, IntKind.i64.wrap (j1467 + 1), H1472, hM, ((((hA.nil.cons (hA.get 6 _ rfl)).cons (hA.get 5 _ rfl)).cons (hA.get 1 _ rfl)).cons (hA.get 0 _ rfl))⟩
              · replace H1472 := ite_f hb1476 H1472
                refine wp_exit ?_
                refine TX ?_
                refine TX ?_
                refine BX ?_
                exact ⟨xs1462, i1465, Option.some.inj H1472, (hM.sel [0, 2, 3, 4, 5, 1] rfl (by decide)), ((hA.nil.cons (hA.get 5 _ rfl)).cons (hA.get 0 _ rfl))⟩
            clear hM hA
            rintro a w1515 ⟨xs1469, i1471, rfl, hM, hA⟩
            try dsimp only at H1166
            refine TN ?_
            refine wp_seq ?_
            refine wp_region_lit ?_
            refine L1 (stv hA (by decide) (run_move (hA.ev rfl)) ?_)
            clear hA; intro a hA
            refine L1 (stv hA (by decide) (run_move (hA.ev rfl)) ?_)
            clear hA; intro a hA
            obtain ⟨⟨hi1516, hj1517⟩, H1166⟩ := ite_some H1166
            refine L1 (stv hA (by decide) (run_lo Try.underlying36 Try.sizeOf61 (RowOk.cap (hM.row (p := pStem) .z)) hi1516 hj1517 (hA.ev rfl) (hA.ev rfl)) ?_)
            clear hA; intro a hA
            refine L1 (e_clear (lo := i1471.toNat) elt36 rfl hM .z (by omega) hA rfl ?_)
            clear hM hA; intro w1518  hM hE  a hA
            refine LQ ?_
            refine TN ?_
            refine wp_seq ?_
            refine wp_region_lit ?_
            refine L1 (stv hA (by decide) (run_move (hA.ev rfl)) ?_)
            clear hA; intro a hA
            refine L1 (stv hA (by decide) (run_move (hA.ev rfl)) ?_)
            clear hA; intro a hA
            obtain ⟨⟨hi1519, hj1520⟩, H1166⟩ := ite_some H1166
            refine L1 (stv hA (by decide) (run_hi Try.underlying36 Try.sizeOf61 (RowOk.cap (hM.row (p := pStem) .z)) hi1519 hj1520 (hA.ev rfl) (hA.ev rfl)) ?_)
            clear hA; intro a hA
            refine L1 (stv hA (by decide) (run_assign (hA.ev rfl)) ?_)
            clear hA; intro a hA
            refine LQ ?_
            refine TN ?_
            refine wp_ret ?_
            obtain rfl := Option.some.inj H1166
            have hM := hM.re (y := .row 61 pStem.sz (.slice A802 i1471.toNat c803) (pStem.flat ((xs1469.take i1471.toNat ++ List.replicate (r792.Stems.length - i1471.toNat) Stem.z).take i1471.toNat))) .z (fun h => RowOk.cuthi h (by omega)) (key_hi _ _ _ _ _)
            exact ret_post1 (fn := Try.f33) hA rfl rfl ⟨_, rfl, ((xs1469.take i1471.toNat ++ List.replicate (r792.Stems.length - i1471.toNat) Stem.z).take i1471.toNat), (.slice A802 i1471.toNat c803), rfl, rfl, (hM.sel [1, 2, 3, 5, 4, 0] rfl (by decide))⟩
        rintro e w1521 ⟨_, rfl, ⟨xs1165, v1162, rfl, rfl, hM⟩⟩
        refine ⟨_, rfl, ?_⟩; clear hA; intro a hA; try dsimp only at H
        obtain ⟨A1163, c1164, rfl⟩ := RowOk.form (hM.row (p := pStem) (.s (.s (.s (.s (.s .z))))))
        refine L1 (stv hA (by decide) (run_field' Try.underlying39 rfl rfl Try.sizeOf36 (by decide) (hA.ev rfl)) ?_)
        clear hA; intro a hA
        refine L1 (e_store (g := g762) (off := 3) (cur := [(.int .u32 r792.Epoch), (.bool r792.Diffuse), (.slice A799 r792.Routes.length c800), (.slice A802 r792.Stems.length c803), (.slice A805 r792.Fluffed.length c806)]) (cs' := [(.int .u32 r792.Epoch), (.bool r792.Diffuse), (.slice A799 r792.Routes.length c800), (.slice A1163 xs1165.length c1164), (.slice A805 r792.Fluffed.length c806)]) hM .z Try.sizeOf36 hA rfl (by simp [add_mk]) rfl (by first | rfl | simp [Value.cells, Pl.len]) (one_val rfl) (by first | exact Nat.le_of_ble_eq_true rfl | (simp [Pl.len]; done)) (rfl) ?_)
        clear hM hA; intro w1522  hM hE  a hA
        refine LQ ?_
        refine TN ?_
        refine wp_seq ?_
        refine wp_region_lit ?_
        refine L1 (stv hA (by decide) (run_field' Try.underlying39 rfl rfl Try.sizeOf37 (by decide) (hA.ev rfl)) ?_)
        clear hA; intro a hA
        refine L1 (stv hA (by decide) (run_ld (hA.ev rfl) (run_loadS Try.isAgg37 (At.seg1 (hM.box .z) 4 rfl))) ?_)
        clear hA; intro a hA
        refine L1 (stv hA (by decide) (run_ld (hA.ev rfl) (run_loadP Try.isAgg34 Try.sizeOf34 (hM.box (.s (.s (.s .z)))))) ?_)
        clear hA; intro a hA
        refine L1 (e_litN [id_1] [(.agg (pHash.enc id_1).toArray)] elt37 hM rfl (by decide) hA rfl rfl (List.cons_ne_nil _ _) (by decide) ?_)
        clear hM hA; intro w1524 g1523 hM hE  a hA
        obtain ⟨hl1528, H⟩ := ite_some H
        refine L1 (e_append elt37 hM (fun _ => (.s (.s (.s .z)))) (Src.row Try.underlying37 (RowOk.row (hM.row (p := pHash) .z)) (RowOk.len (hM.row (p := pHash) .z))) hl1528 hA rfl rfl (by decide) ?_)
        clear hM hA; intro w1529 A1526 c1527 hM hE  a hA
        refine L1 (stv hA (by decide) (run_field' Try.underlying39 rfl rfl Try.sizeOf37 (by decide) (hA.ev rfl)) ?_)
        clear hA; intro a hA
        refine L1 (e_store (g := g762) (off := 4) (cur := [(.int .u32 r792.Epoch), (.bool r792.Diffuse), (.slice A799 r792.Routes.length c800), (.slice A1163 xs1165.length c1164), (.slice A805 r792.Fluffed.length c806)]) (cs' := [(.int .u32 r792.Epoch), (.bool r792.Diffuse), (.slice A799 r792.Routes.length c800), (.slice A1163 xs1165.length c1164), (.slice A1526 (r792.Fluffed.length + 1) c1527)]) hM (.s .z) Try.sizeOf37 hA rfl (by simp [add_mk]) rfl (by first | rfl | simp [Value.cells, Pl.len]) (one_val rfl) (by first | exact Nat.le_of_ble_eq_true rfl | (simp [Pl.len]; done)) (rfl) ?_)
        clear hM hA; intro w1530  hM hE  a hA
        refine LQ ?_
        refine TN ?_
        refine wp_seq ?_
        refine wp_region_lit ?_
        refine L1 (stv hA (by decide) (run_ld (hA.ev rfl) (run_loadW Try.isAgg39 Try.sizeOf39 (by simp [Pl.len]; try rfl) (hM.box (.s .z)))) ?_)
        clear hA; intro a hA
        refine L1 (e_store (g := g768) (off := 0) (cur := [(.int .u32 0), (.bool false), (.slice none 0 0), (.slice none 0 0), (.slice none 0 0)]) (cs' := [(.int .u32 r792.Epoch), (.bool r792.Diffuse), (.slice A799 r792.Routes.length c800), (.slice A1163 xs1165.length c1164), (.slice A1526 (r792.Fluffed.length + 1) c1527)]) hM (.s (.s (.s (.s (.s .z))))) Try.sizeOf39 hA rfl (by simp [add_mk]) rfl (by first | rfl | simp [Value.cells, Pl.len]) (by simp [Value.cells, Value.oneCell']) (by first | exact Nat.le_of_ble_eq_true rfl | (simp [Pl.len]; done)) (spl_all (by first | rfl | simp [Value.cells, Pl.len])) ?_)
        clear hM hA; intro w1531  hM hE  a hA
        refine L1 (stv hA (by decide) (run_assign (hA.ev rfl)) ?_)
        clear hA; intro a hA
        refine LQ ?_
        refine TN ?_
        refine wp_ret ?_
        obtain rfl := Option.some.inj H
        exact ret_mix2 (fn := Try.f15) hA rfl (RV.cell rfl (run_loadW Try.isAgg39 Try.sizeOf39 (by simp [Pl.len]; try rfl) (hM.box (.s (.s (.s (.s (.s .z)))))))) (RV.tmp rfl) ⟨_, rfl, (.slice A799 r792.Routes.length c800), (.slice A1163 xs1165.length c1164), (.slice A1526 (r792.Fluffed.length + 1) c1527), rfl, (hM.sel [2, 6, 3] rfl (by decide))⟩

end Go.Proofs.Ytnhgfdinnbadeaa.G
