/- The functions that a law of this seat reaches: what each comes to, as a plain function, and that its code comes to it. Conditions: the plain function gives a value (enough fuel, no panic). -/
import Derived.Test.YtjdahineeoofiaaChecked
import Derived.Test.YtjdahineeoofiaaE
set_option linter.unusedVariables false
set_option linter.unusedSimpArgs false
namespace Go.Proofs.Ytjdahineeoofiaa.G
open Go Go.RowKit Go.Proofs
def pA24i64 : Pl (Vector Int 24) := Pl.vec 24 .i64 (by decide)
theorem eq_A24i64 : EqOk Try.prog 49 pA24i64 2 := fun d x y w => eq_vec (by decide) d Try.underlying49 Try.isAgg3 Try.underlying3 (by kernel_rfl) (by kernel_rfl) x y w
structure lightclientmill_Deck where
  L : (List Int)
  At_ : Int
def lightclientmill_Deck.z : lightclientmill_Deck := ⟨[], (0 : Int)⟩
def pHash : Pl (Vector Int 32) := Pl.vec 32 .u8 (by decide)
theorem eq_Hash : EqOk Try.prog 33 pHash 2 := fun d x y w => eq_vec (by decide) d Try.underlying33 Try.isAgg5 Try.underlying5 (by kernel_rfl) (by kernel_rfl) x y w
structure Sample where
  ID : (Vector Int 32)
  Class : Int
  Seen : Int
  Confirmed : Int
def Sample.z : Sample := ⟨(Vector.replicate 32 0 : Vector Int 32), (0 : Int), (0 : Int), (0 : Int)⟩
def Sample.segs (x : Sample) : List (List Value) := [pHash.enc x.ID, (Pl.int .i64).enc x.Class, (Pl.int .i64).enc x.Seen, (Pl.int .i64).enc x.Confirmed]
theorem Sample.segs_len (x : Sample) : x.segs.flatten.length = 35 := by
  simp only [Sample.segs, List.flatten_cons, List.flatten_nil, List.length_append, List.length_nil, Pl.len]
  rfl
def pSample : Pl Sample := ⟨35, fun x => x.segs.flatten, Sample.segs_len, fun x u hu => by
  simp only [Sample.segs, List.mem_flatten, List.mem_cons, List.not_mem_nil, or_false] at hu
  obtain ⟨l, hl, hu⟩ := hu
  rcases hl with rfl | rfl | rfl | rfl
  all_goals exact Pl.one _ _ u hu, by decide⟩
def Sample.eqb (x y : Sample) : Bool := (x.ID == y.ID && (x.Class == y.Class && (x.Seen == y.Seen && (x.Confirmed == y.Confirmed && true))))
instance : BEq Sample := ⟨Sample.eqb⟩
theorem Sample.eqb_iff (x y : Sample) : (x == y) = true ↔ x = y := by
  show Sample.eqb x y = true ↔ x = y
  cases x; cases y
  simp [Sample.eqb, and_assoc]
theorem eq_Sample : EqOk Try.prog 35 pSample 3 := fun d x y w => eq_struct (P := Try.prog) (d := d + 2) Try.underlying35 (by kernel_rfl) (eqf_cons (by decide) (part_agg Try.isAgg33 Try.sizeOf33 x.segs 0 rfl (by first | rfl | (simp only [Sample.segs, List.take, List.flatten_cons, List.flatten_nil, List.length_append, List.length_nil, Pl.len]; rfl)) (Pl.len _ _)) (part_agg Try.isAgg33 Try.sizeOf33 y.segs 0 rfl (by first | rfl | (simp only [Sample.segs, List.take, List.flatten_cons, List.flatten_nil, List.length_append, List.length_nil, Pl.len]; rfl)) (Pl.len _ _)) (eq_Hash d x.ID y.ID w)
    (eqf_cons (by decide) (part_one Try.isAgg3 x.segs 1 rfl (by first | rfl | (simp only [Sample.segs, List.take, List.flatten_cons, List.flatten_nil, List.length_append, List.length_nil, Pl.len]; rfl))) (part_one Try.isAgg3 y.segs 1 rfl (by first | rfl | (simp only [Sample.segs, List.take, List.flatten_cons, List.flatten_nil, List.length_append, List.length_nil, Pl.len]; rfl))) (run_equalIn_int w (d + 1) _ _ _ _ _ Try.underlying3)
    (eqf_cons (by decide) (part_one Try.isAgg3 x.segs 2 rfl (by first | rfl | (simp only [Sample.segs, List.take, List.flatten_cons, List.flatten_nil, List.length_append, List.length_nil, Pl.len]; rfl))) (part_one Try.isAgg3 y.segs 2 rfl (by first | rfl | (simp only [Sample.segs, List.take, List.flatten_cons, List.flatten_nil, List.length_append, List.length_nil, Pl.len]; rfl))) (run_equalIn_int w (d + 1) _ _ _ _ _ Try.underlying3)
    (eqf_cons (by decide) (part_one Try.isAgg3 x.segs 3 rfl (by first | rfl | (simp only [Sample.segs, List.take, List.flatten_cons, List.flatten_nil, List.length_append, List.length_nil, Pl.len]; rfl))) (part_one Try.isAgg3 y.segs 3 rfl (by first | rfl | (simp only [Sample.segs, List.take, List.flatten_cons, List.flatten_nil, List.length_append, List.length_nil, Pl.len]; rfl))) (run_equalIn_int w (d + 1) _ _ _ _ _ Try.underlying3)
    (eqf_nil)))))
theorem Sample.at_ID {w : World} {ad : Addr} {x : Sample} (h : At w ad (pSample.enc x)) : At w (ad.add 0) (pHash.enc x.ID) := At.seg (segs := x.segs) h 0 rfl (by
  first | rfl | simp only [Sample.segs, List.take, List.flatten_cons, List.flatten_nil, List.length_append, List.length_nil, Pl.len]; rfl)
theorem Sample.spl_ID (x : Sample) (y : (Vector Int 32)) : spl (pSample.enc x) 0 (pHash.enc y) = pSample.enc { x with ID := y } := spl_seg x.segs 0 (pHash.enc y) 0 rfl (by
  first | rfl | simp only [Sample.segs, List.take, List.flatten_cons, List.flatten_nil, List.length_append, List.length_nil, Pl.len]; rfl) (by simp [Pl.len])
theorem Sample.at_Class {w : World} {ad : Addr} {x : Sample} (h : At w ad (pSample.enc x)) : At w (ad.add 32) ((Pl.int .i64).enc x.Class) := At.seg (segs := x.segs) h 1 rfl (by
  first | rfl | simp only [Sample.segs, List.take, List.flatten_cons, List.flatten_nil, List.length_append, List.length_nil, Pl.len]; rfl)
theorem Sample.spl_Class (x : Sample) (y : Int) : spl (pSample.enc x) 32 ((Pl.int .i64).enc y) = pSample.enc { x with Class := y } := spl_seg x.segs 1 ((Pl.int .i64).enc y) 32 rfl (by
  first | rfl | simp only [Sample.segs, List.take, List.flatten_cons, List.flatten_nil, List.length_append, List.length_nil, Pl.len]; rfl) (by simp [Pl.len])
theorem Sample.at_Seen {w : World} {ad : Addr} {x : Sample} (h : At w ad (pSample.enc x)) : At w (ad.add 33) ((Pl.int .i64).enc x.Seen) := At.seg (segs := x.segs) h 2 rfl (by
  first | rfl | simp only [Sample.segs, List.take, List.flatten_cons, List.flatten_nil, List.length_append, List.length_nil, Pl.len]; rfl)
theorem Sample.spl_Seen (x : Sample) (y : Int) : spl (pSample.enc x) 33 ((Pl.int .i64).enc y) = pSample.enc { x with Seen := y } := spl_seg x.segs 2 ((Pl.int .i64).enc y) 33 rfl (by
  first | rfl | simp only [Sample.segs, List.take, List.flatten_cons, List.flatten_nil, List.length_append, List.length_nil, Pl.len]; rfl) (by simp [Pl.len])
theorem Sample.at_Confirmed {w : World} {ad : Addr} {x : Sample} (h : At w ad (pSample.enc x)) : At w (ad.add 34) ((Pl.int .i64).enc x.Confirmed) := At.seg (segs := x.segs) h 3 rfl (by
  first | rfl | simp only [Sample.segs, List.take, List.flatten_cons, List.flatten_nil, List.length_append, List.length_nil, Pl.len]; rfl)
theorem Sample.spl_Confirmed (x : Sample) (y : Int) : spl (pSample.enc x) 34 ((Pl.int .i64).enc y) = pSample.enc { x with Confirmed := y } := spl_seg x.segs 3 ((Pl.int .i64).enc y) 34 rfl (by
  first | rfl | simp only [Sample.segs, List.take, List.flatten_cons, List.flatten_nil, List.length_append, List.length_nil, Pl.len]; rfl) (by simp [Pl.len])
theorem zero4 : ∀ w, (zeroValue 4).run Try.prog w = .ok (.bool false) w := run_zero (by kernel_rfl)
theorem zero33 : ∀ w, (zeroValue 33).run Try.prog w = .ok (.agg (pHash.enc (Vector.replicate 32 0 : Vector Int 32)).toArray) w := run_zero (by kernel_rfl)
theorem zero35 : ∀ w, (zeroValue 35).run Try.prog w = .ok (.agg (pSample.enc Sample.z).toArray) w := run_zero (by kernel_rfl)
theorem zero49 : ∀ w, (zeroValue 49).run Try.prog w = .ok (.agg (pA24i64.enc (Vector.replicate 24 0 : Vector Int 24)).toArray) w := run_zero (by kernel_rfl)
theorem zero53 : ∀ w, (zeroValue 53).run Try.prog w = .ok (.agg #[(.slice none 0 0), (.int .i64 (0 : Int))]) w := run_zero (by kernel_rfl)
theorem elt28 : Elt Try.prog pSample 28 35 (.agg (pSample.enc Sample.z).toArray) 56 := ⟨Try.underlying28, by kernel_rfl, by first | rfl | simp [Value.cells, Pl.len], by decide⟩
theorem elt42 : Elt Try.prog pHash 42 33 (.agg (pHash.enc (Vector.replicate 32 0 : Vector Int 32)).toArray) 32 := ⟨Try.underlying42, by kernel_rfl, by first | rfl | simp [Value.cells, Pl.len], by decide⟩
theorem key33 : KeyOk Try.prog 33 pHash := key_vec (by decide) Try.underlying33 Try.underlying5 Try.isAgg5 Try.sizeOf5 (by kernel_rfl) (by kernel_rfl)
def fees_Rate.f (k : Nat) (fee_0 : Int) (weight_1 : Int) : Option Int := (Option.bind (α := Bool) (if (decide (fee_0 < 0)) = true then (some true) else (if (decide (fee_0 > 2100000000000000)) = true then (some true) else (if (decide (weight_1 < 1)) = true then (some true) else (some (decide (weight_1 > 80000)))))) (fun t22 => (if t22 = true then (some 0) else (if ¬ weight_1 = 0 then (some (if 1048576 < IntKind.i64.wrap ((IntKind.i64.wrap (1000 * fee_0)).tdiv weight_1) then 1048576 else IntKind.i64.wrap ((IntKind.i64.wrap (1000 * fee_0)).tdiv weight_1))) else none))))
set_option maxRecDepth 100000 in
theorem fees_Rate.calls (k : Nat) (fee_0 : Int) (weight_1 : Int) (F : List (Option Nat)) (r : Int) (w0 : World) (hM : Mem F w0 w0 []) (H : fees_Rate.f k fee_0 weight_1 = some r) :
    Calls Try.prog 8 #[(.int .i64 fee_0), (.int .i64 weight_1)] w0 fun e w' => ∃ v, e = .returned v ∧ v = (.int .i64 r) ∧ Mem F w0 w' [] := by
  unfold fees_Rate.f at H
  refine enterL (n := 24) [(.int .i64 fee_0), (.int .i64 weight_1)] Try.func8 rfl rfl rfl ?_
  intro a hA
  refine wp_seq ?_
  refine wp_region_lit ?_
  refine L1 (stv hA (by decide) (run_assign (hA.ev rfl)) ?_)
  clear hA; intro a hA
  refine LQ ?_
  refine TN ?_
  refine wp_seq ?_
  refine wp_seq ?_
  obtain ⟨o24, H23, H⟩ := Option.bind_eq_some_iff.1 H
  refine cutC (fun a w => ∃ (t22 : Bool), t22 = o24 ∧ Mem F w0 w [] ∧ Has 24 [(0, (.int .i64 fee_0)), (1, (.int .i64 weight_1)), (18, (.bool t22))] a) ?_ ?_
  · refine wp_region_lit ?_
    refine L1 (stv hA (by decide) (run_move (hA.ev rfl)) ?_)
    clear hA; intro a hA
    refine L1 (stv hA (by decide) (run_bin (hA.ev rfl) (hA.ev rfl) (bin_lss _ _ _ _)) ?_)
    clear hA; intro a hA
    refine L1 (stv hA (by decide) (run_move (hA.ev rfl)) ?_)
    clear hA; intro a hA
    refine bsplit (b := (decide (fee_0 < 0))) (fun hb25 => ?_) (fun hb25 => ?_)
    · replace H23 := ite_t hb25 H23
      have hA := hA.re (t := 7) rfl (congrArg Value.bool hb25)
      refine L1 (gate_off rfl (by decide) rfl hA (by decide) rfl rfl ?_); clear hA; intro a hA
      refine L1 (gate_off rfl (by decide) rfl hA (by decide) rfl rfl ?_); clear hA; intro a hA
      refine L1 (stv hA (by decide) (run_pick (hA.ev rfl) (fun _ => hA.ev rfl) (fun h => Bool.noConfusion h)) ?_)
      clear hA; intro a hA
      refine L1 (stv hA (by decide) (run_move (hA.ev rfl)) ?_)
      clear hA; intro a hA
      refine L1 (gate_off rfl (by decide) rfl hA (by decide) rfl rfl ?_); clear hA; intro a hA
      refine L1 (gate_off rfl (by decide) rfl hA (by decide) rfl rfl ?_); clear hA; intro a hA
      refine L1 (stv hA (by decide) (run_pick (hA.ev rfl) (fun _ => hA.ev rfl) (fun h => Bool.noConfusion h)) ?_)
      clear hA; intro a hA
      refine L1 (stv hA (by decide) (run_move (hA.ev rfl)) ?_)
      clear hA; intro a hA
      refine L1 (gate_off rfl (by decide) rfl hA (by decide) rfl rfl ?_); clear hA; intro a hA
      refine L1 (gate_off rfl (by decide) rfl hA (by decide) rfl rfl ?_); clear hA; intro a hA
      refine L1 (stv hA (by decide) (run_pick (hA.ev rfl) (fun _ => hA.ev rfl) (fun h => Bool.noConfusion h)) ?_)
      clear hA; intro a hA
      refine LQ ?_
      exact ⟨true, Option.some.inj H23, hM, (((hA.nil.cons (hA.get 18 _ rfl)).cons (hA.get 1 _ rfl)).cons (hA.get 0 _ rfl))⟩
    · replace H23 := ite_f hb25 H23
      have hA := hA.re (t := 7) rfl (congrArg Value.bool hb25)
      refine L1 (gate_on rfl rfl hA (by decide) rfl (stv hA (by decide) (run_move (hA.ev rfl)) ?_))
      clear hA; intro a hA
      refine L1 (gate_on rfl rfl hA (by decide) rfl (stv hA (by decide) (run_bin (hA.ev rfl) (hA.ev rfl) (bin_gtr _ _ _ _)) ?_))
      clear hA; intro a hA
      refine L1 (stv hA (by decide) (run_pick (hA.ev rfl) (fun h => Bool.noConfusion h) (fun _ => hA.ev rfl)) ?_)
      clear hA; intro a hA
      refine L1 (stv hA (by decide) (run_move (hA.ev rfl)) ?_)
      clear hA; intro a hA
      refine bsplit (b := (decide (fee_0 > 2100000000000000))) (fun hb26 => ?_) (fun hb26 => ?_)
      · replace H23 := ite_t hb26 H23
        have hA := hA.re (t := 11) rfl (congrArg Value.bool hb26)
        refine L1 (gate_off rfl (by decide) rfl hA (by decide) rfl rfl ?_); clear hA; intro a hA
        refine L1 (gate_off rfl (by decide) rfl hA (by decide) rfl rfl ?_); clear hA; intro a hA
        refine L1 (stv hA (by decide) (run_pick (hA.ev rfl) (fun _ => hA.ev rfl) (fun h => Bool.noConfusion h)) ?_)
        clear hA; intro a hA
        refine L1 (stv hA (by decide) (run_move (hA.ev rfl)) ?_)
        clear hA; intro a hA
        refine L1 (gate_off rfl (by decide) rfl hA (by decide) rfl rfl ?_); clear hA; intro a hA
        refine L1 (gate_off rfl (by decide) rfl hA (by decide) rfl rfl ?_); clear hA; intro a hA
        refine L1 (stv hA (by decide) (run_pick (hA.ev rfl) (fun _ => hA.ev rfl) (fun h => Bool.noConfusion h)) ?_)
        clear hA; intro a hA
        refine LQ ?_
        exact ⟨true, Option.some.inj H23, hM, (((hA.nil.cons (hA.get 18 _ rfl)).cons (hA.get 1 _ rfl)).cons (hA.get 0 _ rfl))⟩
      · replace H23 := ite_f hb26 H23
        have hA := hA.re (t := 11) rfl (congrArg Value.bool hb26)
        refine L1 (gate_on rfl rfl hA (by decide) rfl (stv hA (by decide) (run_move (hA.ev rfl)) ?_))
        clear hA; intro a hA
        refine L1 (gate_on rfl rfl hA (by decide) rfl (stv hA (by decide) (run_bin (hA.ev rfl) (hA.ev rfl) (bin_lss _ _ _ _)) ?_))
        clear hA; intro a hA
        refine L1 (stv hA (by decide) (run_pick (hA.ev rfl) (fun h => Bool.noConfusion h) (fun _ => hA.ev rfl)) ?_)
        clear hA; intro a hA
        refine L1 (stv hA (by decide) (run_move (hA.ev rfl)) ?_)
        clear hA; intro a hA
        refine bsplit (b := (decide (weight_1 < 1))) (fun hb27 => ?_) (fun hb27 => ?_)
        · replace H23 := ite_t hb27 H23
          have hA := hA.re (t := 15) rfl (congrArg Value.bool hb27)
          refine L1 (gate_off rfl (by decide) rfl hA (by decide) rfl rfl ?_); clear hA; intro a hA
          refine L1 (gate_off rfl (by decide) rfl hA (by decide) rfl rfl ?_); clear hA; intro a hA
          refine L1 (stv hA (by decide) (run_pick (hA.ev rfl) (fun _ => hA.ev rfl) (fun h => Bool.noConfusion h)) ?_)
          clear hA; intro a hA
          refine LQ ?_
          exact ⟨true, Option.some.inj H23, hM, (((hA.nil.cons (hA.get 18 _ rfl)).cons (hA.get 1 _ rfl)).cons (hA.get 0 _ rfl))⟩
        · replace H23 := ite_f hb27 H23
          have hA := hA.re (t := 15) rfl (congrArg Value.bool hb27)
          refine L1 (gate_on rfl rfl hA (by decide) rfl (stv hA (by decide) (run_move (hA.ev rfl)) ?_))
          clear hA; intro a hA
          refine L1 (gate_on rfl rfl hA (by decide) rfl (stv hA (by decide) (run_bin (hA.ev rfl) (hA.ev rfl) (bin_gtr _ _ _ _)) ?_))
          clear hA; intro a hA
          refine L1 (stv hA (by decide) (run_pick (hA.ev rfl) (fun h => Bool.noConfusion h) (fun _ => hA.ev rfl)) ?_)
          clear hA; intro a hA
          refine LQ ?_
          exact ⟨(decide (weight_1 > 80000)), Option.some.inj H23, hM, (((hA.nil.cons (hA.get 18 _ rfl)).cons (hA.get 1 _ rfl)).cons (hA.get 0 _ rfl))⟩
  clear hM hA
  rintro a w28 ⟨t22, rfl, hM, hA⟩
  try dsimp only at H
  refine TN ?_
  refine tcond (b := t22) hA rfl (fun hb29 => ?_) (fun hb29 => ?_)
  · replace H := ite_t hb29 H
    refine wp_seq ?_
    refine wp_region_lit ?_
    refine L1 (stv hA (by decide) (run_assign (hA.ev rfl)) ?_)
    clear hA; intro a hA
    refine LQ ?_
    refine TN ?_
    refine wp_ret ?_
    obtain rfl := Option.some.inj H
    refine TR ?_
    exact ret_post1 (fn := Try.f8) hA rfl rfl ⟨_, rfl, rfl, hM⟩
  · replace H := ite_f hb29 H
    refine wp_skip ?_
    refine TN ?_
    refine wp_seq ?_
    refine wp_region_lit ?_
    refine L1 (stv hA (by decide) (run_move (hA.ev rfl)) ?_)
    clear hA; intro a hA
    refine L1 (stv hA (by decide) (run_bin (hA.ev rfl) (hA.ev rfl) (bin_mul _ _ _ _)) ?_)
    clear hA; intro a hA
    refine L1 (stv hA (by decide) (run_move (hA.ev rfl)) ?_)
    clear hA; intro a hA
    obtain ⟨hd30, H⟩ := ite_some H
    refine L1 (stv hA (by decide) (run_bin (hA.ev rfl) (hA.ev rfl) (bin_quo _ _ _ _ hd30)) ?_)
    clear hA; intro a hA
    refine L1 (stv hA (by decide) (run_min (hA.ev rfl) (hA.ev rfl)) ?_)
    clear hA; intro a hA
    refine L1 (stv hA (by decide) (run_assign (hA.ev rfl)) ?_)
    clear hA; intro a hA
    refine LQ ?_
    refine TN ?_
    refine wp_ret ?_
    obtain rfl := Option.some.inj H
    exact ret_post1 (fn := Try.f8) hA rfl rfl ⟨_, rfl, rfl, hM⟩

def fees_bounds.l0  : Nat → (Vector Int 24) → Int → Int → Option ((Vector Int 24))
  | 0, _, _, _ => none
  | k + 1, x91, n93, t95 => (if (decide (t95 < 24)) = true then (if 0 ≤ t95 ∧ t95 < ((24 : Nat) : Int) then (fees_bounds.l0  k (vs x91 t95 n93) (IntKind.i64.wrap (n93 + (IntKind.i64.wrap (n93.tdiv 2)))) (IntKind.i64.wrap (t95 + 1))) else none) else (some x91))
def fees_bounds.f (k : Nat)  : Option (Vector Int 24) := (Option.bind (α := (Vector Int 24)) (fees_bounds.l0 k (Vector.replicate 24 0 : Vector Int 24) 10 0) (fun x98 => (some x98)))
set_option maxRecDepth 100000 in
theorem fees_bounds.calls (k : Nat)  (F : List (Option Nat)) (r : (Vector Int 24)) (w0 : World) (hM : Mem F w0 w0 []) (H : fees_bounds.f k  = some r) :
    Calls Try.prog 24 #[] w0 fun e w' => ∃ v, e = .returned v ∧ v = (.agg (pA24i64.enc r).toArray) ∧ Mem F w0 w' [] := by
  unfold fees_bounds.f at H
  refine enterL (n := 16) [] Try.func24 rfl rfl rfl ?_
  intro a hA
  refine wp_seq ?_
  refine wp_region_lit ?_
  refine L1 (e_alloc (cs := (pA24i64.enc (Vector.replicate 24 0 : Vector Int 24))) hM zero49 rfl hA (by decide) ?_)
  clear hM hA; intro w56 g55 hM hE  a hA
  refine LQ ?_
  refine TN ?_
  refine wp_seq ?_
  refine wp_region_lit ?_
  refine L1 (e_alloc (cs := (pA24i64.enc (Vector.replicate 24 0 : Vector Int 24))) hM zero49 rfl hA (by decide) ?_)
  clear hM hA; intro w59 g58 hM hE  a hA
  refine LQ ?_
  refine TN ?_
  refine wp_seq ?_
  refine wp_region_lit ?_
  refine L1 (stv hA (by decide) (run_assign (hA.ev rfl)) ?_)
  clear hA; intro a hA
  refine LQ ?_
  refine TN ?_
  refine wp_seq ?_
  refine wp_seq ?_
  refine wp_region_lit ?_
  refine L1 (stv hA (by decide) (run_move (hA.ev rfl)) ?_)
  clear hA; intro a hA
  refine LQ ?_
  refine TN ?_
  obtain ⟨o100, H99, H⟩ := Option.bind_eq_some_iff.1 H
  refine cutC (fun a w => ∃ (x98 : (Vector Int 24)), x98 = o100 ∧ Mem F w0 w [.box g55 49 (pA24i64.enc (Vector.replicate 24 0 : Vector Int 24)), .box g58 49 (pA24i64.enc x98)] ∧ Has 16 [(0, (.pointer (some (⟨g55, 0, none⟩)))), (1, (.pointer (some (⟨g58, 0, none⟩))))] a) ?_ ?_
  · refine wp_block ?_
    refine wp_loop_ghost (fun m a w => ∃ (x91 : (Vector Int 24)) (n93 : Int) (t95 : Int), fees_bounds.l0 m x91 n93 t95 = some o100 ∧ Mem F w0 w [.box g55 49 (pA24i64.enc (Vector.replicate 24 0 : Vector Int 24)), .box g58 49 (pA24i64.enc x91)] ∧ Has 16 [(0, (.pointer (some (⟨g55, 0, none⟩)))), (1, (.pointer (some (⟨g58, 0, none⟩)))), (2, (.int .i64 n93)), (4, (.int .i64 t95))] a) k ⟨(Vector.replicate 24 0 : Vector Int 24), 10, 0, H99, (hM.sel [1, 0] rfl (by decide)), ((((hA.nil.cons (hA.get 4 _ rfl)).cons (hA.get 2 _ rfl)).cons (hA.get 1 _ rfl)).cons (hA.get 0 _ rfl))⟩ ?_
    clear hM hA; rintro m101 a w102 ⟨x91, n93, t95, H99, hM, hA⟩
    cases m101 with
    | zero => exact absurd H99 (by simp [fees_bounds.l0])
    | succ m101 =>
    rw [fees_bounds.l0] at H99
    refine wp_seq ?_
    refine wp_region_lit ?_
    refine L1 (stv hA (by decide) (run_bin (hA.ev rfl) (hA.ev rfl) (bin_lss _ _ _ _)) ?_)
    clear hA; intro a hA
    refine LQ ?_
    refine TN ?_
    refine wp_seq ?_
    refine tcond (b := (decide (t95 < 24))) hA rfl (fun hb103 => ?_) (fun hb103 => ?_)
    · replace H99 := ite_t hb103 H99
      refine wp_skip ?_
      refine TN ?_
      refine wp_seq ?_
      refine wp_block ?_
      refine wp_seq ?_
      refine wp_region_lit ?_
      refine L1 (stv hA (by decide) (run_move (hA.ev rfl)) ?_)
      clear hA; intro a hA
      refine L1 (stv hA (by decide) (run_assign (hA.ev rfl)) ?_)
      clear hA; intro a hA
      refine LQ ?_
      refine TN ?_
      refine wp_seq ?_
      refine wp_region_lit ?_
      refine L1 (stv hA (by decide) (run_move (hA.ev rfl)) ?_)
      clear hA; intro a hA
      refine L1 (stv hA (by decide) (run_move (hA.ev rfl)) ?_)
      clear hA; intro a hA
      obtain ⟨⟨hi104, hj105⟩, H99⟩ := ite_some H99
      refine L1 (stv hA (by decide) (run_idxarr Try.underlying49 Try.sizeOf3 (hA.ev rfl) (hA.ev rfl) hi104 hj105) ?_)
      clear hA; intro a hA
      refine L1 (e_store (g := g58) (off := (t95.toNat * 1)) (cur := (pA24i64.enc x91)) (cs' := (pA24i64.enc (vs x91 t95 n93))) hM (.s .z) Try.sizeOf3 hA rfl (by simp [add_mk]) rfl (by first | rfl | simp [Value.cells, Pl.len]) (one_val rfl) (by have hh1 := hj105; have hh0 := hi104; rw [Pl.len]; show _ ≤ 24; omega) (vec_spl _ _ hi104 hj105) ?_)
      clear hM hA; intro w106  hM hE  a hA
      refine LQ ?_
      refine TN ?_
      refine wp_region_lit ?_
      refine L1 (stv hA (by decide) (run_move (hA.ev rfl)) ?_)
      clear hA; intro a hA
      refine L1 (stv hA (by decide) (run_move (hA.ev rfl)) ?_)
      clear hA; intro a hA
      refine L1 (stv hA (by decide) (run_bin (hA.ev rfl) (hA.ev rfl) (bin_quo _ _ _ _ (by decide))) ?_)
      clear hA; intro a hA
      refine L1 (stv hA (by decide) (run_bin (hA.ev rfl) (hA.ev rfl) (bin_add _ _ _ _)) ?_)
      clear hA; intro a hA
      refine L1 (stv hA (by decide) (run_assign (hA.ev rfl)) ?_)
      clear hA; intro a hA
      refine LQ ?_
      refine BN ?_
      refine TN ?_
      refine wp_region_lit ?_
      refine L1 (stv hA (by decide) (run_bin (hA.ev rfl) (hA.ev rfl) (bin_add _ _ _ _)) ?_)
      clear hA; intro a hA
      refine L1 (stv hA (by decide) (run_move (hA.ev rfl)) ?_)
      clear hA; intro a hA
      refine LQ ?_
      exact ⟨_, Nat.lt_succ_self m101, vs x91 t95 n93, IntKind.i64.wrap (n93 + (IntKind.i64.wrap (n93.tdiv 2))), IntKind.i64.wrap (t95 + 1), H99, hM, ((((hA.nil.cons (hA.get 4 _ rfl)).cons (hA.get 2 _ rfl)).cons (hA.get 1 _ rfl)).cons (hA.get 0 _ rfl))⟩
    · replace H99 := ite_f hb103 H99
      refine wp_exit ?_
      refine TX ?_
      refine TX ?_
      refine BX ?_
      exact ⟨x91, Option.some.inj H99, hM, ((hA.nil.cons (hA.get 1 _ rfl)).cons (hA.get 0 _ rfl))⟩
  clear hM hA
  rintro a w107 ⟨x98, rfl, hM, hA⟩
  try dsimp only at H
  refine TN ?_
  refine wp_seq ?_
  refine wp_region_lit ?_
  refine L1 (stv hA (by decide) (run_ld (hA.ev rfl) (run_loadP Try.isAgg49 Try.sizeOf49 (hM.box (.s .z)))) ?_)
  clear hA; intro a hA
  refine L1 (e_store (g := g55) (off := 0) (cur := (pA24i64.enc (Vector.replicate 24 0 : Vector Int 24))) (cs' := (pA24i64.enc x98)) hM .z Try.sizeOf49 hA rfl (by simp [add_mk]) rfl (agg_size _ _) (agg_one _ _) (Nat.le_of_ble_eq_true (enc_fitL _ _ rfl)) (spl_all (by first | rfl | simp [Value.cells, Pl.len])) ?_)
  clear hM hA; intro w108  hM hE  a hA
  refine LQ ?_
  refine TN ?_
  refine wp_ret ?_
  obtain rfl := Option.some.inj H
  exact ret_cell (fn := Try.f24) hA rfl rfl (run_loadP Try.isAgg49 Try.sizeOf49 (hM.box .z)) ⟨_, rfl, rfl, (hM.sel [] rfl (by decide))⟩

def fees_Bound.f (k : Nat) (class_0 : Int) : Option Int := (Option.bind (α := Bool) (if (decide (class_0 < 0)) = true then (some true) else (some (decide (class_0 ≥ 24)))) (fun t18 => (if t18 = true then (some 0) else ((fees_bounds.f k ).bind fun r24 => (if 0 ≤ class_0 ∧ class_0 < ((24 : Nat) : Int) then (some (vg r24 class_0)) else none)))))
set_option maxRecDepth 100000 in
theorem fees_Bound.calls (k : Nat) (class_0 : Int) (F : List (Option Nat)) (r : Int) (w0 : World) (hM : Mem F w0 w0 []) (H : fees_Bound.f k class_0 = some r) :
    Calls Try.prog 10 #[(.int .i64 class_0)] w0 fun e w' => ∃ v, e = .returned v ∧ v = (.int .i64 r) ∧ Mem F w0 w' [] := by
  unfold fees_Bound.f at H
  refine enterL (n := 12) [(.int .i64 class_0)] Try.func10 rfl rfl rfl ?_
  intro a hA
  refine wp_seq ?_
  refine wp_region_lit ?_
  refine L1 (stv hA (by decide) (run_assign (hA.ev rfl)) ?_)
  clear hA; intro a hA
  refine LQ ?_
  refine TN ?_
  refine wp_seq ?_
  refine wp_seq ?_
  obtain ⟨o20, H19, H⟩ := Option.bind_eq_some_iff.1 H
  refine cutC (fun a w => ∃ (t18 : Bool), t18 = o20 ∧ Mem F w0 w [] ∧ Has 12 [(0, (.int .i64 class_0)), (8, (.bool t18))] a) ?_ ?_
  · refine wp_region_lit ?_
    refine L1 (stv hA (by decide) (run_move (hA.ev rfl)) ?_)
    clear hA; intro a hA
    refine L1 (stv hA (by decide) (run_bin (hA.ev rfl) (hA.ev rfl) (bin_lss _ _ _ _)) ?_)
    clear hA; intro a hA
    refine L1 (stv hA (by decide) (run_move (hA.ev rfl)) ?_)
    clear hA; intro a hA
    refine bsplit (b := (decide (class_0 < 0))) (fun hb21 => ?_) (fun hb21 => ?_)
    · replace H19 := ite_t hb21 H19
      have hA := hA.re (t := 5) rfl (congrArg Value.bool hb21)
      refine L1 (gate_off rfl (by decide) rfl hA (by decide) rfl rfl ?_); clear hA; intro a hA
      refine L1 (gate_off rfl (by decide) rfl hA (by decide) rfl rfl ?_); clear hA; intro a hA
      refine L1 (stv hA (by decide) (run_pick (hA.ev rfl) (fun _ => hA.ev rfl) (fun h => Bool.noConfusion h)) ?_)
      clear hA; intro a hA
      refine LQ ?_
      exact ⟨true, Option.some.inj H19, hM, ((hA.nil.cons (hA.get 8 _ rfl)).cons (hA.get 0 _ rfl))⟩
    · replace H19 := ite_f hb21 H19
      have hA := hA.re (t := 5) rfl (congrArg Value.bool hb21)
      refine L1 (gate_on rfl rfl hA (by decide) rfl (stv hA (by decide) (run_move (hA.ev rfl)) ?_))
      clear hA; intro a hA
      refine L1 (gate_on rfl rfl hA (by decide) rfl (stv hA (by decide) (run_bin (hA.ev rfl) (hA.ev rfl) (bin_geq _ _ _ _)) ?_))
      clear hA; intro a hA
      refine L1 (stv hA (by decide) (run_pick (hA.ev rfl) (fun h => Bool.noConfusion h) (fun _ => hA.ev rfl)) ?_)
      clear hA; intro a hA
      refine LQ ?_
      exact ⟨(decide (class_0 ≥ 24)), Option.some.inj H19, hM, ((hA.nil.cons (hA.get 8 _ rfl)).cons (hA.get 0 _ rfl))⟩
  clear hM hA
  rintro a w22 ⟨t18, rfl, hM, hA⟩
  try dsimp only at H
  refine TN ?_
  refine tcond (b := t18) hA rfl (fun hb23 => ?_) (fun hb23 => ?_)
  · replace H := ite_t hb23 H
    refine wp_seq ?_
    refine wp_region_lit ?_
    refine L1 (stv hA (by decide) (run_assign (hA.ev rfl)) ?_)
    clear hA; intro a hA
    refine LQ ?_
    refine TN ?_
    refine wp_ret ?_
    obtain rfl := Option.some.inj H
    refine TR ?_
    exact ret_post1 (fn := Try.f10) hA rfl rfl ⟨_, rfl, rfl, hM⟩
  · replace H := ite_f hb23 H
    refine wp_skip ?_
    refine TN ?_
    refine wp_seq ?_
    refine wp_region_lit ?_
    obtain ⟨r24, H25, H⟩ := Option.bind_eq_some_iff.1 H
    refine L1 (st_call Try.call24 hA [] rfl (by decide) (fees_bounds.calls _ _ _ _ (hM.front (Ms := [])) H25) ?_)
    clear hA; rintro _ w26 ⟨rfl, hMc⟩ a hA
    have hE := hMc.below; have hM := hM.call (Ms := []) hMc
    clear hMc; simp only [List.cons_append, List.nil_append] at hM
    refine L1 (stv hA (by decide) (run_move (hA.ev rfl)) ?_)
    clear hA; intro a hA
    obtain ⟨⟨hi27, hj28⟩, H⟩ := ite_some H
    refine L1 (stv hA (by decide) (run_index_vec Try.underlying49 Try.isAgg3 Try.sizeOf3 (hA.ev rfl) (hA.ev rfl) hi27 hj28) ?_)
    clear hA; intro a hA
    refine L1 (stv hA (by decide) (run_assign (hA.ev rfl)) ?_)
    clear hA; intro a hA
    refine LQ ?_
    refine TN ?_
    refine wp_ret ?_
    obtain rfl := Option.some.inj H
    exact ret_post1 (fn := Try.f10) hA rfl rfl ⟨_, rfl, rfl, hM⟩

def fees_Class.l0 (rate_0 : Int) (r83 : (Vector Int 24)) : Nat → Int → Int → Option (Int)
  | 0, _, _ => none
  | k + 1, t141, t144 => (if (decide (t144 < 24)) = true then (if 0 ≤ t144 ∧ t144 < ((24 : Nat) : Int) then (Option.bind (α := Int) (if (decide ((vg r83 t144) ≤ rate_0)) = true then (some t144) else (some t141)) (fun t157 => (fees_Class.l0 rate_0 r83 k t157 (IntKind.i64.wrap (t144 + 1))))) else none) else (some t141))
def fees_Class.f (k : Nat) (rate_0 : Int) : Option Int := ((fees_bounds.f k ).bind fun r83 => (Option.bind (α := Int) (fees_Class.l0 rate_0 r83 k (-1) 0) (fun t146 => (some t146))))
set_option maxRecDepth 100000 in
theorem fees_Class.calls (k : Nat) (rate_0 : Int) (F : List (Option Nat)) (r : Int) (w0 : World) (hM : Mem F w0 w0 []) (H : fees_Class.f k rate_0 = some r) :
    Calls Try.prog 12 #[(.int .i64 rate_0)] w0 fun e w' => ∃ v, e = .returned v ∧ v = (.int .i64 r) ∧ Mem F w0 w' [] := by
  unfold fees_Class.f at H
  refine enterL (n := 17) [(.int .i64 rate_0)] Try.func12 rfl rfl rfl ?_
  intro a hA
  refine wp_seq ?_
  refine wp_region_lit ?_
  refine L1 (stv hA (by decide) (run_assign (hA.ev rfl)) ?_)
  clear hA; intro a hA
  refine LQ ?_
  refine TN ?_
  refine wp_seq ?_
  refine wp_region_lit ?_
  refine L1 (stv hA (by decide) (run_assign (hA.ev rfl)) ?_)
  clear hA; intro a hA
  refine LQ ?_
  refine TN ?_
  refine wp_seq ?_
  refine wp_seq ?_
  refine wp_region_lit ?_
  obtain ⟨r83, H84, H⟩ := Option.bind_eq_some_iff.1 H
  refine L1 (st_call Try.call24 hA [] rfl (by decide) (fees_bounds.calls _ _ _ _ (hM.front (Ms := [])) H84) ?_)
  clear hA; rintro _ w85 ⟨rfl, hMc⟩ a hA
  have hE := hMc.below; have hM := hM.call (Ms := []) hMc
  clear hMc; simp only [List.cons_append, List.nil_append] at hM
  refine L1 (stv hA (by decide) (run_move (hA.ev rfl)) ?_)
  clear hA; intro a hA
  refine LQ ?_
  refine TN ?_
  obtain ⟨o148, H147, H⟩ := Option.bind_eq_some_iff.1 H
  refine cutC (fun a w => ∃ (t146 : Int), t146 = o148 ∧ Mem F w0 w [] ∧ Has 17 [(3, (.int .i64 t146))] a) ?_ ?_
  · refine wp_block ?_
    refine wp_loop_ghost (fun m a w => ∃ (t141 : Int) (t144 : Int), fees_Class.l0 rate_0 r83 m t141 t144 = some o148 ∧ Mem F w0 w [] ∧ Has 17 [(0, (.int .i64 rate_0)), (3, (.int .i64 t141)), (6, (.agg (pA24i64.enc r83).toArray)), (7, (.int .i64 t144))] a) k ⟨(-1), 0, H147, hM, ((((hA.nil.cons (hA.get 7 _ rfl)).cons (hA.get 6 _ rfl)).cons (hA.get 3 _ rfl)).cons (hA.get 0 _ rfl))⟩ ?_
    clear hM hA; rintro m149 a w150 ⟨t141, t144, H147, hM, hA⟩
    cases m149 with
    | zero => exact absurd H147 (by simp [fees_Class.l0])
    | succ m149 =>
    rw [fees_Class.l0] at H147
    refine wp_seq ?_
    refine wp_region_lit ?_
    refine L1 (stv hA (by decide) (run_bin (hA.ev rfl) (hA.ev rfl) (bin_lss _ _ _ _)) ?_)
    clear hA; intro a hA
    refine LQ ?_
    refine TN ?_
    refine wp_seq ?_
    refine tcond (b := (decide (t144 < 24))) hA rfl (fun hb151 => ?_) (fun hb151 => ?_)
    · replace H147 := ite_t hb151 H147
      refine wp_skip ?_
      refine TN ?_
      refine wp_seq ?_
      refine wp_block ?_
      refine wp_seq ?_
      refine wp_region_lit ?_
      refine L1 (stv hA (by decide) (run_move (hA.ev rfl)) ?_)
      clear hA; intro a hA
      obtain ⟨⟨hi152, hj153⟩, H147⟩ := ite_some H147
      refine L1 (stv hA (by decide) (run_index_vec Try.underlying49 Try.isAgg3 Try.sizeOf3 (hA.ev rfl) (hA.ev rfl) hi152 hj153) ?_)
      clear hA; intro a hA
      refine L1 (stv hA (by decide) (run_assign (hA.ev rfl)) ?_)
      clear hA; intro a hA
      refine L1 (stv hA (by decide) (run_assign (hA.ev rfl)) ?_)
      clear hA; intro a hA
      refine LQ ?_
      refine TN ?_
      refine wp_seq ?_
      refine wp_region_lit ?_
      refine L1 (stv hA (by decide) (run_move (hA.ev rfl)) ?_)
      clear hA; intro a hA
      refine L1 (stv hA (by decide) (run_move (hA.ev rfl)) ?_)
      clear hA; intro a hA
      refine L1 (stv hA (by decide) (run_bin (hA.ev rfl) (hA.ev rfl) (bin_leq _ _ _ _)) ?_)
      clear hA; intro a hA
      refine LQ ?_
      refine TN ?_
      obtain ⟨o161, H160, H147⟩ := Option.bind_eq_some_iff.1 H147
      refine cutC (fun a w => ∃ (t157 : Int), t157 = o161 ∧ Mem F w0 w [] ∧ Has 17 [(0, (.int .i64 rate_0)), (3, (.int .i64 t157)), (6, (.agg (pA24i64.enc r83).toArray)), (7, (.int .i64 t144))] a) ?_ ?_
      · refine tcond (b := (decide ((vg r83 t144) ≤ rate_0))) hA rfl (fun hb162 => ?_) (fun hb162 => ?_)
        · replace H160 := ite_t hb162 H160
          refine wp_region_lit ?_
          refine L1 (stv hA (by decide) (run_move (hA.ev rfl)) ?_)
          clear hA; intro a hA
          refine L1 (stv hA (by decide) (run_assign (hA.ev rfl)) ?_)
          clear hA; intro a hA
          refine LQ ?_
          exact ⟨t144, Option.some.inj H160, hM, ((((hA.nil.cons (hA.get 7 _ rfl)).cons (hA.get 6 _ rfl)).cons (hA.get 3 _ rfl)).cons (hA.get 0 _ rfl))⟩
        · replace H160 := ite_f hb162 H160
          refine wp_skip ?_
          exact ⟨t141, Option.some.inj H160, hM, ((((hA.nil.cons (hA.get 7 _ rfl)).cons (hA.get 6 _ rfl)).cons (hA.get 3 _ rfl)).cons (hA.get 0 _ rfl))⟩
      clear hM hA
      rintro a w163 ⟨t157, rfl, hM, hA⟩
      try dsimp only at H147
      refine BN ?_
      refine TN ?_
      refine wp_region_lit ?_
      refine L1 (stv hA (by decide) (run_bin (hA.ev rfl) (hA.ev rfl) (bin_add _ _ _ _)) ?_)
      clear hA; intro a hA
      refine L1 (stv hA (by decide) (run_move (hA.ev rfl)) ?_)
      clear hA; intro a hA
      refine LQ ?_
      exact ⟨_, Nat.lt_succ_self m149, t157, IntKind.i64.wrap (t144 + 1), H147, hM, ((((hA.nil.cons (hA.get 7 _ rfl)).cons (hA.get 6 _ rfl)).cons (hA.get 3 _ rfl)).cons (hA.get 0 _ rfl))⟩
    · replace H147 := ite_f hb151 H147
      refine wp_exit ?_
      refine TX ?_
      refine TX ?_
      refine BX ?_
      exact ⟨t141, Option.some.inj H147, hM, (hA.nil.cons (hA.get 3 _ rfl))⟩
  clear hM hA
  rintro a w164 ⟨t146, rfl, hM, hA⟩
  try dsimp only at H
  refine TN ?_
  refine wp_seq ?_
  refine wp_region_lit ?_
  refine L1 (stv hA (by decide) (run_move (hA.ev rfl)) ?_)
  clear hA; intro a hA
  refine L1 (stv hA (by decide) (run_assign (hA.ev rfl)) ?_)
  clear hA; intro a hA
  refine LQ ?_
  refine TN ?_
  refine wp_ret ?_
  obtain rfl := Option.some.inj H
  exact ret_post1 (fn := Try.f12) hA rfl rfl ⟨_, rfl, rfl, hM⟩

def law33_sane.f (k : Nat)  : Option Bool := (Option.bind (α := Bool) ((fees_Bound.f k 0).bind fun r67 => (if (r67 == 10) = true then ((fees_Bound.f k 3).bind fun r71 => (if (r71 == 33) = true then ((fees_Class.f k 21).bind fun r75 => (if (r75 == 1) = true then ((fees_Class.f k 9).bind fun r79 => (if (r79 == (-1)) = true then ((fees_Rate.f k 5 1000).bind fun r83 => (some (r83 == 5))) else (some false))) else (some false))) else (some false))) else (some false))) (fun t64 => (some t64)))
set_option maxRecDepth 100000 in
theorem law33_sane.calls (k : Nat)  (F : List (Option Nat)) (r : Bool) (w0 : World) (hM : Mem F w0 w0 []) (H : law33_sane.f k  = some r) :
    Calls Try.prog 6 #[] w0 fun e w' => ∃ v, e = .returned v ∧ v = (.bool r) ∧ Mem F w0 w' [] := by
  unfold law33_sane.f at H
  refine enterL (n := 19) [] Try.func6 rfl rfl rfl ?_
  intro a hA
  refine wp_seq ?_
  refine wp_region_lit ?_
  refine L1 (stv hA (by decide) (run_assign (hA.ev rfl)) ?_)
  clear hA; intro a hA
  refine LQ ?_
  refine TN ?_
  refine wp_seq ?_
  obtain ⟨o66, H65, H⟩ := Option.bind_eq_some_iff.1 H
  refine cutC (fun a w => ∃ (t64 : Bool), t64 = o66 ∧ Mem F w0 w [] ∧ Has 19 [(0, (.bool t64))] a) ?_ ?_
  · refine wp_region_lit ?_
    obtain ⟨r67, H68, H65⟩ := Option.bind_eq_some_iff.1 H65
    refine L1 (st_call Try.call10 hA [(.int .i64 0)] rfl (by decide) (fees_Bound.calls _ _ _ _ _ (hM.front (Ms := [])) H68) ?_)
    clear hA; rintro _ w69 ⟨rfl, hMc⟩ a hA
    have hE := hMc.below; have hM := hM.call (Ms := []) hMc
    clear hMc; simp only [List.cons_append, List.nil_append] at hM
    refine L1 (stv hA (by decide) (run_bin (hA.ev rfl) (hA.ev rfl) (bin_eql _ _ _ _)) ?_)
    clear hA; intro a hA
    refine L1 (stv hA (by decide) (run_move (hA.ev rfl)) ?_)
    clear hA; intro a hA
    refine bsplit (b := (r67 == 10)) (fun hb70 => ?_) (fun hb70 => ?_)
    · replace H65 := ite_t hb70 H65
      have hA := hA.re (t := 3) rfl (congrArg Value.bool hb70)
      obtain ⟨r71, H72, H65⟩ := Option.bind_eq_some_iff.1 H65
      refine L1 (gate_on rfl rfl hA (by decide) rfl (st_call Try.call10 hA [(.int .i64 3)] rfl (by decide) (fees_Bound.calls _ _ _ _ _ (hM.front (Ms := [])) H72) ?_))
      clear hA; rintro _ w73 ⟨rfl, hMc⟩ a hA
      have hE := hMc.below; have hM := hM.call (Ms := []) hMc
      clear hMc; simp only [List.cons_append, List.nil_append] at hM
      refine L1 (gate_on rfl rfl hA (by decide) rfl (stv hA (by decide) (run_bin (hA.ev rfl) (hA.ev rfl) (bin_eql _ _ _ _)) ?_))
      clear hA; intro a hA
      refine L1 (stv hA (by decide) (run_pick (hA.ev rfl) (fun _ => hA.ev rfl) (fun h => Bool.noConfusion h)) ?_)
      clear hA; intro a hA
      refine L1 (stv hA (by decide) (run_move (hA.ev rfl)) ?_)
      clear hA; intro a hA
      refine bsplit (b := (r71 == 33)) (fun hb74 => ?_) (fun hb74 => ?_)
      · replace H65 := ite_t hb74 H65
        have hA := hA.re (t := 7) rfl (congrArg Value.bool hb74)
        obtain ⟨r75, H76, H65⟩ := Option.bind_eq_some_iff.1 H65
        refine L1 (gate_on rfl rfl hA (by decide) rfl (st_call Try.call12 hA [(.int .i64 21)] rfl (by decide) (fees_Class.calls _ _ _ _ _ (hM.front (Ms := [])) H76) ?_))
        clear hA; rintro _ w77 ⟨rfl, hMc⟩ a hA
        have hE := hMc.below; have hM := hM.call (Ms := []) hMc
        clear hMc; simp only [List.cons_append, List.nil_append] at hM
        refine L1 (gate_on rfl rfl hA (by decide) rfl (stv hA (by decide) (run_bin (hA.ev rfl) (hA.ev rfl) (bin_eql _ _ _ _)) ?_))
        clear hA; intro a hA
        refine L1 (stv hA (by decide) (run_pick (hA.ev rfl) (fun _ => hA.ev rfl) (fun h => Bool.noConfusion h)) ?_)
        clear hA; intro a hA
        refine L1 (stv hA (by decide) (run_move (hA.ev rfl)) ?_)
        clear hA; intro a hA
        refine bsplit (b := (r75 == 1)) (fun hb78 => ?_) (fun hb78 => ?_)
        · replace H65 := ite_t hb78 H65
          have hA := hA.re (t := 11) rfl (congrArg Value.bool hb78)
          obtain ⟨r79, H80, H65⟩ := Option.bind_eq_some_iff.1 H65
          refine L1 (gate_on rfl rfl hA (by decide) rfl (st_call Try.call12 hA [(.int .i64 9)] rfl (by decide) (fees_Class.calls _ _ _ _ _ (hM.front (Ms := [])) H80) ?_))
          clear hA; rintro _ w81 ⟨rfl, hMc⟩ a hA
          have hE := hMc.below; have hM := hM.call (Ms := []) hMc
          clear hMc; simp only [List.cons_append, List.nil_append] at hM
          refine L1 (gate_on rfl rfl hA (by decide) rfl (stv hA (by decide) (run_bin (hA.ev rfl) (hA.ev rfl) (bin_eql _ _ _ _)) ?_))
          clear hA; intro a hA
          refine L1 (stv hA (by decide) (run_pick (hA.ev rfl) (fun _ => hA.ev rfl) (fun h => Bool.noConfusion h)) ?_)
          clear hA; intro a hA
          refine L1 (stv hA (by decide) (run_move (hA.ev rfl)) ?_)
          clear hA; intro a hA
          refine bsplit (b := (r79 == (-1))) (fun hb82 => ?_) (fun hb82 => ?_)
          · replace H65 := ite_t hb82 H65
            have hA := hA.re (t := 15) rfl (congrArg Value.bool hb82)
            obtain ⟨r83, H84, H65⟩ := Option.bind_eq_some_iff.1 H65
            refine L1 (gate_on rfl rfl hA (by decide) rfl (st_call Try.call8 hA [(.int .i64 5), (.int .i64 1000)] rfl (by decide) (fees_Rate.calls _ _ _ _ _ _ (hM.front (Ms := [])) H84) ?_))
            clear hA; rintro _ w85 ⟨rfl, hMc⟩ a hA
            have hE := hMc.below; have hM := hM.call (Ms := []) hMc
            clear hMc; simp only [List.cons_append, List.nil_append] at hM
            refine L1 (gate_on rfl rfl hA (by decide) rfl (stv hA (by decide) (run_bin (hA.ev rfl) (hA.ev rfl) (bin_eql _ _ _ _)) ?_))
            clear hA; intro a hA
            refine L1 (stv hA (by decide) (run_pick (hA.ev rfl) (fun _ => hA.ev rfl) (fun h => Bool.noConfusion h)) ?_)
            clear hA; intro a hA
            refine L1 (stv hA (by decide) (run_assign (hA.ev rfl)) ?_)
            clear hA; intro a hA
            refine LQ ?_
            exact ⟨(r83 == 5), Option.some.inj H65, hM, (hA.nil.cons (hA.get 0 _ rfl))⟩
          · replace H65 := ite_f hb82 H65
            have hA := hA.re (t := 15) rfl (congrArg Value.bool hb82)
            refine L1 (gate_off rfl (by decide) rfl hA (by decide) rfl rfl ?_); clear hA; intro a hA
            refine L1 (gate_off rfl (by decide) rfl hA (by decide) rfl rfl ?_); clear hA; intro a hA
            refine L1 (stv hA (by decide) (run_pick (hA.ev rfl) (fun h => Bool.noConfusion h) (fun _ => hA.ev rfl)) ?_)
            clear hA; intro a hA
            refine L1 (stv hA (by decide) (run_assign (hA.ev rfl)) ?_)
            clear hA; intro a hA
            refine LQ ?_
            exact ⟨false, Option.some.inj H65, hM, (hA.nil.cons (hA.get 0 _ rfl))⟩
        · replace H65 := ite_f hb78 H65
          have hA := hA.re (t := 11) rfl (congrArg Value.bool hb78)
          refine L1 (gate_off rfl (by decide) rfl hA (by decide) rfl rfl ?_); clear hA; intro a hA
          refine L1 (gate_off rfl (by decide) rfl hA (by decide) rfl rfl ?_); clear hA; intro a hA
          refine L1 (stv hA (by decide) (run_pick (hA.ev rfl) (fun h => Bool.noConfusion h) (fun _ => hA.ev rfl)) ?_)
          clear hA; intro a hA
          refine L1 (stv hA (by decide) (run_move (hA.ev rfl)) ?_)
          clear hA; intro a hA
          refine L1 (gate_off rfl (by decide) rfl hA (by decide) rfl rfl ?_); clear hA; intro a hA
          refine L1 (gate_off rfl (by decide) rfl hA (by decide) rfl rfl ?_); clear hA; intro a hA
          refine L1 (stv hA (by decide) (run_pick (hA.ev rfl) (fun h => Bool.noConfusion h) (fun _ => hA.ev rfl)) ?_)
          clear hA; intro a hA
          refine L1 (stv hA (by decide) (run_assign (hA.ev rfl)) ?_)
          clear hA; intro a hA
          refine LQ ?_
          exact ⟨false, Option.some.inj H65, hM, (hA.nil.cons (hA.get 0 _ rfl))⟩
      · replace H65 := ite_f hb74 H65
        have hA := hA.re (t := 7) rfl (congrArg Value.bool hb74)
        refine L1 (gate_off rfl (by decide) rfl hA (by decide) rfl rfl ?_); clear hA; intro a hA
        refine L1 (gate_off rfl (by decide) rfl hA (by decide) rfl rfl ?_); clear hA; intro a hA
        refine L1 (stv hA (by decide) (run_pick (hA.ev rfl) (fun h => Bool.noConfusion h) (fun _ => hA.ev rfl)) ?_)
        clear hA; intro a hA
        refine L1 (stv hA (by decide) (run_move (hA.ev rfl)) ?_)
        clear hA; intro a hA
        refine L1 (gate_off rfl (by decide) rfl hA (by decide) rfl rfl ?_); clear hA; intro a hA
        refine L1 (gate_off rfl (by decide) rfl hA (by decide) rfl rfl ?_); clear hA; intro a hA
        refine L1 (stv hA (by decide) (run_pick (hA.ev rfl) (fun h => Bool.noConfusion h) (fun _ => hA.ev rfl)) ?_)
        clear hA; intro a hA
        refine L1 (stv hA (by decide) (run_move (hA.ev rfl)) ?_)
        clear hA; intro a hA
        refine L1 (gate_off rfl (by decide) rfl hA (by decide) rfl rfl ?_); clear hA; intro a hA
        refine L1 (gate_off rfl (by decide) rfl hA (by decide) rfl rfl ?_); clear hA; intro a hA
        refine L1 (stv hA (by decide) (run_pick (hA.ev rfl) (fun h => Bool.noConfusion h) (fun _ => hA.ev rfl)) ?_)
        clear hA; intro a hA
        refine L1 (stv hA (by decide) (run_assign (hA.ev rfl)) ?_)
        clear hA; intro a hA
        refine LQ ?_
        exact ⟨false, Option.some.inj H65, hM, (hA.nil.cons (hA.get 0 _ rfl))⟩
    · replace H65 := ite_f hb70 H65
      have hA := hA.re (t := 3) rfl (congrArg Value.bool hb70)
      refine L1 (gate_off rfl (by decide) rfl hA (by decide) rfl rfl ?_); clear hA; intro a hA
      refine L1 (gate_off rfl (by decide) rfl hA (by decide) rfl rfl ?_); clear hA; intro a hA
      refine L1 (stv hA (by decide) (run_pick (hA.ev rfl) (fun h => Bool.noConfusion h) (fun _ => hA.ev rfl)) ?_)
      clear hA; intro a hA
      refine L1 (stv hA (by decide) (run_move (hA.ev rfl)) ?_)
      clear hA; intro a hA
      refine L1 (gate_off rfl (by decide) rfl hA (by decide) rfl rfl ?_); clear hA; intro a hA
      refine L1 (gate_off rfl (by decide) rfl hA (by decide) rfl rfl ?_); clear hA; intro a hA
      refine L1 (stv hA (by decide) (run_pick (hA.ev rfl) (fun h => Bool.noConfusion h) (fun _ => hA.ev rfl)) ?_)
      clear hA; intro a hA
      refine L1 (stv hA (by decide) (run_move (hA.ev rfl)) ?_)
      clear hA; intro a hA
      refine L1 (gate_off rfl (by decide) rfl hA (by decide) rfl rfl ?_); clear hA; intro a hA
      refine L1 (gate_off rfl (by decide) rfl hA (by decide) rfl rfl ?_); clear hA; intro a hA
      refine L1 (stv hA (by decide) (run_pick (hA.ev rfl) (fun h => Bool.noConfusion h) (fun _ => hA.ev rfl)) ?_)
      clear hA; intro a hA
      refine L1 (stv hA (by decide) (run_move (hA.ev rfl)) ?_)
      clear hA; intro a hA
      refine L1 (gate_off rfl (by decide) rfl hA (by decide) rfl rfl ?_); clear hA; intro a hA
      refine L1 (gate_off rfl (by decide) rfl hA (by decide) rfl rfl ?_); clear hA; intro a hA
      refine L1 (stv hA (by decide) (run_pick (hA.ev rfl) (fun h => Bool.noConfusion h) (fun _ => hA.ev rfl)) ?_)
      clear hA; intro a hA
      refine L1 (stv hA (by decide) (run_assign (hA.ev rfl)) ?_)
      clear hA; intro a hA
      refine LQ ?_
      exact ⟨false, Option.some.inj H65, hM, (hA.nil.cons (hA.get 0 _ rfl))⟩
  clear hM hA
  rintro a w86 ⟨t64, rfl, hM, hA⟩
  try dsimp only at H
  refine TN ?_
  refine wp_ret ?_
  obtain rfl := Option.some.inj H
  exact ret_post1 (fn := Try.f6) hA rfl rfl ⟨_, rfl, rfl, hM⟩

def mill_Mod.f (k : Nat) (v_0 : Int) (n_1 : Int) : Option Int := (if ¬ n_1 = 0 then (Option.bind (α := Int) (if (decide ((v_0.tmod n_1) < 0)) = true then (some (IntKind.i64.wrap ((v_0.tmod n_1) + n_1))) else (some (v_0.tmod n_1))) (fun t12 => (some t12))) else none)
set_option maxRecDepth 100000 in
theorem mill_Mod.calls (k : Nat) (v_0 : Int) (n_1 : Int) (F : List (Option Nat)) (r : Int) (w0 : World) (hM : Mem F w0 w0 []) (H : mill_Mod.f k v_0 n_1 = some r) :
    Calls Try.prog 7 #[(.int .i64 v_0), (.int .i64 n_1)] w0 fun e w' => ∃ v, e = .returned v ∧ v = (.int .i64 r) ∧ Mem F w0 w' [] := by
  unfold mill_Mod.f at H
  refine enterL (n := 15) [(.int .i64 v_0), (.int .i64 n_1)] Try.func7 rfl rfl rfl ?_
  intro a hA
  refine wp_seq ?_
  refine wp_region_lit ?_
  refine L1 (stv hA (by decide) (run_assign (hA.ev rfl)) ?_)
  clear hA; intro a hA
  refine LQ ?_
  refine TN ?_
  refine wp_seq ?_
  refine wp_region_lit ?_
  refine L1 (stv hA (by decide) (run_move (hA.ev rfl)) ?_)
  clear hA; intro a hA
  refine L1 (stv hA (by decide) (run_move (hA.ev rfl)) ?_)
  clear hA; intro a hA
  obtain ⟨hd9, H⟩ := ite_some H
  refine L1 (stv hA (by decide) (run_bin (hA.ev rfl) (hA.ev rfl) (bin_rem _ _ _ _ hd9)) ?_)
  clear hA; intro a hA
  refine L1 (stv hA (by decide) (run_assign (hA.ev rfl)) ?_)
  clear hA; intro a hA
  refine LQ ?_
  refine TN ?_
  refine wp_seq ?_
  refine wp_seq ?_
  refine wp_region_lit ?_
  refine L1 (stv hA (by decide) (run_move (hA.ev rfl)) ?_)
  clear hA; intro a hA
  refine L1 (stv hA (by decide) (run_bin (hA.ev rfl) (hA.ev rfl) (bin_lss _ _ _ _)) ?_)
  clear hA; intro a hA
  refine LQ ?_
  refine TN ?_
  obtain ⟨o14, H13, H⟩ := Option.bind_eq_some_iff.1 H
  refine cutC (fun a w => ∃ (t12 : Int), t12 = o14 ∧ Mem F w0 w [] ∧ Has 15 [(5, (.int .i64 t12))] a) ?_ ?_
  · refine tcond (b := (decide ((v_0.tmod n_1) < 0))) hA rfl (fun hb15 => ?_) (fun hb15 => ?_)
    · replace H13 := ite_t hb15 H13
      refine wp_region_lit ?_
      refine L1 (stv hA (by decide) (run_move (hA.ev rfl)) ?_)
      clear hA; intro a hA
      refine L1 (stv hA (by decide) (run_move (hA.ev rfl)) ?_)
      clear hA; intro a hA
      refine L1 (stv hA (by decide) (run_bin (hA.ev rfl) (hA.ev rfl) (bin_add _ _ _ _)) ?_)
      clear hA; intro a hA
      refine L1 (stv hA (by decide) (run_assign (hA.ev rfl)) ?_)
      clear hA; intro a hA
      refine LQ ?_
      exact ⟨IntKind.i64.wrap ((v_0.tmod n_1) + n_1), Option.some.inj H13, hM, (hA.nil.cons (hA.get 5 _ rfl))⟩
    · replace H13 := ite_f hb15 H13
      refine wp_skip ?_
      exact ⟨v_0.tmod n_1, Option.some.inj H13, hM, (hA.nil.cons (hA.get 5 _ rfl))⟩
  clear hM hA
  rintro a w16 ⟨t12, rfl, hM, hA⟩
  try dsimp only at H
  refine TN ?_
  refine wp_seq ?_
  refine wp_region_lit ?_
  refine L1 (stv hA (by decide) (run_move (hA.ev rfl)) ?_)
  clear hA; intro a hA
  refine L1 (stv hA (by decide) (run_assign (hA.ev rfl)) ?_)
  clear hA; intro a hA
  refine LQ ?_
  refine TN ?_
  refine wp_ret ?_
  obtain rfl := Option.some.inj H
  exact ret_post1 (fn := Try.f7) hA rfl rfl ⟨_, rfl, rfl, hM⟩

def mill_Deck_Left.f (k : Nat) (d_0 : lightclientmill_Deck) : Option (Bool × lightclientmill_Deck) := (some ((decide (d_0.At_ < ((d_0.L.length : Nat) : Int))), (lightclientmill_Deck.mk d_0.L d_0.At_)))
set_option maxRecDepth 100000 in
theorem mill_Deck_Left.calls (k : Nat) (d_0 : lightclientmill_Deck) (F : List (Option Nat)) (g0 : Nat) (v0_0 : Value) (r : (Bool × lightclientmill_Deck)) (w0 : World) (h0_0 : RoV F (Pl.int .i64) w0 v0_0 d_0.L) (hM : Mem F w0 w0 [.box g0 53 [v0_0, (.int .i64 d_0.At_)]]) (H : mill_Deck_Left.f k d_0 = some r) :
    Calls Try.prog 32 #[(.pointer (some (⟨g0, 0, none⟩)))] w0 fun e w' => ∃ v, e = .returned v ∧ v = (.bool r.1) ∧ Mem F w0 w' [.box g0 53 [v0_0, (.int .i64 r.2.At_)]] := by
  unfold mill_Deck_Left.f at H
  obtain ⟨A0_0, c0_0, rfl, hr0_0, hc0_0⟩ := h0_0
  refine enterL (n := 13) [(.pointer (some (⟨g0, 0, none⟩)))] Try.func32 rfl rfl rfl ?_
  intro a hA
  refine wp_seq ?_
  refine wp_region_lit ?_
  refine L1 (stv hA (by decide) (run_assign (hA.ev rfl)) ?_)
  clear hA; intro a hA
  refine LQ ?_
  refine TN ?_
  refine wp_seq ?_
  refine draw (fun w' => Below w0.heap.size w0 w') [] rfl ?_
  intro w3 hw hS; replace hM := hM.ext hS; clear hw
  refine d_takef (i := 0) (L' := #[true, false, false, false, false, false, false, false, false, false, false]) rfl (by kernel_rfl) rfl (fun _ _ _ h => h) hA (by decide) (fun _ => hS) (fun a w' hA => run_move (hA.ev rfl)) ?_; clear hA; intro a hA
  refine d_takef (i := 1) (L' := #[true, true, false, false, false, false, false, false, false, false, false]) rfl (by kernel_rfl) rfl (fun _ _ _ h => h) hA (by decide) (fun _ => hS) (fun a w' hA => run_nilchk (hA.ev rfl)) ?_; clear hA; intro a hA
  refine d_takef (i := 2) (L' := #[true, true, true, false, false, false, false, false, false, false, false]) rfl (by kernel_rfl) rfl (fun _ _ _ h => h) hA (by decide) (fun _ => hS) (fun a w' hA => run_field' Try.underlying53 rfl rfl Try.sizeOf3 (by decide) (hA.ev rfl)) ?_; clear hA; intro a hA
  refine rebase hS ?_; clear hS; intro hS
  refine d_take (i := 3) (L' := #[true, true, true, true, false, false, false, false, false, false, false]) rfl (by kernel_rfl) rfl (fun _ _ _ h => h) hA (by decide) rfl hS (fun a w' hA hS' => run_ld (hA.ev rfl) (run_loadS Try.isAgg3 ((At.seg1 (hM.box .z) 1 rfl).extB hS'))) ?_; clear hA; intro a hA
  refine d_takef (i := 4) (L' := #[true, true, true, true, true, false, false, false, false, false, false]) rfl (by kernel_rfl) rfl (fun _ _ _ h => h) hA (by decide) (fun _ => hS) (fun a w' hA => run_move (hA.ev rfl)) ?_; clear hA; intro a hA
  refine d_takef (i := 5) (L' := #[true, true, true, true, true, true, false, false, false, false, false]) rfl (by kernel_rfl) rfl (fun _ _ _ h => h) hA (by decide) (fun _ => hS) (fun a w' hA => run_nilchk (hA.ev rfl)) ?_; clear hA; intro a hA
  refine d_takef (i := 6) (L' := #[true, true, true, true, true, true, true, false, false, false, false]) rfl (by kernel_rfl) rfl (fun _ _ _ h => h) hA (by decide) (fun _ => hS) (fun a w' hA => run_field' Try.underlying53 rfl rfl Try.sizeOf24 (by decide) (hA.ev rfl)) ?_; clear hA; intro a hA
  refine d_take (i := 7) (L' := #[true, true, true, true, true, true, true, true, false, false, false]) rfl (by kernel_rfl) rfl (fun _ _ _ h => h) hA (by decide) rfl hS (fun a w' hA hS' => run_ld (hA.ev rfl) (run_loadS Try.isAgg24 ((At.seg1 (hM.box .z) 0 rfl).extB hS'))) ?_; clear hA; intro a hA
  refine d_takef (i := 8) (L' := #[true, true, true, true, true, true, true, true, true, false, false]) rfl (by kernel_rfl) rfl (fun _ _ _ h => h) hA (by decide) (fun _ => hS) (fun a w' hA => run_len_slice Try.underlying24 (hA.ev rfl)) ?_; clear hA; intro a hA
  refine d_takef (i := 9) (L' := #[true, true, true, true, true, true, true, true, true, true, false]) rfl (by kernel_rfl) rfl (fun _ _ _ h => h) hA (by decide) (fun _ => hS) (fun a w' hA => run_bin (hA.ev rfl) (hA.ev rfl) (bin_lss _ _ _ _)) ?_; clear hA; intro a hA
  refine d_takef (i := 10) (L' := #[true, true, true, true, true, true, true, true, true, true, true]) rfl (by kernel_rfl) rfl (fun _ _ _ h => h) hA (by decide) (fun _ => hS) (fun a w' hA => run_assign (hA.ev rfl)) ?_; clear hA; intro a hA
  refine d_done (by kernel_rfl) ?_
  refine TN ?_
  refine wp_ret ?_
  obtain rfl := Option.some.inj H
  exact ret_post1 (fn := Try.f32) hA rfl rfl ⟨_, rfl, rfl, hM⟩

def mill_Deck_Next.f (k : Nat) (d_0 : lightclientmill_Deck) (n_1 : Int) : Option (Int × lightclientmill_Deck) := ((mill_Deck_Left.f k (lightclientmill_Deck.mk d_0.L d_0.At_)).bind fun r16 => (if (!r16.1) = true then (some (0, (lightclientmill_Deck.mk d_0.L r16.2.At_))) else (if 0 ≤ (IntKind.i64.wrap ((IntKind.i64.wrap (r16.2.At_ + 1)) - 1)) ∧ (IntKind.i64.wrap ((IntKind.i64.wrap (r16.2.At_ + 1)) - 1)) < ((d_0.L.length : Nat) : Int) then ((mill_Mod.f k (d_0.L.getD (IntKind.i64.wrap ((IntKind.i64.wrap (r16.2.At_ + 1)) - 1)).toNat (0 : Int)) n_1).bind fun r28 => (some (r28, (lightclientmill_Deck.mk d_0.L (IntKind.i64.wrap (r16.2.At_ + 1)))))) else none)))
set_option maxRecDepth 100000 in
theorem mill_Deck_Next.calls (k : Nat) (d_0 : lightclientmill_Deck) (n_1 : Int) (F : List (Option Nat)) (g0 : Nat) (v0_0 : Value) (r : (Int × lightclientmill_Deck)) (w0 : World) (h0_0 : RoV F (Pl.int .i64) w0 v0_0 d_0.L) (hM : Mem F w0 w0 [.box g0 53 [v0_0, (.int .i64 d_0.At_)]]) (H : mill_Deck_Next.f k d_0 n_1 = some r) :
    Calls Try.prog 18 #[(.pointer (some (⟨g0, 0, none⟩))), (.int .i64 n_1)] w0 fun e w' => ∃ v, e = .returned v ∧ v = (.int .i64 r.1) ∧ Mem F w0 w' [.box g0 53 [v0_0, (.int .i64 r.2.At_)]] := by
  unfold mill_Deck_Next.f at H
  obtain ⟨A0_0, c0_0, rfl, hr0_0, hc0_0⟩ := h0_0
  refine enterL (n := 28) [(.pointer (some (⟨g0, 0, none⟩))), (.int .i64 n_1)] Try.func18 rfl rfl rfl ?_
  intro a hA
  refine wp_seq ?_
  refine wp_region_lit ?_
  refine L1 (stv hA (by decide) (run_assign (hA.ev rfl)) ?_)
  clear hA; intro a hA
  refine LQ ?_
  refine TN ?_
  refine wp_seq ?_
  refine wp_seq ?_
  refine wp_region_lit ?_
  refine L1 (stv hA (by decide) (run_move (hA.ev rfl)) ?_)
  clear hA; intro a hA
  obtain ⟨r16, H17, H⟩ := Option.bind_eq_some_iff.1 H
  refine L1 (st_call Try.call32 hA [(.pointer (some (⟨g0, 0, none⟩)))] rfl (by decide) (mill_Deck_Left.calls _ (lightclientmill_Deck.mk d_0.L d_0.At_) _ _ _ _ _ ((RoV.mk (hM.roC (Ms := [_]) hr0_0) (Eq.refl d_0.L.length) hc0_0)) (hM.front (Ms := [_])) H17) ?_)
  clear hA; rintro _ w18 ⟨rfl, hMc⟩ a hA
  have hM := hM.call (Ms := [_]) hMc
  clear hMc; simp only [List.cons_append, List.nil_append] at hM
  refine L1 (stv hA (by decide) (run_not (hA.ev rfl)) ?_)
  clear hA; intro a hA
  refine LQ ?_
  refine TN ?_
  refine tcond (b := (!r16.1)) hA rfl (fun hb19 => ?_) (fun hb19 => ?_)
  · replace H := ite_t hb19 H
    refine wp_seq ?_
    refine wp_region_lit ?_
    refine L1 (stv hA (by decide) (run_assign (hA.ev rfl)) ?_)
    clear hA; intro a hA
    refine LQ ?_
    refine TN ?_
    refine wp_ret ?_
    obtain rfl := Option.some.inj H
    refine TR ?_
    exact ret_post1 (fn := Try.f18) hA rfl rfl ⟨_, rfl, rfl, hM⟩
  · replace H := ite_f hb19 H
    refine wp_skip ?_
    refine TN ?_
    refine wp_seq ?_
    refine wp_region_lit ?_
    refine L1 (stv hA (by decide) (run_move (hA.ev rfl)) ?_)
    clear hA; intro a hA
    refine L1 (stv hA (by decide) (run_nilchk (hA.ev rfl)) ?_)
    clear hA; intro a hA
    refine L1 (stv hA (by decide) (run_field' Try.underlying53 rfl rfl Try.sizeOf3 (by decide) (hA.ev rfl)) ?_)
    clear hA; intro a hA
    refine L1 (stv hA (by decide) (run_ld (hA.ev rfl) (run_loadS Try.isAgg3 (At.seg1 (hM.box .z) 1 rfl))) ?_)
    clear hA; intro a hA
    refine L1 (stv hA (by decide) (run_bin (hA.ev rfl) (hA.ev rfl) (bin_add _ _ _ _)) ?_)
    clear hA; intro a hA
    refine L1 (stv hA (by decide) (run_nilchk (hA.ev rfl)) ?_)
    clear hA; intro a hA
    refine L1 (stv hA (by decide) (run_field' Try.underlying53 rfl rfl Try.sizeOf3 (by decide) (hA.ev rfl)) ?_)
    clear hA; intro a hA
    refine L1 (e_store (g := g0) (off := 1) (cur := [(.slice A0_0 d_0.L.length c0_0), (.int .i64 r16.2.At_)]) (cs' := [(.slice A0_0 d_0.L.length c0_0), (.int .i64 (IntKind.i64.wrap (r16.2.At_ + 1)))]) hM .z Try.sizeOf3 hA rfl (by simp [add_mk]) rfl (by first | rfl | simp [Value.cells, Pl.len]) (one_val rfl) (by first | exact Nat.le_of_ble_eq_true rfl | (simp [Pl.len]; done)) (rfl) ?_)
    clear hM hA; intro w20  hM hE  a hA
    refine LQ ?_
    refine TN ?_
    refine wp_seq ?_
    refine draw (fun w' => Below w20.heap.size w20 w') [] rfl ?_
    intro w21 hw hS; replace hM := hM.ext hS; clear hw
    refine d_takef (i := 0) (L' := #[true, false, false, false, false, false, false, false, false, false, false, false, false, false]) rfl (by kernel_rfl) rfl (fun _ _ _ h => h) hA (by decide) (fun _ => hS) (fun a w' hA => run_move (hA.ev rfl)) ?_; clear hA; intro a hA
    refine d_takef (i := 1) (L' := #[true, true, false, false, false, false, false, false, false, false, false, false, false, false]) rfl (by kernel_rfl) rfl (fun _ _ _ h => h) hA (by decide) (fun _ => hS) (fun a w' hA => run_nilchk (hA.ev rfl)) ?_; clear hA; intro a hA
    refine d_takef (i := 2) (L' := #[true, true, true, false, false, false, false, false, false, false, false, false, false, false]) rfl (by kernel_rfl) rfl (fun _ _ _ h => h) hA (by decide) (fun _ => hS) (fun a w' hA => run_field' Try.underlying53 rfl rfl Try.sizeOf24 (by decide) (hA.ev rfl)) ?_; clear hA; intro a hA
    refine rebase hS ?_; clear hS; intro hS
    refine d_take (i := 3) (L' := #[true, true, true, true, false, false, false, false, false, false, false, false, false, false]) rfl (by kernel_rfl) rfl (fun _ _ _ h => h) hA (by decide) rfl hS (fun a w' hA hS' => run_ld (hA.ev rfl) (run_loadS Try.isAgg24 ((At.seg1 (hM.box .z) 0 rfl).extB hS'))) ?_; clear hA; intro a hA
    refine d_takef (i := 4) (L' := #[true, true, true, true, true, false, false, false, false, false, false, false, false, false]) rfl (by kernel_rfl) rfl (fun _ _ _ h => h) hA (by decide) (fun _ => hS) (fun a w' hA => run_move (hA.ev rfl)) ?_; clear hA; intro a hA
    refine d_takef (i := 5) (L' := #[true, true, true, true, true, true, false, false, false, false, false, false, false, false]) rfl (by kernel_rfl) rfl (fun _ _ _ h => h) hA (by decide) (fun _ => hS) (fun a w' hA => run_nilchk (hA.ev rfl)) ?_; clear hA; intro a hA
    refine d_takef (i := 6) (L' := #[true, true, true, true, true, true, true, false, false, false, false, false, false, false]) rfl (by kernel_rfl) rfl (fun _ _ _ h => h) hA (by decide) (fun _ => hS) (fun a w' hA => run_field' Try.underlying53 rfl rfl Try.sizeOf3 (by decide) (hA.ev rfl)) ?_; clear hA; intro a hA
    refine d_take (i := 7) (L' := #[true, true, true, true, true, true, true, true, false, false, false, false, false, false]) rfl (by kernel_rfl) rfl (fun _ _ _ h => h) hA (by decide) rfl hS (fun a w' hA hS' => run_ld (hA.ev rfl) (run_loadS Try.isAgg3 ((At.seg1 (hM.box .z) 1 rfl).extB hS'))) ?_; clear hA; intro a hA
    refine d_takef (i := 8) (L' := #[true, true, true, true, true, true, true, true, true, false, false, false, false, false]) rfl (by kernel_rfl) rfl (fun _ _ _ h => h) hA (by decide) (fun _ => hS) (fun a w' hA => run_bin (hA.ev rfl) (hA.ev rfl) (bin_sub _ _ _ _)) ?_; clear hA; intro a hA
    obtain ⟨⟨hi23, hj24⟩, H⟩ := ite_some H
    obtain ⟨ad25, hq26, hat27⟩ := Row.elem' (p := (Pl.int .i64)) (hM.ro hr0_0) (Eq.refl d_0.L.length) (0 : Int) (IntKind.i64.wrap ((IntKind.i64.wrap (r16.2.At_ + 1)) - 1)) hi23 hj24
    refine d_takef (i := 9) (L' := #[true, true, true, true, true, true, true, true, true, true, false, false, false, false]) rfl (by kernel_rfl) rfl (fun _ _ _ h => h) hA (by decide) (fun _ => hS) (fun a w' hA => run_idx Try.underlying24 Try.sizeOf3 (hA.ev rfl) hq26 (hA.ev rfl) hi23 hj24) ?_; clear hA; intro a hA
    refine d_take (i := 10) (L' := #[true, true, true, true, true, true, true, true, true, true, true, false, false, false]) rfl (by kernel_rfl) rfl (fun _ _ _ h => h) hA (by decide) rfl hS (fun a w' hA hS' => run_ld (hA.ev rfl) (run_loadS Try.isAgg3 ((hat27).extB hS'))) ?_; clear hA; intro a hA
    refine d_takef (i := 11) (L' := #[true, true, true, true, true, true, true, true, true, true, true, true, false, false]) rfl (by kernel_rfl) rfl (fun _ _ _ h => h) hA (by decide) (fun _ => hS) (fun a w' hA => run_move (hA.ev rfl)) ?_; clear hA; intro a hA
    obtain ⟨r28, H29, H⟩ := Option.bind_eq_some_iff.1 H
    refine d_one (i := 12) (L' := #[true, true, true, true, true, true, true, true, true, true, true, true, true, false]) (by kernel_rfl) rfl rfl (st_call Try.call7 hA [(.int .i64 (d_0.L.getD (IntKind.i64.wrap ((IntKind.i64.wrap (r16.2.At_ + 1)) - 1)).toNat (0 : Int))), (.int .i64 n_1)] rfl (by decide) (mill_Mod.calls _ _ _ _ _ _ (hM.front (Ms := [])) H29) ?_)
    clear hA; rintro _ w30 ⟨rfl, hMc⟩ a hA
    have hE := hMc.below; have hM := hM.call (Ms := []) hMc
    clear hMc; simp only [List.cons_append, List.nil_append] at hM
    replace hS := hS.trans (hE.mono hS.size)
    refine ⟨fun _ => hS, ?_⟩
    refine d_takef (i := 13) (L' := #[true, true, true, true, true, true, true, true, true, true, true, true, true, true]) rfl (by kernel_rfl) rfl (fun _ _ _ h => h) hA (by decide) (fun _ => hS) (fun a w' hA => run_assign (hA.ev rfl)) ?_; clear hA; intro a hA
    refine d_done (by kernel_rfl) ?_
    refine TN ?_
    refine wp_ret ?_
    obtain rfl := Option.some.inj H
    exact ret_post1 (fn := Try.f18) hA rfl rfl ⟨_, rfl, rfl, hM⟩

def mill_Hash.f (k : Nat) (d_0 : lightclientmill_Deck) : Option ((Vector Int 32) × lightclientmill_Deck) := ((mill_Deck_Next.f k (lightclientmill_Deck.mk d_0.L d_0.At_) 5).bind fun r14 => ((mill_Deck_Next.f k (lightclientmill_Deck.mk d_0.L r14.2.At_) 7).bind fun r17 => (some (((((Vector.replicate 32 0 : Vector Int 32).setIfInBounds 0 (IntKind.u8.wrap r14.1)).setIfInBounds 31 (IntKind.u8.wrap r17.1))), (lightclientmill_Deck.mk d_0.L r17.2.At_)))))
set_option maxRecDepth 100000 in
theorem mill_Hash.calls (k : Nat) (d_0 : lightclientmill_Deck) (F : List (Option Nat)) (g0 : Nat) (v0_0 : Value) (r : ((Vector Int 32) × lightclientmill_Deck)) (w0 : World) (h0_0 : RoV F (Pl.int .i64) w0 v0_0 d_0.L) (hM : Mem F w0 w0 [.box g0 53 [v0_0, (.int .i64 d_0.At_)]]) (H : mill_Hash.f k d_0 = some r) :
    Calls Try.prog 27 #[(.pointer (some (⟨g0, 0, none⟩)))] w0 fun e w' => ∃ v, e = .returned v ∧ v = (.agg (pHash.enc r.1).toArray) ∧ Mem F w0 w' [.box g0 53 [v0_0, (.int .i64 r.2.At_)]] := by
  unfold mill_Hash.f at H
  obtain ⟨A0_0, c0_0, rfl, hr0_0, hc0_0⟩ := h0_0
  refine enterL (n := 10) [(.pointer (some (⟨g0, 0, none⟩)))] Try.func27 rfl rfl rfl ?_
  intro a hA
  refine wp_seq ?_
  refine wp_region_lit ?_
  refine L1 (e_alloc (cs := (pHash.enc (Vector.replicate 32 0 : Vector Int 32))) hM zero33 rfl hA (by decide) ?_)
  clear hM hA; intro w12 g11 hM hE  a hA
  refine LQ ?_
  refine TN ?_
  refine wp_seq ?_
  refine wp_region_lit ?_
  refine L1 (stv hA (by decide) (run_move (hA.ev rfl)) ?_)
  clear hA; intro a hA
  have hM := hM.sel [1, 0] rfl (by decide)
  obtain ⟨r14, H15, H⟩ := Option.bind_eq_some_iff.1 H
  refine L1 (st_call Try.call18 hA [(.pointer (some (⟨g0, 0, none⟩))), (.int .i64 5)] rfl (by decide) (mill_Deck_Next.calls _ (lightclientmill_Deck.mk d_0.L d_0.At_) _ _ _ _ _ _ ((RoV.mk (hM.roC (Ms := [_]) hr0_0) (Eq.refl d_0.L.length) hc0_0)) (hM.front (Ms := [_])) H15) ?_)
  clear hA; rintro _ w16 ⟨rfl, hMc⟩ a hA
  have hM := hM.call (Ms := [_]) hMc
  clear hMc; simp only [List.cons_append, List.nil_append] at hM
  refine L1 (stv hA (by decide) (run_conv Try.underlying3 Try.underlying5 (hA.ev rfl)) ?_)
  clear hA; intro a hA
  refine L1 (stv hA (by decide) (run_move (hA.ev rfl)) ?_)
  clear hA; intro a hA
  obtain ⟨r17, H18, H⟩ := Option.bind_eq_some_iff.1 H
  refine L1 (st_call Try.call18 hA [(.pointer (some (⟨g0, 0, none⟩))), (.int .i64 7)] rfl (by decide) (mill_Deck_Next.calls _ (lightclientmill_Deck.mk d_0.L r14.2.At_) _ _ _ _ _ _ ((RoV.mk (hM.roC (Ms := [_]) hr0_0) (Eq.refl d_0.L.length) hc0_0)) (hM.front (Ms := [_])) H18) ?_)
  clear hA; rintro _ w19 ⟨rfl, hMc⟩ a hA
  have hM := hM.call (Ms := [_]) hMc
  clear hMc; simp only [List.cons_append, List.nil_append] at hM
  refine L1 (stv hA (by decide) (run_conv Try.underlying3 Try.underlying5 (hA.ev rfl)) ?_)
  clear hA; intro a hA
  refine L1 (stv hA (by decide) (run_build_arr [(0, (.int .u8 (IntKind.u8.wrap r14.1))), (31, (.int .u8 (IntKind.u8.wrap r17.1)))] zero33 Try.underlying33 Try.sizeOf5 hA rfl (fill_step rfl rfl (enc_fit _ _ rfl) (arr_eq (vec_spl' _ _ _ (by decide))) (fill_step rfl rfl (enc_fit _ _ rfl) (arr_eq (vec_spl' _ _ _ (by decide))) (fill_nil)))) ?_)
  clear hA; intro a hA
  refine L1 (e_store (g := g11) (off := 0) (cur := (pHash.enc (Vector.replicate 32 0 : Vector Int 32))) (cs' := (pHash.enc ((((Vector.replicate 32 0 : Vector Int 32).setIfInBounds 0 (IntKind.u8.wrap r14.1)).setIfInBounds 31 (IntKind.u8.wrap r17.1))))) hM (.s .z) Try.sizeOf33 hA rfl (by simp [add_mk]) rfl (agg_size _ _) (agg_one _ _) (Nat.le_of_ble_eq_true (enc_fitL _ _ rfl)) (spl_all (by first | rfl | simp [Value.cells, Pl.len])) ?_)
  clear hM hA; intro w20  hM hE  a hA
  refine LQ ?_
  refine TN ?_
  refine wp_ret ?_
  obtain rfl := Option.some.inj H
  exact ret_cell (fn := Try.f27) hA rfl rfl (run_loadP Try.isAgg33 Try.sizeOf33 (hM.box (.s .z))) ⟨_, rfl, rfl, (hM.sel [0] rfl (by decide))⟩

def mill_Hashes.l0 (d_0 : lightclientmill_Deck) : Nat → Int → (List (Vector Int 32)) → Int → Option ((List (Vector Int 32)) × Int)
  | 0, _, _, _ => none
  | k + 1, x156, xs162, t164 => (if (decide (t164 > 0)) = true then ((mill_Hash.f k (lightclientmill_Deck.mk d_0.L x156)).bind fun r178 => (if (xs162.length + 1) * 32 ≤ 140737488355328 then (mill_Hashes.l0 d_0 k r178.2.At_ (xs162 ++ [r178.1]) (IntKind.i64.wrap (t164 - 1))) else none)) else (some (xs162, x156)))
def mill_Hashes.f (k : Nat) (d_0 : lightclientmill_Deck) (n_1 : Int) : Option ((List (Vector Int 32)) × lightclientmill_Deck) := ((mill_Deck_Next.f k (lightclientmill_Deck.mk d_0.L d_0.At_) (IntKind.i64.wrap (n_1 + 1))).bind fun r95 => (Option.bind (α := (List (Vector Int 32)) × Int) (mill_Hashes.l0 d_0 k r95.2.At_ ([] : List (Vector Int 32)) r95.1) (fun st => match st with | (xs170, x171) => (some (xs170, (lightclientmill_Deck.mk d_0.L x171))))))
set_option maxRecDepth 100000 in
theorem mill_Hashes.calls (k : Nat) (d_0 : lightclientmill_Deck) (n_1 : Int) (F : List (Option Nat)) (g0 : Nat) (v0_0 : Value) (r : ((List (Vector Int 32)) × lightclientmill_Deck)) (w0 : World) (h0_0 : RoV F (Pl.int .i64) w0 v0_0 d_0.L) (hM : Mem F w0 w0 [.box g0 53 [v0_0, (.int .i64 d_0.At_)]]) (H : mill_Hashes.f k d_0 n_1 = some r) :
    Calls Try.prog 20 #[(.pointer (some (⟨g0, 0, none⟩))), (.int .i64 n_1)] w0 fun e w' => ∃ v, e = .returned v ∧ ∃ (ur_0 : Value), v = ur_0 ∧ Mem F w0 w' [.box g0 53 [v0_0, (.int .i64 r.2.At_)], .row 33 pHash.sz ur_0 (pHash.flat r.1)] := by
  unfold mill_Hashes.f at H
  obtain ⟨A0_0, c0_0, rfl, hr0_0, hc0_0⟩ := h0_0
  refine enterL (n := 21) [(.pointer (some (⟨g0, 0, none⟩))), (.int .i64 n_1)] Try.func20 rfl rfl rfl ?_
  intro a hA
  refine wp_seq ?_
  refine wp_region_lit ?_
  refine L1 (stv hA (by decide) (run_assign (hA.ev rfl)) ?_)
  clear hA; intro a hA
  refine LQ ?_
  refine TN ?_
  refine wp_seq ?_
  refine wp_region_lit ?_
  refine L1 (stv hA (by decide) (run_assign (hA.ev rfl)) ?_)
  clear hA; intro a hA
  refine LQ ?_
  refine TN ?_
  refine wp_seq ?_
  refine wp_seq ?_
  refine wp_region_lit ?_
  refine L1 (stv hA (by decide) (run_move (hA.ev rfl)) ?_)
  clear hA; intro a hA
  refine L1 (stv hA (by decide) (run_move (hA.ev rfl)) ?_)
  clear hA; intro a hA
  refine L1 (stv hA (by decide) (run_bin (hA.ev rfl) (hA.ev rfl) (bin_add _ _ _ _)) ?_)
  clear hA; intro a hA
  obtain ⟨r95, H96, H⟩ := Option.bind_eq_some_iff.1 H
  refine L1 (st_call Try.call18 hA [(.pointer (some (⟨g0, 0, none⟩))), (.int .i64 (IntKind.i64.wrap (n_1 + 1)))] rfl (by decide) (mill_Deck_Next.calls _ (lightclientmill_Deck.mk d_0.L d_0.At_) _ _ _ _ _ _ ((RoV.mk (hM.roC (Ms := [_]) hr0_0) (Eq.refl d_0.L.length) hc0_0)) (hM.front (Ms := [_])) H96) ?_)
  clear hA; rintro _ w97 ⟨rfl, hMc⟩ a hA
  have hM := hM.call (Ms := [_]) hMc
  clear hMc; simp only [List.cons_append, List.nil_append] at hM
  refine L1 (stv hA (by decide) (run_assign (hA.ev rfl)) ?_)
  clear hA; intro a hA
  refine LQ ?_
  refine TN ?_
  obtain ⟨o173, H172, H⟩ := Option.bind_eq_some_iff.1 H
  refine cutC (fun a w => ∃ (xs170 : (List (Vector Int 32))) (x171 : Int) (v167 : Value), (xs170, x171) = o173 ∧ Mem F w0 w [.row 33 pHash.sz v167 (pHash.flat xs170), .box g0 53 [(.slice A0_0 d_0.L.length c0_0), (.int .i64 x171)]] ∧ Has 21 [(5, v167)] a) ?_ ?_
  · refine wp_block ?_
    have hM := hM.addnil 33 (pHash).sz
    refine wp_loop_ghost (fun m a w => ∃ (x156 : Int) (xs162 : (List (Vector Int 32))) (t164 : Int) (v159 : Value), mill_Hashes.l0 d_0 m x156 xs162 t164 = some o173 ∧ Mem F w0 w [.box g0 53 [(.slice A0_0 d_0.L.length c0_0), (.int .i64 x156)], .row 33 pHash.sz v159 (pHash.flat xs162)] ∧ Has 21 [(0, (.pointer (some (⟨g0, 0, none⟩)))), (5, v159), (6, (.int .i64 t164))] a) k ⟨r95.2.At_, ([] : List (Vector Int 32)), r95.1, (.slice none 0 0), H172, (hM.sel [1, 0] rfl (by decide)), (((hA.nil.cons (hA.get 6 _ rfl)).cons (hA.get 5 _ rfl)).cons (hA.get 0 _ rfl))⟩ ?_
    clear hM hA; rintro m175 a w176 ⟨x156, xs162, t164, v159, H172, hM, hA⟩
    cases m175 with
    | zero => exact absurd H172 (by simp [mill_Hashes.l0])
    | succ m175 =>
    rw [mill_Hashes.l0] at H172
    obtain ⟨A160, c161, rfl⟩ := RowOk.form (hM.row (p := pHash) (.s .z))
    refine wp_seq ?_
    refine wp_seq ?_
    refine wp_region_lit ?_
    refine L1 (stv hA (by decide) (run_move (hA.ev rfl)) ?_)
    clear hA; intro a hA
    refine L1 (stv hA (by decide) (run_bin (hA.ev rfl) (hA.ev rfl) (bin_gtr _ _ _ _)) ?_)
    clear hA; intro a hA
    refine LQ ?_
    refine TN ?_
    refine tcond (b := (decide (t164 > 0))) hA rfl (fun hb177 => ?_) (fun hb177 => ?_)
    · replace H172 := ite_t hb177 H172
      refine wp_skip ?_
      refine TN ?_
      refine wp_seq ?_
      refine wp_block ?_
      refine wp_region_lit ?_
      refine L1 (stv hA (by decide) (run_move (hA.ev rfl)) ?_)
      clear hA; intro a hA
      refine L1 (stv hA (by decide) (run_move (hA.ev rfl)) ?_)
      clear hA; intro a hA
      obtain ⟨r178, H179, H172⟩ := Option.bind_eq_some_iff.1 H172
      refine L1 (st_call Try.call27 hA [(.pointer (some (⟨g0, 0, none⟩)))] rfl (by decide) (mill_Hash.calls _ (lightclientmill_Deck.mk d_0.L x156) _ _ _ _ _ ((RoV.mk (hM.roC (Ms := [_]) hr0_0) (Eq.refl d_0.L.length) hc0_0)) (hM.front (Ms := [_])) H179) ?_)
      clear hA; rintro _ w180 ⟨rfl, hMc⟩ a hA
      have hM := hM.call (Ms := [_]) hMc
      clear hMc; simp only [List.cons_append, List.nil_append] at hM
      refine L1 (e_litN [r178.1] [(.agg (pHash.enc r178.1).toArray)] elt42 hM rfl (by decide) hA rfl rfl (List.cons_ne_nil _ _) (by decide) ?_)
      clear hM hA; intro w182 g181 hM hE  a hA
      obtain ⟨hl186, H172⟩ := ite_some H172
      refine L1 (e_append elt42 hM (fun _ => (.s (.s .z))) (Src.row Try.underlying42 (RowOk.row (hM.row (p := pHash) .z)) (RowOk.len (hM.row (p := pHash) .z))) hl186 hA rfl rfl (by decide) ?_)
      clear hM hA; intro w187 A184 c185 hM hE  a hA
      refine L1 (stv hA (by decide) (run_assign (hA.ev rfl)) ?_)
      clear hA; intro a hA
      refine LQ ?_
      refine BN ?_
      refine TN ?_
      refine wp_region_lit ?_
      refine L1 (stv hA (by decide) (run_move (hA.ev rfl)) ?_)
      clear hA; intro a hA
      refine L1 (stv hA (by decide) (run_bin (hA.ev rfl) (hA.ev rfl) (bin_sub _ _ _ _)) ?_)
      clear hA; intro a hA
      refine L1 (stv hA (by decide) (run_assign (hA.ev rfl)) ?_)
      clear hA; intro a hA
      refine LQ ?_
      exact ⟨_, Nat.lt_succ_self m175, r178.2.At_, (xs162 ++ [r178.1]), IntKind.i64.wrap (t164 - 1), (.slice A184 (xs162.length + 1) c185), H172, (hM.sel [1, 2] rfl (by decide)), (((hA.nil.cons (hA.get 6 _ rfl)).cons (hA.get 5 _ rfl)).cons (hA.get 0 _ rfl))⟩
    · replace H172 := ite_f hb177 H172
      refine wp_exit ?_
      refine TX ?_
      refine TX ?_
      refine BX ?_
      exact ⟨xs162, x156, (.slice A160 xs162.length c161), Option.some.inj H172, (hM.sel [1, 0] rfl (by decide)), (hA.nil.cons (hA.get 5 _ rfl))⟩
  clear hM hA
  rintro a w188 ⟨xs170, x171, v167, rfl, hM, hA⟩
  try dsimp only at H
  obtain ⟨A168, c169, rfl⟩ := RowOk.form (hM.row (p := pHash) .z)
  refine TN ?_
  refine wp_seq ?_
  refine wp_region_lit ?_
  refine L1 (stv hA (by decide) (run_move (hA.ev rfl)) ?_)
  clear hA; intro a hA
  refine L1 (stv hA (by decide) (run_assign (hA.ev rfl)) ?_)
  clear hA; intro a hA
  refine LQ ?_
  refine TN ?_
  refine wp_ret ?_
  obtain rfl := Option.some.inj H
  exact ret_post1 (fn := Try.f20) hA rfl rfl ⟨_, rfl, (.slice A168 xs170.length c169), rfl, (hM.sel [1, 0] rfl (by decide))⟩

def ref33_Confirm.l1 (l_0 : (List Sample)) (ids_1 : (List (Vector Int 32))) (height_2 : Int) (i2620 : Int) : Nat → (List Sample) → Int → Option ((List Sample))
  | 0, _, _ => none
  | k + 1, xs2896, t2899 => (if (decide (t2899 < ((ids_1.length : Nat) : Int))) = true then (Option.bind (α := Bool) (if 0 ≤ i2620 ∧ i2620 < (((0 + l_0.length) : Nat) : Int) then (if 0 ≤ t2899 ∧ t2899 < ((ids_1.length : Nat) : Int) then (if (((xs2896.getD i2620.toNat Sample.z).ID) == (ids_1.getD t2899.toNat (Vector.replicate 32 0 : Vector Int 32))) = true then (if 0 ≤ i2620 ∧ i2620 < (((0 + l_0.length) : Nat) : Int) then (if (((xs2896.getD i2620.toNat Sample.z).Confirmed) == 0) = true then (if 0 ≤ i2620 ∧ i2620 < (((0 + l_0.length) : Nat) : Int) then (some (decide (((xs2896.getD i2620.toNat Sample.z).Seen) < height_2))) else none) else (some false)) else none) else (some false)) else none) else none) (fun t2940 => (Option.bind (α := (List Sample)) (if t2940 = true then (if 0 ≤ i2620 ∧ i2620 < (((0 + l_0.length) : Nat) : Int) then (some (xs2896.set i2620.toNat (Sample.mk ((xs2896.getD i2620.toNat Sample.z).ID) ((xs2896.getD i2620.toNat Sample.z).Class) ((xs2896.getD i2620.toNat Sample.z).Seen) height_2))) else none) else (some xs2896)) (fun xs2978 => (ref33_Confirm.l1 l_0 ids_1 height_2 i2620 k xs2978 (IntKind.i64.wrap (t2899 + 1))))))) else (some xs2896))
def ref33_Confirm.l0 (l_0 : (List Sample)) (ids_1 : (List (Vector Int 32))) (height_2 : Int) : Nat → (List Sample) → Int → Option ((List Sample))
  | 0, _, _ => none
  | k + 1, xs2618, i2620 => (if (decide (i2620 < (((0 + l_0.length) : Nat) : Int))) = true then (Option.bind (α := (List Sample)) (ref33_Confirm.l1 l_0 ids_1 height_2 i2620 k xs2618 0) (fun xs2903 => (ref33_Confirm.l0 l_0 ids_1 height_2 k xs2903 (IntKind.i64.wrap (i2620 + 1))))) else (some xs2618))
def ref33_Confirm.f (k : Nat) (l_0 : (List Sample)) (ids_1 : (List (Vector Int 32))) (height_2 : Int) : Option (List Sample) := (if (0 + l_0.length) * 56 ≤ 140737488355328 then (Option.bind (α := (List Sample)) (ref33_Confirm.l0 l_0 ids_1 height_2 k (([] : List Sample) ++ l_0) 0) (fun xs2622 => (some xs2622))) else none)
set_option maxRecDepth 100000 in
theorem ref33_Confirm.calls (k : Nat) (l_0 : (List Sample)) (ids_1 : (List (Vector Int 32))) (height_2 : Int) (F : List (Option Nat)) (v0 : Value) (v1 : Value) (r : (List Sample)) (w0 : World) (h0 : RoV F pSample w0 v0 l_0) (h1 : RoV F pHash w0 v1 ids_1) (hM : Mem F w0 w0 []) (H : ref33_Confirm.f k l_0 ids_1 height_2 = some r) :
    Calls Try.prog 25 #[v0, v1, (.int .i64 height_2)] w0 fun e w' => ∃ v, e = .returned v ∧ ∃ (ur_0 : Value), v = ur_0 ∧ Mem F w0 w' [.row 35 pSample.sz ur_0 (pSample.flat r)] := by
  unfold ref33_Confirm.f at H
  obtain ⟨A0, c0, rfl, hr0, hc0⟩ := h0
  obtain ⟨A1, c1, rfl, hr1, hc1⟩ := h1
  refine enterL (n := 58) [(.slice A0 l_0.length c0), (.slice A1 ids_1.length c1), (.int .i64 height_2)] Try.func25 rfl rfl rfl ?_
  intro a hA
  refine wp_seq ?_
  refine wp_region_lit ?_
  refine L1 (stv hA (by decide) (run_assign (hA.ev rfl)) ?_)
  clear hA; intro a hA
  refine LQ ?_
  refine TN ?_
  refine wp_seq ?_
  refine wp_region_lit ?_
  refine L1 (e_lit0 elt28 hM hA (by decide) ?_)
  clear hM hA; intro w1498 g1497 hM hE  a hA
  refine L1 (stv hA (by decide) (run_move (hA.ev rfl)) ?_)
  clear hA; intro a hA
  obtain ⟨hl1502, H⟩ := ite_some H
  refine L1 (e_append elt28 hM (fun _ => .z) (Src.row Try.underlying28 (hM.ro hr0) (Eq.refl l_0.length)) hl1502 hA rfl rfl (by decide) ?_)
  clear hM hA; intro w1503 A1500 c1501 hM hE  a hA
  refine L1 (stv hA (by decide) (run_assign (hA.ev rfl)) ?_)
  clear hA; intro a hA
  refine LQ ?_
  refine TN ?_
  refine wp_seq ?_
  refine wp_seq ?_
  refine wp_region_lit ?_
  refine L1 (stv hA (by decide) (run_assign (hA.ev rfl)) ?_)
  clear hA; intro a hA
  refine LQ ?_
  refine TN ?_
  obtain ⟨o2624, H2623, H⟩ := Option.bind_eq_some_iff.1 H
  refine cutC (fun a w => ∃ (xs2622 : (List Sample)), xs2622 = o2624 ∧ Mem F w0 w [.row 35 pSample.sz (.slice A1500 (0 + l_0.length) c1501) (pSample.flat xs2622)] ∧ Has 58 [(7, (.slice A1500 (0 + l_0.length) c1501))] a) ?_ ?_
  · refine wp_block ?_
    refine wp_loop_ghost (fun m a w => ∃ (xs2618 : (List Sample)) (i2620 : Int), ref33_Confirm.l0 l_0 ids_1 height_2 m xs2618 i2620 = some o2624 ∧ Mem F w0 w [.row 35 pSample.sz (.slice A1500 (0 + l_0.length) c1501) (pSample.flat xs2618)] ∧ Has 58 [(1, (.slice A1 ids_1.length c1)), (2, (.int .i64 height_2)), (7, (.slice A1500 (0 + l_0.length) c1501)), (8, (.int .i64 i2620))] a) k ⟨(([] : List Sample) ++ l_0), 0, H2623, hM, ((((hA.nil.cons (hA.get 8 _ rfl)).cons (hA.get 7 _ rfl)).cons (hA.get 2 _ rfl)).cons (hA.get 1 _ rfl))⟩ ?_
    clear hM hA; rintro m2625 a w2626 ⟨xs2618, i2620, H2623, hM, hA⟩
    cases m2625 with
    | zero => exact absurd H2623 (by simp [ref33_Confirm.l0])
    | succ m2625 =>
    rw [ref33_Confirm.l0] at H2623
    refine wp_seq ?_
    refine wp_seq ?_
    refine wp_region_lit ?_
    refine L1 (stv hA (by decide) (run_move (hA.ev rfl)) ?_)
    clear hA; intro a hA
    refine L1 (stv hA (by decide) (run_move (hA.ev rfl)) ?_)
    clear hA; intro a hA
    refine L1 (stv hA (by decide) (run_len_slice Try.underlying28 (hA.ev rfl)) ?_)
    clear hA; intro a hA
    refine L1 (stv hA (by decide) (run_bin (hA.ev rfl) (hA.ev rfl) (bin_lss _ _ _ _)) ?_)
    clear hA; intro a hA
    refine LQ ?_
    refine TN ?_
    refine tcond (b := (decide (i2620 < (((0 + l_0.length) : Nat) : Int)))) hA rfl (fun hb2627 => ?_) (fun hb2627 => ?_)
    · replace H2623 := ite_t hb2627 H2623
      refine wp_skip ?_
      refine TN ?_
      refine wp_seq ?_
      refine wp_block ?_
      refine wp_seq ?_
      refine wp_region_lit ?_
      refine L1 (stv hA (by decide) (run_assign (hA.ev rfl)) ?_)
      clear hA; intro a hA
      refine LQ ?_
      refine TN ?_
      obtain ⟨o2906, H2905, H2623⟩ := Option.bind_eq_some_iff.1 H2623
      refine cutC (fun a w => ∃ (xs2903 : (List Sample)), xs2903 = o2906 ∧ Mem F w0 w [.row 35 pSample.sz (.slice A1500 (0 + l_0.length) c1501) (pSample.flat xs2903)] ∧ Has 58 [(1, (.slice A1 ids_1.length c1)), (2, (.int .i64 height_2)), (7, (.slice A1500 (0 + l_0.length) c1501)), (8, (.int .i64 i2620))] a) ?_ ?_
      · refine wp_block ?_
        refine wp_loop_ghost (fun m a w => ∃ (xs2896 : (List Sample)) (t2899 : Int), ref33_Confirm.l1 l_0 ids_1 height_2 i2620 m xs2896 t2899 = some o2906 ∧ Mem F w0 w [.row 35 pSample.sz (.slice A1500 (0 + l_0.length) c1501) (pSample.flat xs2896)] ∧ Has 58 [(1, (.slice A1 ids_1.length c1)), (2, (.int .i64 height_2)), (7, (.slice A1500 (0 + l_0.length) c1501)), (8, (.int .i64 i2620)), (9, (.int .i64 t2899))] a) m2625 ⟨xs2618, 0, H2905, hM, (((((hA.nil.cons (hA.get 9 _ rfl)).cons (hA.get 8 _ rfl)).cons (hA.get 7 _ rfl)).cons (hA.get 2 _ rfl)).cons (hA.get 1 _ rfl))⟩ ?_
        clear hM hA; rintro m2907 a w2908 ⟨xs2896, t2899, H2905, hM, hA⟩
        cases m2907 with
        | zero => exact absurd H2905 (by simp [ref33_Confirm.l1])
        | succ m2907 =>
        rw [ref33_Confirm.l1] at H2905
        refine wp_seq ?_
        refine wp_seq ?_
        refine wp_region_lit ?_
        refine L1 (stv hA (by decide) (run_move (hA.ev rfl)) ?_)
        clear hA; intro a hA
        refine L1 (stv hA (by decide) (run_move (hA.ev rfl)) ?_)
        clear hA; intro a hA
        refine L1 (stv hA (by decide) (run_len_slice Try.underlying42 (hA.ev rfl)) ?_)
        clear hA; intro a hA
        refine L1 (stv hA (by decide) (run_bin (hA.ev rfl) (hA.ev rfl) (bin_lss _ _ _ _)) ?_)
        clear hA; intro a hA
        refine LQ ?_
        refine TN ?_
        refine tcond (b := (decide (t2899 < ((ids_1.length : Nat) : Int)))) hA rfl (fun hb2909 => ?_) (fun hb2909 => ?_)
        · replace H2905 := ite_t hb2909 H2905
          refine wp_skip ?_
          refine TN ?_
          refine wp_seq ?_
          refine wp_block ?_
          refine wp_seq ?_
          obtain ⟨o2942, H2941, H2905⟩ := Option.bind_eq_some_iff.1 H2905
          refine cutC (fun a w => ∃ (t2940 : Bool), t2940 = o2942 ∧ Mem F w0 w [.row 35 pSample.sz (.slice A1500 (0 + l_0.length) c1501) (pSample.flat xs2896)] ∧ Has 58 [(1, (.slice A1 ids_1.length c1)), (2, (.int .i64 height_2)), (7, (.slice A1500 (0 + l_0.length) c1501)), (8, (.int .i64 i2620)), (9, (.int .i64 t2899)), (51, (.bool t2940))] a) ?_ ?_
          · refine draw (fun w' => Below w2908.heap.size w2908 w') [] rfl ?_
            intro w2943 hw hS; replace hM := hM.ext hS; clear hw
            refine d_takef (i := 0) (L' := #[true, false, false, false, false, false, false, false, false, false, false, false, false, false, false, false, false, false, false, false, false, false, false, false, false, false, false]) rfl (by kernel_rfl) rfl (fun _ _ _ h => h) hA (by decide) (fun _ => hS) (fun a w' hA => run_move (hA.ev rfl)) ?_; clear hA; intro a hA
            refine d_takef (i := 1) (L' := #[true, true, false, false, false, false, false, false, false, false, false, false, false, false, false, false, false, false, false, false, false, false, false, false, false, false, false]) rfl (by kernel_rfl) rfl (fun _ _ _ h => h) hA (by decide) (fun _ => hS) (fun a w' hA => run_move (hA.ev rfl)) ?_; clear hA; intro a hA
            obtain ⟨⟨hi2945, hj2946⟩, H2941⟩ := ite_some H2941
            obtain ⟨ad2947, hq2948, hat2949⟩ := Row.elem' (p := pSample) (RowOk.row (hM.row (p := pSample) .z)) (RowOk.len (hM.row (p := pSample) .z)) Sample.z i2620 hi2945 hj2946
            refine d_takef (i := 2) (L' := #[true, true, true, false, false, false, false, false, false, false, false, false, false, false, false, false, false, false, false, false, false, false, false, false, false, false, false]) rfl (by kernel_rfl) rfl (fun _ _ _ h => h) hA (by decide) (fun _ => hS) (fun a w' hA => run_idx Try.underlying28 Try.sizeOf35 (hA.ev rfl) hq2948 (hA.ev rfl) hi2945 hj2946) ?_; clear hA; intro a hA
            refine d_takef (i := 3) (L' := #[true, true, true, true, false, false, false, false, false, false, false, false, false, false, false, false, false, false, false, false, false, false, false, false, false, false, false]) rfl (by kernel_rfl) rfl (fun _ _ _ h => h) hA (by decide) (fun _ => hS) (fun a w' hA => run_field' Try.underlying35 rfl rfl Try.sizeOf33 (by decide) (hA.ev rfl)) ?_; clear hA; intro a hA
            refine rebase hS ?_; clear hS; intro hS
            refine d_take (i := 4) (L' := #[true, true, true, true, true, false, false, false, false, false, false, false, false, false, false, false, false, false, false, false, false, false, false, false, false, false, false]) rfl (by kernel_rfl) rfl (fun _ _ _ h => h) hA (by decide) rfl hS (fun a w' hA hS' => run_ld (hA.ev rfl) (run_loadP Try.isAgg33 Try.sizeOf33 ((Sample.at_ID (hat2949)).extB hS'))) ?_; clear hA; intro a hA
            refine d_takef (i := 5) (L' := #[true, true, true, true, true, true, false, false, false, false, false, false, false, false, false, false, false, false, false, false, false, false, false, false, false, false, false]) rfl (by kernel_rfl) rfl (fun _ _ _ h => h) hA (by decide) (fun _ => hS) (fun a w' hA => run_move (hA.ev rfl)) ?_; clear hA; intro a hA
            refine d_takef (i := 6) (L' := #[true, true, true, true, true, true, true, false, false, false, false, false, false, false, false, false, false, false, false, false, false, false, false, false, false, false, false]) rfl (by kernel_rfl) rfl (fun _ _ _ h => h) hA (by decide) (fun _ => hS) (fun a w' hA => run_move (hA.ev rfl)) ?_; clear hA; intro a hA
            obtain ⟨⟨hi2950, hj2951⟩, H2941⟩ := ite_some H2941
            obtain ⟨ad2952, hq2953, hat2954⟩ := Row.elem' (p := pHash) (hM.ro hr1) (Eq.refl ids_1.length) (Vector.replicate 32 0 : Vector Int 32) t2899 hi2950 hj2951
            refine d_takef (i := 7) (L' := #[true, true, true, true, true, true, true, true, false, false, false, false, false, false, false, false, false, false, false, false, false, false, false, false, false, false, false]) rfl (by kernel_rfl) rfl (fun _ _ _ h => h) hA (by decide) (fun _ => hS) (fun a w' hA => run_idx Try.underlying42 Try.sizeOf33 (hA.ev rfl) hq2953 (hA.ev rfl) hi2950 hj2951) ?_; clear hA; intro a hA
            refine d_take (i := 8) (L' := #[true, true, true, true, true, true, true, true, true, false, false, false, false, false, false, false, false, false, false, false, false, false, false, false, false, false, false]) rfl (by kernel_rfl) rfl (fun _ _ _ h => h) hA (by decide) rfl hS (fun a w' hA hS' => run_ld (hA.ev rfl) (run_loadP Try.isAgg33 Try.sizeOf33 ((hat2954).extB hS'))) ?_; clear hA; intro a hA
            refine d_takef (i := 9) (L' := #[true, true, true, true, true, true, true, true, true, true, false, false, false, false, false, false, false, false, false, false, false, false, false, false, false, false, false]) rfl (by kernel_rfl) rfl (fun _ _ _ h => h) hA (by decide) (fun _ => hS) (fun a w' hA => run_aggeql eq_Hash rfl (by kernel_rfl) (hA.ev rfl) (hA.ev rfl)) ?_; clear hA; intro a hA
            refine d_takef (i := 10) (L' := #[true, true, true, true, true, true, true, true, true, true, true, false, false, false, false, false, false, false, false, false, false, false, false, false, false, false, false]) rfl (by kernel_rfl) rfl (fun _ _ _ h => h) hA (by decide) (fun _ => hS) (fun a w' hA => run_move (hA.ev rfl)) ?_; clear hA; intro a hA
            refine bsplit (b := (((xs2896.getD i2620.toNat Sample.z).ID) == (ids_1.getD t2899.toNat (Vector.replicate 32 0 : Vector Int 32)))) (fun hb2955 => ?_) (fun hb2955 => ?_)
            · replace H2941 := ite_t hb2955 H2941
              have hA := hA.re (t := 35) rfl (congrArg Value.bool hb2955)
              refine d_takegf (i := 11) (L' := #[true, true, true, true, true, true, true, true, true, true, true, true, false, false, false, false, false, false, false, false, false, false, false, false, false, false, false]) rfl (by kernel_rfl) rfl (fun _ _ _ h => h) rfl hA (by decide) (by decide) rfl (fun _ => hS) (fun a w' hA => run_move (hA.ev rfl)) ?_; clear hA; intro a hA
              refine d_takegf (i := 12) (L' := #[true, true, true, true, true, true, true, true, true, true, true, true, true, false, false, false, false, false, false, false, false, false, false, false, false, false, false]) rfl (by kernel_rfl) rfl (fun _ _ _ h => h) rfl hA (by decide) (by decide) rfl (fun _ => hS) (fun a w' hA => run_move (hA.ev rfl)) ?_; clear hA; intro a hA
              obtain ⟨⟨hi2956, hj2957⟩, H2941⟩ := ite_some H2941
              obtain ⟨ad2958, hq2959, hat2960⟩ := Row.elem' (p := pSample) (RowOk.row (hM.row (p := pSample) .z)) (RowOk.len (hM.row (p := pSample) .z)) Sample.z i2620 hi2956 hj2957
              refine d_takegf (i := 13) (L' := #[true, true, true, true, true, true, true, true, true, true, true, true, true, true, false, false, false, false, false, false, false, false, false, false, false, false, false]) rfl (by kernel_rfl) rfl (fun _ _ _ h => h) rfl hA (by decide) (by decide) rfl (fun _ => hS) (fun a w' hA => run_idx Try.underlying28 Try.sizeOf35 (hA.ev rfl) hq2959 (hA.ev rfl) hi2956 hj2957) ?_; clear hA; intro a hA
              refine d_takegf (i := 14) (L' := #[true, true, true, true, true, true, true, true, true, true, true, true, true, true, true, false, false, false, false, false, false, false, false, false, false, false, false]) rfl (by kernel_rfl) rfl (fun _ _ _ h => h) rfl hA (by decide) (by decide) rfl (fun _ => hS) (fun a w' hA => run_field' Try.underlying35 rfl rfl Try.sizeOf3 (by decide) (hA.ev rfl)) ?_; clear hA; intro a hA
              refine d_takeg (i := 15) (L' := #[true, true, true, true, true, true, true, true, true, true, true, true, true, true, true, true, false, false, false, false, false, false, false, false, false, false, false]) rfl (by kernel_rfl) rfl (fun _ _ _ h => h) rfl hA (by decide) (by decide) rfl rfl hS (fun a w' hA hS' => run_ld (hA.ev rfl) (run_loadS Try.isAgg3 ((Sample.at_Confirmed (hat2960)).extB hS'))) ?_; clear hA; intro a hA
              refine d_takegf (i := 16) (L' := #[true, true, true, true, true, true, true, true, true, true, true, true, true, true, true, true, true, false, false, false, false, false, false, false, false, false, false]) rfl (by kernel_rfl) rfl (fun _ _ _ h => h) rfl hA (by decide) (by decide) rfl (fun _ => hS) (fun a w' hA => run_bin (hA.ev rfl) (hA.ev rfl) (bin_eql _ _ _ _)) ?_; clear hA; intro a hA
              refine d_takef (i := 17) (L' := #[true, true, true, true, true, true, true, true, true, true, true, true, true, true, true, true, true, true, false, false, false, false, false, false, false, false, false]) rfl (by kernel_rfl) rfl (fun _ _ _ h => h) hA (by decide) (fun _ => hS) (fun a w' hA => run_pick (hA.ev rfl) (fun _ => hA.ev rfl) (fun h => Bool.noConfusion h)) ?_; clear hA; intro a hA
              refine d_takef (i := 18) (L' := #[true, true, true, true, true, true, true, true, true, true, true, true, true, true, true, true, true, true, true, false, false, false, false, false, false, false, false]) rfl (by kernel_rfl) rfl (fun _ _ _ h => h) hA (by decide) (fun _ => hS) (fun a w' hA => run_move (hA.ev rfl)) ?_; clear hA; intro a hA
              refine bsplit (b := (((xs2896.getD i2620.toNat Sample.z).Confirmed) == 0)) (fun hb2961 => ?_) (fun hb2961 => ?_)
              · replace H2941 := ite_t hb2961 H2941
                have hA := hA.re (t := 43) rfl (congrArg Value.bool hb2961)
                refine d_takegf (i := 19) (L' := #[true, true, true, true, true, true, true, true, true, true, true, true, true, true, true, true, true, true, true, true, false, false, false, false, false, false, false]) rfl (by kernel_rfl) rfl (fun _ _ _ h => h) rfl hA (by decide) (by decide) rfl (fun _ => hS) (fun a w' hA => run_move (hA.ev rfl)) ?_; clear hA; intro a hA
                refine d_takegf (i := 20) (L' := #[true, true, true, true, true, true, true, true, true, true, true, true, true, true, true, true, true, true, true, true, true, false, false, false, false, false, false]) rfl (by kernel_rfl) rfl (fun _ _ _ h => h) rfl hA (by decide) (by decide) rfl (fun _ => hS) (fun a w' hA => run_move (hA.ev rfl)) ?_; clear hA; intro a hA
                obtain ⟨⟨hi2962, hj2963⟩, H2941⟩ := ite_some H2941
                obtain ⟨ad2964, hq2965, hat2966⟩ := Row.elem' (p := pSample) (RowOk.row (hM.row (p := pSample) .z)) (RowOk.len (hM.row (p := pSample) .z)) Sample.z i2620 hi2962 hj2963
                refine d_takegf (i := 21) (L' := #[true, true, true, true, true, true, true, true, true, true, true, true, true, true, true, true, true, true, true, true, true, true, false, false, false, false, false]) rfl (by kernel_rfl) rfl (fun _ _ _ h => h) rfl hA (by decide) (by decide) rfl (fun _ => hS) (fun a w' hA => run_idx Try.underlying28 Try.sizeOf35 (hA.ev rfl) hq2965 (hA.ev rfl) hi2962 hj2963) ?_; clear hA; intro a hA
                refine d_takegf (i := 22) (L' := #[true, true, true, true, true, true, true, true, true, true, true, true, true, true, true, true, true, true, true, true, true, true, true, false, false, false, false]) rfl (by kernel_rfl) rfl (fun _ _ _ h => h) rfl hA (by decide) (by decide) rfl (fun _ => hS) (fun a w' hA => run_field' Try.underlying35 rfl rfl Try.sizeOf3 (by decide) (hA.ev rfl)) ?_; clear hA; intro a hA
                refine d_takeg (i := 23) (L' := #[true, true, true, true, true, true, true, true, true, true, true, true, true, true, true, true, true, true, true, true, true, true, true, true, false, false, false]) rfl (by kernel_rfl) rfl (fun _ _ _ h => h) rfl hA (by decide) (by decide) rfl rfl hS (fun a w' hA hS' => run_ld (hA.ev rfl) (run_loadS Try.isAgg3 ((Sample.at_Seen (hat2966)).extB hS'))) ?_; clear hA; intro a hA
                refine d_takegf (i := 24) (L' := #[true, true, true, true, true, true, true, true, true, true, true, true, true, true, true, true, true, true, true, true, true, true, true, true, true, false, false]) rfl (by kernel_rfl) rfl (fun _ _ _ h => h) rfl hA (by decide) (by decide) rfl (fun _ => hS) (fun a w' hA => run_move (hA.ev rfl)) ?_; clear hA; intro a hA
                refine d_takegf (i := 25) (L' := #[true, true, true, true, true, true, true, true, true, true, true, true, true, true, true, true, true, true, true, true, true, true, true, true, true, true, false]) rfl (by kernel_rfl) rfl (fun _ _ _ h => h) rfl hA (by decide) (by decide) rfl (fun _ => hS) (fun a w' hA => run_bin (hA.ev rfl) (hA.ev rfl) (bin_lss _ _ _ _)) ?_; clear hA; intro a hA
                refine d_takef (i := 26) (L' := #[true, true, true, true, true, true, true, true, true, true, true, true, true, true, true, true, true, true, true, true, true, true, true, true, true, true, true]) rfl (by kernel_rfl) rfl (fun _ _ _ h => h) hA (by decide) (fun _ => hS) (fun a w' hA => run_pick (hA.ev rfl) (fun _ => hA.ev rfl) (fun h => Bool.noConfusion h)) ?_; clear hA; intro a hA
                refine d_done (by kernel_rfl) ?_
                exact ⟨(decide (((xs2896.getD i2620.toNat Sample.z).Seen) < height_2)), Option.some.inj H2941, hM, ((((((hA.nil.cons (hA.get 51 _ rfl)).cons (hA.get 9 _ rfl)).cons (hA.get 8 _ rfl)).cons (hA.get 7 _ rfl)).cons (hA.get 2 _ rfl)).cons (hA.get 1 _ rfl))⟩
              · replace H2941 := ite_f hb2961 H2941
                have hA := hA.re (t := 43) rfl (congrArg Value.bool hb2961)
                refine d_skip (i := 19) (L' := #[true, true, true, true, true, true, true, true, true, true, true, true, true, true, true, true, true, true, true, true, false, false, false, false, false, false, false]) rfl (by kernel_rfl) rfl (fun _ _ _ h => h) rfl hA (by decide) (by decide) rfl rfl (fun _ => hS) ?_; clear hA; intro a hA
                refine d_skip (i := 20) (L' := #[true, true, true, true, true, true, true, true, true, true, true, true, true, true, true, true, true, true, true, true, true, false, false, false, false, false, false]) rfl (by kernel_rfl) rfl (fun _ _ _ h => h) rfl hA (by decide) (by decide) rfl rfl (fun _ => hS) ?_; clear hA; intro a hA
                refine d_skip (i := 21) (L' := #[true, true, true, true, true, true, true, true, true, true, true, true, true, true, true, true, true, true, true, true, true, true, false, false, false, false, false]) rfl (by kernel_rfl) rfl (fun _ _ _ h => h) rfl hA (by decide) (by decide) rfl rfl (fun _ => hS) ?_; clear hA; intro a hA
                refine d_skip (i := 22) (L' := #[true, true, true, true, true, true, true, true, true, true, true, true, true, true, true, true, true, true, true, true, true, true, true, false, false, false, false]) rfl (by kernel_rfl) rfl (fun _ _ _ h => h) rfl hA (by decide) (by decide) rfl rfl (fun _ => hS) ?_; clear hA; intro a hA
                refine d_skip (i := 23) (L' := #[true, true, true, true, true, true, true, true, true, true, true, true, true, true, true, true, true, true, true, true, true, true, true, true, false, false, false]) rfl (by kernel_rfl) rfl (fun _ _ _ h => h) rfl hA (by decide) (by decide) rfl rfl (fun _ => hS) ?_; clear hA; intro a hA
                refine d_skip (i := 24) (L' := #[true, true, true, true, true, true, true, true, true, true, true, true, true, true, true, true, true, true, true, true, true, true, true, true, true, false, false]) rfl (by kernel_rfl) rfl (fun _ _ _ h => h) rfl hA (by decide) (by decide) rfl rfl (fun _ => hS) ?_; clear hA; intro a hA
                refine d_skip (i := 25) (L' := #[true, true, true, true, true, true, true, true, true, true, true, true, true, true, true, true, true, true, true, true, true, true, true, true, true, true, false]) rfl (by kernel_rfl) rfl (fun _ _ _ h => h) rfl hA (by decide) (by decide) rfl rfl (fun _ => hS) ?_; clear hA; intro a hA
                refine d_takef (i := 26) (L' := #[true, true, true, true, true, true, true, true, true, true, true, true, true, true, true, true, true, true, true, true, true, true, true, true, true, true, true]) rfl (by kernel_rfl) rfl (fun _ _ _ h => h) hA (by decide) (fun _ => hS) (fun a w' hA => run_pick (hA.ev rfl) (fun h => Bool.noConfusion h) (fun _ => hA.ev rfl)) ?_; clear hA; intro a hA
                refine d_done (by kernel_rfl) ?_
                exact ⟨false, Option.some.inj H2941, hM, ((((((hA.nil.cons (hA.get 51 _ rfl)).cons (hA.get 9 _ rfl)).cons (hA.get 8 _ rfl)).cons (hA.get 7 _ rfl)).cons (hA.get 2 _ rfl)).cons (hA.get 1 _ rfl))⟩
            · replace H2941 := ite_f hb2955 H2941
              have hA := hA.re (t := 35) rfl (congrArg Value.bool hb2955)
              refine d_skip (i := 11) (L' := #[true, true, true, true, true, true, true, true, true, true, true, true, false, false, false, false, false, false, false, false, false, false, false, false, false, false, false]) rfl (by kernel_rfl) rfl (fun _ _ _ h => h) rfl hA (by decide) (by decide) rfl rfl (fun _ => hS) ?_; clear hA; intro a hA
              refine d_skip (i := 12) (L' := #[true, true, true, true, true, true, true, true, true, true, true, true, true, false, false, false, false, false, false, false, false, false, false, false, false, false, false]) rfl (by kernel_rfl) rfl (fun _ _ _ h => h) rfl hA (by decide) (by decide) rfl rfl (fun _ => hS) ?_; clear hA; intro a hA
              refine d_skip (i := 13) (L' := #[true, true, true, true, true, true, true, true, true, true, true, true, true, true, false, false, false, false, false, false, false, false, false, false, false, false, false]) rfl (by kernel_rfl) rfl (fun _ _ _ h => h) rfl hA (by decide) (by decide) rfl rfl (fun _ => hS) ?_; clear hA; intro a hA
              refine d_skip (i := 14) (L' := #[true, true, true, true, true, true, true, true, true, true, true, true, true, true, true, false, false, false, false, false, false, false, false, false, false, false, false]) rfl (by kernel_rfl) rfl (fun _ _ _ h => h) rfl hA (by decide) (by decide) rfl rfl (fun _ => hS) ?_; clear hA; intro a hA
              refine d_skip (i := 15) (L' := #[true, true, true, true, true, true, true, true, true, true, true, true, true, true, true, true, false, false, false, false, false, false, false, false, false, false, false]) rfl (by kernel_rfl) rfl (fun _ _ _ h => h) rfl hA (by decide) (by decide) rfl rfl (fun _ => hS) ?_; clear hA; intro a hA
              refine d_skip (i := 16) (L' := #[true, true, true, true, true, true, true, true, true, true, true, true, true, true, true, true, true, false, false, false, false, false, false, false, false, false, false]) rfl (by kernel_rfl) rfl (fun _ _ _ h => h) rfl hA (by decide) (by decide) rfl rfl (fun _ => hS) ?_; clear hA; intro a hA
              refine d_takef (i := 17) (L' := #[true, true, true, true, true, true, true, true, true, true, true, true, true, true, true, true, true, true, false, false, false, false, false, false, false, false, false]) rfl (by kernel_rfl) rfl (fun _ _ _ h => h) hA (by decide) (fun _ => hS) (fun a w' hA => run_pick (hA.ev rfl) (fun h => Bool.noConfusion h) (fun _ => hA.ev rfl)) ?_; clear hA; intro a hA
              refine d_takef (i := 18) (L' := #[true, true, true, true, true, true, true, true, true, true, true, true, true, true, true, true, true, true, true, false, false, false, false, false, false, false, false]) rfl (by kernel_rfl) rfl (fun _ _ _ h => h) hA (by decide) (fun _ => hS) (fun a w' hA => run_move (hA.ev rfl)) ?_; clear hA; intro a hA
              refine d_skip (i := 19) (L' := #[true, true, true, true, true, true, true, true, true, true, true, true, true, true, true, true, true, true, true, true, false, false, false, false, false, false, false]) rfl (by kernel_rfl) rfl (fun _ _ _ h => h) rfl hA (by decide) (by decide) rfl rfl (fun _ => hS) ?_; clear hA; intro a hA
              refine d_skip (i := 20) (L' := #[true, true, true, true, true, true, true, true, true, true, true, true, true, true, true, true, true, true, true, true, true, false, false, false, false, false, false]) rfl (by kernel_rfl) rfl (fun _ _ _ h => h) rfl hA (by decide) (by decide) rfl rfl (fun _ => hS) ?_; clear hA; intro a hA
              refine d_skip (i := 21) (L' := #[true, true, true, true, true, true, true, true, true, true, true, true, true, true, true, true, true, true, true, true, true, true, false, false, false, false, false]) rfl (by kernel_rfl) rfl (fun _ _ _ h => h) rfl hA (by decide) (by decide) rfl rfl (fun _ => hS) ?_; clear hA; intro a hA
              refine d_skip (i := 22) (L' := #[true, true, true, true, true, true, true, true, true, true, true, true, true, true, true, true, true, true, true, true, true, true, true, false, false, false, false]) rfl (by kernel_rfl) rfl (fun _ _ _ h => h) rfl hA (by decide) (by decide) rfl rfl (fun _ => hS) ?_; clear hA; intro a hA
              refine d_skip (i := 23) (L' := #[true, true, true, true, true, true, true, true, true, true, true, true, true, true, true, true, true, true, true, true, true, true, true, true, false, false, false]) rfl (by kernel_rfl) rfl (fun _ _ _ h => h) rfl hA (by decide) (by decide) rfl rfl (fun _ => hS) ?_; clear hA; intro a hA
              refine d_skip (i := 24) (L' := #[true, true, true, true, true, true, true, true, true, true, true, true, true, true, true, true, true, true, true, true, true, true, true, true, true, false, false]) rfl (by kernel_rfl) rfl (fun _ _ _ h => h) rfl hA (by decide) (by decide) rfl rfl (fun _ => hS) ?_; clear hA; intro a hA
              refine d_skip (i := 25) (L' := #[true, true, true, true, true, true, true, true, true, true, true, true, true, true, true, true, true, true, true, true, true, true, true, true, true, true, false]) rfl (by kernel_rfl) rfl (fun _ _ _ h => h) rfl hA (by decide) (by decide) rfl rfl (fun _ => hS) ?_; clear hA; intro a hA
              refine d_takef (i := 26) (L' := #[true, true, true, true, true, true, true, true, true, true, true, true, true, true, true, true, true, true, true, true, true, true, true, true, true, true, true]) rfl (by kernel_rfl) rfl (fun _ _ _ h => h) hA (by decide) (fun _ => hS) (fun a w' hA => run_pick (hA.ev rfl) (fun h => Bool.noConfusion h) (fun _ => hA.ev rfl)) ?_; clear hA; intro a hA
              refine d_done (by kernel_rfl) ?_
              exact ⟨false, Option.some.inj H2941, hM, ((((((hA.nil.cons (hA.get 51 _ rfl)).cons (hA.get 9 _ rfl)).cons (hA.get 8 _ rfl)).cons (hA.get 7 _ rfl)).cons (hA.get 2 _ rfl)).cons (hA.get 1 _ rfl))⟩
          clear hM hA
          rintro a w2967 ⟨t2940, rfl, hM, hA⟩
          try dsimp only at H2905
          refine TN ?_
          obtain ⟨o2982, H2981, H2905⟩ := Option.bind_eq_some_iff.1 H2905
          refine cutC (fun a w => ∃ (xs2978 : (List Sample)), xs2978 = o2982 ∧ Mem F w0 w [.row 35 pSample.sz (.slice A1500 (0 + l_0.length) c1501) (pSample.flat xs2978)] ∧ Has 58 [(1, (.slice A1 ids_1.length c1)), (2, (.int .i64 height_2)), (7, (.slice A1500 (0 + l_0.length) c1501)), (8, (.int .i64 i2620)), (9, (.int .i64 t2899))] a) ?_ ?_
          · refine tcond (b := t2940) hA rfl (fun hb2983 => ?_) (fun hb2983 => ?_)
            · replace H2981 := ite_t hb2983 H2981
              refine wp_region_lit ?_
              refine L1 (stv hA (by decide) (run_move (hA.ev rfl)) ?_)
              clear hA; intro a hA
              refine L1 (stv hA (by decide) (run_move (hA.ev rfl)) ?_)
              clear hA; intro a hA
              refine L1 (stv hA (by decide) (run_move (hA.ev rfl)) ?_)
              clear hA; intro a hA
              obtain ⟨⟨hi2984, hj2985⟩, H2981⟩ := ite_some H2981
              obtain ⟨ad2986, hq2987, hat2988⟩ := Row.elem' (p := pSample) (RowOk.row (hM.row (p := pSample) .z)) (RowOk.len (hM.row (p := pSample) .z)) Sample.z i2620 hi2984 hj2985
              refine L1 (stv hA (by decide) (run_idx Try.underlying28 Try.sizeOf35 (hA.ev rfl) hq2987 (hA.ev rfl) hi2984 hj2985) ?_)
              clear hA; intro a hA
              refine L1 (stv hA (by decide) (run_field' Try.underlying35 rfl rfl Try.sizeOf3 (by decide) (hA.ev rfl)) ?_)
              clear hA; intro a hA
              refine L1 (e_setrow (x1 := (xs2896.getD i2620.toNat Sample.z)) (y1 := (Sample.mk ((xs2896.getD i2620.toNat Sample.z).ID) ((xs2896.getD i2620.toNat Sample.z).Class) ((xs2896.getD i2620.toNat Sample.z).Seen) height_2)) (off := 34) hM .z Try.sizeOf3 hA rfl rfl hq2987 rfl (by first | rfl | simp [Value.cells, Pl.len]) (one_val rfl) hi2984 hj2985 (getD_getD _ _ _) (by decide) (Sample.spl_Confirmed _ _) ?_)
              clear hM hA; intro w2989  hM hE  a hA
              refine LQ ?_
              exact ⟨(xs2896.set i2620.toNat (Sample.mk ((xs2896.getD i2620.toNat Sample.z).ID) ((xs2896.getD i2620.toNat Sample.z).Class) ((xs2896.getD i2620.toNat Sample.z).Seen) height_2)), Option.some.inj H2981, hM, (((((hA.nil.cons (hA.get 9 _ rfl)).cons (hA.get 8 _ rfl)).cons (hA.get 7 _ rfl)).cons (hA.get 2 _ rfl)).cons (hA.get 1 _ rfl))⟩
            · replace H2981 := ite_f hb2983 H2981
              refine wp_skip ?_
              exact ⟨xs2896, Option.some.inj H2981, hM, (((((hA.nil.cons (hA.get 9 _ rfl)).cons (hA.get 8 _ rfl)).cons (hA.get 7 _ rfl)).cons (hA.get 2 _ rfl)).cons (hA.get 1 _ rfl))⟩
          clear hM hA
          rintro a w2990 ⟨xs2978, rfl, hM, hA⟩
          try dsimp only at H2905
          refine BN ?_
          refine TN ?_
          refine wp_region_lit ?_
          refine L1 (stv hA (by decide) (run_move (hA.ev rfl)) ?_)
          clear hA; intro a hA
          refine L1 (stv hA (by decide) (run_bin (hA.ev rfl) (hA.ev rfl) (bin_add _ _ _ _)) ?_)
          clear hA; intro a hA
          refine L1 (stv hA (by decide) (run_assign (hA.ev rfl)) ?_)
          clear hA; intro a hA
          refine LQ ?_
          exact ⟨_, Nat.lt_succ_self m2907, xs2978, IntKind.i64.wrap (t2899 + 1), H2905, hM, (((((hA.nil.cons (hA.get 9 _ rfl)).cons (hA.get 8 _ rfl)).cons (hA.get 7 _ rfl)).cons (hA.get 2 _ rfl)).cons (hA.get 1 _ rfl))⟩
        · replace H2905 := ite_f hb2909 H2905
          refine wp_exit ?_
          refine TX ?_
          refine TX ?_
          refine BX ?_
          exact ⟨xs2896, Option.some.inj H2905, hM, ((((hA.nil.cons (hA.get 8 _ rfl)).cons (hA.get 7 _ rfl)).cons (hA.get 2 _ rfl)).cons (hA.get 1 _ rfl))⟩
      clear hM hA
      rintro a w2991 ⟨xs2903, rfl, hM, hA⟩
      try dsimp only at H2623
      refine BN ?_
      refine TN ?_
      refine wp_region_lit ?_
      refine L1 (stv hA (by decide) (run_move (hA.ev rfl)) ?_)
      clear hA; intro a hA
      refine L1 (stv hA (by decide) (run_bin (hA.ev rfl) (hA.ev rfl) (bin_add _ _ _ _)) ?_)
      clear hA; intro a hA
      refine L1 (stv hA (by decide) (run_assign (hA.ev rfl)) ?_)
      clear hA; intro a hA
      refine LQ ?_
      exact ⟨_, Nat.lt_succ_self m2625, xs2903, IntKind.i64.wrap (i2620 + 1), H2623, hM, ((((hA.nil.cons (hA.get 8 _ rfl)).cons (hA.get 7 _ rfl)).cons (hA.get 2 _ rfl)).cons (hA.get 1 _ rfl))⟩
    · replace H2623 := ite_f hb2627 H2623
      refine wp_exit ?_
      refine TX ?_
      refine TX ?_
      refine BX ?_
      exact ⟨xs2618, Option.some.inj H2623, hM, (hA.nil.cons (hA.get 7 _ rfl))⟩
  clear hM hA
  rintro a w2992 ⟨xs2622, rfl, hM, hA⟩
  try dsimp only at H
  refine TN ?_
  refine wp_seq ?_
  refine wp_region_lit ?_
  refine L1 (stv hA (by decide) (run_move (hA.ev rfl)) ?_)
  clear hA; intro a hA
  refine L1 (stv hA (by decide) (run_assign (hA.ev rfl)) ?_)
  clear hA; intro a hA
  refine LQ ?_
  refine TN ?_
  refine wp_ret ?_
  obtain rfl := Option.some.inj H
  exact ret_post1 (fn := Try.f25) hA rfl rfl ⟨_, rfl, (.slice A1500 (0 + l_0.length) c1501), rfl, hM⟩

def ref33_in.f (k : Nat) (n_0 : Int) (low_1 : Int) (high_2 : Int) : Option Bool := (Option.bind (α := Bool) (if (decide (n_0 ≥ low_1)) = true then (some (decide (n_0 ≤ high_2))) else (some false)) (fun t10 => (some t10)))
set_option maxRecDepth 100000 in
theorem ref33_in.calls (k : Nat) (n_0 : Int) (low_1 : Int) (high_2 : Int) (F : List (Option Nat)) (r : Bool) (w0 : World) (hM : Mem F w0 w0 []) (H : ref33_in.f k n_0 low_1 high_2 = some r) :
    Calls Try.prog 23 #[(.int .i64 n_0), (.int .i64 low_1), (.int .i64 high_2)] w0 fun e w' => ∃ v, e = .returned v ∧ v = (.bool r) ∧ Mem F w0 w' [] := by
  unfold ref33_in.f at H
  refine enterL (n := 15) [(.int .i64 n_0), (.int .i64 low_1), (.int .i64 high_2)] Try.func23 rfl rfl rfl ?_
  intro a hA
  refine wp_seq ?_
  refine wp_region_lit ?_
  refine L1 (stv hA (by decide) (run_assign (hA.ev rfl)) ?_)
  clear hA; intro a hA
  refine LQ ?_
  refine TN ?_
  refine wp_seq ?_
  obtain ⟨o12, H11, H⟩ := Option.bind_eq_some_iff.1 H
  refine cutC (fun a w => ∃ (t10 : Bool), t10 = o12 ∧ Mem F w0 w [] ∧ Has 15 [(6, (.bool t10))] a) ?_ ?_
  · refine wp_region_lit ?_
    refine L1 (stv hA (by decide) (run_move (hA.ev rfl)) ?_)
    clear hA; intro a hA
    refine L1 (stv hA (by decide) (run_move (hA.ev rfl)) ?_)
    clear hA; intro a hA
    refine L1 (stv hA (by decide) (run_bin (hA.ev rfl) (hA.ev rfl) (bin_geq _ _ _ _)) ?_)
    clear hA; intro a hA
    refine L1 (stv hA (by decide) (run_move (hA.ev rfl)) ?_)
    clear hA; intro a hA
    refine bsplit (b := (decide (n_0 ≥ low_1))) (fun hb13 => ?_) (fun hb13 => ?_)
    · replace H11 := ite_t hb13 H11
      have hA := hA.re (t := 10) rfl (congrArg Value.bool hb13)
      refine L1 (gate_on rfl rfl hA (by decide) rfl (stv hA (by decide) (run_move (hA.ev rfl)) ?_))
      clear hA; intro a hA
      refine L1 (gate_on rfl rfl hA (by decide) rfl (stv hA (by decide) (run_move (hA.ev rfl)) ?_))
      clear hA; intro a hA
      refine L1 (gate_on rfl rfl hA (by decide) rfl (stv hA (by decide) (run_bin (hA.ev rfl) (hA.ev rfl) (bin_leq _ _ _ _)) ?_))
      clear hA; intro a hA
      refine L1 (stv hA (by decide) (run_pick (hA.ev rfl) (fun _ => hA.ev rfl) (fun h => Bool.noConfusion h)) ?_)
      clear hA; intro a hA
      refine L1 (stv hA (by decide) (run_assign (hA.ev rfl)) ?_)
      clear hA; intro a hA
      refine LQ ?_
      exact ⟨(decide (n_0 ≤ high_2)), Option.some.inj H11, hM, (hA.nil.cons (hA.get 6 _ rfl))⟩
    · replace H11 := ite_f hb13 H11
      have hA := hA.re (t := 10) rfl (congrArg Value.bool hb13)
      refine L1 (gate_off rfl (by decide) rfl hA (by decide) rfl rfl ?_); clear hA; intro a hA
      refine L1 (gate_off rfl (by decide) rfl hA (by decide) rfl rfl ?_); clear hA; intro a hA
      refine L1 (gate_off rfl (by decide) rfl hA (by decide) rfl rfl ?_); clear hA; intro a hA
      refine L1 (stv hA (by decide) (run_pick (hA.ev rfl) (fun h => Bool.noConfusion h) (fun _ => hA.ev rfl)) ?_)
      clear hA; intro a hA
      refine L1 (stv hA (by decide) (run_assign (hA.ev rfl)) ?_)
      clear hA; intro a hA
      refine LQ ?_
      exact ⟨false, Option.some.inj H11, hM, (hA.nil.cons (hA.get 6 _ rfl))⟩
  clear hM hA
  rintro a w14 ⟨t10, rfl, hM, hA⟩
  try dsimp only at H
  refine TN ?_
  refine wp_ret ?_
  obtain rfl := Option.some.inj H
  exact ret_post1 (fn := Try.f23) hA rfl rfl ⟨_, rfl, rfl, hM⟩

def ref33_Bound.l0 (class_0 : Int) : Nat → Int → Int → Option (Int)
  | 0, _, _ => none
  | k + 1, n56, i58 => (if (decide (i58 < class_0)) = true then (ref33_Bound.l0 class_0 k (IntKind.i64.wrap (n56 + (IntKind.i64.wrap (n56.tdiv 2)))) (IntKind.i64.wrap (i58 + 1))) else (some n56))
def ref33_Bound.f (k : Nat) (class_0 : Int) : Option Int := ((ref33_in.f k class_0 0 23).bind fun r34 => (if (!r34) = true then (some 0) else (Option.bind (α := Int) (ref33_Bound.l0 class_0 k 10 0) (fun n60 => (some n60)))))
set_option maxRecDepth 100000 in
theorem ref33_Bound.calls (k : Nat) (class_0 : Int) (F : List (Option Nat)) (r : Int) (w0 : World) (hM : Mem F w0 w0 []) (H : ref33_Bound.f k class_0 = some r) :
    Calls Try.prog 11 #[(.int .i64 class_0)] w0 fun e w' => ∃ v, e = .returned v ∧ v = (.int .i64 r) ∧ Mem F w0 w' [] := by
  unfold ref33_Bound.f at H
  refine enterL (n := 18) [(.int .i64 class_0)] Try.func11 rfl rfl rfl ?_
  intro a hA
  refine wp_seq ?_
  refine wp_region_lit ?_
  refine L1 (stv hA (by decide) (run_assign (hA.ev rfl)) ?_)
  clear hA; intro a hA
  refine LQ ?_
  refine TN ?_
  refine wp_seq ?_
  refine wp_seq ?_
  refine wp_region_lit ?_
  refine L1 (stv hA (by decide) (run_move (hA.ev rfl)) ?_)
  clear hA; intro a hA
  obtain ⟨r34, H35, H⟩ := Option.bind_eq_some_iff.1 H
  refine L1 (st_call Try.call23 hA [(.int .i64 class_0), (.int .i64 0), (.int .i64 23)] rfl (by decide) (ref33_in.calls _ _ _ _ _ _ _ (hM.front (Ms := [])) H35) ?_)
  clear hA; rintro _ w36 ⟨rfl, hMc⟩ a hA
  have hE := hMc.below; have hM := hM.call (Ms := []) hMc
  clear hMc; simp only [List.cons_append, List.nil_append] at hM
  refine L1 (stv hA (by decide) (run_not (hA.ev rfl)) ?_)
  clear hA; intro a hA
  refine LQ ?_
  refine TN ?_
  refine tcond (b := (!r34)) hA rfl (fun hb37 => ?_) (fun hb37 => ?_)
  · replace H := ite_t hb37 H
    refine wp_seq ?_
    refine wp_region_lit ?_
    refine L1 (stv hA (by decide) (run_assign (hA.ev rfl)) ?_)
    clear hA; intro a hA
    refine LQ ?_
    refine TN ?_
    refine wp_ret ?_
    obtain rfl := Option.some.inj H
    refine TR ?_
    exact ret_post1 (fn := Try.f11) hA rfl rfl ⟨_, rfl, rfl, hM⟩
  · replace H := ite_f hb37 H
    refine wp_skip ?_
    refine TN ?_
    refine wp_seq ?_
    refine wp_region_lit ?_
    refine L1 (stv hA (by decide) (run_assign (hA.ev rfl)) ?_)
    clear hA; intro a hA
    refine LQ ?_
    refine TN ?_
    refine wp_seq ?_
    refine wp_seq ?_
    refine wp_region_lit ?_
    refine L1 (stv hA (by decide) (run_assign (hA.ev rfl)) ?_)
    clear hA; intro a hA
    refine LQ ?_
    refine TN ?_
    obtain ⟨o62, H61, H⟩ := Option.bind_eq_some_iff.1 H
    refine cutC (fun a w => ∃ (n60 : Int), n60 = o62 ∧ Mem F w0 w [] ∧ Has 18 [(3, (.int .i64 n60))] a) ?_ ?_
    · refine wp_block ?_
      refine wp_loop_ghost (fun m a w => ∃ (n56 : Int) (i58 : Int), ref33_Bound.l0 class_0 m n56 i58 = some o62 ∧ Mem F w0 w [] ∧ Has 18 [(0, (.int .i64 class_0)), (3, (.int .i64 n56)), (4, (.int .i64 i58))] a) k ⟨10, 0, H61, hM, (((hA.nil.cons (hA.get 4 _ rfl)).cons (hA.get 3 _ rfl)).cons (hA.get 0 _ rfl))⟩ ?_
      clear hM hA; rintro m63 a w64 ⟨n56, i58, H61, hM, hA⟩
      cases m63 with
      | zero => exact absurd H61 (by simp [ref33_Bound.l0])
      | succ m63 =>
      rw [ref33_Bound.l0] at H61
      refine wp_seq ?_
      refine wp_seq ?_
      refine wp_region_lit ?_
      refine L1 (stv hA (by decide) (run_move (hA.ev rfl)) ?_)
      clear hA; intro a hA
      refine L1 (stv hA (by decide) (run_move (hA.ev rfl)) ?_)
      clear hA; intro a hA
      refine L1 (stv hA (by decide) (run_bin (hA.ev rfl) (hA.ev rfl) (bin_lss _ _ _ _)) ?_)
      clear hA; intro a hA
      refine LQ ?_
      refine TN ?_
      refine tcond (b := (decide (i58 < class_0))) hA rfl (fun hb65 => ?_) (fun hb65 => ?_)
      · replace H61 := ite_t hb65 H61
        refine wp_skip ?_
        refine TN ?_
        refine wp_seq ?_
        refine wp_block ?_
        refine wp_region_lit ?_
        refine L1 (stv hA (by decide) (run_move (hA.ev rfl)) ?_)
        clear hA; intro a hA
        refine L1 (stv hA (by decide) (run_move (hA.ev rfl)) ?_)
        clear hA; intro a hA
        refine L1 (stv hA (by decide) (run_bin (hA.ev rfl) (hA.ev rfl) (bin_quo _ _ _ _ (by decide))) ?_)
        clear hA; intro a hA
        refine L1 (stv hA (by decide) (run_bin (hA.ev rfl) (hA.ev rfl) (bin_add _ _ _ _)) ?_)
        clear hA; intro a hA
        refine L1 (stv hA (by decide) (run_assign (hA.ev rfl)) ?_)
        clear hA; intro a hA
        refine LQ ?_
        refine BN ?_
        refine TN ?_
        refine wp_region_lit ?_
        refine L1 (stv hA (by decide) (run_move (hA.ev rfl)) ?_)
        clear hA; intro a hA
        refine L1 (stv hA (by decide) (run_bin (hA.ev rfl) (hA.ev rfl) (bin_add _ _ _ _)) ?_)
        clear hA; intro a hA
        refine L1 (stv hA (by decide) (run_assign (hA.ev rfl)) ?_)
        clear hA; intro a hA
        refine LQ ?_
        exact ⟨_, Nat.lt_succ_self m63, IntKind.i64.wrap (n56 + (IntKind.i64.wrap (n56.tdiv 2))), IntKind.i64.wrap (i58 + 1), H61, hM, (((hA.nil.cons (hA.get 4 _ rfl)).cons (hA.get 3 _ rfl)).cons (hA.get 0 _ rfl))⟩
      · replace H61 := ite_f hb65 H61
        refine wp_exit ?_
        refine TX ?_
        refine TX ?_
        refine BX ?_
        exact ⟨n56, Option.some.inj H61, hM, (hA.nil.cons (hA.get 3 _ rfl))⟩
    clear hM hA
    rintro a w66 ⟨n60, rfl, hM, hA⟩
    try dsimp only at H
    refine TN ?_
    refine wp_seq ?_
    refine wp_region_lit ?_
    refine L1 (stv hA (by decide) (run_move (hA.ev rfl)) ?_)
    clear hA; intro a hA
    refine L1 (stv hA (by decide) (run_assign (hA.ev rfl)) ?_)
    clear hA; intro a hA
    refine LQ ?_
    refine TN ?_
    refine wp_ret ?_
    obtain rfl := Option.some.inj H
    exact ret_post1 (fn := Try.f11) hA rfl rfl ⟨_, rfl, rfl, hM⟩

def ref33_Class.l0 (rate_0 : Int) : Nat → Int → Int → Option (Int)
  | 0, _, _ => none
  | k + 1, out132, c134 => (if (decide (c134 < 24)) = true then ((ref33_Bound.f k c134).bind fun r142 => (Option.bind (α := Int) (if (decide (r142 ≤ rate_0)) = true then (some c134) else (some out132)) (fun out148 => (ref33_Class.l0 rate_0 k out148 (IntKind.i64.wrap (c134 + 1)))))) else (some out132))
def ref33_Class.f (k : Nat) (rate_0 : Int) : Option Int := (Option.bind (α := Int) (ref33_Class.l0 rate_0 k (-1) 0) (fun out136 => (some out136)))
set_option maxRecDepth 100000 in
theorem ref33_Class.calls (k : Nat) (rate_0 : Int) (F : List (Option Nat)) (r : Int) (w0 : World) (hM : Mem F w0 w0 []) (H : ref33_Class.f k rate_0 = some r) :
    Calls Try.prog 13 #[(.int .i64 rate_0)] w0 fun e w' => ∃ v, e = .returned v ∧ v = (.int .i64 r) ∧ Mem F w0 w' [] := by
  unfold ref33_Class.f at H
  refine enterL (n := 15) [(.int .i64 rate_0)] Try.func13 rfl rfl rfl ?_
  intro a hA
  refine wp_seq ?_
  refine wp_region_lit ?_
  refine L1 (stv hA (by decide) (run_assign (hA.ev rfl)) ?_)
  clear hA; intro a hA
  refine LQ ?_
  refine TN ?_
  refine wp_seq ?_
  refine wp_region_lit ?_
  refine L1 (stv hA (by decide) (run_assign (hA.ev rfl)) ?_)
  clear hA; intro a hA
  refine LQ ?_
  refine TN ?_
  refine wp_seq ?_
  refine wp_seq ?_
  refine wp_region_lit ?_
  refine L1 (stv hA (by decide) (run_assign (hA.ev rfl)) ?_)
  clear hA; intro a hA
  refine LQ ?_
  refine TN ?_
  obtain ⟨o138, H137, H⟩ := Option.bind_eq_some_iff.1 H
  refine cutC (fun a w => ∃ (out136 : Int), out136 = o138 ∧ Mem F w0 w [] ∧ Has 15 [(3, (.int .i64 out136))] a) ?_ ?_
  · refine wp_block ?_
    refine wp_loop_ghost (fun m a w => ∃ (out132 : Int) (c134 : Int), ref33_Class.l0 rate_0 m out132 c134 = some o138 ∧ Mem F w0 w [] ∧ Has 15 [(0, (.int .i64 rate_0)), (3, (.int .i64 out132)), (4, (.int .i64 c134))] a) k ⟨(-1), 0, H137, hM, (((hA.nil.cons (hA.get 4 _ rfl)).cons (hA.get 3 _ rfl)).cons (hA.get 0 _ rfl))⟩ ?_
    clear hM hA; rintro m139 a w140 ⟨out132, c134, H137, hM, hA⟩
    cases m139 with
    | zero => exact absurd H137 (by simp [ref33_Class.l0])
    | succ m139 =>
    rw [ref33_Class.l0] at H137
    refine wp_seq ?_
    refine wp_seq ?_
    refine wp_region_lit ?_
    refine L1 (stv hA (by decide) (run_move (hA.ev rfl)) ?_)
    clear hA; intro a hA
    refine L1 (stv hA (by decide) (run_bin (hA.ev rfl) (hA.ev rfl) (bin_lss _ _ _ _)) ?_)
    clear hA; intro a hA
    refine LQ ?_
    refine TN ?_
    refine tcond (b := (decide (c134 < 24))) hA rfl (fun hb141 => ?_) (fun hb141 => ?_)
    · replace H137 := ite_t hb141 H137
      refine wp_skip ?_
      refine TN ?_
      refine wp_seq ?_
      refine wp_block ?_
      refine wp_seq ?_
      refine wp_region_lit ?_
      refine L1 (stv hA (by decide) (run_move (hA.ev rfl)) ?_)
      clear hA; intro a hA
      obtain ⟨r142, H143, H137⟩ := Option.bind_eq_some_iff.1 H137
      refine L1 (st_call Try.call11 hA [(.int .i64 c134)] rfl (by decide) (ref33_Bound.calls _ _ _ _ _ (hM.front (Ms := [])) H143) ?_)
      clear hA; rintro _ w144 ⟨rfl, hMc⟩ a hA
      have hE := hMc.below; have hM := hM.call (Ms := []) hMc
      clear hMc; simp only [List.cons_append, List.nil_append] at hM
      refine L1 (stv hA (by decide) (run_move (hA.ev rfl)) ?_)
      clear hA; intro a hA
      refine L1 (stv hA (by decide) (run_bin (hA.ev rfl) (hA.ev rfl) (bin_leq _ _ _ _)) ?_)
      clear hA; intro a hA
      refine LQ ?_
      refine TN ?_
      obtain ⟨o151, H150, H137⟩ := Option.bind_eq_some_iff.1 H137
      refine cutC (fun a w => ∃ (out148 : Int), out148 = o151 ∧ Mem F w0 w [] ∧ Has 15 [(0, (.int .i64 rate_0)), (3, (.int .i64 out148)), (4, (.int .i64 c134))] a) ?_ ?_
      · refine tcond (b := (decide (r142 ≤ rate_0))) hA rfl (fun hb152 => ?_) (fun hb152 => ?_)
        · replace H150 := ite_t hb152 H150
          refine wp_region_lit ?_
          refine L1 (stv hA (by decide) (run_move (hA.ev rfl)) ?_)
          clear hA; intro a hA
          refine L1 (stv hA (by decide) (run_assign (hA.ev rfl)) ?_)
          clear hA; intro a hA
          refine LQ ?_
          exact ⟨c134, Option.some.inj H150, hM, (((hA.nil.cons (hA.get 4 _ rfl)).cons (hA.get 3 _ rfl)).cons (hA.get 0 _ rfl))⟩
        · replace H150 := ite_f hb152 H150
          refine wp_skip ?_
          exact ⟨out132, Option.some.inj H150, hM, (((hA.nil.cons (hA.get 4 _ rfl)).cons (hA.get 3 _ rfl)).cons (hA.get 0 _ rfl))⟩
      clear hM hA
      rintro a w153 ⟨out148, rfl, hM, hA⟩
      try dsimp only at H137
      refine BN ?_
      refine TN ?_
      refine wp_region_lit ?_
      refine L1 (stv hA (by decide) (run_move (hA.ev rfl)) ?_)
      clear hA; intro a hA
      refine L1 (stv hA (by decide) (run_bin (hA.ev rfl) (hA.ev rfl) (bin_add _ _ _ _)) ?_)
      clear hA; intro a hA
      refine L1 (stv hA (by decide) (run_assign (hA.ev rfl)) ?_)
      clear hA; intro a hA
      refine LQ ?_
      exact ⟨_, Nat.lt_succ_self m139, out148, IntKind.i64.wrap (c134 + 1), H137, hM, (((hA.nil.cons (hA.get 4 _ rfl)).cons (hA.get 3 _ rfl)).cons (hA.get 0 _ rfl))⟩
    · replace H137 := ite_f hb141 H137
      refine wp_exit ?_
      refine TX ?_
      refine TX ?_
      refine BX ?_
      exact ⟨out132, Option.some.inj H137, hM, (hA.nil.cons (hA.get 3 _ rfl))⟩
  clear hM hA
  rintro a w154 ⟨out136, rfl, hM, hA⟩
  try dsimp only at H
  refine TN ?_
  refine wp_seq ?_
  refine wp_region_lit ?_
  refine L1 (stv hA (by decide) (run_move (hA.ev rfl)) ?_)
  clear hA; intro a hA
  refine L1 (stv hA (by decide) (run_assign (hA.ev rfl)) ?_)
  clear hA; intro a hA
  refine LQ ?_
  refine TN ?_
  refine wp_ret ?_
  obtain rfl := Option.some.inj H
  exact ret_post1 (fn := Try.f13) hA rfl rfl ⟨_, rfl, rfl, hM⟩

def ref33_find.l0 (l_0 : (List Sample)) (id_1 : (Vector Int 32)) : Nat → Int → Option (Out Int (Unit))
  | 0, _ => none
  | k + 1, i104 => (if (decide (i104 < ((l_0.length : Nat) : Int))) = true then (if 0 ≤ i104 ∧ i104 < ((l_0.length : Nat) : Int) then (if (((l_0.getD i104.toNat Sample.z).ID) == id_1) = true then (some (.ret i104)) else (ref33_find.l0 l_0 id_1 k (IntKind.i64.wrap (i104 + 1)))) else none) else (some (.go ())))
def ref33_find.f (k : Nat) (l_0 : (List Sample)) (id_1 : (Vector Int 32)) : Option Int := (Option.bind (α := Out Int (Unit)) (ref33_find.l0 l_0 id_1 k 0) (fun o => match o with | .ret r => some r | .go _ => (some (-1))))
set_option maxRecDepth 100000 in
theorem ref33_find.calls (k : Nat) (l_0 : (List Sample)) (id_1 : (Vector Int 32)) (F : List (Option Nat)) (v0 : Value) (r : Int) (w0 : World) (h0 : RoV F pSample w0 v0 l_0) (hM : Mem F w0 w0 []) (H : ref33_find.f k l_0 id_1 = some r) :
    Calls Try.prog 35 #[v0, (.agg (pHash.enc id_1).toArray)] w0 fun e w' => ∃ v, e = .returned v ∧ v = (.int .i64 r) ∧ Mem F w0 w' [] := by
  unfold ref33_find.f at H
  obtain ⟨A0, c0, rfl, hr0, hc0⟩ := h0
  refine enterL (n := 20) [(.slice A0 l_0.length c0), (.agg (pHash.enc id_1).toArray)] Try.func35 rfl rfl rfl ?_
  intro a hA
  refine wp_seq ?_
  refine wp_region_lit ?_
  refine L1 (e_box (cs := (pHash.enc id_1)) hM hA rfl rfl (by decide) ?_)
  clear hM hA; intro w61 g60 hM hE  a hA
  refine L1 (stv hA (by decide) (run_assign (hA.ev rfl)) ?_)
  clear hA; intro a hA
  refine LQ ?_
  refine TN ?_
  refine wp_seq ?_
  refine wp_seq ?_
  refine wp_region_lit ?_
  refine L1 (stv hA (by decide) (run_assign (hA.ev rfl)) ?_)
  clear hA; intro a hA
  refine LQ ?_
  refine TN ?_
  obtain ⟨o106, H105, H⟩ := Option.bind_eq_some_iff.1 H
  refine cutC (fun a w => (.go ()) = o106 ∧ Mem F w0 w [] ∧ Has 20 [] a) ?_ ?_
  · refine wp_block ?_
    refine wp_loop_ghost (fun m a w => ∃ (i104 : Int), ref33_find.l0 l_0 id_1 m i104 = some o106 ∧ Mem F w0 w [.box g60 33 (pHash.enc id_1)] ∧ Has 20 [(0, (.slice A0 l_0.length c0)), (3, (.pointer (some (⟨g60, 0, none⟩)))), (5, (.int .i64 i104))] a) k ⟨0, H105, hM, (((hA.nil.cons (hA.get 5 _ rfl)).cons (hA.get 3 _ rfl)).cons (hA.get 0 _ rfl))⟩ ?_
    clear hM hA; rintro m107 a w108 ⟨i104, H105, hM, hA⟩
    cases m107 with
    | zero => exact absurd H105 (by simp [ref33_find.l0])
    | succ m107 =>
    rw [ref33_find.l0] at H105
    refine wp_seq ?_
    refine wp_seq ?_
    refine wp_region_lit ?_
    refine L1 (stv hA (by decide) (run_move (hA.ev rfl)) ?_)
    clear hA; intro a hA
    refine L1 (stv hA (by decide) (run_move (hA.ev rfl)) ?_)
    clear hA; intro a hA
    refine L1 (stv hA (by decide) (run_len_slice Try.underlying28 (hA.ev rfl)) ?_)
    clear hA; intro a hA
    refine L1 (stv hA (by decide) (run_bin (hA.ev rfl) (hA.ev rfl) (bin_lss _ _ _ _)) ?_)
    clear hA; intro a hA
    refine LQ ?_
    refine TN ?_
    refine tcond (b := (decide (i104 < ((l_0.length : Nat) : Int)))) hA rfl (fun hb109 => ?_) (fun hb109 => ?_)
    · replace H105 := ite_t hb109 H105
      refine wp_skip ?_
      refine TN ?_
      refine wp_seq ?_
      refine wp_block ?_
      refine wp_seq ?_
      refine draw (fun w' => Below w108.heap.size w108 w') [] rfl ?_
      intro w110 hw hS; replace hM := hM.ext hS; clear hw
      refine d_takef (i := 0) (L' := #[true, false, false, false, false, false, false]) rfl (by kernel_rfl) rfl (fun _ _ _ h => h) hA (by decide) (fun _ => hS) (fun a w' hA => run_move (hA.ev rfl)) ?_; clear hA; intro a hA
      refine d_takef (i := 1) (L' := #[true, true, false, false, false, false, false]) rfl (by kernel_rfl) rfl (fun _ _ _ h => h) hA (by decide) (fun _ => hS) (fun a w' hA => run_move (hA.ev rfl)) ?_; clear hA; intro a hA
      obtain ⟨⟨hi112, hj113⟩, H105⟩ := ite_some H105
      obtain ⟨ad114, hq115, hat116⟩ := Row.elem' (p := pSample) (hM.ro hr0) (Eq.refl l_0.length) Sample.z i104 hi112 hj113
      refine d_takef (i := 2) (L' := #[true, true, true, false, false, false, false]) rfl (by kernel_rfl) rfl (fun _ _ _ h => h) hA (by decide) (fun _ => hS) (fun a w' hA => run_idx Try.underlying28 Try.sizeOf35 (hA.ev rfl) hq115 (hA.ev rfl) hi112 hj113) ?_; clear hA; intro a hA
      refine d_takef (i := 3) (L' := #[true, true, true, true, false, false, false]) rfl (by kernel_rfl) rfl (fun _ _ _ h => h) hA (by decide) (fun _ => hS) (fun a w' hA => run_field' Try.underlying35 rfl rfl Try.sizeOf33 (by decide) (hA.ev rfl)) ?_; clear hA; intro a hA
      refine rebase hS ?_; clear hS; intro hS
      refine d_take (i := 4) (L' := #[true, true, true, true, true, false, false]) rfl (by kernel_rfl) rfl (fun _ _ _ h => h) hA (by decide) rfl hS (fun a w' hA hS' => run_ld (hA.ev rfl) (run_loadP Try.isAgg33 Try.sizeOf33 ((Sample.at_ID (hat116)).extB hS'))) ?_; clear hA; intro a hA
      refine d_take (i := 5) (L' := #[true, true, true, true, true, true, false]) rfl (by kernel_rfl) rfl (fun _ _ _ h => h) hA (by decide) rfl hS (fun a w' hA hS' => run_ld (hA.ev rfl) (run_loadP Try.isAgg33 Try.sizeOf33 ((hM.box .z).extB hS'))) ?_; clear hA; intro a hA
      refine d_takef (i := 6) (L' := #[true, true, true, true, true, true, true]) rfl (by kernel_rfl) rfl (fun _ _ _ h => h) hA (by decide) (fun _ => hS) (fun a w' hA => run_aggeql eq_Hash rfl (by kernel_rfl) (hA.ev rfl) (hA.ev rfl)) ?_; clear hA; intro a hA
      refine d_done (by kernel_rfl) ?_
      refine TN ?_
      refine tcond (b := (((l_0.getD i104.toNat Sample.z).ID) == id_1)) hA rfl (fun hb117 => ?_) (fun hb117 => ?_)
      · replace H105 := ite_t hb117 H105
        refine wp_seq ?_
        refine wp_region_lit ?_
        refine L1 (stv hA (by decide) (run_move (hA.ev rfl)) ?_)
        clear hA; intro a hA
        refine L1 (stv hA (by decide) (run_assign (hA.ev rfl)) ?_)
        clear hA; intro a hA
        refine LQ ?_
        refine TN ?_
        refine wp_ret ?_
        obtain rfl := Option.some.inj H105
        dsimp only at H
        obtain rfl := Option.some.inj H
        refine BR ?_
        refine TR ?_
        refine TR ?_
        refine BR ?_
        refine TR ?_
        refine TR ?_
        exact ret_post1 (fn := Try.f35) hA rfl rfl ⟨_, rfl, rfl, (hM.sel [] rfl (by decide))⟩
      · replace H105 := ite_f hb117 H105
        refine wp_skip ?_
        refine BN ?_
        refine TN ?_
        refine wp_region_lit ?_
        refine L1 (stv hA (by decide) (run_move (hA.ev rfl)) ?_)
        clear hA; intro a hA
        refine L1 (stv hA (by decide) (run_bin (hA.ev rfl) (hA.ev rfl) (bin_add _ _ _ _)) ?_)
        clear hA; intro a hA
        refine L1 (stv hA (by decide) (run_assign (hA.ev rfl)) ?_)
        clear hA; intro a hA
        refine LQ ?_
        exact ⟨_, Nat.lt_succ_self m107, IntKind.i64.wrap (i104 + 1), H105, hM, (((hA.nil.cons (hA.get 5 _ rfl)).cons (hA.get 3 _ rfl)).cons (hA.get 0 _ rfl))⟩
    · replace H105 := ite_f hb109 H105
      refine wp_exit ?_
      refine TX ?_
      refine TX ?_
      refine BX ?_
      exact ⟨Option.some.inj H105, (hM.sel [] rfl (by decide)), hA.nil⟩
  clear hM hA
  rintro a w118 ⟨rfl, hM, hA⟩
  try dsimp only at H
  refine TN ?_
  refine wp_seq ?_
  refine wp_region_lit ?_
  refine L1 (stv hA (by decide) (run_assign (hA.ev rfl)) ?_)
  clear hA; intro a hA
  refine LQ ?_
  refine TN ?_
  refine wp_ret ?_
  obtain rfl := Option.some.inj H
  exact ret_post1 (fn := Try.f35) hA rfl rfl ⟨_, rfl, rfl, hM⟩

def ref33_Observe.f (k : Nat) (l_0 : (List Sample)) (id_1 : (Vector Int 32)) (rate_2 : Int) (height_3 : Int) : Option ((List Sample) × Int) := (Option.bind (α := Bool) ((ref33_Class.f k rate_2).bind fun r76 => (if (decide (r76 < 0)) = true then (some true) else ((ref33_in.f k height_3 1 16777216).bind fun r80 => (some (!r80))))) (fun t73 => (if t73 = true then (some (([] : List Sample), 5)) else ((ref33_find.f k l_0 id_1).bind fun r86 => (if (decide (r86 ≥ 0)) = true then (some (([] : List Sample), 150)) else (if (decide (((l_0.length : Nat) : Int) ≥ 2048)) = true then (some (([] : List Sample), 380)) else (if (0 + l_0.length) * 56 ≤ 140737488355328 then ((ref33_Class.f k rate_2).bind fun r105 => (if ((0 + l_0.length) + 1) * 56 ≤ 140737488355328 then (some (((([] : List Sample) ++ l_0) ++ [({ { { Sample.z with ID := id_1 } with Class := r105 } with Seen := height_3 })]), 0)) else none)) else none)))))))
set_option maxRecDepth 100000 in
theorem ref33_Observe.calls (k : Nat) (l_0 : (List Sample)) (id_1 : (Vector Int 32)) (rate_2 : Int) (height_3 : Int) (F : List (Option Nat)) (v0 : Value) (r : ((List Sample) × Int)) (w0 : World) (h0 : RoV F pSample w0 v0 l_0) (hM : Mem F w0 w0 []) (H : ref33_Observe.f k l_0 id_1 rate_2 height_3 = some r) :
    Calls Try.prog 26 #[v0, (.agg (pHash.enc id_1).toArray), (.int .i64 rate_2), (.int .i64 height_3)] w0 fun e w' => ∃ v, e = .returned v ∧ ∃ (ur_0 : Value), v = (.tuple #[ur_0, (.int .i64 r.2)]) ∧ Mem F w0 w' [.row 35 pSample.sz ur_0 (pSample.flat r.1)] := by
  unfold ref33_Observe.f at H
  obtain ⟨A0, c0, rfl, hr0, hc0⟩ := h0
  refine enterL (n := 38) [(.slice A0 l_0.length c0), (.agg (pHash.enc id_1).toArray), (.int .i64 rate_2), (.int .i64 height_3)] Try.func26 rfl rfl rfl ?_
  intro a hA
  refine wp_seq ?_
  refine wp_region_lit ?_
  refine L1 (e_box (cs := (pHash.enc id_1)) hM hA rfl rfl (by decide) ?_)
  clear hM hA; intro w59 g58 hM hE  a hA
  refine L1 (stv hA (by decide) (run_assign (hA.ev rfl)) ?_)
  clear hA; intro a hA
  refine L1 (stv hA (by decide) (run_assign (hA.ev rfl)) ?_)
  clear hA; intro a hA
  refine LQ ?_
  refine TN ?_
  refine wp_seq ?_
  refine wp_block ?_
  refine wp_seq ?_
  obtain ⟨o75, H74, H⟩ := Option.bind_eq_some_iff.1 H
  refine cutC (fun a w => ∃ (t73 : Bool), t73 = o75 ∧ Mem F w0 w [.box g58 33 (pHash.enc id_1)] ∧ Has 38 [(0, (.slice A0 l_0.length c0)), (2, (.int .i64 rate_2)), (3, (.int .i64 height_3)), (5, (.pointer (some (⟨g58, 0, none⟩)))), (10, (.bool t73))] a) ?_ ?_
  · refine wp_region_lit ?_
    refine L1 (stv hA (by decide) (run_move (hA.ev rfl)) ?_)
    clear hA; intro a hA
    obtain ⟨r76, H77, H74⟩ := Option.bind_eq_some_iff.1 H74
    refine L1 (st_call Try.call13 hA [(.int .i64 rate_2)] rfl (by decide) (ref33_Class.calls _ _ _ _ _ (hM.front (Ms := [])) H77) ?_)
    clear hA; rintro _ w78 ⟨rfl, hMc⟩ a hA
    have hE := hMc.below; have hM := hM.call (Ms := []) hMc
    clear hMc; simp only [List.cons_append, List.nil_append] at hM
    refine L1 (stv hA (by decide) (run_bin (hA.ev rfl) (hA.ev rfl) (bin_lss _ _ _ _)) ?_)
    clear hA; intro a hA
    refine L1 (stv hA (by decide) (run_move (hA.ev rfl)) ?_)
    clear hA; intro a hA
    refine bsplit (b := (decide (r76 < 0))) (fun hb79 => ?_) (fun hb79 => ?_)
    · replace H74 := ite_t hb79 H74
      have hA := hA.re (t := 14) rfl (congrArg Value.bool hb79)
      refine L1 (gate_off rfl (by decide) rfl hA (by decide) rfl rfl ?_); clear hA; intro a hA
      refine L1 (gate_off rfl (by decide) rfl hA (by decide) rfl rfl ?_); clear hA; intro a hA
      refine L1 (gate_off rfl (by decide) rfl hA (by decide) rfl rfl ?_); clear hA; intro a hA
      refine L1 (stv hA (by decide) (run_pick (hA.ev rfl) (fun _ => hA.ev rfl) (fun h => Bool.noConfusion h)) ?_)
      clear hA; intro a hA
      refine L1 (stv hA (by decide) (run_assign (hA.ev rfl)) ?_)
      clear hA; intro a hA
      refine LQ ?_
      exact ⟨true, Option.some.inj H74, hM, (((((hA.nil.cons (hA.get 10 _ rfl)).cons (hA.get 5 _ rfl)).cons (hA.get 3 _ rfl)).cons (hA.get 2 _ rfl)).cons (hA.get 0 _ rfl))⟩
    · replace H74 := ite_f hb79 H74
      have hA := hA.re (t := 14) rfl (congrArg Value.bool hb79)
      refine L1 (gate_on rfl rfl hA (by decide) rfl (stv hA (by decide) (run_move (hA.ev rfl)) ?_))
      clear hA; intro a hA
      obtain ⟨r80, H81, H74⟩ := Option.bind_eq_some_iff.1 H74
      refine L1 (gate_on rfl rfl hA (by decide) rfl (st_call Try.call23 hA [(.int .i64 height_3), (.int .i64 1), (.int .i64 16777216)] rfl (by decide) (ref33_in.calls _ _ _ _ _ _ _ (hM.front (Ms := [])) H81) ?_))
      clear hA; rintro _ w82 ⟨rfl, hMc⟩ a hA
      have hE := hMc.below; have hM := hM.call (Ms := []) hMc
      clear hMc; simp only [List.cons_append, List.nil_append] at hM
      refine L1 (gate_on rfl rfl hA (by decide) rfl (stv hA (by decide) (run_not (hA.ev rfl)) ?_))
      clear hA; intro a hA
      refine L1 (stv hA (by decide) (run_pick (hA.ev rfl) (fun h => Bool.noConfusion h) (fun _ => hA.ev rfl)) ?_)
      clear hA; intro a hA
      refine L1 (stv hA (by decide) (run_assign (hA.ev rfl)) ?_)
      clear hA; intro a hA
      refine LQ ?_
      exact ⟨(!r80), Option.some.inj H74, hM, (((((hA.nil.cons (hA.get 10 _ rfl)).cons (hA.get 5 _ rfl)).cons (hA.get 3 _ rfl)).cons (hA.get 2 _ rfl)).cons (hA.get 0 _ rfl))⟩
  clear hM hA
  rintro a w83 ⟨t73, rfl, hM, hA⟩
  try dsimp only at H
  refine TN ?_
  refine tcond (b := t73) hA rfl (fun hb84 => ?_) (fun hb84 => ?_)
  · replace H := ite_t hb84 H
    refine wp_seq ?_
    refine wp_region_lit ?_
    refine L1 (stv hA (by decide) (run_assign (hA.ev rfl)) ?_)
    clear hA; intro a hA
    refine L1 (stv hA (by decide) (run_assign (hA.ev rfl)) ?_)
    clear hA; intro a hA
    refine LQ ?_
    refine TN ?_
    refine wp_ret ?_
    have hM := hM.addnil 35 (pSample).sz
    obtain rfl := Option.some.inj H
    refine BR ?_
    refine TR ?_
    exact ret_post2 (fn := Try.f26) hA rfl rfl rfl ⟨_, rfl, (.slice none 0 0), rfl, (hM.sel [0] rfl (by decide))⟩
  · replace H := ite_f hb84 H
    refine wp_seq ?_
    refine wp_region_lit ?_
    refine L1 (stv hA (by decide) (run_move (hA.ev rfl)) ?_)
    clear hA; intro a hA
    refine L1 (stv hA (by decide) (run_ld (hA.ev rfl) (run_loadP Try.isAgg33 Try.sizeOf33 (hM.box .z))) ?_)
    clear hA; intro a hA
    obtain ⟨r86, H87, H⟩ := Option.bind_eq_some_iff.1 H
    refine L1 (st_call Try.call35 hA [(.slice A0 l_0.length c0), (.agg (pHash.enc id_1).toArray)] rfl (by decide) (ref33_find.calls _ _ _ _ _ _ _ ((RoV.mk (hM.roC (Ms := []) hr0) (Eq.refl l_0.length) hc0)) (hM.front (Ms := [])) H87) ?_)
    clear hA; rintro _ w88 ⟨rfl, hMc⟩ a hA
    have hE := hMc.below; have hM := hM.call (Ms := []) hMc
    clear hMc; simp only [List.cons_append, List.nil_append] at hM
    refine L1 (stv hA (by decide) (run_bin (hA.ev rfl) (hA.ev rfl) (bin_geq _ _ _ _)) ?_)
    clear hA; intro a hA
    refine L1 (stv hA (by decide) (run_assign (hA.ev rfl)) ?_)
    clear hA; intro a hA
    refine LQ ?_
    refine TN ?_
    refine tcond (b := (decide (r86 ≥ 0))) hA rfl (fun hb89 => ?_) (fun hb89 => ?_)
    · replace H := ite_t hb89 H
      refine wp_seq ?_
      refine wp_region_lit ?_
      refine L1 (stv hA (by decide) (run_assign (hA.ev rfl)) ?_)
      clear hA; intro a hA
      refine L1 (stv hA (by decide) (run_assign (hA.ev rfl)) ?_)
      clear hA; intro a hA
      refine LQ ?_
      refine TN ?_
      refine wp_ret ?_
      have hM := hM.addnil 35 (pSample).sz
      obtain rfl := Option.some.inj H
      refine BR ?_
      refine TR ?_
      exact ret_post2 (fn := Try.f26) hA rfl rfl rfl ⟨_, rfl, (.slice none 0 0), rfl, (hM.sel [0] rfl (by decide))⟩
    · replace H := ite_f hb89 H
      refine wp_seq ?_
      refine wp_region_lit ?_
      refine L1 (stv hA (by decide) (run_move (hA.ev rfl)) ?_)
      clear hA; intro a hA
      refine L1 (stv hA (by decide) (run_len_slice Try.underlying28 (hA.ev rfl)) ?_)
      clear hA; intro a hA
      refine L1 (stv hA (by decide) (run_bin (hA.ev rfl) (hA.ev rfl) (bin_geq _ _ _ _)) ?_)
      clear hA; intro a hA
      refine L1 (stv hA (by decide) (run_assign (hA.ev rfl)) ?_)
      clear hA; intro a hA
      refine LQ ?_
      refine TN ?_
      refine tcond (b := (decide (((l_0.length : Nat) : Int) ≥ 2048))) hA rfl (fun hb91 => ?_) (fun hb91 => ?_)
      · replace H := ite_t hb91 H
        refine wp_seq ?_
        refine wp_region_lit ?_
        refine L1 (stv hA (by decide) (run_assign (hA.ev rfl)) ?_)
        clear hA; intro a hA
        refine L1 (stv hA (by decide) (run_assign (hA.ev rfl)) ?_)
        clear hA; intro a hA
        refine LQ ?_
        refine TN ?_
        refine wp_ret ?_
        have hM := hM.addnil 35 (pSample).sz
        obtain rfl := Option.some.inj H
        refine BR ?_
        refine TR ?_
        exact ret_post2 (fn := Try.f26) hA rfl rfl rfl ⟨_, rfl, (.slice none 0 0), rfl, (hM.sel [0] rfl (by decide))⟩
      · replace H := ite_f hb91 H
        refine wp_skip ?_
        refine BN ?_
        refine TN ?_
        refine wp_seq ?_
        refine draw (fun w' => Below w88.heap.size w88 w') [] rfl ?_
        intro w93 hw hS; replace hM := hM.ext hS; clear hw
        refine d_takef (i := 1) (L' := #[false, true, false, false, false, false, false, false, false, false, false, false]) rfl (by kernel_rfl) rfl (fun _ _ _ h => h) hA (by decide) (fun _ => hS) (fun a w' hA => run_move (hA.ev rfl)) ?_; clear hA; intro a hA
        refine rebase hS ?_; clear hS; intro hS
        refine d_take (i := 3) (L' := #[false, true, false, true, false, false, false, false, false, false, false, false]) rfl (by kernel_rfl) rfl (fun _ _ _ h => h) hA (by decide) rfl hS (fun a w' hA hS' => run_ld (hA.ev rfl) (run_loadP Try.isAgg33 Try.sizeOf33 ((hM.box .z).extB hS'))) ?_; clear hA; intro a hA
        refine d_takef (i := 4) (L' := #[false, true, false, true, true, false, false, false, false, false, false, false]) rfl (by kernel_rfl) rfl (fun _ _ _ h => h) hA (by decide) (fun _ => hS) (fun a w' hA => run_move (hA.ev rfl)) ?_; clear hA; intro a hA
        refine d_takef (i := 6) (L' := #[false, true, false, true, true, false, true, false, false, false, false, false]) rfl (by kernel_rfl) rfl (fun _ _ _ h => h) hA (by decide) (fun _ => hS) (fun a w' hA => run_move (hA.ev rfl)) ?_; clear hA; intro a hA
        refine d_one (i := 0) (L' := #[true, true, false, true, true, false, true, false, false, false, false, false]) (by kernel_rfl) rfl rfl (e_lit0L elt28 hM hA (by decide) ?_)
        clear hM hA; intro w96 g95 hM hE hlo97 a hA
        have hlw98 : ∀ k, Value.ownBlock (.slice (some ⟨g95, 0, none⟩) 0 0) = some k → w93.heap.size ≤ k := fun k hk => by cases hk; exact Nat.le_trans hS.size hlo97
        replace hS := hS.trans (hE.mono hS.size)
        refine ⟨fun _ => hS, ?_⟩
        obtain ⟨hl101, H⟩ := ite_some H
        refine d_one (i := 2) (L' := #[true, true, true, true, true, false, true, false, false, false, false, false]) (by kernel_rfl) rfl rfl (e_appendL elt28 hM (fun _ => .z) (Src.row Try.underlying28 (hM.ro hr0) (Eq.refl l_0.length)) hl101 hA rfl rfl (by decide) ?_)
        clear hM hA; intro w102 A99 c100 hM hE hlo103 a hA
        have hlw104 : ∀ k, Value.ownBlock (.slice A99 (0 + l_0.length) c100) = some k → w93.heap.size ≤ k := hlo103 _ hS.size hlw98
        replace hS := hS.grown hE hS.size hlw98
        refine ⟨fun _ => hS, ?_⟩
        obtain ⟨r105, H106, H⟩ := Option.bind_eq_some_iff.1 H
        refine d_one (i := 5) (L' := #[true, true, true, true, true, true, true, false, false, false, false, false]) (by kernel_rfl) rfl rfl (st_call Try.call13 hA [(.int .i64 rate_2)] rfl (by decide) (ref33_Class.calls _ _ _ _ _ (hM.front (Ms := [])) H106) ?_)
        clear hA; rintro _ w107 ⟨rfl, hMc⟩ a hA
        have hE := hMc.below; have hM := hM.call (Ms := []) hMc
        clear hMc; simp only [List.cons_append, List.nil_append] at hM
        replace hS := hS.trans (hE.mono hS.size)
        refine ⟨fun _ => hS, ?_⟩
        refine d_takef (i := 7) (L' := #[true, true, true, true, true, true, true, true, false, false, false, false]) rfl (by kernel_rfl) rfl (fun _ _ _ h => h) hA (by decide) (fun _ => hS) (fun a w' hA => run_build [(0, (.agg (pHash.enc id_1).toArray)), (1, (.int .i64 r105)), (2, (.int .i64 height_3))] zero35 Try.underlying35 (ss := [32, 1, 1, 1]) ⟨Try.sizeOf33, Try.sizeOf3, Try.sizeOf3, Try.sizeOf3, trivial⟩ hA rfl (fill_step rfl (by simp [Value.cells, Pl.len]; try rfl) (enc_fit _ _ rfl) (arr_eq (Sample.spl_ID _ _)) (fill_step rfl rfl (enc_fit _ _ rfl) (arr_eq (Sample.spl_Class _ _)) (fill_step rfl rfl (enc_fit _ _ rfl) (arr_eq (Sample.spl_Seen _ _)) (fill_nil))))) ?_; clear hA; intro a hA
        refine d_one (i := 8) (L' := #[true, true, true, true, true, true, true, true, true, false, false, false]) (by kernel_rfl) rfl rfl (e_litNL [({ { { Sample.z with ID := id_1 } with Class := r105 } with Seen := height_3 })] [(.agg (pSample.enc ({ { { Sample.z with ID := id_1 } with Class := r105 } with Seen := height_3 })).toArray)] elt28 hM rfl (by decide) hA rfl rfl (List.cons_ne_nil _ _) (by decide) ?_)
        clear hM hA; intro w109 g108 hM hE hlo110 a hA
        have hlw111 : ∀ k, Value.ownBlock (.slice (some ⟨g108, 0, none⟩) 1 1) = some k → w93.heap.size ≤ k := fun k hk => by cases hk; exact Nat.le_trans hS.size hlo110
        replace hS := hS.trans (hE.mono hS.size)
        refine ⟨fun _ => hS, ?_⟩
        obtain ⟨hl114, H⟩ := ite_some H
        refine d_one (i := 9) (L' := #[true, true, true, true, true, true, true, true, true, true, false, false]) (by kernel_rfl) rfl rfl (e_appendL elt28 hM (fun _ => (.s .z)) (Src.row Try.underlying28 (RowOk.row (hM.row (p := pSample) .z)) (RowOk.len (hM.row (p := pSample) .z))) hl114 hA rfl rfl (by decide) ?_)
        clear hM hA; intro w115 A112 c113 hM hE hlo116 a hA
        have hlw117 : ∀ k, Value.ownBlock (.slice A112 ((0 + l_0.length) + 1) c113) = some k → w93.heap.size ≤ k := hlo116 _ hS.size hlw104
        replace hS := hS.grown hE hS.size hlw104
        refine ⟨fun _ => hS, ?_⟩
        refine d_takef (i := 10) (L' := #[true, true, true, true, true, true, true, true, true, true, true, false]) rfl (by kernel_rfl) rfl (fun _ _ _ h => h) hA (by decide) (fun _ => hS) (fun a w' hA => run_assign (hA.ev rfl)) ?_; clear hA; intro a hA
        refine d_takef (i := 11) (L' := #[true, true, true, true, true, true, true, true, true, true, true, true]) rfl (by kernel_rfl) rfl (fun _ _ _ h => h) hA (by decide) (fun _ => hS) (fun a w' hA => run_assign (hA.ev rfl)) ?_; clear hA; intro a hA
        refine d_done (by kernel_rfl) ?_
        refine TN ?_
        refine wp_ret ?_
        obtain rfl := Option.some.inj H
        exact ret_post2 (fn := Try.f26) hA rfl rfl rfl ⟨_, rfl, (.slice A112 ((0 + l_0.length) + 1) c113), rfl, (hM.sel [1] rfl (by decide))⟩

def law33_samples.l0 (d_0 : lightclientmill_Deck) : Nat → Int → (List Sample) → Int → Option ((List Sample) × Int)
  | 0, _, _, _ => none
  | k + 1, x681, xs687, t689 => (if (decide (t689 > 0)) = true then ((mill_Deck_Next.f k (lightclientmill_Deck.mk d_0.L x681) 4).bind fun r703 => (Option.bind (α := Int × (List Sample)) (if (r703.1 == 0) = true then ((mill_Hashes.f k (lightclientmill_Deck.mk d_0.L r703.2.At_) 4).bind fun r753 => ((mill_Deck_Next.f k (lightclientmill_Deck.mk d_0.L r753.2.At_) 20).bind fun r760 => ((ref33_Confirm.f k xs687 r753.1 (IntKind.i64.wrap (1 + r760.1))).bind fun r763 => (some (r760.2.At_, r763))))) else ((mill_Hash.f k (lightclientmill_Deck.mk d_0.L r703.2.At_)).bind fun r770 => ((mill_Deck_Next.f k (lightclientmill_Deck.mk d_0.L r770.2.At_) 60).bind fun r773 => ((mill_Deck_Next.f k (lightclientmill_Deck.mk d_0.L r773.2.At_) 15).bind fun r776 => ((ref33_Observe.f k xs687 r770.1 (IntKind.i64.wrap (10 + r773.1)) (IntKind.i64.wrap (1 + r776.1))).bind fun r779 => (if (r779.2 == 0) = true then (some (r776.2.At_, r779.1)) else (some (r776.2.At_, xs687)))))))) (fun st => match st with | (x742, xs748) => (law33_samples.l0 d_0 k x742 xs748 (IntKind.i64.wrap (t689 - 1)))))) else (some (xs687, x681)))
def law33_samples.f (k : Nat) (d_0 : lightclientmill_Deck) : Option ((List Sample) × lightclientmill_Deck) := ((mill_Deck_Next.f k (lightclientmill_Deck.mk d_0.L d_0.At_) 20).bind fun r395 => (Option.bind (α := (List Sample) × Int) (law33_samples.l0 d_0 k r395.2.At_ ([] : List Sample) r395.1) (fun st => match st with | (xs695, x696) => (some (xs695, (lightclientmill_Deck.mk d_0.L x696))))))
set_option maxRecDepth 100000 in
theorem law33_samples.calls (k : Nat) (d_0 : lightclientmill_Deck) (F : List (Option Nat)) (g0 : Nat) (v0_0 : Value) (r : ((List Sample) × lightclientmill_Deck)) (w0 : World) (h0_0 : RoV F (Pl.int .i64) w0 v0_0 d_0.L) (hM : Mem F w0 w0 [.box g0 53 [v0_0, (.int .i64 d_0.At_)]]) (H : law33_samples.f k d_0 = some r) :
    Calls Try.prog 14 #[(.pointer (some (⟨g0, 0, none⟩)))] w0 fun e w' => ∃ v, e = .returned v ∧ ∃ (ur_0 : Value), v = ur_0 ∧ Mem F w0 w' [.box g0 53 [v0_0, (.int .i64 r.2.At_)], .row 35 pSample.sz ur_0 (pSample.flat r.1)] := by
  unfold law33_samples.f at H
  obtain ⟨A0_0, c0_0, rfl, hr0_0, hc0_0⟩ := h0_0
  refine enterL (n := 41) [(.pointer (some (⟨g0, 0, none⟩)))] Try.func14 rfl rfl rfl ?_
  intro a hA
  refine wp_seq ?_
  refine wp_region_lit ?_
  refine L1 (stv hA (by decide) (run_assign (hA.ev rfl)) ?_)
  clear hA; intro a hA
  refine LQ ?_
  refine TN ?_
  refine wp_seq ?_
  refine wp_region_lit ?_
  refine L1 (stv hA (by decide) (run_assign (hA.ev rfl)) ?_)
  clear hA; intro a hA
  refine LQ ?_
  refine TN ?_
  refine wp_seq ?_
  refine wp_seq ?_
  refine wp_region_lit ?_
  refine L1 (stv hA (by decide) (run_move (hA.ev rfl)) ?_)
  clear hA; intro a hA
  obtain ⟨r395, H396, H⟩ := Option.bind_eq_some_iff.1 H
  refine L1 (st_call Try.call18 hA [(.pointer (some (⟨g0, 0, none⟩))), (.int .i64 20)] rfl (by decide) (mill_Deck_Next.calls _ (lightclientmill_Deck.mk d_0.L d_0.At_) _ _ _ _ _ _ ((RoV.mk (hM.roC (Ms := [_]) hr0_0) (Eq.refl d_0.L.length) hc0_0)) (hM.front (Ms := [_])) H396) ?_)
  clear hA; rintro _ w397 ⟨rfl, hMc⟩ a hA
  have hM := hM.call (Ms := [_]) hMc
  clear hMc; simp only [List.cons_append, List.nil_append] at hM
  refine L1 (stv hA (by decide) (run_assign (hA.ev rfl)) ?_)
  clear hA; intro a hA
  refine LQ ?_
  refine TN ?_
  obtain ⟨o698, H697, H⟩ := Option.bind_eq_some_iff.1 H
  refine cutC (fun a w => ∃ (xs695 : (List Sample)) (x696 : Int) (v692 : Value), (xs695, x696) = o698 ∧ Mem F w0 w [.row 35 pSample.sz v692 (pSample.flat xs695), .box g0 53 [(.slice A0_0 d_0.L.length c0_0), (.int .i64 x696)]] ∧ Has 41 [(3, v692)] a) ?_ ?_
  · refine wp_block ?_
    have hM := hM.addnil 35 (pSample).sz
    refine wp_loop_ghost (fun m a w => ∃ (x681 : Int) (xs687 : (List Sample)) (t689 : Int) (v684 : Value), law33_samples.l0 d_0 m x681 xs687 t689 = some o698 ∧ Mem F w0 w [.box g0 53 [(.slice A0_0 d_0.L.length c0_0), (.int .i64 x681)], .row 35 pSample.sz v684 (pSample.flat xs687)] ∧ Has 41 [(0, (.pointer (some (⟨g0, 0, none⟩)))), (3, v684), (4, (.int .i64 t689))] a) k ⟨r395.2.At_, ([] : List Sample), r395.1, (.slice none 0 0), H697, (hM.sel [1, 0] rfl (by decide)), (((hA.nil.cons (hA.get 4 _ rfl)).cons (hA.get 3 _ rfl)).cons (hA.get 0 _ rfl))⟩ ?_
    clear hM hA; rintro m700 a w701 ⟨x681, xs687, t689, v684, H697, hM, hA⟩
    cases m700 with
    | zero => exact absurd H697 (by simp [law33_samples.l0])
    | succ m700 =>
    rw [law33_samples.l0] at H697
    obtain ⟨A685, c686, rfl⟩ := RowOk.form (hM.row (p := pSample) (.s .z))
    refine wp_seq ?_
    refine wp_seq ?_
    refine wp_region_lit ?_
    refine L1 (stv hA (by decide) (run_move (hA.ev rfl)) ?_)
    clear hA; intro a hA
    refine L1 (stv hA (by decide) (run_bin (hA.ev rfl) (hA.ev rfl) (bin_gtr _ _ _ _)) ?_)
    clear hA; intro a hA
    refine LQ ?_
    refine TN ?_
    refine tcond (b := (decide (t689 > 0))) hA rfl (fun hb702 => ?_) (fun hb702 => ?_)
    · replace H697 := ite_t hb702 H697
      refine wp_skip ?_
      refine TN ?_
      refine wp_seq ?_
      refine wp_block ?_
      refine wp_seq ?_
      refine wp_region_lit ?_
      refine L1 (stv hA (by decide) (run_move (hA.ev rfl)) ?_)
      clear hA; intro a hA
      obtain ⟨r703, H704, H697⟩ := Option.bind_eq_some_iff.1 H697
      refine L1 (st_call Try.call18 hA [(.pointer (some (⟨g0, 0, none⟩))), (.int .i64 4)] rfl (by decide) (mill_Deck_Next.calls _ (lightclientmill_Deck.mk d_0.L x681) _ _ _ _ _ _ ((RoV.mk (hM.roC (Ms := [_]) hr0_0) (Eq.refl d_0.L.length) hc0_0)) (hM.front (Ms := [_])) H704) ?_)
      clear hA; rintro _ w705 ⟨rfl, hMc⟩ a hA
      have hM := hM.call (Ms := [_]) hMc
      clear hMc; simp only [List.cons_append, List.nil_append] at hM
      refine LQ ?_
      refine TN ?_
      refine wp_block ?_
      refine wp_seq ?_
      refine wp_region_lit ?_
      refine L1 (stv hA (by decide) (run_bin (hA.ev rfl) (hA.ev rfl) (bin_eql _ _ _ _)) ?_)
      clear hA; intro a hA
      refine L1 (stv hA (by decide) (run_assign (hA.ev rfl)) ?_)
      clear hA; intro a hA
      refine LQ ?_
      refine TN ?_
      obtain ⟨o751, H750, H697⟩ := Option.bind_eq_some_iff.1 H697
      refine cutC (fun a w => ∃ (x742 : Int) (xs748 : (List Sample)) (v745 : Value), (x742, xs748) = o751 ∧ Mem F w0 w [.box g0 53 [(.slice A0_0 d_0.L.length c0_0), (.int .i64 x742)], .row 35 pSample.sz v745 (pSample.flat xs748)] ∧ Has 41 [(0, (.pointer (some (⟨g0, 0, none⟩)))), (3, v745), (4, (.int .i64 t689))] a) ?_ ?_
      · refine tcond (b := (r703.1 == 0)) hA rfl (fun hb752 => ?_) (fun hb752 => ?_)
        · replace H750 := ite_t hb752 H750
          refine wp_region_lit ?_
          refine L1 (stv hA (by decide) (run_move (hA.ev rfl)) ?_)
          clear hA; intro a hA
          refine L1 (stv hA (by decide) (run_move (hA.ev rfl)) ?_)
          clear hA; intro a hA
          obtain ⟨r753, H754, H750⟩ := Option.bind_eq_some_iff.1 H750
          refine L1 (st_call Try.call20 hA [(.pointer (some (⟨g0, 0, none⟩))), (.int .i64 4)] rfl (by decide) (mill_Hashes.calls _ (lightclientmill_Deck.mk d_0.L r703.2.At_) _ _ _ _ _ _ ((RoV.mk (hM.roC (Ms := [_]) hr0_0) (Eq.refl d_0.L.length) hc0_0)) (hM.front (Ms := [_])) H754) ?_)
          clear hA; rintro _ w755 ⟨v756, rfl, hMc⟩ a hA
          have hM := hM.call (Ms := [_]) hMc
          clear hMc; simp only [List.cons_append, List.nil_append] at hM
          obtain ⟨A758, c759, rfl⟩ := RowOk.form (hM.row (p := pHash) (.s .z))
          refine L1 (stv hA (by decide) (run_move (hA.ev rfl)) ?_)
          clear hA; intro a hA
          obtain ⟨r760, H761, H750⟩ := Option.bind_eq_some_iff.1 H750
          refine L1 (st_call Try.call18 hA [(.pointer (some (⟨g0, 0, none⟩))), (.int .i64 20)] rfl (by decide) (mill_Deck_Next.calls _ (lightclientmill_Deck.mk d_0.L r753.2.At_) _ _ _ _ _ _ ((RoV.mk (hM.roC (Ms := [_]) hr0_0) (Eq.refl d_0.L.length) hc0_0)) (hM.front (Ms := [_])) H761) ?_)
          clear hA; rintro _ w762 ⟨rfl, hMc⟩ a hA
          have hM := hM.call (Ms := [_]) hMc
          clear hMc; simp only [List.cons_append, List.nil_append] at hM
          refine L1 (stv hA (by decide) (run_bin (hA.ev rfl) (hA.ev rfl) (bin_add _ _ _ _)) ?_)
          clear hA; intro a hA
          obtain ⟨r763, H764, H750⟩ := Option.bind_eq_some_iff.1 H750
          refine L1 (st_call Try.call25 hA [(.slice A685 xs687.length c686), (.slice A758 r753.1.length c759), (.int .i64 (IntKind.i64.wrap (1 + r760.1)))] rfl (by decide) (ref33_Confirm.calls _ _ _ _ _ _ _ _ _ ((RoV.mk (hM.rowC (p := pSample) (Ms := []) (.s (.s .z))) (RowOk.len (hM.row (p := pSample) (.s (.s .z)))) (RowOk.cap (hM.row (p := pSample) (.s (.s .z)))))) ((RoV.mk (hM.rowC (p := pHash) (Ms := []) (.s .z)) (RowOk.len (hM.row (p := pHash) (.s .z))) (RowOk.cap (hM.row (p := pHash) (.s .z))))) (hM.front (Ms := [])) H764) ?_)
          clear hA; rintro _ w765 ⟨v766, rfl, hMc⟩ a hA
          have hE := hMc.below; have hM := hM.call (Ms := []) hMc
          clear hMc; simp only [List.cons_append, List.nil_append] at hM
          obtain ⟨A768, c769, rfl⟩ := RowOk.form (hM.row (p := pSample) .z)
          refine L1 (stv hA (by decide) (run_assign (hA.ev rfl)) ?_)
          clear hA; intro a hA
          refine LQ ?_
          exact ⟨r760.2.At_, r763, (.slice A768 r763.length c769), Option.some.inj H750, (hM.sel [1, 0] rfl (by decide)), (((hA.nil.cons (hA.get 4 _ rfl)).cons (hA.get 3 _ rfl)).cons (hA.get 0 _ rfl))⟩
        · replace H750 := ite_f hb752 H750
          refine wp_seq ?_
          refine wp_region_lit ?_
          refine L1 (stv hA (by decide) (run_move (hA.ev rfl)) ?_)
          clear hA; intro a hA
          refine L1 (stv hA (by decide) (run_move (hA.ev rfl)) ?_)
          clear hA; intro a hA
          obtain ⟨r770, H771, H750⟩ := Option.bind_eq_some_iff.1 H750
          refine L1 (st_call Try.call27 hA [(.pointer (some (⟨g0, 0, none⟩)))] rfl (by decide) (mill_Hash.calls _ (lightclientmill_Deck.mk d_0.L r703.2.At_) _ _ _ _ _ ((RoV.mk (hM.roC (Ms := [_]) hr0_0) (Eq.refl d_0.L.length) hc0_0)) (hM.front (Ms := [_])) H771) ?_)
          clear hA; rintro _ w772 ⟨rfl, hMc⟩ a hA
          have hM := hM.call (Ms := [_]) hMc
          clear hMc; simp only [List.cons_append, List.nil_append] at hM
          refine L1 (stv hA (by decide) (run_move (hA.ev rfl)) ?_)
          clear hA; intro a hA
          obtain ⟨r773, H774, H750⟩ := Option.bind_eq_some_iff.1 H750
          refine L1 (st_call Try.call18 hA [(.pointer (some (⟨g0, 0, none⟩))), (.int .i64 60)] rfl (by decide) (mill_Deck_Next.calls _ (lightclientmill_Deck.mk d_0.L r770.2.At_) _ _ _ _ _ _ ((RoV.mk (hM.roC (Ms := [_]) hr0_0) (Eq.refl d_0.L.length) hc0_0)) (hM.front (Ms := [_])) H774) ?_)
          clear hA; rintro _ w775 ⟨rfl, hMc⟩ a hA
          have hM := hM.call (Ms := [_]) hMc
          clear hMc; simp only [List.cons_append, List.nil_append] at hM
          refine L1 (stv hA (by decide) (run_bin (hA.ev rfl) (hA.ev rfl) (bin_add _ _ _ _)) ?_)
          clear hA; intro a hA
          refine L1 (stv hA (by decide) (run_move (hA.ev rfl)) ?_)
          clear hA; intro a hA
          obtain ⟨r776, H777, H750⟩ := Option.bind_eq_some_iff.1 H750
          refine L1 (st_call Try.call18 hA [(.pointer (some (⟨g0, 0, none⟩))), (.int .i64 15)] rfl (by decide) (mill_Deck_Next.calls _ (lightclientmill_Deck.mk d_0.L r773.2.At_) _ _ _ _ _ _ ((RoV.mk (hM.roC (Ms := [_]) hr0_0) (Eq.refl d_0.L.length) hc0_0)) (hM.front (Ms := [_])) H777) ?_)
          clear hA; rintro _ w778 ⟨rfl, hMc⟩ a hA
          have hM := hM.call (Ms := [_]) hMc
          clear hMc; simp only [List.cons_append, List.nil_append] at hM
          refine L1 (stv hA (by decide) (run_bin (hA.ev rfl) (hA.ev rfl) (bin_add _ _ _ _)) ?_)
          clear hA; intro a hA
          obtain ⟨r779, H780, H750⟩ := Option.bind_eq_some_iff.1 H750
          refine L1 (st_call Try.call26 hA [(.slice A685 xs687.length c686), (.agg (pHash.enc r770.1).toArray), (.int .i64 (IntKind.i64.wrap (10 + r773.1))), (.int .i64 (IntKind.i64.wrap (1 + r776.1)))] rfl (by decide) (ref33_Observe.calls _ _ _ _ _ _ _ _ _ ((RoV.mk (hM.rowC (p := pSample) (Ms := []) (.s .z)) (RowOk.len (hM.row (p := pSample) (.s .z))) (RowOk.cap (hM.row (p := pSample) (.s .z))))) (hM.front (Ms := [])) H780) ?_)
          clear hA; rintro _ w781 ⟨v782, rfl, hMc⟩ a hA
          have hE := hMc.below; have hM := hM.call (Ms := []) hMc
          clear hMc; simp only [List.cons_append, List.nil_append] at hM
          obtain ⟨A784, c785, rfl⟩ := RowOk.form (hM.row (p := pSample) .z)
          refine L1 (stv hA (by decide) (run_move (hA.ev rfl)) ?_)
          clear hA; intro a hA
          refine L1 (stv hA (by decide) (run_ext (hA.ev rfl) rfl) ?_)
          clear hA; intro a hA
          refine L1 (stv hA (by decide) (run_ext (hA.ev rfl) rfl) ?_)
          clear hA; intro a hA
          refine L1 (stv hA (by decide) (run_assign (hA.ev rfl)) ?_)
          clear hA; intro a hA
          refine L1 (stv hA (by decide) (run_assign (hA.ev rfl)) ?_)
          clear hA; intro a hA
          refine LQ ?_
          refine TN ?_
          refine wp_seq ?_
          refine wp_region_lit ?_
          refine L1 (stv hA (by decide) (run_move (hA.ev rfl)) ?_)
          clear hA; intro a hA
          refine L1 (stv hA (by decide) (run_bin (hA.ev rfl) (hA.ev rfl) (bin_eql _ _ _ _)) ?_)
          clear hA; intro a hA
          refine LQ ?_
          refine TN ?_
          refine tcond (b := (r779.2 == 0)) hA rfl (fun hb786 => ?_) (fun hb786 => ?_)
          · replace H750 := ite_t hb786 H750
            refine wp_region_lit ?_
            refine L1 (stv hA (by decide) (run_move (hA.ev rfl)) ?_)
            clear hA; intro a hA
            refine L1 (stv hA (by decide) (run_assign (hA.ev rfl)) ?_)
            clear hA; intro a hA
            refine LQ ?_
            exact ⟨r776.2.At_, r779.1, (.slice A784 r779.1.length c785), Option.some.inj H750, (hM.sel [1, 0] rfl (by decide)), (((hA.nil.cons (hA.get 4 _ rfl)).cons (hA.get 3 _ rfl)).cons (hA.get 0 _ rfl))⟩
          · replace H750 := ite_f hb786 H750
            refine wp_skip ?_
            exact ⟨r776.2.At_, xs687, (.slice A685 xs687.length c686), Option.some.inj H750, (hM.sel [1, 2] rfl (by decide)), (((hA.nil.cons (hA.get 4 _ rfl)).cons (hA.get 3 _ rfl)).cons (hA.get 0 _ rfl))⟩
      clear hM hA
      rintro a w787 ⟨x742, xs748, v745, rfl, hM, hA⟩
      try dsimp only at H697
      obtain ⟨A746, c747, rfl⟩ := RowOk.form (hM.row (p := pSample) (.s .z))
      refine BN ?_
      refine BN ?_
      refine TN ?_
      refine wp_region_lit ?_
      refine L1 (stv hA (by decide) (run_move (hA.ev rfl)) ?_)
      clear hA; intro a hA
      refine L1 (stv hA (by decide) (run_bin (hA.ev rfl) (hA.ev rfl) (bin_sub _ _ _ _)) ?_)
      clear hA; intro a hA
      refine L1 (stv hA (by decide) (run_assign (hA.ev rfl)) ?_)
      clear hA; intro a hA
      refine LQ ?_
      exact ⟨_, Nat.lt_succ_self m700, x742, xs748, IntKind.i64.wrap (t689 - 1), (.slice A746 xs748.length c747), H697, hM, (((hA.nil.cons (hA.get 4 _ rfl)).cons (hA.get 3 _ rfl)).cons (hA.get 0 _ rfl))⟩
    · replace H697 := ite_f hb702 H697
      refine wp_exit ?_
      refine TX ?_
      refine TX ?_
      refine BX ?_
      exact ⟨xs687, x681, (.slice A685 xs687.length c686), Option.some.inj H697, (hM.sel [1, 0] rfl (by decide)), (hA.nil.cons (hA.get 3 _ rfl))⟩
  clear hM hA
  rintro a w788 ⟨xs695, x696, v692, rfl, hM, hA⟩
  try dsimp only at H
  obtain ⟨A693, c694, rfl⟩ := RowOk.form (hM.row (p := pSample) .z)
  refine TN ?_
  refine wp_seq ?_
  refine wp_region_lit ?_
  refine L1 (stv hA (by decide) (run_move (hA.ev rfl)) ?_)
  clear hA; intro a hA
  refine L1 (stv hA (by decide) (run_assign (hA.ev rfl)) ?_)
  clear hA; intro a hA
  refine LQ ?_
  refine TN ?_
  refine wp_ret ?_
  obtain rfl := Option.some.inj H
  exact ret_post1 (fn := Try.f14) hA rfl rfl ⟨_, rfl, (.slice A693 xs695.length c694), rfl, (hM.sel [1, 0] rfl (by decide))⟩

def mill_New.f (k : Nat) (l_0 : (List Int)) : Option lightclientmill_Deck := (some (lightclientmill_Deck.mk l_0 0))
set_option maxRecDepth 100000 in
theorem mill_New.calls (k : Nat) (l_0 : (List Int)) (F : List (Option Nat)) (v0 : Value) (r : lightclientmill_Deck) (w0 : World) (h0 : RoV F (Pl.int .i64) w0 v0 l_0) (hM : Mem F w0 w0 []) (H : mill_New.f k l_0 = some r) :
    Calls Try.prog 15 #[v0] w0 fun e w' => ∃ v, e = .returned v ∧ ∃ (ggr_0 : Nat), v = (.pointer (some (⟨ggr_0, 0, none⟩))) ∧ Mem F w0 w' [.box ggr_0 53 [v0, (.int .i64 r.At_)]] := by
  unfold mill_New.f at H
  obtain ⟨A0, c0, rfl, hr0, hc0⟩ := h0
  refine enterL (n := 6) [(.slice A0 l_0.length c0)] Try.func15 rfl rfl rfl ?_
  intro a hA
  refine wp_seq ?_
  refine wp_region_lit ?_
  refine L1 (stv hA (by decide) (run_assign (hA.ev rfl)) ?_)
  clear hA; intro a hA
  refine LQ ?_
  refine TN ?_
  refine wp_seq ?_
  refine wp_region_lit ?_
  refine L1 (stv hA (by decide) (run_move (hA.ev rfl)) ?_)
  clear hA; intro a hA
  refine L1 (stv hA (by decide) (run_build (cells := #[(.slice A0 l_0.length c0), (.int .i64 0)]) [(0, (.slice A0 l_0.length c0))] zero53 Try.underlying53 (ss := [1, 1]) ⟨Try.sizeOf24, Try.sizeOf3, trivial⟩ hA rfl (by rfl)) ?_)
  clear hA; intro a hA
  refine L1 (e_box (cs := [(.slice A0 l_0.length c0), (.int .i64 0)]) hM hA rfl rfl (by decide) ?_)
  clear hM hA; intro w5 g4 hM hE  a hA
  refine L1 (stv hA (by decide) (run_assign (hA.ev rfl)) ?_)
  clear hA; intro a hA
  refine LQ ?_
  refine TN ?_
  refine wp_ret ?_
  obtain rfl := Option.some.inj H
  exact ret_post1 (fn := Try.f15) hA rfl rfl ⟨_, rfl, g4, rfl, hM⟩

def slices_Clone_SampleN.f (k : Nat) (s_0 : (List Sample)) (nl0 : Bool) : Option (List Sample) := (if nl0 = true then (some ([] : List Sample)) else (if (0 + s_0.length) * 56 ≤ 140737488355328 then (some (([] : List Sample) ++ s_0)) else none))
set_option maxRecDepth 100000 in
theorem slices_Clone_SampleN.calls (k : Nat) (s_0 : (List Sample)) (nl0 : Bool) (F : List (Option Nat)) (v0 : Value) (r : (List Sample)) (w0 : World) (h0 : RoV F pSample w0 v0 s_0) (hnl0 : ∀ A q c, v0 = .slice A q c → A.isNone = nl0) (hM : Mem F w0 w0 []) (H : slices_Clone_SampleN.f k s_0 nl0 = some r) :
    Calls Try.prog 30 #[v0] w0 fun e w' => ∃ v, e = .returned v ∧ ∃ (ur_0 : Value), v = ur_0 ∧ Mem F w0 w' [.row 35 pSample.sz ur_0 (pSample.flat r)] := by
  unfold slices_Clone_SampleN.f at H
  obtain ⟨A0, c0, rfl, hr0, hc0⟩ := h0
  have hn0 := hnl0 _ _ _ rfl
  refine enterL (n := 8) [(.slice A0 s_0.length c0)] Try.func30 rfl rfl rfl ?_
  intro a hA
  refine wp_seq ?_
  refine wp_region_lit ?_
  refine L1 (stv hA (by decide) (run_assign (hA.ev rfl)) ?_)
  clear hA; intro a hA
  refine LQ ?_
  refine TN ?_
  refine wp_seq ?_
  refine wp_seq ?_
  refine wp_region_lit ?_
  refine L1 (stv hA (by decide) (run_move (hA.ev rfl)) ?_)
  clear hA; intro a hA
  refine L1 (stv hA (by decide) (run_slnil Try.underlying28 (hA.ev rfl) (hA.ev rfl) hn0) ?_)
  clear hA; intro a hA
  refine LQ ?_
  refine TN ?_
  refine tcond (b := nl0) hA rfl (fun hb9 => ?_) (fun hb9 => ?_)
  · replace H := ite_t hb9 H
    refine wp_seq ?_
    refine wp_region_lit ?_
    refine L1 (stv hA (by decide) (run_assign (hA.ev rfl)) ?_)
    clear hA; intro a hA
    refine LQ ?_
    refine TN ?_
    refine wp_ret ?_
    have hM := hM.addnil 35 (pSample).sz
    obtain rfl := Option.some.inj H
    refine TR ?_
    exact ret_post1 (fn := Try.f30) hA rfl rfl ⟨_, rfl, (.slice none 0 0), rfl, hM⟩
  · replace H := ite_f hb9 H
    refine wp_skip ?_
    refine TN ?_
    refine wp_seq ?_
    refine wp_region_lit ?_
    refine L1 (e_lit0 elt28 hM hA (by decide) ?_)
    clear hM hA; intro w12 g11 hM hE  a hA
    refine L1 (stv hA (by decide) (run_move (hA.ev rfl)) ?_)
    clear hA; intro a hA
    obtain ⟨hl16, H⟩ := ite_some H
    refine L1 (e_append elt28 hM (fun _ => .z) (Src.row Try.underlying28 (hM.ro hr0) (Eq.refl s_0.length)) hl16 hA rfl rfl (by decide) ?_)
    clear hM hA; intro w17 A14 c15 hM hE  a hA
    refine L1 (stv hA (by decide) (run_assign (hA.ev rfl)) ?_)
    clear hA; intro a hA
    refine LQ ?_
    refine TN ?_
    refine wp_ret ?_
    obtain rfl := Option.some.inj H
    exact ret_post1 (fn := Try.f30) hA rfl rfl ⟨_, rfl, (.slice A14 (0 + s_0.length) c15), rfl, hM⟩

def slices_Clone_Sample.f (k : Nat) (s_0 : (List Sample)) : Option (List Sample) := (if s_0.length * 56 ≤ 140737488355328 then (some s_0) else none)
theorem slices_Clone_Sample.calls (k : Nat) (s_0 : (List Sample)) (F : List (Option Nat)) (v0 : Value) (r : (List Sample)) (w0 : World) (h0 : RoV F pSample w0 v0 s_0) (hM : Mem F w0 w0 []) (H : slices_Clone_Sample.f k s_0 = some r) :
    Calls Try.prog 30 #[v0] w0 fun e w' => ∃ v, e = .returned v ∧ ∃ (ur_0 : Value), v = ur_0 ∧ Mem F w0 w' [.row 35 pSample.sz ur_0 (pSample.flat r)] := by
  obtain ⟨A, c, rfl, hr, hc⟩ := h0
  refine slices_Clone_SampleN.calls k s_0 A.isNone F _ r w0 ⟨A, c, rfl, hr, hc⟩ (fun A' q c' e => by cases e; rfl) hM ?_
  unfold slices_Clone_Sample.f at H
  unfold slices_Clone_SampleN.f
  cases A with
  | none =>
    have e : s_0 = [] := hr.1.1 rfl
    subst e
    simpa using H
  | some ad => simpa using H

def fees_Rewind.l0 (height_1 : Int) (r893 : (List Sample)) : Nat → Int → Option (Out Int (Unit))
  | 0, _ => none
  | k + 1, t1397 => (if (decide (t1397 < ((r893.length : Nat) : Int))) = true then (if 0 ≤ t1397 ∧ t1397 < ((r893.length : Nat) : Int) then (if (decide (((r893.getD t1397.toNat Sample.z).Seen) > height_1)) = true then (some (.ret t1397)) else (fees_Rewind.l0 height_1 r893 k (IntKind.i64.wrap (t1397 + 1)))) else none) else (some (.go ())))
def fees_Rewind.l1 (height_1 : Int) (r893 : (List Sample)) : Nat → (List Sample) → Int → Int → Option ((List Sample) × Int)
  | 0, _, _, _ => none
  | k + 1, xs1554, i1557, j1559 => (if (decide (j1559 < ((r893.length : Nat) : Int))) = true then (if 0 ≤ j1559 ∧ j1559 < ((r893.length : Nat) : Int) then (Option.bind (α := (List Sample) × Int) (if (!(decide (((xs1554.getD j1559.toNat Sample.z).Seen) > height_1))) = true then (if 0 ≤ i1557 ∧ i1557 < ((r893.length : Nat) : Int) then (some ((xs1554.set i1557.toNat (xs1554.getD j1559.toNat Sample.z)), IntKind.i64.wrap (i1557 + 1))) else none) else (some (xs1554, i1557))) (fun st => match st with | (xs1592, i1595) => (fees_Rewind.l1 height_1 r893 k xs1592 i1595 (IntKind.i64.wrap (j1559 + 1))))) else none) else (some (xs1554, i1557)))
def fees_Rewind.l2 (height_1 : Int) (xs1257 : (List Sample)) : Nat → (List Sample) → Int → Option ((List Sample))
  | 0, _, _ => none
  | k + 1, xs1734, t1738 => (if (decide (t1738 < ((xs1257.length : Nat) : Int))) = true then (if 0 ≤ t1738 ∧ t1738 < ((xs1257.length : Nat) : Int) then (Option.bind (α := (List Sample)) (if (decide (((xs1734.getD t1738.toNat Sample.z).Confirmed) > height_1)) = true then (if 0 ≤ t1738 ∧ t1738 < ((xs1257.length : Nat) : Int) then (some (xs1734.set t1738.toNat (Sample.mk ((xs1734.getD t1738.toNat Sample.z).ID) ((xs1734.getD t1738.toNat Sample.z).Class) ((xs1734.getD t1738.toNat Sample.z).Seen) 0))) else none) else (some xs1734)) (fun xs1764 => (fees_Rewind.l2 height_1 xs1257 k xs1764 (IntKind.i64.wrap (t1738 + 1))))) else none) else (some xs1734))
def fees_Rewind.f (k : Nat) (l_0 : (List Sample)) (height_1 : Int) : Option (List Sample) := ((slices_Clone_Sample.f k l_0).bind fun r893 => (Option.bind (α := (List Sample)) (Option.bind (α := Int) (Option.bind (α := Out Int (Unit)) (fees_Rewind.l0 height_1 r893 k 0) (fun o => match o with | .ret r => some r | .go _ => (some (-1)))) (fun t1337 => (if (t1337 == (-1)) = true then (some r893) else (Option.bind (α := (List Sample) × Int) (fees_Rewind.l1 height_1 r893 k r893 t1337 (IntKind.i64.wrap (t1337 + 1))) (fun st => match st with | (xs1561, i1563) => (if 0 ≤ i1563 ∧ i1563 ≤ ((r893.length : Nat) : Int) then (if 0 ≤ i1563 ∧ i1563 ≤ ((r893.length : Nat) : Int) then (some ((xs1561.take i1563.toNat ++ List.replicate (r893.length - i1563.toNat) Sample.z).take i1563.toNat)) else none) else none)))))) (fun xs1257 => (Option.bind (α := (List Sample)) (fees_Rewind.l2 height_1 xs1257 k xs1257 0) (fun xs1740 => (some xs1740))))))
set_option maxRecDepth 100000 in
theorem fees_Rewind.calls (k : Nat) (l_0 : (List Sample)) (height_1 : Int) (F : List (Option Nat)) (v0 : Value) (r : (List Sample)) (w0 : World) (h0 : RoV F pSample w0 v0 l_0) (hM : Mem F w0 w0 []) (H : fees_Rewind.f k l_0 height_1 = some r) :
    Calls Try.prog 17 #[v0, (.int .i64 height_1)] w0 fun e w' => ∃ v, e = .returned v ∧ ∃ (ur_0 : Value), v = ur_0 ∧ Mem F w0 w' [.row 35 pSample.sz ur_0 (pSample.flat r)] := by
  unfold fees_Rewind.f at H
  obtain ⟨A0, c0, rfl, hr0, hc0⟩ := h0
  refine enterL (n := 29) [(.slice A0 l_0.length c0), (.int .i64 height_1)] Try.func17 rfl rfl rfl ?_
  intro a hA
  refine wp_seq ?_
  refine wp_region_lit ?_
  refine L1 (e_box (cs := [(.int .i64 height_1)]) hM hA rfl rfl (by decide) ?_)
  clear hM hA; intro w891 g890 hM hE  a hA
  refine L1 (stv hA (by decide) (run_assign (hA.ev rfl)) ?_)
  clear hA; intro a hA
  refine LQ ?_
  refine TN ?_
  refine wp_seq ?_
  refine wp_region_lit ?_
  refine L1 (stv hA (by decide) (run_move (hA.ev rfl)) ?_)
  clear hA; intro a hA
  obtain ⟨r893, H894, H⟩ := Option.bind_eq_some_iff.1 H
  refine L1 (st_call Try.call30 hA [(.slice A0 l_0.length c0)] rfl (by decide) (slices_Clone_Sample.calls _ _ _ _ _ _ ((RoV.mk (hM.roC (Ms := []) hr0) (Eq.refl l_0.length) hc0)) (hM.front (Ms := [])) H894) ?_)
  clear hA; rintro _ w895 ⟨v896, rfl, hMc⟩ a hA
  have hE := hMc.below; have hM := hM.call (Ms := []) hMc
  clear hMc; simp only [List.cons_append, List.nil_append] at hM
  obtain ⟨A898, c899, rfl⟩ := RowOk.form (hM.row (p := pSample) .z)
  refine L1 (stv hA (by decide) (run_fn2 hA [(.pointer (some (⟨g890, 0, none⟩)))] rfl) ?_)
  clear hA; intro a hA
  refine L1 (inl_call Try.call29 hA [(.slice A898 r893.length c899), (.func (.func 31) #[] #[(.pointer (some (⟨g890, 0, none⟩)))])] rfl (by decide) ?_)
  obtain ⟨o1259, H1258, H⟩ := Option.bind_eq_some_iff.1 H
  refine (show Calls Try.prog 29 _ w895 (fun e w => ∃ v, e = .returned v ∧ ∃ (xs1257 : (List Sample)) (v1254 : Value), xs1257 = o1259 ∧ v = v1254 ∧ Mem F w0 w [.box g890 3 [(.int .i64 height_1)], .row 35 pSample.sz v1254 (pSample.flat xs1257)]) from ?_).mono ?_
  · refine enterL (n := 42) [(.slice A898 r893.length c899), (.func (.func 31) #[] #[(.pointer (some (⟨g890, 0, none⟩)))])] Try.func29 rfl rfl rfl ?_
    clear hA; intro a hA
    refine wp_seq ?_
    refine wp_region_lit ?_
    refine L1 (stv hA (by decide) (run_assign (hA.ev rfl)) ?_)
    clear hA; intro a hA
    refine LQ ?_
    refine TN ?_
    refine wp_seq ?_
    refine wp_region_lit ?_
    refine L1 (stv hA (by decide) (run_move (hA.ev rfl)) ?_)
    clear hA; intro a hA
    refine L1 (stv hA (by decide) (run_move (hA.ev rfl)) ?_)
    clear hA; intro a hA
    refine L1 (inl_call Try.call36 hA [(.slice A898 r893.length c899), (.func (.func 31) #[] #[(.pointer (some (⟨g890, 0, none⟩)))])] rfl (by decide) ?_)
    obtain ⟨o1339, H1338, H1258⟩ := Option.bind_eq_some_iff.1 H1258
    refine (show Calls Try.prog 36 _ w895 (fun e w => ∃ v, e = .returned v ∧ ∃ (t1337 : Int), t1337 = o1339 ∧ v = (.int .i64 t1337) ∧ Mem F w0 w [.row 35 pSample.sz (.slice A898 r893.length c899) (pSample.flat r893), .box g890 3 [(.int .i64 height_1)]]) from ?_).mono ?_
    · refine enterL (n := 19) [(.slice A898 r893.length c899), (.func (.func 31) #[] #[(.pointer (some (⟨g890, 0, none⟩)))])] Try.func36 rfl rfl rfl ?_
      clear hA; intro a hA
      refine wp_seq ?_
      refine wp_region_lit ?_
      refine L1 (stv hA (by decide) (run_assign (hA.ev rfl)) ?_)
      clear hA; intro a hA
      refine LQ ?_
      refine TN ?_
      refine wp_seq ?_
      refine wp_seq ?_
      refine wp_region_lit ?_
      refine L1 (stv hA (by decide) (run_move (hA.ev rfl)) ?_)
      clear hA; intro a hA
      refine L1 (stv hA (by decide) (run_len_slice Try.underlying28 (hA.ev rfl)) ?_)
      clear hA; intro a hA
      refine L1 (stv hA (by decide) (run_move (hA.ev rfl)) ?_)
      clear hA; intro a hA
      refine LQ ?_
      refine TN ?_
      obtain ⟨o1399, H1398, H1338⟩ := Option.bind_eq_some_iff.1 H1338
      refine cutC (fun a w => (.go ()) = o1399 ∧ Mem F w0 w [.box g890 3 [(.int .i64 height_1)], .row 35 pSample.sz (.slice A898 r893.length c899) (pSample.flat r893)] ∧ Has 19 [] a) ?_ ?_
      · refine wp_block ?_
        refine wp_loop_ghost (fun m a w => ∃ (t1397 : Int), fees_Rewind.l0 height_1 r893 m t1397 = some o1399 ∧ Mem F w0 w [.row 35 pSample.sz (.slice A898 r893.length c899) (pSample.flat r893), .box g890 3 [(.int .i64 height_1)]] ∧ Has 19 [(0, (.slice A898 r893.length c899)), (1, (.func (.func 31) #[] #[(.pointer (some (⟨g890, 0, none⟩)))])), (7, (.int .i64 ((r893.length : Nat) : Int))), (8, (.int .i64 t1397))] a) k ⟨0, H1398, hM, ((((hA.nil.cons (hA.get 8 _ rfl)).cons (hA.get 7 _ rfl)).cons (hA.get 1 _ rfl)).cons (hA.get 0 _ rfl))⟩ ?_
        clear hM hA; rintro m1400 a w1401 ⟨t1397, H1398, hM, hA⟩
        cases m1400 with
        | zero => exact absurd H1398 (by simp [fees_Rewind.l0])
        | succ m1400 =>
        rw [fees_Rewind.l0] at H1398
        refine wp_seq ?_
        refine wp_region_lit ?_
        refine L1 (stv hA (by decide) (run_bin (hA.ev rfl) (hA.ev rfl) (bin_lss _ _ _ _)) ?_)
        clear hA; intro a hA
        refine LQ ?_
        refine TN ?_
        refine wp_seq ?_
        refine tcond (b := (decide (t1397 < ((r893.length : Nat) : Int)))) hA rfl (fun hb1402 => ?_) (fun hb1402 => ?_)
        · replace H1398 := ite_t hb1402 H1398
          refine wp_skip ?_
          refine TN ?_
          refine wp_seq ?_
          refine wp_block ?_
          refine wp_seq ?_
          refine wp_region_lit ?_
          refine L1 (stv hA (by decide) (run_move (hA.ev rfl)) ?_)
          clear hA; intro a hA
          refine L1 (stv hA (by decide) (run_assign (hA.ev rfl)) ?_)
          clear hA; intro a hA
          refine LQ ?_
          refine TN ?_
          refine wp_seq ?_
          refine wp_region_lit ?_
          refine L1 (stv hA (by decide) (run_move (hA.ev rfl)) ?_)
          clear hA; intro a hA
          refine L1 (stv hA (by decide) (run_move (hA.ev rfl)) ?_)
          clear hA; intro a hA
          refine L1 (stv hA (by decide) (run_move (hA.ev rfl)) ?_)
          clear hA; intro a hA
          obtain ⟨⟨hi1403, hj1404⟩, H1398⟩ := ite_some H1398
          obtain ⟨ad1405, hq1406, hat1407⟩ := Row.elem' (p := pSample) (RowOk.row (hM.row (p := pSample) .z)) (RowOk.len (hM.row (p := pSample) .z)) Sample.z t1397 hi1403 hj1404
          refine L1 (stv hA (by decide) (run_idx Try.underlying28 Try.sizeOf35 (hA.ev rfl) hq1406 (hA.ev rfl) hi1403 hj1404) ?_)
          clear hA; intro a hA
          refine L1 (stv hA (by decide) (run_ld (hA.ev rfl) (run_loadP Try.isAgg35 Try.sizeOf35 hat1407)) ?_)
          clear hA; intro a hA
          refine L1 (inl_callv (caps := [(.pointer (some (⟨g890, 0, none⟩)))]) Try.call31 hA rfl [(.agg (pSample.enc (r893.getD t1397.toNat Sample.z)).toArray)] rfl (by decide) ?_)
          refine enterL (n := 8) [(.agg (pSample.enc (r893.getD t1397.toNat Sample.z)).toArray), (.pointer (some (⟨g890, 0, none⟩)))] Try.func31 rfl rfl rfl ?_
          clear hA; intro a hA
          refine wp_seq ?_
          refine wp_region_lit ?_
          refine L1 (e_box (cs := (pSample.enc (r893.getD t1397.toNat Sample.z))) hM hA rfl rfl (by decide) ?_)
          clear hM hA; intro w1412 g1411 hM hE  a hA
          refine L1 (stv hA (by decide) (run_assign (hA.ev rfl)) ?_)
          clear hA; intro a hA
          refine LQ ?_
          refine TN ?_
          refine wp_seq ?_
          refine wp_region_lit ?_
          refine L1 (stv hA (by decide) (run_field' Try.underlying35 rfl rfl Try.sizeOf3 (by decide) (hA.ev rfl)) ?_)
          clear hA; intro a hA
          refine L1 (stv hA (by decide) (run_ld (hA.ev rfl) (run_loadS Try.isAgg3 (Sample.at_Seen (hM.box .z)))) ?_)
          clear hA; intro a hA
          refine L1 (stv hA (by decide) (run_ld (hA.ev rfl) (run_loadS Try.isAgg3 (hM.box (.s (.s .z))))) ?_)
          clear hA; intro a hA
          refine L1 (stv hA (by decide) (run_bin (hA.ev rfl) (hA.ev rfl) (bin_gtr _ _ _ _)) ?_)
          clear hA; intro a hA
          refine L1 (stv hA (by decide) (run_assign (hA.ev rfl)) ?_)
          clear hA; intro a hA
          refine LQ ?_
          refine TN ?_
          refine wp_ret ?_
          refine ret_post1 (fn := Try.f31) hA rfl rfl ⟨_, rfl, ?_⟩; clear hA; intro a hA
          refine LQ ?_
          refine TN ?_
          refine tcond (b := (decide (((r893.getD t1397.toNat Sample.z).Seen) > height_1))) hA rfl (fun hb1414 => ?_) (fun hb1414 => ?_)
          · replace H1398 := ite_t hb1414 H1398
            refine wp_seq ?_
            refine wp_region_lit ?_
            refine L1 (stv hA (by decide) (run_move (hA.ev rfl)) ?_)
            clear hA; intro a hA
            refine L1 (stv hA (by decide) (run_assign (hA.ev rfl)) ?_)
            clear hA; intro a hA
            refine LQ ?_
            refine TN ?_
            refine wp_ret ?_
            obtain rfl := Option.some.inj H1398
            dsimp only at H1338
            obtain rfl := Option.some.inj H1338
            refine BR ?_
            refine TR ?_
            refine TR ?_
            refine BR ?_
            refine TR ?_
            refine TR ?_
            exact ret_post1 (fn := Try.f36) hA rfl rfl ⟨_, rfl, t1397, rfl, rfl, (hM.sel [1, 2] rfl (by decide))⟩
          · replace H1398 := ite_f hb1414 H1398
            refine wp_skip ?_
            refine BN ?_
            refine TN ?_
            refine wp_region_lit ?_
            refine L1 (stv hA (by decide) (run_bin (hA.ev rfl) (hA.ev rfl) (bin_add _ _ _ _)) ?_)
            clear hA; intro a hA
            refine L1 (stv hA (by decide) (run_move (hA.ev rfl)) ?_)
            clear hA; intro a hA
            refine LQ ?_
            exact ⟨_, Nat.lt_succ_self m1400, IntKind.i64.wrap (t1397 + 1), H1398, (hM.sel [1, 2] rfl (by decide)), ((((hA.nil.cons (hA.get 8 _ rfl)).cons (hA.get 7 _ rfl)).cons (hA.get 1 _ rfl)).cons (hA.get 0 _ rfl))⟩
        · replace H1398 := ite_f hb1402 H1398
          refine wp_exit ?_
          refine TX ?_
          refine TX ?_
          refine BX ?_
          exact ⟨Option.some.inj H1398, (hM.sel [1, 0] rfl (by decide)), hA.nil⟩
      clear hM hA
      rintro a w1415 ⟨rfl, hM, hA⟩
      try dsimp only at H1338
      refine TN ?_
      refine wp_seq ?_
      refine wp_region_lit ?_
      refine L1 (stv hA (by decide) (run_assign (hA.ev rfl)) ?_)
      clear hA; intro a hA
      refine LQ ?_
      refine TN ?_
      refine wp_ret ?_
      obtain rfl := Option.some.inj H1338
      exact ret_post1 (fn := Try.f36) hA rfl rfl ⟨_, rfl, (-1), rfl, rfl, (hM.sel [1, 0] rfl (by decide))⟩
    rintro e w1416 ⟨_, rfl, ⟨t1337, rfl, rfl, hM⟩⟩
    refine ⟨_, rfl, ?_⟩; clear hA; intro a hA; try dsimp only at H1258
    refine L1 (stv hA (by decide) (run_assign (hA.ev rfl)) ?_)
    clear hA; intro a hA
    refine LQ ?_
    refine TN ?_
    refine wp_seq ?_
    refine wp_seq ?_
    refine wp_region_lit ?_
    refine L1 (stv hA (by decide) (run_move (hA.ev rfl)) ?_)
    clear hA; intro a hA
    refine L1 (stv hA (by decide) (run_bin (hA.ev rfl) (hA.ev rfl) (bin_eql _ _ _ _)) ?_)
    clear hA; intro a hA
    refine LQ ?_
    refine TN ?_
    refine tcond (b := (t1337 == (-1))) hA rfl (fun hb1417 => ?_) (fun hb1417 => ?_)
    · replace H1258 := ite_t hb1417 H1258
      refine wp_seq ?_
      refine wp_region_lit ?_
      refine L1 (stv hA (by decide) (run_move (hA.ev rfl)) ?_)
      clear hA; intro a hA
      refine L1 (stv hA (by decide) (run_assign (hA.ev rfl)) ?_)
      clear hA; intro a hA
      refine LQ ?_
      refine TN ?_
      refine wp_ret ?_
      obtain rfl := Option.some.inj H1258
      refine TR ?_
      exact ret_post1 (fn := Try.f29) hA rfl rfl ⟨_, rfl, r893, (.slice A898 r893.length c899), rfl, rfl, (hM.sel [1, 0] rfl (by decide))⟩
    · replace H1258 := ite_f hb1417 H1258
      refine wp_skip ?_
      refine TN ?_
      refine wp_seq ?_
      refine wp_seq ?_
      refine wp_region_lit ?_
      refine L1 (stv hA (by decide) (run_move (hA.ev rfl)) ?_)
      clear hA; intro a hA
      refine L1 (stv hA (by decide) (run_bin (hA.ev rfl) (hA.ev rfl) (bin_add _ _ _ _)) ?_)
      clear hA; intro a hA
      refine L1 (stv hA (by decide) (run_assign (hA.ev rfl)) ?_)
      clear hA; intro a hA
      refine LQ ?_
      refine TN ?_
      obtain ⟨o1565, H1564, H1258⟩ := Option.bind_eq_some_iff.1 H1258
      refine cutC (fun a w => ∃ (xs1561 : (List Sample)) (i1563 : Int), (xs1561, i1563) = o1565 ∧ Mem F w0 w [.row 35 pSample.sz (.slice A898 r893.length c899) (pSample.flat xs1561), .box g890 3 [(.int .i64 height_1)]] ∧ Has 42 [(0, (.slice A898 r893.length c899)), (5, (.int .i64 i1563))] a) ?_ ?_
      · refine wp_block ?_
        refine wp_loop_ghost (fun m a w => ∃ (xs1554 : (List Sample)) (i1557 : Int) (j1559 : Int), fees_Rewind.l1 height_1 r893 m xs1554 i1557 j1559 = some o1565 ∧ Mem F w0 w [.row 35 pSample.sz (.slice A898 r893.length c899) (pSample.flat xs1554), .box g890 3 [(.int .i64 height_1)]] ∧ Has 42 [(0, (.slice A898 r893.length c899)), (1, (.func (.func 31) #[] #[(.pointer (some (⟨g890, 0, none⟩)))])), (5, (.int .i64 i1557)), (6, (.int .i64 j1559))] a) k ⟨r893, t1337, IntKind.i64.wrap (t1337 + 1), H1564, hM, ((((hA.nil.cons (hA.get 6 _ rfl)).cons (hA.get 5 _ rfl)).cons (hA.get 1 _ rfl)).cons (hA.get 0 _ rfl))⟩ ?_
        clear hM hA; rintro m1566 a w1567 ⟨xs1554, i1557, j1559, H1564, hM, hA⟩
        cases m1566 with
        | zero => exact absurd H1564 (by simp [fees_Rewind.l1])
        | succ m1566 =>
        rw [fees_Rewind.l1] at H1564
        refine wp_seq ?_
        refine wp_seq ?_
        refine wp_region_lit ?_
        refine L1 (stv hA (by decide) (run_move (hA.ev rfl)) ?_)
        clear hA; intro a hA
        refine L1 (stv hA (by decide) (run_move (hA.ev rfl)) ?_)
        clear hA; intro a hA
        refine L1 (stv hA (by decide) (run_len_slice Try.underlying28 (hA.ev rfl)) ?_)
        clear hA; intro a hA
        refine L1 (stv hA (by decide) (run_bin (hA.ev rfl) (hA.ev rfl) (bin_lss _ _ _ _)) ?_)
        clear hA; intro a hA
        refine LQ ?_
        refine TN ?_
        refine tcond (b := (decide (j1559 < ((r893.length : Nat) : Int)))) hA rfl (fun hb1568 => ?_) (fun hb1568 => ?_)
        · replace H1564 := ite_t hb1568 H1564
          refine wp_skip ?_
          refine TN ?_
          refine wp_seq ?_
          refine wp_block ?_
          refine wp_seq ?_
          refine wp_region_lit ?_
          refine L1 (stv hA (by decide) (run_move (hA.ev rfl)) ?_)
          clear hA; intro a hA
          refine L1 (stv hA (by decide) (run_move (hA.ev rfl)) ?_)
          clear hA; intro a hA
          obtain ⟨⟨hi1569, hj1570⟩, H1564⟩ := ite_some H1564
          obtain ⟨ad1571, hq1572, hat1573⟩ := Row.elem' (p := pSample) (RowOk.row (hM.row (p := pSample) .z)) (RowOk.len (hM.row (p := pSample) .z)) Sample.z j1559 hi1569 hj1570
          refine L1 (stv hA (by decide) (run_idx Try.underlying28 Try.sizeOf35 (hA.ev rfl) hq1572 (hA.ev rfl) hi1569 hj1570) ?_)
          clear hA; intro a hA
          refine L1 (stv hA (by decide) (run_ld (hA.ev rfl) (run_loadP Try.isAgg35 Try.sizeOf35 hat1573)) ?_)
          clear hA; intro a hA
          refine L1 (e_alloc (cs := (pSample.enc Sample.z)) hM zero35 rfl hA (by decide) ?_)
          clear hM hA; intro w1575 g1574 hM hE  a hA
          refine L1 (e_store (g := g1574) (off := 0) (cur := (pSample.enc Sample.z)) (cs' := (pSample.enc (xs1554.getD j1559.toNat Sample.z))) hM .z Try.sizeOf35 hA rfl (by simp [add_mk]) rfl (agg_size _ _) (agg_one _ _) (Nat.le_of_ble_eq_true (enc_fitL _ _ rfl)) (spl_all (by first | rfl | simp [Value.cells, Pl.len])) ?_)
          clear hM hA; intro w1577  hM hE  a hA
          refine LQ ?_
          refine TN ?_
          refine wp_seq ?_
          refine wp_region_lit ?_
          refine L1 (stv hA (by decide) (run_move (hA.ev rfl)) ?_)
          clear hA; intro a hA
          refine L1 (stv hA (by decide) (run_ld (hA.ev rfl) (run_loadP Try.isAgg35 Try.sizeOf35 (hM.box .z))) ?_)
          clear hA; intro a hA
          refine L1 (inl_callv (caps := [(.pointer (some (⟨g890, 0, none⟩)))]) Try.call31 hA rfl [(.agg (pSample.enc (xs1554.getD j1559.toNat Sample.z)).toArray)] rfl (by decide) ?_)
          refine enterL (n := 8) [(.agg (pSample.enc (xs1554.getD j1559.toNat Sample.z)).toArray), (.pointer (some (⟨g890, 0, none⟩)))] Try.func31 rfl rfl rfl ?_
          clear hA; intro a hA
          refine wp_seq ?_
          refine wp_region_lit ?_
          refine L1 (e_box (cs := (pSample.enc (xs1554.getD j1559.toNat Sample.z))) hM hA rfl rfl (by decide) ?_)
          clear hM hA; intro w1582 g1581 hM hE  a hA
          refine L1 (stv hA (by decide) (run_assign (hA.ev rfl)) ?_)
          clear hA; intro a hA
          refine LQ ?_
          refine TN ?_
          refine wp_seq ?_
          refine wp_region_lit ?_
          refine L1 (stv hA (by decide) (run_field' Try.underlying35 rfl rfl Try.sizeOf3 (by decide) (hA.ev rfl)) ?_)
          clear hA; intro a hA
          refine L1 (stv hA (by decide) (run_ld (hA.ev rfl) (run_loadS Try.isAgg3 (Sample.at_Seen (hM.box .z)))) ?_)
          clear hA; intro a hA
          refine L1 (stv hA (by decide) (run_ld (hA.ev rfl) (run_loadS Try.isAgg3 (hM.box (.s (.s (.s .z)))))) ?_)
          clear hA; intro a hA
          refine L1 (stv hA (by decide) (run_bin (hA.ev rfl) (hA.ev rfl) (bin_gtr _ _ _ _)) ?_)
          clear hA; intro a hA
          refine L1 (stv hA (by decide) (run_assign (hA.ev rfl)) ?_)
          clear hA; intro a hA
          refine LQ ?_
          refine TN ?_
          refine wp_ret ?_
          refine ret_post1 (fn := Try.f31) hA rfl rfl ⟨_, rfl, ?_⟩; clear hA; intro a hA
          refine L1 (stv hA (by decide) (run_not (hA.ev rfl)) ?_)
          clear hA; intro a hA
          refine LQ ?_
          refine TN ?_
          obtain ⟨o1598, H1597, H1564⟩ := Option.bind_eq_some_iff.1 H1564
          refine cutC (fun a w => ∃ (xs1592 : (List Sample)) (i1595 : Int), (xs1592, i1595) = o1598 ∧ Mem F w0 w [.row 35 pSample.sz (.slice A898 r893.length c899) (pSample.flat xs1592), .box g890 3 [(.int .i64 height_1)]] ∧ Has 42 [(0, (.slice A898 r893.length c899)), (1, (.func (.func 31) #[] #[(.pointer (some (⟨g890, 0, none⟩)))])), (5, (.int .i64 i1595)), (6, (.int .i64 j1559))] a) ?_ ?_
          · refine tcond (b := (!(decide (((xs1554.getD j1559.toNat Sample.z).Seen) > height_1)))) hA rfl (fun hb1599 => ?_) (fun hb1599 => ?_)
            · replace H1597 := ite_t hb1599 H1597
              refine wp_seq ?_
              refine wp_region_lit ?_
              refine L1 (stv hA (by decide) (run_move (hA.ev rfl)) ?_)
              clear hA; intro a hA
              refine L1 (stv hA (by decide) (run_move (hA.ev rfl)) ?_)
              clear hA; intro a hA
              refine L1 (stv hA (by decide) (run_ld (hA.ev rfl) (run_loadP Try.isAgg35 Try.sizeOf35 (hM.box (.s .z)))) ?_)
              clear hA; intro a hA
              obtain ⟨⟨hi1600, hj1601⟩, H1597⟩ := ite_some H1597
              obtain ⟨ad1602, hq1603, hat1604⟩ := Row.elem' (p := pSample) (RowOk.row (hM.row (p := pSample) (.s (.s .z)))) (RowOk.len (hM.row (p := pSample) (.s (.s .z)))) Sample.z i1557 hi1600 hj1601
              refine L1 (stv hA (by decide) (run_idx Try.underlying28 Try.sizeOf35 (hA.ev rfl) hq1603 (hA.ev rfl) hi1600 hj1601) ?_)
              clear hA; intro a hA
              refine L1 (e_setrow (x1 := (xs1554.getD i1557.toNat Sample.z)) (y1 := (xs1554.getD j1559.toNat Sample.z)) (off := 0) hM (.s (.s .z)) Try.sizeOf35 hA rfl rfl hq1603 rfl (agg_size _ _) (agg_one _ _) hi1600 hj1601 (getD_getD _ _ _) (by decide) (spl_all (by first | rfl | simp [Value.cells, Pl.len] | (simp only [Value.cells, Pl.len, List.length_cons, List.length_nil]; done))) ?_)
              clear hM hA; intro w1605  hM hE  a hA
              refine LQ ?_
              refine TN ?_
              refine wp_region_lit ?_
              refine L1 (stv hA (by decide) (run_move (hA.ev rfl)) ?_)
              clear hA; intro a hA
              refine L1 (stv hA (by decide) (run_bin (hA.ev rfl) (hA.ev rfl) (bin_add _ _ _ _)) ?_)
              clear hA; intro a hA
              refine L1 (stv hA (by decide) (run_assign (hA.ev rfl)) ?_)
              clear hA; intro a hA
              refine LQ ?_
              exact ⟨(xs1554.set i1557.toNat (xs1554.getD j1559.toNat Sample.z)), IntKind.i64.wrap (i1557 + 1), Option.some.inj H1597, (hM.sel [2, 3] rfl (by decide)), ((((hA.nil.cons (hA.get 6 _ rfl)).cons (hA.get 5 _ rfl)).cons (hA.get 1 _ rfl)).cons (hA.get 0 _ rfl))⟩
            · replace H1597 := ite_f hb1599 H1597
              refine wp_skip ?_
              exact ⟨xs1554, i1557, Option.some.inj H1597, (hM.sel [2, 3] rfl (by decide)), ((((hA.nil.cons (hA.get 6 _ rfl)).cons (hA.get 5 _ rfl)).cons (hA.get 1 _ rfl)).cons (hA.get 0 _ rfl))⟩
          clear hM hA
          rintro a w1606 ⟨xs1592, i1595, rfl, hM, hA⟩
          try dsimp only at H1564
          refine BN ?_
          refine TN ?_
          refine wp_region_lit ?_
          refine L1 (stv hA (by decide) (run_move (hA.ev rfl)) ?_)
          clear hA; intro a hA
          refine L1 (stv hA (by decide) (run_bin (hA.ev rfl) (hA.ev rfl) (bin_add _ _ _ _)) ?_)
          clear hA; intro a hA
          refine L1 (stv hA (by decide) (run_assign (hA.ev rfl)) ?_)
          clear hA; intro a hA
          refine LQ ?_
          exact ⟨_, Nat.lt_succ_self m1566, xs1592, i1595, IntKind.i64.wrap (j1559 + 1), H1564, hM, ((((hA.nil.cons (hA.get 6 _ rfl)).cons (hA.get 5 _ rfl)).cons (hA.get 1 _ rfl)).cons (hA.get 0 _ rfl))⟩
        · replace H1564 := ite_f hb1568 H1564
          refine wp_exit ?_
          refine TX ?_
          refine TX ?_
          refine BX ?_
          exact ⟨xs1554, i1557, Option.some.inj H1564, hM, ((hA.nil.cons (hA.get 5 _ rfl)).cons (hA.get 0 _ rfl))⟩
      clear hM hA
      rintro a w1607 ⟨xs1561, i1563, rfl, hM, hA⟩
      try dsimp only at H1258
      refine TN ?_
      refine wp_seq ?_
      refine wp_region_lit ?_
      refine L1 (stv hA (by decide) (run_move (hA.ev rfl)) ?_)
      clear hA; intro a hA
      refine L1 (stv hA (by decide) (run_move (hA.ev rfl)) ?_)
      clear hA; intro a hA
      obtain ⟨⟨hi1608, hj1609⟩, H1258⟩ := ite_some H1258
      refine L1 (stv hA (by decide) (run_lo Try.underlying28 Try.sizeOf35 (RowOk.cap (hM.row (p := pSample) .z)) hi1608 hj1609 (hA.ev rfl) (hA.ev rfl)) ?_)
      clear hA; intro a hA
      refine L1 (e_clear (lo := i1563.toNat) elt28 rfl hM .z (by omega) hA rfl ?_)
      clear hM hA; intro w1610  hM hE  a hA
      refine LQ ?_
      refine TN ?_
      refine wp_seq ?_
      refine wp_region_lit ?_
      refine L1 (stv hA (by decide) (run_move (hA.ev rfl)) ?_)
      clear hA; intro a hA
      refine L1 (stv hA (by decide) (run_move (hA.ev rfl)) ?_)
      clear hA; intro a hA
      obtain ⟨⟨hi1611, hj1612⟩, H1258⟩ := ite_some H1258
      refine L1 (stv hA (by decide) (run_hi Try.underlying28 Try.sizeOf35 (RowOk.cap (hM.row (p := pSample) .z)) hi1611 hj1612 (hA.ev rfl) (hA.ev rfl)) ?_)
      clear hA; intro a hA
      refine L1 (stv hA (by decide) (run_assign (hA.ev rfl)) ?_)
      clear hA; intro a hA
      refine LQ ?_
      refine TN ?_
      refine wp_ret ?_
      obtain rfl := Option.some.inj H1258
      have hM := hM.re (y := .row 35 pSample.sz (.slice A898 i1563.toNat c899) (pSample.flat ((xs1561.take i1563.toNat ++ List.replicate (r893.length - i1563.toNat) Sample.z).take i1563.toNat))) .z (fun h => RowOk.cuthi h (by omega)) (key_hi _ _ _ _ _)
      exact ret_post1 (fn := Try.f29) hA rfl rfl ⟨_, rfl, ((xs1561.take i1563.toNat ++ List.replicate (r893.length - i1563.toNat) Sample.z).take i1563.toNat), (.slice A898 i1563.toNat c899), rfl, rfl, (hM.sel [1, 0] rfl (by decide))⟩
  rintro e w1613 ⟨_, rfl, ⟨xs1257, v1254, rfl, rfl, hM⟩⟩
  refine ⟨_, rfl, ?_⟩; clear hA; intro a hA; try dsimp only at H
  obtain ⟨A1255, c1256, rfl⟩ := RowOk.form (hM.row (p := pSample) (.s .z))
  refine L1 (stv hA (by decide) (run_assign (hA.ev rfl)) ?_)
  clear hA; intro a hA
  refine LQ ?_
  refine TN ?_
  refine wp_seq ?_
  refine wp_seq ?_
  refine wp_region_lit ?_
  refine L1 (stv hA (by decide) (run_move (hA.ev rfl)) ?_)
  clear hA; intro a hA
  refine L1 (stv hA (by decide) (run_len_slice Try.underlying28 (hA.ev rfl)) ?_)
  clear hA; intro a hA
  refine L1 (stv hA (by decide) (run_move (hA.ev rfl)) ?_)
  clear hA; intro a hA
  refine LQ ?_
  refine TN ?_
  obtain ⟨o1742, H1741, H⟩ := Option.bind_eq_some_iff.1 H
  refine cutC (fun a w => ∃ (xs1740 : (List Sample)), xs1740 = o1742 ∧ Mem F w0 w [.row 35 pSample.sz (.slice A1255 xs1257.length c1256) (pSample.flat xs1740)] ∧ Has 29 [(5, (.slice A1255 xs1257.length c1256))] a) ?_ ?_
  · refine wp_block ?_
    refine wp_loop_ghost (fun m a w => ∃ (xs1734 : (List Sample)) (t1738 : Int), fees_Rewind.l2 height_1 xs1257 m xs1734 t1738 = some o1742 ∧ Mem F w0 w [.box g890 3 [(.int .i64 height_1)], .row 35 pSample.sz (.slice A1255 xs1257.length c1256) (pSample.flat xs1734)] ∧ Has 29 [(3, (.pointer (some (⟨g890, 0, none⟩)))), (5, (.slice A1255 xs1257.length c1256)), (12, (.slice A1255 xs1257.length c1256)), (13, (.int .i64 ((xs1257.length : Nat) : Int))), (14, (.int .i64 t1738))] a) k ⟨xs1257, 0, H1741, hM, (((((hA.nil.cons (hA.get 14 _ rfl)).cons (hA.get 13 _ rfl)).cons (hA.get 12 _ rfl)).cons (hA.get 5 _ rfl)).cons (hA.get 3 _ rfl))⟩ ?_
    clear hM hA; rintro m1743 a w1744 ⟨xs1734, t1738, H1741, hM, hA⟩
    cases m1743 with
    | zero => exact absurd H1741 (by simp [fees_Rewind.l2])
    | succ m1743 =>
    rw [fees_Rewind.l2] at H1741
    refine wp_seq ?_
    refine wp_region_lit ?_
    refine L1 (stv hA (by decide) (run_bin (hA.ev rfl) (hA.ev rfl) (bin_lss _ _ _ _)) ?_)
    clear hA; intro a hA
    refine LQ ?_
    refine TN ?_
    refine wp_seq ?_
    refine tcond (b := (decide (t1738 < ((xs1257.length : Nat) : Int)))) hA rfl (fun hb1745 => ?_) (fun hb1745 => ?_)
    · replace H1741 := ite_t hb1745 H1741
      refine wp_skip ?_
      refine TN ?_
      refine wp_seq ?_
      refine wp_block ?_
      refine wp_seq ?_
      refine wp_region_lit ?_
      refine L1 (stv hA (by decide) (run_move (hA.ev rfl)) ?_)
      clear hA; intro a hA
      obtain ⟨⟨hi1746, hj1747⟩, H1741⟩ := ite_some H1741
      obtain ⟨ad1748, hq1749, hat1750⟩ := Row.elem' (p := pSample) (RowOk.row (hM.row (p := pSample) (.s .z))) (RowOk.len (hM.row (p := pSample) (.s .z))) Sample.z t1738 hi1746 hj1747
      refine L1 (stv hA (by decide) (run_idx Try.underlying28 Try.sizeOf35 (hA.ev rfl) hq1749 (hA.ev rfl) hi1746 hj1747) ?_)
      clear hA; intro a hA
      refine L1 (stv hA (by decide) (run_ld (hA.ev rfl) (run_loadP Try.isAgg35 Try.sizeOf35 hat1750)) ?_)
      clear hA; intro a hA
      refine L1 (e_alloc (cs := (pSample.enc Sample.z)) hM zero35 rfl hA (by decide) ?_)
      clear hM hA; intro w1752 g1751 hM hE  a hA
      refine L1 (stv hA (by decide) (run_assign (hA.ev rfl)) ?_)
      clear hA; intro a hA
      refine L1 (e_store (g := g1751) (off := 0) (cur := (pSample.enc Sample.z)) (cs' := (pSample.enc (xs1734.getD t1738.toNat Sample.z))) hM .z Try.sizeOf35 hA rfl (by simp [add_mk]) rfl (agg_size _ _) (agg_one _ _) (Nat.le_of_ble_eq_true (enc_fitL _ _ rfl)) (spl_all (by first | rfl | simp [Value.cells, Pl.len])) ?_)
      clear hM hA; intro w1754  hM hE  a hA
      refine LQ ?_
      refine TN ?_
      refine wp_seq ?_
      refine wp_region_lit ?_
      refine L1 (stv hA (by decide) (run_field' Try.underlying35 rfl rfl Try.sizeOf3 (by decide) (hA.ev rfl)) ?_)
      clear hA; intro a hA
      refine L1 (stv hA (by decide) (run_ld (hA.ev rfl) (run_loadS Try.isAgg3 (Sample.at_Confirmed (hM.box .z)))) ?_)
      clear hA; intro a hA
      refine L1 (stv hA (by decide) (run_ld (hA.ev rfl) (run_loadS Try.isAgg3 (hM.box (.s .z)))) ?_)
      clear hA; intro a hA
      refine L1 (stv hA (by decide) (run_bin (hA.ev rfl) (hA.ev rfl) (bin_gtr _ _ _ _)) ?_)
      clear hA; intro a hA
      refine LQ ?_
      refine TN ?_
      obtain ⟨o1769, H1768, H1741⟩ := Option.bind_eq_some_iff.1 H1741
      refine cutC (fun a w => ∃ (xs1764 : (List Sample)), xs1764 = o1769 ∧ Mem F w0 w [.box g890 3 [(.int .i64 height_1)], .row 35 pSample.sz (.slice A1255 xs1257.length c1256) (pSample.flat xs1764)] ∧ Has 29 [(3, (.pointer (some (⟨g890, 0, none⟩)))), (5, (.slice A1255 xs1257.length c1256)), (12, (.slice A1255 xs1257.length c1256)), (13, (.int .i64 ((xs1257.length : Nat) : Int))), (14, (.int .i64 t1738))] a) ?_ ?_
      · refine tcond (b := (decide (((xs1734.getD t1738.toNat Sample.z).Confirmed) > height_1))) hA rfl (fun hb1770 => ?_) (fun hb1770 => ?_)
        · replace H1768 := ite_t hb1770 H1768
          refine wp_region_lit ?_
          refine L1 (stv hA (by decide) (run_move (hA.ev rfl)) ?_)
          clear hA; intro a hA
          refine L1 (stv hA (by decide) (run_move (hA.ev rfl)) ?_)
          clear hA; intro a hA
          obtain ⟨⟨hi1771, hj1772⟩, H1768⟩ := ite_some H1768
          obtain ⟨ad1773, hq1774, hat1775⟩ := Row.elem' (p := pSample) (RowOk.row (hM.row (p := pSample) (.s (.s .z)))) (RowOk.len (hM.row (p := pSample) (.s (.s .z)))) Sample.z t1738 hi1771 hj1772
          refine L1 (stv hA (by decide) (run_idx Try.underlying28 Try.sizeOf35 (hA.ev rfl) hq1774 (hA.ev rfl) hi1771 hj1772) ?_)
          clear hA; intro a hA
          refine L1 (stv hA (by decide) (run_field' Try.underlying35 rfl rfl Try.sizeOf3 (by decide) (hA.ev rfl)) ?_)
          clear hA; intro a hA
          refine L1 (e_setrow (x1 := (xs1734.getD t1738.toNat Sample.z)) (y1 := (Sample.mk ((xs1734.getD t1738.toNat Sample.z).ID) ((xs1734.getD t1738.toNat Sample.z).Class) ((xs1734.getD t1738.toNat Sample.z).Seen) 0)) (off := 34) hM (.s (.s .z)) Try.sizeOf3 hA rfl rfl hq1774 rfl (by first | rfl | simp [Value.cells, Pl.len]) (one_val rfl) hi1771 hj1772 (getD_getD _ _ _) (by decide) (Sample.spl_Confirmed _ _) ?_)
          clear hM hA; intro w1776  hM hE  a hA
          refine LQ ?_
          exact ⟨(xs1734.set t1738.toNat (Sample.mk ((xs1734.getD t1738.toNat Sample.z).ID) ((xs1734.getD t1738.toNat Sample.z).Class) ((xs1734.getD t1738.toNat Sample.z).Seen) 0)), Option.some.inj H1768, (hM.sel [1, 2] rfl (by decide)), (((((hA.nil.cons (hA.get 14 _ rfl)).cons (hA.get 13 _ rfl)).cons (hA.get 12 _ rfl)).cons (hA.get 5 _ rfl)).cons (hA.get 3 _ rfl))⟩
        · replace H1768 := ite_f hb1770 H1768
          refine wp_skip ?_
          exact ⟨xs1734, Option.some.inj H1768, (hM.sel [1, 2] rfl (by decide)), (((((hA.nil.cons (hA.get 14 _ rfl)).cons (hA.get 13 _ rfl)).cons (hA.get 12 _ rfl)).cons (hA.get 5 _ rfl)).cons (hA.get 3 _ rfl))⟩
      clear hM hA
      rintro a w1777 ⟨xs1764, rfl, hM, hA⟩
      try dsimp only at H1741
      refine BN ?_
      refine TN ?_
      refine wp_region_lit ?_
      refine L1 (stv hA (by decide) (run_bin (hA.ev rfl) (hA.ev rfl) (bin_add _ _ _ _)) ?_)
      clear hA; intro a hA
      refine L1 (stv hA (by decide) (run_move (hA.ev rfl)) ?_)
      clear hA; intro a hA
      refine LQ ?_
      exact ⟨_, Nat.lt_succ_self m1743, xs1764, IntKind.i64.wrap (t1738 + 1), H1741, hM, (((((hA.nil.cons (hA.get 14 _ rfl)).cons (hA.get 13 _ rfl)).cons (hA.get 12 _ rfl)).cons (hA.get 5 _ rfl)).cons (hA.get 3 _ rfl))⟩
    · replace H1741 := ite_f hb1745 H1741
      refine wp_exit ?_
      refine TX ?_
      refine TX ?_
      refine BX ?_
      exact ⟨xs1734, Option.some.inj H1741, (hM.sel [1] rfl (by decide)), (hA.nil.cons (hA.get 5 _ rfl))⟩
  clear hM hA
  rintro a w1778 ⟨xs1740, rfl, hM, hA⟩
  try dsimp only at H
  refine TN ?_
  refine wp_seq ?_
  refine wp_region_lit ?_
  refine L1 (stv hA (by decide) (run_move (hA.ev rfl)) ?_)
  clear hA; intro a hA
  refine L1 (stv hA (by decide) (run_assign (hA.ev rfl)) ?_)
  clear hA; intro a hA
  refine LQ ?_
  refine TN ?_
  refine wp_ret ?_
  obtain rfl := Option.some.inj H
  exact ret_post1 (fn := Try.f17) hA rfl rfl ⟨_, rfl, (.slice A1255 xs1257.length c1256), rfl, hM⟩

def fees_Confirm.l0 (ids_1 : (List (Vector Int 32))) : Nat → (List ((Vector Int 32) × Bool)) → Int → Option ((List ((Vector Int 32) × Bool)))
  | 0, _, _ => none
  | k + 1, mp392, t396 => (if (decide (t396 < ((ids_1.length : Nat) : Int))) = true then (if 0 ≤ t396 ∧ t396 < ((ids_1.length : Nat) : Int) then (fees_Confirm.l0 ids_1 k (mput mp392 (ids_1.getD t396.toNat (Vector.replicate 32 0 : Vector Int 32)) true) (IntKind.i64.wrap (t396 + 1))) else none) else (some mp392))
def fees_Confirm.l1 (height_2 : Int) (mp400 : (List ((Vector Int 32) × Bool))) (r417 : (List Sample)) : Nat → (List Sample) → Int → Option ((List Sample))
  | 0, _, _ => none
  | k + 1, xs599, t603 => (if (decide (t603 < ((r417.length : Nat) : Int))) = true then (if 0 ≤ t603 ∧ t603 < ((r417.length : Nat) : Int) then (Option.bind (α := Bool) (if ((mget mp400 ((xs599.getD t603.toNat Sample.z).ID)).getD false) = true then (if (((xs599.getD t603.toNat Sample.z).Confirmed) == 0) = true then (some (decide (((xs599.getD t603.toNat Sample.z).Seen) < height_2))) else (some false)) else (some false)) (fun t630 => (Option.bind (α := (List Sample)) (if t630 = true then (if 0 ≤ t603 ∧ t603 < ((r417.length : Nat) : Int) then (some (xs599.set t603.toNat (Sample.mk ((xs599.getD t603.toNat Sample.z).ID) ((xs599.getD t603.toNat Sample.z).Class) ((xs599.getD t603.toNat Sample.z).Seen) height_2))) else none) else (some xs599)) (fun xs646 => (fees_Confirm.l1 height_2 mp400 r417 k xs646 (IntKind.i64.wrap (t603 + 1))))))) else none) else (some xs599))
def fees_Confirm.f (k : Nat) (l_0 : (List Sample)) (ids_1 : (List (Vector Int 32))) (height_2 : Int) : Option (List Sample) := (Option.bind (α := (List ((Vector Int 32) × Bool))) (fees_Confirm.l0 ids_1 k ([] : List ((Vector Int 32) × Bool)) 0) (fun mp400 => ((slices_Clone_Sample.f k l_0).bind fun r417 => (Option.bind (α := (List Sample)) (fees_Confirm.l1 height_2 mp400 r417 k r417 0) (fun xs605 => (some xs605))))))
set_option maxRecDepth 100000 in
theorem fees_Confirm.calls (k : Nat) (l_0 : (List Sample)) (ids_1 : (List (Vector Int 32))) (height_2 : Int) (F : List (Option Nat)) (v0 : Value) (v1 : Value) (r : (List Sample)) (w0 : World) (h0 : RoV F pSample w0 v0 l_0) (h1 : RoV F pHash w0 v1 ids_1) (hM : Mem F w0 w0 []) (H : fees_Confirm.f k l_0 ids_1 height_2 = some r) :
    Calls Try.prog 19 #[v0, v1, (.int .i64 height_2)] w0 fun e w' => ∃ v, e = .returned v ∧ ∃ (ur_0 : Value), v = ur_0 ∧ Mem F w0 w' [.row 35 pSample.sz ur_0 (pSample.flat r)] := by
  unfold fees_Confirm.f at H
  obtain ⟨A0, c0, rfl, hr0, hc0⟩ := h0
  obtain ⟨A1, c1, rfl, hr1, hc1⟩ := h1
  refine enterL (n := 54) [(.slice A0 l_0.length c0), (.slice A1 ids_1.length c1), (.int .i64 height_2)] Try.func19 rfl rfl rfl ?_
  intro a hA
  refine wp_seq ?_
  refine wp_region_lit ?_
  refine L1 (stv hA (by decide) (run_assign (hA.ev rfl)) ?_)
  clear hA; intro a hA
  refine LQ ?_
  refine TN ?_
  refine wp_seq ?_
  refine wp_region_lit ?_
  refine L1 (e_makeMap (m := ([] : List ((Vector Int 32) × Bool))) (ek := (fun x => (.agg (pHash.enc x).toArray))) (ev' := (fun x => (.bool x))) rfl hM hA (by decide) ?_)
  clear hM hA; intro w332 g331 hM hE  a hA
  refine L1 (stv hA (by decide) (run_assign (hA.ev rfl)) ?_)
  clear hA; intro a hA
  refine LQ ?_
  refine TN ?_
  refine wp_seq ?_
  refine wp_seq ?_
  refine wp_region_lit ?_
  refine L1 (stv hA (by decide) (run_move (hA.ev rfl)) ?_)
  clear hA; intro a hA
  refine L1 (stv hA (by decide) (run_len_slice Try.underlying42 (hA.ev rfl)) ?_)
  clear hA; intro a hA
  refine L1 (stv hA (by decide) (run_move (hA.ev rfl)) ?_)
  clear hA; intro a hA
  refine LQ ?_
  refine TN ?_
  obtain ⟨o402, H401, H⟩ := Option.bind_eq_some_iff.1 H
  refine cutC (fun a w => ∃ (mp400 : (List ((Vector Int 32) × Bool))), mp400 = o402 ∧ Mem F w0 w [.map g331 (mapE (fun x => (.agg (pHash.enc x).toArray)) (fun x => (.bool x)) mp400)] ∧ Has 54 [(0, (.slice A0 l_0.length c0)), (2, (.int .i64 height_2)), (7, (.map (some g331)))] a) ?_ ?_
  · refine wp_block ?_
    refine wp_loop_ghost (fun m a w => ∃ (mp392 : (List ((Vector Int 32) × Bool))) (t396 : Int), fees_Confirm.l0 ids_1 m mp392 t396 = some o402 ∧ Mem F w0 w [.map g331 (mapE (fun x => (.agg (pHash.enc x).toArray)) (fun x => (.bool x)) mp392)] ∧ Has 54 [(0, (.slice A0 l_0.length c0)), (2, (.int .i64 height_2)), (7, (.map (some g331))), (14, (.slice A1 ids_1.length c1)), (15, (.int .i64 ((ids_1.length : Nat) : Int))), (16, (.int .i64 t396))] a) k ⟨([] : List ((Vector Int 32) × Bool)), 0, H401, hM, ((((((hA.nil.cons (hA.get 16 _ rfl)).cons (hA.get 15 _ rfl)).cons (hA.get 14 _ rfl)).cons (hA.get 7 _ rfl)).cons (hA.get 2 _ rfl)).cons (hA.get 0 _ rfl))⟩ ?_
    clear hM hA; rintro m403 a w404 ⟨mp392, t396, H401, hM, hA⟩
    cases m403 with
    | zero => exact absurd H401 (by simp [fees_Confirm.l0])
    | succ m403 =>
    rw [fees_Confirm.l0] at H401
    refine wp_seq ?_
    refine wp_region_lit ?_
    refine L1 (stv hA (by decide) (run_bin (hA.ev rfl) (hA.ev rfl) (bin_lss _ _ _ _)) ?_)
    clear hA; intro a hA
    refine LQ ?_
    refine TN ?_
    refine wp_seq ?_
    refine tcond (b := (decide (t396 < ((ids_1.length : Nat) : Int)))) hA rfl (fun hb405 => ?_) (fun hb405 => ?_)
    · replace H401 := ite_t hb405 H401
      refine wp_skip ?_
      refine TN ?_
      refine wp_seq ?_
      refine wp_block ?_
      refine wp_seq ?_
      refine wp_region_lit ?_
      obtain ⟨⟨hi406, hj407⟩, H401⟩ := ite_some H401
      obtain ⟨ad408, hq409, hat410⟩ := Row.elem' (p := pHash) (hM.ro hr1) (Eq.refl ids_1.length) (Vector.replicate 32 0 : Vector Int 32) t396 hi406 hj407
      refine L1 (stv hA (by decide) (run_idx Try.underlying42 Try.sizeOf33 (hA.ev rfl) hq409 (hA.ev rfl) hi406 hj407) ?_)
      clear hA; intro a hA
      refine L1 (stv hA (by decide) (run_ld (hA.ev rfl) (run_loadP Try.isAgg33 Try.sizeOf33 hat410)) ?_)
      clear hA; intro a hA
      refine L1 (e_alloc (cs := (pHash.enc (Vector.replicate 32 0 : Vector Int 32))) hM zero33 rfl hA (by decide) ?_)
      clear hM hA; intro w412 g411 hM hE  a hA
      refine L1 (e_store (g := g411) (off := 0) (cur := (pHash.enc (Vector.replicate 32 0 : Vector Int 32))) (cs' := (pHash.enc (ids_1.getD t396.toNat (Vector.replicate 32 0 : Vector Int 32)))) hM .z Try.sizeOf33 hA rfl (by simp [add_mk]) rfl (agg_size _ _) (agg_one _ _) (Nat.le_of_ble_eq_true (enc_fitL _ _ rfl)) (spl_all (by first | rfl | simp [Value.cells, Pl.len])) ?_)
      clear hM hA; intro w414  hM hE  a hA
      refine LQ ?_
      refine TN ?_
      refine wp_region_lit ?_
      refine L1 (stv hA (by decide) (run_move (hA.ev rfl)) ?_)
      clear hA; intro a hA
      refine L1 (stv hA (by decide) (run_ld (hA.ev rfl) (run_loadP Try.isAgg33 Try.sizeOf33 (hM.box .z))) ?_)
      clear hA; intro a hA
      refine L1 (e_mapput (m := mp392) (k := (ids_1.getD t396.toNat (Vector.replicate 32 0 : Vector Int 32))) (v := true) (ev' := (fun x => (.bool x))) (key33) Try.underlying59 hM (.s .z) hA rfl rfl rfl ?_)
      clear hM hA; intro w415  hM hE  a hA
      refine LQ ?_
      refine BN ?_
      refine TN ?_
      refine wp_region_lit ?_
      refine L1 (stv hA (by decide) (run_bin (hA.ev rfl) (hA.ev rfl) (bin_add _ _ _ _)) ?_)
      clear hA; intro a hA
      refine L1 (stv hA (by decide) (run_move (hA.ev rfl)) ?_)
      clear hA; intro a hA
      refine LQ ?_
      exact ⟨_, Nat.lt_succ_self m403, (mput mp392 (ids_1.getD t396.toNat (Vector.replicate 32 0 : Vector Int 32)) true), IntKind.i64.wrap (t396 + 1), H401, (hM.sel [1] rfl (by decide)), ((((((hA.nil.cons (hA.get 16 _ rfl)).cons (hA.get 15 _ rfl)).cons (hA.get 14 _ rfl)).cons (hA.get 7 _ rfl)).cons (hA.get 2 _ rfl)).cons (hA.get 0 _ rfl))⟩
    · replace H401 := ite_f hb405 H401
      refine wp_exit ?_
      refine TX ?_
      refine TX ?_
      refine BX ?_
      exact ⟨mp392, Option.some.inj H401, hM, (((hA.nil.cons (hA.get 7 _ rfl)).cons (hA.get 2 _ rfl)).cons (hA.get 0 _ rfl))⟩
  clear hM hA
  rintro a w416 ⟨mp400, rfl, hM, hA⟩
  try dsimp only at H
  refine TN ?_
  refine wp_seq ?_
  refine wp_region_lit ?_
  refine L1 (stv hA (by decide) (run_move (hA.ev rfl)) ?_)
  clear hA; intro a hA
  obtain ⟨r417, H418, H⟩ := Option.bind_eq_some_iff.1 H
  refine L1 (st_call Try.call30 hA [(.slice A0 l_0.length c0)] rfl (by decide) (slices_Clone_Sample.calls _ _ _ _ _ _ ((RoV.mk (hM.roC (Ms := []) hr0) (Eq.refl l_0.length) hc0)) (hM.front (Ms := [])) H418) ?_)
  clear hA; rintro _ w419 ⟨v420, rfl, hMc⟩ a hA
  have hE := hMc.below; have hM := hM.call (Ms := []) hMc
  clear hMc; simp only [List.cons_append, List.nil_append] at hM
  obtain ⟨A422, c423, rfl⟩ := RowOk.form (hM.row (p := pSample) .z)
  refine L1 (stv hA (by decide) (run_assign (hA.ev rfl)) ?_)
  clear hA; intro a hA
  refine LQ ?_
  refine TN ?_
  refine wp_seq ?_
  refine wp_seq ?_
  refine wp_region_lit ?_
  refine L1 (stv hA (by decide) (run_move (hA.ev rfl)) ?_)
  clear hA; intro a hA
  refine L1 (stv hA (by decide) (run_len_slice Try.underlying28 (hA.ev rfl)) ?_)
  clear hA; intro a hA
  refine L1 (stv hA (by decide) (run_move (hA.ev rfl)) ?_)
  clear hA; intro a hA
  refine LQ ?_
  refine TN ?_
  obtain ⟨o607, H606, H⟩ := Option.bind_eq_some_iff.1 H
  refine cutC (fun a w => ∃ (xs605 : (List Sample)), xs605 = o607 ∧ Mem F w0 w [.row 35 pSample.sz (.slice A422 r417.length c423) (pSample.flat xs605)] ∧ Has 54 [(10, (.slice A422 r417.length c423))] a) ?_ ?_
  · refine wp_block ?_
    refine wp_loop_ghost (fun m a w => ∃ (xs599 : (List Sample)) (t603 : Int), fees_Confirm.l1 height_2 mp400 r417 m xs599 t603 = some o607 ∧ Mem F w0 w [.map g331 (mapE (fun x => (.agg (pHash.enc x).toArray)) (fun x => (.bool x)) mp400), .row 35 pSample.sz (.slice A422 r417.length c423) (pSample.flat xs599)] ∧ Has 54 [(2, (.int .i64 height_2)), (7, (.map (some g331))), (10, (.slice A422 r417.length c423)), (25, (.slice A422 r417.length c423)), (26, (.int .i64 ((r417.length : Nat) : Int))), (27, (.int .i64 t603))] a) k ⟨r417, 0, H606, (hM.sel [1, 0] rfl (by decide)), ((((((hA.nil.cons (hA.get 27 _ rfl)).cons (hA.get 26 _ rfl)).cons (hA.get 25 _ rfl)).cons (hA.get 10 _ rfl)).cons (hA.get 7 _ rfl)).cons (hA.get 2 _ rfl))⟩ ?_
    clear hM hA; rintro m608 a w609 ⟨xs599, t603, H606, hM, hA⟩
    cases m608 with
    | zero => exact absurd H606 (by simp [fees_Confirm.l1])
    | succ m608 =>
    rw [fees_Confirm.l1] at H606
    refine wp_seq ?_
    refine wp_region_lit ?_
    refine L1 (stv hA (by decide) (run_bin (hA.ev rfl) (hA.ev rfl) (bin_lss _ _ _ _)) ?_)
    clear hA; intro a hA
    refine LQ ?_
    refine TN ?_
    refine wp_seq ?_
    refine tcond (b := (decide (t603 < ((r417.length : Nat) : Int)))) hA rfl (fun hb610 => ?_) (fun hb610 => ?_)
    · replace H606 := ite_t hb610 H606
      refine wp_skip ?_
      refine TN ?_
      refine wp_seq ?_
      refine wp_block ?_
      refine wp_seq ?_
      refine wp_region_lit ?_
      refine L1 (stv hA (by decide) (run_move (hA.ev rfl)) ?_)
      clear hA; intro a hA
      obtain ⟨⟨hi611, hj612⟩, H606⟩ := ite_some H606
      obtain ⟨ad613, hq614, hat615⟩ := Row.elem' (p := pSample) (RowOk.row (hM.row (p := pSample) (.s .z))) (RowOk.len (hM.row (p := pSample) (.s .z))) Sample.z t603 hi611 hj612
      refine L1 (stv hA (by decide) (run_idx Try.underlying28 Try.sizeOf35 (hA.ev rfl) hq614 (hA.ev rfl) hi611 hj612) ?_)
      clear hA; intro a hA
      refine L1 (stv hA (by decide) (run_ld (hA.ev rfl) (run_loadP Try.isAgg35 Try.sizeOf35 hat615)) ?_)
      clear hA; intro a hA
      refine L1 (e_alloc (cs := (pSample.enc Sample.z)) hM zero35 rfl hA (by decide) ?_)
      clear hM hA; intro w617 g616 hM hE  a hA
      refine L1 (stv hA (by decide) (run_assign (hA.ev rfl)) ?_)
      clear hA; intro a hA
      refine L1 (e_store (g := g616) (off := 0) (cur := (pSample.enc Sample.z)) (cs' := (pSample.enc (xs599.getD t603.toNat Sample.z))) hM .z Try.sizeOf35 hA rfl (by simp [add_mk]) rfl (agg_size _ _) (agg_one _ _) (Nat.le_of_ble_eq_true (enc_fitL _ _ rfl)) (spl_all (by first | rfl | simp [Value.cells, Pl.len])) ?_)
      clear hM hA; intro w619  hM hE  a hA
      refine LQ ?_
      refine TN ?_
      refine wp_seq ?_
      obtain ⟨o632, H631, H606⟩ := Option.bind_eq_some_iff.1 H606
      refine cutC (fun a w => ∃ (t630 : Bool), t630 = o632 ∧ Mem F w0 w [.map g331 (mapE (fun x => (.agg (pHash.enc x).toArray)) (fun x => (.bool x)) mp400), .row 35 pSample.sz (.slice A422 r417.length c423) (pSample.flat xs599)] ∧ Has 54 [(2, (.int .i64 height_2)), (7, (.map (some g331))), (10, (.slice A422 r417.length c423)), (11, (.int .i64 t603)), (25, (.slice A422 r417.length c423)), (26, (.int .i64 ((r417.length : Nat) : Int))), (27, (.int .i64 t603)), (46, (.bool t630))] a) ?_ ?_
      · refine wp_region_lit ?_
        refine L1 (stv hA (by decide) (run_move (hA.ev rfl)) ?_)
        clear hA; intro a hA
        refine L1 (stv hA (by decide) (run_field' Try.underlying35 rfl rfl Try.sizeOf33 (by decide) (hA.ev rfl)) ?_)
        clear hA; intro a hA
        refine L1 (stv hA (by decide) (run_ld (hA.ev rfl) (run_loadP Try.isAgg33 Try.sizeOf33 (Sample.at_ID (hM.box .z)))) ?_)
        clear hA; intro a hA
        refine L1 (stv hA (by decide) (run_look1 (m := mp400) (k := (xs599.getD t603.toNat Sample.z).ID) (z := false) (ev' := (fun x => (.bool x))) (key33) Try.underlying59 zero4 rfl (hA.ev rfl) (hA.ev rfl) (hM.map (.s .z))) ?_)
        clear hA; intro a hA
        refine L1 (stv hA (by decide) (run_move (hA.ev rfl)) ?_)
        clear hA; intro a hA
        refine bsplit (b := ((mget mp400 ((xs599.getD t603.toNat Sample.z).ID)).getD false)) (fun hb633 => ?_) (fun hb633 => ?_)
        · replace H631 := ite_t hb633 H631
          have hA := hA.re (t := 36) rfl (congrArg Value.bool hb633)
          refine L1 (gate_on rfl rfl hA (by decide) rfl (stv hA (by decide) (run_field' Try.underlying35 rfl rfl Try.sizeOf3 (by decide) (hA.ev rfl)) ?_))
          clear hA; intro a hA
          refine L1 (gate_on rfl rfl hA (by decide) rfl (stv hA (by decide) (run_ld (hA.ev rfl) (run_loadS Try.isAgg3 (Sample.at_Confirmed (hM.box .z)))) ?_))
          clear hA; intro a hA
          refine L1 (gate_on rfl rfl hA (by decide) rfl (stv hA (by decide) (run_bin (hA.ev rfl) (hA.ev rfl) (bin_eql _ _ _ _)) ?_))
          clear hA; intro a hA
          refine L1 (stv hA (by decide) (run_pick (hA.ev rfl) (fun _ => hA.ev rfl) (fun h => Bool.noConfusion h)) ?_)
          clear hA; intro a hA
          refine L1 (stv hA (by decide) (run_move (hA.ev rfl)) ?_)
          clear hA; intro a hA
          refine bsplit (b := (((xs599.getD t603.toNat Sample.z).Confirmed) == 0)) (fun hb634 => ?_) (fun hb634 => ?_)
          · replace H631 := ite_t hb634 H631
            have hA := hA.re (t := 41) rfl (congrArg Value.bool hb634)
            refine L1 (gate_on rfl rfl hA (by decide) rfl (stv hA (by decide) (run_field' Try.underlying35 rfl rfl Try.sizeOf3 (by decide) (hA.ev rfl)) ?_))
            clear hA; intro a hA
            refine L1 (gate_on rfl rfl hA (by decide) rfl (stv hA (by decide) (run_ld (hA.ev rfl) (run_loadS Try.isAgg3 (Sample.at_Seen (hM.box .z)))) ?_))
            clear hA; intro a hA
            refine L1 (gate_on rfl rfl hA (by decide) rfl (stv hA (by decide) (run_move (hA.ev rfl)) ?_))
            clear hA; intro a hA
            refine L1 (gate_on rfl rfl hA (by decide) rfl (stv hA (by decide) (run_bin (hA.ev rfl) (hA.ev rfl) (bin_lss _ _ _ _)) ?_))
            clear hA; intro a hA
            refine L1 (stv hA (by decide) (run_pick (hA.ev rfl) (fun _ => hA.ev rfl) (fun h => Bool.noConfusion h)) ?_)
            clear hA; intro a hA
            refine LQ ?_
            exact ⟨(decide (((xs599.getD t603.toNat Sample.z).Seen) < height_2)), Option.some.inj H631, (hM.sel [1, 2] rfl (by decide)), ((((((((hA.nil.cons (hA.get 46 _ rfl)).cons (hA.get 27 _ rfl)).cons (hA.get 26 _ rfl)).cons (hA.get 25 _ rfl)).cons (hA.get 11 _ rfl)).cons (hA.get 10 _ rfl)).cons (hA.get 7 _ rfl)).cons (hA.get 2 _ rfl))⟩
          · replace H631 := ite_f hb634 H631
            have hA := hA.re (t := 41) rfl (congrArg Value.bool hb634)
            refine L1 (gate_off rfl (by decide) rfl hA (by decide) rfl rfl ?_); clear hA; intro a hA
            refine L1 (gate_off rfl (by decide) rfl hA (by decide) rfl rfl ?_); clear hA; intro a hA
            refine L1 (gate_off rfl (by decide) rfl hA (by decide) rfl rfl ?_); clear hA; intro a hA
            refine L1 (gate_off rfl (by decide) rfl hA (by decide) rfl rfl ?_); clear hA; intro a hA
            refine L1 (stv hA (by decide) (run_pick (hA.ev rfl) (fun h => Bool.noConfusion h) (fun _ => hA.ev rfl)) ?_)
            clear hA; intro a hA
            refine LQ ?_
            exact ⟨false, Option.some.inj H631, (hM.sel [1, 2] rfl (by decide)), ((((((((hA.nil.cons (hA.get 46 _ rfl)).cons (hA.get 27 _ rfl)).cons (hA.get 26 _ rfl)).cons (hA.get 25 _ rfl)).cons (hA.get 11 _ rfl)).cons (hA.get 10 _ rfl)).cons (hA.get 7 _ rfl)).cons (hA.get 2 _ rfl))⟩
        · replace H631 := ite_f hb633 H631
          have hA := hA.re (t := 36) rfl (congrArg Value.bool hb633)
          refine L1 (gate_off rfl (by decide) rfl hA (by decide) rfl rfl ?_); clear hA; intro a hA
          refine L1 (gate_off rfl (by decide) rfl hA (by decide) rfl rfl ?_); clear hA; intro a hA
          refine L1 (gate_off rfl (by decide) rfl hA (by decide) rfl rfl ?_); clear hA; intro a hA
          refine L1 (stv hA (by decide) (run_pick (hA.ev rfl) (fun h => Bool.noConfusion h) (fun _ => hA.ev rfl)) ?_)
          clear hA; intro a hA
          refine L1 (stv hA (by decide) (run_move (hA.ev rfl)) ?_)
          clear hA; intro a hA
          refine L1 (gate_off rfl (by decide) rfl hA (by decide) rfl rfl ?_); clear hA; intro a hA
          refine L1 (gate_off rfl (by decide) rfl hA (by decide) rfl rfl ?_); clear hA; intro a hA
          refine L1 (gate_off rfl (by decide) rfl hA (by decide) rfl rfl ?_); clear hA; intro a hA
          refine L1 (gate_off rfl (by decide) rfl hA (by decide) rfl rfl ?_); clear hA; intro a hA
          refine L1 (stv hA (by decide) (run_pick (hA.ev rfl) (fun h => Bool.noConfusion h) (fun _ => hA.ev rfl)) ?_)
          clear hA; intro a hA
          refine LQ ?_
          exact ⟨false, Option.some.inj H631, (hM.sel [1, 2] rfl (by decide)), ((((((((hA.nil.cons (hA.get 46 _ rfl)).cons (hA.get 27 _ rfl)).cons (hA.get 26 _ rfl)).cons (hA.get 25 _ rfl)).cons (hA.get 11 _ rfl)).cons (hA.get 10 _ rfl)).cons (hA.get 7 _ rfl)).cons (hA.get 2 _ rfl))⟩
      clear hM hA
      rintro a w635 ⟨t630, rfl, hM, hA⟩
      try dsimp only at H606
      refine TN ?_
      obtain ⟨o651, H650, H606⟩ := Option.bind_eq_some_iff.1 H606
      refine cutC (fun a w => ∃ (xs646 : (List Sample)), xs646 = o651 ∧ Mem F w0 w [.map g331 (mapE (fun x => (.agg (pHash.enc x).toArray)) (fun x => (.bool x)) mp400), .row 35 pSample.sz (.slice A422 r417.length c423) (pSample.flat xs646)] ∧ Has 54 [(2, (.int .i64 height_2)), (7, (.map (some g331))), (10, (.slice A422 r417.length c423)), (25, (.slice A422 r417.length c423)), (26, (.int .i64 ((r417.length : Nat) : Int))), (27, (.int .i64 t603))] a) ?_ ?_
      · refine tcond (b := t630) hA rfl (fun hb652 => ?_) (fun hb652 => ?_)
        · replace H650 := ite_t hb652 H650
          refine wp_region_lit ?_
          refine L1 (stv hA (by decide) (run_move (hA.ev rfl)) ?_)
          clear hA; intro a hA
          refine L1 (stv hA (by decide) (run_move (hA.ev rfl)) ?_)
          clear hA; intro a hA
          refine L1 (stv hA (by decide) (run_move (hA.ev rfl)) ?_)
          clear hA; intro a hA
          obtain ⟨⟨hi653, hj654⟩, H650⟩ := ite_some H650
          obtain ⟨ad655, hq656, hat657⟩ := Row.elem' (p := pSample) (RowOk.row (hM.row (p := pSample) (.s .z))) (RowOk.len (hM.row (p := pSample) (.s .z))) Sample.z t603 hi653 hj654
          refine L1 (stv hA (by decide) (run_idx Try.underlying28 Try.sizeOf35 (hA.ev rfl) hq656 (hA.ev rfl) hi653 hj654) ?_)
          clear hA; intro a hA
          refine L1 (stv hA (by decide) (run_field' Try.underlying35 rfl rfl Try.sizeOf3 (by decide) (hA.ev rfl)) ?_)
          clear hA; intro a hA
          refine L1 (e_setrow (x1 := (xs599.getD t603.toNat Sample.z)) (y1 := (Sample.mk ((xs599.getD t603.toNat Sample.z).ID) ((xs599.getD t603.toNat Sample.z).Class) ((xs599.getD t603.toNat Sample.z).Seen) height_2)) (off := 34) hM (.s .z) Try.sizeOf3 hA rfl rfl hq656 rfl (by first | rfl | simp [Value.cells, Pl.len]) (one_val rfl) hi653 hj654 (getD_getD _ _ _) (by decide) (Sample.spl_Confirmed _ _) ?_)
          clear hM hA; intro w658  hM hE  a hA
          refine LQ ?_
          exact ⟨(xs599.set t603.toNat (Sample.mk ((xs599.getD t603.toNat Sample.z).ID) ((xs599.getD t603.toNat Sample.z).Class) ((xs599.getD t603.toNat Sample.z).Seen) height_2)), Option.some.inj H650, hM, ((((((hA.nil.cons (hA.get 27 _ rfl)).cons (hA.get 26 _ rfl)).cons (hA.get 25 _ rfl)).cons (hA.get 10 _ rfl)).cons (hA.get 7 _ rfl)).cons (hA.get 2 _ rfl))⟩
        · replace H650 := ite_f hb652 H650
          refine wp_skip ?_
          exact ⟨xs599, Option.some.inj H650, hM, ((((((hA.nil.cons (hA.get 27 _ rfl)).cons (hA.get 26 _ rfl)).cons (hA.get 25 _ rfl)).cons (hA.get 10 _ rfl)).cons (hA.get 7 _ rfl)).cons (hA.get 2 _ rfl))⟩
      clear hM hA
      rintro a w659 ⟨xs646, rfl, hM, hA⟩
      try dsimp only at H606
      refine BN ?_
      refine TN ?_
      refine wp_region_lit ?_
      refine L1 (stv hA (by decide) (run_bin (hA.ev rfl) (hA.ev rfl) (bin_add _ _ _ _)) ?_)
      clear hA; intro a hA
      refine L1 (stv hA (by decide) (run_move (hA.ev rfl)) ?_)
      clear hA; intro a hA
      refine LQ ?_
      exact ⟨_, Nat.lt_succ_self m608, xs646, IntKind.i64.wrap (t603 + 1), H606, hM, ((((((hA.nil.cons (hA.get 27 _ rfl)).cons (hA.get 26 _ rfl)).cons (hA.get 25 _ rfl)).cons (hA.get 10 _ rfl)).cons (hA.get 7 _ rfl)).cons (hA.get 2 _ rfl))⟩
    · replace H606 := ite_f hb610 H606
      refine wp_exit ?_
      refine TX ?_
      refine TX ?_
      refine BX ?_
      exact ⟨xs599, Option.some.inj H606, (hM.sel [1] rfl (by decide)), (hA.nil.cons (hA.get 10 _ rfl))⟩
  clear hM hA
  rintro a w660 ⟨xs605, rfl, hM, hA⟩
  try dsimp only at H
  refine TN ?_
  refine wp_seq ?_
  refine wp_region_lit ?_
  refine L1 (stv hA (by decide) (run_move (hA.ev rfl)) ?_)
  clear hA; intro a hA
  refine L1 (stv hA (by decide) (run_assign (hA.ev rfl)) ?_)
  clear hA; intro a hA
  refine LQ ?_
  refine TN ?_
  refine wp_ret ?_
  obtain rfl := Option.some.inj H
  exact ret_post1 (fn := Try.f19) hA rfl rfl ⟨_, rfl, (.slice A422 r417.length c423), rfl, hM⟩

end Go.Proofs.Ytjdahineeoofiaa.G
