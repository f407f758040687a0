/- The functions that a law of this seat reaches: what each comes to, as a plain function, and that its code comes to it. Conditions: the plain function gives a value (enough fuel, no panic). -/
import Derived.Test.YtnhgfdinnbadeaaFRelayEndsx2
set_option linter.unusedVariables false
set_option linter.unusedSimpArgs false
namespace Go.Proofs.Ytnhgfdinnbadeaa.G
open Go Go.RowKit Go.Proofs
def ref40_Copied.f (k : Nat) (r_0 : Relay) : Option Relay := (if (0 + r_0.Routes.length) * 8 ≤ 140737488355328 then (if (0 + r_0.Stems.length) * 56 ≤ 140737488355328 then (if (0 + r_0.Fluffed.length) * 32 ≤ 140737488355328 then (some (Relay.mk r_0.Epoch r_0.Diffuse (([] : List Int) ++ r_0.Routes) (([] : List Stem) ++ r_0.Stems) (([] : List (Vector Int 32)) ++ r_0.Fluffed))) else none) else none) else none)
set_option maxHeartbeats 2000000 in
set_option maxRecDepth 100000 in
theorem ref40_Copied.calls (k : Nat) (r_0 : Relay) (F : List (Option Nat)) (v0_2 : Value) (v0_3 : Value) (v0_4 : Value) (r : Relay) (w0 : World) (h0_2 : RoV F (Pl.int .i64) w0 v0_2 r_0.Routes) (h0_3 : RoV F pStem w0 v0_3 r_0.Stems) (h0_4 : RoV F pHash w0 v0_4 r_0.Fluffed) (hM : Mem F w0 w0 []) (H : ref40_Copied.f k r_0 = some r) :
    Calls Try.prog 29 #[(.agg #[(.int .u32 r_0.Epoch), (.bool r_0.Diffuse), v0_2, v0_3, v0_4])] w0 fun e w' => ∃ v, e = .returned v ∧ ∃ (ur_0_2 : Value) (ur_0_3 : Value) (ur_0_4 : Value), v = (.agg #[(.int .u32 r.Epoch), (.bool r.Diffuse), ur_0_2, ur_0_3, ur_0_4]) ∧ Mem F w0 w' [.row 3 (Pl.int .i64).sz ur_0_2 ((Pl.int .i64).flat r.Routes), .row 61 pStem.sz ur_0_3 (pStem.flat r.Stems), .row 34 pHash.sz ur_0_4 (pHash.flat r.Fluffed)] := by
  unfold ref40_Copied.f at H
  obtain ⟨A0_2, c0_2, rfl, hr0_2, hc0_2⟩ := h0_2
  obtain ⟨A0_3, c0_3, rfl, hr0_3, hc0_3⟩ := h0_3
  obtain ⟨A0_4, c0_4, rfl, hr0_4, hc0_4⟩ := h0_4
  refine enterL (n := 19) [(.agg #[(.int .u32 r_0.Epoch), (.bool r_0.Diffuse), (.slice A0_2 r_0.Routes.length c0_2), (.slice A0_3 r_0.Stems.length c0_3), (.slice A0_4 r_0.Fluffed.length c0_4)])] Try.func29 rfl rfl rfl ?_
  intro a hA
  refine wp_seq ?_
  refine wp_region_lit ?_
  refine L1 (e_box (cs := [(.int .u32 r_0.Epoch), (.bool r_0.Diffuse), (.slice A0_2 r_0.Routes.length c0_2), (.slice A0_3 r_0.Stems.length c0_3), (.slice A0_4 r_0.Fluffed.length c0_4)]) hM hA rfl rfl (by decide) ?_)
  clear hM hA; intro w33 g32 hM hE  a hA
  refine L1 (e_alloc (cs := [(.int .u32 0), (.bool false), (.slice none 0 0), (.slice none 0 0), (.slice none 0 0)]) hM zero39 rfl hA (by decide) ?_)
  clear hM hA; intro w36 g35 hM hE  a hA
  refine LQ ?_
  refine TN ?_
  refine wp_seq ?_
  refine wp_region_lit ?_
  refine L1 (e_lit0 elt22 hM hA (by decide) ?_)
  clear hM hA; intro w39 g38 hM hE  a hA
  refine L1 (stv hA (by decide) (run_field' Try.underlying39 rfl rfl Try.sizeOf22 (by decide) (hA.ev rfl)) ?_)
  clear hA; intro a hA
  refine L1 (stv hA (by decide) (run_ld (hA.ev rfl) (run_loadS Try.isAgg22 (At.seg1 (hM.box (.s (.s .z))) 2 rfl))) ?_)
  clear hA; intro a hA
  obtain ⟨hl43, H⟩ := ite_some H
  refine L1 (e_append elt22 hM (fun _ => .z) (Src.row Try.underlying22 (hM.ro hr0_2) (Eq.refl r_0.Routes.length)) hl43 hA rfl rfl (by decide) ?_)
  clear hM hA; intro w44 A41 c42 hM hE  a hA
  refine L1 (stv hA (by decide) (run_field' Try.underlying39 rfl rfl Try.sizeOf22 (by decide) (hA.ev rfl)) ?_)
  clear hA; intro a hA
  refine L1 (e_store (g := g32) (off := 2) (cur := [(.int .u32 r_0.Epoch), (.bool r_0.Diffuse), (.slice A0_2 r_0.Routes.length c0_2), (.slice A0_3 r_0.Stems.length c0_3), (.slice A0_4 r_0.Fluffed.length c0_4)]) (cs' := [(.int .u32 r_0.Epoch), (.bool r_0.Diffuse), (.slice A41 (0 + r_0.Routes.length) c42), (.slice A0_3 r_0.Stems.length c0_3), (.slice A0_4 r_0.Fluffed.length c0_4)]) hM (.s (.s .z)) Try.sizeOf22 hA rfl (by simp [add_mk]) rfl (by first | rfl | simp [Value.cells, Pl.len]) (one_val rfl) (by first | exact Nat.le_of_ble_eq_true rfl | (simp [Pl.len]; done)) (rfl) ?_)
  clear hM hA; intro w45  hM hE  a hA
  refine LQ ?_
  refine TN ?_
  refine wp_seq ?_
  refine wp_region_lit ?_
  refine L1 (e_lit0 elt36 hM hA (by decide) ?_)
  clear hM hA; intro w47 g46 hM hE  a hA
  refine L1 (stv hA (by decide) (run_field' Try.underlying39 rfl rfl Try.sizeOf36 (by decide) (hA.ev rfl)) ?_)
  clear hA; intro a hA
  refine L1 (stv hA (by decide) (run_ld (hA.ev rfl) (run_loadS Try.isAgg36 (At.seg1 (hM.box (.s (.s (.s .z)))) 3 rfl))) ?_)
  clear hA; intro a hA
  obtain ⟨hl51, H⟩ := ite_some H
  refine L1 (e_append elt36 hM (fun _ => .z) (Src.row Try.underlying36 (hM.ro hr0_3) (Eq.refl r_0.Stems.length)) hl51 hA rfl rfl (by decide) ?_)
  clear hM hA; intro w52 A49 c50 hM hE  a hA
  refine L1 (stv hA (by decide) (run_field' Try.underlying39 rfl rfl Try.sizeOf36 (by decide) (hA.ev rfl)) ?_)
  clear hA; intro a hA
  refine L1 (e_store (g := g32) (off := 3) (cur := [(.int .u32 r_0.Epoch), (.bool r_0.Diffuse), (.slice A41 (0 + r_0.Routes.length) c42), (.slice A0_3 r_0.Stems.length c0_3), (.slice A0_4 r_0.Fluffed.length c0_4)]) (cs' := [(.int .u32 r_0.Epoch), (.bool r_0.Diffuse), (.slice A41 (0 + r_0.Routes.length) c42), (.slice A49 (0 + r_0.Stems.length) c50), (.slice A0_4 r_0.Fluffed.length c0_4)]) hM (.s (.s (.s .z))) Try.sizeOf36 hA rfl (by simp [add_mk]) rfl (by first | rfl | simp [Value.cells, Pl.len]) (one_val rfl) (by first | exact Nat.le_of_ble_eq_true rfl | (simp [Pl.len]; done)) (rfl) ?_)
  clear hM hA; intro w53  hM hE  a hA
  refine LQ ?_
  refine TN ?_
  refine wp_seq ?_
  refine wp_region_lit ?_
  refine L1 (e_lit0 elt37 hM hA (by decide) ?_)
  clear hM hA; intro w55 g54 hM hE  a hA
  refine L1 (stv hA (by decide) (run_field' Try.underlying39 rfl rfl Try.sizeOf37 (by decide) (hA.ev rfl)) ?_)
  clear hA; intro a hA
  refine L1 (stv hA (by decide) (run_ld (hA.ev rfl) (run_loadS Try.isAgg37 (At.seg1 (hM.box (.s (.s (.s (.s .z))))) 4 rfl))) ?_)
  clear hA; intro a hA
  obtain ⟨hl59, H⟩ := ite_some H
  refine L1 (e_append elt37 hM (fun _ => .z) (Src.row Try.underlying37 (hM.ro hr0_4) (Eq.refl r_0.Fluffed.length)) hl59 hA rfl rfl (by decide) ?_)
  clear hM hA; intro w60 A57 c58 hM hE  a hA
  refine L1 (stv hA (by decide) (run_field' Try.underlying39 rfl rfl Try.sizeOf37 (by decide) (hA.ev rfl)) ?_)
  clear hA; intro a hA
  refine L1 (e_store (g := g32) (off := 4) (cur := [(.int .u32 r_0.Epoch), (.bool r_0.Diffuse), (.slice A41 (0 + r_0.Routes.length) c42), (.slice A49 (0 + r_0.Stems.length) c50), (.slice A0_4 r_0.Fluffed.length c0_4)]) (cs' := [(.int .u32 r_0.Epoch), (.bool r_0.Diffuse), (.slice A41 (0 + r_0.Routes.length) c42), (.slice A49 (0 + r_0.Stems.length) c50), (.slice A57 (0 + r_0.Fluffed.length) c58)]) hM (.s (.s (.s (.s .z)))) Try.sizeOf37 hA rfl (by simp [add_mk]) rfl (by first | rfl | simp [Value.cells, Pl.len]) (one_val rfl) (by first | exact Nat.le_of_ble_eq_true rfl | (simp [Pl.len]; done)) (rfl) ?_)
  clear hM hA; intro w61  hM hE  a hA
  refine LQ ?_
  refine TN ?_
  refine wp_seq ?_
  refine wp_region_lit ?_
  refine L1 (stv hA (by decide) (run_ld (hA.ev rfl) (run_loadW Try.isAgg39 Try.sizeOf39 (by simp [Pl.len]; try rfl) (hM.box (.s (.s (.s (.s .z))))))) ?_)
  clear hA; intro a hA
  refine L1 (e_store (g := g35) (off := 0) (cur := [(.int .u32 0), (.bool false), (.slice none 0 0), (.slice none 0 0), (.slice none 0 0)]) (cs' := [(.int .u32 r_0.Epoch), (.bool r_0.Diffuse), (.slice A41 (0 + r_0.Routes.length) c42), (.slice A49 (0 + r_0.Stems.length) c50), (.slice A57 (0 + r_0.Fluffed.length) c58)]) hM (.s (.s (.s .z))) Try.sizeOf39 hA rfl (by simp [add_mk]) rfl (by first | rfl | simp [Value.cells, Pl.len]) (by simp [Value.cells, Value.oneCell']) (by first | exact Nat.le_of_ble_eq_true rfl | (simp [Pl.len]; done)) (spl_all (by first | rfl | simp [Value.cells, Pl.len])) ?_)
  clear hM hA; intro w62  hM hE  a hA
  refine LQ ?_
  refine TN ?_
  refine wp_ret ?_
  obtain rfl := Option.some.inj H
  exact ret_cell (fn := Try.f29) hA rfl rfl (run_loadW Try.isAgg39 Try.sizeOf39 (by simp [Pl.len]; try rfl) (hM.box (.s (.s (.s .z))))) ⟨_, rfl, (.slice A41 (0 + r_0.Routes.length) c42), (.slice A49 (0 + r_0.Stems.length) c50), (.slice A57 (0 + r_0.Fluffed.length) c58), rfl, (hM.sel [2, 1, 0] rfl (by decide))⟩

def ref40_has.l0 (l_0 : (List (Vector Int 32))) (id_1 : (Vector Int 32)) : Nat → Int → Option (Out Bool (Unit))
  | 0, _ => none
  | k + 1, i104 => (if (decide (i104 < ((l_0.length : Nat) : Int))) = true then (if 0 ≤ i104 ∧ i104 < ((l_0.length : Nat) : Int) then (if ((l_0.getD i104.toNat (Vector.replicate 32 0 : Vector Int 32)) == id_1) = true then (some (.ret true)) else (ref40_has.l0 l_0 id_1 k (IntKind.i64.wrap (i104 + 1)))) else none) else (some (.go ())))
def ref40_has.f (k : Nat) (l_0 : (List (Vector Int 32))) (id_1 : (Vector Int 32)) : Option Bool := (Option.bind (α := Out Bool (Unit)) (ref40_has.l0 l_0 id_1 k 0) (fun o => match o with | .ret r => some r | .go _ => (some false)))
set_option maxHeartbeats 2000000 in
set_option maxRecDepth 100000 in
theorem ref40_has.calls (k : Nat) (l_0 : (List (Vector Int 32))) (id_1 : (Vector Int 32)) (F : List (Option Nat)) (v0 : Value) (r : Bool) (w0 : World) (h0 : RoV F pHash w0 v0 l_0) (hM : Mem F w0 w0 []) (H : ref40_has.f k l_0 id_1 = some r) :
    Calls Try.prog 36 #[v0, (.agg (pHash.enc id_1).toArray)] w0 fun e w' => ∃ v, e = .returned v ∧ v = (.bool r) ∧ Mem F w0 w' [] := by
  unfold ref40_has.f at H
  obtain ⟨A0, c0, rfl, hr0, hc0⟩ := h0
  refine enterL (n := 18) [(.slice A0 l_0.length c0), (.agg (pHash.enc id_1).toArray)] Try.func36 rfl rfl rfl ?_
  intro a hA
  refine wp_seq ?_
  refine wp_region_lit ?_
  refine L1 (e_box (cs := (pHash.enc id_1)) hM hA rfl rfl (by decide) ?_)
  clear hM hA; intro w61 g60 hM hE  a hA
  refine L1 (stv hA (by decide) (run_assign (hA.ev rfl)) ?_)
  clear hA; intro a hA
  refine LQ ?_
  refine TN ?_
  refine wp_seq ?_
  refine wp_seq ?_
  refine wp_region_lit ?_
  refine L1 (stv hA (by decide) (run_assign (hA.ev rfl)) ?_)
  clear hA; intro a hA
  refine LQ ?_
  refine TN ?_
  obtain ⟨o106, H105, H⟩ := Option.bind_eq_some_iff.1 H
  refine cutC (fun a w => (.go ()) = o106 ∧ Mem F w0 w [] ∧ Has 18 [] a) ?_ ?_
  · refine wp_block ?_
    refine wp_loop_ghost (fun m a w => ∃ (i104 : Int), ref40_has.l0 l_0 id_1 m i104 = some o106 ∧ Mem F w0 w [.box g60 34 (pHash.enc id_1)] ∧ Has 18 [(0, (.slice A0 l_0.length c0)), (3, (.pointer (some (⟨g60, 0, none⟩)))), (5, (.int .i64 i104))] a) k ⟨0, H105, hM, (((hA.nil.cons (hA.get 5 _ rfl)).cons (hA.get 3 _ rfl)).cons (hA.get 0 _ rfl))⟩ ?_
    clear hM hA; rintro m107 a w108 ⟨i104, H105, hM, hA⟩
    cases m107 with
    | zero => exact absurd H105 (by simp [ref40_has.l0])
    | succ m107 =>
    rw [ref40_has.l0] at H105
    refine wp_seq ?_
    refine wp_seq ?_
    refine wp_region_lit ?_
    refine L1 (stv hA (by decide) (run_move (hA.ev rfl)) ?_)
    clear hA; intro a hA
    refine L1 (stv hA (by decide) (run_move (hA.ev rfl)) ?_)
    clear hA; intro a hA
    refine L1 (stv hA (by decide) (run_len_slice Try.underlying37 (hA.ev rfl)) ?_)
    clear hA; intro a hA
    refine L1 (stv hA (by decide) (run_bin (hA.ev rfl) (hA.ev rfl) (bin_lss _ _ _ _)) ?_)
    clear hA; intro a hA
    refine LQ ?_
    refine TN ?_
    refine tcond (b := (decide (i104 < ((l_0.length : Nat) : Int)))) hA rfl (fun hb109 => ?_) (fun hb109 => ?_)
    · replace H105 := ite_t hb109 H105
      refine wp_skip ?_
      refine TN ?_
      refine wp_seq ?_
      refine wp_block ?_
      refine wp_seq ?_
      refine draw (fun w' => Below w108.heap.size w108 w') [] rfl ?_
      intro w110 hw hS; replace hM := hM.ext hS; clear hw
      refine d_takef (i := 0) (L' := #[true, false, false, false, false, false]) rfl (by kernel_rfl) rfl (fun _ _ _ h => h) hA (by decide) (fun _ => hS) (fun a w' hA => run_move (hA.ev rfl)) ?_; clear hA; intro a hA
      refine d_takef (i := 1) (L' := #[true, true, false, false, false, false]) rfl (by kernel_rfl) rfl (fun _ _ _ h => h) hA (by decide) (fun _ => hS) (fun a w' hA => run_move (hA.ev rfl)) ?_; clear hA; intro a hA
      obtain ⟨⟨hi112, hj113⟩, H105⟩ := ite_some H105
      obtain ⟨ad114, hq115, hat116⟩ := Row.elem' (p := pHash) (hM.ro hr0) (Eq.refl l_0.length) (Vector.replicate 32 0 : Vector Int 32) i104 hi112 hj113
      refine d_takef (i := 2) (L' := #[true, true, true, false, false, false]) rfl (by kernel_rfl) rfl (fun _ _ _ h => h) hA (by decide) (fun _ => hS) (fun a w' hA => run_idx Try.underlying37 Try.sizeOf34 (hA.ev rfl) hq115 (hA.ev rfl) hi112 hj113) ?_; clear hA; intro a hA
      refine rebase hS ?_; clear hS; intro hS
      refine d_take (i := 3) (L' := #[true, true, true, true, false, false]) rfl (by kernel_rfl) rfl (fun _ _ _ h => h) hA (by decide) rfl hS (fun a w' hA hS' => run_ld (hA.ev rfl) (run_loadP Try.isAgg34 Try.sizeOf34 ((hat116).extB hS'))) ?_; clear hA; intro a hA
      refine d_take (i := 4) (L' := #[true, true, true, true, true, false]) rfl (by kernel_rfl) rfl (fun _ _ _ h => h) hA (by decide) rfl hS (fun a w' hA hS' => run_ld (hA.ev rfl) (run_loadP Try.isAgg34 Try.sizeOf34 ((hM.box .z).extB hS'))) ?_; clear hA; intro a hA
      refine d_takef (i := 5) (L' := #[true, true, true, true, true, true]) rfl (by kernel_rfl) rfl (fun _ _ _ h => h) hA (by decide) (fun _ => hS) (fun a w' hA => run_aggeql eq_Hash rfl (by kernel_rfl) (hA.ev rfl) (hA.ev rfl)) ?_; clear hA; intro a hA
      refine d_done (by kernel_rfl) ?_
      refine TN ?_
      refine tcond (b := ((l_0.getD i104.toNat (Vector.replicate 32 0 : Vector Int 32)) == id_1)) hA rfl (fun hb117 => ?_) (fun hb117 => ?_)
      · replace H105 := ite_t hb117 H105
        refine wp_seq ?_
        refine wp_region_lit ?_
        refine L1 (stv hA (by decide) (run_assign (hA.ev rfl)) ?_)
        clear hA; intro a hA
        refine LQ ?_
        refine TN ?_
        refine wp_ret ?_
        obtain rfl := Option.some.inj H105
        dsimp only at H
        obtain rfl := Option.some.inj H
        refine BR ?_
        refine TR ?_
        refine TR ?_
        refine BR ?_
        refine TR ?_
        refine TR ?_
        exact ret_post1 (fn := Try.f36) hA rfl rfl ⟨_, rfl, rfl, (hM.sel [] rfl (by decide))⟩
      · replace H105 := ite_f hb117 H105
        refine wp_skip ?_
        refine BN ?_
        refine TN ?_
        refine wp_region_lit ?_
        refine L1 (stv hA (by decide) (run_move (hA.ev rfl)) ?_)
        clear hA; intro a hA
        refine L1 (stv hA (by decide) (run_bin (hA.ev rfl) (hA.ev rfl) (bin_add _ _ _ _)) ?_)
        clear hA; intro a hA
        refine L1 (stv hA (by decide) (run_assign (hA.ev rfl)) ?_)
        clear hA; intro a hA
        refine LQ ?_
        exact ⟨_, Nat.lt_succ_self m107, IntKind.i64.wrap (i104 + 1), H105, hM, (((hA.nil.cons (hA.get 5 _ rfl)).cons (hA.get 3 _ rfl)).cons (hA.get 0 _ rfl))⟩
    · replace H105 := ite_f hb109 H105
      refine wp_exit ?_
      refine TX ?_
      refine TX ?_
      refine BX ?_
      exact ⟨Option.some.inj H105, (hM.sel [] rfl (by decide)), hA.nil⟩
  clear hM hA
  rintro a w118 ⟨rfl, hM, hA⟩
  try dsimp only at H
  refine TN ?_
  refine wp_seq ?_
  refine wp_region_lit ?_
  refine L1 (stv hA (by decide) (run_assign (hA.ev rfl)) ?_)
  clear hA; intro a hA
  refine LQ ?_
  refine TN ?_
  refine wp_ret ?_
  obtain rfl := Option.some.inj H
  exact ret_post1 (fn := Try.f36) hA rfl rfl ⟨_, rfl, rfl, hM⟩

def ref40_find.l0 (l_0 : (List Stem)) (id_1 : (Vector Int 32)) : Nat → Int → Option (Out Int (Unit))
  | 0, _ => none
  | k + 1, i104 => (if (decide (i104 < ((l_0.length : Nat) : Int))) = true then (if 0 ≤ i104 ∧ i104 < ((l_0.length : Nat) : Int) then (if (((l_0.getD i104.toNat Stem.z).ID) == id_1) = true then (some (.ret i104)) else (ref40_find.l0 l_0 id_1 k (IntKind.i64.wrap (i104 + 1)))) else none) else (some (.go ())))
def ref40_find.f (k : Nat) (l_0 : (List Stem)) (id_1 : (Vector Int 32)) : Option Int := (Option.bind (α := Out Int (Unit)) (ref40_find.l0 l_0 id_1 k 0) (fun o => match o with | .ret r => some r | .go _ => (some (-1))))
set_option maxHeartbeats 2000000 in
set_option maxRecDepth 100000 in
theorem ref40_find.calls (k : Nat) (l_0 : (List Stem)) (id_1 : (Vector Int 32)) (F : List (Option Nat)) (v0 : Value) (r : Int) (w0 : World) (h0 : RoV F pStem w0 v0 l_0) (hM : Mem F w0 w0 []) (H : ref40_find.f k l_0 id_1 = some r) :
    Calls Try.prog 37 #[v0, (.agg (pHash.enc id_1).toArray)] w0 fun e w' => ∃ v, e = .returned v ∧ v = (.int .i64 r) ∧ Mem F w0 w' [] := by
  unfold ref40_find.f at H
  obtain ⟨A0, c0, rfl, hr0, hc0⟩ := h0
  refine enterL (n := 20) [(.slice A0 l_0.length c0), (.agg (pHash.enc id_1).toArray)] Try.func37 rfl rfl rfl ?_
  intro a hA
  refine wp_seq ?_
  refine wp_region_lit ?_
  refine L1 (e_box (cs := (pHash.enc id_1)) hM hA rfl rfl (by decide) ?_)
  clear hM hA; intro w61 g60 hM hE  a hA
  refine L1 (stv hA (by decide) (run_assign (hA.ev rfl)) ?_)
  clear hA; intro a hA
  refine LQ ?_
  refine TN ?_
  refine wp_seq ?_
  refine wp_seq ?_
  refine wp_region_lit ?_
  refine L1 (stv hA (by decide) (run_assign (hA.ev rfl)) ?_)
  clear hA; intro a hA
  refine LQ ?_
  refine TN ?_
  obtain ⟨o106, H105, H⟩ := Option.bind_eq_some_iff.1 H
  refine cutC (fun a w => (.go ()) = o106 ∧ Mem F w0 w [] ∧ Has 20 [] a) ?_ ?_
  · refine wp_block ?_
    refine wp_loop_ghost (fun m a w => ∃ (i104 : Int), ref40_find.l0 l_0 id_1 m i104 = some o106 ∧ Mem F w0 w [.box g60 34 (pHash.enc id_1)] ∧ Has 20 [(0, (.slice A0 l_0.length c0)), (3, (.pointer (some (⟨g60, 0, none⟩)))), (5, (.int .i64 i104))] a) k ⟨0, H105, hM, (((hA.nil.cons (hA.get 5 _ rfl)).cons (hA.get 3 _ rfl)).cons (hA.get 0 _ rfl))⟩ ?_
    clear hM hA; rintro m107 a w108 ⟨i104, H105, hM, hA⟩
    cases m107 with
    | zero => exact absurd H105 (by simp [ref40_find.l0])
    | succ m107 =>
    rw [ref40_find.l0] at H105
    refine wp_seq ?_
    refine wp_seq ?_
    refine wp_region_lit ?_
    refine L1 (stv hA (by decide) (run_move (hA.ev rfl)) ?_)
    clear hA; intro a hA
    refine L1 (stv hA (by decide) (run_move (hA.ev rfl)) ?_)
    clear hA; intro a hA
    refine L1 (stv hA (by decide) (run_len_slice Try.underlying36 (hA.ev rfl)) ?_)
    clear hA; intro a hA
    refine L1 (stv hA (by decide) (run_bin (hA.ev rfl) (hA.ev rfl) (bin_lss _ _ _ _)) ?_)
    clear hA; intro a hA
    refine LQ ?_
    refine TN ?_
    refine tcond (b := (decide (i104 < ((l_0.length : Nat) : Int)))) hA rfl (fun hb109 => ?_) (fun hb109 => ?_)
    · replace H105 := ite_t hb109 H105
      refine wp_skip ?_
      refine TN ?_
      refine wp_seq ?_
      refine wp_block ?_
      refine wp_seq ?_
      refine draw (fun w' => Below w108.heap.size w108 w') [] rfl ?_
      intro w110 hw hS; replace hM := hM.ext hS; clear hw
      refine d_takef (i := 0) (L' := #[true, false, false, false, false, false, false]) rfl (by kernel_rfl) rfl (fun _ _ _ h => h) hA (by decide) (fun _ => hS) (fun a w' hA => run_move (hA.ev rfl)) ?_; clear hA; intro a hA
      refine d_takef (i := 1) (L' := #[true, true, false, false, false, false, false]) rfl (by kernel_rfl) rfl (fun _ _ _ h => h) hA (by decide) (fun _ => hS) (fun a w' hA => run_move (hA.ev rfl)) ?_; clear hA; intro a hA
      obtain ⟨⟨hi112, hj113⟩, H105⟩ := ite_some H105
      obtain ⟨ad114, hq115, hat116⟩ := Row.elem' (p := pStem) (hM.ro hr0) (Eq.refl l_0.length) Stem.z i104 hi112 hj113
      refine d_takef (i := 2) (L' := #[true, true, true, false, false, false, false]) rfl (by kernel_rfl) rfl (fun _ _ _ h => h) hA (by decide) (fun _ => hS) (fun a w' hA => run_idx Try.underlying36 Try.sizeOf61 (hA.ev rfl) hq115 (hA.ev rfl) hi112 hj113) ?_; clear hA; intro a hA
      refine d_takef (i := 3) (L' := #[true, true, true, true, false, false, false]) rfl (by kernel_rfl) rfl (fun _ _ _ h => h) hA (by decide) (fun _ => hS) (fun a w' hA => run_field' Try.underlying61 rfl rfl Try.sizeOf34 (by decide) (hA.ev rfl)) ?_; clear hA; intro a hA
      refine rebase hS ?_; clear hS; intro hS
      refine d_take (i := 4) (L' := #[true, true, true, true, true, false, false]) rfl (by kernel_rfl) rfl (fun _ _ _ h => h) hA (by decide) rfl hS (fun a w' hA hS' => run_ld (hA.ev rfl) (run_loadP Try.isAgg34 Try.sizeOf34 ((Stem.at_ID (hat116)).extB hS'))) ?_; clear hA; intro a hA
      refine d_take (i := 5) (L' := #[true, true, true, true, true, true, false]) rfl (by kernel_rfl) rfl (fun _ _ _ h => h) hA (by decide) rfl hS (fun a w' hA hS' => run_ld (hA.ev rfl) (run_loadP Try.isAgg34 Try.sizeOf34 ((hM.box .z).extB hS'))) ?_; clear hA; intro a hA
      refine d_takef (i := 6) (L' := #[true, true, true, true, true, true, true]) rfl (by kernel_rfl) rfl (fun _ _ _ h => h) hA (by decide) (fun _ => hS) (fun a w' hA => run_aggeql eq_Hash rfl (by kernel_rfl) (hA.ev rfl) (hA.ev rfl)) ?_; clear hA; intro a hA
      refine d_done (by kernel_rfl) ?_
      refine TN ?_
      refine tcond (b := (((l_0.getD i104.toNat Stem.z).ID) == id_1)) hA rfl (fun hb117 => ?_) (fun hb117 => ?_)
      · replace H105 := ite_t hb117 H105
        refine wp_seq ?_
        refine wp_region_lit ?_
        refine L1 (stv hA (by decide) (run_move (hA.ev rfl)) ?_)
        clear hA; intro a hA
        refine L1 (stv hA (by decide) (run_assign (hA.ev rfl)) ?_)
        clear hA; intro a hA
        refine LQ ?_
        refine TN ?_
        refine wp_ret ?_
        obtain rfl := Option.some.inj H105
        dsimp only at H
        obtain rfl := Option.some.inj H
        refine BR ?_
        refine TR ?_
        refine TR ?_
        refine BR ?_
        refine TR ?_
        refine TR ?_
        exact ret_post1 (fn := Try.f37) hA rfl rfl ⟨_, rfl, rfl, (hM.sel [] rfl (by decide))⟩
      · replace H105 := ite_f hb117 H105
        refine wp_skip ?_
        refine BN ?_
        refine TN ?_
        refine wp_region_lit ?_
        refine L1 (stv hA (by decide) (run_move (hA.ev rfl)) ?_)
        clear hA; intro a hA
        refine L1 (stv hA (by decide) (run_bin (hA.ev rfl) (hA.ev rfl) (bin_add _ _ _ _)) ?_)
        clear hA; intro a hA
        refine L1 (stv hA (by decide) (run_assign (hA.ev rfl)) ?_)
        clear hA; intro a hA
        refine LQ ?_
        exact ⟨_, Nat.lt_succ_self m107, IntKind.i64.wrap (i104 + 1), H105, hM, (((hA.nil.cons (hA.get 5 _ rfl)).cons (hA.get 3 _ rfl)).cons (hA.get 0 _ rfl))⟩
    · replace H105 := ite_f hb109 H105
      refine wp_exit ?_
      refine TX ?_
      refine TX ?_
      refine BX ?_
      exact ⟨Option.some.inj H105, (hM.sel [] rfl (by decide)), hA.nil⟩
  clear hM hA
  rintro a w118 ⟨rfl, hM, hA⟩
  try dsimp only at H
  refine TN ?_
  refine wp_seq ?_
  refine wp_region_lit ?_
  refine L1 (stv hA (by decide) (run_assign (hA.ev rfl)) ?_)
  clear hA; intro a hA
  refine LQ ?_
  refine TN ?_
  refine wp_ret ?_
  obtain rfl := Option.some.inj H
  exact ret_post1 (fn := Try.f37) hA rfl rfl ⟨_, rfl, rfl, hM⟩

def ref40_Sound.l0 (r_0 : Relay) : Nat → Int → Option (Out Bool (Unit))
  | 0, _ => none
  | k + 1, i618 => (if (decide (i618 < ((r_0.Routes.length : Nat) : Int))) = true then (Option.bind (α := Bool) (if 0 ≤ i618 ∧ i618 < ((r_0.Routes.length : Nat) : Int) then (if (decide ((r_0.Routes.getD i618.toNat (0 : Int)) < 0)) = true then (some true) else (if (decide (i618 > 0)) = true then (if 0 ≤ (0 : Int) ∧ (0 : Int) < ((r_0.Routes.length : Nat) : Int) then (if 0 ≤ (1 : Int) ∧ (1 : Int) < ((r_0.Routes.length : Nat) : Int) then (some ((r_0.Routes.getD (0 : Int).toNat (0 : Int)) == (r_0.Routes.getD (1 : Int).toNat (0 : Int)))) else none) else none) else (some false))) else none) (fun t647 => (if t647 = true then (some (.ret false)) else (ref40_Sound.l0 r_0 k (IntKind.i64.wrap (i618 + 1)))))) else (some (.go ())))
def ref40_Sound.l1 (r_0 : Relay) : Nat → Int → Option (Out Bool (Unit))
  | 0, _ => none
  | k + 1, i724 => (if (decide (i724 < ((r_0.Fluffed.length : Nat) : Int))) = true then (if 0 ≤ i724 ∧ i724 ≤ ((r_0.Fluffed.length : Nat) : Int) then (if 0 ≤ i724 ∧ i724 < ((r_0.Fluffed.length : Nat) : Int) then ((ref40_has.f k (r_0.Fluffed.take i724.toNat) (r_0.Fluffed.getD i724.toNat (Vector.replicate 32 0 : Vector Int 32))).bind fun r740 => (if r740 = true then (some (.ret false)) else (ref40_Sound.l1 r_0 k (IntKind.i64.wrap (i724 + 1))))) else none) else none) else (some (.go ())))
def ref40_Sound.l2 (r_0 : Relay) : Nat → Int → Option (Out Bool (Unit))
  | 0, _ => none
  | k + 1, i896 => (if (decide (i896 < ((r_0.Stems.length : Nat) : Int))) = true then (Option.bind (α := Bool) (if 0 ≤ i896 ∧ i896 < ((r_0.Stems.length : Nat) : Int) then ((ref40_find.f k r_0.Stems ((r_0.Stems.getD i896.toNat Stem.z).ID)).bind fun r934 => (if (r934 != i896) = true then (some true) else (if 0 ≤ i896 ∧ i896 < ((r_0.Stems.length : Nat) : Int) then ((ref40_has.f k r_0.Fluffed ((r_0.Stems.getD i896.toNat Stem.z).ID)).bind fun r943 => (some r943)) else none))) else none) (fun t924 => (if t924 = true then (some (.ret false)) else (ref40_Sound.l2 r_0 k (IntKind.i64.wrap (i896 + 1)))))) else (some (.go ())))
def ref40_Sound.f (k : Nat) (r_0 : Relay) : Option Bool := (Option.bind (α := Bool) (if (decide (((r_0.Routes.length : Nat) : Int) > 2)) = true then (some true) else (if (decide (((r_0.Stems.length : Nat) : Int) > 64)) = true then (some true) else (some (decide (((r_0.Fluffed.length : Nat) : Int) > 2048))))) (fun t482 => (if t482 = true then (some false) else (Option.bind (α := Out Bool (Unit)) (ref40_Sound.l0 r_0 k 0) (fun o => match o with | .ret r => some r | .go _ => (Option.bind (α := Out Bool (Unit)) (ref40_Sound.l1 r_0 k 0) (fun o => match o with | .ret r => some r | .go _ => (Option.bind (α := Out Bool (Unit)) (ref40_Sound.l2 r_0 k 0) (fun o => match o with | .ret r => some r | .go _ => (some true))))))))))
set_option maxHeartbeats 2000000 in
set_option maxRecDepth 100000 in
theorem ref40_Sound.calls (k : Nat) (r_0 : Relay) (F : List (Option Nat)) (v0_2 : Value) (v0_3 : Value) (v0_4 : Value) (r : Bool) (w0 : World) (h0_2 : RoV F (Pl.int .i64) w0 v0_2 r_0.Routes) (h0_3 : RoV F pStem w0 v0_3 r_0.Stems) (h0_4 : RoV F pHash w0 v0_4 r_0.Fluffed) (hM : Mem F w0 w0 []) (H : ref40_Sound.f k r_0 = some r) :
    Calls Try.prog 35 #[(.agg #[(.int .u32 r_0.Epoch), (.bool r_0.Diffuse), v0_2, v0_3, v0_4])] w0 fun e w' => ∃ v, e = .returned v ∧ v = (.bool r) ∧ Mem F w0 w' [] := by
  unfold ref40_Sound.f at H
  obtain ⟨A0_2, c0_2, rfl, hr0_2, hc0_2⟩ := h0_2
  obtain ⟨A0_3, c0_3, rfl, hr0_3, hc0_3⟩ := h0_3
  obtain ⟨A0_4, c0_4, rfl, hr0_4, hc0_4⟩ := h0_4
  refine enterL (n := 96) [(.agg #[(.int .u32 r_0.Epoch), (.bool r_0.Diffuse), (.slice A0_2 r_0.Routes.length c0_2), (.slice A0_3 r_0.Stems.length c0_3), (.slice A0_4 r_0.Fluffed.length c0_4)])] Try.func35 rfl rfl rfl ?_
  intro a hA
  refine wp_seq ?_
  refine wp_region_lit ?_
  refine L1 (e_box (cs := [(.int .u32 r_0.Epoch), (.bool r_0.Diffuse), (.slice A0_2 r_0.Routes.length c0_2), (.slice A0_3 r_0.Stems.length c0_3), (.slice A0_4 r_0.Fluffed.length c0_4)]) hM hA rfl rfl (by decide) ?_)
  clear hM hA; intro w476 g475 hM hE  a hA
  refine L1 (stv hA (by decide) (run_assign (hA.ev rfl)) ?_)
  clear hA; intro a hA
  refine LQ ?_
  refine TN ?_
  refine wp_seq ?_
  refine wp_seq ?_
  obtain ⟨o484, H483, H⟩ := Option.bind_eq_some_iff.1 H
  refine cutC (fun a w => ∃ (t482 : Bool), t482 = o484 ∧ Mem F w0 w [.box g475 39 [(.int .u32 r_0.Epoch), (.bool r_0.Diffuse), (.slice A0_2 r_0.Routes.length c0_2), (.slice A0_3 r_0.Stems.length c0_3), (.slice A0_4 r_0.Fluffed.length c0_4)]] ∧ Has 96 [(1, (.pointer (some (⟨g475, 0, none⟩)))), (21, (.bool t482))] a) ?_ ?_
  · refine wp_region_lit ?_
    refine L1 (stv hA (by decide) (run_field' Try.underlying39 rfl rfl Try.sizeOf22 (by decide) (hA.ev rfl)) ?_)
    clear hA; intro a hA
    refine L1 (stv hA (by decide) (run_ld (hA.ev rfl) (run_loadS Try.isAgg22 (At.seg1 (hM.box .z) 2 rfl))) ?_)
    clear hA; intro a hA
    refine L1 (stv hA (by decide) (run_len_slice Try.underlying22 (hA.ev rfl)) ?_)
    clear hA; intro a hA
    refine L1 (stv hA (by decide) (run_bin (hA.ev rfl) (hA.ev rfl) (bin_gtr _ _ _ _)) ?_)
    clear hA; intro a hA
    refine L1 (stv hA (by decide) (run_move (hA.ev rfl)) ?_)
    clear hA; intro a hA
    refine bsplit (b := (decide (((r_0.Routes.length : Nat) : Int) > 2))) (fun hb485 => ?_) (fun hb485 => ?_)
    · replace H483 := ite_t hb485 H483
      have hA := hA.re (t := 10) rfl (congrArg Value.bool hb485)
      refine L1 (gate_off rfl (by decide) rfl hA (by decide) rfl rfl ?_); clear hA; intro a hA
      refine L1 (gate_off rfl (by decide) rfl hA (by decide) rfl rfl ?_); clear hA; intro a hA
      refine L1 (gate_off rfl (by decide) rfl hA (by decide) rfl rfl ?_); clear hA; intro a hA
      refine L1 (gate_off rfl (by decide) rfl hA (by decide) rfl rfl ?_); clear hA; intro a hA
      refine L1 (stv hA (by decide) (run_pick (hA.ev rfl) (fun _ => hA.ev rfl) (fun h => Bool.noConfusion h)) ?_)
      clear hA; intro a hA
      refine L1 (stv hA (by decide) (run_move (hA.ev rfl)) ?_)
      clear hA; intro a hA
      refine L1 (gate_off rfl (by decide) rfl hA (by decide) rfl rfl ?_); clear hA; intro a hA
      refine L1 (gate_off rfl (by decide) rfl hA (by decide) rfl rfl ?_); clear hA; intro a hA
      refine L1 (gate_off rfl (by decide) rfl hA (by decide) rfl rfl ?_); clear hA; intro a hA
      refine L1 (gate_off rfl (by decide) rfl hA (by decide) rfl rfl ?_); clear hA; intro a hA
      refine L1 (stv hA (by decide) (run_pick (hA.ev rfl) (fun _ => hA.ev rfl) (fun h => Bool.noConfusion h)) ?_)
      clear hA; intro a hA
      refine LQ ?_
      exact ⟨true, Option.some.inj H483, hM, ((hA.nil.cons (hA.get 21 _ rfl)).cons (hA.get 1 _ rfl))⟩
    · replace H483 := ite_f hb485 H483
      have hA := hA.re (t := 10) rfl (congrArg Value.bool hb485)
      refine L1 (gate_on rfl rfl hA (by decide) rfl (stv hA (by decide) (run_field' Try.underlying39 rfl rfl Try.sizeOf36 (by decide) (hA.ev rfl)) ?_))
      clear hA; intro a hA
      refine L1 (gate_on rfl rfl hA (by decide) rfl (stv hA (by decide) (run_ld (hA.ev rfl) (run_loadS Try.isAgg36 (At.seg1 (hM.box .z) 3 rfl))) ?_))
      clear hA; intro a hA
      refine L1 (gate_on rfl rfl hA (by decide) rfl (stv hA (by decide) (run_len_slice Try.underlying36 (hA.ev rfl)) ?_))
      clear hA; intro a hA
      refine L1 (gate_on rfl rfl hA (by decide) rfl (stv hA (by decide) (run_bin (hA.ev rfl) (hA.ev rfl) (bin_gtr _ _ _ _)) ?_))
      clear hA; intro a hA
      refine L1 (stv hA (by decide) (run_pick (hA.ev rfl) (fun h => Bool.noConfusion h) (fun _ => hA.ev rfl)) ?_)
      clear hA; intro a hA
      refine L1 (stv hA (by decide) (run_move (hA.ev rfl)) ?_)
      clear hA; intro a hA
      refine bsplit (b := (decide (((r_0.Stems.length : Nat) : Int) > 64))) (fun hb486 => ?_) (fun hb486 => ?_)
      · replace H483 := ite_t hb486 H483
        have hA := hA.re (t := 16) rfl (congrArg Value.bool hb486)
        refine L1 (gate_off rfl (by decide) rfl hA (by decide) rfl rfl ?_); clear hA; intro a hA
        refine L1 (gate_off rfl (by decide) rfl hA (by decide) rfl rfl ?_); clear hA; intro a hA
        refine L1 (gate_off rfl (by decide) rfl hA (by decide) rfl rfl ?_); clear hA; intro a hA
        refine L1 (gate_off rfl (by decide) rfl hA (by decide) rfl rfl ?_); clear hA; intro a hA
        refine L1 (stv hA (by decide) (run_pick (hA.ev rfl) (fun _ => hA.ev rfl) (fun h => Bool.noConfusion h)) ?_)
        clear hA; intro a hA
        refine LQ ?_
        exact ⟨true, Option.some.inj H483, hM, ((hA.nil.cons (hA.get 21 _ rfl)).cons (hA.get 1 _ rfl))⟩
      · replace H483 := ite_f hb486 H483
        have hA := hA.re (t := 16) rfl (congrArg Value.bool hb486)
        refine L1 (gate_on rfl rfl hA (by decide) rfl (stv hA (by decide) (run_field' Try.underlying39 rfl rfl Try.sizeOf37 (by decide) (hA.ev rfl)) ?_))
        clear hA; intro a hA
        refine L1 (gate_on rfl rfl hA (by decide) rfl (stv hA (by decide) (run_ld (hA.ev rfl) (run_loadS Try.isAgg37 (At.seg1 (hM.box .z) 4 rfl))) ?_))
        clear hA; intro a hA
        refine L1 (gate_on rfl rfl hA (by decide) rfl (stv hA (by decide) (run_len_slice Try.underlying37 (hA.ev rfl)) ?_))
        clear hA; intro a hA
        refine L1 (gate_on rfl rfl hA (by decide) rfl (stv hA (by decide) (run_bin (hA.ev rfl) (hA.ev rfl) (bin_gtr _ _ _ _)) ?_))
        clear hA; intro a hA
        refine L1 (stv hA (by decide) (run_pick (hA.ev rfl) (fun h => Bool.noConfusion h) (fun _ => hA.ev rfl)) ?_)
        clear hA; intro a hA
        refine LQ ?_
        exact ⟨(decide (((r_0.Fluffed.length : Nat) : Int) > 2048)), Option.some.inj H483, hM, ((hA.nil.cons (hA.get 21 _ rfl)).cons (hA.get 1 _ rfl))⟩
  clear hM hA
  rintro a w487 ⟨t482, rfl, hM, hA⟩
  try dsimp only at H
  refine TN ?_
  refine tcond (b := t482) hA rfl (fun hb488 => ?_) (fun hb488 => ?_)
  · replace H := ite_t hb488 H
    refine wp_seq ?_
    refine wp_region_lit ?_
    refine L1 (stv hA (by decide) (run_assign (hA.ev rfl)) ?_)
    clear hA; intro a hA
    refine LQ ?_
    refine TN ?_
    refine wp_ret ?_
    obtain rfl := Option.some.inj H
    refine TR ?_
    exact ret_post1 (fn := Try.f35) hA rfl rfl ⟨_, rfl, rfl, (hM.sel [] rfl (by decide))⟩
  · replace H := ite_f hb488 H
    refine wp_skip ?_
    refine TN ?_
    refine wp_seq ?_
    refine wp_seq ?_
    refine wp_region_lit ?_
    refine L1 (stv hA (by decide) (run_assign (hA.ev rfl)) ?_)
    clear hA; intro a hA
    refine LQ ?_
    refine TN ?_
    obtain ⟨o621, H620, H⟩ := Option.bind_eq_some_iff.1 H
    refine cutC (fun a w => (.go ()) = o621 ∧ Mem F w0 w [.box g475 39 [(.int .u32 r_0.Epoch), (.bool r_0.Diffuse), (.slice A0_2 r_0.Routes.length c0_2), (.slice A0_3 r_0.Stems.length c0_3), (.slice A0_4 r_0.Fluffed.length c0_4)]] ∧ Has 96 [(1, (.pointer (some (⟨g475, 0, none⟩))))] a) ?_ ?_
    · refine wp_block ?_
      refine wp_loop_ghost (fun m a w => ∃ (i618 : Int), ref40_Sound.l0 r_0 m i618 = some o621 ∧ Mem F w0 w [.box g475 39 [(.int .u32 r_0.Epoch), (.bool r_0.Diffuse), (.slice A0_2 r_0.Routes.length c0_2), (.slice A0_3 r_0.Stems.length c0_3), (.slice A0_4 r_0.Fluffed.length c0_4)]] ∧ Has 96 [(1, (.pointer (some (⟨g475, 0, none⟩)))), (3, (.int .i64 i618))] a) k ⟨0, H620, hM, ((hA.nil.cons (hA.get 3 _ rfl)).cons (hA.get 1 _ rfl))⟩ ?_
      clear hM hA; rintro m622 a w623 ⟨i618, H620, hM, hA⟩
      cases m622 with
      | zero => exact absurd H620 (by simp [ref40_Sound.l0])
      | succ m622 =>
      rw [ref40_Sound.l0] at H620
      refine wp_seq ?_
      refine wp_seq ?_
      refine wp_region_lit ?_
      refine L1 (stv hA (by decide) (run_move (hA.ev rfl)) ?_)
      clear hA; intro a hA
      refine L1 (stv hA (by decide) (run_field' Try.underlying39 rfl rfl Try.sizeOf22 (by decide) (hA.ev rfl)) ?_)
      clear hA; intro a hA
      refine L1 (stv hA (by decide) (run_ld (hA.ev rfl) (run_loadS Try.isAgg22 (At.seg1 (hM.box .z) 2 rfl))) ?_)
      clear hA; intro a hA
      refine L1 (stv hA (by decide) (run_len_slice Try.underlying22 (hA.ev rfl)) ?_)
      clear hA; intro a hA
      refine L1 (stv hA (by decide) (run_bin (hA.ev rfl) (hA.ev rfl) (bin_lss _ _ _ _)) ?_)
      clear hA; intro a hA
      refine LQ ?_
      refine TN ?_
      refine tcond (b := (decide (i618 < ((r_0.Routes.length : Nat) : Int)))) hA rfl (fun hb624 => ?_) (fun hb624 => ?_)
      · replace H620 := ite_t hb624 H620
        refine wp_skip ?_
        refine TN ?_
        refine wp_seq ?_
        refine wp_block ?_
        refine wp_seq ?_
        obtain ⟨o649, H648, H620⟩ := Option.bind_eq_some_iff.1 H620
        refine cutC (fun a w => ∃ (t647 : Bool), t647 = o649 ∧ Mem F w0 w [.box g475 39 [(.int .u32 r_0.Epoch), (.bool r_0.Diffuse), (.slice A0_2 r_0.Routes.length c0_2), (.slice A0_3 r_0.Stems.length c0_3), (.slice A0_4 r_0.Fluffed.length c0_4)]] ∧ Has 96 [(1, (.pointer (some (⟨g475, 0, none⟩)))), (3, (.int .i64 i618)), (49, (.bool t647))] a) ?_ ?_
        · refine draw (fun w' => Below w623.heap.size w623 w') [] rfl ?_
          intro w650 hw hS; replace hM := hM.ext hS; clear hw
          refine d_takef (i := 0) (L' := #[true, false, false, false, false, false, false, false, false, false, false, false, false, false, false, false, false, false, false, false, false]) rfl (by kernel_rfl) rfl (fun _ _ _ h => h) hA (by decide) (fun _ => hS) (fun a w' hA => run_field' Try.underlying39 rfl rfl Try.sizeOf22 (by decide) (hA.ev rfl)) ?_; clear hA; intro a hA
          refine rebase hS ?_; clear hS; intro hS
          refine d_take (i := 1) (L' := #[true, true, false, false, false, false, false, false, false, false, false, false, false, false, false, false, false, false, false, false, false]) rfl (by kernel_rfl) rfl (fun _ _ _ h => h) hA (by decide) rfl hS (fun a w' hA hS' => run_ld (hA.ev rfl) (run_loadS Try.isAgg22 ((At.seg1 (hM.box .z) 2 rfl).extB hS'))) ?_; clear hA; intro a hA
          refine d_takef (i := 2) (L' := #[true, true, true, false, false, false, false, false, false, false, false, false, false, false, false, false, false, false, false, false, false]) rfl (by kernel_rfl) rfl (fun _ _ _ h => h) hA (by decide) (fun _ => hS) (fun a w' hA => run_move (hA.ev rfl)) ?_; clear hA; intro a hA
          obtain ⟨⟨hi652, hj653⟩, H648⟩ := ite_some H648
          obtain ⟨ad654, hq655, hat656⟩ := Row.elem' (p := (Pl.int .i64)) (hM.ro hr0_2) (Eq.refl r_0.Routes.length) (0 : Int) i618 hi652 hj653
          refine d_takef (i := 3) (L' := #[true, true, true, true, false, false, false, false, false, false, false, false, false, false, false, false, false, false, false, false, false]) rfl (by kernel_rfl) rfl (fun _ _ _ h => h) hA (by decide) (fun _ => hS) (fun a w' hA => run_idx Try.underlying22 Try.sizeOf3 (hA.ev rfl) hq655 (hA.ev rfl) hi652 hj653) ?_; clear hA; intro a hA
          refine d_take (i := 4) (L' := #[true, true, true, true, true, false, false, false, false, false, false, false, false, false, false, false, false, false, false, false, false]) rfl (by kernel_rfl) rfl (fun _ _ _ h => h) hA (by decide) rfl hS (fun a w' hA hS' => run_ld (hA.ev rfl) (run_loadS Try.isAgg3 ((hat656).extB hS'))) ?_; clear hA; intro a hA
          refine d_takef (i := 5) (L' := #[true, true, true, true, true, true, false, false, false, false, false, false, false, false, false, false, false, false, false, false, false]) rfl (by kernel_rfl) rfl (fun _ _ _ h => h) hA (by decide) (fun _ => hS) (fun a w' hA => run_bin (hA.ev rfl) (hA.ev rfl) (bin_lss _ _ _ _)) ?_; clear hA; intro a hA
          refine d_takef (i := 6) (L' := #[true, true, true, true, true, true, true, false, false, false, false, false, false, false, false, false, false, false, false, false, false]) rfl (by kernel_rfl) rfl (fun _ _ _ h => h) hA (by decide) (fun _ => hS) (fun a w' hA => run_move (hA.ev rfl)) ?_; clear hA; intro a hA
          refine bsplit (b := (decide ((r_0.Routes.getD i618.toNat (0 : Int)) < 0))) (fun hb657 => ?_) (fun hb657 => ?_)
          · replace H648 := ite_t hb657 H648
            have hA := hA.re (t := 35) rfl (congrArg Value.bool hb657)
            refine d_skip (i := 7) (L' := #[true, true, true, true, true, true, true, true, false, false, false, false, false, false, false, false, false, false, false, false, false]) rfl (by kernel_rfl) rfl (fun _ _ _ h => h) rfl hA (by decide) (by decide) rfl rfl (fun _ => hS) ?_; clear hA; intro a hA
            refine d_skip (i := 8) (L' := #[true, true, true, true, true, true, true, true, true, false, false, false, false, false, false, false, false, false, false, false, false]) rfl (by kernel_rfl) rfl (fun _ _ _ h => h) rfl hA (by decide) (by decide) rfl rfl (fun _ => hS) ?_; clear hA; intro a hA
            refine d_skip (i := 9) (L' := #[true, true, true, true, true, true, true, true, true, true, false, false, false, false, false, false, false, false, false, false, false]) rfl (by kernel_rfl) rfl (fun _ _ _ h => h) rfl hA (by decide) (by decide) rfl rfl (fun _ => hS) ?_; clear hA; intro a hA
            refine d_skipu (i := 10) (L' := #[true, true, true, true, true, true, true, true, true, true, true, false, false, false, false, false, false, false, false, false, false]) rfl (by kernel_rfl) rfl (fun _ _ _ h => h) rfl hA (by decide) (by decide) rfl (fun _ => hS) ?_; clear hA; intro a hA
            refine d_skipu (i := 11) (L' := #[true, true, true, true, true, true, true, true, true, true, true, true, false, false, false, false, false, false, false, false, false]) rfl (by kernel_rfl) rfl (fun _ _ _ h => h) rfl hA (by decide) (by decide) rfl (fun _ => hS) ?_; clear hA; intro a hA
            refine d_skipu (i := 12) (L' := #[true, true, true, true, true, true, true, true, true, true, true, true, true, false, false, false, false, false, false, false, false]) rfl (by kernel_rfl) rfl (fun _ _ _ h => h) rfl hA (by decide) (by decide) rfl (fun _ => hS) ?_; clear hA; intro a hA
            refine d_skipu (i := 13) (L' := #[true, true, true, true, true, true, true, true, true, true, true, true, true, true, false, false, false, false, false, false, false]) rfl (by kernel_rfl) rfl (fun _ _ _ h => h) rfl hA (by decide) (by decide) rfl (fun _ => hS) ?_; clear hA; intro a hA
            refine d_skipu (i := 14) (L' := #[true, true, true, true, true, true, true, true, true, true, true, true, true, true, true, false, false, false, false, false, false]) rfl (by kernel_rfl) rfl (fun _ _ _ h => h) rfl hA (by decide) (by decide) rfl (fun _ => hS) ?_; clear hA; intro a hA
            refine d_skipu (i := 15) (L' := #[true, true, true, true, true, true, true, true, true, true, true, true, true, true, true, true, false, false, false, false, false]) rfl (by kernel_rfl) rfl (fun _ _ _ h => h) rfl hA (by decide) (by decide) rfl (fun _ => hS) ?_; clear hA; intro a hA
            refine d_skipu (i := 16) (L' := #[true, true, true, true, true, true, true, true, true, true, true, true, true, true, true, true, true, false, false, false, false]) rfl (by kernel_rfl) rfl (fun _ _ _ h => h) rfl hA (by decide) (by decide) rfl (fun _ => hS) ?_; clear hA; intro a hA
            refine d_skipu (i := 17) (L' := #[true, true, true, true, true, true, true, true, true, true, true, true, true, true, true, true, true, true, false, false, false]) rfl (by kernel_rfl) rfl (fun _ _ _ h => h) rfl hA (by decide) (by decide) rfl (fun _ => hS) ?_; clear hA; intro a hA
            refine d_skipu (i := 18) (L' := #[true, true, true, true, true, true, true, true, true, true, true, true, true, true, true, true, true, true, true, false, false]) rfl (by kernel_rfl) rfl (fun _ _ _ h => h) rfl hA (by decide) (by decide) rfl (fun _ => hS) ?_; clear hA; intro a hA
            refine d_skip (i := 19) (L' := #[true, true, true, true, true, true, true, true, true, true, true, true, true, true, true, true, true, true, true, true, false]) rfl (by kernel_rfl) rfl (fun _ _ _ h => h) rfl hA (by decide) (by decide) rfl rfl (fun _ => hS) ?_; clear hA; intro a hA
            refine d_takef (i := 20) (L' := #[true, true, true, true, true, true, true, true, true, true, true, true, true, true, true, true, true, true, true, true, true]) rfl (by kernel_rfl) rfl (fun _ _ _ h => h) hA (by decide) (fun _ => hS) (fun a w' hA => run_pick (hA.ev rfl) (fun _ => hA.ev rfl) (fun h => Bool.noConfusion h)) ?_; clear hA; intro a hA
            refine d_done (by kernel_rfl) ?_
            exact ⟨true, Option.some.inj H648, hM, (((hA.nil.cons (hA.get 49 _ rfl)).cons (hA.get 3 _ rfl)).cons (hA.get 1 _ rfl))⟩
          · replace H648 := ite_f hb657 H648
            have hA := hA.re (t := 35) rfl (congrArg Value.bool hb657)
            refine d_takegf (i := 7) (L' := #[true, true, true, true, true, true, true, true, false, false, false, false, false, false, false, false, false, false, false, false, false]) rfl (by kernel_rfl) rfl (fun _ _ _ h => h) rfl hA (by decide) (by decide) rfl (fun _ => hS) (fun a w' hA => run_move (hA.ev rfl)) ?_; clear hA; intro a hA
            refine d_takegf (i := 8) (L' := #[true, true, true, true, true, true, true, true, true, false, false, false, false, false, false, false, false, false, false, false, false]) rfl (by kernel_rfl) rfl (fun _ _ _ h => h) rfl hA (by decide) (by decide) rfl (fun _ => hS) (fun a w' hA => run_bin (hA.ev rfl) (hA.ev rfl) (bin_gtr _ _ _ _)) ?_; clear hA; intro a hA
            refine d_takegf (i := 9) (L' := #[true, true, true, true, true, true, true, true, true, true, false, false, false, false, false, false, false, false, false, false, false]) rfl (by kernel_rfl) rfl (fun _ _ _ h => h) rfl hA (by decide) (by decide) rfl (fun _ => hS) (fun a w' hA => run_move (hA.ev rfl)) ?_; clear hA; intro a hA
            refine bsplit (b := (decide (i618 > 0))) (fun hb658 => ?_) (fun hb658 => ?_)
            · replace H648 := ite_t hb658 H648
              have hA := hA.re (t := 38) rfl (congrArg Value.bool hb658)
              refine d_takegf (i := 10) (L' := #[true, true, true, true, true, true, true, true, true, true, true, false, false, false, false, false, false, false, false, false, false]) rfl (by kernel_rfl) rfl (fun _ _ _ h => h) rfl hA (by decide) (by decide) rfl (fun _ => hS) (fun a w' hA => run_field' Try.underlying39 rfl rfl Try.sizeOf22 (by decide) (hA.ev rfl)) ?_; clear hA; intro a hA
              refine d_takeg (i := 11) (L' := #[true, true, true, true, true, true, true, true, true, true, true, true, false, false, false, false, false, false, false, false, false]) rfl (by kernel_rfl) rfl (fun _ _ _ h => h) rfl hA (by decide) (by decide) rfl rfl hS (fun a w' hA hS' => run_ld (hA.ev rfl) (run_loadS Try.isAgg22 ((At.seg1 (hM.box .z) 2 rfl).extB hS'))) ?_; clear hA; intro a hA
              obtain ⟨⟨hi659, hj660⟩, H648⟩ := ite_some H648
              obtain ⟨ad661, hq662, hat663⟩ := Row.elem' (p := (Pl.int .i64)) (hM.ro hr0_2) (Eq.refl r_0.Routes.length) (0 : Int) (0 : Int) hi659 hj660
              refine d_takegf (i := 12) (L' := #[true, true, true, true, true, true, true, true, true, true, true, true, true, false, false, false, false, false, false, false, false]) rfl (by kernel_rfl) rfl (fun _ _ _ h => h) rfl hA (by decide) (by decide) rfl (fun _ => hS) (fun a w' hA => run_idx Try.underlying22 Try.sizeOf3 (hA.ev rfl) hq662 (hA.ev rfl) hi659 hj660) ?_; clear hA; intro a hA
              refine d_takeg (i := 13) (L' := #[true, true, true, true, true, true, true, true, true, true, true, true, true, true, false, false, false, false, false, false, false]) rfl (by kernel_rfl) rfl (fun _ _ _ h => h) rfl hA (by decide) (by decide) rfl rfl hS (fun a w' hA hS' => run_ld (hA.ev rfl) (run_loadS Try.isAgg3 ((hat663).extB hS'))) ?_; clear hA; intro a hA
              refine d_takegf (i := 14) (L' := #[true, true, true, true, true, true, true, true, true, true, true, true, true, true, true, false, false, false, false, false, false]) rfl (by kernel_rfl) rfl (fun _ _ _ h => h) rfl hA (by decide) (by decide) rfl (fun _ => hS) (fun a w' hA => run_field' Try.underlying39 rfl rfl Try.sizeOf22 (by decide) (hA.ev rfl)) ?_; clear hA; intro a hA
              refine d_takeg (i := 15) (L' := #[true, true, true, true, true, true, true, true, true, true, true, true, true, true, true, true, false, false, false, false, false]) rfl (by kernel_rfl) rfl (fun _ _ _ h => h) rfl hA (by decide) (by decide) rfl rfl hS (fun a w' hA hS' => run_ld (hA.ev rfl) (run_loadS Try.isAgg22 ((At.seg1 (hM.box .z) 2 rfl).extB hS'))) ?_; clear hA; intro a hA
              obtain ⟨⟨hi664, hj665⟩, H648⟩ := ite_some H648
              obtain ⟨ad666, hq667, hat668⟩ := Row.elem' (p := (Pl.int .i64)) (hM.ro hr0_2) (Eq.refl r_0.Routes.length) (0 : Int) (1 : Int) hi664 hj665
              refine d_takegf (i := 16) (L' := #[true, true, true, true, true, true, true, true, true, true, true, true, true, true, true, true, true, false, false, false, false]) rfl (by kernel_rfl) rfl (fun _ _ _ h => h) rfl hA (by decide) (by decide) rfl (fun _ => hS) (fun a w' hA => run_idx Try.underlying22 Try.sizeOf3 (hA.ev rfl) hq667 (hA.ev rfl) hi664 hj665) ?_; clear hA; intro a hA
              refine d_takeg (i := 17) (L' := #[true, true, true, true, true, true, true, true, true, true, true, true, true, true, true, true, true, true, false, false, false]) rfl (by kernel_rfl) rfl (fun _ _ _ h => h) rfl hA (by decide) (by decide) rfl rfl hS (fun a w' hA hS' => run_ld (hA.ev rfl) (run_loadS Try.isAgg3 ((hat668).extB hS'))) ?_; clear hA; intro a hA
              refine d_takegf (i := 18) (L' := #[true, true, true, true, true, true, true, true, true, true, true, true, true, true, true, true, true, true, true, false, false]) rfl (by kernel_rfl) rfl (fun _ _ _ h => h) rfl hA (by decide) (by decide) rfl (fun _ => hS) (fun a w' hA => run_bin (hA.ev rfl) (hA.ev rfl) (bin_eql _ _ _ _)) ?_; clear hA; intro a hA
              refine d_takegf (i := 19) (L' := #[true, true, true, true, true, true, true, true, true, true, true, true, true, true, true, true, true, true, true, true, false]) rfl (by kernel_rfl) rfl (fun _ _ _ h => h) rfl hA (by decide) (by decide) rfl (fun _ => hS) (fun a w' hA => run_pick (hA.ev rfl) (fun _ => hA.ev rfl) (fun h => Bool.noConfusion h)) ?_; clear hA; intro a hA
              refine d_takef (i := 20) (L' := #[true, true, true, true, true, true, true, true, true, true, true, true, true, true, true, true, true, true, true, true, true]) rfl (by kernel_rfl) rfl (fun _ _ _ h => h) hA (by decide) (fun _ => hS) (fun a w' hA => run_pick (hA.ev rfl) (fun h => Bool.noConfusion h) (fun _ => hA.ev rfl)) ?_; clear hA; intro a hA
              refine d_done (by kernel_rfl) ?_
              exact ⟨((r_0.Routes.getD (0 : Int).toNat (0 : Int)) == (r_0.Routes.getD (1 : Int).toNat (0 : Int))), Option.some.inj H648, hM, (((hA.nil.cons (hA.get 49 _ rfl)).cons (hA.get 3 _ rfl)).cons (hA.get 1 _ rfl))⟩
            · replace H648 := ite_f hb658 H648
              have hA := hA.re (t := 38) rfl (congrArg Value.bool hb658)
              refine d_skip (i := 10) (L' := #[true, true, true, true, true, true, true, true, true, true, true, false, false, false, false, false, false, false, false, false, false]) rfl (by kernel_rfl) rfl (fun _ _ _ h => h) rfl hA (by decide) (by decide) rfl rfl (fun _ => hS) ?_; clear hA; intro a hA
              refine d_skip (i := 11) (L' := #[true, true, true, true, true, true, true, true, true, true, true, true, false, false, false, false, false, false, false, false, false]) rfl (by kernel_rfl) rfl (fun _ _ _ h => h) rfl hA (by decide) (by decide) rfl rfl (fun _ => hS) ?_; clear hA; intro a hA
              refine d_skip (i := 12) (L' := #[true, true, true, true, true, true, true, true, true, true, true, true, true, false, false, false, false, false, false, false, false]) rfl (by kernel_rfl) rfl (fun _ _ _ h => h) rfl hA (by decide) (by decide) rfl rfl (fun _ => hS) ?_; clear hA; intro a hA
              refine d_skip (i := 13) (L' := #[true, true, true, true, true, true, true, true, true, true, true, true, true, true, false, false, false, false, false, false, false]) rfl (by kernel_rfl) rfl (fun _ _ _ h => h) rfl hA (by decide) (by decide) rfl rfl (fun _ => hS) ?_; clear hA; intro a hA
              refine d_skip (i := 14) (L' := #[true, true, true, true, true, true, true, true, true, true, true, true, true, true, true, false, false, false, false, false, false]) rfl (by kernel_rfl) rfl (fun _ _ _ h => h) rfl hA (by decide) (by decide) rfl rfl (fun _ => hS) ?_; clear hA; intro a hA
              refine d_skip (i := 15) (L' := #[true, true, true, true, true, true, true, true, true, true, true, true, true, true, true, true, false, false, false, false, false]) rfl (by kernel_rfl) rfl (fun _ _ _ h => h) rfl hA (by decide) (by decide) rfl rfl (fun _ => hS) ?_; clear hA; intro a hA
              refine d_skip (i := 16) (L' := #[true, true, true, true, true, true, true, true, true, true, true, true, true, true, true, true, true, false, false, false, false]) rfl (by kernel_rfl) rfl (fun _ _ _ h => h) rfl hA (by decide) (by decide) rfl rfl (fun _ => hS) ?_; clear hA; intro a hA
              refine d_skip (i := 17) (L' := #[true, true, true, true, true, true, true, true, true, true, true, true, true, true, true, true, true, true, false, false, false]) rfl (by kernel_rfl) rfl (fun _ _ _ h => h) rfl hA (by decide) (by decide) rfl rfl (fun _ => hS) ?_; clear hA; intro a hA
              refine d_skip (i := 18) (L' := #[true, true, true, true, true, true, true, true, true, true, true, true, true, true, true, true, true, true, true, false, false]) rfl (by kernel_rfl) rfl (fun _ _ _ h => h) rfl hA (by decide) (by decide) rfl rfl (fun _ => hS) ?_; clear hA; intro a hA
              refine d_takegf (i := 19) (L' := #[true, true, true, true, true, true, true, true, true, true, true, true, true, true, true, true, true, true, true, true, false]) rfl (by kernel_rfl) rfl (fun _ _ _ h => h) rfl hA (by decide) (by decide) rfl (fun _ => hS) (fun a w' hA => run_pick (hA.ev rfl) (fun h => Bool.noConfusion h) (fun _ => hA.ev rfl)) ?_; clear hA; intro a hA
              refine d_takef (i := 20) (L' := #[true, true, true, true, true, true, true, true, true, true, true, true, true, true, true, true, true, true, true, true, true]) rfl (by kernel_rfl) rfl (fun _ _ _ h => h) hA (by decide) (fun _ => hS) (fun a w' hA => run_pick (hA.ev rfl) (fun h => Bool.noConfusion h) (fun _ => hA.ev rfl)) ?_; clear hA; intro a hA
              refine d_done (by kernel_rfl) ?_
              exact ⟨false, Option.some.inj H648, hM, (((hA.nil.cons (hA.get 49 _ rfl)).cons (hA.get 3 _ rfl)).cons (hA.get 1 _ rfl))⟩
        clear hM hA
        rintro a w669 ⟨t647, rfl, hM, hA⟩
        try dsimp only at H620
        refine TN ?_
        refine tcond (b := t647) hA rfl (fun hb670 => ?_) (fun hb670 => ?_)
        · replace H620 := ite_t hb670 H620
          refine wp_seq ?_
          refine wp_region_lit ?_
          refine L1 (stv hA (by decide) (run_assign (hA.ev rfl)) ?_)
          clear hA; intro a hA
          refine LQ ?_
          refine TN ?_
          refine wp_ret ?_
          obtain rfl := Option.some.inj H620
          dsimp only at H
          obtain rfl := Option.some.inj H
          refine BR ?_
          refine TR ?_
          refine TR ?_
          refine BR ?_
          refine TR ?_
          refine TR ?_
          exact ret_post1 (fn := Try.f35) hA rfl rfl ⟨_, rfl, rfl, (hM.sel [] rfl (by decide))⟩
        · replace H620 := ite_f hb670 H620
          refine wp_skip ?_
          refine BN ?_
          refine TN ?_
          refine wp_region_lit ?_
          refine L1 (stv hA (by decide) (run_move (hA.ev rfl)) ?_)
          clear hA; intro a hA
          refine L1 (stv hA (by decide) (run_bin (hA.ev rfl) (hA.ev rfl) (bin_add _ _ _ _)) ?_)
          clear hA; intro a hA
          refine L1 (stv hA (by decide) (run_assign (hA.ev rfl)) ?_)
          clear hA; intro a hA
          refine LQ ?_
          exact ⟨_, Nat.lt_succ_self m622, IntKind.i64.wrap (i618 + 1), H620, hM, ((hA.nil.cons (hA.get 3 _ rfl)).cons (hA.get 1 _ rfl))⟩
      · replace H620 := ite_f hb624 H620
        refine wp_exit ?_
        refine TX ?_
        refine TX ?_
        refine BX ?_
        exact ⟨Option.some.inj H620, hM, (hA.nil.cons (hA.get 1 _ rfl))⟩
    clear hM hA
    rintro a w671 ⟨rfl, hM, hA⟩
    try dsimp only at H
    refine TN ?_
    refine wp_seq ?_
    refine wp_seq ?_
    refine wp_region_lit ?_
    refine L1 (stv hA (by decide) (run_assign (hA.ev rfl)) ?_)
    clear hA; intro a hA
    refine LQ ?_
    refine TN ?_
    obtain ⟨o727, H726, H⟩ := Option.bind_eq_some_iff.1 H
    refine cutC (fun a w => (.go ()) = o727 ∧ Mem F w0 w [.box g475 39 [(.int .u32 r_0.Epoch), (.bool r_0.Diffuse), (.slice A0_2 r_0.Routes.length c0_2), (.slice A0_3 r_0.Stems.length c0_3), (.slice A0_4 r_0.Fluffed.length c0_4)]] ∧ Has 96 [(1, (.pointer (some (⟨g475, 0, none⟩))))] a) ?_ ?_
    · refine wp_block ?_
      refine wp_loop_ghost (fun m a w => ∃ (i724 : Int), ref40_Sound.l1 r_0 m i724 = some o727 ∧ Mem F w0 w [.box g475 39 [(.int .u32 r_0.Epoch), (.bool r_0.Diffuse), (.slice A0_2 r_0.Routes.length c0_2), (.slice A0_3 r_0.Stems.length c0_3), (.slice A0_4 r_0.Fluffed.length c0_4)]] ∧ Has 96 [(1, (.pointer (some (⟨g475, 0, none⟩)))), (4, (.int .i64 i724))] a) k ⟨0, H726, hM, ((hA.nil.cons (hA.get 4 _ rfl)).cons (hA.get 1 _ rfl))⟩ ?_
      clear hM hA; rintro m728 a w729 ⟨i724, H726, hM, hA⟩
      cases m728 with
      | zero => exact absurd H726 (by simp [ref40_Sound.l1])
      | succ m728 =>
      rw [ref40_Sound.l1] at H726
      refine wp_seq ?_
      refine wp_seq ?_
      refine wp_region_lit ?_
      refine L1 (stv hA (by decide) (run_move (hA.ev rfl)) ?_)
      clear hA; intro a hA
      refine L1 (stv hA (by decide) (run_field' Try.underlying39 rfl rfl Try.sizeOf37 (by decide) (hA.ev rfl)) ?_)
      clear hA; intro a hA
      refine L1 (stv hA (by decide) (run_ld (hA.ev rfl) (run_loadS Try.isAgg37 (At.seg1 (hM.box .z) 4 rfl))) ?_)
      clear hA; intro a hA
      refine L1 (stv hA (by decide) (run_len_slice Try.underlying37 (hA.ev rfl)) ?_)
      clear hA; intro a hA
      refine L1 (stv hA (by decide) (run_bin (hA.ev rfl) (hA.ev rfl) (bin_lss _ _ _ _)) ?_)
      clear hA; intro a hA
      refine LQ ?_
      refine TN ?_
      refine tcond (b := (decide (i724 < ((r_0.Fluffed.length : Nat) : Int)))) hA rfl (fun hb730 => ?_) (fun hb730 => ?_)
      · replace H726 := ite_t hb730 H726
        refine wp_skip ?_
        refine TN ?_
        refine wp_seq ?_
        refine wp_block ?_
        refine wp_seq ?_
        refine draw (fun w' => Below w729.heap.size w729 w') [] rfl ?_
        intro w731 hw hS; replace hM := hM.ext hS; clear hw
        refine d_takef (i := 0) (L' := #[true, false, false, false, false, false, false, false, false, false]) rfl (by kernel_rfl) rfl (fun _ _ _ h => h) hA (by decide) (fun _ => hS) (fun a w' hA => run_field' Try.underlying39 rfl rfl Try.sizeOf37 (by decide) (hA.ev rfl)) ?_; clear hA; intro a hA
        refine rebase hS ?_; clear hS; intro hS
        refine d_take (i := 1) (L' := #[true, true, false, false, false, false, false, false, false, false]) rfl (by kernel_rfl) rfl (fun _ _ _ h => h) hA (by decide) rfl hS (fun a w' hA hS' => run_ld (hA.ev rfl) (run_loadS Try.isAgg37 ((At.seg1 (hM.box .z) 4 rfl).extB hS'))) ?_; clear hA; intro a hA
        refine d_takef (i := 2) (L' := #[true, true, true, false, false, false, false, false, false, false]) rfl (by kernel_rfl) rfl (fun _ _ _ h => h) hA (by decide) (fun _ => hS) (fun a w' hA => run_move (hA.ev rfl)) ?_; clear hA; intro a hA
        obtain ⟨⟨hi733, hj734⟩, H726⟩ := ite_some H726
        refine d_takef (i := 3) (L' := #[true, true, true, true, false, false, false, false, false, false]) rfl (by kernel_rfl) rfl (fun _ _ _ h => h) hA (by decide) (fun _ => hS) (fun a w' hA => run_hi Try.underlying37 Try.sizeOf34 hc0_4 hi733 hj734 (hA.ev rfl) (hA.ev rfl)) ?_; clear hA; intro a hA
        refine d_takef (i := 4) (L' := #[true, true, true, true, true, false, false, false, false, false]) rfl (by kernel_rfl) rfl (fun _ _ _ h => h) hA (by decide) (fun _ => hS) (fun a w' hA => run_field' Try.underlying39 rfl rfl Try.sizeOf37 (by decide) (hA.ev rfl)) ?_; clear hA; intro a hA
        refine d_take (i := 5) (L' := #[true, true, true, true, true, true, false, false, false, false]) rfl (by kernel_rfl) rfl (fun _ _ _ h => h) hA (by decide) rfl hS (fun a w' hA hS' => run_ld (hA.ev rfl) (run_loadS Try.isAgg37 ((At.seg1 (hM.box .z) 4 rfl).extB hS'))) ?_; clear hA; intro a hA
        refine d_takef (i := 6) (L' := #[true, true, true, true, true, true, true, false, false, false]) rfl (by kernel_rfl) rfl (fun _ _ _ h => h) hA (by decide) (fun _ => hS) (fun a w' hA => run_move (hA.ev rfl)) ?_; clear hA; intro a hA
        obtain ⟨⟨hi735, hj736⟩, H726⟩ := ite_some H726
        obtain ⟨ad737, hq738, hat739⟩ := Row.elem' (p := pHash) (hM.ro hr0_4) (Eq.refl r_0.Fluffed.length) (Vector.replicate 32 0 : Vector Int 32) i724 hi735 hj736
        refine d_takef (i := 7) (L' := #[true, true, true, true, true, true, true, true, false, false]) rfl (by kernel_rfl) rfl (fun _ _ _ h => h) hA (by decide) (fun _ => hS) (fun a w' hA => run_idx Try.underlying37 Try.sizeOf34 (hA.ev rfl) hq738 (hA.ev rfl) hi735 hj736) ?_; clear hA; intro a hA
        refine d_take (i := 8) (L' := #[true, true, true, true, true, true, true, true, true, false]) rfl (by kernel_rfl) rfl (fun _ _ _ h => h) hA (by decide) rfl hS (fun a w' hA hS' => run_ld (hA.ev rfl) (run_loadP Try.isAgg34 Try.sizeOf34 ((hat739).extB hS'))) ?_; clear hA; intro a hA
        obtain ⟨r740, H741, H726⟩ := Option.bind_eq_some_iff.1 H726
        refine d_one (i := 9) (L' := #[true, true, true, true, true, true, true, true, true, true]) (by kernel_rfl) rfl rfl (st_call Try.call36 hA [(.slice A0_4 i724.toNat c0_4), (.agg (pHash.enc (r_0.Fluffed.getD i724.toNat (Vector.replicate 32 0 : Vector Int 32))).toArray)] rfl (by decide) (ref40_has.calls _ _ _ _ _ _ _ ((RoV.mk (Ro.take (hM.roC (Ms := []) hr0_4) i724.toNat) (len_take (Eq.refl r_0.Fluffed.length) (by omega)) (by have hh1 := hc0_4; omega))) (hM.front (Ms := [])) H741) ?_)
        clear hA; rintro _ w742 ⟨rfl, hMc⟩ a hA
        have hE := hMc.below; have hM := hM.call (Ms := []) hMc
        clear hMc; simp only [List.cons_append, List.nil_append] at hM
        replace hS := hS.trans (hE.mono hS.size)
        refine ⟨fun _ => hS, ?_⟩
        refine d_done (by kernel_rfl) ?_
        refine TN ?_
        refine tcond (b := r740) hA rfl (fun hb743 => ?_) (fun hb743 => ?_)
        · replace H726 := ite_t hb743 H726
          refine wp_seq ?_
          refine wp_region_lit ?_
          refine L1 (stv hA (by decide) (run_assign (hA.ev rfl)) ?_)
          clear hA; intro a hA
          refine LQ ?_
          refine TN ?_
          refine wp_ret ?_
          obtain rfl := Option.some.inj H726
          dsimp only at H
          obtain rfl := Option.some.inj H
          refine BR ?_
          refine TR ?_
          refine TR ?_
          refine BR ?_
          refine TR ?_
          refine TR ?_
          exact ret_post1 (fn := Try.f35) hA rfl rfl ⟨_, rfl, rfl, (hM.sel [] rfl (by decide))⟩
        · replace H726 := ite_f hb743 H726
          refine wp_skip ?_
          refine BN ?_
          refine TN ?_
          refine wp_region_lit ?_
          refine L1 (stv hA (by decide) (run_move (hA.ev rfl)) ?_)
          clear hA; intro a hA
          refine L1 (stv hA (by decide) (run_bin (hA.ev rfl) (hA.ev rfl) (bin_add _ _ _ _)) ?_)
          clear hA; intro a hA
          refine L1 (stv hA (by decide) (run_assign (hA.ev rfl)) ?_)
          clear hA; intro a hA
          refine LQ ?_
          exact ⟨_, Nat.lt_succ_self m728, IntKind.i64.wrap (i724 + 1), H726, hM, ((hA.nil.cons (hA.get 4 _ rfl)).cons (hA.get 1 _ rfl))⟩
      · replace H726 := ite_f hb730 H726
        refine wp_exit ?_
        refine TX ?_
        refine TX ?_
        refine BX ?_
        exact ⟨Option.some.inj H726, hM, (hA.nil.cons (hA.get 1 _ rfl))⟩
    clear hM hA
    rintro a w744 ⟨rfl, hM, hA⟩
    try dsimp only at H
    refine TN ?_
    refine wp_seq ?_
    refine wp_seq ?_
    refine wp_region_lit ?_
    refine L1 (stv hA (by decide) (run_assign (hA.ev rfl)) ?_)
    clear hA; intro a hA
    refine LQ ?_
    refine TN ?_
    obtain ⟨o898, H897, H⟩ := Option.bind_eq_some_iff.1 H
    refine cutC (fun a w => (.go ()) = o898 ∧ Mem F w0 w [] ∧ Has 96 [] a) ?_ ?_
    · refine wp_block ?_
      refine wp_loop_ghost (fun m a w => ∃ (i896 : Int), ref40_Sound.l2 r_0 m i896 = some o898 ∧ Mem F w0 w [.box g475 39 [(.int .u32 r_0.Epoch), (.bool r_0.Diffuse), (.slice A0_2 r_0.Routes.length c0_2), (.slice A0_3 r_0.Stems.length c0_3), (.slice A0_4 r_0.Fluffed.length c0_4)]] ∧ Has 96 [(1, (.pointer (some (⟨g475, 0, none⟩)))), (5, (.int .i64 i896))] a) k ⟨0, H897, hM, ((hA.nil.cons (hA.get 5 _ rfl)).cons (hA.get 1 _ rfl))⟩ ?_
      clear hM hA; rintro m899 a w900 ⟨i896, H897, hM, hA⟩
      cases m899 with
      | zero => exact absurd H897 (by simp [ref40_Sound.l2])
      | succ m899 =>
      rw [ref40_Sound.l2] at H897
      refine wp_seq ?_
      refine wp_seq ?_
      refine wp_region_lit ?_
      refine L1 (stv hA (by decide) (run_move (hA.ev rfl)) ?_)
      clear hA; intro a hA
      refine L1 (stv hA (by decide) (run_field' Try.underlying39 rfl rfl Try.sizeOf36 (by decide) (hA.ev rfl)) ?_)
      clear hA; intro a hA
      refine L1 (stv hA (by decide) (run_ld (hA.ev rfl) (run_loadS Try.isAgg36 (At.seg1 (hM.box .z) 3 rfl))) ?_)
      clear hA; intro a hA
      refine L1 (stv hA (by decide) (run_len_slice Try.underlying36 (hA.ev rfl)) ?_)
      clear hA; intro a hA
      refine L1 (stv hA (by decide) (run_bin (hA.ev rfl) (hA.ev rfl) (bin_lss _ _ _ _)) ?_)
      clear hA; intro a hA
      refine LQ ?_
      refine TN ?_
      refine tcond (b := (decide (i896 < ((r_0.Stems.length : Nat) : Int)))) hA rfl (fun hb901 => ?_) (fun hb901 => ?_)
      · replace H897 := ite_t hb901 H897
        refine wp_skip ?_
        refine TN ?_
        refine wp_seq ?_
        refine wp_block ?_
        refine wp_seq ?_
        obtain ⟨o926, H925, H897⟩ := Option.bind_eq_some_iff.1 H897
        refine cutC (fun a w => ∃ (t924 : Bool), t924 = o926 ∧ Mem F w0 w [.box g475 39 [(.int .u32 r_0.Epoch), (.bool r_0.Diffuse), (.slice A0_2 r_0.Routes.length c0_2), (.slice A0_3 r_0.Stems.length c0_3), (.slice A0_4 r_0.Fluffed.length c0_4)]] ∧ Has 96 [(1, (.pointer (some (⟨g475, 0, none⟩)))), (5, (.int .i64 i896)), (95, (.bool t924))] a) ?_ ?_
        · refine draw (fun w' => Below w900.heap.size w900 w') [] rfl ?_
          intro w927 hw hS; replace hM := hM.ext hS; clear hw
          refine d_takef (i := 0) (L' := #[true, false, false, false, false, false, false, false, false, false, false, false, false, false, false, false, false, false, false, false, false, false]) rfl (by kernel_rfl) rfl (fun _ _ _ h => h) hA (by decide) (fun _ => hS) (fun a w' hA => run_field' Try.underlying39 rfl rfl Try.sizeOf36 (by decide) (hA.ev rfl)) ?_; clear hA; intro a hA
          refine rebase hS ?_; clear hS; intro hS
          refine d_take (i := 1) (L' := #[true, true, false, false, false, false, false, false, false, false, false, false, false, false, false, false, false, false, false, false, false, false]) rfl (by kernel_rfl) rfl (fun _ _ _ h => h) hA (by decide) rfl hS (fun a w' hA hS' => run_ld (hA.ev rfl) (run_loadS Try.isAgg36 ((At.seg1 (hM.box .z) 3 rfl).extB hS'))) ?_; clear hA; intro a hA
          refine d_takef (i := 2) (L' := #[true, true, true, false, false, false, false, false, false, false, false, false, false, false, false, false, false, false, false, false, false, false]) rfl (by kernel_rfl) rfl (fun _ _ _ h => h) hA (by decide) (fun _ => hS) (fun a w' hA => run_field' Try.underlying39 rfl rfl Try.sizeOf36 (by decide) (hA.ev rfl)) ?_; clear hA; intro a hA
          refine d_take (i := 3) (L' := #[true, true, true, true, false, false, false, false, false, false, false, false, false, false, false, false, false, false, false, false, false, false]) rfl (by kernel_rfl) rfl (fun _ _ _ h => h) hA (by decide) rfl hS (fun a w' hA hS' => run_ld (hA.ev rfl) (run_loadS Try.isAgg36 ((At.seg1 (hM.box .z) 3 rfl).extB hS'))) ?_; clear hA; intro a hA
          refine d_takef (i := 4) (L' := #[true, true, true, true, true, false, false, false, false, false, false, false, false, false, false, false, false, false, false, false, false, false]) rfl (by kernel_rfl) rfl (fun _ _ _ h => h) hA (by decide) (fun _ => hS) (fun a w' hA => run_move (hA.ev rfl)) ?_; clear hA; intro a hA
          obtain ⟨⟨hi929, hj930⟩, H925⟩ := ite_some H925
          obtain ⟨ad931, hq932, hat933⟩ := Row.elem' (p := pStem) (hM.ro hr0_3) (Eq.refl r_0.Stems.length) Stem.z i896 hi929 hj930
          refine d_takef (i := 5) (L' := #[true, true, true, true, true, true, false, false, false, false, false, false, false, false, false, false, false, false, false, false, false, false]) rfl (by kernel_rfl) rfl (fun _ _ _ h => h) hA (by decide) (fun _ => hS) (fun a w' hA => run_idx Try.underlying36 Try.sizeOf61 (hA.ev rfl) hq932 (hA.ev rfl) hi929 hj930) ?_; clear hA; intro a hA
          refine d_takef (i := 6) (L' := #[true, true, true, true, true, true, true, false, false, false, false, false, false, false, false, false, false, false, false, false, false, false]) rfl (by kernel_rfl) rfl (fun _ _ _ h => h) hA (by decide) (fun _ => hS) (fun a w' hA => run_field' Try.underlying61 rfl rfl Try.sizeOf34 (by decide) (hA.ev rfl)) ?_; clear hA; intro a hA
          refine d_take (i := 7) (L' := #[true, true, true, true, true, true, true, true, false, false, false, false, false, false, false, false, false, false, false, false, false, false]) rfl (by kernel_rfl) rfl (fun _ _ _ h => h) hA (by decide) rfl hS (fun a w' hA hS' => run_ld (hA.ev rfl) (run_loadP Try.isAgg34 Try.sizeOf34 ((Stem.at_ID (hat933)).extB hS'))) ?_; clear hA; intro a hA
          refine d_takef (i := 9) (L' := #[true, true, true, true, true, true, true, true, false, true, false, false, false, false, false, false, false, false, false, false, false, false]) rfl (by kernel_rfl) rfl (fun _ _ _ h => h) hA (by decide) (fun _ => hS) (fun a w' hA => run_move (hA.ev rfl)) ?_; clear hA; intro a hA
          obtain ⟨r934, H935, H925⟩ := Option.bind_eq_some_iff.1 H925
          refine d_one (i := 8) (L' := #[true, true, true, true, true, true, true, true, true, true, false, false, false, false, false, false, false, false, false, false, false, false]) (by kernel_rfl) rfl rfl (st_call Try.call37 hA [(.slice A0_3 r_0.Stems.length c0_3), (.agg (pHash.enc ((r_0.Stems.getD i896.toNat Stem.z).ID)).toArray)] rfl (by decide) (ref40_find.calls _ _ _ _ _ _ _ ((RoV.mk (hM.roC (Ms := []) hr0_3) (Eq.refl r_0.Stems.length) hc0_3)) (hM.front (Ms := [])) H935) ?_)
          clear hA; rintro _ w936 ⟨rfl, hMc⟩ a hA
          have hE := hMc.below; have hM := hM.call (Ms := []) hMc
          clear hMc; simp only [List.cons_append, List.nil_append] at hM
          replace hS := hS.trans (hE.mono hS.size)
          refine ⟨fun _ => hS, ?_⟩
          refine d_takef (i := 10) (L' := #[true, true, true, true, true, true, true, true, true, true, true, false, false, false, false, false, false, false, false, false, false, false]) rfl (by kernel_rfl) rfl (fun _ _ _ h => h) hA (by decide) (fun _ => hS) (fun a w' hA => run_bin (hA.ev rfl) (hA.ev rfl) (bin_neq _ _ _ _)) ?_; clear hA; intro a hA
          refine d_takef (i := 11) (L' := #[true, true, true, true, true, true, true, true, true, true, true, true, false, false, false, false, false, false, false, false, false, false]) rfl (by kernel_rfl) rfl (fun _ _ _ h => h) hA (by decide) (fun _ => hS) (fun a w' hA => run_move (hA.ev rfl)) ?_; clear hA; intro a hA
          refine bsplit (b := (r934 != i896)) (fun hb937 => ?_) (fun hb937 => ?_)
          · replace H925 := ite_t hb937 H925
            have hA := hA.re (t := 85) rfl (congrArg Value.bool hb937)
            refine d_skip (i := 12) (L' := #[true, true, true, true, true, true, true, true, true, true, true, true, true, false, false, false, false, false, false, false, false, false]) rfl (by kernel_rfl) rfl (fun _ _ _ h => h) rfl hA (by decide) (by decide) rfl rfl (fun _ => hS) ?_; clear hA; intro a hA
            refine d_skip (i := 13) (L' := #[true, true, true, true, true, true, true, true, true, true, true, true, true, true, false, false, false, false, false, false, false, false]) rfl (by kernel_rfl) rfl (fun _ _ _ h => h) rfl hA (by decide) (by decide) rfl rfl (fun _ => hS) ?_; clear hA; intro a hA
            refine d_skip (i := 14) (L' := #[true, true, true, true, true, true, true, true, true, true, true, true, true, true, true, false, false, false, false, false, false, false]) rfl (by kernel_rfl) rfl (fun _ _ _ h => h) rfl hA (by decide) (by decide) rfl rfl (fun _ => hS) ?_; clear hA; intro a hA
            refine d_skip (i := 15) (L' := #[true, true, true, true, true, true, true, true, true, true, true, true, true, true, true, true, false, false, false, false, false, false]) rfl (by kernel_rfl) rfl (fun _ _ _ h => h) rfl hA (by decide) (by decide) rfl rfl (fun _ => hS) ?_; clear hA; intro a hA
            refine d_skip (i := 16) (L' := #[true, true, true, true, true, true, true, true, true, true, true, true, true, true, true, true, true, false, false, false, false, false]) rfl (by kernel_rfl) rfl (fun _ _ _ h => h) rfl hA (by decide) (by decide) rfl rfl (fun _ => hS) ?_; clear hA; intro a hA
            refine d_skip (i := 17) (L' := #[true, true, true, true, true, true, true, true, true, true, true, true, true, true, true, true, true, true, false, false, false, false]) rfl (by kernel_rfl) rfl (fun _ _ _ h => h) rfl hA (by decide) (by decide) rfl rfl (fun _ => hS) ?_; clear hA; intro a hA
            refine d_skip (i := 18) (L' := #[true, true, true, true, true, true, true, true, true, true, true, true, true, true, true, true, true, true, true, false, false, false]) rfl (by kernel_rfl) rfl (fun _ _ _ h => h) rfl hA (by decide) (by decide) rfl rfl (fun _ => hS) ?_; clear hA; intro a hA
            refine d_skip (i := 19) (L' := #[true, true, true, true, true, true, true, true, true, true, true, true, true, true, true, true, true, true, true, true, false, false]) rfl (by kernel_rfl) rfl (fun _ _ _ h => h) rfl hA (by decide) (by decide) rfl rfl (fun _ => hS) ?_; clear hA; intro a hA
            refine d_one (i := 20) (L' := #[true, true, true, true, true, true, true, true, true, true, true, true, true, true, true, true, true, true, true, true, true, false]) (by kernel_rfl) rfl rfl (gate_off rfl (by decide) rfl hA (by decide) rfl rfl ?_); clear hA; intro a hA
            refine ⟨fun _ => hS, ?_⟩
            refine d_takef (i := 21) (L' := #[true, true, true, true, true, true, true, true, true, true, true, true, true, true, true, true, true, true, true, true, true, true]) rfl (by kernel_rfl) rfl (fun _ _ _ h => h) hA (by decide) (fun _ => hS) (fun a w' hA => run_pick (hA.ev rfl) (fun _ => hA.ev rfl) (fun h => Bool.noConfusion h)) ?_; clear hA; intro a hA
            refine d_done (by kernel_rfl) ?_
            exact ⟨true, Option.some.inj H925, hM, (((hA.nil.cons (hA.get 95 _ rfl)).cons (hA.get 5 _ rfl)).cons (hA.get 1 _ rfl))⟩
          · replace H925 := ite_f hb937 H925
            have hA := hA.re (t := 85) rfl (congrArg Value.bool hb937)
            refine d_takegf (i := 12) (L' := #[true, true, true, true, true, true, true, true, true, true, true, true, true, false, false, false, false, false, false, false, false, false]) rfl (by kernel_rfl) rfl (fun _ _ _ h => h) rfl hA (by decide) (by decide) rfl (fun _ => hS) (fun a w' hA => run_field' Try.underlying39 rfl rfl Try.sizeOf37 (by decide) (hA.ev rfl)) ?_; clear hA; intro a hA
            refine rebase hS ?_; clear hS; intro hS
            refine d_takeg (i := 13) (L' := #[true, true, true, true, true, true, true, true, true, true, true, true, true, true, false, false, false, false, false, false, false, false]) rfl (by kernel_rfl) rfl (fun _ _ _ h => h) rfl hA (by decide) (by decide) rfl rfl hS (fun a w' hA hS' => run_ld (hA.ev rfl) (run_loadS Try.isAgg37 ((At.seg1 (hM.box .z) 4 rfl).extB hS'))) ?_; clear hA; intro a hA
            refine d_takegf (i := 14) (L' := #[true, true, true, true, true, true, true, true, true, true, true, true, true, true, true, false, false, false, false, false, false, false]) rfl (by kernel_rfl) rfl (fun _ _ _ h => h) rfl hA (by decide) (by decide) rfl (fun _ => hS) (fun a w' hA => run_field' Try.underlying39 rfl rfl Try.sizeOf36 (by decide) (hA.ev rfl)) ?_; clear hA; intro a hA
            refine d_takeg (i := 15) (L' := #[true, true, true, true, true, true, true, true, true, true, true, true, true, true, true, true, false, false, false, false, false, false]) rfl (by kernel_rfl) rfl (fun _ _ _ h => h) rfl hA (by decide) (by decide) rfl rfl hS (fun a w' hA hS' => run_ld (hA.ev rfl) (run_loadS Try.isAgg36 ((At.seg1 (hM.box .z) 3 rfl).extB hS'))) ?_; clear hA; intro a hA
            refine d_takegf (i := 16) (L' := #[true, true, true, true, true, true, true, true, true, true, true, true, true, true, true, true, true, false, false, false, false, false]) rfl (by kernel_rfl) rfl (fun _ _ _ h => h) rfl hA (by decide) (by decide) rfl (fun _ => hS) (fun a w' hA => run_move (hA.ev rfl)) ?_; clear hA; intro a hA
            obtain ⟨⟨hi938, hj939⟩, H925⟩ := ite_some H925
            obtain ⟨ad940, hq941, hat942⟩ := Row.elem' (p := pStem) (hM.ro hr0_3) (Eq.refl r_0.Stems.length) Stem.z i896 hi938 hj939
            refine d_takegf (i := 17) (L' := #[true, true, true, true, true, true, true, true, true, true, true, true, true, true, true, true, true, true, false, false, false, false]) rfl (by kernel_rfl) rfl (fun _ _ _ h => h) rfl hA (by decide) (by decide) rfl (fun _ => hS) (fun a w' hA => run_idx Try.underlying36 Try.sizeOf61 (hA.ev rfl) hq941 (hA.ev rfl) hi938 hj939) ?_; clear hA; intro a hA
            refine d_takegf (i := 18) (L' := #[true, true, true, true, true, true, true, true, true, true, true, true, true, true, true, true, true, true, true, false, false, false]) rfl (by kernel_rfl) rfl (fun _ _ _ h => h) rfl hA (by decide) (by decide) rfl (fun _ => hS) (fun a w' hA => run_field' Try.underlying61 rfl rfl Try.sizeOf34 (by decide) (hA.ev rfl)) ?_; clear hA; intro a hA
            refine d_takeg (i := 19) (L' := #[true, true, true, true, true, true, true, true, true, true, true, true, true, true, true, true, true, true, true, true, false, false]) rfl (by kernel_rfl) rfl (fun _ _ _ h => h) rfl hA (by decide) (by decide) rfl rfl hS (fun a w' hA hS' => run_ld (hA.ev rfl) (run_loadP Try.isAgg34 Try.sizeOf34 ((Stem.at_ID (hat942)).extB hS'))) ?_; clear hA; intro a hA
            obtain ⟨r943, H944, H925⟩ := Option.bind_eq_some_iff.1 H925
            refine d_one (i := 20) (L' := #[true, true, true, true, true, true, true, true, true, true, true, true, true, true, true, true, true, true, true, true, true, false]) (by kernel_rfl) rfl rfl (gate_on rfl rfl hA (by decide) rfl (st_call Try.call36 hA [(.slice A0_4 r_0.Fluffed.length c0_4), (.agg (pHash.enc ((r_0.Stems.getD i896.toNat Stem.z).ID)).toArray)] rfl (by decide) (ref40_has.calls _ _ _ _ _ _ _ ((RoV.mk (hM.roC (Ms := []) hr0_4) (Eq.refl r_0.Fluffed.length) hc0_4)) (hM.front (Ms := [])) H944) ?_))
            clear hA; rintro _ w945 ⟨rfl, hMc⟩ a hA
            have hE := hMc.below; have hM := hM.call (Ms := []) hMc
            clear hMc; simp only [List.cons_append, List.nil_append] at hM
            replace hS := hS.trans (hE.mono hS.size)
            refine ⟨fun _ => hS, ?_⟩
            refine d_takef (i := 21) (L' := #[true, true, true, true, true, true, true, true, true, true, true, true, true, true, true, true, true, true, true, true, true, true]) rfl (by kernel_rfl) rfl (fun _ _ _ h => h) hA (by decide) (fun _ => hS) (fun a w' hA => run_pick (hA.ev rfl) (fun h => Bool.noConfusion h) (fun _ => hA.ev rfl)) ?_; clear hA; intro a hA
            refine d_done (by kernel_rfl) ?_
            exact ⟨r943, Option.some.inj H925, hM, (((hA.nil.cons (hA.get 95 _ rfl)).cons (hA.get 5 _ rfl)).cons (hA.get 1 _ rfl))⟩
        clear hM hA
        rintro a w946 ⟨t924, rfl, hM, hA⟩
        try dsimp only at H897
        refine TN ?_
        refine tcond (b := t924) hA rfl (fun hb947 => ?_) (fun hb947 => ?_)
        · replace H897 := ite_t hb947 H897
          refine wp_seq ?_
          refine wp_region_lit ?_
          refine L1 (stv hA (by decide) (run_assign (hA.ev rfl)) ?_)
          clear hA; intro a hA
          refine LQ ?_
          refine TN ?_
          refine wp_ret ?_
          obtain rfl := Option.some.inj H897
          dsimp only at H
          obtain rfl := Option.some.inj H
          refine BR ?_
          refine TR ?_
          refine TR ?_
          refine BR ?_
          refine TR ?_
          refine TR ?_
          exact ret_post1 (fn := Try.f35) hA rfl rfl ⟨_, rfl, rfl, (hM.sel [] rfl (by decide))⟩
        · replace H897 := ite_f hb947 H897
          refine wp_skip ?_
          refine BN ?_
          refine TN ?_
          refine wp_region_lit ?_
          refine L1 (stv hA (by decide) (run_move (hA.ev rfl)) ?_)
          clear hA; intro a hA
          refine L1 (stv hA (by decide) (run_bin (hA.ev rfl) (hA.ev rfl) (bin_add _ _ _ _)) ?_)
          clear hA; intro a hA
          refine L1 (stv hA (by decide) (run_assign (hA.ev rfl)) ?_)
          clear hA; intro a hA
          refine LQ ?_
          exact ⟨_, Nat.lt_succ_self m899, IntKind.i64.wrap (i896 + 1), H897, hM, ((hA.nil.cons (hA.get 5 _ rfl)).cons (hA.get 1 _ rfl))⟩
      · replace H897 := ite_f hb901 H897
        refine wp_exit ?_
        refine TX ?_
        refine TX ?_
        refine BX ?_
        exact ⟨Option.some.inj H897, (hM.sel [] rfl (by decide)), hA.nil⟩
    clear hM hA
    rintro a w948 ⟨rfl, hM, hA⟩
    try dsimp only at H
    refine TN ?_
    refine wp_seq ?_
    refine wp_region_lit ?_
    refine L1 (stv hA (by decide) (run_assign (hA.ev rfl)) ?_)
    clear hA; intro a hA
    refine LQ ?_
    refine TN ?_
    refine wp_ret ?_
    obtain rfl := Option.some.inj H
    exact ret_post1 (fn := Try.f35) hA rfl rfl ⟨_, rfl, rfl, hM⟩

def ref40_Fluff.f (k : Nat) (r_0 : Relay) (id_1 : (Vector Int 32)) : Option (Relay × Int) := ((ref40_Sound.f k (Relay.mk r_0.Epoch r_0.Diffuse r_0.Routes r_0.Stems r_0.Fluffed)).bind fun r121 => (if (!r121) = true then (some ((Relay.mk 0 false ([] : List Int) ([] : List Stem) ([] : List (Vector Int 32))), 6)) else ((ref40_has.f k r_0.Fluffed id_1).bind fun r129 => (if r129 = true then (some ((Relay.mk 0 false ([] : List Int) ([] : List Stem) ([] : List (Vector Int 32))), 150)) else (if (decide (((r_0.Fluffed.length : Nat) : Int) ≥ 2048)) = true then (some ((Relay.mk 0 false ([] : List Int) ([] : List Stem) ([] : List (Vector Int 32))), 380)) else ((ref40_Copied.f k (Relay.mk r_0.Epoch r_0.Diffuse r_0.Routes r_0.Stems r_0.Fluffed)).bind fun r142 => ((ref40_find.f k r_0.Stems id_1).bind fun r161 => (Option.bind (α := (List Stem)) (if (decide (r161 ≥ 0)) = true then (if 0 ≤ r161 ∧ r161 ≤ ((r_0.Stems.length : Nat) : Int) then (if 0 ≤ (IntKind.i64.wrap (r161 + 1)) ∧ (IntKind.i64.wrap (r161 + 1)) ≤ ((r_0.Stems.length : Nat) : Int) then (if (0 + r161.toNat) * 56 ≤ 140737488355328 then (if ((0 + r161.toNat) + (r_0.Stems.length - (IntKind.i64.wrap (r161 + 1)).toNat)) * 56 ≤ 140737488355328 then (some ((([] : List Stem) ++ (r_0.Stems.take r161.toNat)) ++ (r_0.Stems.drop ((IntKind.i64.wrap (r161 + 1)).toNat)))) else none) else none) else none) else none) else (some r142.Stems)) (fun xs195 => (if (r142.Fluffed.length + 1) * 32 ≤ 140737488355328 then (some ((Relay.mk r142.Epoch r142.Diffuse r142.Routes xs195 (r142.Fluffed ++ [id_1])), 0)) else none))))))))))
set_option maxHeartbeats 2000000 in
set_option maxRecDepth 100000 in
theorem ref40_Fluff.calls (k : Nat) (r_0 : Relay) (id_1 : (Vector Int 32)) (F : List (Option Nat)) (v0_2 : Value) (v0_3 : Value) (v0_4 : Value) (r : (Relay × Int)) (w0 : World) (h0_2 : RoV F (Pl.int .i64) w0 v0_2 r_0.Routes) (h0_3 : RoV F pStem w0 v0_3 r_0.Stems) (h0_4 : RoV F pHash w0 v0_4 r_0.Fluffed) (hM : Mem F w0 w0 []) (H : ref40_Fluff.f k r_0 id_1 = some r) :
    Calls Try.prog 16 #[(.agg #[(.int .u32 r_0.Epoch), (.bool r_0.Diffuse), v0_2, v0_3, v0_4]), (.agg (pHash.enc id_1).toArray)] w0 fun e w' => ∃ v, e = .returned v ∧ ∃ (ur_0_2 : Value) (ur_0_3 : Value) (ur_0_4 : Value), v = (.tuple #[(.agg #[(.int .u32 r.1.Epoch), (.bool r.1.Diffuse), ur_0_2, ur_0_3, ur_0_4]), (.int .i64 r.2)]) ∧ Mem F w0 w' [.row 3 (Pl.int .i64).sz ur_0_2 ((Pl.int .i64).flat r.1.Routes), .row 61 pStem.sz ur_0_3 (pStem.flat r.1.Stems), .row 34 pHash.sz ur_0_4 (pHash.flat r.1.Fluffed)] := by
  unfold ref40_Fluff.f at H
  obtain ⟨A0_2, c0_2, rfl, hr0_2, hc0_2⟩ := h0_2
  obtain ⟨A0_3, c0_3, rfl, hr0_3, hc0_3⟩ := h0_3
  obtain ⟨A0_4, c0_4, rfl, hr0_4, hc0_4⟩ := h0_4
  refine enterL (n := 53) [(.agg #[(.int .u32 r_0.Epoch), (.bool r_0.Diffuse), (.slice A0_2 r_0.Routes.length c0_2), (.slice A0_3 r_0.Stems.length c0_3), (.slice A0_4 r_0.Fluffed.length c0_4)]), (.agg (pHash.enc id_1).toArray)] Try.func16 rfl rfl rfl ?_
  intro a hA
  refine wp_seq ?_
  refine wp_region_lit ?_
  refine L1 (e_box (cs := [(.int .u32 r_0.Epoch), (.bool r_0.Diffuse), (.slice A0_2 r_0.Routes.length c0_2), (.slice A0_3 r_0.Stems.length c0_3), (.slice A0_4 r_0.Fluffed.length c0_4)]) hM hA rfl rfl (by decide) ?_)
  clear hM hA; intro w113 g112 hM hE  a hA
  refine L1 (e_box (cs := (pHash.enc id_1)) hM hA rfl rfl (by decide) ?_)
  clear hM hA; intro w116 g115 hM hE  a hA
  refine L1 (e_alloc (cs := [(.int .u32 0), (.bool false), (.slice none 0 0), (.slice none 0 0), (.slice none 0 0)]) hM zero39 rfl hA (by decide) ?_)
  clear hM hA; intro w119 g118 hM hE  a hA
  refine L1 (stv hA (by decide) (run_assign (hA.ev rfl)) ?_)
  clear hA; intro a hA
  refine LQ ?_
  refine TN ?_
  refine wp_seq ?_
  refine wp_block ?_
  refine wp_seq ?_
  refine wp_region_lit ?_
  refine L1 (stv hA (by decide) (run_ld (hA.ev rfl) (run_loadW Try.isAgg39 Try.sizeOf39 (by simp [Pl.len]; try rfl) (hM.box (.s (.s .z))))) ?_)
  clear hA; intro a hA
  obtain ⟨r121, H122, H⟩ := Option.bind_eq_some_iff.1 H
  refine L1 (st_call Try.call35 hA [(.agg #[(.int .u32 r_0.Epoch), (.bool r_0.Diffuse), (.slice A0_2 r_0.Routes.length c0_2), (.slice A0_3 r_0.Stems.length c0_3), (.slice A0_4 r_0.Fluffed.length c0_4)])] rfl (by decide) (ref40_Sound.calls _ (Relay.mk r_0.Epoch r_0.Diffuse r_0.Routes r_0.Stems r_0.Fluffed) _ _ _ _ _ _ ((RoV.mk (hM.roC (Ms := []) hr0_2) (Eq.refl r_0.Routes.length) hc0_2)) ((RoV.mk (hM.roC (Ms := []) hr0_3) (Eq.refl r_0.Stems.length) hc0_3)) ((RoV.mk (hM.roC (Ms := []) hr0_4) (Eq.refl r_0.Fluffed.length) hc0_4)) (hM.front (Ms := [])) H122) ?_)
  clear hA; rintro _ w123 ⟨rfl, hMc⟩ a hA
  have hE := hMc.below; have hM := hM.call (Ms := []) hMc
  clear hMc; simp only [List.cons_append, List.nil_append] at hM
  refine L1 (stv hA (by decide) (run_not (hA.ev rfl)) ?_)
  clear hA; intro a hA
  refine L1 (stv hA (by decide) (run_assign (hA.ev rfl)) ?_)
  clear hA; intro a hA
  refine LQ ?_
  refine TN ?_
  refine tcond (b := (!r121)) hA rfl (fun hb124 => ?_) (fun hb124 => ?_)
  · replace H := ite_t hb124 H
    refine wp_seq ?_
    refine wp_region_lit ?_
    refine L1 (stv hA (by decide) (run_build (cells := #[(.int .u32 0), (.bool false), (.slice none 0 0), (.slice none 0 0), (.slice none 0 0)]) [] zero39 Try.underlying39 (ss := [1, 1, 1, 1, 1]) ⟨Try.sizeOf35, Try.sizeOf4, Try.sizeOf22, Try.sizeOf36, Try.sizeOf37, trivial⟩ hA rfl (by rfl)) ?_)
    clear hA; intro a hA
    refine L1 (e_store (g := g118) (off := 0) (cur := [(.int .u32 0), (.bool false), (.slice none 0 0), (.slice none 0 0), (.slice none 0 0)]) (cs' := [(.int .u32 0), (.bool false), (.slice none 0 0), (.slice none 0 0), (.slice none 0 0)]) hM .z Try.sizeOf39 hA rfl (by simp [add_mk]) rfl (by first | rfl | simp [Value.cells, Pl.len]) (by simp [Value.cells, Value.oneCell']) (by first | exact Nat.le_of_ble_eq_true rfl | (simp [Pl.len]; done)) (spl_all (by first | rfl | simp [Value.cells, Pl.len])) ?_)
    clear hM hA; intro w125  hM hE  a hA
    refine L1 (stv hA (by decide) (run_assign (hA.ev rfl)) ?_)
    clear hA; intro a hA
    refine LQ ?_
    refine TN ?_
    refine wp_ret ?_
    have hM := hM.addnil 3 ((Pl.int .i64)).sz
    have hM := hM.addnil 61 (pStem).sz
    have hM := hM.addnil 34 (pHash).sz
    obtain rfl := Option.some.inj H
    refine BR ?_
    refine TR ?_
    exact ret_mix2 (fn := Try.f16) hA rfl (RV.cell rfl (run_loadW Try.isAgg39 Try.sizeOf39 (by simp [Pl.len]; try rfl) (hM.box (.s (.s (.s .z)))))) (RV.tmp rfl) ⟨_, rfl, (.slice none 0 0), (.slice none 0 0), (.slice none 0 0), rfl, (hM.sel [2, 1, 0] rfl (by decide))⟩
  · replace H := ite_f hb124 H
    refine wp_seq ?_
    refine wp_region_lit ?_
    refine L1 (stv hA (by decide) (run_field' Try.underlying39 rfl rfl Try.sizeOf37 (by decide) (hA.ev rfl)) ?_)
    clear hA; intro a hA
    refine L1 (stv hA (by decide) (run_ld (hA.ev rfl) (run_loadS Try.isAgg37 (At.seg1 (hM.box (.s (.s .z))) 4 rfl))) ?_)
    clear hA; intro a hA
    refine L1 (stv hA (by decide) (run_ld (hA.ev rfl) (run_loadP Try.isAgg34 Try.sizeOf34 (hM.box (.s .z)))) ?_)
    clear hA; intro a hA
    obtain ⟨r129, H130, H⟩ := Option.bind_eq_some_iff.1 H
    refine L1 (st_call Try.call36 hA [(.slice A0_4 r_0.Fluffed.length c0_4), (.agg (pHash.enc id_1).toArray)] rfl (by decide) (ref40_has.calls _ _ _ _ _ _ _ ((RoV.mk (hM.roC (Ms := []) hr0_4) (Eq.refl r_0.Fluffed.length) hc0_4)) (hM.front (Ms := [])) H130) ?_)
    clear hA; rintro _ w131 ⟨rfl, hMc⟩ a hA
    have hE := hMc.below; have hM := hM.call (Ms := []) hMc
    clear hMc; simp only [List.cons_append, List.nil_append] at hM
    refine L1 (stv hA (by decide) (run_assign (hA.ev rfl)) ?_)
    clear hA; intro a hA
    refine LQ ?_
    refine TN ?_
    refine tcond (b := r129) hA rfl (fun hb132 => ?_) (fun hb132 => ?_)
    · replace H := ite_t hb132 H
      refine wp_seq ?_
      refine wp_region_lit ?_
      refine L1 (stv hA (by decide) (run_build (cells := #[(.int .u32 0), (.bool false), (.slice none 0 0), (.slice none 0 0), (.slice none 0 0)]) [] zero39 Try.underlying39 (ss := [1, 1, 1, 1, 1]) ⟨Try.sizeOf35, Try.sizeOf4, Try.sizeOf22, Try.sizeOf36, Try.sizeOf37, trivial⟩ hA rfl (by rfl)) ?_)
      clear hA; intro a hA
      refine L1 (e_store (g := g118) (off := 0) (cur := [(.int .u32 0), (.bool false), (.slice none 0 0), (.slice none 0 0), (.slice none 0 0)]) (cs' := [(.int .u32 0), (.bool false), (.slice none 0 0), (.slice none 0 0), (.slice none 0 0)]) hM .z Try.sizeOf39 hA rfl (by simp [add_mk]) rfl (by first | rfl | simp [Value.cells, Pl.len]) (by simp [Value.cells, Value.oneCell']) (by first | exact Nat.le_of_ble_eq_true rfl | (simp [Pl.len]; done)) (spl_all (by first | rfl | simp [Value.cells, Pl.len])) ?_)
      clear hM hA; intro w133  hM hE  a hA
      refine L1 (stv hA (by decide) (run_assign (hA.ev rfl)) ?_)
      clear hA; intro a hA
      refine LQ ?_
      refine TN ?_
      refine wp_ret ?_
      have hM := hM.addnil 3 ((Pl.int .i64)).sz
      have hM := hM.addnil 61 (pStem).sz
      have hM := hM.addnil 34 (pHash).sz
      obtain rfl := Option.some.inj H
      refine BR ?_
      refine TR ?_
      exact ret_mix2 (fn := Try.f16) hA rfl (RV.cell rfl (run_loadW Try.isAgg39 Try.sizeOf39 (by simp [Pl.len]; try rfl) (hM.box (.s (.s (.s .z)))))) (RV.tmp rfl) ⟨_, rfl, (.slice none 0 0), (.slice none 0 0), (.slice none 0 0), rfl, (hM.sel [2, 1, 0] rfl (by decide))⟩
    · replace H := ite_f hb132 H
      refine wp_seq ?_
      refine wp_region_lit ?_
      refine L1 (stv hA (by decide) (run_field' Try.underlying39 rfl rfl Try.sizeOf37 (by decide) (hA.ev rfl)) ?_)
      clear hA; intro a hA
      refine L1 (stv hA (by decide) (run_ld (hA.ev rfl) (run_loadS Try.isAgg37 (At.seg1 (hM.box (.s (.s .z))) 4 rfl))) ?_)
      clear hA; intro a hA
      refine L1 (stv hA (by decide) (run_len_slice Try.underlying37 (hA.ev rfl)) ?_)
      clear hA; intro a hA
      refine L1 (stv hA (by decide) (run_bin (hA.ev rfl) (hA.ev rfl) (bin_geq _ _ _ _)) ?_)
      clear hA; intro a hA
      refine L1 (stv hA (by decide) (run_assign (hA.ev rfl)) ?_)
      clear hA; intro a hA
      refine LQ ?_
      refine TN ?_
      refine tcond (b := (decide (((r_0.Fluffed.length : Nat) : Int) ≥ 2048))) hA rfl (fun hb137 => ?_) (fun hb137 => ?_)
      · replace H := ite_t hb137 H
        refine wp_seq ?_
        refine wp_region_lit ?_
        refine L1 (stv hA (by decide) (run_build (cells := #[(.int .u32 0), (.bool false), (.slice none 0 0), (.slice none 0 0), (.slice none 0 0)]) [] zero39 Try.underlying39 (ss := [1, 1, 1, 1, 1]) ⟨Try.sizeOf35, Try.sizeOf4, Try.sizeOf22, Try.sizeOf36, Try.sizeOf37, trivial⟩ hA rfl (by rfl)) ?_)
        clear hA; intro a hA
        refine L1 (e_store (g := g118) (off := 0) (cur := [(.int .u32 0), (.bool false), (.slice none 0 0), (.slice none 0 0), (.slice none 0 0)]) (cs' := [(.int .u32 0), (.bool false), (.slice none 0 0), (.slice none 0 0), (.slice none 0 0)]) hM .z Try.sizeOf39 hA rfl (by simp [add_mk]) rfl (by first | rfl | simp [Value.cells, Pl.len]) (by simp [Value.cells, Value.oneCell']) (by first | exact Nat.le_of_ble_eq_true rfl | (simp [Pl.len]; done)) (spl_all (by first | rfl | simp [Value.cells, Pl.len])) ?_)
        clear hM hA; intro w138  hM hE  a hA
        refine L1 (stv hA (by decide) (run_assign (hA.ev rfl)) ?_)
        clear hA; intro a hA
        refine LQ ?_
        refine TN ?_
        refine wp_ret ?_
        have hM := hM.addnil 3 ((Pl.int .i64)).sz
        have hM := hM.addnil 61 (pStem).sz
        have hM := hM.addnil 34 (pHash).sz
        obtain rfl := Option.some.inj H
        refine BR ?_
        refine TR ?_
        exact ret_mix2 (fn := Try.f16) hA rfl (RV.cell rfl (run_loadW Try.isAgg39 Try.sizeOf39 (by simp [Pl.len]; try rfl) (hM.box (.s (.s (.s .z)))))) (RV.tmp rfl) ⟨_, rfl, (.slice none 0 0), (.slice none 0 0), (.slice none 0 0), rfl, (hM.sel [2, 1, 0] rfl (by decide))⟩
      · replace H := ite_f hb137 H
        refine wp_skip ?_
        refine BN ?_
        refine TN ?_
        refine wp_seq ?_
        refine wp_region_lit ?_
        refine L1 (stv hA (by decide) (run_ld (hA.ev rfl) (run_loadW Try.isAgg39 Try.sizeOf39 (by simp [Pl.len]; try rfl) (hM.box (.s (.s .z))))) ?_)
        clear hA; intro a hA
        obtain ⟨r142, H143, H⟩ := Option.bind_eq_some_iff.1 H
        refine L1 (st_call Try.call29 hA [(.agg #[(.int .u32 r_0.Epoch), (.bool r_0.Diffuse), (.slice A0_2 r_0.Routes.length c0_2), (.slice A0_3 r_0.Stems.length c0_3), (.slice A0_4 r_0.Fluffed.length c0_4)])] rfl (by decide) (ref40_Copied.calls _ (Relay.mk r_0.Epoch r_0.Diffuse r_0.Routes r_0.Stems r_0.Fluffed) _ _ _ _ _ _ ((RoV.mk (hM.roC (Ms := []) hr0_2) (Eq.refl r_0.Routes.length) hc0_2)) ((RoV.mk (hM.roC (Ms := []) hr0_3) (Eq.refl r_0.Stems.length) hc0_3)) ((RoV.mk (hM.roC (Ms := []) hr0_4) (Eq.refl r_0.Fluffed.length) hc0_4)) (hM.front (Ms := [])) H143) ?_)
        clear hA; rintro _ w144 ⟨v145, v146, v147, rfl, hMc⟩ a hA
        have hE := hMc.below; have hM := hM.call (Ms := []) hMc
        clear hMc; simp only [List.cons_append, List.nil_append] at hM
        obtain ⟨A149, c150, rfl⟩ := RowOk.form (hM.row (p := (Pl.int .i64)) .z)
        obtain ⟨A152, c153, rfl⟩ := RowOk.form (hM.row (p := pStem) (.s .z))
        obtain ⟨A155, c156, rfl⟩ := RowOk.form (hM.row (p := pHash) (.s (.s .z)))
        refine L1 (e_alloc (cs := [(.int .u32 0), (.bool false), (.slice none 0 0), (.slice none 0 0), (.slice none 0 0)]) hM zero39 rfl hA (by decide) ?_)
        clear hM hA; intro w158 g157 hM hE  a hA
        refine L1 (e_store (g := g157) (off := 0) (cur := [(.int .u32 0), (.bool false), (.slice none 0 0), (.slice none 0 0), (.slice none 0 0)]) (cs' := [(.int .u32 r142.Epoch), (.bool r142.Diffuse), (.slice A149 r142.Routes.length c150), (.slice A152 r142.Stems.length c153), (.slice A155 r142.Fluffed.length c156)]) hM .z Try.sizeOf39 hA rfl (by simp [add_mk]) rfl (by first | rfl | simp [Value.cells, Pl.len]) (by simp [Value.cells, Value.oneCell']) (by first | exact Nat.le_of_ble_eq_true rfl | (simp [Pl.len]; done)) (spl_all (by first | rfl | simp [Value.cells, Pl.len])) ?_)
        clear hM hA; intro w160  hM hE  a hA
        refine LQ ?_
        refine TN ?_
        refine wp_seq ?_
        refine wp_seq ?_
        refine wp_region_lit ?_
        refine L1 (stv hA (by decide) (run_field' Try.underlying39 rfl rfl Try.sizeOf36 (by decide) (hA.ev rfl)) ?_)
        clear hA; intro a hA
        refine L1 (stv hA (by decide) (run_ld (hA.ev rfl) (run_loadS Try.isAgg36 (At.seg1 (hM.box (.s (.s (.s (.s (.s (.s .z))))))) 3 rfl))) ?_)
        clear hA; intro a hA
        refine L1 (stv hA (by decide) (run_ld (hA.ev rfl) (run_loadP Try.isAgg34 Try.sizeOf34 (hM.box (.s (.s (.s (.s (.s .z)))))))) ?_)
        clear hA; intro a hA
        obtain ⟨r161, H162, H⟩ := Option.bind_eq_some_iff.1 H
        refine L1 (st_call Try.call37 hA [(.slice A0_3 r_0.Stems.length c0_3), (.agg (pHash.enc id_1).toArray)] rfl (by decide) (ref40_find.calls _ _ _ _ _ _ _ ((RoV.mk (hM.roC (Ms := []) hr0_3) (Eq.refl r_0.Stems.length) hc0_3)) (hM.front (Ms := [])) H162) ?_)
        clear hA; rintro _ w163 ⟨rfl, hMc⟩ a hA
        have hE := hMc.below; have hM := hM.call (Ms := []) hMc
        clear hMc; simp only [List.cons_append, List.nil_append] at hM
        refine L1 (stv hA (by decide) (run_assign (hA.ev rfl)) ?_)
        clear hA; intro a hA
        refine LQ ?_
        refine TN ?_
        refine wp_seq ?_
        refine wp_region_lit ?_
        refine L1 (stv hA (by decide) (run_move (hA.ev rfl)) ?_)
        clear hA; intro a hA
        refine L1 (stv hA (by decide) (run_bin (hA.ev rfl) (hA.ev rfl) (bin_geq _ _ _ _)) ?_)
        clear hA; intro a hA
        refine LQ ?_
        refine TN ?_
        obtain ⟨o197, H196, H⟩ := Option.bind_eq_some_iff.1 H
        refine cutC (fun a w => ∃ (xs195 : (List Stem)) (v192 : Value), xs195 = o197 ∧ Mem F w0 w [.box g115 34 (pHash.enc id_1), .box g118 39 [(.int .u32 0), (.bool false), (.slice none 0 0), (.slice none 0 0), (.slice none 0 0)], .box g157 39 [(.int .u32 r142.Epoch), (.bool r142.Diffuse), (.slice A149 r142.Routes.length c150), v192, (.slice A155 r142.Fluffed.length c156)], .row 3 (Pl.int .i64).sz (.slice A149 r142.Routes.length c150) ((Pl.int .i64).flat r142.Routes), .row 61 pStem.sz v192 (pStem.flat xs195), .row 34 pHash.sz (.slice A155 r142.Fluffed.length c156) (pHash.flat r142.Fluffed)] ∧ Has 53 [(3, (.pointer (some (⟨g115, 0, none⟩)))), (4, (.pointer (some (⟨g118, 0, none⟩)))), (6, (.pointer (some (⟨g157, 0, none⟩))))] a) ?_ ?_
        · refine tcond (b := (decide (r161 ≥ 0))) hA rfl (fun hb198 => ?_) (fun hb198 => ?_)
          · replace H196 := ite_t hb198 H196
            refine draw (fun w' => Below w163.heap.size w163 w') [13] rfl ?_
            intro w199 hw hS; replace hM := hM.ext hS; clear hw
            refine d_takef (i := 1) (L' := #[false, true, false, false, false, false, false, false, false, false, false, false, false, false]) rfl (by kernel_rfl) rfl (fun _ _ _ h => h) hA (by decide) (fun _ => hS) (fun a w' hA => run_field' Try.underlying39 rfl rfl Try.sizeOf36 (by decide) (hA.ev rfl)) ?_; clear hA; intro a hA
            refine rebase hS ?_; clear hS; intro hS
            refine d_take (i := 2) (L' := #[false, true, true, false, false, false, false, false, false, false, false, false, false, false]) rfl (by kernel_rfl) rfl (fun _ _ _ h => h) hA (by decide) rfl hS (fun a w' hA hS' => run_ld (hA.ev rfl) (run_loadS Try.isAgg36 ((At.seg1 (hM.box (.s (.s (.s (.s (.s (.s .z))))))) 3 rfl).extB hS'))) ?_; clear hA; intro a hA
            refine d_takef (i := 3) (L' := #[false, true, true, true, false, false, false, false, false, false, false, false, false, false]) rfl (by kernel_rfl) rfl (fun _ _ _ h => h) hA (by decide) (fun _ => hS) (fun a w' hA => run_move (hA.ev rfl)) ?_; clear hA; intro a hA
            obtain ⟨⟨hi201, hj202⟩, H196⟩ := ite_some H196
            refine d_takef (i := 4) (L' := #[false, true, true, true, true, false, false, false, false, false, false, false, false, false]) rfl (by kernel_rfl) rfl (fun _ _ _ h => h) hA (by decide) (fun _ => hS) (fun a w' hA => run_hi Try.underlying36 Try.sizeOf61 hc0_3 hi201 hj202 (hA.ev rfl) (hA.ev rfl)) ?_; clear hA; intro a hA
            refine d_takef (i := 6) (L' := #[false, true, true, true, true, false, true, false, false, false, false, false, false, false]) rfl (by kernel_rfl) rfl (fun _ _ _ h => h) hA (by decide) (fun _ => hS) (fun a w' hA => run_field' Try.underlying39 rfl rfl Try.sizeOf36 (by decide) (hA.ev rfl)) ?_; clear hA; intro a hA
            refine d_take (i := 7) (L' := #[false, true, true, true, true, false, true, true, false, false, false, false, false, false]) rfl (by kernel_rfl) rfl (fun _ _ _ h => h) hA (by decide) rfl hS (fun a w' hA hS' => run_ld (hA.ev rfl) (run_loadS Try.isAgg36 ((At.seg1 (hM.box (.s (.s (.s (.s (.s (.s .z))))))) 3 rfl).extB hS'))) ?_; clear hA; intro a hA
            refine d_takef (i := 8) (L' := #[false, true, true, true, true, false, true, true, true, false, false, false, false, false]) rfl (by kernel_rfl) rfl (fun _ _ _ h => h) hA (by decide) (fun _ => hS) (fun a w' hA => run_move (hA.ev rfl)) ?_; clear hA; intro a hA
            refine d_takef (i := 9) (L' := #[false, true, true, true, true, false, true, true, true, true, false, false, false, false]) rfl (by kernel_rfl) rfl (fun _ _ _ h => h) hA (by decide) (fun _ => hS) (fun a w' hA => run_bin (hA.ev rfl) (hA.ev rfl) (bin_add _ _ _ _)) ?_; clear hA; intro a hA
            obtain ⟨⟨hi203, hj204⟩, H196⟩ := ite_some H196
            refine d_takef (i := 10) (L' := #[false, true, true, true, true, false, true, true, true, true, true, false, false, false]) rfl (by kernel_rfl) rfl (fun _ _ _ h => h) hA (by decide) (fun _ => hS) (fun a w' hA => run_lo Try.underlying36 Try.sizeOf61 hc0_3 hi203 hj204 (hA.ev rfl) (hA.ev rfl)) ?_; clear hA; intro a hA
            refine d_one (i := 0) (L' := #[true, true, true, true, true, false, true, true, true, true, true, false, false, false]) (by kernel_rfl) rfl rfl (e_lit0L elt36 hM hA (by decide) ?_)
            clear hM hA; intro w206 g205 hM hE hlo207 a hA
            have hlw208 : ∀ k, Value.ownBlock (.slice (some ⟨g205, 0, none⟩) 0 0) = some k → w199.heap.size ≤ k := fun k hk => by cases hk; exact Nat.le_trans hS.size hlo207
            replace hS := hS.trans (hE.mono hS.size)
            refine ⟨fun _ => hS, ?_⟩
            obtain ⟨hl211, H196⟩ := ite_some H196
            refine d_one (i := 5) (L' := #[true, true, true, true, true, true, true, true, true, true, true, false, false, false]) (by kernel_rfl) rfl rfl (e_appendL elt36 hM (fun _ => .z) (Src.row Try.underlying36 (Row.take (hM.ro hr0_3) r161.toNat) (len_take (Eq.refl r_0.Stems.length) (by omega))) hl211 hA rfl rfl (by decide) ?_)
            clear hM hA; intro w212 A209 c210 hM hE hlo213 a hA
            have hlw214 : ∀ k, Value.ownBlock (.slice A209 (0 + r161.toNat) c210) = some k → w199.heap.size ≤ k := hlo213 _ hS.size hlw208
            replace hS := hS.grown hE hS.size hlw208
            refine ⟨fun _ => hS, ?_⟩
            obtain ⟨hl217, H196⟩ := ite_some H196
            refine d_one (i := 11) (L' := #[true, true, true, true, true, true, true, true, true, true, true, true, false, false]) (by kernel_rfl) rfl rfl (e_appendL elt36 hM (fun _ => .z) (Src.row Try.underlying36 (Row.drop' (c := c0_3) (hM.ro hr0_3) (by have hh1 := (Eq.refl r_0.Stems.length); omega) (by have hh1 := (Eq.refl r_0.Stems.length); have hh2 := hc0_3; omega)) (len_drop (Eq.refl r_0.Stems.length))) hl217 hA rfl rfl (by decide) ?_)
            clear hM hA; intro w218 A215 c216 hM hE hlo219 a hA
            have hlw220 : ∀ k, Value.ownBlock (.slice A215 ((0 + r161.toNat) + (r_0.Stems.length - (IntKind.i64.wrap (r161 + 1)).toNat)) c216) = some k → w199.heap.size ≤ k := hlo219 _ hS.size hlw214
            replace hS := hS.grown hE hS.size hlw214
            refine ⟨fun _ => hS, ?_⟩
            refine d_takef (i := 12) (L' := #[true, true, true, true, true, true, true, true, true, true, true, true, true, false]) rfl (by kernel_rfl) rfl (fun _ _ _ h => h) hA (by decide) (fun _ => hS) (fun a w' hA => run_field' Try.underlying39 rfl rfl Try.sizeOf36 (by decide) (hA.ev rfl)) ?_; clear hA; intro a hA
            refine d_one (i := 13) (L' := #[true, true, true, true, true, true, true, true, true, true, true, true, true, true]) (by kernel_rfl) rfl rfl (e_store (g := g157) (off := 3) (cur := [(.int .u32 r142.Epoch), (.bool r142.Diffuse), (.slice A149 r142.Routes.length c150), (.slice A152 r142.Stems.length c153), (.slice A155 r142.Fluffed.length c156)]) (cs' := [(.int .u32 r142.Epoch), (.bool r142.Diffuse), (.slice A149 r142.Routes.length c150), (.slice A215 ((0 + r161.toNat) + (r_0.Stems.length - (IntKind.i64.wrap (r161 + 1)).toNat)) c216), (.slice A155 r142.Fluffed.length c156)]) hM (.s .z) Try.sizeOf36 hA rfl (by simp [add_mk]) rfl (by first | rfl | simp [Value.cells, Pl.len]) (one_val rfl) (by first | exact Nat.le_of_ble_eq_true rfl | (simp [Pl.len]; done)) (rfl) ?_)
            clear hM hA; intro w221  hM hE  a hA
            refine ⟨fun h => absurd h (by decide), ?_⟩
            refine d_done (by kernel_rfl) ?_
            exact ⟨((([] : List Stem) ++ (r_0.Stems.take r161.toNat)) ++ (r_0.Stems.drop ((IntKind.i64.wrap (r161 + 1)).toNat))), (.slice A215 ((0 + r161.toNat) + (r_0.Stems.length - (IntKind.i64.wrap (r161 + 1)).toNat)) c216), Option.some.inj H196, (hM.sel [6, 5, 1, 2, 0, 4] rfl (by decide)), (((hA.nil.cons (hA.get 6 _ rfl)).cons (hA.get 4 _ rfl)).cons (hA.get 3 _ rfl))⟩
          · replace H196 := ite_f hb198 H196
            refine wp_skip ?_
            exact ⟨r142.Stems, (.slice A152 r142.Stems.length c153), Option.some.inj H196, (hM.sel [5, 4, 0, 1, 2, 3] rfl (by decide)), (((hA.nil.cons (hA.get 6 _ rfl)).cons (hA.get 4 _ rfl)).cons (hA.get 3 _ rfl))⟩
        clear hM hA
        rintro a w222 ⟨xs195, v192, rfl, hM, hA⟩
        try dsimp only at H
        obtain ⟨A193, c194, rfl⟩ := RowOk.form (hM.row (p := pStem) (.s (.s (.s (.s .z)))))
        refine TN ?_
        refine wp_seq ?_
        refine wp_region_lit ?_
        refine L1 (stv hA (by decide) (run_field' Try.underlying39 rfl rfl Try.sizeOf37 (by decide) (hA.ev rfl)) ?_)
        clear hA; intro a hA
        refine L1 (stv hA (by decide) (run_ld (hA.ev rfl) (run_loadS Try.isAgg37 (At.seg1 (hM.box (.s (.s .z))) 4 rfl))) ?_)
        clear hA; intro a hA
        refine L1 (stv hA (by decide) (run_ld (hA.ev rfl) (run_loadP Try.isAgg34 Try.sizeOf34 (hM.box .z))) ?_)
        clear hA; intro a hA
        refine L1 (e_litN [id_1] [(.agg (pHash.enc id_1).toArray)] elt37 hM rfl (by decide) hA rfl rfl (List.cons_ne_nil _ _) (by decide) ?_)
        clear hM hA; intro w224 g223 hM hE  a hA
        obtain ⟨hl228, H⟩ := ite_some H
        refine L1 (e_append elt37 hM (fun _ => (.s (.s (.s (.s (.s (.s .z))))))) (Src.row Try.underlying37 (RowOk.row (hM.row (p := pHash) .z)) (RowOk.len (hM.row (p := pHash) .z))) hl228 hA rfl rfl (by decide) ?_)
        clear hM hA; intro w229 A226 c227 hM hE  a hA
        refine L1 (stv hA (by decide) (run_field' Try.underlying39 rfl rfl Try.sizeOf37 (by decide) (hA.ev rfl)) ?_)
        clear hA; intro a hA
        refine L1 (e_store (g := g157) (off := 4) (cur := [(.int .u32 r142.Epoch), (.bool r142.Diffuse), (.slice A149 r142.Routes.length c150), (.slice A193 xs195.length c194), (.slice A155 r142.Fluffed.length c156)]) (cs' := [(.int .u32 r142.Epoch), (.bool r142.Diffuse), (.slice A149 r142.Routes.length c150), (.slice A193 xs195.length c194), (.slice A226 (r142.Fluffed.length + 1) c227)]) hM (.s (.s (.s .z))) Try.sizeOf37 hA rfl (by simp [add_mk]) rfl (by first | rfl | simp [Value.cells, Pl.len]) (one_val rfl) (by first | exact Nat.le_of_ble_eq_true rfl | (simp [Pl.len]; done)) (rfl) ?_)
        clear hM hA; intro w230  hM hE  a hA
        refine LQ ?_
        refine TN ?_
        refine wp_seq ?_
        refine wp_region_lit ?_
        refine L1 (stv hA (by decide) (run_ld (hA.ev rfl) (run_loadW Try.isAgg39 Try.sizeOf39 (by simp [Pl.len]; try rfl) (hM.box (.s (.s (.s .z)))))) ?_)
        clear hA; intro a hA
        refine L1 (e_store (g := g118) (off := 0) (cur := [(.int .u32 0), (.bool false), (.slice none 0 0), (.slice none 0 0), (.slice none 0 0)]) (cs' := [(.int .u32 r142.Epoch), (.bool r142.Diffuse), (.slice A149 r142.Routes.length c150), (.slice A193 xs195.length c194), (.slice A226 (r142.Fluffed.length + 1) c227)]) hM (.s (.s .z)) Try.sizeOf39 hA rfl (by simp [add_mk]) rfl (by first | rfl | simp [Value.cells, Pl.len]) (by simp [Value.cells, Value.oneCell']) (by first | exact Nat.le_of_ble_eq_true rfl | (simp [Pl.len]; done)) (spl_all (by first | rfl | simp [Value.cells, Pl.len])) ?_)
        clear hM hA; intro w231  hM hE  a hA
        refine L1 (stv hA (by decide) (run_assign (hA.ev rfl)) ?_)
        clear hA; intro a hA
        refine LQ ?_
        refine TN ?_
        refine wp_ret ?_
        obtain rfl := Option.some.inj H
        exact ret_mix2 (fn := Try.f16) hA rfl (RV.cell rfl (run_loadW Try.isAgg39 Try.sizeOf39 (by simp [Pl.len]; try rfl) (hM.box (.s (.s .z))))) (RV.tmp rfl) ⟨_, rfl, (.slice A149 r142.Routes.length c150), (.slice A193 xs195.length c194), (.slice A226 (r142.Fluffed.length + 1) c227), rfl, (hM.sel [4, 5, 6] rfl (by decide))⟩

def ref40_SameHashes.l0 (a_0 : (List (Vector Int 32))) (b_1 : (List (Vector Int 32))) : Nat → Int → Option (Out Bool (Unit))
  | 0, _ => none
  | k + 1, i135 => (if (decide (i135 < ((a_0.length : Nat) : Int))) = true then (if 0 ≤ i135 ∧ i135 < ((a_0.length : Nat) : Int) then (if 0 ≤ i135 ∧ i135 < ((b_1.length : Nat) : Int) then (if (!((a_0.getD i135.toNat (Vector.replicate 32 0 : Vector Int 32)) == (b_1.getD i135.toNat (Vector.replicate 32 0 : Vector Int 32)))) = true then (some (.ret false)) else (ref40_SameHashes.l0 a_0 b_1 k (IntKind.i64.wrap (i135 + 1)))) else none) else none) else (some (.go ())))
def ref40_SameHashes.f (k : Nat) (a_0 : (List (Vector Int 32))) (b_1 : (List (Vector Int 32))) : Option Bool := (if (((a_0.length : Nat) : Int) != ((b_1.length : Nat) : Int)) = true then (some false) else (Option.bind (α := Out Bool (Unit)) (ref40_SameHashes.l0 a_0 b_1 k 0) (fun o => match o with | .ret r => some r | .go _ => (some true))))
set_option maxHeartbeats 2000000 in
set_option maxRecDepth 100000 in
theorem ref40_SameHashes.calls (k : Nat) (a_0 : (List (Vector Int 32))) (b_1 : (List (Vector Int 32))) (F : List (Option Nat)) (v0 : Value) (v1 : Value) (r : Bool) (w0 : World) (h0 : RoV F pHash w0 v0 a_0) (h1 : RoV F pHash w0 v1 b_1) (hM : Mem F w0 w0 []) (H : ref40_SameHashes.f k a_0 b_1 = some r) :
    Calls Try.prog 20 #[v0, v1] w0 fun e w' => ∃ v, e = .returned v ∧ v = (.bool r) ∧ Mem F w0 w' [] := by
  unfold ref40_SameHashes.f at H
  obtain ⟨A0, c0, rfl, hr0, hc0⟩ := h0
  obtain ⟨A1, c1, rfl, hr1, hc1⟩ := h1
  refine enterL (n := 26) [(.slice A0 a_0.length c0), (.slice A1 b_1.length c1)] Try.func20 rfl rfl rfl ?_
  intro a hA
  refine wp_seq ?_
  refine wp_region_lit ?_
  refine L1 (stv hA (by decide) (run_assign (hA.ev rfl)) ?_)
  clear hA; intro a hA
  refine LQ ?_
  refine TN ?_
  refine wp_seq ?_
  refine wp_seq ?_
  refine wp_region_lit ?_
  refine L1 (stv hA (by decide) (run_move (hA.ev rfl)) ?_)
  clear hA; intro a hA
  refine L1 (stv hA (by decide) (run_len_slice Try.underlying37 (hA.ev rfl)) ?_)
  clear hA; intro a hA
  refine L1 (stv hA (by decide) (run_move (hA.ev rfl)) ?_)
  clear hA; intro a hA
  refine L1 (stv hA (by decide) (run_len_slice Try.underlying37 (hA.ev rfl)) ?_)
  clear hA; intro a hA
  refine L1 (stv hA (by decide) (run_bin (hA.ev rfl) (hA.ev rfl) (bin_neq _ _ _ _)) ?_)
  clear hA; intro a hA
  refine LQ ?_
  refine TN ?_
  refine tcond (b := (((a_0.length : Nat) : Int) != ((b_1.length : Nat) : Int))) hA rfl (fun hb78 => ?_) (fun hb78 => ?_)
  · replace H := ite_t hb78 H
    refine wp_seq ?_
    refine wp_region_lit ?_
    refine L1 (stv hA (by decide) (run_assign (hA.ev rfl)) ?_)
    clear hA; intro a hA
    refine LQ ?_
    refine TN ?_
    refine wp_ret ?_
    obtain rfl := Option.some.inj H
    refine TR ?_
    exact ret_post1 (fn := Try.f20) hA rfl rfl ⟨_, rfl, rfl, hM⟩
  · replace H := ite_f hb78 H
    refine wp_skip ?_
    refine TN ?_
    refine wp_seq ?_
    refine wp_seq ?_
    refine wp_region_lit ?_
    refine L1 (stv hA (by decide) (run_assign (hA.ev rfl)) ?_)
    clear hA; intro a hA
    refine LQ ?_
    refine TN ?_
    obtain ⟨o137, H136, H⟩ := Option.bind_eq_some_iff.1 H
    refine cutC (fun a w => (.go ()) = o137 ∧ Mem F w0 w [] ∧ Has 26 [] a) ?_ ?_
    · refine wp_block ?_
      refine wp_loop_ghost (fun m a w => ∃ (i135 : Int), ref40_SameHashes.l0 a_0 b_1 m i135 = some o137 ∧ Mem F w0 w [] ∧ Has 26 [(0, (.slice A0 a_0.length c0)), (1, (.slice A1 b_1.length c1)), (5, (.int .i64 i135))] a) k ⟨0, H136, hM, (((hA.nil.cons (hA.get 5 _ rfl)).cons (hA.get 1 _ rfl)).cons (hA.get 0 _ rfl))⟩ ?_
      clear hM hA; rintro m138 a w139 ⟨i135, H136, hM, hA⟩
      cases m138 with
      | zero => exact absurd H136 (by simp [ref40_SameHashes.l0])
      | succ m138 =>
      rw [ref40_SameHashes.l0] at H136
      refine wp_seq ?_
      refine wp_seq ?_
      refine wp_region_lit ?_
      refine L1 (stv hA (by decide) (run_move (hA.ev rfl)) ?_)
      clear hA; intro a hA
      refine L1 (stv hA (by decide) (run_move (hA.ev rfl)) ?_)
      clear hA; intro a hA
      refine L1 (stv hA (by decide) (run_len_slice Try.underlying37 (hA.ev rfl)) ?_)
      clear hA; intro a hA
      refine L1 (stv hA (by decide) (run_bin (hA.ev rfl) (hA.ev rfl) (bin_lss _ _ _ _)) ?_)
      clear hA; intro a hA
      refine LQ ?_
      refine TN ?_
      refine tcond (b := (decide (i135 < ((a_0.length : Nat) : Int)))) hA rfl (fun hb140 => ?_) (fun hb140 => ?_)
      · replace H136 := ite_t hb140 H136
        refine wp_skip ?_
        refine TN ?_
        refine wp_seq ?_
        refine wp_block ?_
        refine wp_seq ?_
        refine draw (fun w' => Below w139.heap.size w139 w') [] rfl ?_
        intro w141 hw hS; replace hM := hM.ext hS; clear hw
        refine d_takef (i := 0) (L' := #[true, false, false, false, false, false, false, false, false]) rfl (by kernel_rfl) rfl (fun _ _ _ h => h) hA (by decide) (fun _ => hS) (fun a w' hA => run_move (hA.ev rfl)) ?_; clear hA; intro a hA
        refine d_takef (i := 1) (L' := #[true, true, false, false, false, false, false, false, false]) rfl (by kernel_rfl) rfl (fun _ _ _ h => h) hA (by decide) (fun _ => hS) (fun a w' hA => run_move (hA.ev rfl)) ?_; clear hA; intro a hA
        obtain ⟨⟨hi143, hj144⟩, H136⟩ := ite_some H136
        obtain ⟨ad145, hq146, hat147⟩ := Row.elem' (p := pHash) (hM.ro hr0) (Eq.refl a_0.length) (Vector.replicate 32 0 : Vector Int 32) i135 hi143 hj144
        refine d_takef (i := 2) (L' := #[true, true, true, false, false, false, false, false, false]) rfl (by kernel_rfl) rfl (fun _ _ _ h => h) hA (by decide) (fun _ => hS) (fun a w' hA => run_idx Try.underlying37 Try.sizeOf34 (hA.ev rfl) hq146 (hA.ev rfl) hi143 hj144) ?_; clear hA; intro a hA
        refine rebase hS ?_; clear hS; intro hS
        refine d_take (i := 3) (L' := #[true, true, true, true, false, false, false, false, false]) rfl (by kernel_rfl) rfl (fun _ _ _ h => h) hA (by decide) rfl hS (fun a w' hA hS' => run_ld (hA.ev rfl) (run_loadP Try.isAgg34 Try.sizeOf34 ((hat147).extB hS'))) ?_; clear hA; intro a hA
        refine d_takef (i := 4) (L' := #[true, true, true, true, true, false, false, false, false]) rfl (by kernel_rfl) rfl (fun _ _ _ h => h) hA (by decide) (fun _ => hS) (fun a w' hA => run_move (hA.ev rfl)) ?_; clear hA; intro a hA
        refine d_takef (i := 5) (L' := #[true, true, true, true, true, true, false, false, false]) rfl (by kernel_rfl) rfl (fun _ _ _ h => h) hA (by decide) (fun _ => hS) (fun a w' hA => run_move (hA.ev rfl)) ?_; clear hA; intro a hA
        obtain ⟨⟨hi148, hj149⟩, H136⟩ := ite_some H136
        obtain ⟨ad150, hq151, hat152⟩ := Row.elem' (p := pHash) (hM.ro hr1) (Eq.refl b_1.length) (Vector.replicate 32 0 : Vector Int 32) i135 hi148 hj149
        refine d_takef (i := 6) (L' := #[true, true, true, true, true, true, true, false, false]) rfl (by kernel_rfl) rfl (fun _ _ _ h => h) hA (by decide) (fun _ => hS) (fun a w' hA => run_idx Try.underlying37 Try.sizeOf34 (hA.ev rfl) hq151 (hA.ev rfl) hi148 hj149) ?_; clear hA; intro a hA
        refine d_take (i := 7) (L' := #[true, true, true, true, true, true, true, true, false]) rfl (by kernel_rfl) rfl (fun _ _ _ h => h) hA (by decide) rfl hS (fun a w' hA hS' => run_ld (hA.ev rfl) (run_loadP Try.isAgg34 Try.sizeOf34 ((hat152).extB hS'))) ?_; clear hA; intro a hA
        refine d_takef (i := 8) (L' := #[true, true, true, true, true, true, true, true, true]) rfl (by kernel_rfl) rfl (fun _ _ _ h => h) hA (by decide) (fun _ => hS) (fun a w' hA => run_aggneq eq_Hash rfl (by kernel_rfl) (hA.ev rfl) (hA.ev rfl)) ?_; clear hA; intro a hA
        refine d_done (by kernel_rfl) ?_
        refine TN ?_
        refine tcond (b := (!((a_0.getD i135.toNat (Vector.replicate 32 0 : Vector Int 32)) == (b_1.getD i135.toNat (Vector.replicate 32 0 : Vector Int 32))))) hA rfl (fun hb153 => ?_) (fun hb153 => ?_)
        · replace H136 := ite_t hb153 H136
          refine wp_seq ?_
          refine wp_region_lit ?_
          refine L1 (stv hA (by decide) (run_assign (hA.ev rfl)) ?_)
          clear hA; intro a hA
          refine LQ ?_
          refine TN ?_
          refine wp_ret ?_
          obtain rfl := Option.some.inj H136
          dsimp only at H
          obtain rfl := Option.some.inj H
          refine BR ?_
          refine TR ?_
          refine TR ?_
          refine BR ?_
          refine TR ?_
          refine TR ?_
          exact ret_post1 (fn := Try.f20) hA rfl rfl ⟨_, rfl, rfl, hM⟩
        · replace H136 := ite_f hb153 H136
          refine wp_skip ?_
          refine BN ?_
          refine TN ?_
          refine wp_region_lit ?_
          refine L1 (stv hA (by decide) (run_move (hA.ev rfl)) ?_)
          clear hA; intro a hA
          refine L1 (stv hA (by decide) (run_bin (hA.ev rfl) (hA.ev rfl) (bin_add _ _ _ _)) ?_)
          clear hA; intro a hA
          refine L1 (stv hA (by decide) (run_assign (hA.ev rfl)) ?_)
          clear hA; intro a hA
          refine LQ ?_
          exact ⟨_, Nat.lt_succ_self m138, IntKind.i64.wrap (i135 + 1), H136, hM, (((hA.nil.cons (hA.get 5 _ rfl)).cons (hA.get 1 _ rfl)).cons (hA.get 0 _ rfl))⟩
      · replace H136 := ite_f hb140 H136
        refine wp_exit ?_
        refine TX ?_
        refine TX ?_
        refine BX ?_
        exact ⟨Option.some.inj H136, hM, hA.nil⟩
    clear hM hA
    rintro a w154 ⟨rfl, hM, hA⟩
    try dsimp only at H
    refine TN ?_
    refine wp_seq ?_
    refine wp_region_lit ?_
    refine L1 (stv hA (by decide) (run_assign (hA.ev rfl)) ?_)
    clear hA; intro a hA
    refine LQ ?_
    refine TN ?_
    refine wp_ret ?_
    obtain rfl := Option.some.inj H
    exact ret_post1 (fn := Try.f20) hA rfl rfl ⟨_, rfl, rfl, hM⟩

def ref40_Same.l0 (a_0 : Relay) (b_1 : Relay) : Nat → Int → Option (Out Bool (Unit))
  | 0, _ => none
  | k + 1, i201 => (if (decide (i201 < ((a_0.Stems.length : Nat) : Int))) = true then (if 0 ≤ i201 ∧ i201 < ((a_0.Stems.length : Nat) : Int) then (if 0 ≤ i201 ∧ i201 < ((b_1.Stems.length : Nat) : Int) then (if (!((a_0.Stems.getD i201.toNat Stem.z) == (b_1.Stems.getD i201.toNat Stem.z))) = true then (some (.ret false)) else (ref40_Same.l0 a_0 b_1 k (IntKind.i64.wrap (i201 + 1)))) else none) else none) else (some (.go ())))
def ref40_Same.f (k : Nat) (a_0 : Relay) (b_1 : Relay) : Option Bool := (Option.bind (α := Bool) (if (a_0.Epoch != b_1.Epoch) = true then (some true) else (if (!(a_0.Diffuse == b_1.Diffuse)) = true then (some true) else ((ref40_SameInts.f k a_0.Routes b_1.Routes).bind fun r135 => (if (!r135) = true then (some true) else ((ref40_SameHashes.f k a_0.Fluffed b_1.Fluffed).bind fun r139 => (if (!r139) = true then (some true) else (some (((a_0.Stems.length : Nat) : Int) != ((b_1.Stems.length : Nat) : Int))))))))) (fun t130 => (if t130 = true then (some false) else (Option.bind (α := Out Bool (Unit)) (ref40_Same.l0 a_0 b_1 k 0) (fun o => match o with | .ret r => some r | .go _ => (some true))))))
set_option maxHeartbeats 2000000 in
set_option maxRecDepth 100000 in
theorem ref40_Same.calls (k : Nat) (a_0 : Relay) (b_1 : Relay) (F : List (Option Nat)) (v0_2 : Value) (v0_3 : Value) (v0_4 : Value) (v1_2 : Value) (v1_3 : Value) (v1_4 : Value) (r : Bool) (w0 : World) (h0_2 : RoV F (Pl.int .i64) w0 v0_2 a_0.Routes) (h0_3 : RoV F pStem w0 v0_3 a_0.Stems) (h0_4 : RoV F pHash w0 v0_4 a_0.Fluffed) (h1_2 : RoV F (Pl.int .i64) w0 v1_2 b_1.Routes) (h1_3 : RoV F pStem w0 v1_3 b_1.Stems) (h1_4 : RoV F pHash w0 v1_4 b_1.Fluffed) (hM : Mem F w0 w0 []) (H : ref40_Same.f k a_0 b_1 = some r) :
    Calls Try.prog 17 #[(.agg #[(.int .u32 a_0.Epoch), (.bool a_0.Diffuse), v0_2, v0_3, v0_4]), (.agg #[(.int .u32 b_1.Epoch), (.bool b_1.Diffuse), v1_2, v1_3, v1_4])] w0 fun e w' => ∃ v, e = .returned v ∧ v = (.bool r) ∧ Mem F w0 w' [] := by
  unfold ref40_Same.f at H
  obtain ⟨A0_2, c0_2, rfl, hr0_2, hc0_2⟩ := h0_2
  obtain ⟨A0_3, c0_3, rfl, hr0_3, hc0_3⟩ := h0_3
  obtain ⟨A0_4, c0_4, rfl, hr0_4, hc0_4⟩ := h0_4
  obtain ⟨A1_2, c1_2, rfl, hr1_2, hc1_2⟩ := h1_2
  obtain ⟨A1_3, c1_3, rfl, hr1_3, hc1_3⟩ := h1_3
  obtain ⟨A1_4, c1_4, rfl, hr1_4, hc1_4⟩ := h1_4
  refine enterL (n := 61) [(.agg #[(.int .u32 a_0.Epoch), (.bool a_0.Diffuse), (.slice A0_2 a_0.Routes.length c0_2), (.slice A0_3 a_0.Stems.length c0_3), (.slice A0_4 a_0.Fluffed.length c0_4)]), (.agg #[(.int .u32 b_1.Epoch), (.bool b_1.Diffuse), (.slice A1_2 b_1.Routes.length c1_2), (.slice A1_3 b_1.Stems.length c1_3), (.slice A1_4 b_1.Fluffed.length c1_4)])] Try.func17 rfl rfl rfl ?_
  intro a hA
  refine wp_seq ?_
  refine wp_region_lit ?_
  refine L1 (e_box (cs := [(.int .u32 a_0.Epoch), (.bool a_0.Diffuse), (.slice A0_2 a_0.Routes.length c0_2), (.slice A0_3 a_0.Stems.length c0_3), (.slice A0_4 a_0.Fluffed.length c0_4)]) hM hA rfl rfl (by decide) ?_)
  clear hM hA; intro w112 g111 hM hE  a hA
  refine L1 (e_box (cs := [(.int .u32 b_1.Epoch), (.bool b_1.Diffuse), (.slice A1_2 b_1.Routes.length c1_2), (.slice A1_3 b_1.Stems.length c1_3), (.slice A1_4 b_1.Fluffed.length c1_4)]) hM hA rfl rfl (by decide) ?_)
  clear hM hA; intro w115 g114 hM hE  a hA
  refine L1 (stv hA (by decide) (run_assign (hA.ev rfl)) ?_)
  clear hA; intro a hA
  refine LQ ?_
  refine TN ?_
  refine wp_seq ?_
  refine wp_seq ?_
  obtain ⟨o132, H131, H⟩ := Option.bind_eq_some_iff.1 H
  refine cutC (fun a w => ∃ (t130 : Bool), t130 = o132 ∧ Mem F w0 w [.box g111 39 [(.int .u32 a_0.Epoch), (.bool a_0.Diffuse), (.slice A0_2 a_0.Routes.length c0_2), (.slice A0_3 a_0.Stems.length c0_3), (.slice A0_4 a_0.Fluffed.length c0_4)], .box g114 39 [(.int .u32 b_1.Epoch), (.bool b_1.Diffuse), (.slice A1_2 b_1.Routes.length c1_2), (.slice A1_3 b_1.Stems.length c1_3), (.slice A1_4 b_1.Fluffed.length c1_4)]] ∧ Has 61 [(2, (.pointer (some (⟨g111, 0, none⟩)))), (3, (.pointer (some (⟨g114, 0, none⟩)))), (42, (.bool t130))] a) ?_ ?_
  · refine wp_region_lit ?_
    refine L1 (stv hA (by decide) (run_field' Try.underlying39 rfl rfl Try.sizeOf35 (by decide) (hA.ev rfl)) ?_)
    clear hA; intro a hA
    refine L1 (stv hA (by decide) (run_ld (hA.ev rfl) (run_loadS Try.isAgg35 (At.seg1 (hM.box (.s .z)) 0 rfl))) ?_)
    clear hA; intro a hA
    refine L1 (stv hA (by decide) (run_field' Try.underlying39 rfl rfl Try.sizeOf35 (by decide) (hA.ev rfl)) ?_)
    clear hA; intro a hA
    refine L1 (stv hA (by decide) (run_ld (hA.ev rfl) (run_loadS Try.isAgg35 (At.seg1 (hM.box .z) 0 rfl))) ?_)
    clear hA; intro a hA
    refine L1 (stv hA (by decide) (run_bin (hA.ev rfl) (hA.ev rfl) (bin_neq _ _ _ _)) ?_)
    clear hA; intro a hA
    refine L1 (stv hA (by decide) (run_move (hA.ev rfl)) ?_)
    clear hA; intro a hA
    refine bsplit (b := (a_0.Epoch != b_1.Epoch)) (fun hb133 => ?_) (fun hb133 => ?_)
    · replace H131 := ite_t hb133 H131
      have hA := hA.re (t := 11) rfl (congrArg Value.bool hb133)
      refine L1 (gate_off rfl (by decide) rfl hA (by decide) rfl rfl ?_); clear hA; intro a hA
      refine L1 (gate_off rfl (by decide) rfl hA (by decide) rfl rfl ?_); clear hA; intro a hA
      refine L1 (gate_off rfl (by decide) rfl hA (by decide) rfl rfl ?_); clear hA; intro a hA
      refine L1 (gate_off rfl (by decide) rfl hA (by decide) rfl rfl ?_); clear hA; intro a hA
      refine L1 (gate_off rfl (by decide) rfl hA (by decide) rfl rfl ?_); clear hA; intro a hA
      refine L1 (stv hA (by decide) (run_pick (hA.ev rfl) (fun _ => hA.ev rfl) (fun h => Bool.noConfusion h)) ?_)
      clear hA; intro a hA
      refine L1 (stv hA (by decide) (run_move (hA.ev rfl)) ?_)
      clear hA; intro a hA
      refine L1 (gate_off rfl (by decide) rfl hA (by decide) rfl rfl ?_); clear hA; intro a hA
      refine L1 (gate_off rfl (by decide) rfl hA (by decide) rfl rfl ?_); clear hA; intro a hA
      refine L1 (gate_off rfl (by decide) rfl hA (by decide) rfl rfl ?_); clear hA; intro a hA
      refine L1 (gate_off rfl (by decide) rfl hA (by decide) rfl rfl ?_); clear hA; intro a hA
      refine L1 (gate_off rfl (by decide) rfl hA (by decide) rfl rfl ?_); clear hA; intro a hA
      refine L1 (gate_off rfl (by decide) rfl hA (by decide) rfl rfl ?_); clear hA; intro a hA
      refine L1 (stv hA (by decide) (run_pick (hA.ev rfl) (fun _ => hA.ev rfl) (fun h => Bool.noConfusion h)) ?_)
      clear hA; intro a hA
      refine L1 (stv hA (by decide) (run_move (hA.ev rfl)) ?_)
      clear hA; intro a hA
      refine L1 (gate_off rfl (by decide) rfl hA (by decide) rfl rfl ?_); clear hA; intro a hA
      refine L1 (gate_off rfl (by decide) rfl hA (by decide) rfl rfl ?_); clear hA; intro a hA
      refine L1 (gate_off rfl (by decide) rfl hA (by decide) rfl rfl ?_); clear hA; intro a hA
      refine L1 (gate_off rfl (by decide) rfl hA (by decide) rfl rfl ?_); clear hA; intro a hA
      refine L1 (gate_off rfl (by decide) rfl hA (by decide) rfl rfl ?_); clear hA; intro a hA
      refine L1 (gate_off rfl (by decide) rfl hA (by decide) rfl rfl ?_); clear hA; intro a hA
      refine L1 (stv hA (by decide) (run_pick (hA.ev rfl) (fun _ => hA.ev rfl) (fun h => Bool.noConfusion h)) ?_)
      clear hA; intro a hA
      refine L1 (stv hA (by decide) (run_move (hA.ev rfl)) ?_)
      clear hA; intro a hA
      refine L1 (gate_off rfl (by decide) rfl hA (by decide) rfl rfl ?_); clear hA; intro a hA
      refine L1 (gate_off rfl (by decide) rfl hA (by decide) rfl rfl ?_); clear hA; intro a hA
      refine L1 (gate_off rfl (by decide) rfl hA (by decide) rfl rfl ?_); clear hA; intro a hA
      refine L1 (gate_off rfl (by decide) rfl hA (by decide) rfl rfl ?_); clear hA; intro a hA
      refine L1 (gate_off rfl (by decide) rfl hA (by decide) rfl rfl ?_); clear hA; intro a hA
      refine L1 (gate_off rfl (by decide) rfl hA (by decide) rfl rfl ?_); clear hA; intro a hA
      refine L1 (gate_off rfl (by decide) rfl hA (by decide) rfl rfl ?_); clear hA; intro a hA
      refine L1 (stv hA (by decide) (run_pick (hA.ev rfl) (fun _ => hA.ev rfl) (fun h => Bool.noConfusion h)) ?_)
      clear hA; intro a hA
      refine LQ ?_
      exact ⟨true, Option.some.inj H131, (hM.sel [1, 0] rfl (by decide)), (((hA.nil.cons (hA.get 42 _ rfl)).cons (hA.get 3 _ rfl)).cons (hA.get 2 _ rfl))⟩
    · replace H131 := ite_f hb133 H131
      have hA := hA.re (t := 11) rfl (congrArg Value.bool hb133)
      refine L1 (gate_on rfl rfl hA (by decide) rfl (stv hA (by decide) (run_field' Try.underlying39 rfl rfl Try.sizeOf4 (by decide) (hA.ev rfl)) ?_))
      clear hA; intro a hA
      refine L1 (gate_on rfl rfl hA (by decide) rfl (stv hA (by decide) (run_ld (hA.ev rfl) (run_loadS Try.isAgg4 (At.seg1 (hM.box (.s .z)) 1 rfl))) ?_))
      clear hA; intro a hA
      refine L1 (gate_on rfl rfl hA (by decide) rfl (stv hA (by decide) (run_field' Try.underlying39 rfl rfl Try.sizeOf4 (by decide) (hA.ev rfl)) ?_))
      clear hA; intro a hA
      refine L1 (gate_on rfl rfl hA (by decide) rfl (stv hA (by decide) (run_ld (hA.ev rfl) (run_loadS Try.isAgg4 (At.seg1 (hM.box .z) 1 rfl))) ?_))
      clear hA; intro a hA
      refine L1 (gate_on rfl rfl hA (by decide) rfl (stv hA (by decide) (run_nebool Try.underlying4 (hA.ev rfl) (hA.ev rfl)) ?_))
      clear hA; intro a hA
      refine L1 (stv hA (by decide) (run_pick (hA.ev rfl) (fun h => Bool.noConfusion h) (fun _ => hA.ev rfl)) ?_)
      clear hA; intro a hA
      refine L1 (stv hA (by decide) (run_move (hA.ev rfl)) ?_)
      clear hA; intro a hA
      refine bsplit (b := (!(a_0.Diffuse == b_1.Diffuse))) (fun hb134 => ?_) (fun hb134 => ?_)
      · replace H131 := ite_t hb134 H131
        have hA := hA.re (t := 18) rfl (congrArg Value.bool hb134)
        refine L1 (gate_off rfl (by decide) rfl hA (by decide) rfl rfl ?_); clear hA; intro a hA
        refine L1 (gate_off rfl (by decide) rfl hA (by decide) rfl rfl ?_); clear hA; intro a hA
        refine L1 (gate_off rfl (by decide) rfl hA (by decide) rfl rfl ?_); clear hA; intro a hA
        refine L1 (gate_off rfl (by decide) rfl hA (by decide) rfl rfl ?_); clear hA; intro a hA
        refine L1 (gate_off rfl (by decide) rfl hA (by decide) rfl rfl ?_); clear hA; intro a hA
        refine L1 (gate_off rfl (by decide) rfl hA (by decide) rfl rfl ?_); clear hA; intro a hA
        refine L1 (stv hA (by decide) (run_pick (hA.ev rfl) (fun _ => hA.ev rfl) (fun h => Bool.noConfusion h)) ?_)
        clear hA; intro a hA
        refine L1 (stv hA (by decide) (run_move (hA.ev rfl)) ?_)
        clear hA; intro a hA
        refine L1 (gate_off rfl (by decide) rfl hA (by decide) rfl rfl ?_); clear hA; intro a hA
        refine L1 (gate_off rfl (by decide) rfl hA (by decide) rfl rfl ?_); clear hA; intro a hA
        refine L1 (gate_off rfl (by decide) rfl hA (by decide) rfl rfl ?_); clear hA; intro a hA
        refine L1 (gate_off rfl (by decide) rfl hA (by decide) rfl rfl ?_); clear hA; intro a hA
        refine L1 (gate_off rfl (by decide) rfl hA (by decide) rfl rfl ?_); clear hA; intro a hA
        refine L1 (gate_off rfl (by decide) rfl hA (by decide) rfl rfl ?_); clear hA; intro a hA
        refine L1 (stv hA (by decide) (run_pick (hA.ev rfl) (fun _ => hA.ev rfl) (fun h => Bool.noConfusion h)) ?_)
        clear hA; intro a hA
        refine L1 (stv hA (by decide) (run_move (hA.ev rfl)) ?_)
        clear hA; intro a hA
        refine L1 (gate_off rfl (by decide) rfl hA (by decide) rfl rfl ?_); clear hA; intro a hA
        refine L1 (gate_off rfl (by decide) rfl hA (by decide) rfl rfl ?_); clear hA; intro a hA
        refine L1 (gate_off rfl (by decide) rfl hA (by decide) rfl rfl ?_); clear hA; intro a hA
        refine L1 (gate_off rfl (by decide) rfl hA (by decide) rfl rfl ?_); clear hA; intro a hA
        refine L1 (gate_off rfl (by decide) rfl hA (by decide) rfl rfl ?_); clear hA; intro a hA
        refine L1 (gate_off rfl (by decide) rfl hA (by decide) rfl rfl ?_); clear hA; intro a hA
        refine L1 (gate_off rfl (by decide) rfl hA (by decide) rfl rfl ?_); clear hA; intro a hA
        refine L1 (stv hA (by decide) (run_pick (hA.ev rfl) (fun _ => hA.ev rfl) (fun h => Bool.noConfusion h)) ?_)
        clear hA; intro a hA
        refine LQ ?_
        exact ⟨true, Option.some.inj H131, (hM.sel [1, 0] rfl (by decide)), (((hA.nil.cons (hA.get 42 _ rfl)).cons (hA.get 3 _ rfl)).cons (hA.get 2 _ rfl))⟩
      · replace H131 := ite_f hb134 H131
        have hA := hA.re (t := 18) rfl (congrArg Value.bool hb134)
        refine L1 (gate_on rfl rfl hA (by decide) rfl (stv hA (by decide) (run_field' Try.underlying39 rfl rfl Try.sizeOf22 (by decide) (hA.ev rfl)) ?_))
        clear hA; intro a hA
        refine L1 (gate_on rfl rfl hA (by decide) rfl (stv hA (by decide) (run_ld (hA.ev rfl) (run_loadS Try.isAgg22 (At.seg1 (hM.box (.s .z)) 2 rfl))) ?_))
        clear hA; intro a hA
        refine L1 (gate_on rfl rfl hA (by decide) rfl (stv hA (by decide) (run_field' Try.underlying39 rfl rfl Try.sizeOf22 (by decide) (hA.ev rfl)) ?_))
        clear hA; intro a hA
        refine L1 (gate_on rfl rfl hA (by decide) rfl (stv hA (by decide) (run_ld (hA.ev rfl) (run_loadS Try.isAgg22 (At.seg1 (hM.box .z) 2 rfl))) ?_))
        clear hA; intro a hA
        obtain ⟨r135, H136, H131⟩ := Option.bind_eq_some_iff.1 H131
        refine L1 (gate_on rfl rfl hA (by decide) rfl (st_call Try.call26 hA [(.slice A0_2 a_0.Routes.length c0_2), (.slice A1_2 b_1.Routes.length c1_2)] rfl (by decide) (ref40_SameInts.calls _ _ _ _ _ _ _ _ ((RoV.mk (hM.roC (Ms := []) hr0_2) (Eq.refl a_0.Routes.length) hc0_2)) ((RoV.mk (hM.roC (Ms := []) hr1_2) (Eq.refl b_1.Routes.length) hc1_2)) (hM.front (Ms := [])) H136) ?_))
        clear hA; rintro _ w137 ⟨rfl, hMc⟩ a hA
        have hE := hMc.below; have hM := hM.call (Ms := []) hMc
        clear hMc; simp only [List.cons_append, List.nil_append] at hM
        refine L1 (gate_on rfl rfl hA (by decide) rfl (stv hA (by decide) (run_not (hA.ev rfl)) ?_))
        clear hA; intro a hA
        refine L1 (stv hA (by decide) (run_pick (hA.ev rfl) (fun h => Bool.noConfusion h) (fun _ => hA.ev rfl)) ?_)
        clear hA; intro a hA
        refine L1 (stv hA (by decide) (run_move (hA.ev rfl)) ?_)
        clear hA; intro a hA
        refine bsplit (b := (!r135)) (fun hb138 => ?_) (fun hb138 => ?_)
        · replace H131 := ite_t hb138 H131
          have hA := hA.re (t := 26) rfl (congrArg Value.bool hb138)
          refine L1 (gate_off rfl (by decide) rfl hA (by decide) rfl rfl ?_); clear hA; intro a hA
          refine L1 (gate_off rfl (by decide) rfl hA (by decide) rfl rfl ?_); clear hA; intro a hA
          refine L1 (gate_off rfl (by decide) rfl hA (by decide) rfl rfl ?_); clear hA; intro a hA
          refine L1 (gate_off rfl (by decide) rfl hA (by decide) rfl rfl ?_); clear hA; intro a hA
          refine L1 (gate_off rfl (by decide) rfl hA (by decide) rfl rfl ?_); clear hA; intro a hA
          refine L1 (gate_off rfl (by decide) rfl hA (by decide) rfl rfl ?_); clear hA; intro a hA
          refine L1 (stv hA (by decide) (run_pick (hA.ev rfl) (fun _ => hA.ev rfl) (fun h => Bool.noConfusion h)) ?_)
          clear hA; intro a hA
          refine L1 (stv hA (by decide) (run_move (hA.ev rfl)) ?_)
          clear hA; intro a hA
          refine L1 (gate_off rfl (by decide) rfl hA (by decide) rfl rfl ?_); clear hA; intro a hA
          refine L1 (gate_off rfl (by decide) rfl hA (by decide) rfl rfl ?_); clear hA; intro a hA
          refine L1 (gate_off rfl (by decide) rfl hA (by decide) rfl rfl ?_); clear hA; intro a hA
          refine L1 (gate_off rfl (by decide) rfl hA (by decide) rfl rfl ?_); clear hA; intro a hA
          refine L1 (gate_off rfl (by decide) rfl hA (by decide) rfl rfl ?_); clear hA; intro a hA
          refine L1 (gate_off rfl (by decide) rfl hA (by decide) rfl rfl ?_); clear hA; intro a hA
          refine L1 (gate_off rfl (by decide) rfl hA (by decide) rfl rfl ?_); clear hA; intro a hA
          refine L1 (stv hA (by decide) (run_pick (hA.ev rfl) (fun _ => hA.ev rfl) (fun h => Bool.noConfusion h)) ?_)
          clear hA; intro a hA
          refine LQ ?_
          exact ⟨true, Option.some.inj H131, (hM.sel [1, 0] rfl (by decide)), (((hA.nil.cons (hA.get 42 _ rfl)).cons (hA.get 3 _ rfl)).cons (hA.get 2 _ rfl))⟩
        · replace H131 := ite_f hb138 H131
          have hA := hA.re (t := 26) rfl (congrArg Value.bool hb138)
          refine L1 (gate_on rfl rfl hA (by decide) rfl (stv hA (by decide) (run_field' Try.underlying39 rfl rfl Try.sizeOf37 (by decide) (hA.ev rfl)) ?_))
          clear hA; intro a hA
          refine L1 (gate_on rfl rfl hA (by decide) rfl (stv hA (by decide) (run_ld (hA.ev rfl) (run_loadS Try.isAgg37 (At.seg1 (hM.box (.s .z)) 4 rfl))) ?_))
          clear hA; intro a hA
          refine L1 (gate_on rfl rfl hA (by decide) rfl (stv hA (by decide) (run_field' Try.underlying39 rfl rfl Try.sizeOf37 (by decide) (hA.ev rfl)) ?_))
          clear hA; intro a hA
          refine L1 (gate_on rfl rfl hA (by decide) rfl (stv hA (by decide) (run_ld (hA.ev rfl) (run_loadS Try.isAgg37 (At.seg1 (hM.box .z) 4 rfl))) ?_))
          clear hA; intro a hA
          obtain ⟨r139, H140, H131⟩ := Option.bind_eq_some_iff.1 H131
          refine L1 (gate_on rfl rfl hA (by decide) rfl (st_call Try.call20 hA [(.slice A0_4 a_0.Fluffed.length c0_4), (.slice A1_4 b_1.Fluffed.length c1_4)] rfl (by decide) (ref40_SameHashes.calls _ _ _ _ _ _ _ _ ((RoV.mk (hM.roC (Ms := []) hr0_4) (Eq.refl a_0.Fluffed.length) hc0_4)) ((RoV.mk (hM.roC (Ms := []) hr1_4) (Eq.refl b_1.Fluffed.length) hc1_4)) (hM.front (Ms := [])) H140) ?_))
          clear hA; rintro _ w141 ⟨rfl, hMc⟩ a hA
          have hE := hMc.below; have hM := hM.call (Ms := []) hMc
          clear hMc; simp only [List.cons_append, List.nil_append] at hM
          refine L1 (gate_on rfl rfl hA (by decide) rfl (stv hA (by decide) (run_not (hA.ev rfl)) ?_))
          clear hA; intro a hA
          refine L1 (stv hA (by decide) (run_pick (hA.ev rfl) (fun h => Bool.noConfusion h) (fun _ => hA.ev rfl)) ?_)
          clear hA; intro a hA
          refine L1 (stv hA (by decide) (run_move (hA.ev rfl)) ?_)
          clear hA; intro a hA
          refine bsplit (b := (!r139)) (fun hb142 => ?_) (fun hb142 => ?_)
          · replace H131 := ite_t hb142 H131
            have hA := hA.re (t := 34) rfl (congrArg Value.bool hb142)
            refine L1 (gate_off rfl (by decide) rfl hA (by decide) rfl rfl ?_); clear hA; intro a hA
            refine L1 (gate_off rfl (by decide) rfl hA (by decide) rfl rfl ?_); clear hA; intro a hA
            refine L1 (gate_off rfl (by decide) rfl hA (by decide) rfl rfl ?_); clear hA; intro a hA
            refine L1 (gate_off rfl (by decide) rfl hA (by decide) rfl rfl ?_); clear hA; intro a hA
            refine L1 (gate_off rfl (by decide) rfl hA (by decide) rfl rfl ?_); clear hA; intro a hA
            refine L1 (gate_off rfl (by decide) rfl hA (by decide) rfl rfl ?_); clear hA; intro a hA
            refine L1 (gate_off rfl (by decide) rfl hA (by decide) rfl rfl ?_); clear hA; intro a hA
            refine L1 (stv hA (by decide) (run_pick (hA.ev rfl) (fun _ => hA.ev rfl) (fun h => Bool.noConfusion h)) ?_)
            clear hA; intro a hA
            refine LQ ?_
            exact ⟨true, Option.some.inj H131, (hM.sel [1, 0] rfl (by decide)), (((hA.nil.cons (hA.get 42 _ rfl)).cons (hA.get 3 _ rfl)).cons (hA.get 2 _ rfl))⟩
          · replace H131 := ite_f hb142 H131
            have hA := hA.re (t := 34) rfl (congrArg Value.bool hb142)
            refine L1 (gate_on rfl rfl hA (by decide) rfl (stv hA (by decide) (run_field' Try.underlying39 rfl rfl Try.sizeOf36 (by decide) (hA.ev rfl)) ?_))
            clear hA; intro a hA
            refine L1 (gate_on rfl rfl hA (by decide) rfl (stv hA (by decide) (run_ld (hA.ev rfl) (run_loadS Try.isAgg36 (At.seg1 (hM.box (.s .z)) 3 rfl))) ?_))
            clear hA; intro a hA
            refine L1 (gate_on rfl rfl hA (by decide) rfl (stv hA (by decide) (run_len_slice Try.underlying36 (hA.ev rfl)) ?_))
            clear hA; intro a hA
            refine L1 (gate_on rfl rfl hA (by decide) rfl (stv hA (by decide) (run_field' Try.underlying39 rfl rfl Try.sizeOf36 (by decide) (hA.ev rfl)) ?_))
            clear hA; intro a hA
            refine L1 (gate_on rfl rfl hA (by decide) rfl (stv hA (by decide) (run_ld (hA.ev rfl) (run_loadS Try.isAgg36 (At.seg1 (hM.box .z) 3 rfl))) ?_))
            clear hA; intro a hA
            refine L1 (gate_on rfl rfl hA (by decide) rfl (stv hA (by decide) (run_len_slice Try.underlying36 (hA.ev rfl)) ?_))
            clear hA; intro a hA
            refine L1 (gate_on rfl rfl hA (by decide) rfl (stv hA (by decide) (run_bin (hA.ev rfl) (hA.ev rfl) (bin_neq _ _ _ _)) ?_))
            clear hA; intro a hA
            refine L1 (stv hA (by decide) (run_pick (hA.ev rfl) (fun h => Bool.noConfusion h) (fun _ => hA.ev rfl)) ?_)
            clear hA; intro a hA
            refine LQ ?_
            exact ⟨(((a_0.Stems.length : Nat) : Int) != ((b_1.Stems.length : Nat) : Int)), Option.some.inj H131, (hM.sel [1, 0] rfl (by decide)), (((hA.nil.cons (hA.get 42 _ rfl)).cons (hA.get 3 _ rfl)).cons (hA.get 2 _ rfl))⟩
  clear hM hA
  rintro a w143 ⟨t130, rfl, hM, hA⟩
  try dsimp only at H
  refine TN ?_
  refine tcond (b := t130) hA rfl (fun hb144 => ?_) (fun hb144 => ?_)
  · replace H := ite_t hb144 H
    refine wp_seq ?_
    refine wp_region_lit ?_
    refine L1 (stv hA (by decide) (run_assign (hA.ev rfl)) ?_)
    clear hA; intro a hA
    refine LQ ?_
    refine TN ?_
    refine wp_ret ?_
    obtain rfl := Option.some.inj H
    refine TR ?_
    exact ret_post1 (fn := Try.f17) hA rfl rfl ⟨_, rfl, rfl, (hM.sel [] rfl (by decide))⟩
  · replace H := ite_f hb144 H
    refine wp_skip ?_
    refine TN ?_
    refine wp_seq ?_
    refine wp_seq ?_
    refine wp_region_lit ?_
    refine L1 (stv hA (by decide) (run_assign (hA.ev rfl)) ?_)
    clear hA; intro a hA
    refine LQ ?_
    refine TN ?_
    obtain ⟨o203, H202, H⟩ := Option.bind_eq_some_iff.1 H
    refine cutC (fun a w => (.go ()) = o203 ∧ Mem F w0 w [] ∧ Has 61 [] a) ?_ ?_
    · refine wp_block ?_
      refine wp_loop_ghost (fun m a w => ∃ (i201 : Int), ref40_Same.l0 a_0 b_1 m i201 = some o203 ∧ Mem F w0 w [.box g111 39 [(.int .u32 a_0.Epoch), (.bool a_0.Diffuse), (.slice A0_2 a_0.Routes.length c0_2), (.slice A0_3 a_0.Stems.length c0_3), (.slice A0_4 a_0.Fluffed.length c0_4)], .box g114 39 [(.int .u32 b_1.Epoch), (.bool b_1.Diffuse), (.slice A1_2 b_1.Routes.length c1_2), (.slice A1_3 b_1.Stems.length c1_3), (.slice A1_4 b_1.Fluffed.length c1_4)]] ∧ Has 61 [(2, (.pointer (some (⟨g111, 0, none⟩)))), (3, (.pointer (some (⟨g114, 0, none⟩)))), (5, (.int .i64 i201))] a) k ⟨0, H202, hM, (((hA.nil.cons (hA.get 5 _ rfl)).cons (hA.get 3 _ rfl)).cons (hA.get 2 _ rfl))⟩ ?_
      clear hM hA; rintro m204 a w205 ⟨i201, H202, hM, hA⟩
      cases m204 with
      | zero => exact absurd H202 (by simp [ref40_Same.l0])
      | succ m204 =>
      rw [ref40_Same.l0] at H202
      refine wp_seq ?_
      refine wp_seq ?_
      refine wp_region_lit ?_
      refine L1 (stv hA (by decide) (run_move (hA.ev rfl)) ?_)
      clear hA; intro a hA
      refine L1 (stv hA (by decide) (run_field' Try.underlying39 rfl rfl Try.sizeOf36 (by decide) (hA.ev rfl)) ?_)
      clear hA; intro a hA
      refine L1 (stv hA (by decide) (run_ld (hA.ev rfl) (run_loadS Try.isAgg36 (At.seg1 (hM.box .z) 3 rfl))) ?_)
      clear hA; intro a hA
      refine L1 (stv hA (by decide) (run_len_slice Try.underlying36 (hA.ev rfl)) ?_)
      clear hA; intro a hA
      refine L1 (stv hA (by decide) (run_bin (hA.ev rfl) (hA.ev rfl) (bin_lss _ _ _ _)) ?_)
      clear hA; intro a hA
      refine LQ ?_
      refine TN ?_
      refine tcond (b := (decide (i201 < ((a_0.Stems.length : Nat) : Int)))) hA rfl (fun hb206 => ?_) (fun hb206 => ?_)
      · replace H202 := ite_t hb206 H202
        refine wp_skip ?_
        refine TN ?_
        refine wp_seq ?_
        refine wp_block ?_
        refine wp_seq ?_
        refine draw (fun w' => Below w205.heap.size w205 w') [] rfl ?_
        intro w207 hw hS; replace hM := hM.ext hS; clear hw
        refine d_takef (i := 0) (L' := #[true, false, false, false, false, false, false, false, false, false, false]) rfl (by kernel_rfl) rfl (fun _ _ _ h => h) hA (by decide) (fun _ => hS) (fun a w' hA => run_field' Try.underlying39 rfl rfl Try.sizeOf36 (by decide) (hA.ev rfl)) ?_; clear hA; intro a hA
        refine rebase hS ?_; clear hS; intro hS
        refine d_take (i := 1) (L' := #[true, true, false, false, false, false, false, false, false, false, false]) rfl (by kernel_rfl) rfl (fun _ _ _ h => h) hA (by decide) rfl hS (fun a w' hA hS' => run_ld (hA.ev rfl) (run_loadS Try.isAgg36 ((At.seg1 (hM.box .z) 3 rfl).extB hS'))) ?_; clear hA; intro a hA
        refine d_takef (i := 2) (L' := #[true, true, true, false, false, false, false, false, false, false, false]) rfl (by kernel_rfl) rfl (fun _ _ _ h => h) hA (by decide) (fun _ => hS) (fun a w' hA => run_move (hA.ev rfl)) ?_; clear hA; intro a hA
        obtain ⟨⟨hi209, hj210⟩, H202⟩ := ite_some H202
        obtain ⟨ad211, hq212, hat213⟩ := Row.elem' (p := pStem) (hM.ro hr0_3) (Eq.refl a_0.Stems.length) Stem.z i201 hi209 hj210
        refine d_takef (i := 3) (L' := #[true, true, true, true, false, false, false, false, false, false, false]) rfl (by kernel_rfl) rfl (fun _ _ _ h => h) hA (by decide) (fun _ => hS) (fun a w' hA => run_idx Try.underlying36 Try.sizeOf61 (hA.ev rfl) hq212 (hA.ev rfl) hi209 hj210) ?_; clear hA; intro a hA
        refine d_take (i := 4) (L' := #[true, true, true, true, true, false, false, false, false, false, false]) rfl (by kernel_rfl) rfl (fun _ _ _ h => h) hA (by decide) rfl hS (fun a w' hA hS' => run_ld (hA.ev rfl) (run_loadP Try.isAgg61 Try.sizeOf61 ((hat213).extB hS'))) ?_; clear hA; intro a hA
        refine d_takef (i := 5) (L' := #[true, true, true, true, true, true, false, false, false, false, false]) rfl (by kernel_rfl) rfl (fun _ _ _ h => h) hA (by decide) (fun _ => hS) (fun a w' hA => run_field' Try.underlying39 rfl rfl Try.sizeOf36 (by decide) (hA.ev rfl)) ?_; clear hA; intro a hA
        refine d_take (i := 6) (L' := #[true, true, true, true, true, true, true, false, false, false, false]) rfl (by kernel_rfl) rfl (fun _ _ _ h => h) hA (by decide) rfl hS (fun a w' hA hS' => run_ld (hA.ev rfl) (run_loadS Try.isAgg36 ((At.seg1 (hM.box (.s .z)) 3 rfl).extB hS'))) ?_; clear hA; intro a hA
        refine d_takef (i := 7) (L' := #[true, true, true, true, true, true, true, true, false, false, false]) rfl (by kernel_rfl) rfl (fun _ _ _ h => h) hA (by decide) (fun _ => hS) (fun a w' hA => run_move (hA.ev rfl)) ?_; clear hA; intro a hA
        obtain ⟨⟨hi214, hj215⟩, H202⟩ := ite_some H202
        obtain ⟨ad216, hq217, hat218⟩ := Row.elem' (p := pStem) (hM.ro hr1_3) (Eq.refl b_1.Stems.length) Stem.z i201 hi214 hj215
        refine d_takef (i := 8) (L' := #[true, true, true, true, true, true, true, true, true, false, false]) rfl (by kernel_rfl) rfl (fun _ _ _ h => h) hA (by decide) (fun _ => hS) (fun a w' hA => run_idx Try.underlying36 Try.sizeOf61 (hA.ev rfl) hq217 (hA.ev rfl) hi214 hj215) ?_; clear hA; intro a hA
        refine d_take (i := 9) (L' := #[true, true, true, true, true, true, true, true, true, true, false]) rfl (by kernel_rfl) rfl (fun _ _ _ h => h) hA (by decide) rfl hS (fun a w' hA hS' => run_ld (hA.ev rfl) (run_loadP Try.isAgg61 Try.sizeOf61 ((hat218).extB hS'))) ?_; clear hA; intro a hA
        refine d_takef (i := 10) (L' := #[true, true, true, true, true, true, true, true, true, true, true]) rfl (by kernel_rfl) rfl (fun _ _ _ h => h) hA (by decide) (fun _ => hS) (fun a w' hA => run_aggneq eq_Stem rfl (by kernel_rfl) (hA.ev rfl) (hA.ev rfl)) ?_; clear hA; intro a hA
        refine d_done (by kernel_rfl) ?_
        refine TN ?_
        refine tcond (b := (!((a_0.Stems.getD i201.toNat Stem.z) == (b_1.Stems.getD i201.toNat Stem.z)))) hA rfl (fun hb219 => ?_) (fun hb219 => ?_)
        · replace H202 := ite_t hb219 H202
          refine wp_seq ?_
          refine wp_region_lit ?_
          refine L1 (stv hA (by decide) (run_assign (hA.ev rfl)) ?_)
          clear hA; intro a hA
          refine LQ ?_
          refine TN ?_
          refine wp_ret ?_
          obtain rfl := Option.some.inj H202
          dsimp only at H
          obtain rfl := Option.some.inj H
          refine BR ?_
          refine TR ?_
          refine TR ?_
          refine BR ?_
          refine TR ?_
          refine TR ?_
          exact ret_post1 (fn := Try.f17) hA rfl rfl ⟨_, rfl, rfl, (hM.sel [] rfl (by decide))⟩
        · replace H202 := ite_f hb219 H202
          refine wp_skip ?_
          refine BN ?_
          refine TN ?_
          refine wp_region_lit ?_
          refine L1 (stv hA (by decide) (run_move (hA.ev rfl)) ?_)
          clear hA; intro a hA
          refine L1 (stv hA (by decide) (run_bin (hA.ev rfl) (hA.ev rfl) (bin_add _ _ _ _)) ?_)
          clear hA; intro a hA
          refine L1 (stv hA (by decide) (run_assign (hA.ev rfl)) ?_)
          clear hA; intro a hA
          refine LQ ?_
          exact ⟨_, Nat.lt_succ_self m204, IntKind.i64.wrap (i201 + 1), H202, hM, (((hA.nil.cons (hA.get 5 _ rfl)).cons (hA.get 3 _ rfl)).cons (hA.get 2 _ rfl))⟩
      · replace H202 := ite_f hb206 H202
        refine wp_exit ?_
        refine TX ?_
        refine TX ?_
        refine BX ?_
        exact ⟨Option.some.inj H202, (hM.sel [] rfl (by decide)), hA.nil⟩
    clear hM hA
    rintro a w220 ⟨rfl, hM, hA⟩
    try dsimp only at H
    refine TN ?_
    refine wp_seq ?_
    refine wp_region_lit ?_
    refine L1 (stv hA (by decide) (run_assign (hA.ev rfl)) ?_)
    clear hA; intro a hA
    refine LQ ?_
    refine TN ?_
    refine wp_ret ?_
    obtain rfl := Option.some.inj H
    exact ret_post1 (fn := Try.f17) hA rfl rfl ⟨_, rfl, rfl, hM⟩

def ref40_Due.l0 (r_0 : Relay) (now_1 : Int) : Nat → (List Stem) → (List (Vector Int 32)) → Int → Option ((List Stem) × (List (Vector Int 32)))
  | 0, _, _, _ => none
  | k + 1, xs783, xs789, i791 => (if (decide (i791 < ((r_0.Stems.length : Nat) : Int))) = true then (if 0 ≤ i791 ∧ i791 < ((r_0.Stems.length : Nat) : Int) then (Option.bind (α := (List Stem) × (List (Vector Int 32))) (if (decide (((r_0.Stems.getD i791.toNat Stem.z).Due) ≤ now_1)) = true then (if 0 ≤ i791 ∧ i791 < ((r_0.Stems.length : Nat) : Int) then (if (xs789.length + 1) * 32 ≤ 140737488355328 then (some (xs783, (xs789 ++ [(r_0.Stems.getD i791.toNat Stem.z).ID]))) else none) else none) else (if 0 ≤ i791 ∧ i791 < ((r_0.Stems.length : Nat) : Int) then (if (xs783.length + 1) * 56 ≤ 140737488355328 then (some ((xs783 ++ [(r_0.Stems.getD i791.toNat Stem.z)]), xs789)) else none) else none)) (fun st => match st with | (xs854, xs859) => (ref40_Due.l0 r_0 now_1 k xs854 xs859 (IntKind.i64.wrap (i791 + 1))))) else none) else (some (xs783, xs789)))
def ref40_Due.f (k : Nat) (r_0 : Relay) (now_1 : Int) : Option (Relay × (List (Vector Int 32))) := ((ref40_Copied.f k (Relay.mk r_0.Epoch r_0.Diffuse r_0.Routes r_0.Stems r_0.Fluffed)).bind fun r454 => ((ref40_Sound.f k (Relay.mk r_0.Epoch r_0.Diffuse r_0.Routes r_0.Stems r_0.Fluffed)).bind fun r473 => (if (!r473) = true then (some ((Relay.mk r454.Epoch r454.Diffuse r454.Routes r454.Stems r454.Fluffed), ([] : List (Vector Int 32)))) else (Option.bind (α := (List Stem) × (List (Vector Int 32))) (ref40_Due.l0 r_0 now_1 k ([] : List Stem) ([] : List (Vector Int 32)) 0) (fun st => match st with | (xs798, xs804) => (some ((Relay.mk r454.Epoch r454.Diffuse r454.Routes xs798 r454.Fluffed), xs804)))))))
set_option maxHeartbeats 2000000 in
set_option maxRecDepth 100000 in
theorem ref40_Due.calls (k : Nat) (r_0 : Relay) (now_1 : Int) (F : List (Option Nat)) (v0_2 : Value) (v0_3 : Value) (v0_4 : Value) (r : (Relay × (List (Vector Int 32)))) (w0 : World) (h0_2 : RoV F (Pl.int .i64) w0 v0_2 r_0.Routes) (h0_3 : RoV F pStem w0 v0_3 r_0.Stems) (h0_4 : RoV F pHash w0 v0_4 r_0.Fluffed) (hM : Mem F w0 w0 []) (H : ref40_Due.f k r_0 now_1 = some r) :
    Calls Try.prog 19 #[(.agg #[(.int .u32 r_0.Epoch), (.bool r_0.Diffuse), v0_2, v0_3, v0_4]), (.int .u32 now_1)] w0 fun e w' => ∃ v, e = .returned v ∧ ∃ (ur_0_2 : Value) (ur_0_3 : Value) (ur_0_4 : Value) (ur_1 : Value), v = (.tuple #[(.agg #[(.int .u32 r.1.Epoch), (.bool r.1.Diffuse), ur_0_2, ur_0_3, ur_0_4]), ur_1]) ∧ Mem F w0 w' [.row 3 (Pl.int .i64).sz ur_0_2 ((Pl.int .i64).flat r.1.Routes), .row 61 pStem.sz ur_0_3 (pStem.flat r.1.Stems), .row 34 pHash.sz ur_0_4 (pHash.flat r.1.Fluffed), .row 34 pHash.sz ur_1 (pHash.flat r.2)] := by
  unfold ref40_Due.f at H
  obtain ⟨A0_2, c0_2, rfl, hr0_2, hc0_2⟩ := h0_2
  obtain ⟨A0_3, c0_3, rfl, hr0_3, hc0_3⟩ := h0_3
  obtain ⟨A0_4, c0_4, rfl, hr0_4, hc0_4⟩ := h0_4
  refine enterL (n := 52) [(.agg #[(.int .u32 r_0.Epoch), (.bool r_0.Diffuse), (.slice A0_2 r_0.Routes.length c0_2), (.slice A0_3 r_0.Stems.length c0_3), (.slice A0_4 r_0.Fluffed.length c0_4)]), (.int .u32 now_1)] Try.func19 rfl rfl rfl ?_
  intro a hA
  refine wp_seq ?_
  refine wp_region_lit ?_
  refine L1 (e_box (cs := [(.int .u32 r_0.Epoch), (.bool r_0.Diffuse), (.slice A0_2 r_0.Routes.length c0_2), (.slice A0_3 r_0.Stems.length c0_3), (.slice A0_4 r_0.Fluffed.length c0_4)]) hM hA rfl rfl (by decide) ?_)
  clear hM hA; intro w449 g448 hM hE  a hA
  refine L1 (e_alloc (cs := [(.int .u32 0), (.bool false), (.slice none 0 0), (.slice none 0 0), (.slice none 0 0)]) hM zero39 rfl hA (by decide) ?_)
  clear hM hA; intro w452 g451 hM hE  a hA
  refine L1 (stv hA (by decide) (run_assign (hA.ev rfl)) ?_)
  clear hA; intro a hA
  refine LQ ?_
  refine TN ?_
  refine wp_seq ?_
  refine wp_region_lit ?_
  refine L1 (stv hA (by decide) (run_ld (hA.ev rfl) (run_loadW Try.isAgg39 Try.sizeOf39 (by simp [Pl.len]; try rfl) (hM.box (.s .z)))) ?_)
  clear hA; intro a hA
  obtain ⟨r454, H455, H⟩ := Option.bind_eq_some_iff.1 H
  refine L1 (st_call Try.call29 hA [(.agg #[(.int .u32 r_0.Epoch), (.bool r_0.Diffuse), (.slice A0_2 r_0.Routes.length c0_2), (.slice A0_3 r_0.Stems.length c0_3), (.slice A0_4 r_0.Fluffed.length c0_4)])] rfl (by decide) (ref40_Copied.calls _ (Relay.mk r_0.Epoch r_0.Diffuse r_0.Routes r_0.Stems r_0.Fluffed) _ _ _ _ _ _ ((RoV.mk (hM.roC (Ms := []) hr0_2) (Eq.refl r_0.Routes.length) hc0_2)) ((RoV.mk (hM.roC (Ms := []) hr0_3) (Eq.refl r_0.Stems.length) hc0_3)) ((RoV.mk (hM.roC (Ms := []) hr0_4) (Eq.refl r_0.Fluffed.length) hc0_4)) (hM.front (Ms := [])) H455) ?_)
  clear hA; rintro _ w456 ⟨v457, v458, v459, rfl, hMc⟩ a hA
  have hE := hMc.below; have hM := hM.call (Ms := []) hMc
  clear hMc; simp only [List.cons_append, List.nil_append] at hM
  obtain ⟨A461, c462, rfl⟩ := RowOk.form (hM.row (p := (Pl.int .i64)) .z)
  obtain ⟨A464, c465, rfl⟩ := RowOk.form (hM.row (p := pStem) (.s .z))
  obtain ⟨A467, c468, rfl⟩ := RowOk.form (hM.row (p := pHash) (.s (.s .z)))
  refine L1 (e_alloc (cs := [(.int .u32 0), (.bool false), (.slice none 0 0), (.slice none 0 0), (.slice none 0 0)]) hM zero39 rfl hA (by decide) ?_)
  clear hM hA; intro w470 g469 hM hE  a hA
  refine L1 (e_store (g := g469) (off := 0) (cur := [(.int .u32 0), (.bool false), (.slice none 0 0), (.slice none 0 0), (.slice none 0 0)]) (cs' := [(.int .u32 r454.Epoch), (.bool r454.Diffuse), (.slice A461 r454.Routes.length c462), (.slice A464 r454.Stems.length c465), (.slice A467 r454.Fluffed.length c468)]) hM .z Try.sizeOf39 hA rfl (by simp [add_mk]) rfl (by first | rfl | simp [Value.cells, Pl.len]) (by simp [Value.cells, Value.oneCell']) (by first | exact Nat.le_of_ble_eq_true rfl | (simp [Pl.len]; done)) (spl_all (by first | rfl | simp [Value.cells, Pl.len])) ?_)
  clear hM hA; intro w472  hM hE  a hA
  refine LQ ?_
  refine TN ?_
  refine wp_seq ?_
  refine wp_seq ?_
  refine wp_region_lit ?_
  refine L1 (stv hA (by decide) (run_ld (hA.ev rfl) (run_loadW Try.isAgg39 Try.sizeOf39 (by simp [Pl.len]; try rfl) (hM.box (.s (.s (.s (.s (.s .z)))))))) ?_)
  clear hA; intro a hA
  obtain ⟨r473, H474, H⟩ := Option.bind_eq_some_iff.1 H
  refine L1 (st_call Try.call35 hA [(.agg #[(.int .u32 r_0.Epoch), (.bool r_0.Diffuse), (.slice A0_2 r_0.Routes.length c0_2), (.slice A0_3 r_0.Stems.length c0_3), (.slice A0_4 r_0.Fluffed.length c0_4)])] rfl (by decide) (ref40_Sound.calls _ (Relay.mk r_0.Epoch r_0.Diffuse r_0.Routes r_0.Stems r_0.Fluffed) _ _ _ _ _ _ ((RoV.mk (hM.roC (Ms := []) hr0_2) (Eq.refl r_0.Routes.length) hc0_2)) ((RoV.mk (hM.roC (Ms := []) hr0_3) (Eq.refl r_0.Stems.length) hc0_3)) ((RoV.mk (hM.roC (Ms := []) hr0_4) (Eq.refl r_0.Fluffed.length) hc0_4)) (hM.front (Ms := [])) H474) ?_)
  clear hA; rintro _ w475 ⟨rfl, hMc⟩ a hA
  have hE := hMc.below; have hM := hM.call (Ms := []) hMc
  clear hMc; simp only [List.cons_append, List.nil_append] at hM
  refine L1 (stv hA (by decide) (run_not (hA.ev rfl)) ?_)
  clear hA; intro a hA
  refine LQ ?_
  refine TN ?_
  refine tcond (b := (!r473)) hA rfl (fun hb476 => ?_) (fun hb476 => ?_)
  · replace H := ite_t hb476 H
    refine wp_seq ?_
    refine wp_region_lit ?_
    refine L1 (stv hA (by decide) (run_ld (hA.ev rfl) (run_loadW Try.isAgg39 Try.sizeOf39 (by simp [Pl.len]; try rfl) (hM.box .z))) ?_)
    clear hA; intro a hA
    refine L1 (e_store (g := g451) (off := 0) (cur := [(.int .u32 0), (.bool false), (.slice none 0 0), (.slice none 0 0), (.slice none 0 0)]) (cs' := [(.int .u32 r454.Epoch), (.bool r454.Diffuse), (.slice A461 r454.Routes.length c462), (.slice A464 r454.Stems.length c465), (.slice A467 r454.Fluffed.length c468)]) hM (.s (.s (.s (.s .z)))) Try.sizeOf39 hA rfl (by simp [add_mk]) rfl (by first | rfl | simp [Value.cells, Pl.len]) (by simp [Value.cells, Value.oneCell']) (by first | exact Nat.le_of_ble_eq_true rfl | (simp [Pl.len]; done)) (spl_all (by first | rfl | simp [Value.cells, Pl.len])) ?_)
    clear hM hA; intro w477  hM hE  a hA
    refine L1 (stv hA (by decide) (run_assign (hA.ev rfl)) ?_)
    clear hA; intro a hA
    refine LQ ?_
    refine TN ?_
    refine wp_ret ?_
    have hM := hM.addnil 34 (pHash).sz
    obtain rfl := Option.some.inj H
    refine TR ?_
    exact ret_mix2 (fn := Try.f19) hA rfl (RV.cell rfl (run_loadW Try.isAgg39 Try.sizeOf39 (by simp [Pl.len]; try rfl) (hM.box (.s (.s (.s (.s (.s .z)))))))) (RV.tmp rfl) ⟨_, rfl, (.slice A461 r454.Routes.length c462), (.slice A464 r454.Stems.length c465), (.slice A467 r454.Fluffed.length c468), (.slice none 0 0), rfl, (hM.sel [2, 3, 4, 0] rfl (by decide))⟩
  · replace H := ite_f hb476 H
    refine wp_skip ?_
    refine TN ?_
    refine wp_seq ?_
    refine wp_region_lit ?_
    refine L1 (stv hA (by decide) (run_assign (hA.ev rfl)) ?_)
    clear hA; intro a hA
    refine LQ ?_
    refine TN ?_
    refine wp_seq ?_
    refine wp_region_lit ?_
    refine L1 (stv hA (by decide) (run_field' Try.underlying39 rfl rfl Try.sizeOf36 (by decide) (hA.ev rfl)) ?_)
    clear hA; intro a hA
    refine L1 (e_store (g := g469) (off := 3) (cur := [(.int .u32 r454.Epoch), (.bool r454.Diffuse), (.slice A461 r454.Routes.length c462), (.slice A464 r454.Stems.length c465), (.slice A467 r454.Fluffed.length c468)]) (cs' := [(.int .u32 r454.Epoch), (.bool r454.Diffuse), (.slice A461 r454.Routes.length c462), (.slice none 0 0), (.slice A467 r454.Fluffed.length c468)]) hM .z Try.sizeOf36 hA rfl (by simp [add_mk]) rfl (by first | rfl | simp [Value.cells, Pl.len]) (one_val rfl) (by first | exact Nat.le_of_ble_eq_true rfl | (simp [Pl.len]; done)) (rfl) ?_)
    clear hM hA; intro w479  hM hE  a hA
    refine LQ ?_
    refine TN ?_
    refine wp_seq ?_
    refine wp_seq ?_
    refine wp_region_lit ?_
    refine L1 (stv hA (by decide) (run_assign (hA.ev rfl)) ?_)
    clear hA; intro a hA
    refine LQ ?_
    refine TN ?_
    obtain ⟨o806, H805, H⟩ := Option.bind_eq_some_iff.1 H
    refine cutC (fun a w => ∃ (xs798 : (List Stem)) (xs804 : (List (Vector Int 32))) (v795 : Value) (v801 : Value), (xs798, xs804) = o806 ∧ Mem F w0 w [.box g451 39 [(.int .u32 0), (.bool false), (.slice none 0 0), (.slice none 0 0), (.slice none 0 0)], .box g469 39 [(.int .u32 r454.Epoch), (.bool r454.Diffuse), (.slice A461 r454.Routes.length c462), v795, (.slice A467 r454.Fluffed.length c468)], .row 3 (Pl.int .i64).sz (.slice A461 r454.Routes.length c462) ((Pl.int .i64).flat r454.Routes), .row 61 pStem.sz v795 (pStem.flat xs798), .row 34 pHash.sz (.slice A467 r454.Fluffed.length c468) (pHash.flat r454.Fluffed), .row 34 pHash.sz v801 (pHash.flat xs804)] ∧ Has 52 [(4, (.pointer (some (⟨g451, 0, none⟩)))), (6, (.pointer (some (⟨g469, 0, none⟩)))), (7, v801)] a) ?_ ?_
    · refine wp_block ?_
      have hM := hM.addnil 61 (pStem).sz
      have hM := hM.addnil 34 (pHash).sz
      refine wp_loop_ghost (fun m a w => ∃ (xs783 : (List Stem)) (xs789 : (List (Vector Int 32))) (i791 : Int) (v780 : Value) (v786 : Value), ref40_Due.l0 r_0 now_1 m xs783 xs789 i791 = some o806 ∧ Mem F w0 w [.box g448 39 [(.int .u32 r_0.Epoch), (.bool r_0.Diffuse), (.slice A0_2 r_0.Routes.length c0_2), (.slice A0_3 r_0.Stems.length c0_3), (.slice A0_4 r_0.Fluffed.length c0_4)], .box g451 39 [(.int .u32 0), (.bool false), (.slice none 0 0), (.slice none 0 0), (.slice none 0 0)], .box g469 39 [(.int .u32 r454.Epoch), (.bool r454.Diffuse), (.slice A461 r454.Routes.length c462), v780, (.slice A467 r454.Fluffed.length c468)], .row 3 (Pl.int .i64).sz (.slice A461 r454.Routes.length c462) ((Pl.int .i64).flat r454.Routes), .row 61 pStem.sz v780 (pStem.flat xs783), .row 34 pHash.sz (.slice A467 r454.Fluffed.length c468) (pHash.flat r454.Fluffed), .row 34 pHash.sz v786 (pHash.flat xs789)] ∧ Has 52 [(1, (.int .u32 now_1)), (2, (.pointer (some (⟨g448, 0, none⟩)))), (4, (.pointer (some (⟨g451, 0, none⟩)))), (6, (.pointer (some (⟨g469, 0, none⟩)))), (7, v786), (8, (.int .i64 i791))] a) k ⟨([] : List Stem), ([] : List (Vector Int 32)), 0, (.slice none 0 0), (.slice none 0 0), H805, (hM.sel [7, 6, 2, 3, 1, 5, 0] rfl (by decide)), ((((((hA.nil.cons (hA.get 8 _ rfl)).cons (hA.get 7 _ rfl)).cons (hA.get 6 _ rfl)).cons (hA.get 4 _ rfl)).cons (hA.get 2 _ rfl)).cons (hA.get 1 _ rfl))⟩ ?_
      clear hM hA; rintro m809 a w810 ⟨xs783, xs789, i791, v780, v786, H805, hM, hA⟩
      cases m809 with
      | zero => exact absurd H805 (by simp [ref40_Due.l0])
      | succ m809 =>
      rw [ref40_Due.l0] at H805
      obtain ⟨A781, c782, rfl⟩ := RowOk.form (hM.row (p := pStem) (.s (.s (.s (.s .z)))))
      obtain ⟨A787, c788, rfl⟩ := RowOk.form (hM.row (p := pHash) (.s (.s (.s (.s (.s (.s .z)))))))
      refine wp_seq ?_
      refine wp_seq ?_
      refine wp_region_lit ?_
      refine L1 (stv hA (by decide) (run_move (hA.ev rfl)) ?_)
      clear hA; intro a hA
      refine L1 (stv hA (by decide) (run_field' Try.underlying39 rfl rfl Try.sizeOf36 (by decide) (hA.ev rfl)) ?_)
      clear hA; intro a hA
      refine L1 (stv hA (by decide) (run_ld (hA.ev rfl) (run_loadS Try.isAgg36 (At.seg1 (hM.box .z) 3 rfl))) ?_)
      clear hA; intro a hA
      refine L1 (stv hA (by decide) (run_len_slice Try.underlying36 (hA.ev rfl)) ?_)
      clear hA; intro a hA
      refine L1 (stv hA (by decide) (run_bin (hA.ev rfl) (hA.ev rfl) (bin_lss _ _ _ _)) ?_)
      clear hA; intro a hA
      refine LQ ?_
      refine TN ?_
      refine tcond (b := (decide (i791 < ((r_0.Stems.length : Nat) : Int)))) hA rfl (fun hb811 => ?_) (fun hb811 => ?_)
      · replace H805 := ite_t hb811 H805
        refine wp_skip ?_
        refine TN ?_
        refine wp_seq ?_
        refine wp_block ?_
        refine wp_seq ?_
        refine wp_region_lit ?_
        refine L1 (stv hA (by decide) (run_field' Try.underlying39 rfl rfl Try.sizeOf36 (by decide) (hA.ev rfl)) ?_)
        clear hA; intro a hA
        refine L1 (stv hA (by decide) (run_ld (hA.ev rfl) (run_loadS Try.isAgg36 (At.seg1 (hM.box .z) 3 rfl))) ?_)
        clear hA; intro a hA
        refine L1 (stv hA (by decide) (run_move (hA.ev rfl)) ?_)
        clear hA; intro a hA
        obtain ⟨⟨hi812, hj813⟩, H805⟩ := ite_some H805
        obtain ⟨ad814, hq815, hat816⟩ := Row.elem' (p := pStem) (hM.ro hr0_3) (Eq.refl r_0.Stems.length) Stem.z i791 hi812 hj813
        refine L1 (stv hA (by decide) (run_idx Try.underlying36 Try.sizeOf61 (hA.ev rfl) hq815 (hA.ev rfl) hi812 hj813) ?_)
        clear hA; intro a hA
        refine L1 (stv hA (by decide) (run_field' Try.underlying61 rfl rfl Try.sizeOf35 (by decide) (hA.ev rfl)) ?_)
        clear hA; intro a hA
        refine L1 (stv hA (by decide) (run_ld (hA.ev rfl) (run_loadS Try.isAgg35 (Stem.at_Due (hat816)))) ?_)
        clear hA; intro a hA
        refine L1 (stv hA (by decide) (run_move (hA.ev rfl)) ?_)
        clear hA; intro a hA
        refine L1 (stv hA (by decide) (run_bin (hA.ev rfl) (hA.ev rfl) (bin_leq _ _ _ _)) ?_)
        clear hA; intro a hA
        refine LQ ?_
        refine TN ?_
        obtain ⟨o862, H861, H805⟩ := Option.bind_eq_some_iff.1 H805
        refine cutC (fun a w => ∃ (xs854 : (List Stem)) (xs859 : (List (Vector Int 32))) (v851 : Value) (v856 : Value), (xs854, xs859) = o862 ∧ Mem F w0 w [.box g448 39 [(.int .u32 r_0.Epoch), (.bool r_0.Diffuse), (.slice A0_2 r_0.Routes.length c0_2), (.slice A0_3 r_0.Stems.length c0_3), (.slice A0_4 r_0.Fluffed.length c0_4)], .box g451 39 [(.int .u32 0), (.bool false), (.slice none 0 0), (.slice none 0 0), (.slice none 0 0)], .box g469 39 [(.int .u32 r454.Epoch), (.bool r454.Diffuse), (.slice A461 r454.Routes.length c462), v851, (.slice A467 r454.Fluffed.length c468)], .row 3 (Pl.int .i64).sz (.slice A461 r454.Routes.length c462) ((Pl.int .i64).flat r454.Routes), .row 61 pStem.sz v851 (pStem.flat xs854), .row 34 pHash.sz (.slice A467 r454.Fluffed.length c468) (pHash.flat r454.Fluffed), .row 34 pHash.sz v856 (pHash.flat xs859)] ∧ Has 52 [(1, (.int .u32 now_1)), (2, (.pointer (some (⟨g448, 0, none⟩)))), (4, (.pointer (some (⟨g451, 0, none⟩)))), (6, (.pointer (some (⟨g469, 0, none⟩)))), (7, v856), (8, (.int .i64 i791))] a) ?_ ?_
        · refine tcond (b := (decide (((r_0.Stems.getD i791.toNat Stem.z).Due) ≤ now_1))) hA rfl (fun hb863 => ?_) (fun hb863 => ?_)
          · replace H861 := ite_t hb863 H861
            refine wp_region_lit ?_
            refine L1 (stv hA (by decide) (run_move (hA.ev rfl)) ?_)
            clear hA; intro a hA
            refine L1 (stv hA (by decide) (run_field' Try.underlying39 rfl rfl Try.sizeOf36 (by decide) (hA.ev rfl)) ?_)
            clear hA; intro a hA
            refine L1 (stv hA (by decide) (run_ld (hA.ev rfl) (run_loadS Try.isAgg36 (At.seg1 (hM.box .z) 3 rfl))) ?_)
            clear hA; intro a hA
            refine L1 (stv hA (by decide) (run_move (hA.ev rfl)) ?_)
            clear hA; intro a hA
            obtain ⟨⟨hi864, hj865⟩, H861⟩ := ite_some H861
            obtain ⟨ad866, hq867, hat868⟩ := Row.elem' (p := pStem) (hM.ro hr0_3) (Eq.refl r_0.Stems.length) Stem.z i791 hi864 hj865
            refine L1 (stv hA (by decide) (run_idx Try.underlying36 Try.sizeOf61 (hA.ev rfl) hq867 (hA.ev rfl) hi864 hj865) ?_)
            clear hA; intro a hA
            refine L1 (stv hA (by decide) (run_field' Try.underlying61 rfl rfl Try.sizeOf34 (by decide) (hA.ev rfl)) ?_)
            clear hA; intro a hA
            refine L1 (stv hA (by decide) (run_ld (hA.ev rfl) (run_loadP Try.isAgg34 Try.sizeOf34 (Stem.at_ID (hat868)))) ?_)
            clear hA; intro a hA
            refine L1 (e_litN [(r_0.Stems.getD i791.toNat Stem.z).ID] [(.agg (pHash.enc ((r_0.Stems.getD i791.toNat Stem.z).ID)).toArray)] elt37 hM rfl (by decide) hA rfl rfl (List.cons_ne_nil _ _) (by decide) ?_)
            clear hM hA; intro w870 g869 hM hE  a hA
            obtain ⟨hl874, H861⟩ := ite_some H861
            refine L1 (e_append elt37 hM (fun _ => (.s (.s (.s (.s (.s (.s (.s .z)))))))) (Src.row Try.underlying37 (RowOk.row (hM.row (p := pHash) .z)) (RowOk.len (hM.row (p := pHash) .z))) hl874 hA rfl rfl (by decide) ?_)
            clear hM hA; intro w875 A872 c873 hM hE  a hA
            refine L1 (stv hA (by decide) (run_assign (hA.ev rfl)) ?_)
            clear hA; intro a hA
            refine LQ ?_
            exact ⟨xs783, (xs789 ++ [(r_0.Stems.getD i791.toNat Stem.z).ID]), (.slice A781 xs783.length c782), (.slice A872 (xs789.length + 1) c873), Option.some.inj H861, (hM.sel [1, 2, 3, 4, 5, 6, 7] rfl (by decide)), ((((((hA.nil.cons (hA.get 8 _ rfl)).cons (hA.get 7 _ rfl)).cons (hA.get 6 _ rfl)).cons (hA.get 4 _ rfl)).cons (hA.get 2 _ rfl)).cons (hA.get 1 _ rfl))⟩
          · replace H861 := ite_f hb863 H861
            refine draw (fun w' => Below w810.heap.size w810 w') [8, 10] rfl ?_
            intro w876 hw hS; replace hM := hM.ext hS; clear hw
            refine d_takef (i := 0) (L' := #[true, false, false, false, false, false, false, false, false, false, false]) rfl (by kernel_rfl) rfl (fun _ _ _ h => h) hA (by decide) (fun _ => hS) (fun a w' hA => run_field' Try.underlying39 rfl rfl Try.sizeOf36 (by decide) (hA.ev rfl)) ?_; clear hA; intro a hA
            refine rebase hS ?_; clear hS; intro hS
            refine d_take (i := 1) (L' := #[true, true, false, false, false, false, false, false, false, false, false]) rfl (by kernel_rfl) rfl (fun _ _ _ h => h) hA (by decide) rfl hS (fun a w' hA hS' => run_ld (hA.ev rfl) (run_loadS Try.isAgg36 ((At.seg1 (hM.box (.s (.s .z))) 3 rfl).extB hS'))) ?_; clear hA; intro a hA
            refine d_takef (i := 2) (L' := #[true, true, true, false, false, false, false, false, false, false, false]) rfl (by kernel_rfl) rfl (fun _ _ _ h => h) hA (by decide) (fun _ => hS) (fun a w' hA => run_field' Try.underlying39 rfl rfl Try.sizeOf36 (by decide) (hA.ev rfl)) ?_; clear hA; intro a hA
            refine d_takef (i := 4) (L' := #[true, true, true, false, true, false, false, false, false, false, false]) rfl (by kernel_rfl) rfl (fun _ _ _ h => h) hA (by decide) (fun _ => hS) (fun a w' hA => run_move (hA.ev rfl)) ?_; clear hA; intro a hA
            refine d_one (i := 3) (L' := #[true, true, true, true, true, false, false, false, false, false, false]) (by kernel_rfl) rfl rfl (stv hA (by decide) (run_ld (hA.ev rfl) (run_loadS Try.isAgg36 (At.seg1 (hM.box .z) 3 rfl))) ?_)
            clear hA; intro a hA
            refine ⟨fun _ => hS, ?_⟩
            obtain ⟨⟨hi878, hj879⟩, H861⟩ := ite_some H861
            obtain ⟨ad880, hq881, hat882⟩ := Row.elem' (p := pStem) (hM.ro hr0_3) (Eq.refl r_0.Stems.length) Stem.z i791 hi878 hj879
            refine d_takef (i := 5) (L' := #[true, true, true, true, true, true, false, false, false, false, false]) rfl (by kernel_rfl) rfl (fun _ _ _ h => h) hA (by decide) (fun _ => hS) (fun a w' hA => run_idx Try.underlying36 Try.sizeOf61 (hA.ev rfl) hq881 (hA.ev rfl) hi878 hj879) ?_; clear hA; intro a hA
            refine d_one (i := 6) (L' := #[true, true, true, true, true, true, true, false, false, false, false]) (by kernel_rfl) rfl rfl (stv hA (by decide) (run_ld (hA.ev rfl) (run_loadP Try.isAgg61 Try.sizeOf61 hat882)) ?_)
            clear hA; intro a hA
            refine ⟨fun _ => hS, ?_⟩
            refine d_one (i := 7) (L' := #[true, true, true, true, true, true, true, true, false, false, false]) (by kernel_rfl) rfl rfl (e_litNL [(r_0.Stems.getD i791.toNat Stem.z)] [(.agg (pStem.enc (r_0.Stems.getD i791.toNat Stem.z)).toArray)] elt36 hM rfl (by decide) hA rfl rfl (List.cons_ne_nil _ _) (by decide) ?_)
            clear hM hA; intro w884 g883 hM hE hlo885 a hA
            have hlw886 : ∀ k, Value.ownBlock (.slice (some ⟨g883, 0, none⟩) 1 1) = some k → w876.heap.size ≤ k := fun k hk => by cases hk; exact Nat.le_trans hS.size hlo885
            replace hS := hS.trans (hE.mono hS.size)
            refine ⟨fun _ => hS, ?_⟩
            obtain ⟨hl889, H861⟩ := ite_some H861
            refine d_one (i := 8) (L' := #[true, true, true, true, true, true, true, true, true, false, false]) (by kernel_rfl) rfl rfl (e_appendL elt36 hM (fun _ => (.s (.s (.s (.s (.s .z)))))) (Src.row Try.underlying36 (RowOk.row (hM.row (p := pStem) .z)) (RowOk.len (hM.row (p := pStem) .z))) hl889 hA rfl rfl (by decide) ?_)
            clear hM hA; intro w890 A887 c888 hM hE hlo891 a hA
            refine ⟨fun h => absurd h (by decide), ?_⟩
            refine d_takef (i := 9) (L' := #[true, true, true, true, true, true, true, true, true, true, false]) rfl (by kernel_rfl) rfl (fun _ _ _ h => h) hA (by decide) (fun h => absurd h (by decide)) (fun a w' hA => run_field' Try.underlying39 rfl rfl Try.sizeOf36 (by decide) (hA.ev rfl)) ?_; clear hA; intro a hA
            refine d_one (i := 10) (L' := #[true, true, true, true, true, true, true, true, true, true, true]) (by kernel_rfl) rfl rfl (e_store (g := g469) (off := 3) (cur := [(.int .u32 r454.Epoch), (.bool r454.Diffuse), (.slice A461 r454.Routes.length c462), (.slice A781 xs783.length c782), (.slice A467 r454.Fluffed.length c468)]) (cs' := [(.int .u32 r454.Epoch), (.bool r454.Diffuse), (.slice A461 r454.Routes.length c462), (.slice A887 (xs783.length + 1) c888), (.slice A467 r454.Fluffed.length c468)]) hM (.s (.s (.s .z))) Try.sizeOf36 hA rfl (by simp [add_mk]) rfl (by first | rfl | simp [Value.cells, Pl.len]) (one_val rfl) (by first | exact Nat.le_of_ble_eq_true rfl | (simp [Pl.len]; done)) (rfl) ?_)
            clear hM hA; intro w892  hM hE  a hA
            refine ⟨fun h => absurd h (by decide), ?_⟩
            refine d_done (by kernel_rfl) ?_
            exact ⟨(xs783 ++ [(r_0.Stems.getD i791.toNat Stem.z)]), xs789, (.slice A887 (xs783.length + 1) c888), (.slice A787 xs789.length c788), Option.some.inj H861, (hM.sel [1, 2, 3, 4, 5, 6, 7] rfl (by decide)), ((((((hA.nil.cons (hA.get 8 _ rfl)).cons (hA.get 7 _ rfl)).cons (hA.get 6 _ rfl)).cons (hA.get 4 _ rfl)).cons (hA.get 2 _ rfl)).cons (hA.get 1 _ rfl))⟩
        clear hM hA
        rintro a w893 ⟨xs854, xs859, v851, v856, rfl, hM, hA⟩
        try dsimp only at H805
        obtain ⟨A852, c853, rfl⟩ := RowOk.form (hM.row (p := pStem) (.s (.s (.s (.s .z)))))
        obtain ⟨A857, c858, rfl⟩ := RowOk.form (hM.row (p := pHash) (.s (.s (.s (.s (.s (.s .z)))))))
        refine BN ?_
        refine TN ?_
        refine wp_region_lit ?_
        refine L1 (stv hA (by decide) (run_move (hA.ev rfl)) ?_)
        clear hA; intro a hA
        refine L1 (stv hA (by decide) (run_bin (hA.ev rfl) (hA.ev rfl) (bin_add _ _ _ _)) ?_)
        clear hA; intro a hA
        refine L1 (stv hA (by decide) (run_assign (hA.ev rfl)) ?_)
        clear hA; intro a hA
        refine LQ ?_
        exact ⟨_, Nat.lt_succ_self m809, xs854, xs859, IntKind.i64.wrap (i791 + 1), (.slice A852 xs854.length c853), (.slice A857 xs859.length c858), H805, hM, ((((((hA.nil.cons (hA.get 8 _ rfl)).cons (hA.get 7 _ rfl)).cons (hA.get 6 _ rfl)).cons (hA.get 4 _ rfl)).cons (hA.get 2 _ rfl)).cons (hA.get 1 _ rfl))⟩
      · replace H805 := ite_f hb811 H805
        refine wp_exit ?_
        refine TX ?_
        refine TX ?_
        refine BX ?_
        exact ⟨xs783, xs789, (.slice A781 xs783.length c782), (.slice A787 xs789.length c788), Option.some.inj H805, (hM.sel [1, 2, 3, 4, 5, 6] rfl (by decide)), (((hA.nil.cons (hA.get 7 _ rfl)).cons (hA.get 6 _ rfl)).cons (hA.get 4 _ rfl))⟩
    clear hM hA
    rintro a w894 ⟨xs798, xs804, v795, v801, rfl, hM, hA⟩
    try dsimp only at H
    obtain ⟨A796, c797, rfl⟩ := RowOk.form (hM.row (p := pStem) (.s (.s (.s .z))))
    obtain ⟨A802, c803, rfl⟩ := RowOk.form (hM.row (p := pHash) (.s (.s (.s (.s (.s .z))))))
    refine TN ?_
    refine wp_seq ?_
    refine wp_region_lit ?_
    refine L1 (stv hA (by decide) (run_ld (hA.ev rfl) (run_loadW Try.isAgg39 Try.sizeOf39 (by simp [Pl.len]; try rfl) (hM.box (.s .z)))) ?_)
    clear hA; intro a hA
    refine L1 (stv hA (by decide) (run_move (hA.ev rfl)) ?_)
    clear hA; intro a hA
    refine L1 (e_store (g := g451) (off := 0) (cur := [(.int .u32 0), (.bool false), (.slice none 0 0), (.slice none 0 0), (.slice none 0 0)]) (cs' := [(.int .u32 r454.Epoch), (.bool r454.Diffuse), (.slice A461 r454.Routes.length c462), (.slice A796 xs798.length c797), (.slice A467 r454.Fluffed.length c468)]) hM .z Try.sizeOf39 hA rfl (by simp [add_mk]) rfl (by first | rfl | simp [Value.cells, Pl.len]) (by simp [Value.cells, Value.oneCell']) (by first | exact Nat.le_of_ble_eq_true rfl | (simp [Pl.len]; done)) (spl_all (by first | rfl | simp [Value.cells, Pl.len])) ?_)
    clear hM hA; intro w895  hM hE  a hA
    refine L1 (stv hA (by decide) (run_assign (hA.ev rfl)) ?_)
    clear hA; intro a hA
    refine LQ ?_
    refine TN ?_
    refine wp_ret ?_
    obtain rfl := Option.some.inj H
    exact ret_mix2 (fn := Try.f19) hA rfl (RV.cell rfl (run_loadW Try.isAgg39 Try.sizeOf39 (by simp [Pl.len]; try rfl) (hM.box .z))) (RV.tmp rfl) ⟨_, rfl, (.slice A461 r454.Routes.length c462), (.slice A796 xs798.length c797), (.slice A467 r454.Fluffed.length c468), (.slice A802 xs804.length c803), rfl, (hM.sel [2, 3, 4, 5] rfl (by decide))⟩

end Go.Proofs.Ytnhgfdinnbadeaa.G
