/- The functions that a law of this seat reaches: what each comes to, as a plain function, and that its code comes to it. Conditions: the plain function gives a value (enough fuel, no panic). -/
import Derived.Test.YtnhgfdinnbadeaaFRelayEndsx0
set_option linter.unusedVariables false
set_option linter.unusedSimpArgs false
namespace Go.Proofs.Ytnhgfdinnbadeaa.G
open Go Go.RowKit Go.Proofs
def relay_Due.l0 (now_1 : Int) (r2236 : Relay) : Nat → (List (Vector Int 32)) → Int → Option (Out ((List (Vector Int 32)) × Int) ((List (Vector Int 32))))
  | 0, _, _ => none
  | k + 1, xs3922, t3925 => (if (decide (t3925 < ((r2236.Stems.length : Nat) : Int))) = true then (if 0 ≤ t3925 ∧ t3925 < ((r2236.Stems.length : Nat) : Int) then (Option.bind (α := (List (Vector Int 32))) (if (decide (((r2236.Stems.getD t3925.toNat Stem.z).Due) ≤ now_1)) = true then (if (xs3922.length + 1) * 32 ≤ 140737488355328 then (some (xs3922 ++ [(r2236.Stems.getD t3925.toNat Stem.z).ID])) else none) else (some xs3922)) (fun xs3989 => (if (decide (((r2236.Stems.getD t3925.toNat Stem.z).Due) ≤ now_1)) = true then (some (.ret (xs3989, t3925))) else (relay_Due.l0 now_1 r2236 k xs3989 (IntKind.i64.wrap (t3925 + 1)))))) else none) else (some (.go xs3922)))
def relay_Due.l1 (now_1 : Int) (r2236 : Relay) : Nat → (List Stem) → (List (Vector Int 32)) → Int → Int → Option ((List Stem) × Int × (List (Vector Int 32)))
  | 0, _, _, _, _ => none
  | k + 1, xs4312, xs4317, i4319, j4321 => (if (decide (j4321 < ((r2236.Stems.length : Nat) : Int))) = true then (if 0 ≤ j4321 ∧ j4321 < ((r2236.Stems.length : Nat) : Int) then (Option.bind (α := (List (Vector Int 32))) (if (decide (((xs4312.getD j4321.toNat Stem.z).Due) ≤ now_1)) = true then (if (xs4317.length + 1) * 32 ≤ 140737488355328 then (some (xs4317 ++ [(xs4312.getD j4321.toNat Stem.z).ID])) else none) else (some xs4317)) (fun xs4391 => (Option.bind (α := (List Stem) × Int) (if (!(decide (((xs4312.getD j4321.toNat Stem.z).Due) ≤ now_1))) = true then (if 0 ≤ i4319 ∧ i4319 < ((r2236.Stems.length : Nat) : Int) then (some ((xs4312.set i4319.toNat (xs4312.getD j4321.toNat Stem.z)), IntKind.i64.wrap (i4319 + 1))) else none) else (some (xs4312, i4319))) (fun st => match st with | (xs4412, i4415) => (relay_Due.l1 now_1 r2236 k xs4412 xs4391 i4415 (IntKind.i64.wrap (j4321 + 1))))))) else none) else (some (xs4312, i4319, xs4317)))
def relay_Due.f (k : Nat) (r_0 : Relay) (now_1 : Int) : Option (Relay × (List (Vector Int 32))) := ((relay_clone.f k (Relay.mk r_0.Epoch r_0.Diffuse r_0.Routes r_0.Stems r_0.Fluffed)).bind fun r2236 => ((relay_sound.f k (Relay.mk r_0.Epoch r_0.Diffuse r_0.Routes r_0.Stems r_0.Fluffed)).bind fun r2251 => (if (!r2251) = true then (some ((Relay.mk r2236.Epoch r2236.Diffuse r2236.Routes r2236.Stems r2236.Fluffed), ([] : List (Vector Int 32)))) else (Option.bind (α := (List (Vector Int 32)) × (List Stem)) (Option.bind (α := (List (Vector Int 32)) × Int) (Option.bind (α := Out ((List (Vector Int 32)) × Int) ((List (Vector Int 32)))) (relay_Due.l0 now_1 r2236 k ([] : List (Vector Int 32)) 0) (fun o => match o with | .ret r => some r | .go xs3930 => (some (xs3930, (-1))))) (fun st => match st with | (xs3678, t3680) => (if (t3680 == (-1)) = true then (some (xs3678, r2236.Stems)) else (Option.bind (α := (List Stem) × Int × (List (Vector Int 32))) (relay_Due.l1 now_1 r2236 k r2236.Stems xs3678 t3680 (IntKind.i64.wrap (t3680 + 1))) (fun st => match st with | (xs4323, i4325, xs4329) => (if 0 ≤ i4325 ∧ i4325 ≤ ((r2236.Stems.length : Nat) : Int) then (if 0 ≤ i4325 ∧ i4325 ≤ ((r2236.Stems.length : Nat) : Int) then (some (xs4329, ((xs4323.take i4325.toNat ++ List.replicate (r2236.Stems.length - i4325.toNat) Stem.z).take i4325.toNat))) else none) else none)))))) (fun st => match st with | (xs3345, xs3350) => (Option.bind (α := Unit) (some ()) (fun _ => (some ((Relay.mk r2236.Epoch r2236.Diffuse r2236.Routes xs3350 r2236.Fluffed), xs3345)))))))))
set_option maxHeartbeats 2000000 in
set_option maxRecDepth 100000 in
theorem relay_Due.calls (k : Nat) (r_0 : Relay) (now_1 : Int) (F : List (Option Nat)) (v0_2 : Value) (v0_3 : Value) (v0_4 : Value) (r : (Relay × (List (Vector Int 32)))) (w0 : World) (h0_2 : RoV F (Pl.int .i64) w0 v0_2 r_0.Routes) (h0_3 : RoV F pStem w0 v0_3 r_0.Stems) (h0_4 : RoV F pHash w0 v0_4 r_0.Fluffed) (hM : Mem F w0 w0 []) (H : relay_Due.f k r_0 now_1 = some r) :
    Calls Try.prog 18 #[(.agg #[(.int .u32 r_0.Epoch), (.bool r_0.Diffuse), v0_2, v0_3, v0_4]), (.int .u32 now_1)] w0 fun e w' => ∃ v, e = .returned v ∧ ∃ (ur_0_2 : Value) (ur_0_3 : Value) (ur_0_4 : Value) (ur_1 : Value), v = (.tuple #[(.agg #[(.int .u32 r.1.Epoch), (.bool r.1.Diffuse), ur_0_2, ur_0_3, ur_0_4]), ur_1]) ∧ Mem F w0 w' [.row 3 (Pl.int .i64).sz ur_0_2 ((Pl.int .i64).flat r.1.Routes), .row 61 pStem.sz ur_0_3 (pStem.flat r.1.Stems), .row 34 pHash.sz ur_0_4 (pHash.flat r.1.Fluffed), .row 34 pHash.sz ur_1 (pHash.flat r.2)] := by
  unfold relay_Due.f at H
  obtain ⟨A0_2, c0_2, rfl, hr0_2, hc0_2⟩ := h0_2
  obtain ⟨A0_3, c0_3, rfl, hr0_3, hc0_3⟩ := h0_3
  obtain ⟨A0_4, c0_4, rfl, hr0_4, hc0_4⟩ := h0_4
  refine enterL (n := 22) [(.agg #[(.int .u32 r_0.Epoch), (.bool r_0.Diffuse), (.slice A0_2 r_0.Routes.length c0_2), (.slice A0_3 r_0.Stems.length c0_3), (.slice A0_4 r_0.Fluffed.length c0_4)]), (.int .u32 now_1)] Try.func18 rfl rfl rfl ?_
  intro a hA
  refine wp_seq ?_
  refine wp_region_lit ?_
  refine L1 (e_box (cs := [(.int .u32 r_0.Epoch), (.bool r_0.Diffuse), (.slice A0_2 r_0.Routes.length c0_2), (.slice A0_3 r_0.Stems.length c0_3), (.slice A0_4 r_0.Fluffed.length c0_4)]) hM hA rfl rfl (by decide) ?_)
  clear hM hA; intro w2226 g2225 hM hE  a hA
  refine L1 (e_box (cs := [(.int .u32 now_1)]) hM hA rfl rfl (by decide) ?_)
  clear hM hA; intro w2229 g2228 hM hE  a hA
  refine L1 (e_alloc (cs := [(.int .u32 0), (.bool false), (.slice none 0 0), (.slice none 0 0), (.slice none 0 0)]) hM zero39 rfl hA (by decide) ?_)
  clear hM hA; intro w2232 g2231 hM hE  a hA
  refine L1 (stv hA (by decide) (run_assign (hA.ev rfl)) ?_)
  clear hA; intro a hA
  refine LQ ?_
  refine TN ?_
  refine wp_seq ?_
  refine draw (fun w' => Below w2232.heap.size w2232 w') [4] rfl ?_
  intro w2234 hw hS; replace hM := hM.ext hS; clear hw
  refine rebase hS ?_; clear hS; intro hS
  refine d_take (i := 0) (L' := #[true, false, false, false, false, false]) rfl (by kernel_rfl) rfl (fun _ _ _ h => h) hA (by decide) rfl hS (fun a w' hA hS' => run_ld (hA.ev rfl) (run_loadW Try.isAgg39 Try.sizeOf39 (by simp [Pl.len]; try rfl) ((hM.box (.s (.s .z))).extB hS'))) ?_; clear hA; intro a hA
  refine d_take (i := 2) (L' := #[true, false, true, false, false, false]) rfl (by kernel_rfl) rfl (fun _ _ _ h => h) hA (by decide) rfl hS (fun a w' hA hS' => run_ld (hA.ev rfl) (run_loadW Try.isAgg39 Try.sizeOf39 (by simp [Pl.len]; try rfl) ((hM.box (.s (.s .z))).extB hS'))) ?_; clear hA; intro a hA
  obtain ⟨r2236, H2237, H⟩ := Option.bind_eq_some_iff.1 H
  refine d_one (i := 1) (L' := #[true, true, true, false, false, false]) (by kernel_rfl) rfl rfl (st_call Try.call32 hA [(.agg #[(.int .u32 r_0.Epoch), (.bool r_0.Diffuse), (.slice A0_2 r_0.Routes.length c0_2), (.slice A0_3 r_0.Stems.length c0_3), (.slice A0_4 r_0.Fluffed.length c0_4)])] rfl (by decide) (relay_clone.calls _ (Relay.mk r_0.Epoch r_0.Diffuse r_0.Routes r_0.Stems r_0.Fluffed) _ _ _ _ _ _ ((RoV.mk (hM.roC (Ms := []) hr0_2) (Eq.refl r_0.Routes.length) hc0_2)) ((RoV.mk (hM.roC (Ms := []) hr0_3) (Eq.refl r_0.Stems.length) hc0_3)) ((RoV.mk (hM.roC (Ms := []) hr0_4) (Eq.refl r_0.Fluffed.length) hc0_4)) (hM.front (Ms := [])) H2237) ?_)
  clear hA; rintro _ w2238 ⟨v2239, v2240, v2241, rfl, hMc⟩ a hA
  have hE := hMc.below; have hM := hM.call (Ms := []) hMc
  have hlw2242 : ∀ k, _ → w2234.heap.size ≤ k := fun k hk => Nat.le_trans hS.size ((hMc.low _ (List.Mem.head _) k hk).resolve_right (by simp))
  have hlw2243 : ∀ k, _ → w2234.heap.size ≤ k := fun k hk => Nat.le_trans hS.size ((hMc.low _ (List.Mem.tail _ (List.Mem.head _)) k hk).resolve_right (by simp))
  have hlw2244 : ∀ k, _ → w2234.heap.size ≤ k := fun k hk => Nat.le_trans hS.size ((hMc.low _ (List.Mem.tail _ (List.Mem.tail _ (List.Mem.head _))) k hk).resolve_right (by simp))
  clear hMc; simp only [List.cons_append, List.nil_append] at hM
  obtain ⟨A2245, c2246, rfl⟩ := RowOk.form (hM.row (p := (Pl.int .i64)) .z)
  obtain ⟨A2247, c2248, rfl⟩ := RowOk.form (hM.row (p := pStem) (.s .z))
  obtain ⟨A2249, c2250, rfl⟩ := RowOk.form (hM.row (p := pHash) (.s (.s .z)))
  replace hS := hS.trans (hE.mono hS.size)
  refine ⟨fun _ => hS, ?_⟩
  obtain ⟨r2251, H2252, H⟩ := Option.bind_eq_some_iff.1 H
  refine d_one (i := 3) (L' := #[true, true, true, true, false, false]) (by kernel_rfl) rfl rfl (st_call Try.call30 hA [(.agg #[(.int .u32 r_0.Epoch), (.bool r_0.Diffuse), (.slice A0_2 r_0.Routes.length c0_2), (.slice A0_3 r_0.Stems.length c0_3), (.slice A0_4 r_0.Fluffed.length c0_4)])] rfl (by decide) (relay_sound.calls _ (Relay.mk r_0.Epoch r_0.Diffuse r_0.Routes r_0.Stems r_0.Fluffed) _ _ _ _ _ _ ((RoV.mk (hM.roC (Ms := []) hr0_2) (Eq.refl r_0.Routes.length) hc0_2)) ((RoV.mk (hM.roC (Ms := []) hr0_3) (Eq.refl r_0.Stems.length) hc0_3)) ((RoV.mk (hM.roC (Ms := []) hr0_4) (Eq.refl r_0.Fluffed.length) hc0_4)) (hM.front (Ms := [])) H2252) ?_)
  clear hA; rintro _ w2253 ⟨rfl, hMc⟩ a hA
  have hE := hMc.below; have hM := hM.call (Ms := []) hMc
  clear hMc; simp only [List.cons_append, List.nil_append] at hM
  replace hS := hS.trans (hE.mono hS.size)
  refine ⟨fun _ => hS, ?_⟩
  refine d_one (i := 4) (L' := #[true, true, true, true, true, false]) (by kernel_rfl) rfl rfl (e_store (g := g2225) (off := 0) (cur := [(.int .u32 r_0.Epoch), (.bool r_0.Diffuse), (.slice A0_2 r_0.Routes.length c0_2), (.slice A0_3 r_0.Stems.length c0_3), (.slice A0_4 r_0.Fluffed.length c0_4)]) (cs' := [(.int .u32 r2236.Epoch), (.bool r2236.Diffuse), (.slice A2245 r2236.Routes.length c2246), (.slice A2247 r2236.Stems.length c2248), (.slice A2249 r2236.Fluffed.length c2250)]) hM (.s (.s (.s (.s (.s .z))))) Try.sizeOf39 hA rfl (by simp [add_mk]) rfl (by first | rfl | simp [Value.cells, Pl.len]) (by simp [Value.cells, Value.oneCell']) (by first | exact Nat.le_of_ble_eq_true rfl | (simp [Pl.len]; done)) (spl_all (by first | rfl | simp [Value.cells, Pl.len])) ?_)
  clear hM hA; intro w2254  hM hE  a hA
  refine ⟨fun h => absurd h (by decide), ?_⟩
  refine d_takef (i := 5) (L' := #[true, true, true, true, true, true]) rfl (by kernel_rfl) rfl (fun _ _ _ h => h) hA (by decide) (fun h => absurd h (by decide)) (fun a w' hA => run_assign (hA.ev rfl)) ?_; clear hA; intro a hA
  refine d_done (by kernel_rfl) ?_
  refine TN ?_
  refine wp_seq ?_
  refine wp_seq ?_
  refine wp_region_lit ?_
  refine L1 (stv hA (by decide) (run_move (hA.ev rfl)) ?_)
  clear hA; intro a hA
  refine L1 (stv hA (by decide) (run_not (hA.ev rfl)) ?_)
  clear hA; intro a hA
  refine LQ ?_
  refine TN ?_
  refine tcond (b := (!r2251)) hA rfl (fun hb2255 => ?_) (fun hb2255 => ?_)
  · replace H := ite_t hb2255 H
    refine wp_seq ?_
    refine wp_region_lit ?_
    refine L1 (stv hA (by decide) (run_ld (hA.ev rfl) (run_loadW Try.isAgg39 Try.sizeOf39 (by simp [Pl.len]; try rfl) (hM.box (.s (.s (.s (.s (.s .z)))))))) ?_)
    clear hA; intro a hA
    refine L1 (e_store (g := g2231) (off := 0) (cur := [(.int .u32 0), (.bool false), (.slice none 0 0), (.slice none 0 0), (.slice none 0 0)]) (cs' := [(.int .u32 r2236.Epoch), (.bool r2236.Diffuse), (.slice A2245 r2236.Routes.length c2246), (.slice A2247 r2236.Stems.length c2248), (.slice A2249 r2236.Fluffed.length c2250)]) hM (.s (.s (.s .z))) Try.sizeOf39 hA rfl (by simp [add_mk]) rfl (by first | rfl | simp [Value.cells, Pl.len]) (by simp [Value.cells, Value.oneCell']) (by first | exact Nat.le_of_ble_eq_true rfl | (simp [Pl.len]; done)) (spl_all (by first | rfl | simp [Value.cells, Pl.len])) ?_)
    clear hM hA; intro w2256  hM hE  a hA
    refine L1 (stv hA (by decide) (run_assign (hA.ev rfl)) ?_)
    clear hA; intro a hA
    refine LQ ?_
    refine TN ?_
    refine wp_ret ?_
    have hM := hM.addnil 34 (pHash).sz
    obtain rfl := Option.some.inj H
    refine TR ?_
    exact ret_mix2 (fn := Try.f18) hA rfl (RV.cell rfl (run_loadW Try.isAgg39 Try.sizeOf39 (by simp [Pl.len]; try rfl) (hM.box (.s (.s (.s (.s .z))))))) (RV.tmp rfl) ⟨_, rfl, (.slice A2245 r2236.Routes.length c2246), (.slice A2247 r2236.Stems.length c2248), (.slice A2249 r2236.Fluffed.length c2250), (.slice none 0 0), rfl, (hM.sel [1, 2, 3, 0] rfl (by decide))⟩
  · replace H := ite_f hb2255 H
    refine wp_skip ?_
    refine TN ?_
    refine wp_seq ?_
    refine wp_region_lit ?_
    refine L1 (e_alloc (cs := [(.slice none 0 0)]) hM zero37 rfl hA (by decide) ?_)
    clear hM hA; intro w2259 g2258 hM hE  a hA
    refine LQ ?_
    refine TN ?_
    refine wp_seq ?_
    refine wp_region_lit ?_
    refine L1 (stv hA (by decide) (run_field' Try.underlying39 rfl rfl Try.sizeOf36 (by decide) (hA.ev rfl)) ?_)
    clear hA; intro a hA
    refine L1 (stv hA (by decide) (run_ld (hA.ev rfl) (run_loadS Try.isAgg36 (At.seg1 (hM.box (.s (.s (.s (.s (.s (.s .z))))))) 3 rfl))) ?_)
    clear hA; intro a hA
    refine L1 (stv hA (by decide) (run_fn2 hA [(.pointer (some (⟨g2228, 0, none⟩))), (.pointer (some (⟨g2258, 0, none⟩)))] rfl) ?_)
    clear hA; intro a hA
    refine L1 (inl_call Try.call33 hA [(.slice A2247 r2236.Stems.length c2248), (.func (.func 38) #[] #[(.pointer (some (⟨g2228, 0, none⟩))), (.pointer (some (⟨g2258, 0, none⟩)))])] rfl (by decide) ?_)
    obtain ⟨o3352, H3351, H⟩ := Option.bind_eq_some_iff.1 H
    refine (show Calls Try.prog 33 _ w2259 (fun e w => ∃ v, e = .returned v ∧ ∃ (xs3345 : (List (Vector Int 32))) (xs3350 : (List Stem)) (v3342 : Value) (v3347 : Value), (xs3345, xs3350) = o3352 ∧ v = v3347 ∧ Mem F w0 w [.box g2225 39 [(.int .u32 r2236.Epoch), (.bool r2236.Diffuse), (.slice A2245 r2236.Routes.length c2246), (.slice A2247 r2236.Stems.length c2248), (.slice A2249 r2236.Fluffed.length c2250)], .row 3 (Pl.int .i64).sz (.slice A2245 r2236.Routes.length c2246) ((Pl.int .i64).flat r2236.Routes), .row 34 pHash.sz (.slice A2249 r2236.Fluffed.length c2250) (pHash.flat r2236.Fluffed), .box g2228 35 [(.int .u32 now_1)], .box g2231 39 [(.int .u32 0), (.bool false), (.slice none 0 0), (.slice none 0 0), (.slice none 0 0)], .box g2258 37 [v3342], .row 34 pHash.sz v3342 (pHash.flat xs3345), .row 61 pStem.sz v3347 (pStem.flat xs3350)]) from ?_).mono ?_
    · refine enterL (n := 42) [(.slice A2247 r2236.Stems.length c2248), (.func (.func 38) #[] #[(.pointer (some (⟨g2228, 0, none⟩))), (.pointer (some (⟨g2258, 0, none⟩)))])] Try.func33 rfl rfl rfl ?_
      clear hA; intro a hA
      refine wp_seq ?_
      refine wp_region_lit ?_
      refine L1 (stv hA (by decide) (run_assign (hA.ev rfl)) ?_)
      clear hA; intro a hA
      refine LQ ?_
      refine TN ?_
      refine wp_seq ?_
      refine wp_region_lit ?_
      refine L1 (stv hA (by decide) (run_move (hA.ev rfl)) ?_)
      clear hA; intro a hA
      refine L1 (stv hA (by decide) (run_move (hA.ev rfl)) ?_)
      clear hA; intro a hA
      refine L1 (inl_call Try.call48 hA [(.slice A2247 r2236.Stems.length c2248), (.func (.func 38) #[] #[(.pointer (some (⟨g2228, 0, none⟩))), (.pointer (some (⟨g2258, 0, none⟩)))])] rfl (by decide) ?_)
      obtain ⟨o3682, H3681, H3351⟩ := Option.bind_eq_some_iff.1 H3351
      refine (show Calls Try.prog 48 _ w2259 (fun e w => ∃ v, e = .returned v ∧ ∃ (xs3678 : (List (Vector Int 32))) (t3680 : Int) (v3675 : Value), (xs3678, t3680) = o3682 ∧ v = (.int .i64 t3680) ∧ Mem F w0 w [.row 61 pStem.sz (.slice A2247 r2236.Stems.length c2248) (pStem.flat r2236.Stems), .box g2228 35 [(.int .u32 now_1)], .box g2258 37 [v3675], .row 34 pHash.sz v3675 (pHash.flat xs3678), .box g2225 39 [(.int .u32 r2236.Epoch), (.bool r2236.Diffuse), (.slice A2245 r2236.Routes.length c2246), (.slice A2247 r2236.Stems.length c2248), (.slice A2249 r2236.Fluffed.length c2250)], .row 3 (Pl.int .i64).sz (.slice A2245 r2236.Routes.length c2246) ((Pl.int .i64).flat r2236.Routes), .row 34 pHash.sz (.slice A2249 r2236.Fluffed.length c2250) (pHash.flat r2236.Fluffed), .box g2231 39 [(.int .u32 0), (.bool false), (.slice none 0 0), (.slice none 0 0), (.slice none 0 0)]]) from ?_).mono ?_
      · refine enterL (n := 19) [(.slice A2247 r2236.Stems.length c2248), (.func (.func 38) #[] #[(.pointer (some (⟨g2228, 0, none⟩))), (.pointer (some (⟨g2258, 0, none⟩)))])] Try.func48 rfl rfl rfl ?_
        clear hA; intro a hA
        refine wp_seq ?_
        refine wp_region_lit ?_
        refine L1 (stv hA (by decide) (run_assign (hA.ev rfl)) ?_)
        clear hA; intro a hA
        refine LQ ?_
        refine TN ?_
        refine wp_seq ?_
        refine wp_seq ?_
        refine wp_region_lit ?_
        refine L1 (stv hA (by decide) (run_move (hA.ev rfl)) ?_)
        clear hA; intro a hA
        refine L1 (stv hA (by decide) (run_len_slice Try.underlying36 (hA.ev rfl)) ?_)
        clear hA; intro a hA
        refine L1 (stv hA (by decide) (run_move (hA.ev rfl)) ?_)
        clear hA; intro a hA
        refine LQ ?_
        refine TN ?_
        obtain ⟨o3932, H3931, H3681⟩ := Option.bind_eq_some_iff.1 H3681
        refine cutC (fun a w => ∃ (xs3930 : (List (Vector Int 32))) (v3927 : Value), (.go xs3930) = o3932 ∧ Mem F w0 w [.box g2258 37 [v3927], .row 34 pHash.sz v3927 (pHash.flat xs3930), .box g2228 35 [(.int .u32 now_1)], .row 61 pStem.sz (.slice A2247 r2236.Stems.length c2248) (pStem.flat r2236.Stems), .box g2225 39 [(.int .u32 r2236.Epoch), (.bool r2236.Diffuse), (.slice A2245 r2236.Routes.length c2246), (.slice A2247 r2236.Stems.length c2248), (.slice A2249 r2236.Fluffed.length c2250)], .row 3 (Pl.int .i64).sz (.slice A2245 r2236.Routes.length c2246) ((Pl.int .i64).flat r2236.Routes), .row 34 pHash.sz (.slice A2249 r2236.Fluffed.length c2250) (pHash.flat r2236.Fluffed), .box g2231 39 [(.int .u32 0), (.bool false), (.slice none 0 0), (.slice none 0 0), (.slice none 0 0)]] ∧ Has 19 [] a) ?_ ?_
        · refine wp_block ?_
          have hM := hM.addnil 34 (pHash).sz
          refine wp_loop_ghost (fun m a w => ∃ (xs3922 : (List (Vector Int 32))) (t3925 : Int) (v3919 : Value), relay_Due.l0 now_1 r2236 m xs3922 t3925 = some o3932 ∧ Mem F w0 w [.row 61 pStem.sz (.slice A2247 r2236.Stems.length c2248) (pStem.flat r2236.Stems), .box g2228 35 [(.int .u32 now_1)], .box g2258 37 [v3919], .row 34 pHash.sz v3919 (pHash.flat xs3922), .box g2225 39 [(.int .u32 r2236.Epoch), (.bool r2236.Diffuse), (.slice A2245 r2236.Routes.length c2246), (.slice A2247 r2236.Stems.length c2248), (.slice A2249 r2236.Fluffed.length c2250)], .row 3 (Pl.int .i64).sz (.slice A2245 r2236.Routes.length c2246) ((Pl.int .i64).flat r2236.Routes), .row 34 pHash.sz (.slice A2249 r2236.Fluffed.length c2250) (pHash.flat r2236.Fluffed), .box g2231 39 [(.int .u32 0), (.bool false), (.slice none 0 0), (.slice none 0 0), (.slice none 0 0)]] ∧ Has 19 [(0, (.slice A2247 r2236.Stems.length c2248)), (1, (.func (.func 38) #[] #[(.pointer (some (⟨g2228, 0, none⟩))), (.pointer (some (⟨g2258, 0, none⟩)))])), (7, (.int .i64 ((r2236.Stems.length : Nat) : Int))), (8, (.int .i64 t3925))] a) k ⟨([] : List (Vector Int 32)), 0, (.slice none 0 0), H3931, (hM.sel [3, 6, 1, 0, 7, 2, 4, 5] rfl (by decide)), ((((hA.nil.cons (hA.get 8 _ rfl)).cons (hA.get 7 _ rfl)).cons (hA.get 1 _ rfl)).cons (hA.get 0 _ rfl))⟩ ?_
          clear hM hA; rintro m3934 a w3935 ⟨xs3922, t3925, v3919, H3931, hM, hA⟩
          cases m3934 with
          | zero => exact absurd H3931 (by simp [relay_Due.l0])
          | succ m3934 =>
          rw [relay_Due.l0] at H3931
          obtain ⟨A3920, c3921, rfl⟩ := RowOk.form (hM.row (p := pHash) (.s (.s (.s .z))))
          refine wp_seq ?_
          refine wp_region_lit ?_
          refine L1 (stv hA (by decide) (run_bin (hA.ev rfl) (hA.ev rfl) (bin_lss _ _ _ _)) ?_)
          clear hA; intro a hA
          refine LQ ?_
          refine TN ?_
          refine wp_seq ?_
          refine tcond (b := (decide (t3925 < ((r2236.Stems.length : Nat) : Int)))) hA rfl (fun hb3936 => ?_) (fun hb3936 => ?_)
          · replace H3931 := ite_t hb3936 H3931
            refine wp_skip ?_
            refine TN ?_
            refine wp_seq ?_
            refine wp_block ?_
            refine wp_seq ?_
            refine wp_region_lit ?_
            refine L1 (stv hA (by decide) (run_move (hA.ev rfl)) ?_)
            clear hA; intro a hA
            refine L1 (stv hA (by decide) (run_assign (hA.ev rfl)) ?_)
            clear hA; intro a hA
            refine LQ ?_
            refine TN ?_
            refine wp_seq ?_
            refine wp_region_lit ?_
            refine L1 (stv hA (by decide) (run_move (hA.ev rfl)) ?_)
            clear hA; intro a hA
            refine L1 (stv hA (by decide) (run_move (hA.ev rfl)) ?_)
            clear hA; intro a hA
            refine L1 (stv hA (by decide) (run_move (hA.ev rfl)) ?_)
            clear hA; intro a hA
            obtain ⟨⟨hi3937, hj3938⟩, H3931⟩ := ite_some H3931
            obtain ⟨ad3939, hq3940, hat3941⟩ := Row.elem' (p := pStem) (RowOk.row (hM.row (p := pStem) .z)) (RowOk.len (hM.row (p := pStem) .z)) Stem.z t3925 hi3937 hj3938
            refine L1 (stv hA (by decide) (run_idx Try.underlying36 Try.sizeOf61 (hA.ev rfl) hq3940 (hA.ev rfl) hi3937 hj3938) ?_)
            clear hA; intro a hA
            refine L1 (stv hA (by decide) (run_ld (hA.ev rfl) (run_loadP Try.isAgg61 Try.sizeOf61 hat3941)) ?_)
            clear hA; intro a hA
            refine L1 (inl_callv (caps := [(.pointer (some (⟨g2228, 0, none⟩))), (.pointer (some (⟨g2258, 0, none⟩)))]) Try.call38 hA rfl [(.agg (pStem.enc (r2236.Stems.getD t3925.toNat Stem.z)).toArray)] rfl (by decide) ?_)
            refine enterL (n := 18) [(.agg (pStem.enc (r2236.Stems.getD t3925.toNat Stem.z)).toArray), (.pointer (some (⟨g2228, 0, none⟩))), (.pointer (some (⟨g2258, 0, none⟩)))] Try.func38 rfl rfl rfl ?_
            clear hA; intro a hA
            refine wp_seq ?_
            refine wp_region_lit ?_
            refine L1 (e_box (cs := (pStem.enc (r2236.Stems.getD t3925.toNat Stem.z))) hM hA rfl rfl (by decide) ?_)
            clear hM hA; intro w3973 g3972 hM hE  a hA
            refine L1 (stv hA (by decide) (run_assign (hA.ev rfl)) ?_)
            clear hA; intro a hA
            refine LQ ?_
            refine TN ?_
            refine wp_seq ?_
            refine wp_seq ?_
            refine wp_region_lit ?_
            refine L1 (stv hA (by decide) (run_field' Try.underlying61 rfl rfl Try.sizeOf35 (by decide) (hA.ev rfl)) ?_)
            clear hA; intro a hA
            refine L1 (stv hA (by decide) (run_ld (hA.ev rfl) (run_loadS Try.isAgg35 (Stem.at_Due (hM.box .z)))) ?_)
            clear hA; intro a hA
            refine L1 (stv hA (by decide) (run_ld (hA.ev rfl) (run_loadS Try.isAgg35 (hM.box (.s (.s .z))))) ?_)
            clear hA; intro a hA
            refine L1 (stv hA (by decide) (run_bin (hA.ev rfl) (hA.ev rfl) (bin_leq _ _ _ _)) ?_)
            clear hA; intro a hA
            refine LQ ?_
            refine TN ?_
            obtain ⟨o3991, H3990, H3931⟩ := Option.bind_eq_some_iff.1 H3931
            refine cutC (fun a w => ∃ (xs3989 : (List (Vector Int 32))) (v3986 : Value), xs3989 = o3991 ∧ Mem F w0 w [.box g2228 35 [(.int .u32 now_1)], .box g3972 61 (pStem.enc (r2236.Stems.getD t3925.toNat Stem.z)), .row 61 pStem.sz (.slice A2247 r2236.Stems.length c2248) (pStem.flat r2236.Stems), .box g2258 37 [v3986], .row 34 pHash.sz v3986 (pHash.flat xs3989), .box g2225 39 [(.int .u32 r2236.Epoch), (.bool r2236.Diffuse), (.slice A2245 r2236.Routes.length c2246), (.slice A2247 r2236.Stems.length c2248), (.slice A2249 r2236.Fluffed.length c2250)], .row 3 (Pl.int .i64).sz (.slice A2245 r2236.Routes.length c2246) ((Pl.int .i64).flat r2236.Routes), .row 34 pHash.sz (.slice A2249 r2236.Fluffed.length c2250) (pHash.flat r2236.Fluffed), .box g2231 39 [(.int .u32 0), (.bool false), (.slice none 0 0), (.slice none 0 0), (.slice none 0 0)]] ∧ Has 18 [(1, (.pointer (some (⟨g2228, 0, none⟩)))), (3, (.pointer (some (⟨g3972, 0, none⟩))))] a) ?_ ?_
            · refine tcond (b := (decide (((r2236.Stems.getD t3925.toNat Stem.z).Due) ≤ now_1))) hA rfl (fun hb3992 => ?_) (fun hb3992 => ?_)
              · replace H3990 := ite_t hb3992 H3990
                refine wp_region_lit ?_
                refine L1 (stv hA (by decide) (run_ld (hA.ev rfl) (run_loadS Try.isAgg37 (hM.box (.s (.s (.s .z)))))) ?_)
                clear hA; intro a hA
                refine L1 (stv hA (by decide) (run_field' Try.underlying61 rfl rfl Try.sizeOf34 (by decide) (hA.ev rfl)) ?_)
                clear hA; intro a hA
                refine L1 (stv hA (by decide) (run_ld (hA.ev rfl) (run_loadP Try.isAgg34 Try.sizeOf34 (Stem.at_ID (hM.box .z)))) ?_)
                clear hA; intro a hA
                refine L1 (e_litN [(r2236.Stems.getD t3925.toNat Stem.z).ID] [(.agg (pHash.enc ((r2236.Stems.getD t3925.toNat Stem.z).ID)).toArray)] elt37 hM rfl (by decide) hA rfl rfl (List.cons_ne_nil _ _) (by decide) ?_)
                clear hM hA; intro w3994 g3993 hM hE  a hA
                obtain ⟨hl3998, H3990⟩ := ite_some H3990
                refine L1 (e_append elt37 hM (fun _ => (.s (.s (.s (.s (.s .z)))))) (Src.row Try.underlying37 (RowOk.row (hM.row (p := pHash) .z)) (RowOk.len (hM.row (p := pHash) .z))) hl3998 hA rfl rfl (by decide) ?_)
                clear hM hA; intro w3999 A3996 c3997 hM hE  a hA
                refine L1 (e_store (g := g2258) (off := 0) (cur := [(.slice A3920 xs3922.length c3921)]) (cs' := [(.slice A3996 (xs3922.length + 1) c3997)]) hM (.s (.s (.s (.s .z)))) Try.sizeOf37 hA rfl (by simp [add_mk]) rfl (by first | rfl | simp [Value.cells, Pl.len]) (one_val rfl) (by first | exact Nat.le_of_ble_eq_true rfl | (simp [Pl.len]; done)) (spl_all (by first | rfl | simp [Value.cells, Pl.len])) ?_)
                clear hM hA; intro w4000  hM hE  a hA
                refine LQ ?_
                exact ⟨(xs3922 ++ [(r2236.Stems.getD t3925.toNat Stem.z).ID]), (.slice A3996 (xs3922.length + 1) c3997), Option.some.inj H3990, (hM.sel [3, 1, 2, 4, 5, 6, 7, 8, 9] rfl (by decide)), ((hA.nil.cons (hA.get 3 _ rfl)).cons (hA.get 1 _ rfl))⟩
              · replace H3990 := ite_f hb3992 H3990
                refine wp_skip ?_
                exact ⟨xs3922, (.slice A3920 xs3922.length c3921), Option.some.inj H3990, (hM.sel [2, 0, 1, 3, 4, 5, 6, 7, 8] rfl (by decide)), ((hA.nil.cons (hA.get 3 _ rfl)).cons (hA.get 1 _ rfl))⟩
            clear hM hA
            rintro a w4001 ⟨xs3989, v3986, rfl, hM, hA⟩
            try dsimp only at H3931
            obtain ⟨A3987, c3988, rfl⟩ := RowOk.form (hM.row (p := pHash) (.s (.s (.s (.s .z)))))
            refine TN ?_
            refine wp_seq ?_
            refine wp_region_lit ?_
            refine L1 (stv hA (by decide) (run_field' Try.underlying61 rfl rfl Try.sizeOf35 (by decide) (hA.ev rfl)) ?_)
            clear hA; intro a hA
            refine L1 (stv hA (by decide) (run_ld (hA.ev rfl) (run_loadS Try.isAgg35 (Stem.at_Due (hM.box (.s .z))))) ?_)
            clear hA; intro a hA
            refine L1 (stv hA (by decide) (run_ld (hA.ev rfl) (run_loadS Try.isAgg35 (hM.box .z))) ?_)
            clear hA; intro a hA
            refine L1 (stv hA (by decide) (run_bin (hA.ev rfl) (hA.ev rfl) (bin_leq _ _ _ _)) ?_)
            clear hA; intro a hA
            refine L1 (stv hA (by decide) (run_assign (hA.ev rfl)) ?_)
            clear hA; intro a hA
            refine LQ ?_
            refine TN ?_
            refine wp_ret ?_
            refine ret_post1 (fn := Try.f38) hA rfl rfl ⟨_, rfl, ?_⟩; clear hA; intro a hA
            refine LQ ?_
            refine TN ?_
            refine tcond (b := (decide (((r2236.Stems.getD t3925.toNat Stem.z).Due) ≤ now_1))) hA rfl (fun hb4002 => ?_) (fun hb4002 => ?_)
            · replace H3931 := ite_t hb4002 H3931
              refine wp_seq ?_
              refine wp_region_lit ?_
              refine L1 (stv hA (by decide) (run_move (hA.ev rfl)) ?_)
              clear hA; intro a hA
              refine L1 (stv hA (by decide) (run_assign (hA.ev rfl)) ?_)
              clear hA; intro a hA
              refine LQ ?_
              refine TN ?_
              refine wp_ret ?_
              obtain rfl := Option.some.inj H3931
              dsimp only at H3681
              obtain rfl := Option.some.inj H3681
              refine BR ?_
              refine TR ?_
              refine TR ?_
              refine BR ?_
              refine TR ?_
              refine TR ?_
              exact ret_post1 (fn := Try.f48) hA rfl rfl ⟨_, rfl, xs3989, t3925, (.slice A3987 xs3989.length c3988), rfl, rfl, (hM.sel [2, 0, 3, 4, 5, 6, 7, 8] rfl (by decide))⟩
            · replace H3931 := ite_f hb4002 H3931
              refine wp_skip ?_
              refine BN ?_
              refine TN ?_
              refine wp_region_lit ?_
              refine L1 (stv hA (by decide) (run_bin (hA.ev rfl) (hA.ev rfl) (bin_add _ _ _ _)) ?_)
              clear hA; intro a hA
              refine L1 (stv hA (by decide) (run_move (hA.ev rfl)) ?_)
              clear hA; intro a hA
              refine LQ ?_
              exact ⟨_, Nat.lt_succ_self m3934, xs3989, IntKind.i64.wrap (t3925 + 1), (.slice A3987 xs3989.length c3988), H3931, (hM.sel [2, 0, 3, 4, 5, 6, 7, 8] rfl (by decide)), ((((hA.nil.cons (hA.get 8 _ rfl)).cons (hA.get 7 _ rfl)).cons (hA.get 1 _ rfl)).cons (hA.get 0 _ rfl))⟩
          · replace H3931 := ite_f hb3936 H3931
            refine wp_exit ?_
            refine TX ?_
            refine TX ?_
            refine BX ?_
            exact ⟨xs3922, (.slice A3920 xs3922.length c3921), Option.some.inj H3931, (hM.sel [2, 3, 1, 0, 4, 5, 6, 7] rfl (by decide)), hA.nil⟩
        clear hM hA
        rintro a w4003 ⟨xs3930, v3927, rfl, hM, hA⟩
        try dsimp only at H3681
        obtain ⟨A3928, c3929, rfl⟩ := RowOk.form (hM.row (p := pHash) (.s .z))
        refine TN ?_
        refine wp_seq ?_
        refine wp_region_lit ?_
        refine L1 (stv hA (by decide) (run_assign (hA.ev rfl)) ?_)
        clear hA; intro a hA
        refine LQ ?_
        refine TN ?_
        refine wp_ret ?_
        obtain rfl := Option.some.inj H3681
        exact ret_post1 (fn := Try.f48) hA rfl rfl ⟨_, rfl, xs3930, (-1), (.slice A3928 xs3930.length c3929), rfl, rfl, (hM.sel [3, 2, 0, 1, 4, 5, 6, 7] rfl (by decide))⟩
      rintro e w4004 ⟨_, rfl, ⟨xs3678, t3680, v3675, rfl, rfl, hM⟩⟩
      refine ⟨_, rfl, ?_⟩; clear hA; intro a hA; try dsimp only at H3351
      obtain ⟨A3676, c3677, rfl⟩ := RowOk.form (hM.row (p := pHash) (.s (.s (.s .z))))
      refine L1 (stv hA (by decide) (run_assign (hA.ev rfl)) ?_)
      clear hA; intro a hA
      refine LQ ?_
      refine TN ?_
      refine wp_seq ?_
      refine wp_seq ?_
      refine wp_region_lit ?_
      refine L1 (stv hA (by decide) (run_move (hA.ev rfl)) ?_)
      clear hA; intro a hA
      refine L1 (stv hA (by decide) (run_bin (hA.ev rfl) (hA.ev rfl) (bin_eql _ _ _ _)) ?_)
      clear hA; intro a hA
      refine LQ ?_
      refine TN ?_
      refine tcond (b := (t3680 == (-1))) hA rfl (fun hb4005 => ?_) (fun hb4005 => ?_)
      · replace H3351 := ite_t hb4005 H3351
        refine wp_seq ?_
        refine wp_region_lit ?_
        refine L1 (stv hA (by decide) (run_move (hA.ev rfl)) ?_)
        clear hA; intro a hA
        refine L1 (stv hA (by decide) (run_assign (hA.ev rfl)) ?_)
        clear hA; intro a hA
        refine LQ ?_
        refine TN ?_
        refine wp_ret ?_
        obtain rfl := Option.some.inj H3351
        refine TR ?_
        exact ret_post1 (fn := Try.f33) hA rfl rfl ⟨_, rfl, xs3678, r2236.Stems, (.slice A3676 xs3678.length c3677), (.slice A2247 r2236.Stems.length c2248), rfl, rfl, (hM.sel [4, 5, 6, 1, 7, 2, 3, 0] rfl (by decide))⟩
      · replace H3351 := ite_f hb4005 H3351
        refine wp_skip ?_
        refine TN ?_
        refine wp_seq ?_
        refine wp_seq ?_
        refine wp_region_lit ?_
        refine L1 (stv hA (by decide) (run_move (hA.ev rfl)) ?_)
        clear hA; intro a hA
        refine L1 (stv hA (by decide) (run_bin (hA.ev rfl) (hA.ev rfl) (bin_add _ _ _ _)) ?_)
        clear hA; intro a hA
        refine L1 (stv hA (by decide) (run_assign (hA.ev rfl)) ?_)
        clear hA; intro a hA
        refine LQ ?_
        refine TN ?_
        obtain ⟨o4331, H4330, H3351⟩ := Option.bind_eq_some_iff.1 H3351
        refine cutC (fun a w => ∃ (xs4323 : (List Stem)) (i4325 : Int) (xs4329 : (List (Vector Int 32))) (v4326 : Value), (xs4323, i4325, xs4329) = o4331 ∧ Mem F w0 w [.row 61 pStem.sz (.slice A2247 r2236.Stems.length c2248) (pStem.flat xs4323), .box g2225 39 [(.int .u32 r2236.Epoch), (.bool r2236.Diffuse), (.slice A2245 r2236.Routes.length c2246), (.slice A2247 r2236.Stems.length c2248), (.slice A2249 r2236.Fluffed.length c2250)], .row 3 (Pl.int .i64).sz (.slice A2245 r2236.Routes.length c2246) ((Pl.int .i64).flat r2236.Routes), .row 34 pHash.sz (.slice A2249 r2236.Fluffed.length c2250) (pHash.flat r2236.Fluffed), .box g2258 37 [v4326], .row 34 pHash.sz v4326 (pHash.flat xs4329), .box g2231 39 [(.int .u32 0), (.bool false), (.slice none 0 0), (.slice none 0 0), (.slice none 0 0)], .box g2228 35 [(.int .u32 now_1)]] ∧ Has 42 [(0, (.slice A2247 r2236.Stems.length c2248)), (5, (.int .i64 i4325))] a) ?_ ?_
        · refine wp_block ?_
          refine wp_loop_ghost (fun m a w => ∃ (xs4312 : (List Stem)) (xs4317 : (List (Vector Int 32))) (i4319 : Int) (j4321 : Int) (v4314 : Value), relay_Due.l1 now_1 r2236 m xs4312 xs4317 i4319 j4321 = some o4331 ∧ Mem F w0 w [.row 61 pStem.sz (.slice A2247 r2236.Stems.length c2248) (pStem.flat xs4312), .box g2228 35 [(.int .u32 now_1)], .box g2258 37 [v4314], .row 34 pHash.sz v4314 (pHash.flat xs4317), .box g2225 39 [(.int .u32 r2236.Epoch), (.bool r2236.Diffuse), (.slice A2245 r2236.Routes.length c2246), (.slice A2247 r2236.Stems.length c2248), (.slice A2249 r2236.Fluffed.length c2250)], .row 3 (Pl.int .i64).sz (.slice A2245 r2236.Routes.length c2246) ((Pl.int .i64).flat r2236.Routes), .row 34 pHash.sz (.slice A2249 r2236.Fluffed.length c2250) (pHash.flat r2236.Fluffed), .box g2231 39 [(.int .u32 0), (.bool false), (.slice none 0 0), (.slice none 0 0), (.slice none 0 0)]] ∧ Has 42 [(0, (.slice A2247 r2236.Stems.length c2248)), (1, (.func (.func 38) #[] #[(.pointer (some (⟨g2228, 0, none⟩))), (.pointer (some (⟨g2258, 0, none⟩)))])), (5, (.int .i64 i4319)), (6, (.int .i64 j4321))] a) k ⟨r2236.Stems, xs3678, t3680, IntKind.i64.wrap (t3680 + 1), (.slice A3676 xs3678.length c3677), H4330, hM, ((((hA.nil.cons (hA.get 6 _ rfl)).cons (hA.get 5 _ rfl)).cons (hA.get 1 _ rfl)).cons (hA.get 0 _ rfl))⟩ ?_
          clear hM hA; rintro m4332 a w4333 ⟨xs4312, xs4317, i4319, j4321, v4314, H4330, hM, hA⟩
          cases m4332 with
          | zero => exact absurd H4330 (by simp [relay_Due.l1])
          | succ m4332 =>
          rw [relay_Due.l1] at H4330
          obtain ⟨A4315, c4316, rfl⟩ := RowOk.form (hM.row (p := pHash) (.s (.s (.s .z))))
          refine wp_seq ?_
          refine wp_seq ?_
          refine wp_region_lit ?_
          refine L1 (stv hA (by decide) (run_move (hA.ev rfl)) ?_)
          clear hA; intro a hA
          refine L1 (stv hA (by decide) (run_move (hA.ev rfl)) ?_)
          clear hA; intro a hA
          refine L1 (stv hA (by decide) (run_len_slice Try.underlying36 (hA.ev rfl)) ?_)
          clear hA; intro a hA
          refine L1 (stv hA (by decide) (run_bin (hA.ev rfl) (hA.ev rfl) (bin_lss _ _ _ _)) ?_)
          clear hA; intro a hA
          refine LQ ?_
          refine TN ?_
          refine tcond (b := (decide (j4321 < ((r2236.Stems.length : Nat) : Int)))) hA rfl (fun hb4334 => ?_) (fun hb4334 => ?_)
          · replace H4330 := ite_t hb4334 H4330
            refine wp_skip ?_
            refine TN ?_
            refine wp_seq ?_
            refine wp_block ?_
            refine wp_seq ?_
            refine wp_region_lit ?_
            refine L1 (stv hA (by decide) (run_move (hA.ev rfl)) ?_)
            clear hA; intro a hA
            refine L1 (stv hA (by decide) (run_move (hA.ev rfl)) ?_)
            clear hA; intro a hA
            obtain ⟨⟨hi4335, hj4336⟩, H4330⟩ := ite_some H4330
            obtain ⟨ad4337, hq4338, hat4339⟩ := Row.elem' (p := pStem) (RowOk.row (hM.row (p := pStem) .z)) (RowOk.len (hM.row (p := pStem) .z)) Stem.z j4321 hi4335 hj4336
            refine L1 (stv hA (by decide) (run_idx Try.underlying36 Try.sizeOf61 (hA.ev rfl) hq4338 (hA.ev rfl) hi4335 hj4336) ?_)
            clear hA; intro a hA
            refine L1 (stv hA (by decide) (run_ld (hA.ev rfl) (run_loadP Try.isAgg61 Try.sizeOf61 hat4339)) ?_)
            clear hA; intro a hA
            refine L1 (e_alloc (cs := (pStem.enc Stem.z)) hM zero61 rfl hA (by decide) ?_)
            clear hM hA; intro w4341 g4340 hM hE  a hA
            refine L1 (e_store (g := g4340) (off := 0) (cur := (pStem.enc Stem.z)) (cs' := (pStem.enc (xs4312.getD j4321.toNat Stem.z))) hM .z Try.sizeOf61 hA rfl (by simp [add_mk]) rfl (agg_size _ _) (agg_one _ _) (Nat.le_of_ble_eq_true (enc_fitL _ _ rfl)) (spl_all (by first | rfl | simp [Value.cells, Pl.len])) ?_)
            clear hM hA; intro w4343  hM hE  a hA
            refine LQ ?_
            refine TN ?_
            refine wp_seq ?_
            refine wp_region_lit ?_
            refine L1 (stv hA (by decide) (run_move (hA.ev rfl)) ?_)
            clear hA; intro a hA
            refine L1 (stv hA (by decide) (run_ld (hA.ev rfl) (run_loadP Try.isAgg61 Try.sizeOf61 (hM.box .z))) ?_)
            clear hA; intro a hA
            refine L1 (inl_callv (caps := [(.pointer (some (⟨g2228, 0, none⟩))), (.pointer (some (⟨g2258, 0, none⟩)))]) Try.call38 hA rfl [(.agg (pStem.enc (xs4312.getD j4321.toNat Stem.z)).toArray)] rfl (by decide) ?_)
            refine enterL (n := 18) [(.agg (pStem.enc (xs4312.getD j4321.toNat Stem.z)).toArray), (.pointer (some (⟨g2228, 0, none⟩))), (.pointer (some (⟨g2258, 0, none⟩)))] Try.func38 rfl rfl rfl ?_
            clear hA; intro a hA
            refine wp_seq ?_
            refine wp_region_lit ?_
            refine L1 (e_box (cs := (pStem.enc (xs4312.getD j4321.toNat Stem.z))) hM hA rfl rfl (by decide) ?_)
            clear hM hA; intro w4375 g4374 hM hE  a hA
            refine L1 (stv hA (by decide) (run_assign (hA.ev rfl)) ?_)
            clear hA; intro a hA
            refine LQ ?_
            refine TN ?_
            refine wp_seq ?_
            refine wp_seq ?_
            refine wp_region_lit ?_
            refine L1 (stv hA (by decide) (run_field' Try.underlying61 rfl rfl Try.sizeOf35 (by decide) (hA.ev rfl)) ?_)
            clear hA; intro a hA
            refine L1 (stv hA (by decide) (run_ld (hA.ev rfl) (run_loadS Try.isAgg35 (Stem.at_Due (hM.box .z)))) ?_)
            clear hA; intro a hA
            refine L1 (stv hA (by decide) (run_ld (hA.ev rfl) (run_loadS Try.isAgg35 (hM.box (.s (.s (.s .z)))))) ?_)
            clear hA; intro a hA
            refine L1 (stv hA (by decide) (run_bin (hA.ev rfl) (hA.ev rfl) (bin_leq _ _ _ _)) ?_)
            clear hA; intro a hA
            refine LQ ?_
            refine TN ?_
            obtain ⟨o4393, H4392, H4330⟩ := Option.bind_eq_some_iff.1 H4330
            refine cutC (fun a w => ∃ (xs4391 : (List (Vector Int 32))) (v4388 : Value), xs4391 = o4393 ∧ Mem F w0 w [.box g2228 35 [(.int .u32 now_1)], .box g4374 61 (pStem.enc (xs4312.getD j4321.toNat Stem.z)), .box g4340 61 (pStem.enc (xs4312.getD j4321.toNat Stem.z)), .row 61 pStem.sz (.slice A2247 r2236.Stems.length c2248) (pStem.flat xs4312), .box g2258 37 [v4388], .row 34 pHash.sz v4388 (pHash.flat xs4391), .box g2225 39 [(.int .u32 r2236.Epoch), (.bool r2236.Diffuse), (.slice A2245 r2236.Routes.length c2246), (.slice A2247 r2236.Stems.length c2248), (.slice A2249 r2236.Fluffed.length c2250)], .row 3 (Pl.int .i64).sz (.slice A2245 r2236.Routes.length c2246) ((Pl.int .i64).flat r2236.Routes), .row 34 pHash.sz (.slice A2249 r2236.Fluffed.length c2250) (pHash.flat r2236.Fluffed), .box g2231 39 [(.int .u32 0), (.bool false), (.slice none 0 0), (.slice none 0 0), (.slice none 0 0)]] ∧ Has 18 [(1, (.pointer (some (⟨g2228, 0, none⟩)))), (3, (.pointer (some (⟨g4374, 0, none⟩))))] a) ?_ ?_
            · refine tcond (b := (decide (((xs4312.getD j4321.toNat Stem.z).Due) ≤ now_1))) hA rfl (fun hb4394 => ?_) (fun hb4394 => ?_)
              · replace H4392 := ite_t hb4394 H4392
                refine wp_region_lit ?_
                refine L1 (stv hA (by decide) (run_ld (hA.ev rfl) (run_loadS Try.isAgg37 (hM.box (.s (.s (.s (.s .z))))))) ?_)
                clear hA; intro a hA
                refine L1 (stv hA (by decide) (run_field' Try.underlying61 rfl rfl Try.sizeOf34 (by decide) (hA.ev rfl)) ?_)
                clear hA; intro a hA
                refine L1 (stv hA (by decide) (run_ld (hA.ev rfl) (run_loadP Try.isAgg34 Try.sizeOf34 (Stem.at_ID (hM.box .z)))) ?_)
                clear hA; intro a hA
                refine L1 (e_litN [(xs4312.getD j4321.toNat Stem.z).ID] [(.agg (pHash.enc ((xs4312.getD j4321.toNat Stem.z).ID)).toArray)] elt37 hM rfl (by decide) hA rfl rfl (List.cons_ne_nil _ _) (by decide) ?_)
                clear hM hA; intro w4396 g4395 hM hE  a hA
                obtain ⟨hl4400, H4392⟩ := ite_some H4392
                refine L1 (e_append elt37 hM (fun _ => (.s (.s (.s (.s (.s (.s .z))))))) (Src.row Try.underlying37 (RowOk.row (hM.row (p := pHash) .z)) (RowOk.len (hM.row (p := pHash) .z))) hl4400 hA rfl rfl (by decide) ?_)
                clear hM hA; intro w4401 A4398 c4399 hM hE  a hA
                refine L1 (e_store (g := g2258) (off := 0) (cur := [(.slice A4315 xs4317.length c4316)]) (cs' := [(.slice A4398 (xs4317.length + 1) c4399)]) hM (.s (.s (.s (.s (.s .z))))) Try.sizeOf37 hA rfl (by simp [add_mk]) rfl (by first | rfl | simp [Value.cells, Pl.len]) (one_val rfl) (by first | exact Nat.le_of_ble_eq_true rfl | (simp [Pl.len]; done)) (spl_all (by first | rfl | simp [Value.cells, Pl.len])) ?_)
                clear hM hA; intro w4402  hM hE  a hA
                refine LQ ?_
                exact ⟨(xs4317 ++ [(xs4312.getD j4321.toNat Stem.z).ID]), (.slice A4398 (xs4317.length + 1) c4399), Option.some.inj H4392, (hM.sel [4, 1, 2, 3, 5, 6, 7, 8, 9, 10] rfl (by decide)), ((hA.nil.cons (hA.get 3 _ rfl)).cons (hA.get 1 _ rfl))⟩
              · replace H4392 := ite_f hb4394 H4392
                refine wp_skip ?_
                exact ⟨xs4317, (.slice A4315 xs4317.length c4316), Option.some.inj H4392, (hM.sel [3, 0, 1, 2, 4, 5, 6, 7, 8, 9] rfl (by decide)), ((hA.nil.cons (hA.get 3 _ rfl)).cons (hA.get 1 _ rfl))⟩
            clear hM hA
            rintro a w4403 ⟨xs4391, v4388, rfl, hM, hA⟩
            try dsimp only at H4330
            obtain ⟨A4389, c4390, rfl⟩ := RowOk.form (hM.row (p := pHash) (.s (.s (.s (.s (.s .z))))))
            refine TN ?_
            refine wp_seq ?_
            refine wp_region_lit ?_
            refine L1 (stv hA (by decide) (run_field' Try.underlying61 rfl rfl Try.sizeOf35 (by decide) (hA.ev rfl)) ?_)
            clear hA; intro a hA
            refine L1 (stv hA (by decide) (run_ld (hA.ev rfl) (run_loadS Try.isAgg35 (Stem.at_Due (hM.box (.s .z))))) ?_)
            clear hA; intro a hA
            refine L1 (stv hA (by decide) (run_ld (hA.ev rfl) (run_loadS Try.isAgg35 (hM.box .z))) ?_)
            clear hA; intro a hA
            refine L1 (stv hA (by decide) (run_bin (hA.ev rfl) (hA.ev rfl) (bin_leq _ _ _ _)) ?_)
            clear hA; intro a hA
            refine L1 (stv hA (by decide) (run_assign (hA.ev rfl)) ?_)
            clear hA; intro a hA
            refine LQ ?_
            refine TN ?_
            refine wp_ret ?_
            refine ret_post1 (fn := Try.f38) hA rfl rfl ⟨_, rfl, ?_⟩; clear hA; intro a hA
            refine L1 (stv hA (by decide) (run_not (hA.ev rfl)) ?_)
            clear hA; intro a hA
            refine LQ ?_
            refine TN ?_
            obtain ⟨o4418, H4417, H4330⟩ := Option.bind_eq_some_iff.1 H4330
            refine cutC (fun a w => ∃ (xs4412 : (List Stem)) (i4415 : Int), (xs4412, i4415) = o4418 ∧ Mem F w0 w [.row 61 pStem.sz (.slice A2247 r2236.Stems.length c2248) (pStem.flat xs4412), .box g2228 35 [(.int .u32 now_1)], .box g2258 37 [(.slice A4389 xs4391.length c4390)], .row 34 pHash.sz (.slice A4389 xs4391.length c4390) (pHash.flat xs4391), .box g2225 39 [(.int .u32 r2236.Epoch), (.bool r2236.Diffuse), (.slice A2245 r2236.Routes.length c2246), (.slice A2247 r2236.Stems.length c2248), (.slice A2249 r2236.Fluffed.length c2250)], .row 3 (Pl.int .i64).sz (.slice A2245 r2236.Routes.length c2246) ((Pl.int .i64).flat r2236.Routes), .row 34 pHash.sz (.slice A2249 r2236.Fluffed.length c2250) (pHash.flat r2236.Fluffed), .box g2231 39 [(.int .u32 0), (.bool false), (.slice none 0 0), (.slice none 0 0), (.slice none 0 0)]] ∧ Has 42 [(0, (.slice A2247 r2236.Stems.length c2248)), (1, (.func (.func 38) #[] #[(.pointer (some (⟨g2228, 0, none⟩))), (.pointer (some (⟨g2258, 0, none⟩)))])), (5, (.int .i64 i4415)), (6, (.int .i64 j4321))] a) ?_ ?_
            · refine tcond (b := (!(decide (((xs4312.getD j4321.toNat Stem.z).Due) ≤ now_1)))) hA rfl (fun hb4419 => ?_) (fun hb4419 => ?_)
              · replace H4417 := ite_t hb4419 H4417
                refine wp_seq ?_
                refine wp_region_lit ?_
                refine L1 (stv hA (by decide) (run_move (hA.ev rfl)) ?_)
                clear hA; intro a hA
                refine L1 (stv hA (by decide) (run_move (hA.ev rfl)) ?_)
                clear hA; intro a hA
                refine L1 (stv hA (by decide) (run_ld (hA.ev rfl) (run_loadP Try.isAgg61 Try.sizeOf61 (hM.box (.s (.s .z))))) ?_)
                clear hA; intro a hA
                obtain ⟨⟨hi4420, hj4421⟩, H4417⟩ := ite_some H4417
                obtain ⟨ad4422, hq4423, hat4424⟩ := Row.elem' (p := pStem) (RowOk.row (hM.row (p := pStem) (.s (.s (.s .z))))) (RowOk.len (hM.row (p := pStem) (.s (.s (.s .z))))) Stem.z i4319 hi4420 hj4421
                refine L1 (stv hA (by decide) (run_idx Try.underlying36 Try.sizeOf61 (hA.ev rfl) hq4423 (hA.ev rfl) hi4420 hj4421) ?_)
                clear hA; intro a hA
                refine L1 (e_setrow (x1 := (xs4312.getD i4319.toNat Stem.z)) (y1 := (xs4312.getD j4321.toNat Stem.z)) (off := 0) hM (.s (.s (.s .z))) Try.sizeOf61 hA rfl rfl hq4423 rfl (agg_size _ _) (agg_one _ _) hi4420 hj4421 (getD_getD _ _ _) (by decide) (spl_all (by first | rfl | simp [Value.cells, Pl.len] | (simp only [Value.cells, Pl.len, List.length_cons, List.length_nil]; done))) ?_)
                clear hM hA; intro w4425  hM hE  a hA
                refine LQ ?_
                refine TN ?_
                refine wp_region_lit ?_
                refine L1 (stv hA (by decide) (run_move (hA.ev rfl)) ?_)
                clear hA; intro a hA
                refine L1 (stv hA (by decide) (run_bin (hA.ev rfl) (hA.ev rfl) (bin_add _ _ _ _)) ?_)
                clear hA; intro a hA
                refine L1 (stv hA (by decide) (run_assign (hA.ev rfl)) ?_)
                clear hA; intro a hA
                refine LQ ?_
                exact ⟨(xs4312.set i4319.toNat (xs4312.getD j4321.toNat Stem.z)), IntKind.i64.wrap (i4319 + 1), Option.some.inj H4417, (hM.sel [3, 0, 4, 5, 6, 7, 8, 9] rfl (by decide)), ((((hA.nil.cons (hA.get 6 _ rfl)).cons (hA.get 5 _ rfl)).cons (hA.get 1 _ rfl)).cons (hA.get 0 _ rfl))⟩
              · replace H4417 := ite_f hb4419 H4417
                refine wp_skip ?_
                exact ⟨xs4312, i4319, Option.some.inj H4417, (hM.sel [3, 0, 4, 5, 6, 7, 8, 9] rfl (by decide)), ((((hA.nil.cons (hA.get 6 _ rfl)).cons (hA.get 5 _ rfl)).cons (hA.get 1 _ rfl)).cons (hA.get 0 _ rfl))⟩
            clear hM hA
            rintro a w4426 ⟨xs4412, i4415, rfl, hM, hA⟩
            try dsimp only at H4330
            refine BN ?_
            refine TN ?_
            refine wp_region_lit ?_
            refine L1 (stv hA (by decide) (run_move (hA.ev rfl)) ?_)
            clear hA; intro a hA
            refine L1 (stv hA (by decide) (run_bin (hA.ev rfl) (hA.ev rfl) (bin_add _ _ _ _)) ?_)
            clear hA; intro a hA
            refine L1 (stv hA (by decide) (run_assign (hA.ev rfl)) ?_)
            clear hA; intro a hA
            refine LQ ?_
            exact ⟨_, Nat.lt_succ_self m4332, xs4412, xs4391, i4415, IntKind.i64.wrap (j4321 + 1), (.slice A4389 xs4391.length c4390), H4330, hM, ((((hA.nil.cons (hA.get 6 _ rfl)).cons (hA.get 5 _ rfl)).cons (hA.get 1 _ rfl)).cons (hA.get 0 _ rfl))⟩
          · replace H4330 := ite_f hb4334 H4330
            refine wp_exit ?_
            refine TX ?_
            refine TX ?_
            refine BX ?_
            exact ⟨xs4312, i4319, xs4317, (.slice A4315 xs4317.length c4316), Option.some.inj H4330, (hM.sel [0, 4, 5, 6, 2, 3, 7, 1] rfl (by decide)), ((hA.nil.cons (hA.get 5 _ rfl)).cons (hA.get 0 _ rfl))⟩
        clear hM hA
        rintro a w4427 ⟨xs4323, i4325, xs4329, v4326, rfl, hM, hA⟩
        try dsimp only at H3351
        obtain ⟨A4327, c4328, rfl⟩ := RowOk.form (hM.row (p := pHash) (.s (.s (.s (.s (.s .z))))))
        refine TN ?_
        refine wp_seq ?_
        refine wp_region_lit ?_
        refine L1 (stv hA (by decide) (run_move (hA.ev rfl)) ?_)
        clear hA; intro a hA
        refine L1 (stv hA (by decide) (run_move (hA.ev rfl)) ?_)
        clear hA; intro a hA
        obtain ⟨⟨hi4428, hj4429⟩, H3351⟩ := ite_some H3351
        refine L1 (stv hA (by decide) (run_lo Try.underlying36 Try.sizeOf61 (RowOk.cap (hM.row (p := pStem) .z)) hi4428 hj4429 (hA.ev rfl) (hA.ev rfl)) ?_)
        clear hA; intro a hA
        refine L1 (e_clear (lo := i4325.toNat) elt36 rfl hM .z (by omega) hA rfl ?_)
        clear hM hA; intro w4430  hM hE  a hA
        refine LQ ?_
        refine TN ?_
        refine wp_seq ?_
        refine wp_region_lit ?_
        refine L1 (stv hA (by decide) (run_move (hA.ev rfl)) ?_)
        clear hA; intro a hA
        refine L1 (stv hA (by decide) (run_move (hA.ev rfl)) ?_)
        clear hA; intro a hA
        obtain ⟨⟨hi4431, hj4432⟩, H3351⟩ := ite_some H3351
        refine L1 (stv hA (by decide) (run_hi Try.underlying36 Try.sizeOf61 (RowOk.cap (hM.row (p := pStem) .z)) hi4431 hj4432 (hA.ev rfl) (hA.ev rfl)) ?_)
        clear hA; intro a hA
        refine L1 (stv hA (by decide) (run_assign (hA.ev rfl)) ?_)
        clear hA; intro a hA
        refine LQ ?_
        refine TN ?_
        refine wp_ret ?_
        obtain rfl := Option.some.inj H3351
        have hM := hM.re (y := .row 61 pStem.sz (.slice A2247 i4325.toNat c2248) (pStem.flat ((xs4323.take i4325.toNat ++ List.replicate (r2236.Stems.length - i4325.toNat) Stem.z).take i4325.toNat))) .z (fun h => RowOk.cuthi h (by omega)) (key_hi _ _ _ _ _)
        exact ret_post1 (fn := Try.f33) hA rfl rfl ⟨_, rfl, xs4329, ((xs4323.take i4325.toNat ++ List.replicate (r2236.Stems.length - i4325.toNat) Stem.z).take i4325.toNat), (.slice A4327 xs4329.length c4328), (.slice A2247 i4325.toNat c2248), rfl, rfl, (hM.sel [1, 2, 3, 7, 6, 4, 5, 0] rfl (by decide))⟩
    rintro e w4433 ⟨_, rfl, ⟨xs3345, xs3350, v3342, v3347, rfl, rfl, hM⟩⟩
    refine ⟨_, rfl, ?_⟩; clear hA; intro a hA; try dsimp only at H
    obtain ⟨A3343, c3344, rfl⟩ := RowOk.form (hM.row (p := pHash) (.s (.s (.s (.s (.s (.s .z)))))))
    obtain ⟨A3348, c3349, rfl⟩ := RowOk.form (hM.row (p := pStem) (.s (.s (.s (.s (.s (.s (.s .z))))))))
    refine L1 (stv hA (by decide) (run_field' Try.underlying39 rfl rfl Try.sizeOf36 (by decide) (hA.ev rfl)) ?_)
    clear hA; intro a hA
    refine L1 (e_store (g := g2225) (off := 3) (cur := [(.int .u32 r2236.Epoch), (.bool r2236.Diffuse), (.slice A2245 r2236.Routes.length c2246), (.slice A2247 r2236.Stems.length c2248), (.slice A2249 r2236.Fluffed.length c2250)]) (cs' := [(.int .u32 r2236.Epoch), (.bool r2236.Diffuse), (.slice A2245 r2236.Routes.length c2246), (.slice A3348 xs3350.length c3349), (.slice A2249 r2236.Fluffed.length c2250)]) hM .z Try.sizeOf36 hA rfl (by simp [add_mk]) rfl (by first | rfl | simp [Value.cells, Pl.len]) (one_val rfl) (by first | exact Nat.le_of_ble_eq_true rfl | (simp [Pl.len]; done)) (rfl) ?_)
    clear hM hA; intro w4434  hM hE  a hA
    refine LQ ?_
    refine TN ?_
    refine wp_seq ?_
    obtain ⟨o4443, H4442, H⟩ := Option.bind_eq_some_iff.1 H
    refine cutC (fun a w => () = o4443 ∧ Mem F w0 w [.box g2231 39 [(.int .u32 r2236.Epoch), (.bool r2236.Diffuse), (.slice A2245 r2236.Routes.length c2246), (.slice A3348 xs3350.length c3349), (.slice A2249 r2236.Fluffed.length c2250)], .row 3 (Pl.int .i64).sz (.slice A2245 r2236.Routes.length c2246) ((Pl.int .i64).flat r2236.Routes), .row 61 pStem.sz (.slice A3348 xs3350.length c3349) (pStem.flat xs3350), .row 34 pHash.sz (.slice A2249 r2236.Fluffed.length c2250) (pHash.flat r2236.Fluffed), .row 34 pHash.sz (.slice A3343 xs3345.length c3344) (pHash.flat xs3345)] ∧ Has 22 [(4, (.pointer (some (⟨g2231, 0, none⟩)))), (5, (.slice A3343 xs3345.length c3344))] a) ?_ ?_
    · refine draw (fun w' => Below w4434.heap.size w4434 w') [2] rfl ?_
      intro w4446 hw hS; replace hM := hM.ext hS; clear hw
      refine rebase hS ?_; clear hS; intro hS
      refine d_take (i := 0) (L' := #[true, false, false, false]) rfl (by kernel_rfl) rfl (fun _ _ _ h => h) hA (by decide) rfl hS (fun a w' hA hS' => run_ld (hA.ev rfl) (run_loadW Try.isAgg39 Try.sizeOf39 (by simp [Pl.len]; try rfl) ((hM.box .z).extB hS'))) ?_; clear hA; intro a hA
      refine d_many (is := [1, 2]) (by kernel_rfl) (by decide) ⟨?_, ?_, trivial⟩
      · refine d_op (i := 1) (L' := #[true, true, false, false]) rfl rfl (stv hA (by decide) (run_ld (hA.ev rfl) (run_loadS Try.isAgg37 (hM.box (.s (.s (.s (.s (.s .z)))))))) ?_)
        clear hA; intro a hA
        refine ⟨fun _ => hS, ?_⟩
        refine d_one (i := 2) (L' := #[true, true, true, false]) (by kernel_rfl) rfl rfl (e_store (g := g2231) (off := 0) (cur := [(.int .u32 0), (.bool false), (.slice none 0 0), (.slice none 0 0), (.slice none 0 0)]) (cs' := [(.int .u32 r2236.Epoch), (.bool r2236.Diffuse), (.slice A2245 r2236.Routes.length c2246), (.slice A3348 xs3350.length c3349), (.slice A2249 r2236.Fluffed.length c2250)]) hM (.s (.s (.s (.s .z)))) Try.sizeOf39 hA rfl (by simp [add_mk]) rfl (by first | rfl | simp [Value.cells, Pl.len]) (by simp [Value.cells, Value.oneCell']) (by first | exact Nat.le_of_ble_eq_true rfl | (simp [Pl.len]; done)) (spl_all (by first | rfl | simp [Value.cells, Pl.len])) ?_)
        clear hM hA; intro w4447  hM hE  a hA
        refine ⟨fun h => absurd h (by decide), ?_⟩
        refine d_takef (i := 3) (L' := #[true, true, true, true]) rfl (by kernel_rfl) rfl (fun _ _ _ h => h) hA (by decide) (fun h => absurd h (by decide)) (fun a w' hA => run_assign (hA.ev rfl)) ?_; clear hA; intro a hA
        refine d_done (by kernel_rfl) ?_
        exact ⟨Option.some.inj H4442, (hM.sel [4, 1, 7, 2, 6] rfl (by decide)), ((hA.nil.cons (hA.get 5 _ rfl)).cons (hA.get 4 _ rfl))⟩
      · refine d_op (i := 2) (L' := #[true, false, true, false]) rfl rfl (e_store (g := g2231) (off := 0) (cur := [(.int .u32 0), (.bool false), (.slice none 0 0), (.slice none 0 0), (.slice none 0 0)]) (cs' := [(.int .u32 r2236.Epoch), (.bool r2236.Diffuse), (.slice A2245 r2236.Routes.length c2246), (.slice A3348 xs3350.length c3349), (.slice A2249 r2236.Fluffed.length c2250)]) hM (.s (.s (.s (.s .z)))) Try.sizeOf39 hA rfl (by simp [add_mk]) rfl (by first | rfl | simp [Value.cells, Pl.len]) (by simp [Value.cells, Value.oneCell']) (by first | exact Nat.le_of_ble_eq_true rfl | (simp [Pl.len]; done)) (spl_all (by first | rfl | simp [Value.cells, Pl.len])) ?_)
        clear hM hA; intro w4448  hM hE  a hA
        refine ⟨fun h => absurd h (by decide), ?_⟩
        refine d_one (i := 1) (L' := #[true, true, true, false]) (by kernel_rfl) rfl rfl (stv hA (by decide) (run_ld (hA.ev rfl) (run_loadS Try.isAgg37 (hM.box (.s (.s (.s (.s (.s .z)))))))) ?_)
        clear hA; intro a hA
        refine ⟨fun h => absurd h (by decide), ?_⟩
        refine d_takef (i := 3) (L' := #[true, true, true, true]) rfl (by kernel_rfl) rfl (fun _ _ _ h => h) hA (by decide) (fun h => absurd h (by decide)) (fun a w' hA => run_assign (hA.ev rfl)) ?_; clear hA; intro a hA
        refine d_done (by kernel_rfl) ?_
        exact ⟨Option.some.inj H4442, (hM.sel [4, 1, 7, 2, 6] rfl (by decide)), ((hA.nil.cons (hA.get 5 _ rfl)).cons (hA.get 4 _ rfl))⟩
    clear hM hA
    rintro a w4449 ⟨rfl, hM, hA⟩
    try dsimp only at H
    refine TN ?_
    refine wp_ret ?_
    obtain rfl := Option.some.inj H
    exact ret_mix2 (fn := Try.f18) hA rfl (RV.cell rfl (run_loadW Try.isAgg39 Try.sizeOf39 (by simp [Pl.len]; try rfl) (hM.box .z))) (RV.tmp rfl) ⟨_, rfl, (.slice A2245 r2236.Routes.length c2246), (.slice A3348 xs3350.length c3349), (.slice A2249 r2236.Fluffed.length c2250), (.slice A3343 xs3345.length c3344), rfl, (hM.sel [1, 2, 3, 4] rfl (by decide))⟩

def mill_Few.f (k : Nat) (l_0 : (List Int)) : Option Bool := (some (decide (((l_0.length : Nat) : Int) ≤ 200)))
set_option maxHeartbeats 2000000 in
set_option maxRecDepth 100000 in
theorem mill_Few.calls (k : Nat) (l_0 : (List Int)) (F : List (Option Nat)) (v0 : Value) (r : Bool) (w0 : World) (h0 : RoV F (Pl.int .i64) w0 v0 l_0) (hM : Mem F w0 w0 []) (H : mill_Few.f k l_0 = some r) :
    Calls Try.prog 21 #[v0] w0 fun e w' => ∃ v, e = .returned v ∧ v = (.bool r) ∧ Mem F w0 w' [] := by
  unfold mill_Few.f at H
  obtain ⟨A0, c0, rfl, hr0, hc0⟩ := h0
  refine enterL (n := 6) [(.slice A0 l_0.length c0)] Try.func21 rfl rfl rfl ?_
  intro a hA
  refine wp_seq ?_
  refine wp_region_lit ?_
  refine L1 (stv hA (by decide) (run_assign (hA.ev rfl)) ?_)
  clear hA; intro a hA
  refine LQ ?_
  refine TN ?_
  refine wp_seq ?_
  refine wp_region_lit ?_
  refine L1 (stv hA (by decide) (run_move (hA.ev rfl)) ?_)
  clear hA; intro a hA
  refine L1 (stv hA (by decide) (run_len_slice Try.underlying22 (hA.ev rfl)) ?_)
  clear hA; intro a hA
  refine L1 (stv hA (by decide) (run_bin (hA.ev rfl) (hA.ev rfl) (bin_leq _ _ _ _)) ?_)
  clear hA; intro a hA
  refine L1 (stv hA (by decide) (run_assign (hA.ev rfl)) ?_)
  clear hA; intro a hA
  refine LQ ?_
  refine TN ?_
  refine wp_ret ?_
  obtain rfl := Option.some.inj H
  exact ret_post1 (fn := Try.f21) hA rfl rfl ⟨_, rfl, rfl, hM⟩

def mill_Deck_Left.f (k : Nat) (d_0 : lightclientmill_Deck) : Option (Bool × lightclientmill_Deck) := (some ((decide (d_0.At_ < ((d_0.L.length : Nat) : Int))), (lightclientmill_Deck.mk d_0.L d_0.At_)))
set_option maxHeartbeats 2000000 in
set_option maxRecDepth 100000 in
theorem mill_Deck_Left.calls (k : Nat) (d_0 : lightclientmill_Deck) (F : List (Option Nat)) (g0 : Nat) (v0_0 : Value) (r : (Bool × lightclientmill_Deck)) (w0 : World) (h0_0 : RoV F (Pl.int .i64) w0 v0_0 d_0.L) (hM : Mem F w0 w0 [.box g0 63 [v0_0, (.int .i64 d_0.At_)]]) (H : mill_Deck_Left.f k d_0 = some r) :
    Calls Try.prog 22 #[(.pointer (some (⟨g0, 0, none⟩)))] w0 fun e w' => ∃ v, e = .returned v ∧ v = (.bool r.1) ∧ Mem F w0 w' [.box g0 63 [v0_0, (.int .i64 r.2.At_)]] := by
  unfold mill_Deck_Left.f at H
  obtain ⟨A0_0, c0_0, rfl, hr0_0, hc0_0⟩ := h0_0
  refine enterL (n := 13) [(.pointer (some (⟨g0, 0, none⟩)))] Try.func22 rfl rfl rfl ?_
  intro a hA
  refine wp_seq ?_
  refine wp_region_lit ?_
  refine L1 (stv hA (by decide) (run_assign (hA.ev rfl)) ?_)
  clear hA; intro a hA
  refine LQ ?_
  refine TN ?_
  refine wp_seq ?_
  refine draw (fun w' => Below w0.heap.size w0 w') [] rfl ?_
  intro w3 hw hS; replace hM := hM.ext hS; clear hw
  refine d_takef (i := 0) (L' := #[true, false, false, false, false, false, false, false, false, false, false]) rfl (by kernel_rfl) rfl (fun _ _ _ h => h) hA (by decide) (fun _ => hS) (fun a w' hA => run_move (hA.ev rfl)) ?_; clear hA; intro a hA
  refine d_takef (i := 1) (L' := #[true, true, false, false, false, false, false, false, false, false, false]) rfl (by kernel_rfl) rfl (fun _ _ _ h => h) hA (by decide) (fun _ => hS) (fun a w' hA => run_nilchk (hA.ev rfl)) ?_; clear hA; intro a hA
  refine d_takef (i := 2) (L' := #[true, true, true, false, false, false, false, false, false, false, false]) rfl (by kernel_rfl) rfl (fun _ _ _ h => h) hA (by decide) (fun _ => hS) (fun a w' hA => run_field' Try.underlying63 rfl rfl Try.sizeOf3 (by decide) (hA.ev rfl)) ?_; clear hA; intro a hA
  refine rebase hS ?_; clear hS; intro hS
  refine d_take (i := 3) (L' := #[true, true, true, true, false, false, false, false, false, false, false]) rfl (by kernel_rfl) rfl (fun _ _ _ h => h) hA (by decide) rfl hS (fun a w' hA hS' => run_ld (hA.ev rfl) (run_loadS Try.isAgg3 ((At.seg1 (hM.box .z) 1 rfl).extB hS'))) ?_; clear hA; intro a hA
  refine d_takef (i := 4) (L' := #[true, true, true, true, true, false, false, false, false, false, false]) rfl (by kernel_rfl) rfl (fun _ _ _ h => h) hA (by decide) (fun _ => hS) (fun a w' hA => run_move (hA.ev rfl)) ?_; clear hA; intro a hA
  refine d_takef (i := 5) (L' := #[true, true, true, true, true, true, false, false, false, false, false]) rfl (by kernel_rfl) rfl (fun _ _ _ h => h) hA (by decide) (fun _ => hS) (fun a w' hA => run_nilchk (hA.ev rfl)) ?_; clear hA; intro a hA
  refine d_takef (i := 6) (L' := #[true, true, true, true, true, true, true, false, false, false, false]) rfl (by kernel_rfl) rfl (fun _ _ _ h => h) hA (by decide) (fun _ => hS) (fun a w' hA => run_field' Try.underlying63 rfl rfl Try.sizeOf22 (by decide) (hA.ev rfl)) ?_; clear hA; intro a hA
  refine d_take (i := 7) (L' := #[true, true, true, true, true, true, true, true, false, false, false]) rfl (by kernel_rfl) rfl (fun _ _ _ h => h) hA (by decide) rfl hS (fun a w' hA hS' => run_ld (hA.ev rfl) (run_loadS Try.isAgg22 ((At.seg1 (hM.box .z) 0 rfl).extB hS'))) ?_; clear hA; intro a hA
  refine d_takef (i := 8) (L' := #[true, true, true, true, true, true, true, true, true, false, false]) rfl (by kernel_rfl) rfl (fun _ _ _ h => h) hA (by decide) (fun _ => hS) (fun a w' hA => run_len_slice Try.underlying22 (hA.ev rfl)) ?_; clear hA; intro a hA
  refine d_takef (i := 9) (L' := #[true, true, true, true, true, true, true, true, true, true, false]) rfl (by kernel_rfl) rfl (fun _ _ _ h => h) hA (by decide) (fun _ => hS) (fun a w' hA => run_bin (hA.ev rfl) (hA.ev rfl) (bin_lss _ _ _ _)) ?_; clear hA; intro a hA
  refine d_takef (i := 10) (L' := #[true, true, true, true, true, true, true, true, true, true, true]) rfl (by kernel_rfl) rfl (fun _ _ _ h => h) hA (by decide) (fun _ => hS) (fun a w' hA => run_assign (hA.ev rfl)) ?_; clear hA; intro a hA
  refine d_done (by kernel_rfl) ?_
  refine TN ?_
  refine wp_ret ?_
  obtain rfl := Option.some.inj H
  exact ret_post1 (fn := Try.f22) hA rfl rfl ⟨_, rfl, rfl, hM⟩

def mill_Mod.f (k : Nat) (v_0 : Int) (n_1 : Int) : Option Int := (if ¬ n_1 = 0 then (Option.bind (α := Int) (if (decide ((v_0.tmod n_1) < 0)) = true then (some (IntKind.i64.wrap ((v_0.tmod n_1) + n_1))) else (some (v_0.tmod n_1))) (fun t12 => (some t12))) else none)
set_option maxHeartbeats 2000000 in
set_option maxRecDepth 100000 in
theorem mill_Mod.calls (k : Nat) (v_0 : Int) (n_1 : Int) (F : List (Option Nat)) (r : Int) (w0 : World) (hM : Mem F w0 w0 []) (H : mill_Mod.f k v_0 n_1 = some r) :
    Calls Try.prog 9 #[(.int .i64 v_0), (.int .i64 n_1)] w0 fun e w' => ∃ v, e = .returned v ∧ v = (.int .i64 r) ∧ Mem F w0 w' [] := by
  unfold mill_Mod.f at H
  refine enterL (n := 15) [(.int .i64 v_0), (.int .i64 n_1)] Try.func9 rfl rfl rfl ?_
  intro a hA
  refine wp_seq ?_
  refine wp_region_lit ?_
  refine L1 (stv hA (by decide) (run_assign (hA.ev rfl)) ?_)
  clear hA; intro a hA
  refine LQ ?_
  refine TN ?_
  refine wp_seq ?_
  refine wp_region_lit ?_
  refine L1 (stv hA (by decide) (run_move (hA.ev rfl)) ?_)
  clear hA; intro a hA
  refine L1 (stv hA (by decide) (run_move (hA.ev rfl)) ?_)
  clear hA; intro a hA
  obtain ⟨hd9, H⟩ := ite_some H
  refine L1 (stv hA (by decide) (run_bin (hA.ev rfl) (hA.ev rfl) (bin_rem _ _ _ _ hd9)) ?_)
  clear hA; intro a hA
  refine L1 (stv hA (by decide) (run_assign (hA.ev rfl)) ?_)
  clear hA; intro a hA
  refine LQ ?_
  refine TN ?_
  refine wp_seq ?_
  refine wp_seq ?_
  refine wp_region_lit ?_
  refine L1 (stv hA (by decide) (run_move (hA.ev rfl)) ?_)
  clear hA; intro a hA
  refine L1 (stv hA (by decide) (run_bin (hA.ev rfl) (hA.ev rfl) (bin_lss _ _ _ _)) ?_)
  clear hA; intro a hA
  refine LQ ?_
  refine TN ?_
  obtain ⟨o14, H13, H⟩ := Option.bind_eq_some_iff.1 H
  refine cutC (fun a w => ∃ (t12 : Int), t12 = o14 ∧ Mem F w0 w [] ∧ Has 15 [(5, (.int .i64 t12))] a) ?_ ?_
  · refine tcond (b := (decide ((v_0.tmod n_1) < 0))) hA rfl (fun hb15 => ?_) (fun hb15 => ?_)
    · replace H13 := ite_t hb15 H13
      refine wp_region_lit ?_
      refine L1 (stv hA (by decide) (run_move (hA.ev rfl)) ?_)
      clear hA; intro a hA
      refine L1 (stv hA (by decide) (run_move (hA.ev rfl)) ?_)
      clear hA; intro a hA
      refine L1 (stv hA (by decide) (run_bin (hA.ev rfl) (hA.ev rfl) (bin_add _ _ _ _)) ?_)
      clear hA; intro a hA
      refine L1 (stv hA (by decide) (run_assign (hA.ev rfl)) ?_)
      clear hA; intro a hA
      refine LQ ?_
      exact ⟨IntKind.i64.wrap ((v_0.tmod n_1) + n_1), Option.some.inj H13, hM, (hA.nil.cons (hA.get 5 _ rfl))⟩
    · replace H13 := ite_f hb15 H13
      refine wp_skip ?_
      exact ⟨v_0.tmod n_1, Option.some.inj H13, hM, (hA.nil.cons (hA.get 5 _ rfl))⟩
  clear hM hA
  rintro a w16 ⟨t12, rfl, hM, hA⟩
  try dsimp only at H
  refine TN ?_
  refine wp_seq ?_
  refine wp_region_lit ?_
  refine L1 (stv hA (by decide) (run_move (hA.ev rfl)) ?_)
  clear hA; intro a hA
  refine L1 (stv hA (by decide) (run_assign (hA.ev rfl)) ?_)
  clear hA; intro a hA
  refine LQ ?_
  refine TN ?_
  refine wp_ret ?_
  obtain rfl := Option.some.inj H
  exact ret_post1 (fn := Try.f9) hA rfl rfl ⟨_, rfl, rfl, hM⟩

def mill_Deck_Next.f (k : Nat) (d_0 : lightclientmill_Deck) (n_1 : Int) : Option (Int × lightclientmill_Deck) := ((mill_Deck_Left.f k (lightclientmill_Deck.mk d_0.L d_0.At_)).bind fun r16 => (if (!r16.1) = true then (some (0, (lightclientmill_Deck.mk d_0.L r16.2.At_))) else (if 0 ≤ (IntKind.i64.wrap ((IntKind.i64.wrap (r16.2.At_ + 1)) - 1)) ∧ (IntKind.i64.wrap ((IntKind.i64.wrap (r16.2.At_ + 1)) - 1)) < ((d_0.L.length : Nat) : Int) then ((mill_Mod.f k (d_0.L.getD (IntKind.i64.wrap ((IntKind.i64.wrap (r16.2.At_ + 1)) - 1)).toNat (0 : Int)) n_1).bind fun r28 => (some (r28, (lightclientmill_Deck.mk d_0.L (IntKind.i64.wrap (r16.2.At_ + 1)))))) else none)))
set_option maxHeartbeats 2000000 in
set_option maxRecDepth 100000 in
theorem mill_Deck_Next.calls (k : Nat) (d_0 : lightclientmill_Deck) (n_1 : Int) (F : List (Option Nat)) (g0 : Nat) (v0_0 : Value) (r : (Int × lightclientmill_Deck)) (w0 : World) (h0_0 : RoV F (Pl.int .i64) w0 v0_0 d_0.L) (hM : Mem F w0 w0 [.box g0 63 [v0_0, (.int .i64 d_0.At_)]]) (H : mill_Deck_Next.f k d_0 n_1 = some r) :
    Calls Try.prog 23 #[(.pointer (some (⟨g0, 0, none⟩))), (.int .i64 n_1)] w0 fun e w' => ∃ v, e = .returned v ∧ v = (.int .i64 r.1) ∧ Mem F w0 w' [.box g0 63 [v0_0, (.int .i64 r.2.At_)]] := by
  unfold mill_Deck_Next.f at H
  obtain ⟨A0_0, c0_0, rfl, hr0_0, hc0_0⟩ := h0_0
  refine enterL (n := 28) [(.pointer (some (⟨g0, 0, none⟩))), (.int .i64 n_1)] Try.func23 rfl rfl rfl ?_
  intro a hA
  refine wp_seq ?_
  refine wp_region_lit ?_
  refine L1 (stv hA (by decide) (run_assign (hA.ev rfl)) ?_)
  clear hA; intro a hA
  refine LQ ?_
  refine TN ?_
  refine wp_seq ?_
  refine wp_seq ?_
  refine wp_region_lit ?_
  refine L1 (stv hA (by decide) (run_move (hA.ev rfl)) ?_)
  clear hA; intro a hA
  obtain ⟨r16, H17, H⟩ := Option.bind_eq_some_iff.1 H
  refine L1 (st_call Try.call22 hA [(.pointer (some (⟨g0, 0, none⟩)))] rfl (by decide) (mill_Deck_Left.calls _ (lightclientmill_Deck.mk d_0.L d_0.At_) _ _ _ _ _ ((RoV.mk (hM.roC (Ms := [_]) hr0_0) (Eq.refl d_0.L.length) hc0_0)) (hM.front (Ms := [_])) H17) ?_)
  clear hA; rintro _ w18 ⟨rfl, hMc⟩ a hA
  have hM := hM.call (Ms := [_]) hMc
  clear hMc; simp only [List.cons_append, List.nil_append] at hM
  refine L1 (stv hA (by decide) (run_not (hA.ev rfl)) ?_)
  clear hA; intro a hA
  refine LQ ?_
  refine TN ?_
  refine tcond (b := (!r16.1)) hA rfl (fun hb19 => ?_) (fun hb19 => ?_)
  · replace H := ite_t hb19 H
    refine wp_seq ?_
    refine wp_region_lit ?_
    refine L1 (stv hA (by decide) (run_assign (hA.ev rfl)) ?_)
    clear hA; intro a hA
    refine LQ ?_
    refine TN ?_
    refine wp_ret ?_
    obtain rfl := Option.some.inj H
    refine TR ?_
    exact ret_post1 (fn := Try.f23) hA rfl rfl ⟨_, rfl, rfl, hM⟩
  · replace H := ite_f hb19 H
    refine wp_skip ?_
    refine TN ?_
    refine wp_seq ?_
    refine wp_region_lit ?_
    refine L1 (stv hA (by decide) (run_move (hA.ev rfl)) ?_)
    clear hA; intro a hA
    refine L1 (stv hA (by decide) (run_nilchk (hA.ev rfl)) ?_)
    clear hA; intro a hA
    refine L1 (stv hA (by decide) (run_field' Try.underlying63 rfl rfl Try.sizeOf3 (by decide) (hA.ev rfl)) ?_)
    clear hA; intro a hA
    refine L1 (stv hA (by decide) (run_ld (hA.ev rfl) (run_loadS Try.isAgg3 (At.seg1 (hM.box .z) 1 rfl))) ?_)
    clear hA; intro a hA
    refine L1 (stv hA (by decide) (run_bin (hA.ev rfl) (hA.ev rfl) (bin_add _ _ _ _)) ?_)
    clear hA; intro a hA
    refine L1 (stv hA (by decide) (run_nilchk (hA.ev rfl)) ?_)
    clear hA; intro a hA
    refine L1 (stv hA (by decide) (run_field' Try.underlying63 rfl rfl Try.sizeOf3 (by decide) (hA.ev rfl)) ?_)
    clear hA; intro a hA
    refine L1 (e_store (g := g0) (off := 1) (cur := [(.slice A0_0 d_0.L.length c0_0), (.int .i64 r16.2.At_)]) (cs' := [(.slice A0_0 d_0.L.length c0_0), (.int .i64 (IntKind.i64.wrap (r16.2.At_ + 1)))]) hM .z Try.sizeOf3 hA rfl (by simp [add_mk]) rfl (by first | rfl | simp [Value.cells, Pl.len]) (one_val rfl) (by first | exact Nat.le_of_ble_eq_true rfl | (simp [Pl.len]; done)) (rfl) ?_)
    clear hM hA; intro w20  hM hE  a hA
    refine LQ ?_
    refine TN ?_
    refine wp_seq ?_
    refine draw (fun w' => Below w20.heap.size w20 w') [] rfl ?_
    intro w21 hw hS; replace hM := hM.ext hS; clear hw
    refine d_takef (i := 0) (L' := #[true, false, false, false, false, false, false, false, false, false, false, false, false, false]) rfl (by kernel_rfl) rfl (fun _ _ _ h => h) hA (by decide) (fun _ => hS) (fun a w' hA => run_move (hA.ev rfl)) ?_; clear hA; intro a hA
    refine d_takef (i := 1) (L' := #[true, true, false, false, false, false, false, false, false, false, false, false, false, false]) rfl (by kernel_rfl) rfl (fun _ _ _ h => h) hA (by decide) (fun _ => hS) (fun a w' hA => run_nilchk (hA.ev rfl)) ?_; clear hA; intro a hA
    refine d_takef (i := 2) (L' := #[true, true, true, false, false, false, false, false, false, false, false, false, false, false]) rfl (by kernel_rfl) rfl (fun _ _ _ h => h) hA (by decide) (fun _ => hS) (fun a w' hA => run_field' Try.underlying63 rfl rfl Try.sizeOf22 (by decide) (hA.ev rfl)) ?_; clear hA; intro a hA
    refine rebase hS ?_; clear hS; intro hS
    refine d_take (i := 3) (L' := #[true, true, true, true, false, false, false, false, false, false, false, false, false, false]) rfl (by kernel_rfl) rfl (fun _ _ _ h => h) hA (by decide) rfl hS (fun a w' hA hS' => run_ld (hA.ev rfl) (run_loadS Try.isAgg22 ((At.seg1 (hM.box .z) 0 rfl).extB hS'))) ?_; clear hA; intro a hA
    refine d_takef (i := 4) (L' := #[true, true, true, true, true, false, false, false, false, false, false, false, false, false]) rfl (by kernel_rfl) rfl (fun _ _ _ h => h) hA (by decide) (fun _ => hS) (fun a w' hA => run_move (hA.ev rfl)) ?_; clear hA; intro a hA
    refine d_takef (i := 5) (L' := #[true, true, true, true, true, true, false, false, false, false, false, false, false, false]) rfl (by kernel_rfl) rfl (fun _ _ _ h => h) hA (by decide) (fun _ => hS) (fun a w' hA => run_nilchk (hA.ev rfl)) ?_; clear hA; intro a hA
    refine d_takef (i := 6) (L' := #[true, true, true, true, true, true, true, false, false, false, false, false, false, false]) rfl (by kernel_rfl) rfl (fun _ _ _ h => h) hA (by decide) (fun _ => hS) (fun a w' hA => run_field' Try.underlying63 rfl rfl Try.sizeOf3 (by decide) (hA.ev rfl)) ?_; clear hA; intro a hA
    refine d_take (i := 7) (L' := #[true, true, true, true, true, true, true, true, false, false, false, false, false, false]) rfl (by kernel_rfl) rfl (fun _ _ _ h => h) hA (by decide) rfl hS (fun a w' hA hS' => run_ld (hA.ev rfl) (run_loadS Try.isAgg3 ((At.seg1 (hM.box .z) 1 rfl).extB hS'))) ?_; clear hA; intro a hA
    refine d_takef (i := 8) (L' := #[true, true, true, true, true, true, true, true, true, false, false, false, false, false]) rfl (by kernel_rfl) rfl (fun _ _ _ h => h) hA (by decide) (fun _ => hS) (fun a w' hA => run_bin (hA.ev rfl) (hA.ev rfl) (bin_sub _ _ _ _)) ?_; clear hA; intro a hA
    obtain ⟨⟨hi23, hj24⟩, H⟩ := ite_some H
    obtain ⟨ad25, hq26, hat27⟩ := Row.elem' (p := (Pl.int .i64)) (hM.ro hr0_0) (Eq.refl d_0.L.length) (0 : Int) (IntKind.i64.wrap ((IntKind.i64.wrap (r16.2.At_ + 1)) - 1)) hi23 hj24
    refine d_takef (i := 9) (L' := #[true, true, true, true, true, true, true, true, true, true, false, false, false, false]) rfl (by kernel_rfl) rfl (fun _ _ _ h => h) hA (by decide) (fun _ => hS) (fun a w' hA => run_idx Try.underlying22 Try.sizeOf3 (hA.ev rfl) hq26 (hA.ev rfl) hi23 hj24) ?_; clear hA; intro a hA
    refine d_take (i := 10) (L' := #[true, true, true, true, true, true, true, true, true, true, true, false, false, false]) rfl (by kernel_rfl) rfl (fun _ _ _ h => h) hA (by decide) rfl hS (fun a w' hA hS' => run_ld (hA.ev rfl) (run_loadS Try.isAgg3 ((hat27).extB hS'))) ?_; clear hA; intro a hA
    refine d_takef (i := 11) (L' := #[true, true, true, true, true, true, true, true, true, true, true, true, false, false]) rfl (by kernel_rfl) rfl (fun _ _ _ h => h) hA (by decide) (fun _ => hS) (fun a w' hA => run_move (hA.ev rfl)) ?_; clear hA; intro a hA
    obtain ⟨r28, H29, H⟩ := Option.bind_eq_some_iff.1 H
    refine d_one (i := 12) (L' := #[true, true, true, true, true, true, true, true, true, true, true, true, true, false]) (by kernel_rfl) rfl rfl (st_call Try.call9 hA [(.int .i64 (d_0.L.getD (IntKind.i64.wrap ((IntKind.i64.wrap (r16.2.At_ + 1)) - 1)).toNat (0 : Int))), (.int .i64 n_1)] rfl (by decide) (mill_Mod.calls _ _ _ _ _ _ (hM.front (Ms := [])) H29) ?_)
    clear hA; rintro _ w30 ⟨rfl, hMc⟩ a hA
    have hE := hMc.below; have hM := hM.call (Ms := []) hMc
    clear hMc; simp only [List.cons_append, List.nil_append] at hM
    replace hS := hS.trans (hE.mono hS.size)
    refine ⟨fun _ => hS, ?_⟩
    refine d_takef (i := 13) (L' := #[true, true, true, true, true, true, true, true, true, true, true, true, true, true]) rfl (by kernel_rfl) rfl (fun _ _ _ h => h) hA (by decide) (fun _ => hS) (fun a w' hA => run_assign (hA.ev rfl)) ?_; clear hA; intro a hA
    refine d_done (by kernel_rfl) ?_
    refine TN ?_
    refine wp_ret ?_
    obtain rfl := Option.some.inj H
    exact ret_post1 (fn := Try.f23) hA rfl rfl ⟨_, rfl, rfl, hM⟩

def law40_has.l0 (l_0 : (List (Vector Int 32))) (id_1 : (Vector Int 32)) : Nat → Int → Option (Out Bool (Unit))
  | 0, _ => none
  | k + 1, t126 => (if (decide (t126 < ((l_0.length : Nat) : Int))) = true then (if 0 ≤ t126 ∧ t126 < ((l_0.length : Nat) : Int) then (if ((l_0.getD t126.toNat (Vector.replicate 32 0 : Vector Int 32)) == id_1) = true then (some (.ret true)) else (law40_has.l0 l_0 id_1 k (IntKind.i64.wrap (t126 + 1)))) else none) else (some (.go ())))
def law40_has.f (k : Nat) (l_0 : (List (Vector Int 32))) (id_1 : (Vector Int 32)) : Option Bool := (Option.bind (α := Out Bool (Unit)) (law40_has.l0 l_0 id_1 k 0) (fun o => match o with | .ret r => some r | .go _ => (some false)))
set_option maxHeartbeats 2000000 in
set_option maxRecDepth 100000 in
theorem law40_has.calls (k : Nat) (l_0 : (List (Vector Int 32))) (id_1 : (Vector Int 32)) (F : List (Option Nat)) (v0 : Value) (r : Bool) (w0 : World) (h0 : RoV F pHash w0 v0 l_0) (hM : Mem F w0 w0 []) (H : law40_has.f k l_0 id_1 = some r) :
    Calls Try.prog 24 #[v0, (.agg (pHash.enc id_1).toArray)] w0 fun e w' => ∃ v, e = .returned v ∧ v = (.bool r) ∧ Mem F w0 w' [] := by
  unfold law40_has.f at H
  obtain ⟨A0, c0, rfl, hr0, hc0⟩ := h0
  refine enterL (n := 17) [(.slice A0 l_0.length c0), (.agg (pHash.enc id_1).toArray)] Try.func24 rfl rfl rfl ?_
  intro a hA
  refine wp_seq ?_
  refine wp_region_lit ?_
  refine L1 (e_box (cs := (pHash.enc id_1)) hM hA rfl rfl (by decide) ?_)
  clear hM hA; intro w73 g72 hM hE  a hA
  refine L1 (stv hA (by decide) (run_assign (hA.ev rfl)) ?_)
  clear hA; intro a hA
  refine LQ ?_
  refine TN ?_
  refine wp_seq ?_
  refine wp_seq ?_
  refine wp_region_lit ?_
  refine L1 (stv hA (by decide) (run_move (hA.ev rfl)) ?_)
  clear hA; intro a hA
  refine L1 (stv hA (by decide) (run_len_slice Try.underlying37 (hA.ev rfl)) ?_)
  clear hA; intro a hA
  refine L1 (stv hA (by decide) (run_move (hA.ev rfl)) ?_)
  clear hA; intro a hA
  refine LQ ?_
  refine TN ?_
  obtain ⟨o128, H127, H⟩ := Option.bind_eq_some_iff.1 H
  refine cutC (fun a w => (.go ()) = o128 ∧ Mem F w0 w [] ∧ Has 17 [] a) ?_ ?_
  · refine wp_block ?_
    refine wp_loop_ghost (fun m a w => ∃ (t126 : Int), law40_has.l0 l_0 id_1 m t126 = some o128 ∧ Mem F w0 w [.box g72 34 (pHash.enc id_1)] ∧ Has 17 [(3, (.pointer (some (⟨g72, 0, none⟩)))), (7, (.slice A0 l_0.length c0)), (8, (.int .i64 ((l_0.length : Nat) : Int))), (9, (.int .i64 t126))] a) k ⟨0, H127, hM, ((((hA.nil.cons (hA.get 9 _ rfl)).cons (hA.get 8 _ rfl)).cons (hA.get 7 _ rfl)).cons (hA.get 3 _ rfl))⟩ ?_
    clear hM hA; rintro m129 a w130 ⟨t126, H127, hM, hA⟩
    cases m129 with
    | zero => exact absurd H127 (by simp [law40_has.l0])
    | succ m129 =>
    rw [law40_has.l0] at H127
    refine wp_seq ?_
    refine wp_region_lit ?_
    refine L1 (stv hA (by decide) (run_bin (hA.ev rfl) (hA.ev rfl) (bin_lss _ _ _ _)) ?_)
    clear hA; intro a hA
    refine LQ ?_
    refine TN ?_
    refine wp_seq ?_
    refine tcond (b := (decide (t126 < ((l_0.length : Nat) : Int)))) hA rfl (fun hb131 => ?_) (fun hb131 => ?_)
    · replace H127 := ite_t hb131 H127
      refine wp_skip ?_
      refine TN ?_
      refine wp_seq ?_
      refine wp_block ?_
      refine wp_seq ?_
      refine wp_region_lit ?_
      obtain ⟨⟨hi132, hj133⟩, H127⟩ := ite_some H127
      obtain ⟨ad134, hq135, hat136⟩ := Row.elem' (p := pHash) (hM.ro hr0) (Eq.refl l_0.length) (Vector.replicate 32 0 : Vector Int 32) t126 hi132 hj133
      refine L1 (stv hA (by decide) (run_idx Try.underlying37 Try.sizeOf34 (hA.ev rfl) hq135 (hA.ev rfl) hi132 hj133) ?_)
      clear hA; intro a hA
      refine L1 (stv hA (by decide) (run_ld (hA.ev rfl) (run_loadP Try.isAgg34 Try.sizeOf34 hat136)) ?_)
      clear hA; intro a hA
      refine L1 (e_alloc (cs := (pHash.enc (Vector.replicate 32 0 : Vector Int 32))) hM zero34 rfl hA (by decide) ?_)
      clear hM hA; intro w138 g137 hM hE  a hA
      refine L1 (e_store (g := g137) (off := 0) (cur := (pHash.enc (Vector.replicate 32 0 : Vector Int 32))) (cs' := (pHash.enc (l_0.getD t126.toNat (Vector.replicate 32 0 : Vector Int 32)))) hM .z Try.sizeOf34 hA rfl (by simp [add_mk]) rfl (agg_size _ _) (agg_one _ _) (Nat.le_of_ble_eq_true (enc_fitL _ _ rfl)) (spl_all (by first | rfl | simp [Value.cells, Pl.len])) ?_)
      clear hM hA; intro w140  hM hE  a hA
      refine LQ ?_
      refine TN ?_
      refine wp_seq ?_
      refine wp_region_lit ?_
      refine L1 (stv hA (by decide) (run_ld (hA.ev rfl) (run_loadP Try.isAgg34 Try.sizeOf34 (hM.box .z))) ?_)
      clear hA; intro a hA
      refine L1 (stv hA (by decide) (run_ld (hA.ev rfl) (run_loadP Try.isAgg34 Try.sizeOf34 (hM.box (.s .z)))) ?_)
      clear hA; intro a hA
      refine L1 (stv hA (by decide) (run_aggeql eq_Hash rfl (by kernel_rfl) (hA.ev rfl) (hA.ev rfl)) ?_)
      clear hA; intro a hA
      refine LQ ?_
      refine TN ?_
      refine tcond (b := ((l_0.getD t126.toNat (Vector.replicate 32 0 : Vector Int 32)) == id_1)) hA rfl (fun hb141 => ?_) (fun hb141 => ?_)
      · replace H127 := ite_t hb141 H127
        refine wp_seq ?_
        refine wp_region_lit ?_
        refine L1 (stv hA (by decide) (run_assign (hA.ev rfl)) ?_)
        clear hA; intro a hA
        refine LQ ?_
        refine TN ?_
        refine wp_ret ?_
        obtain rfl := Option.some.inj H127
        dsimp only at H
        obtain rfl := Option.some.inj H
        refine BR ?_
        refine TR ?_
        refine TR ?_
        refine BR ?_
        refine TR ?_
        refine TR ?_
        exact ret_post1 (fn := Try.f24) hA rfl rfl ⟨_, rfl, rfl, (hM.sel [] rfl (by decide))⟩
      · replace H127 := ite_f hb141 H127
        refine wp_skip ?_
        refine BN ?_
        refine TN ?_
        refine wp_region_lit ?_
        refine L1 (stv hA (by decide) (run_bin (hA.ev rfl) (hA.ev rfl) (bin_add _ _ _ _)) ?_)
        clear hA; intro a hA
        refine L1 (stv hA (by decide) (run_move (hA.ev rfl)) ?_)
        clear hA; intro a hA
        refine LQ ?_
        exact ⟨_, Nat.lt_succ_self m129, IntKind.i64.wrap (t126 + 1), H127, (hM.sel [1] rfl (by decide)), ((((hA.nil.cons (hA.get 9 _ rfl)).cons (hA.get 8 _ rfl)).cons (hA.get 7 _ rfl)).cons (hA.get 3 _ rfl))⟩
    · replace H127 := ite_f hb131 H127
      refine wp_exit ?_
      refine TX ?_
      refine TX ?_
      refine BX ?_
      exact ⟨Option.some.inj H127, (hM.sel [] rfl (by decide)), hA.nil⟩
  clear hM hA
  rintro a w142 ⟨rfl, hM, hA⟩
  try dsimp only at H
  refine TN ?_
  refine wp_seq ?_
  refine wp_region_lit ?_
  refine L1 (stv hA (by decide) (run_assign (hA.ev rfl)) ?_)
  clear hA; intro a hA
  refine LQ ?_
  refine TN ?_
  refine wp_ret ?_
  obtain rfl := Option.some.inj H
  exact ret_post1 (fn := Try.f24) hA rfl rfl ⟨_, rfl, rfl, hM⟩

def relay_Route.f (k : Nat) (r_0 : Relay) (from_1 : Int) : Option Int := (if (((r_0.Routes.length : Nat) : Int) == 0) = true then (some (-1)) else (if 0 ≤ (0 : Int) ∧ (0 : Int) < ((r_0.Routes.length : Nat) : Int) then (Option.bind (α := Int × Int) (if (decide (((r_0.Routes.length : Nat) : Int) > 1)) = true then (if 0 ≤ (1 : Int) ∧ (1 : Int) < ((r_0.Routes.length : Nat) : Int) then (Option.bind (α := Bool) (if ((from_1.tmod 2) != 0) = true then (some (from_1 != (-1))) else (some false)) (fun t97 => (if t97 = true then (some ((r_0.Routes.getD (1 : Int).toNat (0 : Int)), (r_0.Routes.getD (0 : Int).toNat (0 : Int)))) else (some ((r_0.Routes.getD (0 : Int).toNat (0 : Int)), (r_0.Routes.getD (1 : Int).toNat (0 : Int))))))) else none) else (some ((r_0.Routes.getD (0 : Int).toNat (0 : Int)), (-1)))) (fun st => match st with | (to81, other83) => (if (to81 == from_1) = true then (some other83) else (some to81)))) else none))
set_option maxHeartbeats 2000000 in
set_option maxRecDepth 100000 in
theorem relay_Route.calls (k : Nat) (r_0 : Relay) (from_1 : Int) (F : List (Option Nat)) (v0_2 : Value) (v0_3 : Value) (v0_4 : Value) (r : Int) (w0 : World) (h0_2 : RoV F (Pl.int .i64) w0 v0_2 r_0.Routes) (h0_3 : RoV F pStem w0 v0_3 r_0.Stems) (h0_4 : RoV F pHash w0 v0_4 r_0.Fluffed) (hM : Mem F w0 w0 []) (H : relay_Route.f k r_0 from_1 = some r) :
    Calls Try.prog 40 #[(.agg #[(.int .u32 r_0.Epoch), (.bool r_0.Diffuse), v0_2, v0_3, v0_4]), (.int .i64 from_1)] w0 fun e w' => ∃ v, e = .returned v ∧ v = (.int .i64 r) ∧ Mem F w0 w' [] := by
  unfold relay_Route.f at H
  obtain ⟨A0_2, c0_2, rfl, hr0_2, hc0_2⟩ := h0_2
  obtain ⟨A0_3, c0_3, rfl, hr0_3, hc0_3⟩ := h0_3
  obtain ⟨A0_4, c0_4, rfl, hr0_4, hc0_4⟩ := h0_4
  refine enterL (n := 37) [(.agg #[(.int .u32 r_0.Epoch), (.bool r_0.Diffuse), (.slice A0_2 r_0.Routes.length c0_2), (.slice A0_3 r_0.Stems.length c0_3), (.slice A0_4 r_0.Fluffed.length c0_4)]), (.int .i64 from_1)] Try.func40 rfl rfl rfl ?_
  intro a hA
  refine wp_seq ?_
  refine wp_region_lit ?_
  refine L1 (e_box (cs := [(.int .u32 r_0.Epoch), (.bool r_0.Diffuse), (.slice A0_2 r_0.Routes.length c0_2), (.slice A0_3 r_0.Stems.length c0_3), (.slice A0_4 r_0.Fluffed.length c0_4)]) hM hA rfl rfl (by decide) ?_)
  clear hM hA; intro w54 g53 hM hE  a hA
  refine L1 (stv hA (by decide) (run_assign (hA.ev rfl)) ?_)
  clear hA; intro a hA
  refine LQ ?_
  refine TN ?_
  refine wp_seq ?_
  refine wp_seq ?_
  refine wp_region_lit ?_
  refine L1 (stv hA (by decide) (run_field' Try.underlying39 rfl rfl Try.sizeOf22 (by decide) (hA.ev rfl)) ?_)
  clear hA; intro a hA
  refine L1 (stv hA (by decide) (run_ld (hA.ev rfl) (run_loadS Try.isAgg22 (At.seg1 (hM.box .z) 2 rfl))) ?_)
  clear hA; intro a hA
  refine L1 (stv hA (by decide) (run_len_slice Try.underlying22 (hA.ev rfl)) ?_)
  clear hA; intro a hA
  refine L1 (stv hA (by decide) (run_bin (hA.ev rfl) (hA.ev rfl) (bin_eql _ _ _ _)) ?_)
  clear hA; intro a hA
  refine LQ ?_
  refine TN ?_
  refine tcond (b := (((r_0.Routes.length : Nat) : Int) == 0)) hA rfl (fun hb56 => ?_) (fun hb56 => ?_)
  · replace H := ite_t hb56 H
    refine wp_seq ?_
    refine wp_region_lit ?_
    refine L1 (stv hA (by decide) (run_assign (hA.ev rfl)) ?_)
    clear hA; intro a hA
    refine LQ ?_
    refine TN ?_
    refine wp_ret ?_
    obtain rfl := Option.some.inj H
    refine TR ?_
    exact ret_post1 (fn := Try.f40) hA rfl rfl ⟨_, rfl, rfl, (hM.sel [] rfl (by decide))⟩
  · replace H := ite_f hb56 H
    refine wp_skip ?_
    refine TN ?_
    refine wp_seq ?_
    refine wp_region_lit ?_
    refine L1 (stv hA (by decide) (run_field' Try.underlying39 rfl rfl Try.sizeOf22 (by decide) (hA.ev rfl)) ?_)
    clear hA; intro a hA
    refine L1 (stv hA (by decide) (run_ld (hA.ev rfl) (run_loadS Try.isAgg22 (At.seg1 (hM.box .z) 2 rfl))) ?_)
    clear hA; intro a hA
    obtain ⟨⟨hi57, hj58⟩, H⟩ := ite_some H
    obtain ⟨ad59, hq60, hat61⟩ := Row.elem' (p := (Pl.int .i64)) (hM.ro hr0_2) (Eq.refl r_0.Routes.length) (0 : Int) (0 : Int) hi57 hj58
    refine L1 (stv hA (by decide) (run_idx Try.underlying22 Try.sizeOf3 (hA.ev rfl) hq60 (hA.ev rfl) hi57 hj58) ?_)
    clear hA; intro a hA
    refine L1 (stv hA (by decide) (run_ld (hA.ev rfl) (run_loadS Try.isAgg3 hat61)) ?_)
    clear hA; intro a hA
    refine L1 (stv hA (by decide) (run_assign (hA.ev rfl)) ?_)
    clear hA; intro a hA
    refine L1 (stv hA (by decide) (run_assign (hA.ev rfl)) ?_)
    clear hA; intro a hA
    refine LQ ?_
    refine TN ?_
    refine wp_seq ?_
    refine wp_seq ?_
    refine wp_region_lit ?_
    refine L1 (stv hA (by decide) (run_field' Try.underlying39 rfl rfl Try.sizeOf22 (by decide) (hA.ev rfl)) ?_)
    clear hA; intro a hA
    refine L1 (stv hA (by decide) (run_ld (hA.ev rfl) (run_loadS Try.isAgg22 (At.seg1 (hM.box .z) 2 rfl))) ?_)
    clear hA; intro a hA
    refine L1 (stv hA (by decide) (run_len_slice Try.underlying22 (hA.ev rfl)) ?_)
    clear hA; intro a hA
    refine L1 (stv hA (by decide) (run_bin (hA.ev rfl) (hA.ev rfl) (bin_gtr _ _ _ _)) ?_)
    clear hA; intro a hA
    refine LQ ?_
    refine TN ?_
    obtain ⟨o85, H84, H⟩ := Option.bind_eq_some_iff.1 H
    refine cutC (fun a w => ∃ (to81 : Int) (other83 : Int), (to81, other83) = o85 ∧ Mem F w0 w [] ∧ Has 37 [(1, (.int .i64 from_1)), (5, (.int .i64 to81)), (6, (.int .i64 other83))] a) ?_ ?_
    · refine tcond (b := (decide (((r_0.Routes.length : Nat) : Int) > 1))) hA rfl (fun hb86 => ?_) (fun hb86 => ?_)
      · replace H84 := ite_t hb86 H84
        refine wp_seq ?_
        refine wp_region_lit ?_
        refine L1 (stv hA (by decide) (run_field' Try.underlying39 rfl rfl Try.sizeOf22 (by decide) (hA.ev rfl)) ?_)
        clear hA; intro a hA
        refine L1 (stv hA (by decide) (run_ld (hA.ev rfl) (run_loadS Try.isAgg22 (At.seg1 (hM.box .z) 2 rfl))) ?_)
        clear hA; intro a hA
        obtain ⟨⟨hi87, hj88⟩, H84⟩ := ite_some H84
        obtain ⟨ad89, hq90, hat91⟩ := Row.elem' (p := (Pl.int .i64)) (hM.ro hr0_2) (Eq.refl r_0.Routes.length) (0 : Int) (1 : Int) hi87 hj88
        refine L1 (stv hA (by decide) (run_idx Try.underlying22 Try.sizeOf3 (hA.ev rfl) hq90 (hA.ev rfl) hi87 hj88) ?_)
        clear hA; intro a hA
        refine L1 (stv hA (by decide) (run_ld (hA.ev rfl) (run_loadS Try.isAgg3 hat91)) ?_)
        clear hA; intro a hA
        refine L1 (stv hA (by decide) (run_assign (hA.ev rfl)) ?_)
        clear hA; intro a hA
        refine LQ ?_
        refine TN ?_
        refine wp_seq ?_
        obtain ⟨o99, H98, H84⟩ := Option.bind_eq_some_iff.1 H84
        refine cutC (fun a w => ∃ (t97 : Bool), t97 = o99 ∧ Mem F w0 w [] ∧ Has 37 [(1, (.int .i64 from_1)), (5, (.int .i64 (r_0.Routes.getD (0 : Int).toNat (0 : Int)))), (6, (.int .i64 (r_0.Routes.getD (1 : Int).toNat (0 : Int)))), (29, (.bool t97))] a) ?_ ?_
        · refine wp_region_lit ?_
          refine L1 (stv hA (by decide) (run_move (hA.ev rfl)) ?_)
          clear hA; intro a hA
          refine L1 (stv hA (by decide) (run_bin (hA.ev rfl) (hA.ev rfl) (bin_rem _ _ _ _ (by decide))) ?_)
          clear hA; intro a hA
          refine L1 (stv hA (by decide) (run_bin (hA.ev rfl) (hA.ev rfl) (bin_neq _ _ _ _)) ?_)
          clear hA; intro a hA
          refine L1 (stv hA (by decide) (run_move (hA.ev rfl)) ?_)
          clear hA; intro a hA
          refine bsplit (b := ((from_1.tmod 2) != 0)) (fun hb100 => ?_) (fun hb100 => ?_)
          · replace H98 := ite_t hb100 H98
            have hA := hA.re (t := 26) rfl (congrArg Value.bool hb100)
            refine L1 (gate_on rfl rfl hA (by decide) rfl (stv hA (by decide) (run_move (hA.ev rfl)) ?_))
            clear hA; intro a hA
            refine L1 (gate_on rfl rfl hA (by decide) rfl (stv hA (by decide) (run_bin (hA.ev rfl) (hA.ev rfl) (bin_neq _ _ _ _)) ?_))
            clear hA; intro a hA
            refine L1 (stv hA (by decide) (run_pick (hA.ev rfl) (fun _ => hA.ev rfl) (fun h => Bool.noConfusion h)) ?_)
            clear hA; intro a hA
            refine LQ ?_
            exact ⟨(from_1 != (-1)), Option.some.inj H98, (hM.sel [] rfl (by decide)), ((((hA.nil.cons (hA.get 29 _ rfl)).cons (hA.get 6 _ rfl)).cons (hA.get 5 _ rfl)).cons (hA.get 1 _ rfl))⟩
          · replace H98 := ite_f hb100 H98
            have hA := hA.re (t := 26) rfl (congrArg Value.bool hb100)
            refine L1 (gate_off rfl (by decide) rfl hA (by decide) rfl rfl ?_); clear hA; intro a hA
            refine L1 (gate_off rfl (by decide) rfl hA (by decide) rfl rfl ?_); clear hA; intro a hA
            refine L1 (stv hA (by decide) (run_pick (hA.ev rfl) (fun h => Bool.noConfusion h) (fun _ => hA.ev rfl)) ?_)
            clear hA; intro a hA
            refine LQ ?_
            exact ⟨false, Option.some.inj H98, (hM.sel [] rfl (by decide)), ((((hA.nil.cons (hA.get 29 _ rfl)).cons (hA.get 6 _ rfl)).cons (hA.get 5 _ rfl)).cons (hA.get 1 _ rfl))⟩
        clear hM hA
        rintro a w101 ⟨t97, rfl, hM, hA⟩
        try dsimp only at H84
        refine TN ?_
        refine tcond (b := t97) hA rfl (fun hb102 => ?_) (fun hb102 => ?_)
        · replace H84 := ite_t hb102 H84
          refine wp_region_lit ?_
          refine L1 (stv hA (by decide) (run_move (hA.ev rfl)) ?_)
          clear hA; intro a hA
          refine L1 (stv hA (by decide) (run_move (hA.ev rfl)) ?_)
          clear hA; intro a hA
          refine L1 (stv hA (by decide) (run_assign (hA.ev rfl)) ?_)
          clear hA; intro a hA
          refine L1 (stv hA (by decide) (run_assign (hA.ev rfl)) ?_)
          clear hA; intro a hA
          refine LQ ?_
          exact ⟨(r_0.Routes.getD (1 : Int).toNat (0 : Int)), (r_0.Routes.getD (0 : Int).toNat (0 : Int)), Option.some.inj H84, hM, (((hA.nil.cons (hA.get 6 _ rfl)).cons (hA.get 5 _ rfl)).cons (hA.get 1 _ rfl))⟩
        · replace H84 := ite_f hb102 H84
          refine wp_skip ?_
          exact ⟨(r_0.Routes.getD (0 : Int).toNat (0 : Int)), (r_0.Routes.getD (1 : Int).toNat (0 : Int)), Option.some.inj H84, hM, (((hA.nil.cons (hA.get 6 _ rfl)).cons (hA.get 5 _ rfl)).cons (hA.get 1 _ rfl))⟩
      · replace H84 := ite_f hb86 H84
        refine wp_skip ?_
        exact ⟨(r_0.Routes.getD (0 : Int).toNat (0 : Int)), (-1), Option.some.inj H84, (hM.sel [] rfl (by decide)), (((hA.nil.cons (hA.get 6 _ rfl)).cons (hA.get 5 _ rfl)).cons (hA.get 1 _ rfl))⟩
    clear hM hA
    rintro a w103 ⟨to81, other83, rfl, hM, hA⟩
    try dsimp only at H
    refine TN ?_
    refine wp_seq ?_
    refine wp_seq ?_
    refine wp_region_lit ?_
    refine L1 (stv hA (by decide) (run_move (hA.ev rfl)) ?_)
    clear hA; intro a hA
    refine L1 (stv hA (by decide) (run_move (hA.ev rfl)) ?_)
    clear hA; intro a hA
    refine L1 (stv hA (by decide) (run_bin (hA.ev rfl) (hA.ev rfl) (bin_eql _ _ _ _)) ?_)
    clear hA; intro a hA
    refine LQ ?_
    refine TN ?_
    refine tcond (b := (to81 == from_1)) hA rfl (fun hb104 => ?_) (fun hb104 => ?_)
    · replace H := ite_t hb104 H
      refine wp_seq ?_
      refine wp_region_lit ?_
      refine L1 (stv hA (by decide) (run_move (hA.ev rfl)) ?_)
      clear hA; intro a hA
      refine L1 (stv hA (by decide) (run_assign (hA.ev rfl)) ?_)
      clear hA; intro a hA
      refine LQ ?_
      refine TN ?_
      refine wp_ret ?_
      obtain rfl := Option.some.inj H
      refine TR ?_
      exact ret_post1 (fn := Try.f40) hA rfl rfl ⟨_, rfl, rfl, hM⟩
    · replace H := ite_f hb104 H
      refine wp_skip ?_
      refine TN ?_
      refine wp_seq ?_
      refine wp_region_lit ?_
      refine L1 (stv hA (by decide) (run_move (hA.ev rfl)) ?_)
      clear hA; intro a hA
      refine L1 (stv hA (by decide) (run_assign (hA.ev rfl)) ?_)
      clear hA; intro a hA
      refine LQ ?_
      refine TN ?_
      refine wp_ret ?_
      obtain rfl := Option.some.inj H
      exact ret_post1 (fn := Try.f40) hA rfl rfl ⟨_, rfl, rfl, hM⟩

def relay_later.f (k : Nat) (now_0 : Int) (by_1 : Int) : Option Int := (some (IntKind.u32.wrap (now_0 + (if IntKind.u32.wrap (4294967295 - now_0) < by_1 then IntKind.u32.wrap (4294967295 - now_0) else by_1))))
set_option maxHeartbeats 2000000 in
set_option maxRecDepth 100000 in
theorem relay_later.calls (k : Nat) (now_0 : Int) (by_1 : Int) (F : List (Option Nat)) (r : Int) (w0 : World) (hM : Mem F w0 w0 []) (H : relay_later.f k now_0 by_1 = some r) :
    Calls Try.prog 41 #[(.int .u32 now_0), (.int .u32 by_1)] w0 fun e w' => ∃ v, e = .returned v ∧ v = (.int .u32 r) ∧ Mem F w0 w' [] := by
  unfold relay_later.f at H
  refine enterL (n := 11) [(.int .u32 now_0), (.int .u32 by_1)] Try.func41 rfl rfl rfl ?_
  intro a hA
  refine wp_seq ?_
  refine wp_region_lit ?_
  refine L1 (stv hA (by decide) (run_assign (hA.ev rfl)) ?_)
  clear hA; intro a hA
  refine LQ ?_
  refine TN ?_
  refine wp_seq ?_
  refine wp_region_lit ?_
  refine L1 (stv hA (by decide) (run_move (hA.ev rfl)) ?_)
  clear hA; intro a hA
  refine L1 (stv hA (by decide) (run_move (hA.ev rfl)) ?_)
  clear hA; intro a hA
  refine L1 (stv hA (by decide) (run_move (hA.ev rfl)) ?_)
  clear hA; intro a hA
  refine L1 (stv hA (by decide) (run_bin (hA.ev rfl) (hA.ev rfl) (bin_sub _ _ _ _)) ?_)
  clear hA; intro a hA
  refine L1 (stv hA (by decide) (run_min (hA.ev rfl) (hA.ev rfl)) ?_)
  clear hA; intro a hA
  refine L1 (stv hA (by decide) (run_bin (hA.ev rfl) (hA.ev rfl) (bin_add _ _ _ _)) ?_)
  clear hA; intro a hA
  refine L1 (stv hA (by decide) (run_assign (hA.ev rfl)) ?_)
  clear hA; intro a hA
  refine LQ ?_
  refine TN ?_
  refine wp_ret ?_
  obtain rfl := Option.some.inj H
  exact ret_post1 (fn := Try.f41) hA rfl rfl ⟨_, rfl, rfl, hM⟩

def relay_Hear.f (k : Nat) (r_0 : Relay) (from_1 : Int) (id_2 : (Vector Int 32)) (now_3 : Int) (wait_4 : Int) : Option (Relay × Int × Int) := (Option.bind (α := Bool) ((relay_sound.f k (Relay.mk r_0.Epoch r_0.Diffuse r_0.Routes r_0.Stems r_0.Fluffed)).bind fun r234 => (if (!r234) = true then (some true) else (some (decide (from_1 < (-1)))))) (fun t231 => (if t231 = true then (some ((Relay.mk 0 false ([] : List Int) ([] : List Stem) ([] : List (Vector Int 32))), 0, 6)) else (Option.bind (α := Bool) ((relay_stemmed.f k (Relay.mk r_0.Epoch r_0.Diffuse r_0.Routes r_0.Stems r_0.Fluffed)).bind fun r272 => ((slices_Contains_Hash.f k r272 id_2).bind fun r279 => (if r279 = true then (some true) else ((slices_Contains_Hash.f k r_0.Fluffed id_2).bind fun r283 => (some r283))))) (fun t267 => (if t267 = true then (some ((Relay.mk 0 false ([] : List Int) ([] : List Stem) ([] : List (Vector Int 32))), 0, 150)) else ((relay_Route.f k (Relay.mk r_0.Epoch r_0.Diffuse r_0.Routes r_0.Stems r_0.Fluffed) from_1).bind fun r292 => (Option.bind (α := Bool) (if r_0.Diffuse = true then (if (from_1 != (-1)) = true then (some true) else (some (decide (r292 < 0)))) else (some (decide (r292 < 0)))) (fun t305 => (if t305 = true then ((relay_clone.f k (Relay.mk r_0.Epoch r_0.Diffuse r_0.Routes r_0.Stems r_0.Fluffed)).bind fun r312 => (some ((Relay.mk r312.Epoch r312.Diffuse r312.Routes r312.Stems r312.Fluffed), (-1), 0))) else (if (decide (((r_0.Stems.length : Nat) : Int) ≥ 64)) = true then (some ((Relay.mk 0 false ([] : List Int) ([] : List Stem) ([] : List (Vector Int 32))), 0, 380)) else ((relay_clone.f k (Relay.mk r_0.Epoch r_0.Diffuse r_0.Routes r_0.Stems r_0.Fluffed)).bind fun r333 => (Option.bind (α := (List Stem)) ((relay_later.f k now_3 wait_4).bind fun r394 => (if (r333.Stems.length + 1) * 56 ≤ 140737488355328 then (some (r333.Stems ++ [(Stem.mk id_2 from_1 r292 r394)])) else none)) (fun xs388 => (some ((Relay.mk r333.Epoch r333.Diffuse r333.Routes xs388 r333.Fluffed), r292, 0))))))))))))))))
set_option maxHeartbeats 2000000 in
set_option maxRecDepth 100000 in
theorem relay_Hear.calls (k : Nat) (r_0 : Relay) (from_1 : Int) (id_2 : (Vector Int 32)) (now_3 : Int) (wait_4 : Int) (F : List (Option Nat)) (v0_2 : Value) (v0_3 : Value) (v0_4 : Value) (r : (Relay × Int × Int)) (w0 : World) (h0_2 : RoV F (Pl.int .i64) w0 v0_2 r_0.Routes) (h0_3 : RoV F pStem w0 v0_3 r_0.Stems) (h0_4 : RoV F pHash w0 v0_4 r_0.Fluffed) (hM : Mem F w0 w0 []) (H : relay_Hear.f k r_0 from_1 id_2 now_3 wait_4 = some r) :
    Calls Try.prog 25 #[(.agg #[(.int .u32 r_0.Epoch), (.bool r_0.Diffuse), v0_2, v0_3, v0_4]), (.int .i64 from_1), (.agg (pHash.enc id_2).toArray), (.int .u32 now_3), (.int .u32 wait_4)] w0 fun e w' => ∃ v, e = .returned v ∧ ∃ (ur_0_2 : Value) (ur_0_3 : Value) (ur_0_4 : Value), v = (.tuple #[(.agg #[(.int .u32 r.1.Epoch), (.bool r.1.Diffuse), ur_0_2, ur_0_3, ur_0_4]), (.int .i64 r.2.1), (.int .i64 r.2.2)]) ∧ Mem F w0 w' [.row 3 (Pl.int .i64).sz ur_0_2 ((Pl.int .i64).flat r.1.Routes), .row 61 pStem.sz ur_0_3 (pStem.flat r.1.Stems), .row 34 pHash.sz ur_0_4 (pHash.flat r.1.Fluffed)] := by
  unfold relay_Hear.f at H
  obtain ⟨A0_2, c0_2, rfl, hr0_2, hc0_2⟩ := h0_2
  obtain ⟨A0_3, c0_3, rfl, hr0_3, hc0_3⟩ := h0_3
  obtain ⟨A0_4, c0_4, rfl, hr0_4, hc0_4⟩ := h0_4
  refine enterL (n := 69) [(.agg #[(.int .u32 r_0.Epoch), (.bool r_0.Diffuse), (.slice A0_2 r_0.Routes.length c0_2), (.slice A0_3 r_0.Stems.length c0_3), (.slice A0_4 r_0.Fluffed.length c0_4)]), (.int .i64 from_1), (.agg (pHash.enc id_2).toArray), (.int .u32 now_3), (.int .u32 wait_4)] Try.func25 rfl rfl rfl ?_
  intro a hA
  refine wp_seq ?_
  refine wp_region_lit ?_
  refine L1 (e_box (cs := [(.int .u32 r_0.Epoch), (.bool r_0.Diffuse), (.slice A0_2 r_0.Routes.length c0_2), (.slice A0_3 r_0.Stems.length c0_3), (.slice A0_4 r_0.Fluffed.length c0_4)]) hM hA rfl rfl (by decide) ?_)
  clear hM hA; intro w212 g211 hM hE  a hA
  refine L1 (e_box (cs := (pHash.enc id_2)) hM hA rfl rfl (by decide) ?_)
  clear hM hA; intro w215 g214 hM hE  a hA
  refine L1 (e_alloc (cs := [(.int .u32 0), (.bool false), (.slice none 0 0), (.slice none 0 0), (.slice none 0 0)]) hM zero39 rfl hA (by decide) ?_)
  clear hM hA; intro w218 g217 hM hE  a hA
  refine L1 (stv hA (by decide) (run_assign (hA.ev rfl)) ?_)
  clear hA; intro a hA
  refine L1 (stv hA (by decide) (run_assign (hA.ev rfl)) ?_)
  clear hA; intro a hA
  refine LQ ?_
  refine TN ?_
  refine wp_seq ?_
  refine wp_seq ?_
  obtain ⟨o233, H232, H⟩ := Option.bind_eq_some_iff.1 H
  refine cutC (fun a w => ∃ (t231 : Bool), t231 = o233 ∧ Mem F w0 w [.box g211 39 [(.int .u32 r_0.Epoch), (.bool r_0.Diffuse), (.slice A0_2 r_0.Routes.length c0_2), (.slice A0_3 r_0.Stems.length c0_3), (.slice A0_4 r_0.Fluffed.length c0_4)], .box g214 34 (pHash.enc id_2), .box g217 39 [(.int .u32 0), (.bool false), (.slice none 0 0), (.slice none 0 0), (.slice none 0 0)]] ∧ Has 69 [(1, (.int .i64 from_1)), (3, (.int .u32 now_3)), (4, (.int .u32 wait_4)), (5, (.pointer (some (⟨g211, 0, none⟩)))), (7, (.pointer (some (⟨g214, 0, none⟩)))), (10, (.pointer (some (⟨g217, 0, none⟩)))), (20, (.bool t231))] a) ?_ ?_
  · refine wp_region_lit ?_
    refine L1 (stv hA (by decide) (run_ld (hA.ev rfl) (run_loadW Try.isAgg39 Try.sizeOf39 (by simp [Pl.len]; try rfl) (hM.box (.s (.s .z))))) ?_)
    clear hA; intro a hA
    obtain ⟨r234, H235, H232⟩ := Option.bind_eq_some_iff.1 H232
    refine L1 (st_call Try.call30 hA [(.agg #[(.int .u32 r_0.Epoch), (.bool r_0.Diffuse), (.slice A0_2 r_0.Routes.length c0_2), (.slice A0_3 r_0.Stems.length c0_3), (.slice A0_4 r_0.Fluffed.length c0_4)])] rfl (by decide) (relay_sound.calls _ (Relay.mk r_0.Epoch r_0.Diffuse r_0.Routes r_0.Stems r_0.Fluffed) _ _ _ _ _ _ ((RoV.mk (hM.roC (Ms := []) hr0_2) (Eq.refl r_0.Routes.length) hc0_2)) ((RoV.mk (hM.roC (Ms := []) hr0_3) (Eq.refl r_0.Stems.length) hc0_3)) ((RoV.mk (hM.roC (Ms := []) hr0_4) (Eq.refl r_0.Fluffed.length) hc0_4)) (hM.front (Ms := [])) H235) ?_)
    clear hA; rintro _ w236 ⟨rfl, hMc⟩ a hA
    have hE := hMc.below; have hM := hM.call (Ms := []) hMc
    clear hMc; simp only [List.cons_append, List.nil_append] at hM
    refine L1 (stv hA (by decide) (run_not (hA.ev rfl)) ?_)
    clear hA; intro a hA
    refine L1 (stv hA (by decide) (run_move (hA.ev rfl)) ?_)
    clear hA; intro a hA
    refine bsplit (b := (!r234)) (fun hb237 => ?_) (fun hb237 => ?_)
    · replace H232 := ite_t hb237 H232
      have hA := hA.re (t := 17) rfl (congrArg Value.bool hb237)
      refine L1 (gate_off rfl (by decide) rfl hA (by decide) rfl rfl ?_); clear hA; intro a hA
      refine L1 (gate_off rfl (by decide) rfl hA (by decide) rfl rfl ?_); clear hA; intro a hA
      refine L1 (stv hA (by decide) (run_pick (hA.ev rfl) (fun _ => hA.ev rfl) (fun h => Bool.noConfusion h)) ?_)
      clear hA; intro a hA
      refine LQ ?_
      exact ⟨true, Option.some.inj H232, (hM.sel [2, 1, 0] rfl (by decide)), (((((((hA.nil.cons (hA.get 20 _ rfl)).cons (hA.get 10 _ rfl)).cons (hA.get 7 _ rfl)).cons (hA.get 5 _ rfl)).cons (hA.get 4 _ rfl)).cons (hA.get 3 _ rfl)).cons (hA.get 1 _ rfl))⟩
    · replace H232 := ite_f hb237 H232
      have hA := hA.re (t := 17) rfl (congrArg Value.bool hb237)
      refine L1 (gate_on rfl rfl hA (by decide) rfl (stv hA (by decide) (run_move (hA.ev rfl)) ?_))
      clear hA; intro a hA
      refine L1 (gate_on rfl rfl hA (by decide) rfl (stv hA (by decide) (run_bin (hA.ev rfl) (hA.ev rfl) (bin_lss _ _ _ _)) ?_))
      clear hA; intro a hA
      refine L1 (stv hA (by decide) (run_pick (hA.ev rfl) (fun h => Bool.noConfusion h) (fun _ => hA.ev rfl)) ?_)
      clear hA; intro a hA
      refine LQ ?_
      exact ⟨(decide (from_1 < (-1))), Option.some.inj H232, (hM.sel [2, 1, 0] rfl (by decide)), (((((((hA.nil.cons (hA.get 20 _ rfl)).cons (hA.get 10 _ rfl)).cons (hA.get 7 _ rfl)).cons (hA.get 5 _ rfl)).cons (hA.get 4 _ rfl)).cons (hA.get 3 _ rfl)).cons (hA.get 1 _ rfl))⟩
  clear hM hA
  rintro a w238 ⟨t231, rfl, hM, hA⟩
  try dsimp only at H
  refine TN ?_
  refine tcond (b := t231) hA rfl (fun hb239 => ?_) (fun hb239 => ?_)
  · replace H := ite_t hb239 H
    refine wp_seq ?_
    refine wp_region_lit ?_
    refine L1 (stv hA (by decide) (run_build (cells := #[(.int .u32 0), (.bool false), (.slice none 0 0), (.slice none 0 0), (.slice none 0 0)]) [] zero39 Try.underlying39 (ss := [1, 1, 1, 1, 1]) ⟨Try.sizeOf35, Try.sizeOf4, Try.sizeOf22, Try.sizeOf36, Try.sizeOf37, trivial⟩ hA rfl (by rfl)) ?_)
    clear hA; intro a hA
    refine L1 (e_store (g := g217) (off := 0) (cur := [(.int .u32 0), (.bool false), (.slice none 0 0), (.slice none 0 0), (.slice none 0 0)]) (cs' := [(.int .u32 0), (.bool false), (.slice none 0 0), (.slice none 0 0), (.slice none 0 0)]) hM (.s (.s .z)) Try.sizeOf39 hA rfl (by simp [add_mk]) rfl (by first | rfl | simp [Value.cells, Pl.len]) (by simp [Value.cells, Value.oneCell']) (by first | exact Nat.le_of_ble_eq_true rfl | (simp [Pl.len]; done)) (spl_all (by first | rfl | simp [Value.cells, Pl.len])) ?_)
    clear hM hA; intro w240  hM hE  a hA
    refine L1 (stv hA (by decide) (run_assign (hA.ev rfl)) ?_)
    clear hA; intro a hA
    refine L1 (stv hA (by decide) (run_assign (hA.ev rfl)) ?_)
    clear hA; intro a hA
    refine LQ ?_
    refine TN ?_
    refine wp_ret ?_
    have hM := hM.addnil 3 ((Pl.int .i64)).sz
    have hM := hM.addnil 61 (pStem).sz
    have hM := hM.addnil 34 (pHash).sz
    obtain rfl := Option.some.inj H
    refine TR ?_
    exact ret_mix3 (fn := Try.f25) hA rfl (RV.cell rfl (run_loadW Try.isAgg39 Try.sizeOf39 (by simp [Pl.len]; try rfl) (hM.box (.s (.s (.s (.s (.s .z)))))))) (RV.tmp rfl) (RV.tmp rfl) ⟨_, rfl, (.slice none 0 0), (.slice none 0 0), (.slice none 0 0), rfl, (hM.sel [2, 1, 0] rfl (by decide))⟩
  · replace H := ite_f hb239 H
    refine wp_skip ?_
    refine TN ?_
    refine wp_seq ?_
    refine wp_seq ?_
    obtain ⟨o269, H268, H⟩ := Option.bind_eq_some_iff.1 H
    refine cutC (fun a w => ∃ (t267 : Bool), t267 = o269 ∧ Mem F w0 w [.box g211 39 [(.int .u32 r_0.Epoch), (.bool r_0.Diffuse), (.slice A0_2 r_0.Routes.length c0_2), (.slice A0_3 r_0.Stems.length c0_3), (.slice A0_4 r_0.Fluffed.length c0_4)], .box g214 34 (pHash.enc id_2), .box g217 39 [(.int .u32 0), (.bool false), (.slice none 0 0), (.slice none 0 0), (.slice none 0 0)]] ∧ Has 69 [(1, (.int .i64 from_1)), (3, (.int .u32 now_3)), (4, (.int .u32 wait_4)), (5, (.pointer (some (⟨g211, 0, none⟩)))), (7, (.pointer (some (⟨g214, 0, none⟩)))), (10, (.pointer (some (⟨g217, 0, none⟩)))), (31, (.bool t267))] a) ?_ ?_
    · refine draw (fun w' => Below w238.heap.size w238 w') [] rfl ?_
      intro w270 hw hS; replace hM := hM.ext hS; clear hw
      refine rebase hS ?_; clear hS; intro hS
      refine d_take (i := 0) (L' := #[true, false, false, false, false, false, false, false, false, false]) rfl (by kernel_rfl) rfl (fun _ _ _ h => h) hA (by decide) rfl hS (fun a w' hA hS' => run_ld (hA.ev rfl) (run_loadW Try.isAgg39 Try.sizeOf39 (by simp [Pl.len]; try rfl) ((hM.box .z).extB hS'))) ?_; clear hA; intro a hA
      refine d_take (i := 2) (L' := #[true, false, true, false, false, false, false, false, false, false]) rfl (by kernel_rfl) rfl (fun _ _ _ h => h) hA (by decide) rfl hS (fun a w' hA hS' => run_ld (hA.ev rfl) (run_loadP Try.isAgg34 Try.sizeOf34 ((hM.box (.s .z)).extB hS'))) ?_; clear hA; intro a hA
      obtain ⟨r272, H273, H268⟩ := Option.bind_eq_some_iff.1 H268
      refine d_one (i := 1) (L' := #[true, true, true, false, false, false, false, false, false, false]) (by kernel_rfl) rfl rfl (st_call Try.call39 hA [(.agg #[(.int .u32 r_0.Epoch), (.bool r_0.Diffuse), (.slice A0_2 r_0.Routes.length c0_2), (.slice A0_3 r_0.Stems.length c0_3), (.slice A0_4 r_0.Fluffed.length c0_4)])] rfl (by decide) (relay_stemmed.calls _ (Relay.mk r_0.Epoch r_0.Diffuse r_0.Routes r_0.Stems r_0.Fluffed) _ _ _ _ _ _ ((RoV.mk (hM.roC (Ms := []) hr0_2) (Eq.refl r_0.Routes.length) hc0_2)) ((RoV.mk (hM.roC (Ms := []) hr0_3) (Eq.refl r_0.Stems.length) hc0_3)) ((RoV.mk (hM.roC (Ms := []) hr0_4) (Eq.refl r_0.Fluffed.length) hc0_4)) (hM.front (Ms := [])) H273) ?_)
      clear hA; rintro _ w274 ⟨v275, rfl, hMc⟩ a hA
      have hE := hMc.below; have hM := hM.call (Ms := []) hMc
      have hlw276 : ∀ k, _ → w270.heap.size ≤ k := fun k hk => Nat.le_trans hS.size ((hMc.low _ (List.Mem.head _) k hk).resolve_right (by simp))
      clear hMc; simp only [List.cons_append, List.nil_append] at hM
      obtain ⟨A277, c278, rfl⟩ := RowOk.form (hM.row (p := pHash) .z)
      replace hS := hS.trans (hE.mono hS.size)
      refine ⟨fun _ => hS, ?_⟩
      obtain ⟨r279, H280, H268⟩ := Option.bind_eq_some_iff.1 H268
      refine d_one (i := 3) (L' := #[true, true, true, true, false, false, false, false, false, false]) (by kernel_rfl) rfl rfl (st_call Try.call31 hA [(.slice A277 r272.length c278), (.agg (pHash.enc id_2).toArray)] rfl (by decide) (slices_Contains_Hash.calls _ _ _ _ _ _ _ ((hM.roV (p := pHash) (Ms := []) .z)) (hM.front (Ms := [])) H280) ?_)
      clear hA; rintro _ w281 ⟨rfl, hMc⟩ a hA
      have hE := hMc.below; have hM := hM.call (Ms := []) hMc
      clear hMc; simp only [List.cons_append, List.nil_append] at hM
      replace hS := hS.trans (hE.mono hS.size)
      refine ⟨fun _ => hS, ?_⟩
      refine d_takef (i := 4) (L' := #[true, true, true, true, true, false, false, false, false, false]) rfl (by kernel_rfl) rfl (fun _ _ _ h => h) hA (by decide) (fun _ => hS) (fun a w' hA => run_move (hA.ev rfl)) ?_; clear hA; intro a hA
      refine bsplit (b := r279) (fun hb282 => ?_) (fun hb282 => ?_)
      · replace H268 := ite_t hb282 H268
        have hA := hA.re (t := 26) rfl (congrArg Value.bool hb282)
        refine d_skip (i := 5) (L' := #[true, true, true, true, true, true, false, false, false, false]) rfl (by kernel_rfl) rfl (fun _ _ _ h => h) rfl hA (by decide) (by decide) rfl rfl (fun _ => hS) ?_; clear hA; intro a hA
        refine d_skip (i := 6) (L' := #[true, true, true, true, true, true, true, false, false, false]) rfl (by kernel_rfl) rfl (fun _ _ _ h => h) rfl hA (by decide) (by decide) rfl rfl (fun _ => hS) ?_; clear hA; intro a hA
        refine d_skip (i := 7) (L' := #[true, true, true, true, true, true, true, true, false, false]) rfl (by kernel_rfl) rfl (fun _ _ _ h => h) rfl hA (by decide) (by decide) rfl rfl (fun _ => hS) ?_; clear hA; intro a hA
        refine d_one (i := 8) (L' := #[true, true, true, true, true, true, true, true, true, false]) (by kernel_rfl) rfl rfl (gate_off rfl (by decide) rfl hA (by decide) rfl rfl ?_); clear hA; intro a hA
        refine ⟨fun _ => hS, ?_⟩
        refine d_takef (i := 9) (L' := #[true, true, true, true, true, true, true, true, true, true]) rfl (by kernel_rfl) rfl (fun _ _ _ h => h) hA (by decide) (fun _ => hS) (fun a w' hA => run_pick (hA.ev rfl) (fun _ => hA.ev rfl) (fun h => Bool.noConfusion h)) ?_; clear hA; intro a hA
        refine d_done (by kernel_rfl) ?_
        exact ⟨true, Option.some.inj H268, (hM.sel [1, 2, 3] rfl (by decide)), (((((((hA.nil.cons (hA.get 31 _ rfl)).cons (hA.get 10 _ rfl)).cons (hA.get 7 _ rfl)).cons (hA.get 5 _ rfl)).cons (hA.get 4 _ rfl)).cons (hA.get 3 _ rfl)).cons (hA.get 1 _ rfl))⟩
      · replace H268 := ite_f hb282 H268
        have hA := hA.re (t := 26) rfl (congrArg Value.bool hb282)
        refine d_takegf (i := 5) (L' := #[true, true, true, true, true, true, false, false, false, false]) rfl (by kernel_rfl) rfl (fun _ _ _ h => h) rfl hA (by decide) (by decide) rfl (fun _ => hS) (fun a w' hA => run_field' Try.underlying39 rfl rfl Try.sizeOf37 (by decide) (hA.ev rfl)) ?_; clear hA; intro a hA
        refine rebase hS ?_; clear hS; intro hS
        refine d_takeg (i := 6) (L' := #[true, true, true, true, true, true, true, false, false, false]) rfl (by kernel_rfl) rfl (fun _ _ _ h => h) rfl hA (by decide) (by decide) rfl rfl hS (fun a w' hA hS' => run_ld (hA.ev rfl) (run_loadS Try.isAgg37 ((At.seg1 (hM.box (.s .z)) 4 rfl).extB hS'))) ?_; clear hA; intro a hA
        refine d_takeg (i := 7) (L' := #[true, true, true, true, true, true, true, true, false, false]) rfl (by kernel_rfl) rfl (fun _ _ _ h => h) rfl hA (by decide) (by decide) rfl rfl hS (fun a w' hA hS' => run_ld (hA.ev rfl) (run_loadP Try.isAgg34 Try.sizeOf34 ((hM.box (.s (.s .z))).extB hS'))) ?_; clear hA; intro a hA
        obtain ⟨r283, H284, H268⟩ := Option.bind_eq_some_iff.1 H268
        refine d_one (i := 8) (L' := #[true, true, true, true, true, true, true, true, true, false]) (by kernel_rfl) rfl rfl (gate_on rfl rfl hA (by decide) rfl (st_call Try.call31 hA [(.slice A0_4 r_0.Fluffed.length c0_4), (.agg (pHash.enc id_2).toArray)] rfl (by decide) (slices_Contains_Hash.calls _ _ _ _ _ _ _ ((RoV.mk (hM.roC (Ms := []) hr0_4) (Eq.refl r_0.Fluffed.length) hc0_4)) (hM.front (Ms := [])) H284) ?_))
        clear hA; rintro _ w285 ⟨rfl, hMc⟩ a hA
        have hE := hMc.below; have hM := hM.call (Ms := []) hMc
        clear hMc; simp only [List.cons_append, List.nil_append] at hM
        replace hS := hS.trans (hE.mono hS.size)
        refine ⟨fun _ => hS, ?_⟩
        refine d_takef (i := 9) (L' := #[true, true, true, true, true, true, true, true, true, true]) rfl (by kernel_rfl) rfl (fun _ _ _ h => h) hA (by decide) (fun _ => hS) (fun a w' hA => run_pick (hA.ev rfl) (fun h => Bool.noConfusion h) (fun _ => hA.ev rfl)) ?_; clear hA; intro a hA
        refine d_done (by kernel_rfl) ?_
        exact ⟨r283, Option.some.inj H268, (hM.sel [1, 2, 3] rfl (by decide)), (((((((hA.nil.cons (hA.get 31 _ rfl)).cons (hA.get 10 _ rfl)).cons (hA.get 7 _ rfl)).cons (hA.get 5 _ rfl)).cons (hA.get 4 _ rfl)).cons (hA.get 3 _ rfl)).cons (hA.get 1 _ rfl))⟩
    clear hM hA
    rintro a w286 ⟨t267, rfl, hM, hA⟩
    try dsimp only at H
    refine TN ?_
    refine tcond (b := t267) hA rfl (fun hb287 => ?_) (fun hb287 => ?_)
    · replace H := ite_t hb287 H
      refine wp_seq ?_
      refine wp_region_lit ?_
      refine L1 (stv hA (by decide) (run_build (cells := #[(.int .u32 0), (.bool false), (.slice none 0 0), (.slice none 0 0), (.slice none 0 0)]) [] zero39 Try.underlying39 (ss := [1, 1, 1, 1, 1]) ⟨Try.sizeOf35, Try.sizeOf4, Try.sizeOf22, Try.sizeOf36, Try.sizeOf37, trivial⟩ hA rfl (by rfl)) ?_)
      clear hA; intro a hA
      refine L1 (e_store (g := g217) (off := 0) (cur := [(.int .u32 0), (.bool false), (.slice none 0 0), (.slice none 0 0), (.slice none 0 0)]) (cs' := [(.int .u32 0), (.bool false), (.slice none 0 0), (.slice none 0 0), (.slice none 0 0)]) hM (.s (.s .z)) Try.sizeOf39 hA rfl (by simp [add_mk]) rfl (by first | rfl | simp [Value.cells, Pl.len]) (by simp [Value.cells, Value.oneCell']) (by first | exact Nat.le_of_ble_eq_true rfl | (simp [Pl.len]; done)) (spl_all (by first | rfl | simp [Value.cells, Pl.len])) ?_)
      clear hM hA; intro w288  hM hE  a hA
      refine L1 (stv hA (by decide) (run_assign (hA.ev rfl)) ?_)
      clear hA; intro a hA
      refine L1 (stv hA (by decide) (run_assign (hA.ev rfl)) ?_)
      clear hA; intro a hA
      refine LQ ?_
      refine TN ?_
      refine wp_ret ?_
      have hM := hM.addnil 3 ((Pl.int .i64)).sz
      have hM := hM.addnil 61 (pStem).sz
      have hM := hM.addnil 34 (pHash).sz
      obtain rfl := Option.some.inj H
      refine TR ?_
      exact ret_mix3 (fn := Try.f25) hA rfl (RV.cell rfl (run_loadW Try.isAgg39 Try.sizeOf39 (by simp [Pl.len]; try rfl) (hM.box (.s (.s (.s (.s (.s .z)))))))) (RV.tmp rfl) (RV.tmp rfl) ⟨_, rfl, (.slice none 0 0), (.slice none 0 0), (.slice none 0 0), rfl, (hM.sel [2, 1, 0] rfl (by decide))⟩
    · replace H := ite_f hb287 H
      refine wp_skip ?_
      refine TN ?_
      refine wp_seq ?_
      refine wp_region_lit ?_
      refine L1 (stv hA (by decide) (run_ld (hA.ev rfl) (run_loadW Try.isAgg39 Try.sizeOf39 (by simp [Pl.len]; try rfl) (hM.box .z))) ?_)
      clear hA; intro a hA
      refine L1 (stv hA (by decide) (run_move (hA.ev rfl)) ?_)
      clear hA; intro a hA
      obtain ⟨r292, H293, H⟩ := Option.bind_eq_some_iff.1 H
      refine L1 (st_call Try.call40 hA [(.agg #[(.int .u32 r_0.Epoch), (.bool r_0.Diffuse), (.slice A0_2 r_0.Routes.length c0_2), (.slice A0_3 r_0.Stems.length c0_3), (.slice A0_4 r_0.Fluffed.length c0_4)]), (.int .i64 from_1)] rfl (by decide) (relay_Route.calls _ (Relay.mk r_0.Epoch r_0.Diffuse r_0.Routes r_0.Stems r_0.Fluffed) _ _ _ _ _ _ _ ((RoV.mk (hM.roC (Ms := []) hr0_2) (Eq.refl r_0.Routes.length) hc0_2)) ((RoV.mk (hM.roC (Ms := []) hr0_3) (Eq.refl r_0.Stems.length) hc0_3)) ((RoV.mk (hM.roC (Ms := []) hr0_4) (Eq.refl r_0.Fluffed.length) hc0_4)) (hM.front (Ms := [])) H293) ?_)
      clear hA; rintro _ w294 ⟨rfl, hMc⟩ a hA
      have hE := hMc.below; have hM := hM.call (Ms := []) hMc
      clear hMc; simp only [List.cons_append, List.nil_append] at hM
      refine L1 (stv hA (by decide) (run_assign (hA.ev rfl)) ?_)
      clear hA; intro a hA
      refine LQ ?_
      refine TN ?_
      refine wp_seq ?_
      refine wp_seq ?_
      obtain ⟨o307, H306, H⟩ := Option.bind_eq_some_iff.1 H
      refine cutC (fun a w => ∃ (t305 : Bool), t305 = o307 ∧ Mem F w0 w [.box g211 39 [(.int .u32 r_0.Epoch), (.bool r_0.Diffuse), (.slice A0_2 r_0.Routes.length c0_2), (.slice A0_3 r_0.Stems.length c0_3), (.slice A0_4 r_0.Fluffed.length c0_4)], .box g214 34 (pHash.enc id_2), .box g217 39 [(.int .u32 0), (.bool false), (.slice none 0 0), (.slice none 0 0), (.slice none 0 0)]] ∧ Has 69 [(1, (.int .i64 from_1)), (3, (.int .u32 now_3)), (4, (.int .u32 wait_4)), (5, (.pointer (some (⟨g211, 0, none⟩)))), (7, (.pointer (some (⟨g214, 0, none⟩)))), (10, (.pointer (some (⟨g217, 0, none⟩)))), (13, (.int .i64 r292)), (45, (.bool t305))] a) ?_ ?_
      · refine wp_region_lit ?_
        refine L1 (stv hA (by decide) (run_field' Try.underlying39 rfl rfl Try.sizeOf4 (by decide) (hA.ev rfl)) ?_)
        clear hA; intro a hA
        refine L1 (stv hA (by decide) (run_ld (hA.ev rfl) (run_loadS Try.isAgg4 (At.seg1 (hM.box .z) 1 rfl))) ?_)
        clear hA; intro a hA
        refine L1 (stv hA (by decide) (run_move (hA.ev rfl)) ?_)
        clear hA; intro a hA
        refine bsplit (b := r_0.Diffuse) (fun hb308 => ?_) (fun hb308 => ?_)
        · replace H306 := ite_t hb308 H306
          have hA := hA.re (t := 38) rfl (congrArg Value.bool hb308)
          refine L1 (gate_on rfl rfl hA (by decide) rfl (stv hA (by decide) (run_move (hA.ev rfl)) ?_))
          clear hA; intro a hA
          refine L1 (gate_on rfl rfl hA (by decide) rfl (stv hA (by decide) (run_bin (hA.ev rfl) (hA.ev rfl) (bin_neq _ _ _ _)) ?_))
          clear hA; intro a hA
          refine L1 (stv hA (by decide) (run_pick (hA.ev rfl) (fun _ => hA.ev rfl) (fun h => Bool.noConfusion h)) ?_)
          clear hA; intro a hA
          refine L1 (stv hA (by decide) (run_move (hA.ev rfl)) ?_)
          clear hA; intro a hA
          refine bsplit (b := (from_1 != (-1))) (fun hb309 => ?_) (fun hb309 => ?_)
          · replace H306 := ite_t hb309 H306
            have hA := hA.re (t := 42) rfl (congrArg Value.bool hb309)
            refine L1 (gate_off rfl (by decide) rfl hA (by decide) rfl rfl ?_); clear hA; intro a hA
            refine L1 (gate_off rfl (by decide) rfl hA (by decide) rfl rfl ?_); clear hA; intro a hA
            refine L1 (stv hA (by decide) (run_pick (hA.ev rfl) (fun _ => hA.ev rfl) (fun h => Bool.noConfusion h)) ?_)
            clear hA; intro a hA
            refine LQ ?_
            exact ⟨true, Option.some.inj H306, hM, ((((((((hA.nil.cons (hA.get 45 _ rfl)).cons (hA.get 13 _ rfl)).cons (hA.get 10 _ rfl)).cons (hA.get 7 _ rfl)).cons (hA.get 5 _ rfl)).cons (hA.get 4 _ rfl)).cons (hA.get 3 _ rfl)).cons (hA.get 1 _ rfl))⟩
          · replace H306 := ite_f hb309 H306
            have hA := hA.re (t := 42) rfl (congrArg Value.bool hb309)
            refine L1 (gate_on rfl rfl hA (by decide) rfl (stv hA (by decide) (run_move (hA.ev rfl)) ?_))
            clear hA; intro a hA
            refine L1 (gate_on rfl rfl hA (by decide) rfl (stv hA (by decide) (run_bin (hA.ev rfl) (hA.ev rfl) (bin_lss _ _ _ _)) ?_))
            clear hA; intro a hA
            refine L1 (stv hA (by decide) (run_pick (hA.ev rfl) (fun h => Bool.noConfusion h) (fun _ => hA.ev rfl)) ?_)
            clear hA; intro a hA
            refine LQ ?_
            exact ⟨(decide (r292 < 0)), Option.some.inj H306, hM, ((((((((hA.nil.cons (hA.get 45 _ rfl)).cons (hA.get 13 _ rfl)).cons (hA.get 10 _ rfl)).cons (hA.get 7 _ rfl)).cons (hA.get 5 _ rfl)).cons (hA.get 4 _ rfl)).cons (hA.get 3 _ rfl)).cons (hA.get 1 _ rfl))⟩
        · replace H306 := ite_f hb308 H306
          have hA := hA.re (t := 38) rfl (congrArg Value.bool hb308)
          refine L1 (gate_off rfl (by decide) rfl hA (by decide) rfl rfl ?_); clear hA; intro a hA
          refine L1 (gate_off rfl (by decide) rfl hA (by decide) rfl rfl ?_); clear hA; intro a hA
          refine L1 (stv hA (by decide) (run_pick (hA.ev rfl) (fun h => Bool.noConfusion h) (fun _ => hA.ev rfl)) ?_)
          clear hA; intro a hA
          refine L1 (stv hA (by decide) (run_move (hA.ev rfl)) ?_)
          clear hA; intro a hA
          refine L1 (gate_on rfl rfl hA (by decide) rfl (stv hA (by decide) (run_move (hA.ev rfl)) ?_))
          clear hA; intro a hA
          refine L1 (gate_on rfl rfl hA (by decide) rfl (stv hA (by decide) (run_bin (hA.ev rfl) (hA.ev rfl) (bin_lss _ _ _ _)) ?_))
          clear hA; intro a hA
          refine L1 (stv hA (by decide) (run_pick (hA.ev rfl) (fun h => Bool.noConfusion h) (fun _ => hA.ev rfl)) ?_)
          clear hA; intro a hA
          refine LQ ?_
          exact ⟨(decide (r292 < 0)), Option.some.inj H306, hM, ((((((((hA.nil.cons (hA.get 45 _ rfl)).cons (hA.get 13 _ rfl)).cons (hA.get 10 _ rfl)).cons (hA.get 7 _ rfl)).cons (hA.get 5 _ rfl)).cons (hA.get 4 _ rfl)).cons (hA.get 3 _ rfl)).cons (hA.get 1 _ rfl))⟩
      clear hM hA
      rintro a w310 ⟨t305, rfl, hM, hA⟩
      try dsimp only at H
      refine TN ?_
      refine tcond (b := t305) hA rfl (fun hb311 => ?_) (fun hb311 => ?_)
      · replace H := ite_t hb311 H
        refine wp_seq ?_
        refine wp_region_lit ?_
        refine L1 (stv hA (by decide) (run_ld (hA.ev rfl) (run_loadW Try.isAgg39 Try.sizeOf39 (by simp [Pl.len]; try rfl) (hM.box .z))) ?_)
        clear hA; intro a hA
        obtain ⟨r312, H313, H⟩ := Option.bind_eq_some_iff.1 H
        refine L1 (st_call Try.call32 hA [(.agg #[(.int .u32 r_0.Epoch), (.bool r_0.Diffuse), (.slice A0_2 r_0.Routes.length c0_2), (.slice A0_3 r_0.Stems.length c0_3), (.slice A0_4 r_0.Fluffed.length c0_4)])] rfl (by decide) (relay_clone.calls _ (Relay.mk r_0.Epoch r_0.Diffuse r_0.Routes r_0.Stems r_0.Fluffed) _ _ _ _ _ _ ((RoV.mk (hM.roC (Ms := []) hr0_2) (Eq.refl r_0.Routes.length) hc0_2)) ((RoV.mk (hM.roC (Ms := []) hr0_3) (Eq.refl r_0.Stems.length) hc0_3)) ((RoV.mk (hM.roC (Ms := []) hr0_4) (Eq.refl r_0.Fluffed.length) hc0_4)) (hM.front (Ms := [])) H313) ?_)
        clear hA; rintro _ w314 ⟨v315, v316, v317, rfl, hMc⟩ a hA
        have hE := hMc.below; have hM := hM.call (Ms := []) hMc
        clear hMc; simp only [List.cons_append, List.nil_append] at hM
        obtain ⟨A319, c320, rfl⟩ := RowOk.form (hM.row (p := (Pl.int .i64)) .z)
        obtain ⟨A322, c323, rfl⟩ := RowOk.form (hM.row (p := pStem) (.s .z))
        obtain ⟨A325, c326, rfl⟩ := RowOk.form (hM.row (p := pHash) (.s (.s .z)))
        refine L1 (e_store (g := g217) (off := 0) (cur := [(.int .u32 0), (.bool false), (.slice none 0 0), (.slice none 0 0), (.slice none 0 0)]) (cs' := [(.int .u32 r312.Epoch), (.bool r312.Diffuse), (.slice A319 r312.Routes.length c320), (.slice A322 r312.Stems.length c323), (.slice A325 r312.Fluffed.length c326)]) hM (.s (.s (.s (.s (.s .z))))) Try.sizeOf39 hA rfl (by simp [add_mk]) rfl (by first | rfl | simp [Value.cells, Pl.len]) (by simp [Value.cells, Value.oneCell']) (by first | exact Nat.le_of_ble_eq_true rfl | (simp [Pl.len]; done)) (spl_all (by first | rfl | simp [Value.cells, Pl.len])) ?_)
        clear hM hA; intro w327  hM hE  a hA
        refine L1 (stv hA (by decide) (run_assign (hA.ev rfl)) ?_)
        clear hA; intro a hA
        refine L1 (stv hA (by decide) (run_assign (hA.ev rfl)) ?_)
        clear hA; intro a hA
        refine LQ ?_
        refine TN ?_
        refine wp_ret ?_
        obtain rfl := Option.some.inj H
        refine TR ?_
        exact ret_mix3 (fn := Try.f25) hA rfl (RV.cell rfl (run_loadW Try.isAgg39 Try.sizeOf39 (by simp [Pl.len]; try rfl) (hM.box (.s (.s (.s (.s (.s .z)))))))) (RV.tmp rfl) (RV.tmp rfl) ⟨_, rfl, (.slice A319 r312.Routes.length c320), (.slice A322 r312.Stems.length c323), (.slice A325 r312.Fluffed.length c326), rfl, (hM.sel [0, 1, 2] rfl (by decide))⟩
      · replace H := ite_f hb311 H
        refine wp_skip ?_
        refine TN ?_
        refine wp_seq ?_
        refine wp_seq ?_
        refine wp_region_lit ?_
        refine L1 (stv hA (by decide) (run_field' Try.underlying39 rfl rfl Try.sizeOf36 (by decide) (hA.ev rfl)) ?_)
        clear hA; intro a hA
        refine L1 (stv hA (by decide) (run_ld (hA.ev rfl) (run_loadS Try.isAgg36 (At.seg1 (hM.box .z) 3 rfl))) ?_)
        clear hA; intro a hA
        refine L1 (stv hA (by decide) (run_len_slice Try.underlying36 (hA.ev rfl)) ?_)
        clear hA; intro a hA
        refine L1 (stv hA (by decide) (run_bin (hA.ev rfl) (hA.ev rfl) (bin_geq _ _ _ _)) ?_)
        clear hA; intro a hA
        refine LQ ?_
        refine TN ?_
        refine tcond (b := (decide (((r_0.Stems.length : Nat) : Int) ≥ 64))) hA rfl (fun hb328 => ?_) (fun hb328 => ?_)
        · replace H := ite_t hb328 H
          refine wp_seq ?_
          refine wp_region_lit ?_
          refine L1 (stv hA (by decide) (run_build (cells := #[(.int .u32 0), (.bool false), (.slice none 0 0), (.slice none 0 0), (.slice none 0 0)]) [] zero39 Try.underlying39 (ss := [1, 1, 1, 1, 1]) ⟨Try.sizeOf35, Try.sizeOf4, Try.sizeOf22, Try.sizeOf36, Try.sizeOf37, trivial⟩ hA rfl (by rfl)) ?_)
          clear hA; intro a hA
          refine L1 (e_store (g := g217) (off := 0) (cur := [(.int .u32 0), (.bool false), (.slice none 0 0), (.slice none 0 0), (.slice none 0 0)]) (cs' := [(.int .u32 0), (.bool false), (.slice none 0 0), (.slice none 0 0), (.slice none 0 0)]) hM (.s (.s .z)) Try.sizeOf39 hA rfl (by simp [add_mk]) rfl (by first | rfl | simp [Value.cells, Pl.len]) (by simp [Value.cells, Value.oneCell']) (by first | exact Nat.le_of_ble_eq_true rfl | (simp [Pl.len]; done)) (spl_all (by first | rfl | simp [Value.cells, Pl.len])) ?_)
          clear hM hA; intro w329  hM hE  a hA
          refine L1 (stv hA (by decide) (run_assign (hA.ev rfl)) ?_)
          clear hA; intro a hA
          refine L1 (stv hA (by decide) (run_assign (hA.ev rfl)) ?_)
          clear hA; intro a hA
          refine LQ ?_
          refine TN ?_
          refine wp_ret ?_
          have hM := hM.addnil 3 ((Pl.int .i64)).sz
          have hM := hM.addnil 61 (pStem).sz
          have hM := hM.addnil 34 (pHash).sz
          obtain rfl := Option.some.inj H
          refine TR ?_
          exact ret_mix3 (fn := Try.f25) hA rfl (RV.cell rfl (run_loadW Try.isAgg39 Try.sizeOf39 (by simp [Pl.len]; try rfl) (hM.box (.s (.s (.s (.s (.s .z)))))))) (RV.tmp rfl) (RV.tmp rfl) ⟨_, rfl, (.slice none 0 0), (.slice none 0 0), (.slice none 0 0), rfl, (hM.sel [2, 1, 0] rfl (by decide))⟩
        · replace H := ite_f hb328 H
          refine wp_skip ?_
          refine TN ?_
          refine wp_seq ?_
          refine wp_region_lit ?_
          refine L1 (stv hA (by decide) (run_ld (hA.ev rfl) (run_loadW Try.isAgg39 Try.sizeOf39 (by simp [Pl.len]; try rfl) (hM.box .z))) ?_)
          clear hA; intro a hA
          obtain ⟨r333, H334, H⟩ := Option.bind_eq_some_iff.1 H
          refine L1 (st_call Try.call32 hA [(.agg #[(.int .u32 r_0.Epoch), (.bool r_0.Diffuse), (.slice A0_2 r_0.Routes.length c0_2), (.slice A0_3 r_0.Stems.length c0_3), (.slice A0_4 r_0.Fluffed.length c0_4)])] rfl (by decide) (relay_clone.calls _ (Relay.mk r_0.Epoch r_0.Diffuse r_0.Routes r_0.Stems r_0.Fluffed) _ _ _ _ _ _ ((RoV.mk (hM.roC (Ms := []) hr0_2) (Eq.refl r_0.Routes.length) hc0_2)) ((RoV.mk (hM.roC (Ms := []) hr0_3) (Eq.refl r_0.Stems.length) hc0_3)) ((RoV.mk (hM.roC (Ms := []) hr0_4) (Eq.refl r_0.Fluffed.length) hc0_4)) (hM.front (Ms := [])) H334) ?_)
          clear hA; rintro _ w335 ⟨v336, v337, v338, rfl, hMc⟩ a hA
          have hE := hMc.below; have hM := hM.call (Ms := []) hMc
          clear hMc; simp only [List.cons_append, List.nil_append] at hM
          obtain ⟨A340, c341, rfl⟩ := RowOk.form (hM.row (p := (Pl.int .i64)) .z)
          obtain ⟨A343, c344, rfl⟩ := RowOk.form (hM.row (p := pStem) (.s .z))
          obtain ⟨A346, c347, rfl⟩ := RowOk.form (hM.row (p := pHash) (.s (.s .z)))
          refine L1 (e_store (g := g211) (off := 0) (cur := [(.int .u32 r_0.Epoch), (.bool r_0.Diffuse), (.slice A0_2 r_0.Routes.length c0_2), (.slice A0_3 r_0.Stems.length c0_3), (.slice A0_4 r_0.Fluffed.length c0_4)]) (cs' := [(.int .u32 r333.Epoch), (.bool r333.Diffuse), (.slice A340 r333.Routes.length c341), (.slice A343 r333.Stems.length c344), (.slice A346 r333.Fluffed.length c347)]) hM (.s (.s (.s .z))) Try.sizeOf39 hA rfl (by simp [add_mk]) rfl (by first | rfl | simp [Value.cells, Pl.len]) (by simp [Value.cells, Value.oneCell']) (by first | exact Nat.le_of_ble_eq_true rfl | (simp [Pl.len]; done)) (spl_all (by first | rfl | simp [Value.cells, Pl.len])) ?_)
          clear hM hA; intro w348  hM hE  a hA
          refine LQ ?_
          refine TN ?_
          refine wp_seq ?_
          obtain ⟨o392, H391, H⟩ := Option.bind_eq_some_iff.1 H
          refine cutC (fun a w => ∃ (xs388 : (List Stem)) (v385 : Value), xs388 = o392 ∧ Mem F w0 w [.box g211 39 [(.int .u32 r333.Epoch), (.bool r333.Diffuse), (.slice A340 r333.Routes.length c341), v385, (.slice A346 r333.Fluffed.length c347)], .row 3 (Pl.int .i64).sz (.slice A340 r333.Routes.length c341) ((Pl.int .i64).flat r333.Routes), .row 61 pStem.sz v385 (pStem.flat xs388), .row 34 pHash.sz (.slice A346 r333.Fluffed.length c347) (pHash.flat r333.Fluffed), .box g217 39 [(.int .u32 0), (.bool false), (.slice none 0 0), (.slice none 0 0), (.slice none 0 0)]] ∧ Has 69 [(5, (.pointer (some (⟨g211, 0, none⟩)))), (10, (.pointer (some (⟨g217, 0, none⟩)))), (13, (.int .i64 r292))] a) ?_ ?_
          · obtain ⟨r394, H395, H391⟩ := Option.bind_eq_some_iff.1 H391
            obtain ⟨hl403, H391⟩ := ite_some H391
            refine draw (fun w' => Below w348.heap.size w348 w') [10, 12] rfl ?_
            intro w407 hw hS; replace hM := hM.ext hS; clear hw
            refine d_takef (i := 0) (L' := #[true, false, false, false, false, false, false, false, false, false, false, false, false]) rfl (by kernel_rfl) rfl (fun _ _ _ h => h) hA (by decide) (fun _ => hS) (fun a w' hA => run_field' Try.underlying39 rfl rfl Try.sizeOf36 (by decide) (hA.ev rfl)) ?_; clear hA; intro a hA
            refine rebase hS ?_; clear hS; intro hS
            refine d_take (i := 1) (L' := #[true, true, false, false, false, false, false, false, false, false, false, false, false]) rfl (by kernel_rfl) rfl (fun _ _ _ h => h) hA (by decide) rfl hS (fun a w' hA hS' => run_ld (hA.ev rfl) (run_loadS Try.isAgg36 ((At.seg1 (hM.box (.s (.s (.s .z)))) 3 rfl).extB hS'))) ?_; clear hA; intro a hA
            refine d_takef (i := 3) (L' := #[true, true, false, true, false, false, false, false, false, false, false, false, false]) rfl (by kernel_rfl) rfl (fun _ _ _ h => h) hA (by decide) (fun _ => hS) (fun a w' hA => run_move (hA.ev rfl)) ?_; clear hA; intro a hA
            refine d_takef (i := 4) (L' := #[true, true, false, true, true, false, false, false, false, false, false, false, false]) rfl (by kernel_rfl) rfl (fun _ _ _ h => h) hA (by decide) (fun _ => hS) (fun a w' hA => run_move (hA.ev rfl)) ?_; clear hA; intro a hA
            refine d_takef (i := 5) (L' := #[true, true, false, true, true, true, false, false, false, false, false, false, false]) rfl (by kernel_rfl) rfl (fun _ _ _ h => h) hA (by decide) (fun _ => hS) (fun a w' hA => run_move (hA.ev rfl)) ?_; clear hA; intro a hA
            refine d_takef (i := 6) (L' := #[true, true, false, true, true, true, true, false, false, false, false, false, false]) rfl (by kernel_rfl) rfl (fun _ _ _ h => h) hA (by decide) (fun _ => hS) (fun a w' hA => run_move (hA.ev rfl)) ?_; clear hA; intro a hA
            refine d_many (is := [2, 7]) (by kernel_rfl) (by decide) ⟨?_, ?_, trivial⟩
            · refine d_op (i := 2) (L' := #[true, true, true, true, true, true, true, false, false, false, false, false, false]) rfl rfl (stv hA (by decide) (run_ld (hA.ev rfl) (run_loadP Try.isAgg34 Try.sizeOf34 (hM.box (.s (.s (.s (.s .z))))))) ?_)
              clear hA; intro a hA
              refine ⟨fun _ => hS, ?_⟩
              refine d_one (i := 7) (L' := #[true, true, true, true, true, true, true, true, false, false, false, false, false]) (by kernel_rfl) rfl rfl (st_call Try.call41 hA [(.int .u32 now_3), (.int .u32 wait_4)] rfl (by decide) (relay_later.calls _ _ _ _ _ _ (hM.front (Ms := [])) H395) ?_)
              clear hA; rintro _ w408 ⟨rfl, hMc⟩ a hA
              have hE := hMc.below; have hM := hM.call (Ms := []) hMc
              clear hMc; simp only [List.cons_append, List.nil_append] at hM
              replace hS := hS.trans (hE.mono hS.size)
              refine ⟨fun _ => hS, ?_⟩
              refine d_takef (i := 8) (L' := #[true, true, true, true, true, true, true, true, true, false, false, false, false]) rfl (by kernel_rfl) rfl (fun _ _ _ h => h) hA (by decide) (fun _ => hS) (fun a w' hA => run_build [(0, (.agg (pHash.enc id_2).toArray)), (1, (.int .i64 from_1)), (2, (.int .i64 r292)), (3, (.int .u32 r394))] zero61 Try.underlying61 (ss := [32, 1, 1, 1]) ⟨Try.sizeOf34, Try.sizeOf3, Try.sizeOf3, Try.sizeOf35, trivial⟩ hA rfl (fill_step rfl (by simp [Value.cells, Pl.len]; try rfl) (enc_fit _ _ rfl) (arr_eq (Stem.spl_ID _ _)) (fill_step rfl rfl (enc_fit _ _ rfl) (arr_eq (Stem.spl_From_ _ _)) (fill_step rfl rfl (enc_fit _ _ rfl) (arr_eq (Stem.spl_To_ _ _)) (fill_step rfl rfl (enc_fit _ _ rfl) (arr_eq (Stem.spl_Due _ _)) (fill_nil)))))) ?_; clear hA; intro a hA
              refine d_one (i := 9) (L' := #[true, true, true, true, true, true, true, true, true, true, false, false, false]) (by kernel_rfl) rfl rfl (e_litNL [(Stem.mk id_2 from_1 r292 r394)] [(.agg (pStem.enc (Stem.mk id_2 from_1 r292 r394)).toArray)] elt36 hM rfl (by decide) hA rfl rfl (List.cons_ne_nil _ _) (by decide) ?_)
              clear hM hA; intro w410 g409 hM hE hlo411 a hA
              have hlw412 : ∀ k, Value.ownBlock (.slice (some ⟨g409, 0, none⟩) 1 1) = some k → w407.heap.size ≤ k := fun k hk => by cases hk; exact Nat.le_trans hS.size hlo411
              replace hS := hS.trans (hE.mono hS.size)
              refine ⟨fun _ => hS, ?_⟩
              refine d_one (i := 10) (L' := #[true, true, true, true, true, true, true, true, true, true, true, false, false]) (by kernel_rfl) rfl rfl (e_appendL elt36 hM (fun _ => (.s (.s .z))) (Src.row Try.underlying36 (RowOk.row (hM.row (p := pStem) .z)) (RowOk.len (hM.row (p := pStem) .z))) hl403 hA rfl rfl (by decide) ?_)
              clear hM hA; intro w415 A413 c414 hM hE hlo416 a hA
              refine ⟨fun h => absurd h (by decide), ?_⟩
              refine d_takef (i := 11) (L' := #[true, true, true, true, true, true, true, true, true, true, true, true, false]) rfl (by kernel_rfl) rfl (fun _ _ _ h => h) hA (by decide) (fun h => absurd h (by decide)) (fun a w' hA => run_field' Try.underlying39 rfl rfl Try.sizeOf36 (by decide) (hA.ev rfl)) ?_; clear hA; intro a hA
              refine d_one (i := 12) (L' := #[true, true, true, true, true, true, true, true, true, true, true, true, true]) (by kernel_rfl) rfl rfl (e_store (g := g211) (off := 3) (cur := [(.int .u32 r333.Epoch), (.bool r333.Diffuse), (.slice A340 r333.Routes.length c341), (.slice A343 r333.Stems.length c344), (.slice A346 r333.Fluffed.length c347)]) (cs' := [(.int .u32 r333.Epoch), (.bool r333.Diffuse), (.slice A340 r333.Routes.length c341), (.slice A413 (r333.Stems.length + 1) c414), (.slice A346 r333.Fluffed.length c347)]) hM (.s (.s (.s (.s .z)))) Try.sizeOf36 hA rfl (by simp [add_mk]) rfl (by first | rfl | simp [Value.cells, Pl.len]) (one_val rfl) (by first | exact Nat.le_of_ble_eq_true rfl | (simp [Pl.len]; done)) (rfl) ?_)
              clear hM hA; intro w417  hM hE  a hA
              refine ⟨fun h => absurd h (by decide), ?_⟩
              refine d_done (by kernel_rfl) ?_
              exact ⟨(r333.Stems ++ [(Stem.mk id_2 from_1 r292 r394)]), (.slice A413 (r333.Stems.length + 1) c414), Option.some.inj H391, (hM.sel [4, 1, 2, 3, 6] rfl (by decide)), (((hA.nil.cons (hA.get 13 _ rfl)).cons (hA.get 10 _ rfl)).cons (hA.get 5 _ rfl))⟩
            · refine d_op (i := 7) (L' := #[true, true, false, true, true, true, true, true, false, false, false, false, false]) rfl rfl (st_call Try.call41 hA [(.int .u32 now_3), (.int .u32 wait_4)] rfl (by decide) (relay_later.calls _ _ _ _ _ _ (hM.front (Ms := [])) H395) ?_)
              clear hA; rintro _ w418 ⟨rfl, hMc⟩ a hA
              have hE := hMc.below; have hM := hM.call (Ms := []) hMc
              clear hMc; simp only [List.cons_append, List.nil_append] at hM
              replace hS := hS.trans (hE.mono hS.size)
              refine ⟨fun _ => hS, ?_⟩
              refine d_one (i := 2) (L' := #[true, true, true, true, true, true, true, true, false, false, false, false, false]) (by kernel_rfl) rfl rfl (stv hA (by decide) (run_ld (hA.ev rfl) (run_loadP Try.isAgg34 Try.sizeOf34 (hM.box (.s (.s (.s (.s .z))))))) ?_)
              clear hA; intro a hA
              refine ⟨fun _ => hS, ?_⟩
              refine d_takef (i := 8) (L' := #[true, true, true, true, true, true, true, true, true, false, false, false, false]) rfl (by kernel_rfl) rfl (fun _ _ _ h => h) hA (by decide) (fun _ => hS) (fun a w' hA => run_build [(0, (.agg (pHash.enc id_2).toArray)), (1, (.int .i64 from_1)), (2, (.int .i64 r292)), (3, (.int .u32 r394))] zero61 Try.underlying61 (ss := [32, 1, 1, 1]) ⟨Try.sizeOf34, Try.sizeOf3, Try.sizeOf3, Try.sizeOf35, trivial⟩ hA rfl (fill_step rfl (by simp [Value.cells, Pl.len]; try rfl) (enc_fit _ _ rfl) (arr_eq (Stem.spl_ID _ _)) (fill_step rfl rfl (enc_fit _ _ rfl) (arr_eq (Stem.spl_From_ _ _)) (fill_step rfl rfl (enc_fit _ _ rfl) (arr_eq (Stem.spl_To_ _ _)) (fill_step rfl rfl (enc_fit _ _ rfl) (arr_eq (Stem.spl_Due _ _)) (fill_nil)))))) ?_; clear hA; intro a hA
              refine d_one (i := 9) (L' := #[true, true, true, true, true, true, true, true, true, true, false, false, false]) (by kernel_rfl) rfl rfl (e_litNL [(Stem.mk id_2 from_1 r292 r394)] [(.agg (pStem.enc (Stem.mk id_2 from_1 r292 r394)).toArray)] elt36 hM rfl (by decide) hA rfl rfl (List.cons_ne_nil _ _) (by decide) ?_)
              clear hM hA; intro w420 g419 hM hE hlo421 a hA
              have hlw422 : ∀ k, Value.ownBlock (.slice (some ⟨g419, 0, none⟩) 1 1) = some k → w407.heap.size ≤ k := fun k hk => by cases hk; exact Nat.le_trans hS.size hlo421
              replace hS := hS.trans (hE.mono hS.size)
              refine ⟨fun _ => hS, ?_⟩
              refine d_one (i := 10) (L' := #[true, true, true, true, true, true, true, true, true, true, true, false, false]) (by kernel_rfl) rfl rfl (e_appendL elt36 hM (fun _ => (.s (.s .z))) (Src.row Try.underlying36 (RowOk.row (hM.row (p := pStem) .z)) (RowOk.len (hM.row (p := pStem) .z))) hl403 hA rfl rfl (by decide) ?_)
              clear hM hA; intro w425 A423 c424 hM hE hlo426 a hA
              refine ⟨fun h => absurd h (by decide), ?_⟩
              refine d_takef (i := 11) (L' := #[true, true, true, true, true, true, true, true, true, true, true, true, false]) rfl (by kernel_rfl) rfl (fun _ _ _ h => h) hA (by decide) (fun h => absurd h (by decide)) (fun a w' hA => run_field' Try.underlying39 rfl rfl Try.sizeOf36 (by decide) (hA.ev rfl)) ?_; clear hA; intro a hA
              refine d_one (i := 12) (L' := #[true, true, true, true, true, true, true, true, true, true, true, true, true]) (by kernel_rfl) rfl rfl (e_store (g := g211) (off := 3) (cur := [(.int .u32 r333.Epoch), (.bool r333.Diffuse), (.slice A340 r333.Routes.length c341), (.slice A343 r333.Stems.length c344), (.slice A346 r333.Fluffed.length c347)]) (cs' := [(.int .u32 r333.Epoch), (.bool r333.Diffuse), (.slice A340 r333.Routes.length c341), (.slice A423 (r333.Stems.length + 1) c424), (.slice A346 r333.Fluffed.length c347)]) hM (.s (.s (.s (.s .z)))) Try.sizeOf36 hA rfl (by simp [add_mk]) rfl (by first | rfl | simp [Value.cells, Pl.len]) (one_val rfl) (by first | exact Nat.le_of_ble_eq_true rfl | (simp [Pl.len]; done)) (rfl) ?_)
              clear hM hA; intro w427  hM hE  a hA
              refine ⟨fun h => absurd h (by decide), ?_⟩
              refine d_done (by kernel_rfl) ?_
              exact ⟨(r333.Stems ++ [(Stem.mk id_2 from_1 r292 r394)]), (.slice A423 (r333.Stems.length + 1) c424), Option.some.inj H391, (hM.sel [4, 1, 2, 3, 6] rfl (by decide)), (((hA.nil.cons (hA.get 13 _ rfl)).cons (hA.get 10 _ rfl)).cons (hA.get 5 _ rfl))⟩
          clear hM hA
          rintro a w428 ⟨xs388, v385, rfl, hM, hA⟩
          try dsimp only at H
          obtain ⟨A386, c387, rfl⟩ := RowOk.form (hM.row (p := pStem) (.s (.s .z)))
          refine TN ?_
          refine wp_seq ?_
          refine wp_region_lit ?_
          refine L1 (stv hA (by decide) (run_ld (hA.ev rfl) (run_loadW Try.isAgg39 Try.sizeOf39 (by simp [Pl.len]; try rfl) (hM.box .z))) ?_)
          clear hA; intro a hA
          refine L1 (stv hA (by decide) (run_move (hA.ev rfl)) ?_)
          clear hA; intro a hA
          refine L1 (e_store (g := g217) (off := 0) (cur := [(.int .u32 0), (.bool false), (.slice none 0 0), (.slice none 0 0), (.slice none 0 0)]) (cs' := [(.int .u32 r333.Epoch), (.bool r333.Diffuse), (.slice A340 r333.Routes.length c341), (.slice A386 xs388.length c387), (.slice A346 r333.Fluffed.length c347)]) hM (.s (.s (.s (.s .z)))) Try.sizeOf39 hA rfl (by simp [add_mk]) rfl (by first | rfl | simp [Value.cells, Pl.len]) (by simp [Value.cells, Value.oneCell']) (by first | exact Nat.le_of_ble_eq_true rfl | (simp [Pl.len]; done)) (spl_all (by first | rfl | simp [Value.cells, Pl.len])) ?_)
          clear hM hA; intro w429  hM hE  a hA
          refine L1 (stv hA (by decide) (run_assign (hA.ev rfl)) ?_)
          clear hA; intro a hA
          refine L1 (stv hA (by decide) (run_assign (hA.ev rfl)) ?_)
          clear hA; intro a hA
          refine LQ ?_
          refine TN ?_
          refine wp_ret ?_
          obtain rfl := Option.some.inj H
          exact ret_mix3 (fn := Try.f25) hA rfl (RV.cell rfl (run_loadW Try.isAgg39 Try.sizeOf39 (by simp [Pl.len]; try rfl) (hM.box (.s (.s (.s (.s .z))))))) (RV.tmp rfl) (RV.tmp rfl) ⟨_, rfl, (.slice A340 r333.Routes.length c341), (.slice A386 xs388.length c387), (.slice A346 r333.Fluffed.length c347), rfl, (hM.sel [1, 2, 3] rfl (by decide))⟩

end Go.Proofs.Ytnhgfdinnbadeaa.G
