/- The functions that a law of this seat reaches: what each comes to, as a plain function, and that its code comes to it. Conditions: the plain function gives a value (enough fuel, no panic). -/
import Derived.Test.YtoogcdmdbogkeaaFConnectEclipsex0
set_option linter.unusedVariables false
set_option linter.unusedSimpArgs false
namespace Go.Proofs.Ytoogcdmdbogkeaa.G
open Go Go.RowKit Go.Proofs
def addrbook_Sound.l0 (b_0 : Book) : Nat → (Vector Int 32) → Int → Option (Out ((Vector Int 32) × Bool) ((Vector Int 32)))
  | 0, _, _ => none
  | k + 1, x6991, t6995 => (if (decide (t6995 < ((b_0.Heard.length : Nat) : Int))) = true then (if 0 ≤ t6995 ∧ t6995 < ((b_0.Heard.length : Nat) : Int) then (Option.bind (α := (Vector Int 32) × Bool) ((addrbook_Sound_c1.f k (b_0.Heard.getD t6995.toNat Place.z) (Book.mk x6991 b_0.Heard b_0.Tried)).bind fun r7046 => (if (((b_0.Heard.getD t6995.toNat Place.z).Bucket) != r7046.1) = true then (some (r7046.2.Salt, true)) else (if 0 ≤ t6995 ∧ t6995 ≤ ((b_0.Heard.length : Nat) : Int) then ((addrbook_find.f k (b_0.Heard.take t6995.toNat) ((b_0.Heard.getD t6995.toNat Place.z).Addr_)).bind fun r7057 => (some (r7046.2.Salt, (decide (r7057 ≥ 0))))) else none))) (fun st => match st with | (x7035, t7042) => (if t7042 = true then (some (.ret (x7035, false))) else (Option.bind (α := Bool) (if (decide (t6995 > 0)) = true then (if 0 ≤ (IntKind.i64.wrap (t6995 - 1)) ∧ (IntKind.i64.wrap (t6995 - 1)) < ((b_0.Heard.length : Nat) : Int) then (if (decide (((b_0.Heard.getD (IntKind.i64.wrap (t6995 - 1)).toNat Place.z).Bucket) > ((b_0.Heard.getD t6995.toNat Place.z).Bucket))) = true then (some true) else (if (decide (t6995 ≥ 8)) = true then (if 0 ≤ (IntKind.i64.wrap (t6995 - 8)) ∧ (IntKind.i64.wrap (t6995 - 8)) < ((b_0.Heard.length : Nat) : Int) then (some (((b_0.Heard.getD (IntKind.i64.wrap (t6995 - 8)).toNat Place.z).Bucket) == ((b_0.Heard.getD t6995.toNat Place.z).Bucket))) else none) else (some false))) else none) else (if (decide (t6995 ≥ 8)) = true then (if 0 ≤ (IntKind.i64.wrap (t6995 - 8)) ∧ (IntKind.i64.wrap (t6995 - 8)) < ((b_0.Heard.length : Nat) : Int) then (some (((b_0.Heard.getD (IntKind.i64.wrap (t6995 - 8)).toNat Place.z).Bucket) == ((b_0.Heard.getD t6995.toNat Place.z).Bucket))) else none) else (some false))) (fun t7097 => (if t7097 = true then (some (.ret (x7035, false))) else (if (decide (t6995 ≥ 512)) = true then (some (.ret (x7035, false))) else (addrbook_Sound.l0 b_0 k x7035 (IntKind.i64.wrap (t6995 + 1)))))))))) else none) else (some (.go x6991)))
def addrbook_Sound.l1 (b_0 : Book) : Nat → (Vector Int 32) → Int → Option (Out ((Vector Int 32) × Bool) ((Vector Int 32)))
  | 0, _, _ => none
  | k + 1, x7948, t7952 => (if (decide (t7952 < ((b_0.Tried.length : Nat) : Int))) = true then (if 0 ≤ t7952 ∧ t7952 < ((b_0.Tried.length : Nat) : Int) then (Option.bind (α := (Vector Int 32) × Bool) ((addrbook_Sound_c2.f k (b_0.Tried.getD t7952.toNat Place.z) (Book.mk x7948 b_0.Heard b_0.Tried)).bind fun r8003 => (if (((b_0.Tried.getD t7952.toNat Place.z).Bucket) != r8003.1) = true then (some (r8003.2.Salt, true)) else (if 0 ≤ t7952 ∧ t7952 ≤ ((b_0.Tried.length : Nat) : Int) then ((addrbook_find.f k (b_0.Tried.take t7952.toNat) ((b_0.Tried.getD t7952.toNat Place.z).Addr_)).bind fun r8014 => (some (r8003.2.Salt, (decide (r8014 ≥ 0))))) else none))) (fun st => match st with | (x7992, t7999) => (if t7999 = true then (some (.ret (x7992, false))) else (Option.bind (α := Bool) (if (decide (t7952 > 0)) = true then (if 0 ≤ (IntKind.i64.wrap (t7952 - 1)) ∧ (IntKind.i64.wrap (t7952 - 1)) < ((b_0.Tried.length : Nat) : Int) then (if (decide (((b_0.Tried.getD (IntKind.i64.wrap (t7952 - 1)).toNat Place.z).Bucket) > ((b_0.Tried.getD t7952.toNat Place.z).Bucket))) = true then (some true) else (if (decide (t7952 ≥ 8)) = true then (if 0 ≤ (IntKind.i64.wrap (t7952 - 8)) ∧ (IntKind.i64.wrap (t7952 - 8)) < ((b_0.Tried.length : Nat) : Int) then (some (((b_0.Tried.getD (IntKind.i64.wrap (t7952 - 8)).toNat Place.z).Bucket) == ((b_0.Tried.getD t7952.toNat Place.z).Bucket))) else none) else (some false))) else none) else (if (decide (t7952 ≥ 8)) = true then (if 0 ≤ (IntKind.i64.wrap (t7952 - 8)) ∧ (IntKind.i64.wrap (t7952 - 8)) < ((b_0.Tried.length : Nat) : Int) then (some (((b_0.Tried.getD (IntKind.i64.wrap (t7952 - 8)).toNat Place.z).Bucket) == ((b_0.Tried.getD t7952.toNat Place.z).Bucket))) else none) else (some false))) (fun t8054 => (if t8054 = true then (some (.ret (x7992, false))) else (if (decide (t7952 ≥ 512)) = true then (some (.ret (x7992, false))) else (addrbook_Sound.l1 b_0 k x7992 (IntKind.i64.wrap (t7952 + 1)))))))))) else none) else (some (.go x7948)))
def addrbook_Sound.l2 (b_0 : Book) : Nat → Int → Option (Out Int (Unit))
  | 0, _ => none
  | k + 1, t8469 => (if (decide (t8469 < ((b_0.Heard.length : Nat) : Int))) = true then (if 0 ≤ t8469 ∧ t8469 < ((b_0.Heard.length : Nat) : Int) then ((addrbook_find.f k b_0.Tried ((b_0.Heard.getD t8469.toNat Place.z).Addr_)).bind fun r8489 => (if (decide (r8489 ≥ 0)) = true then (some (.ret t8469)) else (addrbook_Sound.l2 b_0 k (IntKind.i64.wrap (t8469 + 1))))) else none) else (some (.go ())))
def addrbook_Sound.f (k : Nat) (b_0 : Book) : Option Bool := (Option.bind (α := (Vector Int 32) × Bool) (Option.bind (α := (Vector Int 32) × Bool) (Option.bind (α := Out ((Vector Int 32) × Bool) ((Vector Int 32))) (addrbook_Sound.l0 b_0 k b_0.Salt 0) (fun o => match o with | .ret r => some r | .go x6996 => (some (x6996, true)))) (fun st => match st with | (x6645, t6647) => (if (!t6647) = true then (some (x6645, true)) else (Option.bind (α := (Vector Int 32) × Bool) (Option.bind (α := Out ((Vector Int 32) × Bool) ((Vector Int 32))) (addrbook_Sound.l1 b_0 k x6645 0) (fun o => match o with | .ret r => some r | .go x7953 => (some (x7953, true)))) (fun st => match st with | (x7602, t7604) => (some (x7602, (!t7604)))))))) (fun st => match st with | (x6165, t6167) => (if t6167 = true then (some false) else (Option.bind (α := Int) (Option.bind (α := Out Int (Unit)) (addrbook_Sound.l2 b_0 k 0) (fun o => match o with | .ret r => some r | .go _ => (some (-1)))) (fun t8391 => (some (!(decide (t8391 ≥ 0)))))))))
set_option maxHeartbeats 2000000 in
set_option maxRecDepth 100000 in
theorem addrbook_Sound.calls (k : Nat) (b_0 : Book) (F : List (Option Nat)) (v0_1 : Value) (v0_2 : Value) (r : Bool) (w0 : World) (h0_1 : RoV F pPlace w0 v0_1 b_0.Heard) (h0_2 : RoV F pPlace w0 v0_2 b_0.Tried) (hM : Mem F w0 w0 []) (H : addrbook_Sound.f k b_0 = some r) :
    Calls Try.prog 33 #[(.agg (List.flatten [pHash.enc b_0.Salt, [v0_1], [v0_2]]).toArray)] w0 fun e w' => ∃ v, e = .returned v ∧ v = (.bool r) ∧ Mem F w0 w' [] := by
  unfold addrbook_Sound.f at H
  obtain ⟨A0_1, c0_1, rfl, hr0_1, hc0_1⟩ := h0_1
  obtain ⟨A0_2, c0_2, rfl, hr0_2, hc0_2⟩ := h0_2
  refine enterL (n := 24) [(.agg (List.flatten [pHash.enc b_0.Salt, [(.slice A0_1 b_0.Heard.length c0_1)], [(.slice A0_2 b_0.Tried.length c0_2)]]).toArray)] Try.func33 rfl rfl rfl ?_
  intro a hA
  refine wp_seq ?_
  refine wp_region_lit ?_
  refine L1 (e_box (cs := (List.flatten [pHash.enc b_0.Salt, [(.slice A0_1 b_0.Heard.length c0_1)], [(.slice A0_2 b_0.Tried.length c0_2)]])) hM hA rfl rfl (by decide) ?_)
  clear hM hA; intro w4249 g4248 hM hE  a hA
  refine L1 (stv hA (by decide) (run_assign (hA.ev rfl)) ?_)
  clear hA; intro a hA
  refine LQ ?_
  refine TN ?_
  refine wp_seq ?_
  refine wp_region_lit ?_
  refine L1 (stv hA (by decide) (run_fn2 hA [(.pointer (some (⟨g4248, 0, none⟩)))] rfl) ?_)
  clear hA; intro a hA
  refine L1 (stv hA (by decide) (run_assign (hA.ev rfl)) ?_)
  clear hA; intro a hA
  refine LQ ?_
  refine TN ?_
  refine wp_seq ?_
  refine wp_region_lit ?_
  refine L1 (stv hA (by decide) (run_fn2 hA [(.pointer (some (⟨g4248, 0, none⟩)))] rfl) ?_)
  clear hA; intro a hA
  refine L1 (stv hA (by decide) (run_assign (hA.ev rfl)) ?_)
  clear hA; intro a hA
  refine LQ ?_
  refine TN ?_
  refine wp_seq ?_
  refine wp_seq ?_
  obtain ⟨o6169, H6168, H⟩ := Option.bind_eq_some_iff.1 H
  refine cutC (fun a w => ∃ (x6165 : (Vector Int 32)) (t6167 : Bool), (x6165, t6167) = o6169 ∧ Mem F w0 w [.box g4248 41 (List.flatten [pHash.enc x6165, [(.slice A0_1 b_0.Heard.length c0_1)], [(.slice A0_2 b_0.Tried.length c0_2)]])] ∧ Has 24 [(1, (.pointer (some (⟨g4248, 0, none⟩)))), (18, (.bool t6167))] a) ?_ ?_
  · refine wp_region_lit ?_
    refine L1 (stv hA (by decide) (run_field' Try.underlying41 rfl rfl Try.sizeOf39 (by decide) (hA.ev rfl)) ?_)
    clear hA; intro a hA
    refine L1 (stv hA (by decide) (run_ld (hA.ev rfl) (run_loadS Try.isAgg39 (At.seg (segs := [pHash.enc b_0.Salt, [(.slice A0_1 b_0.Heard.length c0_1)], [(.slice A0_2 b_0.Tried.length c0_2)]]) (hM.box .z) 1 rfl (by simp [Pl.len]; try rfl)))) ?_)
    clear hA; intro a hA
    refine L1 (stv hA (by decide) (run_move (hA.ev rfl)) ?_)
    clear hA; intro a hA
    refine L1 (inl_call Try.call59 hA [(.slice A0_1 b_0.Heard.length c0_1), (.func (.func 55) #[] #[(.pointer (some (⟨g4248, 0, none⟩)))])] rfl (by decide) ?_)
    obtain ⟨o6649, H6648, H6168⟩ := Option.bind_eq_some_iff.1 H6168
    refine (show Calls Try.prog 59 _ w4249 (fun e w => ∃ v, e = .returned v ∧ ∃ (x6645 : (Vector Int 32)) (t6647 : Bool), (x6645, t6647) = o6649 ∧ v = (.bool t6647) ∧ Mem F w0 w [.box g4248 41 (List.flatten [pHash.enc x6645, [(.slice A0_1 b_0.Heard.length c0_1)], [(.slice A0_2 b_0.Tried.length c0_2)]])]) from ?_).mono ?_
    · refine enterL (n := 60) [(.slice A0_1 b_0.Heard.length c0_1), (.func (.func 55) #[] #[(.pointer (some (⟨g4248, 0, none⟩)))])] Try.func59 rfl rfl rfl ?_
      clear hA; intro a hA
      refine wp_seq ?_
      refine wp_region_lit ?_
      refine L1 (stv hA (by decide) (run_assign (hA.ev rfl)) ?_)
      clear hA; intro a hA
      refine LQ ?_
      refine TN ?_
      refine wp_seq ?_
      refine wp_seq ?_
      refine wp_region_lit ?_
      refine L1 (stv hA (by decide) (run_move (hA.ev rfl)) ?_)
      clear hA; intro a hA
      refine L1 (stv hA (by decide) (run_len_slice Try.underlying39 (hA.ev rfl)) ?_)
      clear hA; intro a hA
      refine L1 (stv hA (by decide) (run_move (hA.ev rfl)) ?_)
      clear hA; intro a hA
      refine LQ ?_
      refine TN ?_
      obtain ⟨o6998, H6997, H6648⟩ := Option.bind_eq_some_iff.1 H6648
      refine cutC (fun a w => ∃ (x6996 : (Vector Int 32)), (.go x6996) = o6998 ∧ Mem F w0 w [.box g4248 41 (List.flatten [pHash.enc x6996, [(.slice A0_1 b_0.Heard.length c0_1)], [(.slice A0_2 b_0.Tried.length c0_2)]])] ∧ Has 60 [] a) ?_ ?_
      · refine wp_block ?_
        refine wp_loop_ghost (fun m a w => ∃ (x6991 : (Vector Int 32)) (t6995 : Int), addrbook_Sound.l0 b_0 m x6991 t6995 = some o6998 ∧ Mem F w0 w [.box g4248 41 (List.flatten [pHash.enc x6991, [(.slice A0_1 b_0.Heard.length c0_1)], [(.slice A0_2 b_0.Tried.length c0_2)]])] ∧ Has 60 [(0, (.slice A0_1 b_0.Heard.length c0_1)), (1, (.func (.func 55) #[] #[(.pointer (some (⟨g4248, 0, none⟩)))])), (7, (.slice A0_1 b_0.Heard.length c0_1)), (8, (.int .i64 ((b_0.Heard.length : Nat) : Int))), (9, (.int .i64 t6995))] a) k ⟨b_0.Salt, 0, H6997, hM, (((((hA.nil.cons (hA.get 9 _ rfl)).cons (hA.get 8 _ rfl)).cons (hA.get 7 _ rfl)).cons (hA.get 1 _ rfl)).cons (hA.get 0 _ rfl))⟩ ?_
        clear hM hA; rintro m6999 a w7000 ⟨x6991, t6995, H6997, hM, hA⟩
        cases m6999 with
        | zero => exact absurd H6997 (by simp [addrbook_Sound.l0])
        | succ m6999 =>
        rw [addrbook_Sound.l0] at H6997
        refine wp_seq ?_
        refine wp_region_lit ?_
        refine L1 (stv hA (by decide) (run_bin (hA.ev rfl) (hA.ev rfl) (bin_lss _ _ _ _)) ?_)
        clear hA; intro a hA
        refine LQ ?_
        refine TN ?_
        refine wp_seq ?_
        refine tcond (b := (decide (t6995 < ((b_0.Heard.length : Nat) : Int)))) hA rfl (fun hb7001 => ?_) (fun hb7001 => ?_)
        · replace H6997 := ite_t hb7001 H6997
          refine wp_skip ?_
          refine TN ?_
          refine wp_seq ?_
          refine wp_block ?_
          refine wp_seq ?_
          refine wp_region_lit ?_
          refine L1 (stv hA (by decide) (run_move (hA.ev rfl)) ?_)
          clear hA; intro a hA
          obtain ⟨⟨hi7002, hj7003⟩, H6997⟩ := ite_some H6997
          obtain ⟨ad7004, hq7005, hat7006⟩ := Row.elem' (p := pPlace) (hM.ro hr0_1) (Eq.refl b_0.Heard.length) Place.z t6995 hi7002 hj7003
          refine L1 (stv hA (by decide) (run_idx Try.underlying39 Try.sizeOf70 (hA.ev rfl) hq7005 (hA.ev rfl) hi7002 hj7003) ?_)
          clear hA; intro a hA
          refine L1 (stv hA (by decide) (run_ld (hA.ev rfl) (run_loadP Try.isAgg70 Try.sizeOf70 hat7006)) ?_)
          clear hA; intro a hA
          refine L1 (e_alloc (cs := (pPlace.enc Place.z)) hM zero70 rfl hA (by decide) ?_)
          clear hM hA; intro w7008 g7007 hM hE  a hA
          refine L1 (stv hA (by decide) (run_assign (hA.ev rfl)) ?_)
          clear hA; intro a hA
          refine L1 (e_store (g := g7007) (off := 0) (cur := (pPlace.enc Place.z)) (cs' := (pPlace.enc (b_0.Heard.getD t6995.toNat Place.z))) hM .z Try.sizeOf70 hA rfl (by simp [add_mk]) rfl (agg_size _ _) (agg_one _ _) (Nat.le_of_ble_eq_true (enc_fitL _ _ rfl)) (spl_all (by first | rfl | (simp [Value.cells, Pl.len]; done) | (simp [Value.cells, Pl.len]; rfl))) ?_)
          clear hM hA; intro w7010  hM hE  a hA
          refine LQ ?_
          refine TN ?_
          refine wp_seq ?_
          refine wp_seq ?_
          obtain ⟨o7044, H7043, H6997⟩ := Option.bind_eq_some_iff.1 H6997
          refine cutC (fun a w => ∃ (x7035 : (Vector Int 32)) (t7042 : Bool), (x7035, t7042) = o7044 ∧ Mem F w0 w [.box g4248 41 (List.flatten [pHash.enc x7035, [(.slice A0_1 b_0.Heard.length c0_1)], [(.slice A0_2 b_0.Tried.length c0_2)]]), .box g7007 70 (pPlace.enc (b_0.Heard.getD t6995.toNat Place.z))] ∧ Has 60 [(0, (.slice A0_1 b_0.Heard.length c0_1)), (1, (.func (.func 55) #[] #[(.pointer (some (⟨g4248, 0, none⟩)))])), (5, (.int .i64 t6995)), (6, (.pointer (some (⟨g7007, 0, none⟩)))), (7, (.slice A0_1 b_0.Heard.length c0_1)), (8, (.int .i64 ((b_0.Heard.length : Nat) : Int))), (9, (.int .i64 t6995)), (28, (.bool t7042))] a) ?_ ?_
          · obtain ⟨r7046, H7047, H7043⟩ := Option.bind_eq_some_iff.1 H7043
            refine bsplit (b := (((b_0.Heard.getD t6995.toNat Place.z).Bucket) != r7046.1)) (fun hb7049 => ?_) (fun hb7049 => ?_)
            · replace H7043 := ite_t hb7049 H7043
              refine draw (fun w' => Below w7010.heap.size w7010 w') [4] rfl ?_
              intro w7050 hw hS; replace hM := hM.ext hS; clear hw
              refine d_takef (i := 0) (L' := #[tT,fF,fF,fF,fF,fF,fF,fF,fF,fF,fF,fF,fF,fF,fF]) rfl (by kernel_rfl) rfl (fun _ _ _ h => h) hA (by decide) (fun _ => hS) (fun a w' hA => run_field' Try.underlying70 rfl rfl Try.sizeOf3 (by decide) (hA.ev rfl)) ?_; clear hA; intro a hA
              refine d_takef (i := 2) (L' := #[tT,fF,tT,fF,fF,fF,fF,fF,fF,fF,fF,fF,fF,fF,fF]) rfl (by kernel_rfl) rfl (fun _ _ _ h => h) hA (by decide) (fun _ => hS) (fun a w' hA => run_move (hA.ev rfl)) ?_; clear hA; intro a hA
              refine rebase hS ?_; clear hS; intro hS
              refine d_take (i := 3) (L' := #[tT,fF,tT,tT,fF,fF,fF,fF,fF,fF,fF,fF,fF,fF,fF]) rfl (by kernel_rfl) rfl (fun _ _ _ h => h) hA (by decide) rfl hS (fun a w' hA hS' => run_ld (hA.ev rfl) (run_loadP Try.isAgg70 Try.sizeOf70 ((hM.box .z).extB hS'))) ?_; clear hA; intro a hA
              refine d_many (is := [1, 4]) (by kernel_rfl) (by decide) ⟨?_, ?_, trivial⟩
              · refine d_op (i := 1) (L' := #[tT,tT,tT,tT,fF,fF,fF,fF,fF,fF,fF,fF,fF,fF,fF]) rfl rfl (stv hA (by decide) (run_ld (hA.ev rfl) (run_loadS Try.isAgg3 (Place.at_Bucket (hM.box .z)))) ?_)
                clear hA; intro a hA
                refine ⟨fun _ => hS, ?_⟩
                have hM := hM.sel [1, 0] rfl (by decide)
                refine d_one (i := 4) (L' := #[tT,tT,tT,tT,tT,fF,fF,fF,fF,fF,fF,fF,fF,fF,fF]) (by kernel_rfl) rfl rfl (st_callv (caps := [(.pointer (some (⟨g4248, 0, none⟩)))]) Try.call55 hA rfl [(.agg (pPlace.enc (b_0.Heard.getD t6995.toNat Place.z)).toArray)] rfl (by decide) (addrbook_Sound_c1.calls _ _ (Book.mk x6991 b_0.Heard b_0.Tried) _ _ _ _ _ _ ((RoV.mk (hM.roC (Ms := [_]) hr0_1) (Eq.refl b_0.Heard.length) hc0_1)) ((RoV.mk (hM.roC (Ms := [_]) hr0_2) (Eq.refl b_0.Tried.length) hc0_2)) (hM.front (Ms := [_])) H7047) ?_)
                clear hA; rintro _ w7051 ⟨rfl, hMc⟩ a hA
                have hM := hM.call (Ms := [_]) hMc
                clear hMc; simp only [List.cons_append, List.nil_append] at hM
                refine ⟨fun h => absurd h (by decide), ?_⟩
                refine d_takef (i := 5) (L' := #[tT,tT,tT,tT,tT,tT,fF,fF,fF,fF,fF,fF,fF,fF,fF]) rfl (by kernel_rfl) rfl (fun _ _ _ h => h) hA (by decide) (fun h => absurd h (by decide)) (fun a w' hA => run_bin (hA.ev rfl) (hA.ev rfl) (bin_neq _ _ _ _)) ?_; clear hA; intro a hA
                refine d_takef (i := 6) (L' := #[tT,tT,tT,tT,tT,tT,tT,fF,fF,fF,fF,fF,fF,fF,fF]) rfl (by kernel_rfl) rfl (fun _ _ _ h => h) hA (by decide) (fun h => absurd h (by decide)) (fun a w' hA => run_move (hA.ev rfl)) ?_; clear hA; intro a hA
                replace hA := hA.re (t := 20) rfl (congrArg Value.bool hb7049)
                refine d_skip (i := 7) (L' := #[tT,tT,tT,tT,tT,tT,tT,tT,fF,fF,fF,fF,fF,fF,fF]) rfl (by kernel_rfl) rfl (fun _ _ _ h => h) rfl hA (by decide) (by decide) rfl rfl (fun h => absurd h (by decide)) ?_; clear hA; intro a hA
                refine d_skip (i := 8) (L' := #[tT,tT,tT,tT,tT,tT,tT,tT,tT,fF,fF,fF,fF,fF,fF]) rfl (by kernel_rfl) rfl (fun _ _ _ h => h) rfl hA (by decide) (by decide) rfl rfl (fun h => absurd h (by decide)) ?_; clear hA; intro a hA
                refine d_skip (i := 9) (L' := #[tT,tT,tT,tT,tT,tT,tT,tT,tT,tT,fF,fF,fF,fF,fF]) rfl (by kernel_rfl) rfl (fun _ _ _ h => h) rfl hA (by decide) (by decide) rfl rfl (fun h => absurd h (by decide)) ?_; clear hA; intro a hA
                refine d_skip (i := 10) (L' := #[tT,tT,tT,tT,tT,tT,tT,tT,tT,tT,tT,fF,fF,fF,fF]) rfl (by kernel_rfl) rfl (fun _ _ _ h => h) rfl hA (by decide) (by decide) rfl rfl (fun h => absurd h (by decide)) ?_; clear hA; intro a hA
                refine d_one (i := 11) (L' := #[tT,tT,tT,tT,tT,tT,tT,tT,tT,tT,tT,tT,fF,fF,fF]) (by kernel_rfl) rfl rfl (gate_off rfl (by decide) rfl hA (by decide) rfl rfl ?_); clear hA; intro a hA
                refine ⟨fun h => absurd h (by decide), ?_⟩
                refine d_one (i := 12) (L' := #[tT,tT,tT,tT,tT,tT,tT,tT,tT,tT,tT,tT,tT,fF,fF]) (by kernel_rfl) rfl rfl (gate_off rfl (by decide) rfl hA (by decide) rfl rfl ?_); clear hA; intro a hA
                refine ⟨fun h => absurd h (by decide), ?_⟩
                refine d_skip (i := 13) (L' := #[tT,tT,tT,tT,tT,tT,tT,tT,tT,tT,tT,tT,tT,tT,fF]) rfl (by kernel_rfl) rfl (fun _ _ _ h => h) rfl hA (by decide) (by decide) rfl rfl (fun h => absurd h (by decide)) ?_; clear hA; intro a hA
                refine d_takef (i := 14) (L' := #[tT,tT,tT,tT,tT,tT,tT,tT,tT,tT,tT,tT,tT,tT,tT]) rfl (by kernel_rfl) rfl (fun _ _ _ h => h) hA (by decide) (fun h => absurd h (by decide)) (fun a w' hA => run_pick (hA.ev rfl) (fun _ => hA.ev rfl) (fun h => Bool.noConfusion h)) ?_; clear hA; intro a hA
                refine d_done (by kernel_rfl) ?_
                exact ⟨r7046.2.Salt, true, Option.some.inj H7043, hM, ((((((((hA.nil.cons (hA.get 28 _ rfl)).cons (hA.get 9 _ rfl)).cons (hA.get 8 _ rfl)).cons (hA.get 7 _ rfl)).cons (hA.get 6 _ rfl)).cons (hA.get 5 _ rfl)).cons (hA.get 1 _ rfl)).cons (hA.get 0 _ rfl))⟩
              · have hM := hM.sel [1, 0] rfl (by decide)
                refine d_op (i := 4) (L' := #[tT,fF,tT,tT,tT,fF,fF,fF,fF,fF,fF,fF,fF,fF,fF]) rfl rfl (st_callv (caps := [(.pointer (some (⟨g4248, 0, none⟩)))]) Try.call55 hA rfl [(.agg (pPlace.enc (b_0.Heard.getD t6995.toNat Place.z)).toArray)] rfl (by decide) (addrbook_Sound_c1.calls _ _ (Book.mk x6991 b_0.Heard b_0.Tried) _ _ _ _ _ _ ((RoV.mk (hM.roC (Ms := [_]) hr0_1) (Eq.refl b_0.Heard.length) hc0_1)) ((RoV.mk (hM.roC (Ms := [_]) hr0_2) (Eq.refl b_0.Tried.length) hc0_2)) (hM.front (Ms := [_])) H7047) ?_)
                clear hA; rintro _ w7053 ⟨rfl, hMc⟩ a hA
                have hM := hM.call (Ms := [_]) hMc
                clear hMc; simp only [List.cons_append, List.nil_append] at hM
                refine ⟨fun h => absurd h (by decide), ?_⟩
                refine d_one (i := 1) (L' := #[tT,tT,tT,tT,tT,fF,fF,fF,fF,fF,fF,fF,fF,fF,fF]) (by kernel_rfl) rfl rfl (stv hA (by decide) (run_ld (hA.ev rfl) (run_loadS Try.isAgg3 (Place.at_Bucket (hM.box (.s .z))))) ?_)
                clear hA; intro a hA
                refine ⟨fun h => absurd h (by decide), ?_⟩
                refine d_takef (i := 5) (L' := #[tT,tT,tT,tT,tT,tT,fF,fF,fF,fF,fF,fF,fF,fF,fF]) rfl (by kernel_rfl) rfl (fun _ _ _ h => h) hA (by decide) (fun h => absurd h (by decide)) (fun a w' hA => run_bin (hA.ev rfl) (hA.ev rfl) (bin_neq _ _ _ _)) ?_; clear hA; intro a hA
                refine d_takef (i := 6) (L' := #[tT,tT,tT,tT,tT,tT,tT,fF,fF,fF,fF,fF,fF,fF,fF]) rfl (by kernel_rfl) rfl (fun _ _ _ h => h) hA (by decide) (fun h => absurd h (by decide)) (fun a w' hA => run_move (hA.ev rfl)) ?_; clear hA; intro a hA
                replace hA := hA.re (t := 20) rfl (congrArg Value.bool hb7049)
                refine d_skip (i := 7) (L' := #[tT,tT,tT,tT,tT,tT,tT,tT,fF,fF,fF,fF,fF,fF,fF]) rfl (by kernel_rfl) rfl (fun _ _ _ h => h) rfl hA (by decide) (by decide) rfl rfl (fun h => absurd h (by decide)) ?_; clear hA; intro a hA
                refine d_skip (i := 8) (L' := #[tT,tT,tT,tT,tT,tT,tT,tT,tT,fF,fF,fF,fF,fF,fF]) rfl (by kernel_rfl) rfl (fun _ _ _ h => h) rfl hA (by decide) (by decide) rfl rfl (fun h => absurd h (by decide)) ?_; clear hA; intro a hA
                refine d_skip (i := 9) (L' := #[tT,tT,tT,tT,tT,tT,tT,tT,tT,tT,fF,fF,fF,fF,fF]) rfl (by kernel_rfl) rfl (fun _ _ _ h => h) rfl hA (by decide) (by decide) rfl rfl (fun h => absurd h (by decide)) ?_; clear hA; intro a hA
                refine d_skip (i := 10) (L' := #[tT,tT,tT,tT,tT,tT,tT,tT,tT,tT,tT,fF,fF,fF,fF]) rfl (by kernel_rfl) rfl (fun _ _ _ h => h) rfl hA (by decide) (by decide) rfl rfl (fun h => absurd h (by decide)) ?_; clear hA; intro a hA
                refine d_one (i := 11) (L' := #[tT,tT,tT,tT,tT,tT,tT,tT,tT,tT,tT,tT,fF,fF,fF]) (by kernel_rfl) rfl rfl (gate_off rfl (by decide) rfl hA (by decide) rfl rfl ?_); clear hA; intro a hA
                refine ⟨fun h => absurd h (by decide), ?_⟩
                refine d_one (i := 12) (L' := #[tT,tT,tT,tT,tT,tT,tT,tT,tT,tT,tT,tT,tT,fF,fF]) (by kernel_rfl) rfl rfl (gate_off rfl (by decide) rfl hA (by decide) rfl rfl ?_); clear hA; intro a hA
                refine ⟨fun h => absurd h (by decide), ?_⟩
                refine d_skip (i := 13) (L' := #[tT,tT,tT,tT,tT,tT,tT,tT,tT,tT,tT,tT,tT,tT,fF]) rfl (by kernel_rfl) rfl (fun _ _ _ h => h) rfl hA (by decide) (by decide) rfl rfl (fun h => absurd h (by decide)) ?_; clear hA; intro a hA
                refine d_takef (i := 14) (L' := #[tT,tT,tT,tT,tT,tT,tT,tT,tT,tT,tT,tT,tT,tT,tT]) rfl (by kernel_rfl) rfl (fun _ _ _ h => h) hA (by decide) (fun h => absurd h (by decide)) (fun a w' hA => run_pick (hA.ev rfl) (fun _ => hA.ev rfl) (fun h => Bool.noConfusion h)) ?_; clear hA; intro a hA
                refine d_done (by kernel_rfl) ?_
                exact ⟨r7046.2.Salt, true, Option.some.inj H7043, hM, ((((((((hA.nil.cons (hA.get 28 _ rfl)).cons (hA.get 9 _ rfl)).cons (hA.get 8 _ rfl)).cons (hA.get 7 _ rfl)).cons (hA.get 6 _ rfl)).cons (hA.get 5 _ rfl)).cons (hA.get 1 _ rfl)).cons (hA.get 0 _ rfl))⟩
            · replace H7043 := ite_f hb7049 H7043
              obtain ⟨⟨hi7055, hj7056⟩, H7043⟩ := ite_some H7043
              obtain ⟨r7057, H7058, H7043⟩ := Option.bind_eq_some_iff.1 H7043
              refine draw (fun w' => Below w7010.heap.size w7010 w') [4] rfl ?_
              intro w7060 hw hS; replace hM := hM.ext hS; clear hw
              refine d_takef (i := 0) (L' := #[tT,fF,fF,fF,fF,fF,fF,fF,fF,fF,fF,fF,fF,fF,fF]) rfl (by kernel_rfl) rfl (fun _ _ _ h => h) hA (by decide) (fun _ => hS) (fun a w' hA => run_field' Try.underlying70 rfl rfl Try.sizeOf3 (by decide) (hA.ev rfl)) ?_; clear hA; intro a hA
              refine d_takef (i := 2) (L' := #[tT,fF,tT,fF,fF,fF,fF,fF,fF,fF,fF,fF,fF,fF,fF]) rfl (by kernel_rfl) rfl (fun _ _ _ h => h) hA (by decide) (fun _ => hS) (fun a w' hA => run_move (hA.ev rfl)) ?_; clear hA; intro a hA
              refine rebase hS ?_; clear hS; intro hS
              refine d_take (i := 3) (L' := #[tT,fF,tT,tT,fF,fF,fF,fF,fF,fF,fF,fF,fF,fF,fF]) rfl (by kernel_rfl) rfl (fun _ _ _ h => h) hA (by decide) rfl hS (fun a w' hA hS' => run_ld (hA.ev rfl) (run_loadP Try.isAgg70 Try.sizeOf70 ((hM.box .z).extB hS'))) ?_; clear hA; intro a hA
              refine d_many (is := [1, 4]) (by kernel_rfl) (by decide) ⟨?_, ?_, trivial⟩
              · refine d_op (i := 1) (L' := #[tT,tT,tT,tT,fF,fF,fF,fF,fF,fF,fF,fF,fF,fF,fF]) rfl rfl (stv hA (by decide) (run_ld (hA.ev rfl) (run_loadS Try.isAgg3 (Place.at_Bucket (hM.box .z)))) ?_)
                clear hA; intro a hA
                refine ⟨fun _ => hS, ?_⟩
                have hM := hM.sel [1, 0] rfl (by decide)
                refine d_one (i := 4) (L' := #[tT,tT,tT,tT,tT,fF,fF,fF,fF,fF,fF,fF,fF,fF,fF]) (by kernel_rfl) rfl rfl (st_callv (caps := [(.pointer (some (⟨g4248, 0, none⟩)))]) Try.call55 hA rfl [(.agg (pPlace.enc (b_0.Heard.getD t6995.toNat Place.z)).toArray)] rfl (by decide) (addrbook_Sound_c1.calls _ _ (Book.mk x6991 b_0.Heard b_0.Tried) _ _ _ _ _ _ ((RoV.mk (hM.roC (Ms := [_]) hr0_1) (Eq.refl b_0.Heard.length) hc0_1)) ((RoV.mk (hM.roC (Ms := [_]) hr0_2) (Eq.refl b_0.Tried.length) hc0_2)) (hM.front (Ms := [_])) H7047) ?_)
                clear hA; rintro _ w7061 ⟨rfl, hMc⟩ a hA
                have hM := hM.call (Ms := [_]) hMc
                clear hMc; simp only [List.cons_append, List.nil_append] at hM
                refine ⟨fun h => absurd h (by decide), ?_⟩
                refine d_takef (i := 5) (L' := #[tT,tT,tT,tT,tT,tT,fF,fF,fF,fF,fF,fF,fF,fF,fF]) rfl (by kernel_rfl) rfl (fun _ _ _ h => h) hA (by decide) (fun h => absurd h (by decide)) (fun a w' hA => run_bin (hA.ev rfl) (hA.ev rfl) (bin_neq _ _ _ _)) ?_; clear hA; intro a hA
                refine d_takef (i := 6) (L' := #[tT,tT,tT,tT,tT,tT,tT,fF,fF,fF,fF,fF,fF,fF,fF]) rfl (by kernel_rfl) rfl (fun _ _ _ h => h) hA (by decide) (fun h => absurd h (by decide)) (fun a w' hA => run_move (hA.ev rfl)) ?_; clear hA; intro a hA
                replace hA := hA.re (t := 20) rfl (congrArg Value.bool hb7049)
                refine d_takegf (i := 7) (L' := #[tT,tT,tT,tT,tT,tT,tT,tT,fF,fF,fF,fF,fF,fF,fF]) rfl (by kernel_rfl) rfl (fun _ _ _ h => h) rfl hA (by decide) (by decide) rfl (fun h => absurd h (by decide)) (fun a w' hA => run_move (hA.ev rfl)) ?_; clear hA; intro a hA
                refine d_takegf (i := 8) (L' := #[tT,tT,tT,tT,tT,tT,tT,tT,tT,fF,fF,fF,fF,fF,fF]) rfl (by kernel_rfl) rfl (fun _ _ _ h => h) rfl hA (by decide) (by decide) rfl (fun h => absurd h (by decide)) (fun a w' hA => run_move (hA.ev rfl)) ?_; clear hA; intro a hA
                refine d_takegf (i := 9) (L' := #[tT,tT,tT,tT,tT,tT,tT,tT,tT,tT,fF,fF,fF,fF,fF]) rfl (by kernel_rfl) rfl (fun _ _ _ h => h) rfl hA (by decide) (by decide) rfl (fun h => absurd h (by decide)) (fun a w' hA => run_hi Try.underlying39 Try.sizeOf70 hc0_1 hi7055 hj7056 (hA.ev rfl) (hA.ev rfl)) ?_; clear hA; intro a hA
                refine d_takegf (i := 10) (L' := #[tT,tT,tT,tT,tT,tT,tT,tT,tT,tT,tT,fF,fF,fF,fF]) rfl (by kernel_rfl) rfl (fun _ _ _ h => h) rfl hA (by decide) (by decide) rfl (fun h => absurd h (by decide)) (fun a w' hA => run_field' Try.underlying70 rfl rfl Try.sizeOf46 (by decide) (hA.ev rfl)) ?_; clear hA; intro a hA
                refine d_one (i := 11) (L' := #[tT,tT,tT,tT,tT,tT,tT,tT,tT,tT,tT,tT,fF,fF,fF]) (by kernel_rfl) rfl rfl (gate_on rfl rfl hA (by decide) rfl (stv hA (by decide) (run_ld (hA.ev rfl) (run_loadP Try.isAgg46 Try.sizeOf46 (Place.at_Addr_ (hM.box (.s .z))))) ?_))
                clear hA; intro a hA
                refine ⟨fun h => absurd h (by decide), ?_⟩
                refine d_one (i := 12) (L' := #[tT,tT,tT,tT,tT,tT,tT,tT,tT,tT,tT,tT,tT,fF,fF]) (by kernel_rfl) rfl rfl (gate_on rfl rfl hA (by decide) rfl (st_call Try.call62 hA [(.slice A0_1 t6995.toNat c0_1), (.agg (pNAddr.enc ((b_0.Heard.getD t6995.toNat Place.z).Addr_)).toArray)] rfl (by decide) (addrbook_find.calls _ _ _ _ _ _ _ ((RoV.mk (Ro.take (hM.roC (Ms := []) hr0_1) t6995.toNat) (len_take (Eq.refl b_0.Heard.length) (by omega)) (by have hh1 := hc0_1; omega))) (hM.front (Ms := [])) H7058) ?_))
                clear hA; rintro _ w7063 ⟨rfl, hMc⟩ a hA
                have hE := hMc.below; have hM := hM.call (Ms := []) hMc
                clear hMc; simp only [List.cons_append, List.nil_append] at hM
                refine ⟨fun h => absurd h (by decide), ?_⟩
                refine d_takegf (i := 13) (L' := #[tT,tT,tT,tT,tT,tT,tT,tT,tT,tT,tT,tT,tT,tT,fF]) rfl (by kernel_rfl) rfl (fun _ _ _ h => h) rfl hA (by decide) (by decide) rfl (fun h => absurd h (by decide)) (fun a w' hA => run_bin (hA.ev rfl) (hA.ev rfl) (bin_geq _ _ _ _)) ?_; clear hA; intro a hA
                refine d_takef (i := 14) (L' := #[tT,tT,tT,tT,tT,tT,tT,tT,tT,tT,tT,tT,tT,tT,tT]) rfl (by kernel_rfl) rfl (fun _ _ _ h => h) hA (by decide) (fun h => absurd h (by decide)) (fun a w' hA => run_pick (hA.ev rfl) (fun h => Bool.noConfusion h) (fun _ => hA.ev rfl)) ?_; clear hA; intro a hA
                refine d_done (by kernel_rfl) ?_
                exact ⟨r7046.2.Salt, (decide (r7057 ≥ 0)), Option.some.inj H7043, hM, ((((((((hA.nil.cons (hA.get 28 _ rfl)).cons (hA.get 9 _ rfl)).cons (hA.get 8 _ rfl)).cons (hA.get 7 _ rfl)).cons (hA.get 6 _ rfl)).cons (hA.get 5 _ rfl)).cons (hA.get 1 _ rfl)).cons (hA.get 0 _ rfl))⟩
              · have hM := hM.sel [1, 0] rfl (by decide)
                refine d_op (i := 4) (L' := #[tT,fF,tT,tT,tT,fF,fF,fF,fF,fF,fF,fF,fF,fF,fF]) rfl rfl (st_callv (caps := [(.pointer (some (⟨g4248, 0, none⟩)))]) Try.call55 hA rfl [(.agg (pPlace.enc (b_0.Heard.getD t6995.toNat Place.z)).toArray)] rfl (by decide) (addrbook_Sound_c1.calls _ _ (Book.mk x6991 b_0.Heard b_0.Tried) _ _ _ _ _ _ ((RoV.mk (hM.roC (Ms := [_]) hr0_1) (Eq.refl b_0.Heard.length) hc0_1)) ((RoV.mk (hM.roC (Ms := [_]) hr0_2) (Eq.refl b_0.Tried.length) hc0_2)) (hM.front (Ms := [_])) H7047) ?_)
                clear hA; rintro _ w7064 ⟨rfl, hMc⟩ a hA
                have hM := hM.call (Ms := [_]) hMc
                clear hMc; simp only [List.cons_append, List.nil_append] at hM
                refine ⟨fun h => absurd h (by decide), ?_⟩
                refine d_one (i := 1) (L' := #[tT,tT,tT,tT,tT,fF,fF,fF,fF,fF,fF,fF,fF,fF,fF]) (by kernel_rfl) rfl rfl (stv hA (by decide) (run_ld (hA.ev rfl) (run_loadS Try.isAgg3 (Place.at_Bucket (hM.box (.s .z))))) ?_)
                clear hA; intro a hA
                refine ⟨fun h => absurd h (by decide), ?_⟩
                refine d_takef (i := 5) (L' := #[tT,tT,tT,tT,tT,tT,fF,fF,fF,fF,fF,fF,fF,fF,fF]) rfl (by kernel_rfl) rfl (fun _ _ _ h => h) hA (by decide) (fun h => absurd h (by decide)) (fun a w' hA => run_bin (hA.ev rfl) (hA.ev rfl) (bin_neq _ _ _ _)) ?_; clear hA; intro a hA
                refine d_takef (i := 6) (L' := #[tT,tT,tT,tT,tT,tT,tT,fF,fF,fF,fF,fF,fF,fF,fF]) rfl (by kernel_rfl) rfl (fun _ _ _ h => h) hA (by decide) (fun h => absurd h (by decide)) (fun a w' hA => run_move (hA.ev rfl)) ?_; clear hA; intro a hA
                replace hA := hA.re (t := 20) rfl (congrArg Value.bool hb7049)
                refine d_takegf (i := 7) (L' := #[tT,tT,tT,tT,tT,tT,tT,tT,fF,fF,fF,fF,fF,fF,fF]) rfl (by kernel_rfl) rfl (fun _ _ _ h => h) rfl hA (by decide) (by decide) rfl (fun h => absurd h (by decide)) (fun a w' hA => run_move (hA.ev rfl)) ?_; clear hA; intro a hA
                refine d_takegf (i := 8) (L' := #[tT,tT,tT,tT,tT,tT,tT,tT,tT,fF,fF,fF,fF,fF,fF]) rfl (by kernel_rfl) rfl (fun _ _ _ h => h) rfl hA (by decide) (by decide) rfl (fun h => absurd h (by decide)) (fun a w' hA => run_move (hA.ev rfl)) ?_; clear hA; intro a hA
                refine d_takegf (i := 9) (L' := #[tT,tT,tT,tT,tT,tT,tT,tT,tT,tT,fF,fF,fF,fF,fF]) rfl (by kernel_rfl) rfl (fun _ _ _ h => h) rfl hA (by decide) (by decide) rfl (fun h => absurd h (by decide)) (fun a w' hA => run_hi Try.underlying39 Try.sizeOf70 hc0_1 hi7055 hj7056 (hA.ev rfl) (hA.ev rfl)) ?_; clear hA; intro a hA
                refine d_takegf (i := 10) (L' := #[tT,tT,tT,tT,tT,tT,tT,tT,tT,tT,tT,fF,fF,fF,fF]) rfl (by kernel_rfl) rfl (fun _ _ _ h => h) rfl hA (by decide) (by decide) rfl (fun h => absurd h (by decide)) (fun a w' hA => run_field' Try.underlying70 rfl rfl Try.sizeOf46 (by decide) (hA.ev rfl)) ?_; clear hA; intro a hA
                refine d_one (i := 11) (L' := #[tT,tT,tT,tT,tT,tT,tT,tT,tT,tT,tT,tT,fF,fF,fF]) (by kernel_rfl) rfl rfl (gate_on rfl rfl hA (by decide) rfl (stv hA (by decide) (run_ld (hA.ev rfl) (run_loadP Try.isAgg46 Try.sizeOf46 (Place.at_Addr_ (hM.box (.s .z))))) ?_))
                clear hA; intro a hA
                refine ⟨fun h => absurd h (by decide), ?_⟩
                refine d_one (i := 12) (L' := #[tT,tT,tT,tT,tT,tT,tT,tT,tT,tT,tT,tT,tT,fF,fF]) (by kernel_rfl) rfl rfl (gate_on rfl rfl hA (by decide) rfl (st_call Try.call62 hA [(.slice A0_1 t6995.toNat c0_1), (.agg (pNAddr.enc ((b_0.Heard.getD t6995.toNat Place.z).Addr_)).toArray)] rfl (by decide) (addrbook_find.calls _ _ _ _ _ _ _ ((RoV.mk (Ro.take (hM.roC (Ms := []) hr0_1) t6995.toNat) (len_take (Eq.refl b_0.Heard.length) (by omega)) (by have hh1 := hc0_1; omega))) (hM.front (Ms := [])) H7058) ?_))
                clear hA; rintro _ w7066 ⟨rfl, hMc⟩ a hA
                have hE := hMc.below; have hM := hM.call (Ms := []) hMc
                clear hMc; simp only [List.cons_append, List.nil_append] at hM
                refine ⟨fun h => absurd h (by decide), ?_⟩
                refine d_takegf (i := 13) (L' := #[tT,tT,tT,tT,tT,tT,tT,tT,tT,tT,tT,tT,tT,tT,fF]) rfl (by kernel_rfl) rfl (fun _ _ _ h => h) rfl hA (by decide) (by decide) rfl (fun h => absurd h (by decide)) (fun a w' hA => run_bin (hA.ev rfl) (hA.ev rfl) (bin_geq _ _ _ _)) ?_; clear hA; intro a hA
                refine d_takef (i := 14) (L' := #[tT,tT,tT,tT,tT,tT,tT,tT,tT,tT,tT,tT,tT,tT,tT]) rfl (by kernel_rfl) rfl (fun _ _ _ h => h) hA (by decide) (fun h => absurd h (by decide)) (fun a w' hA => run_pick (hA.ev rfl) (fun h => Bool.noConfusion h) (fun _ => hA.ev rfl)) ?_; clear hA; intro a hA
                refine d_done (by kernel_rfl) ?_
                exact ⟨r7046.2.Salt, (decide (r7057 ≥ 0)), Option.some.inj H7043, hM, ((((((((hA.nil.cons (hA.get 28 _ rfl)).cons (hA.get 9 _ rfl)).cons (hA.get 8 _ rfl)).cons (hA.get 7 _ rfl)).cons (hA.get 6 _ rfl)).cons (hA.get 5 _ rfl)).cons (hA.get 1 _ rfl)).cons (hA.get 0 _ rfl))⟩
          clear hM hA
          rintro a w7067 ⟨x7035, t7042, rfl, hM, hA⟩
          try dsimp only at H6997
          refine TN ?_
          refine tcond (b := t7042) hA rfl (fun hb7068 => ?_) (fun hb7068 => ?_)
          · replace H6997 := ite_t hb7068 H6997
            refine wp_seq ?_
            refine wp_region_lit ?_
            refine L1 (stv hA (by decide) (run_assign (hA.ev rfl)) ?_)
            clear hA; intro a hA
            refine LQ ?_
            refine TN ?_
            refine wp_ret ?_
            obtain rfl := Option.some.inj H6997
            dsimp only at H6648
            obtain rfl := Option.some.inj H6648
            refine TR ?_
            refine BR ?_
            refine TR ?_
            refine TR ?_
            refine BR ?_
            refine TR ?_
            refine TR ?_
            exact ret_post1 (fn := Try.f59) hA rfl rfl ⟨_, rfl, x7035, false, rfl, rfl, (hM.sel [0] rfl (by decide))⟩
          · replace H6997 := ite_f hb7068 H6997
            refine wp_skip ?_
            refine TN ?_
            refine wp_seq ?_
            refine wp_seq ?_
            obtain ⟨o7099, H7098, H6997⟩ := Option.bind_eq_some_iff.1 H6997
            refine cutC (fun a w => ∃ (t7097 : Bool), t7097 = o7099 ∧ Mem F w0 w [.box g4248 41 (List.flatten [pHash.enc x7035, [(.slice A0_1 b_0.Heard.length c0_1)], [(.slice A0_2 b_0.Tried.length c0_2)]])] ∧ Has 60 [(0, (.slice A0_1 b_0.Heard.length c0_1)), (1, (.func (.func 55) #[] #[(.pointer (some (⟨g4248, 0, none⟩)))])), (5, (.int .i64 t6995)), (7, (.slice A0_1 b_0.Heard.length c0_1)), (8, (.int .i64 ((b_0.Heard.length : Nat) : Int))), (9, (.int .i64 t6995)), (56, (.bool t7097))] a) ?_ ?_
            · refine draw (fun w' => Below w7067.heap.size w7067 w') [] rfl ?_
              intro w7100 hw hS; replace hM := hM.ext hS; clear hw
              refine d_takef (i := 0) (L' := #[tT,fF,fF,fF,fF,fF,fF,fF,fF,fF,fF,fF,fF,fF,fF,fF,fF,fF,fF,fF,fF,fF,fF,fF,fF,fF,fF,fF]) rfl (by kernel_rfl) rfl (fun _ _ _ h => h) hA (by decide) (fun _ => hS) (fun a w' hA => run_move (hA.ev rfl)) ?_; clear hA; intro a hA
              refine d_takef (i := 1) (L' := #[tT,tT,fF,fF,fF,fF,fF,fF,fF,fF,fF,fF,fF,fF,fF,fF,fF,fF,fF,fF,fF,fF,fF,fF,fF,fF,fF,fF]) rfl (by kernel_rfl) rfl (fun _ _ _ h => h) hA (by decide) (fun _ => hS) (fun a w' hA => run_bin (hA.ev rfl) (hA.ev rfl) (bin_gtr _ _ _ _)) ?_; clear hA; intro a hA
              refine d_takef (i := 2) (L' := #[tT,tT,tT,fF,fF,fF,fF,fF,fF,fF,fF,fF,fF,fF,fF,fF,fF,fF,fF,fF,fF,fF,fF,fF,fF,fF,fF,fF]) rfl (by kernel_rfl) rfl (fun _ _ _ h => h) hA (by decide) (fun _ => hS) (fun a w' hA => run_move (hA.ev rfl)) ?_; clear hA; intro a hA
              refine bsplit (b := (decide (t6995 > 0))) (fun hb7102 => ?_) (fun hb7102 => ?_)
              · replace H7098 := ite_t hb7102 H7098
                have hA := hA.re (t := 31) rfl (congrArg Value.bool hb7102)
                refine d_takegf (i := 3) (L' := #[tT,tT,tT,tT,fF,fF,fF,fF,fF,fF,fF,fF,fF,fF,fF,fF,fF,fF,fF,fF,fF,fF,fF,fF,fF,fF,fF,fF]) rfl (by kernel_rfl) rfl (fun _ _ _ h => h) rfl hA (by decide) (by decide) rfl (fun _ => hS) (fun a w' hA => run_move (hA.ev rfl)) ?_; clear hA; intro a hA
                refine d_takegf (i := 4) (L' := #[tT,tT,tT,tT,tT,fF,fF,fF,fF,fF,fF,fF,fF,fF,fF,fF,fF,fF,fF,fF,fF,fF,fF,fF,fF,fF,fF,fF]) rfl (by kernel_rfl) rfl (fun _ _ _ h => h) rfl hA (by decide) (by decide) rfl (fun _ => hS) (fun a w' hA => run_move (hA.ev rfl)) ?_; clear hA; intro a hA
                refine d_takegf (i := 5) (L' := #[tT,tT,tT,tT,tT,tT,fF,fF,fF,fF,fF,fF,fF,fF,fF,fF,fF,fF,fF,fF,fF,fF,fF,fF,fF,fF,fF,fF]) rfl (by kernel_rfl) rfl (fun _ _ _ h => h) rfl hA (by decide) (by decide) rfl (fun _ => hS) (fun a w' hA => run_bin (hA.ev rfl) (hA.ev rfl) (bin_sub _ _ _ _)) ?_; clear hA; intro a hA
                obtain ⟨⟨hi7103, hj7104⟩, H7098⟩ := ite_some H7098
                obtain ⟨ad7105, hq7106, hat7107⟩ := Row.elem' (p := pPlace) (hM.ro hr0_1) (Eq.refl b_0.Heard.length) Place.z (IntKind.i64.wrap (t6995 - 1)) hi7103 hj7104
                refine d_takegf (i := 6) (L' := #[tT,tT,tT,tT,tT,tT,tT,fF,fF,fF,fF,fF,fF,fF,fF,fF,fF,fF,fF,fF,fF,fF,fF,fF,fF,fF,fF,fF]) rfl (by kernel_rfl) rfl (fun _ _ _ h => h) rfl hA (by decide) (by decide) rfl (fun _ => hS) (fun a w' hA => run_idx Try.underlying39 Try.sizeOf70 (hA.ev rfl) hq7106 (hA.ev rfl) hi7103 hj7104) ?_; clear hA; intro a hA
                refine d_takegf (i := 7) (L' := #[tT,tT,tT,tT,tT,tT,tT,tT,fF,fF,fF,fF,fF,fF,fF,fF,fF,fF,fF,fF,fF,fF,fF,fF,fF,fF,fF,fF]) rfl (by kernel_rfl) rfl (fun _ _ _ h => h) rfl hA (by decide) (by decide) rfl (fun _ => hS) (fun a w' hA => run_field' Try.underlying70 rfl rfl Try.sizeOf3 (by decide) (hA.ev rfl)) ?_; clear hA; intro a hA
                refine rebase hS ?_; clear hS; intro hS
                refine d_takeg (i := 8) (L' := #[tT,tT,tT,tT,tT,tT,tT,tT,tT,fF,fF,fF,fF,fF,fF,fF,fF,fF,fF,fF,fF,fF,fF,fF,fF,fF,fF,fF]) rfl (by kernel_rfl) rfl (fun _ _ _ h => h) rfl hA (by decide) (by decide) rfl rfl hS (fun a w' hA hS' => run_ld (hA.ev rfl) (run_loadS Try.isAgg3 ((Place.at_Bucket (hat7107)).extB hS'))) ?_; clear hA; intro a hA
                refine d_takegf (i := 9) (L' := #[tT,tT,tT,tT,tT,tT,tT,tT,tT,tT,fF,fF,fF,fF,fF,fF,fF,fF,fF,fF,fF,fF,fF,fF,fF,fF,fF,fF]) rfl (by kernel_rfl) rfl (fun _ _ _ h => h) rfl hA (by decide) (by decide) rfl (fun _ => hS) (fun a w' hA => run_field' Try.underlying70 rfl rfl Try.sizeOf3 (by decide) (hA.ev rfl)) ?_; clear hA; intro a hA
                refine d_takeg (i := 10) (L' := #[tT,tT,tT,tT,tT,tT,tT,tT,tT,tT,tT,fF,fF,fF,fF,fF,fF,fF,fF,fF,fF,fF,fF,fF,fF,fF,fF,fF]) rfl (by kernel_rfl) rfl (fun _ _ _ h => h) rfl hA (by decide) (by decide) rfl rfl hS (fun a w' hA hS' => run_ld (hA.ev rfl) (run_loadS Try.isAgg3 ((Place.at_Bucket (hM.box (.s .z))).extB hS'))) ?_; clear hA; intro a hA
                refine d_takegf (i := 11) (L' := #[tT,tT,tT,tT,tT,tT,tT,tT,tT,tT,tT,tT,fF,fF,fF,fF,fF,fF,fF,fF,fF,fF,fF,fF,fF,fF,fF,fF]) rfl (by kernel_rfl) rfl (fun _ _ _ h => h) rfl hA (by decide) (by decide) rfl (fun _ => hS) (fun a w' hA => run_bin (hA.ev rfl) (hA.ev rfl) (bin_gtr _ _ _ _)) ?_; clear hA; intro a hA
                refine d_takef (i := 12) (L' := #[tT,tT,tT,tT,tT,tT,tT,tT,tT,tT,tT,tT,tT,fF,fF,fF,fF,fF,fF,fF,fF,fF,fF,fF,fF,fF,fF,fF]) rfl (by kernel_rfl) rfl (fun _ _ _ h => h) hA (by decide) (fun _ => hS) (fun a w' hA => run_pick (hA.ev rfl) (fun _ => hA.ev rfl) (fun h => Bool.noConfusion h)) ?_; clear hA; intro a hA
                refine d_takef (i := 13) (L' := #[tT,tT,tT,tT,tT,tT,tT,tT,tT,tT,tT,tT,tT,tT,fF,fF,fF,fF,fF,fF,fF,fF,fF,fF,fF,fF,fF,fF]) rfl (by kernel_rfl) rfl (fun _ _ _ h => h) hA (by decide) (fun _ => hS) (fun a w' hA => run_move (hA.ev rfl)) ?_; clear hA; intro a hA
                refine bsplit (b := (decide (((b_0.Heard.getD (IntKind.i64.wrap (t6995 - 1)).toNat Place.z).Bucket) > ((b_0.Heard.getD t6995.toNat Place.z).Bucket)))) (fun hb7108 => ?_) (fun hb7108 => ?_)
                · replace H7098 := ite_t hb7108 H7098
                  have hA := hA.re (t := 42) rfl (congrArg Value.bool hb7108)
                  refine d_skip (i := 14) (L' := #[tT,tT,tT,tT,tT,tT,tT,tT,tT,tT,tT,tT,tT,tT,tT,fF,fF,fF,fF,fF,fF,fF,fF,fF,fF,fF,fF,fF]) rfl (by kernel_rfl) rfl (fun _ _ _ h => h) rfl hA (by decide) (by decide) rfl rfl (fun _ => hS) ?_; clear hA; intro a hA
                  refine d_skip (i := 15) (L' := #[tT,tT,tT,tT,tT,tT,tT,tT,tT,tT,tT,tT,tT,tT,tT,tT,fF,fF,fF,fF,fF,fF,fF,fF,fF,fF,fF,fF]) rfl (by kernel_rfl) rfl (fun _ _ _ h => h) rfl hA (by decide) (by decide) rfl rfl (fun _ => hS) ?_; clear hA; intro a hA
                  refine d_skip (i := 16) (L' := #[tT,tT,tT,tT,tT,tT,tT,tT,tT,tT,tT,tT,tT,tT,tT,tT,tT,fF,fF,fF,fF,fF,fF,fF,fF,fF,fF,fF]) rfl (by kernel_rfl) rfl (fun _ _ _ h => h) rfl hA (by decide) (by decide) rfl rfl (fun _ => hS) ?_; clear hA; intro a hA
                  refine d_skipu (i := 17) (L' := #[tT,tT,tT,tT,tT,tT,tT,tT,tT,tT,tT,tT,tT,tT,tT,tT,tT,tT,fF,fF,fF,fF,fF,fF,fF,fF,fF,fF]) rfl (by kernel_rfl) rfl (fun _ _ _ h => h) rfl hA (by decide) (by decide) rfl (fun _ => hS) ?_; clear hA; intro a hA
                  refine d_skipu (i := 18) (L' := #[tT,tT,tT,tT,tT,tT,tT,tT,tT,tT,tT,tT,tT,tT,tT,tT,tT,tT,tT,fF,fF,fF,fF,fF,fF,fF,fF,fF]) rfl (by kernel_rfl) rfl (fun _ _ _ h => h) rfl hA (by decide) (by decide) rfl (fun _ => hS) ?_; clear hA; intro a hA
                  refine d_skipu (i := 19) (L' := #[tT,tT,tT,tT,tT,tT,tT,tT,tT,tT,tT,tT,tT,tT,tT,tT,tT,tT,tT,tT,fF,fF,fF,fF,fF,fF,fF,fF]) rfl (by kernel_rfl) rfl (fun _ _ _ h => h) rfl hA (by decide) (by decide) rfl (fun _ => hS) ?_; clear hA; intro a hA
                  refine d_skipu (i := 20) (L' := #[tT,tT,tT,tT,tT,tT,tT,tT,tT,tT,tT,tT,tT,tT,tT,tT,tT,tT,tT,tT,tT,fF,fF,fF,fF,fF,fF,fF]) rfl (by kernel_rfl) rfl (fun _ _ _ h => h) rfl hA (by decide) (by decide) rfl (fun _ => hS) ?_; clear hA; intro a hA
                  refine d_skipu (i := 21) (L' := #[tT,tT,tT,tT,tT,tT,tT,tT,tT,tT,tT,tT,tT,tT,tT,tT,tT,tT,tT,tT,tT,tT,fF,fF,fF,fF,fF,fF]) rfl (by kernel_rfl) rfl (fun _ _ _ h => h) rfl hA (by decide) (by decide) rfl (fun _ => hS) ?_; clear hA; intro a hA
                  refine d_skipu (i := 22) (L' := #[tT,tT,tT,tT,tT,tT,tT,tT,tT,tT,tT,tT,tT,tT,tT,tT,tT,tT,tT,tT,tT,tT,tT,fF,fF,fF,fF,fF]) rfl (by kernel_rfl) rfl (fun _ _ _ h => h) rfl hA (by decide) (by decide) rfl (fun _ => hS) ?_; clear hA; intro a hA
                  refine d_skipu (i := 23) (L' := #[tT,tT,tT,tT,tT,tT,tT,tT,tT,tT,tT,tT,tT,tT,tT,tT,tT,tT,tT,tT,tT,tT,tT,tT,fF,fF,fF,fF]) rfl (by kernel_rfl) rfl (fun _ _ _ h => h) rfl hA (by decide) (by decide) rfl (fun _ => hS) ?_; clear hA; intro a hA
                  refine d_skipu (i := 24) (L' := #[tT,tT,tT,tT,tT,tT,tT,tT,tT,tT,tT,tT,tT,tT,tT,tT,tT,tT,tT,tT,tT,tT,tT,tT,tT,fF,fF,fF]) rfl (by kernel_rfl) rfl (fun _ _ _ h => h) rfl hA (by decide) (by decide) rfl (fun _ => hS) ?_; clear hA; intro a hA
                  refine d_skipu (i := 25) (L' := #[tT,tT,tT,tT,tT,tT,tT,tT,tT,tT,tT,tT,tT,tT,tT,tT,tT,tT,tT,tT,tT,tT,tT,tT,tT,tT,fF,fF]) rfl (by kernel_rfl) rfl (fun _ _ _ h => h) rfl hA (by decide) (by decide) rfl (fun _ => hS) ?_; clear hA; intro a hA
                  refine d_skip (i := 26) (L' := #[tT,tT,tT,tT,tT,tT,tT,tT,tT,tT,tT,tT,tT,tT,tT,tT,tT,tT,tT,tT,tT,tT,tT,tT,tT,tT,tT,fF]) rfl (by kernel_rfl) rfl (fun _ _ _ h => h) rfl hA (by decide) (by decide) rfl rfl (fun _ => hS) ?_; clear hA; intro a hA
                  refine d_takef (i := 27) (L' := #[tT,tT,tT,tT,tT,tT,tT,tT,tT,tT,tT,tT,tT,tT,tT,tT,tT,tT,tT,tT,tT,tT,tT,tT,tT,tT,tT,tT]) rfl (by kernel_rfl) rfl (fun _ _ _ h => h) hA (by decide) (fun _ => hS) (fun a w' hA => run_pick (hA.ev rfl) (fun _ => hA.ev rfl) (fun h => Bool.noConfusion h)) ?_; clear hA; intro a hA
                  refine d_done (by kernel_rfl) ?_
                  exact ⟨true, Option.some.inj H7098, (hM.sel [0] rfl (by decide)), (((((((hA.nil.cons (hA.get 56 _ rfl)).cons (hA.get 9 _ rfl)).cons (hA.get 8 _ rfl)).cons (hA.get 7 _ rfl)).cons (hA.get 5 _ rfl)).cons (hA.get 1 _ rfl)).cons (hA.get 0 _ rfl))⟩
                · replace H7098 := ite_f hb7108 H7098
                  have hA := hA.re (t := 42) rfl (congrArg Value.bool hb7108)
                  refine d_takegf (i := 14) (L' := #[tT,tT,tT,tT,tT,tT,tT,tT,tT,tT,tT,tT,tT,tT,tT,fF,fF,fF,fF,fF,fF,fF,fF,fF,fF,fF,fF,fF]) rfl (by kernel_rfl) rfl (fun _ _ _ h => h) rfl hA (by decide) (by decide) rfl (fun _ => hS) (fun a w' hA => run_move (hA.ev rfl)) ?_; clear hA; intro a hA
                  refine d_takegf (i := 15) (L' := #[tT,tT,tT,tT,tT,tT,tT,tT,tT,tT,tT,tT,tT,tT,tT,tT,fF,fF,fF,fF,fF,fF,fF,fF,fF,fF,fF,fF]) rfl (by kernel_rfl) rfl (fun _ _ _ h => h) rfl hA (by decide) (by decide) rfl (fun _ => hS) (fun a w' hA => run_bin (hA.ev rfl) (hA.ev rfl) (bin_geq _ _ _ _)) ?_; clear hA; intro a hA
                  refine d_takegf (i := 16) (L' := #[tT,tT,tT,tT,tT,tT,tT,tT,tT,tT,tT,tT,tT,tT,tT,tT,tT,fF,fF,fF,fF,fF,fF,fF,fF,fF,fF,fF]) rfl (by kernel_rfl) rfl (fun _ _ _ h => h) rfl hA (by decide) (by decide) rfl (fun _ => hS) (fun a w' hA => run_move (hA.ev rfl)) ?_; clear hA; intro a hA
                  refine bsplit (b := (decide (t6995 ≥ 8))) (fun hb7109 => ?_) (fun hb7109 => ?_)
                  · replace H7098 := ite_t hb7109 H7098
                    have hA := hA.re (t := 45) rfl (congrArg Value.bool hb7109)
                    refine d_takegf (i := 17) (L' := #[tT,tT,tT,tT,tT,tT,tT,tT,tT,tT,tT,tT,tT,tT,tT,tT,tT,tT,fF,fF,fF,fF,fF,fF,fF,fF,fF,fF]) rfl (by kernel_rfl) rfl (fun _ _ _ h => h) rfl hA (by decide) (by decide) rfl (fun _ => hS) (fun a w' hA => run_move (hA.ev rfl)) ?_; clear hA; intro a hA
                    refine d_takegf (i := 18) (L' := #[tT,tT,tT,tT,tT,tT,tT,tT,tT,tT,tT,tT,tT,tT,tT,tT,tT,tT,tT,fF,fF,fF,fF,fF,fF,fF,fF,fF]) rfl (by kernel_rfl) rfl (fun _ _ _ h => h) rfl hA (by decide) (by decide) rfl (fun _ => hS) (fun a w' hA => run_move (hA.ev rfl)) ?_; clear hA; intro a hA
                    refine d_takegf (i := 19) (L' := #[tT,tT,tT,tT,tT,tT,tT,tT,tT,tT,tT,tT,tT,tT,tT,tT,tT,tT,tT,tT,fF,fF,fF,fF,fF,fF,fF,fF]) rfl (by kernel_rfl) rfl (fun _ _ _ h => h) rfl hA (by decide) (by decide) rfl (fun _ => hS) (fun a w' hA => run_bin (hA.ev rfl) (hA.ev rfl) (bin_sub _ _ _ _)) ?_; clear hA; intro a hA
                    obtain ⟨⟨hi7110, hj7111⟩, H7098⟩ := ite_some H7098
                    obtain ⟨ad7112, hq7113, hat7114⟩ := Row.elem' (p := pPlace) (hM.ro hr0_1) (Eq.refl b_0.Heard.length) Place.z (IntKind.i64.wrap (t6995 - 8)) hi7110 hj7111
                    refine d_takegf (i := 20) (L' := #[tT,tT,tT,tT,tT,tT,tT,tT,tT,tT,tT,tT,tT,tT,tT,tT,tT,tT,tT,tT,tT,fF,fF,fF,fF,fF,fF,fF]) rfl (by kernel_rfl) rfl (fun _ _ _ h => h) rfl hA (by decide) (by decide) rfl (fun _ => hS) (fun a w' hA => run_idx Try.underlying39 Try.sizeOf70 (hA.ev rfl) hq7113 (hA.ev rfl) hi7110 hj7111) ?_; clear hA; intro a hA
                    refine d_takegf (i := 21) (L' := #[tT,tT,tT,tT,tT,tT,tT,tT,tT,tT,tT,tT,tT,tT,tT,tT,tT,tT,tT,tT,tT,tT,fF,fF,fF,fF,fF,fF]) rfl (by kernel_rfl) rfl (fun _ _ _ h => h) rfl hA (by decide) (by decide) rfl (fun _ => hS) (fun a w' hA => run_field' Try.underlying70 rfl rfl Try.sizeOf3 (by decide) (hA.ev rfl)) ?_; clear hA; intro a hA
                    refine d_takeg (i := 22) (L' := #[tT,tT,tT,tT,tT,tT,tT,tT,tT,tT,tT,tT,tT,tT,tT,tT,tT,tT,tT,tT,tT,tT,tT,fF,fF,fF,fF,fF]) rfl (by kernel_rfl) rfl (fun _ _ _ h => h) rfl hA (by decide) (by decide) rfl rfl hS (fun a w' hA hS' => run_ld (hA.ev rfl) (run_loadS Try.isAgg3 ((Place.at_Bucket (hat7114)).extB hS'))) ?_; clear hA; intro a hA
                    refine d_takegf (i := 23) (L' := #[tT,tT,tT,tT,tT,tT,tT,tT,tT,tT,tT,tT,tT,tT,tT,tT,tT,tT,tT,tT,tT,tT,tT,tT,fF,fF,fF,fF]) rfl (by kernel_rfl) rfl (fun _ _ _ h => h) rfl hA (by decide) (by decide) rfl (fun _ => hS) (fun a w' hA => run_field' Try.underlying70 rfl rfl Try.sizeOf3 (by decide) (hA.ev rfl)) ?_; clear hA; intro a hA
                    refine d_takeg (i := 24) (L' := #[tT,tT,tT,tT,tT,tT,tT,tT,tT,tT,tT,tT,tT,tT,tT,tT,tT,tT,tT,tT,tT,tT,tT,tT,tT,fF,fF,fF]) rfl (by kernel_rfl) rfl (fun _ _ _ h => h) rfl hA (by decide) (by decide) rfl rfl hS (fun a w' hA hS' => run_ld (hA.ev rfl) (run_loadS Try.isAgg3 ((Place.at_Bucket (hM.box (.s .z))).extB hS'))) ?_; clear hA; intro a hA
                    refine d_takegf (i := 25) (L' := #[tT,tT,tT,tT,tT,tT,tT,tT,tT,tT,tT,tT,tT,tT,tT,tT,tT,tT,tT,tT,tT,tT,tT,tT,tT,tT,fF,fF]) rfl (by kernel_rfl) rfl (fun _ _ _ h => h) rfl hA (by decide) (by decide) rfl (fun _ => hS) (fun a w' hA => run_bin (hA.ev rfl) (hA.ev rfl) (bin_eql _ _ _ _)) ?_; clear hA; intro a hA
                    refine d_takegf (i := 26) (L' := #[tT,tT,tT,tT,tT,tT,tT,tT,tT,tT,tT,tT,tT,tT,tT,tT,tT,tT,tT,tT,tT,tT,tT,tT,tT,tT,tT,fF]) rfl (by kernel_rfl) rfl (fun _ _ _ h => h) rfl hA (by decide) (by decide) rfl (fun _ => hS) (fun a w' hA => run_pick (hA.ev rfl) (fun _ => hA.ev rfl) (fun h => Bool.noConfusion h)) ?_; clear hA; intro a hA
                    refine d_takef (i := 27) (L' := #[tT,tT,tT,tT,tT,tT,tT,tT,tT,tT,tT,tT,tT,tT,tT,tT,tT,tT,tT,tT,tT,tT,tT,tT,tT,tT,tT,tT]) rfl (by kernel_rfl) rfl (fun _ _ _ h => h) hA (by decide) (fun _ => hS) (fun a w' hA => run_pick (hA.ev rfl) (fun h => Bool.noConfusion h) (fun _ => hA.ev rfl)) ?_; clear hA; intro a hA
                    refine d_done (by kernel_rfl) ?_
                    exact ⟨(((b_0.Heard.getD (IntKind.i64.wrap (t6995 - 8)).toNat Place.z).Bucket) == ((b_0.Heard.getD t6995.toNat Place.z).Bucket)), Option.some.inj H7098, (hM.sel [0] rfl (by decide)), (((((((hA.nil.cons (hA.get 56 _ rfl)).cons (hA.get 9 _ rfl)).cons (hA.get 8 _ rfl)).cons (hA.get 7 _ rfl)).cons (hA.get 5 _ rfl)).cons (hA.get 1 _ rfl)).cons (hA.get 0 _ rfl))⟩
                  · replace H7098 := ite_f hb7109 H7098
                    have hA := hA.re (t := 45) rfl (congrArg Value.bool hb7109)
                    refine d_skip (i := 17) (L' := #[tT,tT,tT,tT,tT,tT,tT,tT,tT,tT,tT,tT,tT,tT,tT,tT,tT,tT,fF,fF,fF,fF,fF,fF,fF,fF,fF,fF]) rfl (by kernel_rfl) rfl (fun _ _ _ h => h) rfl hA (by decide) (by decide) rfl rfl (fun _ => hS) ?_; clear hA; intro a hA
                    refine d_skip (i := 18) (L' := #[tT,tT,tT,tT,tT,tT,tT,tT,tT,tT,tT,tT,tT,tT,tT,tT,tT,tT,tT,fF,fF,fF,fF,fF,fF,fF,fF,fF]) rfl (by kernel_rfl) rfl (fun _ _ _ h => h) rfl hA (by decide) (by decide) rfl rfl (fun _ => hS) ?_; clear hA; intro a hA
                    refine d_skip (i := 19) (L' := #[tT,tT,tT,tT,tT,tT,tT,tT,tT,tT,tT,tT,tT,tT,tT,tT,tT,tT,tT,tT,fF,fF,fF,fF,fF,fF,fF,fF]) rfl (by kernel_rfl) rfl (fun _ _ _ h => h) rfl hA (by decide) (by decide) rfl rfl (fun _ => hS) ?_; clear hA; intro a hA
                    refine d_skip (i := 20) (L' := #[tT,tT,tT,tT,tT,tT,tT,tT,tT,tT,tT,tT,tT,tT,tT,tT,tT,tT,tT,tT,tT,fF,fF,fF,fF,fF,fF,fF]) rfl (by kernel_rfl) rfl (fun _ _ _ h => h) rfl hA (by decide) (by decide) rfl rfl (fun _ => hS) ?_; clear hA; intro a hA
                    refine d_skip (i := 21) (L' := #[tT,tT,tT,tT,tT,tT,tT,tT,tT,tT,tT,tT,tT,tT,tT,tT,tT,tT,tT,tT,tT,tT,fF,fF,fF,fF,fF,fF]) rfl (by kernel_rfl) rfl (fun _ _ _ h => h) rfl hA (by decide) (by decide) rfl rfl (fun _ => hS) ?_; clear hA; intro a hA
                    refine d_skip (i := 22) (L' := #[tT,tT,tT,tT,tT,tT,tT,tT,tT,tT,tT,tT,tT,tT,tT,tT,tT,tT,tT,tT,tT,tT,tT,fF,fF,fF,fF,fF]) rfl (by kernel_rfl) rfl (fun _ _ _ h => h) rfl hA (by decide) (by decide) rfl rfl (fun _ => hS) ?_; clear hA; intro a hA
                    refine d_skip (i := 23) (L' := #[tT,tT,tT,tT,tT,tT,tT,tT,tT,tT,tT,tT,tT,tT,tT,tT,tT,tT,tT,tT,tT,tT,tT,tT,fF,fF,fF,fF]) rfl (by kernel_rfl) rfl (fun _ _ _ h => h) rfl hA (by decide) (by decide) rfl rfl (fun _ => hS) ?_; clear hA; intro a hA
                    refine d_skip (i := 24) (L' := #[tT,tT,tT,tT,tT,tT,tT,tT,tT,tT,tT,tT,tT,tT,tT,tT,tT,tT,tT,tT,tT,tT,tT,tT,tT,fF,fF,fF]) rfl (by kernel_rfl) rfl (fun _ _ _ h => h) rfl hA (by decide) (by decide) rfl rfl (fun _ => hS) ?_; clear hA; intro a hA
                    refine d_skip (i := 25) (L' := #[tT,tT,tT,tT,tT,tT,tT,tT,tT,tT,tT,tT,tT,tT,tT,tT,tT,tT,tT,tT,tT,tT,tT,tT,tT,tT,fF,fF]) rfl (by kernel_rfl) rfl (fun _ _ _ h => h) rfl hA (by decide) (by decide) rfl rfl (fun _ => hS) ?_; clear hA; intro a hA
                    refine d_takegf (i := 26) (L' := #[tT,tT,tT,tT,tT,tT,tT,tT,tT,tT,tT,tT,tT,tT,tT,tT,tT,tT,tT,tT,tT,tT,tT,tT,tT,tT,tT,fF]) rfl (by kernel_rfl) rfl (fun _ _ _ h => h) rfl hA (by decide) (by decide) rfl (fun _ => hS) (fun a w' hA => run_pick (hA.ev rfl) (fun h => Bool.noConfusion h) (fun _ => hA.ev rfl)) ?_; clear hA; intro a hA
                    refine d_takef (i := 27) (L' := #[tT,tT,tT,tT,tT,tT,tT,tT,tT,tT,tT,tT,tT,tT,tT,tT,tT,tT,tT,tT,tT,tT,tT,tT,tT,tT,tT,tT]) rfl (by kernel_rfl) rfl (fun _ _ _ h => h) hA (by decide) (fun _ => hS) (fun a w' hA => run_pick (hA.ev rfl) (fun h => Bool.noConfusion h) (fun _ => hA.ev rfl)) ?_; clear hA; intro a hA
                    refine d_done (by kernel_rfl) ?_
                    exact ⟨false, Option.some.inj H7098, (hM.sel [0] rfl (by decide)), (((((((hA.nil.cons (hA.get 56 _ rfl)).cons (hA.get 9 _ rfl)).cons (hA.get 8 _ rfl)).cons (hA.get 7 _ rfl)).cons (hA.get 5 _ rfl)).cons (hA.get 1 _ rfl)).cons (hA.get 0 _ rfl))⟩
              · replace H7098 := ite_f hb7102 H7098
                have hA := hA.re (t := 31) rfl (congrArg Value.bool hb7102)
                refine d_skip (i := 3) (L' := #[tT,tT,tT,tT,fF,fF,fF,fF,fF,fF,fF,fF,fF,fF,fF,fF,fF,fF,fF,fF,fF,fF,fF,fF,fF,fF,fF,fF]) rfl (by kernel_rfl) rfl (fun _ _ _ h => h) rfl hA (by decide) (by decide) rfl rfl (fun _ => hS) ?_; clear hA; intro a hA
                refine d_skip (i := 4) (L' := #[tT,tT,tT,tT,tT,fF,fF,fF,fF,fF,fF,fF,fF,fF,fF,fF,fF,fF,fF,fF,fF,fF,fF,fF,fF,fF,fF,fF]) rfl (by kernel_rfl) rfl (fun _ _ _ h => h) rfl hA (by decide) (by decide) rfl rfl (fun _ => hS) ?_; clear hA; intro a hA
                refine d_skip (i := 5) (L' := #[tT,tT,tT,tT,tT,tT,fF,fF,fF,fF,fF,fF,fF,fF,fF,fF,fF,fF,fF,fF,fF,fF,fF,fF,fF,fF,fF,fF]) rfl (by kernel_rfl) rfl (fun _ _ _ h => h) rfl hA (by decide) (by decide) rfl rfl (fun _ => hS) ?_; clear hA; intro a hA
                refine d_skip (i := 6) (L' := #[tT,tT,tT,tT,tT,tT,tT,fF,fF,fF,fF,fF,fF,fF,fF,fF,fF,fF,fF,fF,fF,fF,fF,fF,fF,fF,fF,fF]) rfl (by kernel_rfl) rfl (fun _ _ _ h => h) rfl hA (by decide) (by decide) rfl rfl (fun _ => hS) ?_; clear hA; intro a hA
                refine d_skip (i := 7) (L' := #[tT,tT,tT,tT,tT,tT,tT,tT,fF,fF,fF,fF,fF,fF,fF,fF,fF,fF,fF,fF,fF,fF,fF,fF,fF,fF,fF,fF]) rfl (by kernel_rfl) rfl (fun _ _ _ h => h) rfl hA (by decide) (by decide) rfl rfl (fun _ => hS) ?_; clear hA; intro a hA
                refine d_skip (i := 8) (L' := #[tT,tT,tT,tT,tT,tT,tT,tT,tT,fF,fF,fF,fF,fF,fF,fF,fF,fF,fF,fF,fF,fF,fF,fF,fF,fF,fF,fF]) rfl (by kernel_rfl) rfl (fun _ _ _ h => h) rfl hA (by decide) (by decide) rfl rfl (fun _ => hS) ?_; clear hA; intro a hA
                refine d_skip (i := 9) (L' := #[tT,tT,tT,tT,tT,tT,tT,tT,tT,tT,fF,fF,fF,fF,fF,fF,fF,fF,fF,fF,fF,fF,fF,fF,fF,fF,fF,fF]) rfl (by kernel_rfl) rfl (fun _ _ _ h => h) rfl hA (by decide) (by decide) rfl rfl (fun _ => hS) ?_; clear hA; intro a hA
                refine d_skip (i := 10) (L' := #[tT,tT,tT,tT,tT,tT,tT,tT,tT,tT,tT,fF,fF,fF,fF,fF,fF,fF,fF,fF,fF,fF,fF,fF,fF,fF,fF,fF]) rfl (by kernel_rfl) rfl (fun _ _ _ h => h) rfl hA (by decide) (by decide) rfl rfl (fun _ => hS) ?_; clear hA; intro a hA
                refine d_skip (i := 11) (L' := #[tT,tT,tT,tT,tT,tT,tT,tT,tT,tT,tT,tT,fF,fF,fF,fF,fF,fF,fF,fF,fF,fF,fF,fF,fF,fF,fF,fF]) rfl (by kernel_rfl) rfl (fun _ _ _ h => h) rfl hA (by decide) (by decide) rfl rfl (fun _ => hS) ?_; clear hA; intro a hA
                refine d_takef (i := 12) (L' := #[tT,tT,tT,tT,tT,tT,tT,tT,tT,tT,tT,tT,tT,fF,fF,fF,fF,fF,fF,fF,fF,fF,fF,fF,fF,fF,fF,fF]) rfl (by kernel_rfl) rfl (fun _ _ _ h => h) hA (by decide) (fun _ => hS) (fun a w' hA => run_pick (hA.ev rfl) (fun h => Bool.noConfusion h) (fun _ => hA.ev rfl)) ?_; clear hA; intro a hA
                refine d_takef (i := 13) (L' := #[tT,tT,tT,tT,tT,tT,tT,tT,tT,tT,tT,tT,tT,tT,fF,fF,fF,fF,fF,fF,fF,fF,fF,fF,fF,fF,fF,fF]) rfl (by kernel_rfl) rfl (fun _ _ _ h => h) hA (by decide) (fun _ => hS) (fun a w' hA => run_move (hA.ev rfl)) ?_; clear hA; intro a hA
                refine d_takegf (i := 14) (L' := #[tT,tT,tT,tT,tT,tT,tT,tT,tT,tT,tT,tT,tT,tT,tT,fF,fF,fF,fF,fF,fF,fF,fF,fF,fF,fF,fF,fF]) rfl (by kernel_rfl) rfl (fun _ _ _ h => h) rfl hA (by decide) (by decide) rfl (fun _ => hS) (fun a w' hA => run_move (hA.ev rfl)) ?_; clear hA; intro a hA
                refine d_takegf (i := 15) (L' := #[tT,tT,tT,tT,tT,tT,tT,tT,tT,tT,tT,tT,tT,tT,tT,tT,fF,fF,fF,fF,fF,fF,fF,fF,fF,fF,fF,fF]) rfl (by kernel_rfl) rfl (fun _ _ _ h => h) rfl hA (by decide) (by decide) rfl (fun _ => hS) (fun a w' hA => run_bin (hA.ev rfl) (hA.ev rfl) (bin_geq _ _ _ _)) ?_; clear hA; intro a hA
                refine d_takegf (i := 16) (L' := #[tT,tT,tT,tT,tT,tT,tT,tT,tT,tT,tT,tT,tT,tT,tT,tT,tT,fF,fF,fF,fF,fF,fF,fF,fF,fF,fF,fF]) rfl (by kernel_rfl) rfl (fun _ _ _ h => h) rfl hA (by decide) (by decide) rfl (fun _ => hS) (fun a w' hA => run_move (hA.ev rfl)) ?_; clear hA; intro a hA
                refine bsplit (b := (decide (t6995 ≥ 8))) (fun hb7115 => ?_) (fun hb7115 => ?_)
                · replace H7098 := ite_t hb7115 H7098
                  have hA := hA.re (t := 45) rfl (congrArg Value.bool hb7115)
                  refine d_takegf (i := 17) (L' := #[tT,tT,tT,tT,tT,tT,tT,tT,tT,tT,tT,tT,tT,tT,tT,tT,tT,tT,fF,fF,fF,fF,fF,fF,fF,fF,fF,fF]) rfl (by kernel_rfl) rfl (fun _ _ _ h => h) rfl hA (by decide) (by decide) rfl (fun _ => hS) (fun a w' hA => run_move (hA.ev rfl)) ?_; clear hA; intro a hA
                  refine d_takegf (i := 18) (L' := #[tT,tT,tT,tT,tT,tT,tT,tT,tT,tT,tT,tT,tT,tT,tT,tT,tT,tT,tT,fF,fF,fF,fF,fF,fF,fF,fF,fF]) rfl (by kernel_rfl) rfl (fun _ _ _ h => h) rfl hA (by decide) (by decide) rfl (fun _ => hS) (fun a w' hA => run_move (hA.ev rfl)) ?_; clear hA; intro a hA
                  refine d_takegf (i := 19) (L' := #[tT,tT,tT,tT,tT,tT,tT,tT,tT,tT,tT,tT,tT,tT,tT,tT,tT,tT,tT,tT,fF,fF,fF,fF,fF,fF,fF,fF]) rfl (by kernel_rfl) rfl (fun _ _ _ h => h) rfl hA (by decide) (by decide) rfl (fun _ => hS) (fun a w' hA => run_bin (hA.ev rfl) (hA.ev rfl) (bin_sub _ _ _ _)) ?_; clear hA; intro a hA
                  obtain ⟨⟨hi7116, hj7117⟩, H7098⟩ := ite_some H7098
                  obtain ⟨ad7118, hq7119, hat7120⟩ := Row.elem' (p := pPlace) (hM.ro hr0_1) (Eq.refl b_0.Heard.length) Place.z (IntKind.i64.wrap (t6995 - 8)) hi7116 hj7117
                  refine d_takegf (i := 20) (L' := #[tT,tT,tT,tT,tT,tT,tT,tT,tT,tT,tT,tT,tT,tT,tT,tT,tT,tT,tT,tT,tT,fF,fF,fF,fF,fF,fF,fF]) rfl (by kernel_rfl) rfl (fun _ _ _ h => h) rfl hA (by decide) (by decide) rfl (fun _ => hS) (fun a w' hA => run_idx Try.underlying39 Try.sizeOf70 (hA.ev rfl) hq7119 (hA.ev rfl) hi7116 hj7117) ?_; clear hA; intro a hA
                  refine d_takegf (i := 21) (L' := #[tT,tT,tT,tT,tT,tT,tT,tT,tT,tT,tT,tT,tT,tT,tT,tT,tT,tT,tT,tT,tT,tT,fF,fF,fF,fF,fF,fF]) rfl (by kernel_rfl) rfl (fun _ _ _ h => h) rfl hA (by decide) (by decide) rfl (fun _ => hS) (fun a w' hA => run_field' Try.underlying70 rfl rfl Try.sizeOf3 (by decide) (hA.ev rfl)) ?_; clear hA; intro a hA
                  refine rebase hS ?_; clear hS; intro hS
                  refine d_takeg (i := 22) (L' := #[tT,tT,tT,tT,tT,tT,tT,tT,tT,tT,tT,tT,tT,tT,tT,tT,tT,tT,tT,tT,tT,tT,tT,fF,fF,fF,fF,fF]) rfl (by kernel_rfl) rfl (fun _ _ _ h => h) rfl hA (by decide) (by decide) rfl rfl hS (fun a w' hA hS' => run_ld (hA.ev rfl) (run_loadS Try.isAgg3 ((Place.at_Bucket (hat7120)).extB hS'))) ?_; clear hA; intro a hA
                  refine d_takegf (i := 23) (L' := #[tT,tT,tT,tT,tT,tT,tT,tT,tT,tT,tT,tT,tT,tT,tT,tT,tT,tT,tT,tT,tT,tT,tT,tT,fF,fF,fF,fF]) rfl (by kernel_rfl) rfl (fun _ _ _ h => h) rfl hA (by decide) (by decide) rfl (fun _ => hS) (fun a w' hA => run_field' Try.underlying70 rfl rfl Try.sizeOf3 (by decide) (hA.ev rfl)) ?_; clear hA; intro a hA
                  refine d_takeg (i := 24) (L' := #[tT,tT,tT,tT,tT,tT,tT,tT,tT,tT,tT,tT,tT,tT,tT,tT,tT,tT,tT,tT,tT,tT,tT,tT,tT,fF,fF,fF]) rfl (by kernel_rfl) rfl (fun _ _ _ h => h) rfl hA (by decide) (by decide) rfl rfl hS (fun a w' hA hS' => run_ld (hA.ev rfl) (run_loadS Try.isAgg3 ((Place.at_Bucket (hM.box (.s .z))).extB hS'))) ?_; clear hA; intro a hA
                  refine d_takegf (i := 25) (L' := #[tT,tT,tT,tT,tT,tT,tT,tT,tT,tT,tT,tT,tT,tT,tT,tT,tT,tT,tT,tT,tT,tT,tT,tT,tT,tT,fF,fF]) rfl (by kernel_rfl) rfl (fun _ _ _ h => h) rfl hA (by decide) (by decide) rfl (fun _ => hS) (fun a w' hA => run_bin (hA.ev rfl) (hA.ev rfl) (bin_eql _ _ _ _)) ?_; clear hA; intro a hA
                  refine d_takegf (i := 26) (L' := #[tT,tT,tT,tT,tT,tT,tT,tT,tT,tT,tT,tT,tT,tT,tT,tT,tT,tT,tT,tT,tT,tT,tT,tT,tT,tT,tT,fF]) rfl (by kernel_rfl) rfl (fun _ _ _ h => h) rfl hA (by decide) (by decide) rfl (fun _ => hS) (fun a w' hA => run_pick (hA.ev rfl) (fun _ => hA.ev rfl) (fun h => Bool.noConfusion h)) ?_; clear hA; intro a hA
                  refine d_takef (i := 27) (L' := #[tT,tT,tT,tT,tT,tT,tT,tT,tT,tT,tT,tT,tT,tT,tT,tT,tT,tT,tT,tT,tT,tT,tT,tT,tT,tT,tT,tT]) rfl (by kernel_rfl) rfl (fun _ _ _ h => h) hA (by decide) (fun _ => hS) (fun a w' hA => run_pick (hA.ev rfl) (fun h => Bool.noConfusion h) (fun _ => hA.ev rfl)) ?_; clear hA; intro a hA
                  refine d_done (by kernel_rfl) ?_
                  exact ⟨(((b_0.Heard.getD (IntKind.i64.wrap (t6995 - 8)).toNat Place.z).Bucket) == ((b_0.Heard.getD t6995.toNat Place.z).Bucket)), Option.some.inj H7098, (hM.sel [0] rfl (by decide)), (((((((hA.nil.cons (hA.get 56 _ rfl)).cons (hA.get 9 _ rfl)).cons (hA.get 8 _ rfl)).cons (hA.get 7 _ rfl)).cons (hA.get 5 _ rfl)).cons (hA.get 1 _ rfl)).cons (hA.get 0 _ rfl))⟩
                · replace H7098 := ite_f hb7115 H7098
                  have hA := hA.re (t := 45) rfl (congrArg Value.bool hb7115)
                  refine d_skip (i := 17) (L' := #[tT,tT,tT,tT,tT,tT,tT,tT,tT,tT,tT,tT,tT,tT,tT,tT,tT,tT,fF,fF,fF,fF,fF,fF,fF,fF,fF,fF]) rfl (by kernel_rfl) rfl (fun _ _ _ h => h) rfl hA (by decide) (by decide) rfl rfl (fun _ => hS) ?_; clear hA; intro a hA
                  refine d_skip (i := 18) (L' := #[tT,tT,tT,tT,tT,tT,tT,tT,tT,tT,tT,tT,tT,tT,tT,tT,tT,tT,tT,fF,fF,fF,fF,fF,fF,fF,fF,fF]) rfl (by kernel_rfl) rfl (fun _ _ _ h => h) rfl hA (by decide) (by decide) rfl rfl (fun _ => hS) ?_; clear hA; intro a hA
                  refine d_skip (i := 19) (L' := #[tT,tT,tT,tT,tT,tT,tT,tT,tT,tT,tT,tT,tT,tT,tT,tT,tT,tT,tT,tT,fF,fF,fF,fF,fF,fF,fF,fF]) rfl (by kernel_rfl) rfl (fun _ _ _ h => h) rfl hA (by decide) (by decide) rfl rfl (fun _ => hS) ?_; clear hA; intro a hA
                  refine d_skip (i := 20) (L' := #[tT,tT,tT,tT,tT,tT,tT,tT,tT,tT,tT,tT,tT,tT,tT,tT,tT,tT,tT,tT,tT,fF,fF,fF,fF,fF,fF,fF]) rfl (by kernel_rfl) rfl (fun _ _ _ h => h) rfl hA (by decide) (by decide) rfl rfl (fun _ => hS) ?_; clear hA; intro a hA
                  refine d_skip (i := 21) (L' := #[tT,tT,tT,tT,tT,tT,tT,tT,tT,tT,tT,tT,tT,tT,tT,tT,tT,tT,tT,tT,tT,tT,fF,fF,fF,fF,fF,fF]) rfl (by kernel_rfl) rfl (fun _ _ _ h => h) rfl hA (by decide) (by decide) rfl rfl (fun _ => hS) ?_; clear hA; intro a hA
                  refine d_skip (i := 22) (L' := #[tT,tT,tT,tT,tT,tT,tT,tT,tT,tT,tT,tT,tT,tT,tT,tT,tT,tT,tT,tT,tT,tT,tT,fF,fF,fF,fF,fF]) rfl (by kernel_rfl) rfl (fun _ _ _ h => h) rfl hA (by decide) (by decide) rfl rfl (fun _ => hS) ?_; clear hA; intro a hA
                  refine d_skip (i := 23) (L' := #[tT,tT,tT,tT,tT,tT,tT,tT,tT,tT,tT,tT,tT,tT,tT,tT,tT,tT,tT,tT,tT,tT,tT,tT,fF,fF,fF,fF]) rfl (by kernel_rfl) rfl (fun _ _ _ h => h) rfl hA (by decide) (by decide) rfl rfl (fun _ => hS) ?_; clear hA; intro a hA
                  refine d_skip (i := 24) (L' := #[tT,tT,tT,tT,tT,tT,tT,tT,tT,tT,tT,tT,tT,tT,tT,tT,tT,tT,tT,tT,tT,tT,tT,tT,tT,fF,fF,fF]) rfl (by kernel_rfl) rfl (fun _ _ _ h => h) rfl hA (by decide) (by decide) rfl rfl (fun _ => hS) ?_; clear hA; intro a hA
                  refine d_skip (i := 25) (L' := #[tT,tT,tT,tT,tT,tT,tT,tT,tT,tT,tT,tT,tT,tT,tT,tT,tT,tT,tT,tT,tT,tT,tT,tT,tT,tT,fF,fF]) rfl (by kernel_rfl) rfl (fun _ _ _ h => h) rfl hA (by decide) (by decide) rfl rfl (fun _ => hS) ?_; clear hA; intro a hA
                  refine d_takegf (i := 26) (L' := #[tT,tT,tT,tT,tT,tT,tT,tT,tT,tT,tT,tT,tT,tT,tT,tT,tT,tT,tT,tT,tT,tT,tT,tT,tT,tT,tT,fF]) rfl (by kernel_rfl) rfl (fun _ _ _ h => h) rfl hA (by decide) (by decide) rfl (fun _ => hS) (fun a w' hA => run_pick (hA.ev rfl) (fun h => Bool.noConfusion h) (fun _ => hA.ev rfl)) ?_; clear hA; intro a hA
                  refine d_takef (i := 27) (L' := #[tT,tT,tT,tT,tT,tT,tT,tT,tT,tT,tT,tT,tT,tT,tT,tT,tT,tT,tT,tT,tT,tT,tT,tT,tT,tT,tT,tT]) rfl (by kernel_rfl) rfl (fun _ _ _ h => h) hA (by decide) (fun _ => hS) (fun a w' hA => run_pick (hA.ev rfl) (fun h => Bool.noConfusion h) (fun _ => hA.ev rfl)) ?_; clear hA; intro a hA
                  refine d_done (by kernel_rfl) ?_
                  exact ⟨false, Option.some.inj H7098, (hM.sel [0] rfl (by decide)), (((((((hA.nil.cons (hA.get 56 _ rfl)).cons (hA.get 9 _ rfl)).cons (hA.get 8 _ rfl)).cons (hA.get 7 _ rfl)).cons (hA.get 5 _ rfl)).cons (hA.get 1 _ rfl)).cons (hA.get 0 _ rfl))⟩
            clear hM hA
            rintro a w7121 ⟨t7097, rfl, hM, hA⟩
            try dsimp only at H6997
            refine TN ?_
            refine tcond (b := t7097) hA rfl (fun hb7122 => ?_) (fun hb7122 => ?_)
            · replace H6997 := ite_t hb7122 H6997
              refine wp_seq ?_
              refine wp_region_lit ?_
              refine L1 (stv hA (by decide) (run_assign (hA.ev rfl)) ?_)
              clear hA; intro a hA
              refine LQ ?_
              refine TN ?_
              refine wp_ret ?_
              obtain rfl := Option.some.inj H6997
              dsimp only at H6648
              obtain rfl := Option.some.inj H6648
              refine TR ?_
              refine BR ?_
              refine TR ?_
              refine TR ?_
              refine BR ?_
              refine TR ?_
              refine TR ?_
              exact ret_post1 (fn := Try.f59) hA rfl rfl ⟨_, rfl, x7035, false, rfl, rfl, hM⟩
            · replace H6997 := ite_f hb7122 H6997
              refine wp_skip ?_
              refine TN ?_
              refine wp_seq ?_
              refine wp_region_lit ?_
              refine L1 (stv hA (by decide) (run_move (hA.ev rfl)) ?_)
              clear hA; intro a hA
              refine L1 (stv hA (by decide) (run_bin (hA.ev rfl) (hA.ev rfl) (bin_geq _ _ _ _)) ?_)
              clear hA; intro a hA
              refine LQ ?_
              refine TN ?_
              refine tcond (b := (decide (t6995 ≥ 512))) hA rfl (fun hb7123 => ?_) (fun hb7123 => ?_)
              · replace H6997 := ite_t hb7123 H6997
                refine wp_seq ?_
                refine wp_region_lit ?_
                refine L1 (stv hA (by decide) (run_assign (hA.ev rfl)) ?_)
                clear hA; intro a hA
                refine LQ ?_
                refine TN ?_
                refine wp_ret ?_
                obtain rfl := Option.some.inj H6997
                dsimp only at H6648
                obtain rfl := Option.some.inj H6648
                refine BR ?_
                refine TR ?_
                refine TR ?_
                refine BR ?_
                refine TR ?_
                refine TR ?_
                exact ret_post1 (fn := Try.f59) hA rfl rfl ⟨_, rfl, x7035, false, rfl, rfl, hM⟩
              · replace H6997 := ite_f hb7123 H6997
                refine wp_skip ?_
                refine BN ?_
                refine TN ?_
                refine wp_region_lit ?_
                refine L1 (stv hA (by decide) (run_bin (hA.ev rfl) (hA.ev rfl) (bin_add _ _ _ _)) ?_)
                clear hA; intro a hA
                refine L1 (stv hA (by decide) (run_move (hA.ev rfl)) ?_)
                clear hA; intro a hA
                refine LQ ?_
                exact ⟨_, Nat.lt_succ_self m6999, x7035, IntKind.i64.wrap (t6995 + 1), H6997, hM, (((((hA.nil.cons (hA.get 9 _ rfl)).cons (hA.get 8 _ rfl)).cons (hA.get 7 _ rfl)).cons (hA.get 1 _ rfl)).cons (hA.get 0 _ rfl))⟩
        · replace H6997 := ite_f hb7001 H6997
          refine wp_exit ?_
          refine TX ?_
          refine TX ?_
          refine BX ?_
          exact ⟨x6991, Option.some.inj H6997, hM, hA.nil⟩
      clear hM hA
      rintro a w7124 ⟨x6996, rfl, hM, hA⟩
      try dsimp only at H6648
      refine TN ?_
      refine wp_seq ?_
      refine wp_region_lit ?_
      refine L1 (stv hA (by decide) (run_assign (hA.ev rfl)) ?_)
      clear hA; intro a hA
      refine LQ ?_
      refine TN ?_
      refine wp_ret ?_
      obtain rfl := Option.some.inj H6648
      exact ret_post1 (fn := Try.f59) hA rfl rfl ⟨_, rfl, x6996, true, rfl, rfl, hM⟩
    rintro e w7125 ⟨_, rfl, ⟨x6645, t6647, rfl, rfl, hM⟩⟩
    refine ⟨_, rfl, ?_⟩; clear hA; intro a hA; try dsimp only at H6168
    refine L1 (stv hA (by decide) (run_not (hA.ev rfl)) ?_)
    clear hA; intro a hA
    refine L1 (stv hA (by decide) (run_move (hA.ev rfl)) ?_)
    clear hA; intro a hA
    refine bsplit (b := (!t6647)) (fun hb7126 => ?_) (fun hb7126 => ?_)
    · replace H6168 := ite_t hb7126 H6168
      have hA := hA.re (t := 12) rfl (congrArg Value.bool hb7126)
      refine L1 (gate_off rfl (by decide) rfl hA (by decide) rfl rfl ?_); clear hA; intro a hA
      refine L1 (gate_off rfl (by decide) rfl hA (by decide) rfl rfl ?_); clear hA; intro a hA
      refine L1 (gate_off rfl (by decide) rfl hA (by decide) rfl rfl ?_); clear hA; intro a hA
      refine L1 (gate_off rfl (by decide) rfl hA (by decide) rfl rfl ?_); clear hA; intro a hA
      refine L1 (gate_off rfl (by decide) rfl hA (by decide) rfl rfl ?_); clear hA; intro a hA
      refine L1 (stv hA (by decide) (run_pick (hA.ev rfl) (fun _ => hA.ev rfl) (fun h => Bool.noConfusion h)) ?_)
      clear hA; intro a hA
      refine LQ ?_
      exact ⟨x6645, true, Option.some.inj H6168, hM, ((hA.nil.cons (hA.get 18 _ rfl)).cons (hA.get 1 _ rfl))⟩
    · replace H6168 := ite_f hb7126 H6168
      have hA := hA.re (t := 12) rfl (congrArg Value.bool hb7126)
      refine L1 (gate_on rfl rfl hA (by decide) rfl (stv hA (by decide) (run_field' Try.underlying41 rfl rfl Try.sizeOf39 (by decide) (hA.ev rfl)) ?_))
      clear hA; intro a hA
      refine L1 (gate_on rfl rfl hA (by decide) rfl (stv hA (by decide) (run_ld (hA.ev rfl) (run_loadS Try.isAgg39 (At.seg (segs := [pHash.enc x6645, [(.slice A0_1 b_0.Heard.length c0_1)], [(.slice A0_2 b_0.Tried.length c0_2)]]) (hM.box .z) 2 rfl (by simp [Pl.len]; try rfl)))) ?_))
      clear hA; intro a hA
      refine L1 (gate_on rfl rfl hA (by decide) rfl (stv hA (by decide) (run_move (hA.ev rfl)) ?_))
      clear hA; intro a hA
      refine L1 (gate_on rfl rfl hA (by decide) rfl (inl_call Try.call59 hA [(.slice A0_2 b_0.Tried.length c0_2), (.func (.func 57) #[] #[(.pointer (some (⟨g4248, 0, none⟩)))])] rfl (by decide) ?_))
      obtain ⟨o7606, H7605, H6168⟩ := Option.bind_eq_some_iff.1 H6168
      refine (show Calls Try.prog 59 _ w7125 (fun e w => ∃ v, e = .returned v ∧ ∃ (x7602 : (Vector Int 32)) (t7604 : Bool), (x7602, t7604) = o7606 ∧ v = (.bool t7604) ∧ Mem F w0 w [.box g4248 41 (List.flatten [pHash.enc x7602, [(.slice A0_1 b_0.Heard.length c0_1)], [(.slice A0_2 b_0.Tried.length c0_2)]])]) from ?_).mono ?_
      · refine enterL (n := 60) [(.slice A0_2 b_0.Tried.length c0_2), (.func (.func 57) #[] #[(.pointer (some (⟨g4248, 0, none⟩)))])] Try.func59 rfl rfl rfl ?_
        clear hA; intro a hA
        refine wp_seq ?_
        refine wp_region_lit ?_
        refine L1 (stv hA (by decide) (run_assign (hA.ev rfl)) ?_)
        clear hA; intro a hA
        refine LQ ?_
        refine TN ?_
        refine wp_seq ?_
        refine wp_seq ?_
        refine wp_region_lit ?_
        refine L1 (stv hA (by decide) (run_move (hA.ev rfl)) ?_)
        clear hA; intro a hA
        refine L1 (stv hA (by decide) (run_len_slice Try.underlying39 (hA.ev rfl)) ?_)
        clear hA; intro a hA
        refine L1 (stv hA (by decide) (run_move (hA.ev rfl)) ?_)
        clear hA; intro a hA
        refine LQ ?_
        refine TN ?_
        obtain ⟨o7955, H7954, H7605⟩ := Option.bind_eq_some_iff.1 H7605
        refine cutC (fun a w => ∃ (x7953 : (Vector Int 32)), (.go x7953) = o7955 ∧ Mem F w0 w [.box g4248 41 (List.flatten [pHash.enc x7953, [(.slice A0_1 b_0.Heard.length c0_1)], [(.slice A0_2 b_0.Tried.length c0_2)]])] ∧ Has 60 [] a) ?_ ?_
        · refine wp_block ?_
          refine wp_loop_ghost (fun m a w => ∃ (x7948 : (Vector Int 32)) (t7952 : Int), addrbook_Sound.l1 b_0 m x7948 t7952 = some o7955 ∧ Mem F w0 w [.box g4248 41 (List.flatten [pHash.enc x7948, [(.slice A0_1 b_0.Heard.length c0_1)], [(.slice A0_2 b_0.Tried.length c0_2)]])] ∧ Has 60 [(0, (.slice A0_2 b_0.Tried.length c0_2)), (1, (.func (.func 57) #[] #[(.pointer (some (⟨g4248, 0, none⟩)))])), (7, (.slice A0_2 b_0.Tried.length c0_2)), (8, (.int .i64 ((b_0.Tried.length : Nat) : Int))), (9, (.int .i64 t7952))] a) k ⟨x6645, 0, H7954, hM, (((((hA.nil.cons (hA.get 9 _ rfl)).cons (hA.get 8 _ rfl)).cons (hA.get 7 _ rfl)).cons (hA.get 1 _ rfl)).cons (hA.get 0 _ rfl))⟩ ?_
          clear hM hA; rintro m7956 a w7957 ⟨x7948, t7952, H7954, hM, hA⟩
          cases m7956 with
          | zero => exact absurd H7954 (by simp [addrbook_Sound.l1])
          | succ m7956 =>
          rw [addrbook_Sound.l1] at H7954
          refine wp_seq ?_
          refine wp_region_lit ?_
          refine L1 (stv hA (by decide) (run_bin (hA.ev rfl) (hA.ev rfl) (bin_lss _ _ _ _)) ?_)
          clear hA; intro a hA
          refine LQ ?_
          refine TN ?_
          refine wp_seq ?_
          refine tcond (b := (decide (t7952 < ((b_0.Tried.length : Nat) : Int)))) hA rfl (fun hb7958 => ?_) (fun hb7958 => ?_)
          · replace H7954 := ite_t hb7958 H7954
            refine wp_skip ?_
            refine TN ?_
            refine wp_seq ?_
            refine wp_block ?_
            refine wp_seq ?_
            refine wp_region_lit ?_
            refine L1 (stv hA (by decide) (run_move (hA.ev rfl)) ?_)
            clear hA; intro a hA
            obtain ⟨⟨hi7959, hj7960⟩, H7954⟩ := ite_some H7954
            obtain ⟨ad7961, hq7962, hat7963⟩ := Row.elem' (p := pPlace) (hM.ro hr0_2) (Eq.refl b_0.Tried.length) Place.z t7952 hi7959 hj7960
            refine L1 (stv hA (by decide) (run_idx Try.underlying39 Try.sizeOf70 (hA.ev rfl) hq7962 (hA.ev rfl) hi7959 hj7960) ?_)
            clear hA; intro a hA
            refine L1 (stv hA (by decide) (run_ld (hA.ev rfl) (run_loadP Try.isAgg70 Try.sizeOf70 hat7963)) ?_)
            clear hA; intro a hA
            refine L1 (e_alloc (cs := (pPlace.enc Place.z)) hM zero70 rfl hA (by decide) ?_)
            clear hM hA; intro w7965 g7964 hM hE  a hA
            refine L1 (stv hA (by decide) (run_assign (hA.ev rfl)) ?_)
            clear hA; intro a hA
            refine L1 (e_store (g := g7964) (off := 0) (cur := (pPlace.enc Place.z)) (cs' := (pPlace.enc (b_0.Tried.getD t7952.toNat Place.z))) hM .z Try.sizeOf70 hA rfl (by simp [add_mk]) rfl (agg_size _ _) (agg_one _ _) (Nat.le_of_ble_eq_true (enc_fitL _ _ rfl)) (spl_all (by first | rfl | (simp [Value.cells, Pl.len]; done) | (simp [Value.cells, Pl.len]; rfl))) ?_)
            clear hM hA; intro w7967  hM hE  a hA
            refine LQ ?_
            refine TN ?_
            refine wp_seq ?_
            refine wp_seq ?_
            obtain ⟨o8001, H8000, H7954⟩ := Option.bind_eq_some_iff.1 H7954
            refine cutC (fun a w => ∃ (x7992 : (Vector Int 32)) (t7999 : Bool), (x7992, t7999) = o8001 ∧ Mem F w0 w [.box g4248 41 (List.flatten [pHash.enc x7992, [(.slice A0_1 b_0.Heard.length c0_1)], [(.slice A0_2 b_0.Tried.length c0_2)]]), .box g7964 70 (pPlace.enc (b_0.Tried.getD t7952.toNat Place.z))] ∧ Has 60 [(0, (.slice A0_2 b_0.Tried.length c0_2)), (1, (.func (.func 57) #[] #[(.pointer (some (⟨g4248, 0, none⟩)))])), (5, (.int .i64 t7952)), (6, (.pointer (some (⟨g7964, 0, none⟩)))), (7, (.slice A0_2 b_0.Tried.length c0_2)), (8, (.int .i64 ((b_0.Tried.length : Nat) : Int))), (9, (.int .i64 t7952)), (28, (.bool t7999))] a) ?_ ?_
            · obtain ⟨r8003, H8004, H8000⟩ := Option.bind_eq_some_iff.1 H8000
              refine bsplit (b := (((b_0.Tried.getD t7952.toNat Place.z).Bucket) != r8003.1)) (fun hb8006 => ?_) (fun hb8006 => ?_)
              · replace H8000 := ite_t hb8006 H8000
                refine draw (fun w' => Below w7967.heap.size w7967 w') [4] rfl ?_
                intro w8007 hw hS; replace hM := hM.ext hS; clear hw
                refine d_takef (i := 0) (L' := #[tT,fF,fF,fF,fF,fF,fF,fF,fF,fF,fF,fF,fF,fF,fF]) rfl (by kernel_rfl) rfl (fun _ _ _ h => h) hA (by decide) (fun _ => hS) (fun a w' hA => run_field' Try.underlying70 rfl rfl Try.sizeOf3 (by decide) (hA.ev rfl)) ?_; clear hA; intro a hA
                refine d_takef (i := 2) (L' := #[tT,fF,tT,fF,fF,fF,fF,fF,fF,fF,fF,fF,fF,fF,fF]) rfl (by kernel_rfl) rfl (fun _ _ _ h => h) hA (by decide) (fun _ => hS) (fun a w' hA => run_move (hA.ev rfl)) ?_; clear hA; intro a hA
                refine rebase hS ?_; clear hS; intro hS
                refine d_take (i := 3) (L' := #[tT,fF,tT,tT,fF,fF,fF,fF,fF,fF,fF,fF,fF,fF,fF]) rfl (by kernel_rfl) rfl (fun _ _ _ h => h) hA (by decide) rfl hS (fun a w' hA hS' => run_ld (hA.ev rfl) (run_loadP Try.isAgg70 Try.sizeOf70 ((hM.box .z).extB hS'))) ?_; clear hA; intro a hA
                refine d_many (is := [1, 4]) (by kernel_rfl) (by decide) ⟨?_, ?_, trivial⟩
                · refine d_op (i := 1) (L' := #[tT,tT,tT,tT,fF,fF,fF,fF,fF,fF,fF,fF,fF,fF,fF]) rfl rfl (stv hA (by decide) (run_ld (hA.ev rfl) (run_loadS Try.isAgg3 (Place.at_Bucket (hM.box .z)))) ?_)
                  clear hA; intro a hA
                  refine ⟨fun _ => hS, ?_⟩
                  have hM := hM.sel [1, 0] rfl (by decide)
                  refine d_one (i := 4) (L' := #[tT,tT,tT,tT,tT,fF,fF,fF,fF,fF,fF,fF,fF,fF,fF]) (by kernel_rfl) rfl rfl (st_callv (caps := [(.pointer (some (⟨g4248, 0, none⟩)))]) Try.call57 hA rfl [(.agg (pPlace.enc (b_0.Tried.getD t7952.toNat Place.z)).toArray)] rfl (by decide) (addrbook_Sound_c2.calls _ _ (Book.mk x7948 b_0.Heard b_0.Tried) _ _ _ _ _ _ ((RoV.mk (hM.roC (Ms := [_]) hr0_1) (Eq.refl b_0.Heard.length) hc0_1)) ((RoV.mk (hM.roC (Ms := [_]) hr0_2) (Eq.refl b_0.Tried.length) hc0_2)) (hM.front (Ms := [_])) H8004) ?_)
                  clear hA; rintro _ w8008 ⟨rfl, hMc⟩ a hA
                  have hM := hM.call (Ms := [_]) hMc
                  clear hMc; simp only [List.cons_append, List.nil_append] at hM
                  refine ⟨fun h => absurd h (by decide), ?_⟩
                  refine d_takef (i := 5) (L' := #[tT,tT,tT,tT,tT,tT,fF,fF,fF,fF,fF,fF,fF,fF,fF]) rfl (by kernel_rfl) rfl (fun _ _ _ h => h) hA (by decide) (fun h => absurd h (by decide)) (fun a w' hA => run_bin (hA.ev rfl) (hA.ev rfl) (bin_neq _ _ _ _)) ?_; clear hA; intro a hA
                  refine d_takef (i := 6) (L' := #[tT,tT,tT,tT,tT,tT,tT,fF,fF,fF,fF,fF,fF,fF,fF]) rfl (by kernel_rfl) rfl (fun _ _ _ h => h) hA (by decide) (fun h => absurd h (by decide)) (fun a w' hA => run_move (hA.ev rfl)) ?_; clear hA; intro a hA
                  replace hA := hA.re (t := 20) rfl (congrArg Value.bool hb8006)
                  refine d_skip (i := 7) (L' := #[tT,tT,tT,tT,tT,tT,tT,tT,fF,fF,fF,fF,fF,fF,fF]) rfl (by kernel_rfl) rfl (fun _ _ _ h => h) rfl hA (by decide) (by decide) rfl rfl (fun h => absurd h (by decide)) ?_; clear hA; intro a hA
                  refine d_skip (i := 8) (L' := #[tT,tT,tT,tT,tT,tT,tT,tT,tT,fF,fF,fF,fF,fF,fF]) rfl (by kernel_rfl) rfl (fun _ _ _ h => h) rfl hA (by decide) (by decide) rfl rfl (fun h => absurd h (by decide)) ?_; clear hA; intro a hA
                  refine d_skip (i := 9) (L' := #[tT,tT,tT,tT,tT,tT,tT,tT,tT,tT,fF,fF,fF,fF,fF]) rfl (by kernel_rfl) rfl (fun _ _ _ h => h) rfl hA (by decide) (by decide) rfl rfl (fun h => absurd h (by decide)) ?_; clear hA; intro a hA
                  refine d_skip (i := 10) (L' := #[tT,tT,tT,tT,tT,tT,tT,tT,tT,tT,tT,fF,fF,fF,fF]) rfl (by kernel_rfl) rfl (fun _ _ _ h => h) rfl hA (by decide) (by decide) rfl rfl (fun h => absurd h (by decide)) ?_; clear hA; intro a hA
                  refine d_one (i := 11) (L' := #[tT,tT,tT,tT,tT,tT,tT,tT,tT,tT,tT,tT,fF,fF,fF]) (by kernel_rfl) rfl rfl (gate_off rfl (by decide) rfl hA (by decide) rfl rfl ?_); clear hA; intro a hA
                  refine ⟨fun h => absurd h (by decide), ?_⟩
                  refine d_one (i := 12) (L' := #[tT,tT,tT,tT,tT,tT,tT,tT,tT,tT,tT,tT,tT,fF,fF]) (by kernel_rfl) rfl rfl (gate_off rfl (by decide) rfl hA (by decide) rfl rfl ?_); clear hA; intro a hA
                  refine ⟨fun h => absurd h (by decide), ?_⟩
                  refine d_skip (i := 13) (L' := #[tT,tT,tT,tT,tT,tT,tT,tT,tT,tT,tT,tT,tT,tT,fF]) rfl (by kernel_rfl) rfl (fun _ _ _ h => h) rfl hA (by decide) (by decide) rfl rfl (fun h => absurd h (by decide)) ?_; clear hA; intro a hA
                  refine d_takef (i := 14) (L' := #[tT,tT,tT,tT,tT,tT,tT,tT,tT,tT,tT,tT,tT,tT,tT]) rfl (by kernel_rfl) rfl (fun _ _ _ h => h) hA (by decide) (fun h => absurd h (by decide)) (fun a w' hA => run_pick (hA.ev rfl) (fun _ => hA.ev rfl) (fun h => Bool.noConfusion h)) ?_; clear hA; intro a hA
                  refine d_done (by kernel_rfl) ?_
                  exact ⟨r8003.2.Salt, true, Option.some.inj H8000, hM, ((((((((hA.nil.cons (hA.get 28 _ rfl)).cons (hA.get 9 _ rfl)).cons (hA.get 8 _ rfl)).cons (hA.get 7 _ rfl)).cons (hA.get 6 _ rfl)).cons (hA.get 5 _ rfl)).cons (hA.get 1 _ rfl)).cons (hA.get 0 _ rfl))⟩
                · have hM := hM.sel [1, 0] rfl (by decide)
                  refine d_op (i := 4) (L' := #[tT,fF,tT,tT,tT,fF,fF,fF,fF,fF,fF,fF,fF,fF,fF]) rfl rfl (st_callv (caps := [(.pointer (some (⟨g4248, 0, none⟩)))]) Try.call57 hA rfl [(.agg (pPlace.enc (b_0.Tried.getD t7952.toNat Place.z)).toArray)] rfl (by decide) (addrbook_Sound_c2.calls _ _ (Book.mk x7948 b_0.Heard b_0.Tried) _ _ _ _ _ _ ((RoV.mk (hM.roC (Ms := [_]) hr0_1) (Eq.refl b_0.Heard.length) hc0_1)) ((RoV.mk (hM.roC (Ms := [_]) hr0_2) (Eq.refl b_0.Tried.length) hc0_2)) (hM.front (Ms := [_])) H8004) ?_)
                  clear hA; rintro _ w8010 ⟨rfl, hMc⟩ a hA
                  have hM := hM.call (Ms := [_]) hMc
                  clear hMc; simp only [List.cons_append, List.nil_append] at hM
                  refine ⟨fun h => absurd h (by decide), ?_⟩
                  refine d_one (i := 1) (L' := #[tT,tT,tT,tT,tT,fF,fF,fF,fF,fF,fF,fF,fF,fF,fF]) (by kernel_rfl) rfl rfl (stv hA (by decide) (run_ld (hA.ev rfl) (run_loadS Try.isAgg3 (Place.at_Bucket (hM.box (.s .z))))) ?_)
                  clear hA; intro a hA
                  refine ⟨fun h => absurd h (by decide), ?_⟩
                  refine d_takef (i := 5) (L' := #[tT,tT,tT,tT,tT,tT,fF,fF,fF,fF,fF,fF,fF,fF,fF]) rfl (by kernel_rfl) rfl (fun _ _ _ h => h) hA (by decide) (fun h => absurd h (by decide)) (fun a w' hA => run_bin (hA.ev rfl) (hA.ev rfl) (bin_neq _ _ _ _)) ?_; clear hA; intro a hA
                  refine d_takef (i := 6) (L' := #[tT,tT,tT,tT,tT,tT,tT,fF,fF,fF,fF,fF,fF,fF,fF]) rfl (by kernel_rfl) rfl (fun _ _ _ h => h) hA (by decide) (fun h => absurd h (by decide)) (fun a w' hA => run_move (hA.ev rfl)) ?_; clear hA; intro a hA
                  replace hA := hA.re (t := 20) rfl (congrArg Value.bool hb8006)
                  refine d_skip (i := 7) (L' := #[tT,tT,tT,tT,tT,tT,tT,tT,fF,fF,fF,fF,fF,fF,fF]) rfl (by kernel_rfl) rfl (fun _ _ _ h => h) rfl hA (by decide) (by decide) rfl rfl (fun h => absurd h (by decide)) ?_; clear hA; intro a hA
                  refine d_skip (i := 8) (L' := #[tT,tT,tT,tT,tT,tT,tT,tT,tT,fF,fF,fF,fF,fF,fF]) rfl (by kernel_rfl) rfl (fun _ _ _ h => h) rfl hA (by decide) (by decide) rfl rfl (fun h => absurd h (by decide)) ?_; clear hA; intro a hA
                  refine d_skip (i := 9) (L' := #[tT,tT,tT,tT,tT,tT,tT,tT,tT,tT,fF,fF,fF,fF,fF]) rfl (by kernel_rfl) rfl (fun _ _ _ h => h) rfl hA (by decide) (by decide) rfl rfl (fun h => absurd h (by decide)) ?_; clear hA; intro a hA
                  refine d_skip (i := 10) (L' := #[tT,tT,tT,tT,tT,tT,tT,tT,tT,tT,tT,fF,fF,fF,fF]) rfl (by kernel_rfl) rfl (fun _ _ _ h => h) rfl hA (by decide) (by decide) rfl rfl (fun h => absurd h (by decide)) ?_; clear hA; intro a hA
                  refine d_one (i := 11) (L' := #[tT,tT,tT,tT,tT,tT,tT,tT,tT,tT,tT,tT,fF,fF,fF]) (by kernel_rfl) rfl rfl (gate_off rfl (by decide) rfl hA (by decide) rfl rfl ?_); clear hA; intro a hA
                  refine ⟨fun h => absurd h (by decide), ?_⟩
                  refine d_one (i := 12) (L' := #[tT,tT,tT,tT,tT,tT,tT,tT,tT,tT,tT,tT,tT,fF,fF]) (by kernel_rfl) rfl rfl (gate_off rfl (by decide) rfl hA (by decide) rfl rfl ?_); clear hA; intro a hA
                  refine ⟨fun h => absurd h (by decide), ?_⟩
                  refine d_skip (i := 13) (L' := #[tT,tT,tT,tT,tT,tT,tT,tT,tT,tT,tT,tT,tT,tT,fF]) rfl (by kernel_rfl) rfl (fun _ _ _ h => h) rfl hA (by decide) (by decide) rfl rfl (fun h => absurd h (by decide)) ?_; clear hA; intro a hA
                  refine d_takef (i := 14) (L' := #[tT,tT,tT,tT,tT,tT,tT,tT,tT,tT,tT,tT,tT,tT,tT]) rfl (by kernel_rfl) rfl (fun _ _ _ h => h) hA (by decide) (fun h => absurd h (by decide)) (fun a w' hA => run_pick (hA.ev rfl) (fun _ => hA.ev rfl) (fun h => Bool.noConfusion h)) ?_; clear hA; intro a hA
                  refine d_done (by kernel_rfl) ?_
                  exact ⟨r8003.2.Salt, true, Option.some.inj H8000, hM, ((((((((hA.nil.cons (hA.get 28 _ rfl)).cons (hA.get 9 _ rfl)).cons (hA.get 8 _ rfl)).cons (hA.get 7 _ rfl)).cons (hA.get 6 _ rfl)).cons (hA.get 5 _ rfl)).cons (hA.get 1 _ rfl)).cons (hA.get 0 _ rfl))⟩
              · replace H8000 := ite_f hb8006 H8000
                obtain ⟨⟨hi8012, hj8013⟩, H8000⟩ := ite_some H8000
                obtain ⟨r8014, H8015, H8000⟩ := Option.bind_eq_some_iff.1 H8000
                refine draw (fun w' => Below w7967.heap.size w7967 w') [4] rfl ?_
                intro w8017 hw hS; replace hM := hM.ext hS; clear hw
                refine d_takef (i := 0) (L' := #[tT,fF,fF,fF,fF,fF,fF,fF,fF,fF,fF,fF,fF,fF,fF]) rfl (by kernel_rfl) rfl (fun _ _ _ h => h) hA (by decide) (fun _ => hS) (fun a w' hA => run_field' Try.underlying70 rfl rfl Try.sizeOf3 (by decide) (hA.ev rfl)) ?_; clear hA; intro a hA
                refine d_takef (i := 2) (L' := #[tT,fF,tT,fF,fF,fF,fF,fF,fF,fF,fF,fF,fF,fF,fF]) rfl (by kernel_rfl) rfl (fun _ _ _ h => h) hA (by decide) (fun _ => hS) (fun a w' hA => run_move (hA.ev rfl)) ?_; clear hA; intro a hA
                refine rebase hS ?_; clear hS; intro hS
                refine d_take (i := 3) (L' := #[tT,fF,tT,tT,fF,fF,fF,fF,fF,fF,fF,fF,fF,fF,fF]) rfl (by kernel_rfl) rfl (fun _ _ _ h => h) hA (by decide) rfl hS (fun a w' hA hS' => run_ld (hA.ev rfl) (run_loadP Try.isAgg70 Try.sizeOf70 ((hM.box .z).extB hS'))) ?_; clear hA; intro a hA
                refine d_many (is := [1, 4]) (by kernel_rfl) (by decide) ⟨?_, ?_, trivial⟩
                · refine d_op (i := 1) (L' := #[tT,tT,tT,tT,fF,fF,fF,fF,fF,fF,fF,fF,fF,fF,fF]) rfl rfl (stv hA (by decide) (run_ld (hA.ev rfl) (run_loadS Try.isAgg3 (Place.at_Bucket (hM.box .z)))) ?_)
                  clear hA; intro a hA
                  refine ⟨fun _ => hS, ?_⟩
                  have hM := hM.sel [1, 0] rfl (by decide)
                  refine d_one (i := 4) (L' := #[tT,tT,tT,tT,tT,fF,fF,fF,fF,fF,fF,fF,fF,fF,fF]) (by kernel_rfl) rfl rfl (st_callv (caps := [(.pointer (some (⟨g4248, 0, none⟩)))]) Try.call57 hA rfl [(.agg (pPlace.enc (b_0.Tried.getD t7952.toNat Place.z)).toArray)] rfl (by decide) (addrbook_Sound_c2.calls _ _ (Book.mk x7948 b_0.Heard b_0.Tried) _ _ _ _ _ _ ((RoV.mk (hM.roC (Ms := [_]) hr0_1) (Eq.refl b_0.Heard.length) hc0_1)) ((RoV.mk (hM.roC (Ms := [_]) hr0_2) (Eq.refl b_0.Tried.length) hc0_2)) (hM.front (Ms := [_])) H8004) ?_)
                  clear hA; rintro _ w8018 ⟨rfl, hMc⟩ a hA
                  have hM := hM.call (Ms := [_]) hMc
                  clear hMc; simp only [List.cons_append, List.nil_append] at hM
                  refine ⟨fun h => absurd h (by decide), ?_⟩
                  refine d_takef (i := 5) (L' := #[tT,tT,tT,tT,tT,tT,fF,fF,fF,fF,fF,fF,fF,fF,fF]) rfl (by kernel_rfl) rfl (fun _ _ _ h => h) hA (by decide) (fun h => absurd h (by decide)) (fun a w' hA => run_bin (hA.ev rfl) (hA.ev rfl) (bin_neq _ _ _ _)) ?_; clear hA; intro a hA
                  refine d_takef (i := 6) (L' := #[tT,tT,tT,tT,tT,tT,tT,fF,fF,fF,fF,fF,fF,fF,fF]) rfl (by kernel_rfl) rfl (fun _ _ _ h => h) hA (by decide) (fun h => absurd h (by decide)) (fun a w' hA => run_move (hA.ev rfl)) ?_; clear hA; intro a hA
                  replace hA := hA.re (t := 20) rfl (congrArg Value.bool hb8006)
                  refine d_takegf (i := 7) (L' := #[tT,tT,tT,tT,tT,tT,tT,tT,fF,fF,fF,fF,fF,fF,fF]) rfl (by kernel_rfl) rfl (fun _ _ _ h => h) rfl hA (by decide) (by decide) rfl (fun h => absurd h (by decide)) (fun a w' hA => run_move (hA.ev rfl)) ?_; clear hA; intro a hA
                  refine d_takegf (i := 8) (L' := #[tT,tT,tT,tT,tT,tT,tT,tT,tT,fF,fF,fF,fF,fF,fF]) rfl (by kernel_rfl) rfl (fun _ _ _ h => h) rfl hA (by decide) (by decide) rfl (fun h => absurd h (by decide)) (fun a w' hA => run_move (hA.ev rfl)) ?_; clear hA; intro a hA
                  refine d_takegf (i := 9) (L' := #[tT,tT,tT,tT,tT,tT,tT,tT,tT,tT,fF,fF,fF,fF,fF]) rfl (by kernel_rfl) rfl (fun _ _ _ h => h) rfl hA (by decide) (by decide) rfl (fun h => absurd h (by decide)) (fun a w' hA => run_hi Try.underlying39 Try.sizeOf70 hc0_2 hi8012 hj8013 (hA.ev rfl) (hA.ev rfl)) ?_; clear hA; intro a hA
                  refine d_takegf (i := 10) (L' := #[tT,tT,tT,tT,tT,tT,tT,tT,tT,tT,tT,fF,fF,fF,fF]) rfl (by kernel_rfl) rfl (fun _ _ _ h => h) rfl hA (by decide) (by decide) rfl (fun h => absurd h (by decide)) (fun a w' hA => run_field' Try.underlying70 rfl rfl Try.sizeOf46 (by decide) (hA.ev rfl)) ?_; clear hA; intro a hA
                  refine d_one (i := 11) (L' := #[tT,tT,tT,tT,tT,tT,tT,tT,tT,tT,tT,tT,fF,fF,fF]) (by kernel_rfl) rfl rfl (gate_on rfl rfl hA (by decide) rfl (stv hA (by decide) (run_ld (hA.ev rfl) (run_loadP Try.isAgg46 Try.sizeOf46 (Place.at_Addr_ (hM.box (.s .z))))) ?_))
                  clear hA; intro a hA
                  refine ⟨fun h => absurd h (by decide), ?_⟩
                  refine d_one (i := 12) (L' := #[tT,tT,tT,tT,tT,tT,tT,tT,tT,tT,tT,tT,tT,fF,fF]) (by kernel_rfl) rfl rfl (gate_on rfl rfl hA (by decide) rfl (st_call Try.call62 hA [(.slice A0_2 t7952.toNat c0_2), (.agg (pNAddr.enc ((b_0.Tried.getD t7952.toNat Place.z).Addr_)).toArray)] rfl (by decide) (addrbook_find.calls _ _ _ _ _ _ _ ((RoV.mk (Ro.take (hM.roC (Ms := []) hr0_2) t7952.toNat) (len_take (Eq.refl b_0.Tried.length) (by omega)) (by have hh1 := hc0_2; omega))) (hM.front (Ms := [])) H8015) ?_))
                  clear hA; rintro _ w8020 ⟨rfl, hMc⟩ a hA
                  have hE := hMc.below; have hM := hM.call (Ms := []) hMc
                  clear hMc; simp only [List.cons_append, List.nil_append] at hM
                  refine ⟨fun h => absurd h (by decide), ?_⟩
                  refine d_takegf (i := 13) (L' := #[tT,tT,tT,tT,tT,tT,tT,tT,tT,tT,tT,tT,tT,tT,fF]) rfl (by kernel_rfl) rfl (fun _ _ _ h => h) rfl hA (by decide) (by decide) rfl (fun h => absurd h (by decide)) (fun a w' hA => run_bin (hA.ev rfl) (hA.ev rfl) (bin_geq _ _ _ _)) ?_; clear hA; intro a hA
                  refine d_takef (i := 14) (L' := #[tT,tT,tT,tT,tT,tT,tT,tT,tT,tT,tT,tT,tT,tT,tT]) rfl (by kernel_rfl) rfl (fun _ _ _ h => h) hA (by decide) (fun h => absurd h (by decide)) (fun a w' hA => run_pick (hA.ev rfl) (fun h => Bool.noConfusion h) (fun _ => hA.ev rfl)) ?_; clear hA; intro a hA
                  refine d_done (by kernel_rfl) ?_
                  exact ⟨r8003.2.Salt, (decide (r8014 ≥ 0)), Option.some.inj H8000, hM, ((((((((hA.nil.cons (hA.get 28 _ rfl)).cons (hA.get 9 _ rfl)).cons (hA.get 8 _ rfl)).cons (hA.get 7 _ rfl)).cons (hA.get 6 _ rfl)).cons (hA.get 5 _ rfl)).cons (hA.get 1 _ rfl)).cons (hA.get 0 _ rfl))⟩
                · have hM := hM.sel [1, 0] rfl (by decide)
                  refine d_op (i := 4) (L' := #[tT,fF,tT,tT,tT,fF,fF,fF,fF,fF,fF,fF,fF,fF,fF]) rfl rfl (st_callv (caps := [(.pointer (some (⟨g4248, 0, none⟩)))]) Try.call57 hA rfl [(.agg (pPlace.enc (b_0.Tried.getD t7952.toNat Place.z)).toArray)] rfl (by decide) (addrbook_Sound_c2.calls _ _ (Book.mk x7948 b_0.Heard b_0.Tried) _ _ _ _ _ _ ((RoV.mk (hM.roC (Ms := [_]) hr0_1) (Eq.refl b_0.Heard.length) hc0_1)) ((RoV.mk (hM.roC (Ms := [_]) hr0_2) (Eq.refl b_0.Tried.length) hc0_2)) (hM.front (Ms := [_])) H8004) ?_)
                  clear hA; rintro _ w8021 ⟨rfl, hMc⟩ a hA
                  have hM := hM.call (Ms := [_]) hMc
                  clear hMc; simp only [List.cons_append, List.nil_append] at hM
                  refine ⟨fun h => absurd h (by decide), ?_⟩
                  refine d_one (i := 1) (L' := #[tT,tT,tT,tT,tT,fF,fF,fF,fF,fF,fF,fF,fF,fF,fF]) (by kernel_rfl) rfl rfl (stv hA (by decide) (run_ld (hA.ev rfl) (run_loadS Try.isAgg3 (Place.at_Bucket (hM.box (.s .z))))) ?_)
                  clear hA; intro a hA
                  refine ⟨fun h => absurd h (by decide), ?_⟩
                  refine d_takef (i := 5) (L' := #[tT,tT,tT,tT,tT,tT,fF,fF,fF,fF,fF,fF,fF,fF,fF]) rfl (by kernel_rfl) rfl (fun _ _ _ h => h) hA (by decide) (fun h => absurd h (by decide)) (fun a w' hA => run_bin (hA.ev rfl) (hA.ev rfl) (bin_neq _ _ _ _)) ?_; clear hA; intro a hA
                  refine d_takef (i := 6) (L' := #[tT,tT,tT,tT,tT,tT,tT,fF,fF,fF,fF,fF,fF,fF,fF]) rfl (by kernel_rfl) rfl (fun _ _ _ h => h) hA (by decide) (fun h => absurd h (by decide)) (fun a w' hA => run_move (hA.ev rfl)) ?_; clear hA; intro a hA
                  replace hA := hA.re (t := 20) rfl (congrArg Value.bool hb8006)
                  refine d_takegf (i := 7) (L' := #[tT,tT,tT,tT,tT,tT,tT,tT,fF,fF,fF,fF,fF,fF,fF]) rfl (by kernel_rfl) rfl (fun _ _ _ h => h) rfl hA (by decide) (by decide) rfl (fun h => absurd h (by decide)) (fun a w' hA => run_move (hA.ev rfl)) ?_; clear hA; intro a hA
                  refine d_takegf (i := 8) (L' := #[tT,tT,tT,tT,tT,tT,tT,tT,tT,fF,fF,fF,fF,fF,fF]) rfl (by kernel_rfl) rfl (fun _ _ _ h => h) rfl hA (by decide) (by decide) rfl (fun h => absurd h (by decide)) (fun a w' hA => run_move (hA.ev rfl)) ?_; clear hA; intro a hA
                  refine d_takegf (i := 9) (L' := #[tT,tT,tT,tT,tT,tT,tT,tT,tT,tT,fF,fF,fF,fF,fF]) rfl (by kernel_rfl) rfl (fun _ _ _ h => h) rfl hA (by decide) (by decide) rfl (fun h => absurd h (by decide)) (fun a w' hA => run_hi Try.underlying39 Try.sizeOf70 hc0_2 hi8012 hj8013 (hA.ev rfl) (hA.ev rfl)) ?_; clear hA; intro a hA
                  refine d_takegf (i := 10) (L' := #[tT,tT,tT,tT,tT,tT,tT,tT,tT,tT,tT,fF,fF,fF,fF]) rfl (by kernel_rfl) rfl (fun _ _ _ h => h) rfl hA (by decide) (by decide) rfl (fun h => absurd h (by decide)) (fun a w' hA => run_field' Try.underlying70 rfl rfl Try.sizeOf46 (by decide) (hA.ev rfl)) ?_; clear hA; intro a hA
                  refine d_one (i := 11) (L' := #[tT,tT,tT,tT,tT,tT,tT,tT,tT,tT,tT,tT,fF,fF,fF]) (by kernel_rfl) rfl rfl (gate_on rfl rfl hA (by decide) rfl (stv hA (by decide) (run_ld (hA.ev rfl) (run_loadP Try.isAgg46 Try.sizeOf46 (Place.at_Addr_ (hM.box (.s .z))))) ?_))
                  clear hA; intro a hA
                  refine ⟨fun h => absurd h (by decide), ?_⟩
                  refine d_one (i := 12) (L' := #[tT,tT,tT,tT,tT,tT,tT,tT,tT,tT,tT,tT,tT,fF,fF]) (by kernel_rfl) rfl rfl (gate_on rfl rfl hA (by decide) rfl (st_call Try.call62 hA [(.slice A0_2 t7952.toNat c0_2), (.agg (pNAddr.enc ((b_0.Tried.getD t7952.toNat Place.z).Addr_)).toArray)] rfl (by decide) (addrbook_find.calls _ _ _ _ _ _ _ ((RoV.mk (Ro.take (hM.roC (Ms := []) hr0_2) t7952.toNat) (len_take (Eq.refl b_0.Tried.length) (by omega)) (by have hh1 := hc0_2; omega))) (hM.front (Ms := [])) H8015) ?_))
                  clear hA; rintro _ w8023 ⟨rfl, hMc⟩ a hA
                  have hE := hMc.below; have hM := hM.call (Ms := []) hMc
                  clear hMc; simp only [List.cons_append, List.nil_append] at hM
                  refine ⟨fun h => absurd h (by decide), ?_⟩
                  refine d_takegf (i := 13) (L' := #[tT,tT,tT,tT,tT,tT,tT,tT,tT,tT,tT,tT,tT,tT,fF]) rfl (by kernel_rfl) rfl (fun _ _ _ h => h) rfl hA (by decide) (by decide) rfl (fun h => absurd h (by decide)) (fun a w' hA => run_bin (hA.ev rfl) (hA.ev rfl) (bin_geq _ _ _ _)) ?_; clear hA; intro a hA
                  refine d_takef (i := 14) (L' := #[tT,tT,tT,tT,tT,tT,tT,tT,tT,tT,tT,tT,tT,tT,tT]) rfl (by kernel_rfl) rfl (fun _ _ _ h => h) hA (by decide) (fun h => absurd h (by decide)) (fun a w' hA => run_pick (hA.ev rfl) (fun h => Bool.noConfusion h) (fun _ => hA.ev rfl)) ?_; clear hA; intro a hA
                  refine d_done (by kernel_rfl) ?_
                  exact ⟨r8003.2.Salt, (decide (r8014 ≥ 0)), Option.some.inj H8000, hM, ((((((((hA.nil.cons (hA.get 28 _ rfl)).cons (hA.get 9 _ rfl)).cons (hA.get 8 _ rfl)).cons (hA.get 7 _ rfl)).cons (hA.get 6 _ rfl)).cons (hA.get 5 _ rfl)).cons (hA.get 1 _ rfl)).cons (hA.get 0 _ rfl))⟩
            clear hM hA
            rintro a w8024 ⟨x7992, t7999, rfl, hM, hA⟩
            try dsimp only at H7954
            refine TN ?_
            refine tcond (b := t7999) hA rfl (fun hb8025 => ?_) (fun hb8025 => ?_)
            · replace H7954 := ite_t hb8025 H7954
              refine wp_seq ?_
              refine wp_region_lit ?_
              refine L1 (stv hA (by decide) (run_assign (hA.ev rfl)) ?_)
              clear hA; intro a hA
              refine LQ ?_
              refine TN ?_
              refine wp_ret ?_
              obtain rfl := Option.some.inj H7954
              dsimp only at H7605
              obtain rfl := Option.some.inj H7605
              refine TR ?_
              refine BR ?_
              refine TR ?_
              refine TR ?_
              refine BR ?_
              refine TR ?_
              refine TR ?_
              exact ret_post1 (fn := Try.f59) hA rfl rfl ⟨_, rfl, x7992, false, rfl, rfl, (hM.sel [0] rfl (by decide))⟩
            · replace H7954 := ite_f hb8025 H7954
              refine wp_skip ?_
              refine TN ?_
              refine wp_seq ?_
              refine wp_seq ?_
              obtain ⟨o8056, H8055, H7954⟩ := Option.bind_eq_some_iff.1 H7954
              refine cutC (fun a w => ∃ (t8054 : Bool), t8054 = o8056 ∧ Mem F w0 w [.box g4248 41 (List.flatten [pHash.enc x7992, [(.slice A0_1 b_0.Heard.length c0_1)], [(.slice A0_2 b_0.Tried.length c0_2)]])] ∧ Has 60 [(0, (.slice A0_2 b_0.Tried.length c0_2)), (1, (.func (.func 57) #[] #[(.pointer (some (⟨g4248, 0, none⟩)))])), (5, (.int .i64 t7952)), (7, (.slice A0_2 b_0.Tried.length c0_2)), (8, (.int .i64 ((b_0.Tried.length : Nat) : Int))), (9, (.int .i64 t7952)), (56, (.bool t8054))] a) ?_ ?_
              · refine draw (fun w' => Below w8024.heap.size w8024 w') [] rfl ?_
                intro w8057 hw hS; replace hM := hM.ext hS; clear hw
                refine d_takef (i := 0) (L' := #[tT,fF,fF,fF,fF,fF,fF,fF,fF,fF,fF,fF,fF,fF,fF,fF,fF,fF,fF,fF,fF,fF,fF,fF,fF,fF,fF,fF]) rfl (by kernel_rfl) rfl (fun _ _ _ h => h) hA (by decide) (fun _ => hS) (fun a w' hA => run_move (hA.ev rfl)) ?_; clear hA; intro a hA
                refine d_takef (i := 1) (L' := #[tT,tT,fF,fF,fF,fF,fF,fF,fF,fF,fF,fF,fF,fF,fF,fF,fF,fF,fF,fF,fF,fF,fF,fF,fF,fF,fF,fF]) rfl (by kernel_rfl) rfl (fun _ _ _ h => h) hA (by decide) (fun _ => hS) (fun a w' hA => run_bin (hA.ev rfl) (hA.ev rfl) (bin_gtr _ _ _ _)) ?_; clear hA; intro a hA
                refine d_takef (i := 2) (L' := #[tT,tT,tT,fF,fF,fF,fF,fF,fF,fF,fF,fF,fF,fF,fF,fF,fF,fF,fF,fF,fF,fF,fF,fF,fF,fF,fF,fF]) rfl (by kernel_rfl) rfl (fun _ _ _ h => h) hA (by decide) (fun _ => hS) (fun a w' hA => run_move (hA.ev rfl)) ?_; clear hA; intro a hA
                refine bsplit (b := (decide (t7952 > 0))) (fun hb8059 => ?_) (fun hb8059 => ?_)
                · replace H8055 := ite_t hb8059 H8055
                  have hA := hA.re (t := 31) rfl (congrArg Value.bool hb8059)
                  refine d_takegf (i := 3) (L' := #[tT,tT,tT,tT,fF,fF,fF,fF,fF,fF,fF,fF,fF,fF,fF,fF,fF,fF,fF,fF,fF,fF,fF,fF,fF,fF,fF,fF]) rfl (by kernel_rfl) rfl (fun _ _ _ h => h) rfl hA (by decide) (by decide) rfl (fun _ => hS) (fun a w' hA => run_move (hA.ev rfl)) ?_; clear hA; intro a hA
                  refine d_takegf (i := 4) (L' := #[tT,tT,tT,tT,tT,fF,fF,fF,fF,fF,fF,fF,fF,fF,fF,fF,fF,fF,fF,fF,fF,fF,fF,fF,fF,fF,fF,fF]) rfl (by kernel_rfl) rfl (fun _ _ _ h => h) rfl hA (by decide) (by decide) rfl (fun _ => hS) (fun a w' hA => run_move (hA.ev rfl)) ?_; clear hA; intro a hA
                  refine d_takegf (i := 5) (L' := #[tT,tT,tT,tT,tT,tT,fF,fF,fF,fF,fF,fF,fF,fF,fF,fF,fF,fF,fF,fF,fF,fF,fF,fF,fF,fF,fF,fF]) rfl (by kernel_rfl) rfl (fun _ _ _ h => h) rfl hA (by decide) (by decide) rfl (fun _ => hS) (fun a w' hA => run_bin (hA.ev rfl) (hA.ev rfl) (bin_sub _ _ _ _)) ?_; clear hA; intro a hA
                  obtain ⟨⟨hi8060, hj8061⟩, H8055⟩ := ite_some H8055
                  obtain ⟨ad8062, hq8063, hat8064⟩ := Row.elem' (p := pPlace) (hM.ro hr0_2) (Eq.refl b_0.Tried.length) Place.z (IntKind.i64.wrap (t7952 - 1)) hi8060 hj8061
                  refine d_takegf (i := 6) (L' := #[tT,tT,tT,tT,tT,tT,tT,fF,fF,fF,fF,fF,fF,fF,fF,fF,fF,fF,fF,fF,fF,fF,fF,fF,fF,fF,fF,fF]) rfl (by kernel_rfl) rfl (fun _ _ _ h => h) rfl hA (by decide) (by decide) rfl (fun _ => hS) (fun a w' hA => run_idx Try.underlying39 Try.sizeOf70 (hA.ev rfl) hq8063 (hA.ev rfl) hi8060 hj8061) ?_; clear hA; intro a hA
                  refine d_takegf (i := 7) (L' := #[tT,tT,tT,tT,tT,tT,tT,tT,fF,fF,fF,fF,fF,fF,fF,fF,fF,fF,fF,fF,fF,fF,fF,fF,fF,fF,fF,fF]) rfl (by kernel_rfl) rfl (fun _ _ _ h => h) rfl hA (by decide) (by decide) rfl (fun _ => hS) (fun a w' hA => run_field' Try.underlying70 rfl rfl Try.sizeOf3 (by decide) (hA.ev rfl)) ?_; clear hA; intro a hA
                  refine rebase hS ?_; clear hS; intro hS
                  refine d_takeg (i := 8) (L' := #[tT,tT,tT,tT,tT,tT,tT,tT,tT,fF,fF,fF,fF,fF,fF,fF,fF,fF,fF,fF,fF,fF,fF,fF,fF,fF,fF,fF]) rfl (by kernel_rfl) rfl (fun _ _ _ h => h) rfl hA (by decide) (by decide) rfl rfl hS (fun a w' hA hS' => run_ld (hA.ev rfl) (run_loadS Try.isAgg3 ((Place.at_Bucket (hat8064)).extB hS'))) ?_; clear hA; intro a hA
                  refine d_takegf (i := 9) (L' := #[tT,tT,tT,tT,tT,tT,tT,tT,tT,tT,fF,fF,fF,fF,fF,fF,fF,fF,fF,fF,fF,fF,fF,fF,fF,fF,fF,fF]) rfl (by kernel_rfl) rfl (fun _ _ _ h => h) rfl hA (by decide) (by decide) rfl (fun _ => hS) (fun a w' hA => run_field' Try.underlying70 rfl rfl Try.sizeOf3 (by decide) (hA.ev rfl)) ?_; clear hA; intro a hA
                  refine d_takeg (i := 10) (L' := #[tT,tT,tT,tT,tT,tT,tT,tT,tT,tT,tT,fF,fF,fF,fF,fF,fF,fF,fF,fF,fF,fF,fF,fF,fF,fF,fF,fF]) rfl (by kernel_rfl) rfl (fun _ _ _ h => h) rfl hA (by decide) (by decide) rfl rfl hS (fun a w' hA hS' => run_ld (hA.ev rfl) (run_loadS Try.isAgg3 ((Place.at_Bucket (hM.box (.s .z))).extB hS'))) ?_; clear hA; intro a hA
                  refine d_takegf (i := 11) (L' := #[tT,tT,tT,tT,tT,tT,tT,tT,tT,tT,tT,tT,fF,fF,fF,fF,fF,fF,fF,fF,fF,fF,fF,fF,fF,fF,fF,fF]) rfl (by kernel_rfl) rfl (fun _ _ _ h => h) rfl hA (by decide) (by decide) rfl (fun _ => hS) (fun a w' hA => run_bin (hA.ev rfl) (hA.ev rfl) (bin_gtr _ _ _ _)) ?_; clear hA; intro a hA
                  refine d_takef (i := 12) (L' := #[tT,tT,tT,tT,tT,tT,tT,tT,tT,tT,tT,tT,tT,fF,fF,fF,fF,fF,fF,fF,fF,fF,fF,fF,fF,fF,fF,fF]) rfl (by kernel_rfl) rfl (fun _ _ _ h => h) hA (by decide) (fun _ => hS) (fun a w' hA => run_pick (hA.ev rfl) (fun _ => hA.ev rfl) (fun h => Bool.noConfusion h)) ?_; clear hA; intro a hA
                  refine d_takef (i := 13) (L' := #[tT,tT,tT,tT,tT,tT,tT,tT,tT,tT,tT,tT,tT,tT,fF,fF,fF,fF,fF,fF,fF,fF,fF,fF,fF,fF,fF,fF]) rfl (by kernel_rfl) rfl (fun _ _ _ h => h) hA (by decide) (fun _ => hS) (fun a w' hA => run_move (hA.ev rfl)) ?_; clear hA; intro a hA
                  refine bsplit (b := (decide (((b_0.Tried.getD (IntKind.i64.wrap (t7952 - 1)).toNat Place.z).Bucket) > ((b_0.Tried.getD t7952.toNat Place.z).Bucket)))) (fun hb8065 => ?_) (fun hb8065 => ?_)
                  · replace H8055 := ite_t hb8065 H8055
                    have hA := hA.re (t := 42) rfl (congrArg Value.bool hb8065)
                    refine d_skip (i := 14) (L' := #[tT,tT,tT,tT,tT,tT,tT,tT,tT,tT,tT,tT,tT,tT,tT,fF,fF,fF,fF,fF,fF,fF,fF,fF,fF,fF,fF,fF]) rfl (by kernel_rfl) rfl (fun _ _ _ h => h) rfl hA (by decide) (by decide) rfl rfl (fun _ => hS) ?_; clear hA; intro a hA
                    refine d_skip (i := 15) (L' := #[tT,tT,tT,tT,tT,tT,tT,tT,tT,tT,tT,tT,tT,tT,tT,tT,fF,fF,fF,fF,fF,fF,fF,fF,fF,fF,fF,fF]) rfl (by kernel_rfl) rfl (fun _ _ _ h => h) rfl hA (by decide) (by decide) rfl rfl (fun _ => hS) ?_; clear hA; intro a hA
                    refine d_skip (i := 16) (L' := #[tT,tT,tT,tT,tT,tT,tT,tT,tT,tT,tT,tT,tT,tT,tT,tT,tT,fF,fF,fF,fF,fF,fF,fF,fF,fF,fF,fF]) rfl (by kernel_rfl) rfl (fun _ _ _ h => h) rfl hA (by decide) (by decide) rfl rfl (fun _ => hS) ?_; clear hA; intro a hA
                    refine d_skipu (i := 17) (L' := #[tT,tT,tT,tT,tT,tT,tT,tT,tT,tT,tT,tT,tT,tT,tT,tT,tT,tT,fF,fF,fF,fF,fF,fF,fF,fF,fF,fF]) rfl (by kernel_rfl) rfl (fun _ _ _ h => h) rfl hA (by decide) (by decide) rfl (fun _ => hS) ?_; clear hA; intro a hA
                    refine d_skipu (i := 18) (L' := #[tT,tT,tT,tT,tT,tT,tT,tT,tT,tT,tT,tT,tT,tT,tT,tT,tT,tT,tT,fF,fF,fF,fF,fF,fF,fF,fF,fF]) rfl (by kernel_rfl) rfl (fun _ _ _ h => h) rfl hA (by decide) (by decide) rfl (fun _ => hS) ?_; clear hA; intro a hA
                    refine d_skipu (i := 19) (L' := #[tT,tT,tT,tT,tT,tT,tT,tT,tT,tT,tT,tT,tT,tT,tT,tT,tT,tT,tT,tT,fF,fF,fF,fF,fF,fF,fF,fF]) rfl (by kernel_rfl) rfl (fun _ _ _ h => h) rfl hA (by decide) (by decide) rfl (fun _ => hS) ?_; clear hA; intro a hA
                    refine d_skipu (i := 20) (L' := #[tT,tT,tT,tT,tT,tT,tT,tT,tT,tT,tT,tT,tT,tT,tT,tT,tT,tT,tT,tT,tT,fF,fF,fF,fF,fF,fF,fF]) rfl (by kernel_rfl) rfl (fun _ _ _ h => h) rfl hA (by decide) (by decide) rfl (fun _ => hS) ?_; clear hA; intro a hA
                    refine d_skipu (i := 21) (L' := #[tT,tT,tT,tT,tT,tT,tT,tT,tT,tT,tT,tT,tT,tT,tT,tT,tT,tT,tT,tT,tT,tT,fF,fF,fF,fF,fF,fF]) rfl (by kernel_rfl) rfl (fun _ _ _ h => h) rfl hA (by decide) (by decide) rfl (fun _ => hS) ?_; clear hA; intro a hA
                    refine d_skipu (i := 22) (L' := #[tT,tT,tT,tT,tT,tT,tT,tT,tT,tT,tT,tT,tT,tT,tT,tT,tT,tT,tT,tT,tT,tT,tT,fF,fF,fF,fF,fF]) rfl (by kernel_rfl) rfl (fun _ _ _ h => h) rfl hA (by decide) (by decide) rfl (fun _ => hS) ?_; clear hA; intro a hA
                    refine d_skipu (i := 23) (L' := #[tT,tT,tT,tT,tT,tT,tT,tT,tT,tT,tT,tT,tT,tT,tT,tT,tT,tT,tT,tT,tT,tT,tT,tT,fF,fF,fF,fF]) rfl (by kernel_rfl) rfl (fun _ _ _ h => h) rfl hA (by decide) (by decide) rfl (fun _ => hS) ?_; clear hA; intro a hA
                    refine d_skipu (i := 24) (L' := #[tT,tT,tT,tT,tT,tT,tT,tT,tT,tT,tT,tT,tT,tT,tT,tT,tT,tT,tT,tT,tT,tT,tT,tT,tT,fF,fF,fF]) rfl (by kernel_rfl) rfl (fun _ _ _ h => h) rfl hA (by decide) (by decide) rfl (fun _ => hS) ?_; clear hA; intro a hA
                    refine d_skipu (i := 25) (L' := #[tT,tT,tT,tT,tT,tT,tT,tT,tT,tT,tT,tT,tT,tT,tT,tT,tT,tT,tT,tT,tT,tT,tT,tT,tT,tT,fF,fF]) rfl (by kernel_rfl) rfl (fun _ _ _ h => h) rfl hA (by decide) (by decide) rfl (fun _ => hS) ?_; clear hA; intro a hA
                    refine d_skip (i := 26) (L' := #[tT,tT,tT,tT,tT,tT,tT,tT,tT,tT,tT,tT,tT,tT,tT,tT,tT,tT,tT,tT,tT,tT,tT,tT,tT,tT,tT,fF]) rfl (by kernel_rfl) rfl (fun _ _ _ h => h) rfl hA (by decide) (by decide) rfl rfl (fun _ => hS) ?_; clear hA; intro a hA
                    refine d_takef (i := 27) (L' := #[tT,tT,tT,tT,tT,tT,tT,tT,tT,tT,tT,tT,tT,tT,tT,tT,tT,tT,tT,tT,tT,tT,tT,tT,tT,tT,tT,tT]) rfl (by kernel_rfl) rfl (fun _ _ _ h => h) hA (by decide) (fun _ => hS) (fun a w' hA => run_pick (hA.ev rfl) (fun _ => hA.ev rfl) (fun h => Bool.noConfusion h)) ?_; clear hA; intro a hA
                    refine d_done (by kernel_rfl) ?_
                    exact ⟨true, Option.some.inj H8055, (hM.sel [0] rfl (by decide)), (((((((hA.nil.cons (hA.get 56 _ rfl)).cons (hA.get 9 _ rfl)).cons (hA.get 8 _ rfl)).cons (hA.get 7 _ rfl)).cons (hA.get 5 _ rfl)).cons (hA.get 1 _ rfl)).cons (hA.get 0 _ rfl))⟩
                  · replace H8055 := ite_f hb8065 H8055
                    have hA := hA.re (t := 42) rfl (congrArg Value.bool hb8065)
                    refine d_takegf (i := 14) (L' := #[tT,tT,tT,tT,tT,tT,tT,tT,tT,tT,tT,tT,tT,tT,tT,fF,fF,fF,fF,fF,fF,fF,fF,fF,fF,fF,fF,fF]) rfl (by kernel_rfl) rfl (fun _ _ _ h => h) rfl hA (by decide) (by decide) rfl (fun _ => hS) (fun a w' hA => run_move (hA.ev rfl)) ?_; clear hA; intro a hA
                    refine d_takegf (i := 15) (L' := #[tT,tT,tT,tT,tT,tT,tT,tT,tT,tT,tT,tT,tT,tT,tT,tT,fF,fF,fF,fF,fF,fF,fF,fF,fF,fF,fF,fF]) rfl (by kernel_rfl) rfl (fun _ _ _ h => h) rfl hA (by decide) (by decide) rfl (fun _ => hS) (fun a w' hA => run_bin (hA.ev rfl) (hA.ev rfl) (bin_geq _ _ _ _)) ?_; clear hA; intro a hA
                    refine d_takegf (i := 16) (L' := #[tT,tT,tT,tT,tT,tT,tT,tT,tT,tT,tT,tT,tT,tT,tT,tT,tT,fF,fF,fF,fF,fF,fF,fF,fF,fF,fF,fF]) rfl (by kernel_rfl) rfl (fun _ _ _ h => h) rfl hA (by decide) (by decide) rfl (fun _ => hS) (fun a w' hA => run_move (hA.ev rfl)) ?_; clear hA; intro a hA
                    refine bsplit (b := (decide (t7952 ≥ 8))) (fun hb8066 => ?_) (fun hb8066 => ?_)
                    · replace H8055 := ite_t hb8066 H8055
                      have hA := hA.re (t := 45) rfl (congrArg Value.bool hb8066)
                      refine d_takegf (i := 17) (L' := #[tT,tT,tT,tT,tT,tT,tT,tT,tT,tT,tT,tT,tT,tT,tT,tT,tT,tT,fF,fF,fF,fF,fF,fF,fF,fF,fF,fF]) rfl (by kernel_rfl) rfl (fun _ _ _ h => h) rfl hA (by decide) (by decide) rfl (fun _ => hS) (fun a w' hA => run_move (hA.ev rfl)) ?_; clear hA; intro a hA
                      refine d_takegf (i := 18) (L' := #[tT,tT,tT,tT,tT,tT,tT,tT,tT,tT,tT,tT,tT,tT,tT,tT,tT,tT,tT,fF,fF,fF,fF,fF,fF,fF,fF,fF]) rfl (by kernel_rfl) rfl (fun _ _ _ h => h) rfl hA (by decide) (by decide) rfl (fun _ => hS) (fun a w' hA => run_move (hA.ev rfl)) ?_; clear hA; intro a hA
                      refine d_takegf (i := 19) (L' := #[tT,tT,tT,tT,tT,tT,tT,tT,tT,tT,tT,tT,tT,tT,tT,tT,tT,tT,tT,tT,fF,fF,fF,fF,fF,fF,fF,fF]) rfl (by kernel_rfl) rfl (fun _ _ _ h => h) rfl hA (by decide) (by decide) rfl (fun _ => hS) (fun a w' hA => run_bin (hA.ev rfl) (hA.ev rfl) (bin_sub _ _ _ _)) ?_; clear hA; intro a hA
                      obtain ⟨⟨hi8067, hj8068⟩, H8055⟩ := ite_some H8055
                      obtain ⟨ad8069, hq8070, hat8071⟩ := Row.elem' (p := pPlace) (hM.ro hr0_2) (Eq.refl b_0.Tried.length) Place.z (IntKind.i64.wrap (t7952 - 8)) hi8067 hj8068
                      refine d_takegf (i := 20) (L' := #[tT,tT,tT,tT,tT,tT,tT,tT,tT,tT,tT,tT,tT,tT,tT,tT,tT,tT,tT,tT,tT,fF,fF,fF,fF,fF,fF,fF]) rfl (by kernel_rfl) rfl (fun _ _ _ h => h) rfl hA (by decide) (by decide) rfl (fun _ => hS) (fun a w' hA => run_idx Try.underlying39 Try.sizeOf70 (hA.ev rfl) hq8070 (hA.ev rfl) hi8067 hj8068) ?_; clear hA; intro a hA
                      refine d_takegf (i := 21) (L' := #[tT,tT,tT,tT,tT,tT,tT,tT,tT,tT,tT,tT,tT,tT,tT,tT,tT,tT,tT,tT,tT,tT,fF,fF,fF,fF,fF,fF]) rfl (by kernel_rfl) rfl (fun _ _ _ h => h) rfl hA (by decide) (by decide) rfl (fun _ => hS) (fun a w' hA => run_field' Try.underlying70 rfl rfl Try.sizeOf3 (by decide) (hA.ev rfl)) ?_; clear hA; intro a hA
                      refine d_takeg (i := 22) (L' := #[tT,tT,tT,tT,tT,tT,tT,tT,tT,tT,tT,tT,tT,tT,tT,tT,tT,tT,tT,tT,tT,tT,tT,fF,fF,fF,fF,fF]) rfl (by kernel_rfl) rfl (fun _ _ _ h => h) rfl hA (by decide) (by decide) rfl rfl hS (fun a w' hA hS' => run_ld (hA.ev rfl) (run_loadS Try.isAgg3 ((Place.at_Bucket (hat8071)).extB hS'))) ?_; clear hA; intro a hA
                      refine d_takegf (i := 23) (L' := #[tT,tT,tT,tT,tT,tT,tT,tT,tT,tT,tT,tT,tT,tT,tT,tT,tT,tT,tT,tT,tT,tT,tT,tT,fF,fF,fF,fF]) rfl (by kernel_rfl) rfl (fun _ _ _ h => h) rfl hA (by decide) (by decide) rfl (fun _ => hS) (fun a w' hA => run_field' Try.underlying70 rfl rfl Try.sizeOf3 (by decide) (hA.ev rfl)) ?_; clear hA; intro a hA
                      refine d_takeg (i := 24) (L' := #[tT,tT,tT,tT,tT,tT,tT,tT,tT,tT,tT,tT,tT,tT,tT,tT,tT,tT,tT,tT,tT,tT,tT,tT,tT,fF,fF,fF]) rfl (by kernel_rfl) rfl (fun _ _ _ h => h) rfl hA (by decide) (by decide) rfl rfl hS (fun a w' hA hS' => run_ld (hA.ev rfl) (run_loadS Try.isAgg3 ((Place.at_Bucket (hM.box (.s .z))).extB hS'))) ?_; clear hA; intro a hA
                      refine d_takegf (i := 25) (L' := #[tT,tT,tT,tT,tT,tT,tT,tT,tT,tT,tT,tT,tT,tT,tT,tT,tT,tT,tT,tT,tT,tT,tT,tT,tT,tT,fF,fF]) rfl (by kernel_rfl) rfl (fun _ _ _ h => h) rfl hA (by decide) (by decide) rfl (fun _ => hS) (fun a w' hA => run_bin (hA.ev rfl) (hA.ev rfl) (bin_eql _ _ _ _)) ?_; clear hA; intro a hA
                      refine d_takegf (i := 26) (L' := #[tT,tT,tT,tT,tT,tT,tT,tT,tT,tT,tT,tT,tT,tT,tT,tT,tT,tT,tT,tT,tT,tT,tT,tT,tT,tT,tT,fF]) rfl (by kernel_rfl) rfl (fun _ _ _ h => h) rfl hA (by decide) (by decide) rfl (fun _ => hS) (fun a w' hA => run_pick (hA.ev rfl) (fun _ => hA.ev rfl) (fun h => Bool.noConfusion h)) ?_; clear hA; intro a hA
                      refine d_takef (i := 27) (L' := #[tT,tT,tT,tT,tT,tT,tT,tT,tT,tT,tT,tT,tT,tT,tT,tT,tT,tT,tT,tT,tT,tT,tT,tT,tT,tT,tT,tT]) rfl (by kernel_rfl) rfl (fun _ _ _ h => h) hA (by decide) (fun _ => hS) (fun a w' hA => run_pick (hA.ev rfl) (fun h => Bool.noConfusion h) (fun _ => hA.ev rfl)) ?_; clear hA; intro a hA
                      refine d_done (by kernel_rfl) ?_
                      exact ⟨(((b_0.Tried.getD (IntKind.i64.wrap (t7952 - 8)).toNat Place.z).Bucket) == ((b_0.Tried.getD t7952.toNat Place.z).Bucket)), Option.some.inj H8055, (hM.sel [0] rfl (by decide)), (((((((hA.nil.cons (hA.get 56 _ rfl)).cons (hA.get 9 _ rfl)).cons (hA.get 8 _ rfl)).cons (hA.get 7 _ rfl)).cons (hA.get 5 _ rfl)).cons (hA.get 1 _ rfl)).cons (hA.get 0 _ rfl))⟩
                    · replace H8055 := ite_f hb8066 H8055
                      have hA := hA.re (t := 45) rfl (congrArg Value.bool hb8066)
                      refine d_skip (i := 17) (L' := #[tT,tT,tT,tT,tT,tT,tT,tT,tT,tT,tT,tT,tT,tT,tT,tT,tT,tT,fF,fF,fF,fF,fF,fF,fF,fF,fF,fF]) rfl (by kernel_rfl) rfl (fun _ _ _ h => h) rfl hA (by decide) (by decide) rfl rfl (fun _ => hS) ?_; clear hA; intro a hA
                      refine d_skip (i := 18) (L' := #[tT,tT,tT,tT,tT,tT,tT,tT,tT,tT,tT,tT,tT,tT,tT,tT,tT,tT,tT,fF,fF,fF,fF,fF,fF,fF,fF,fF]) rfl (by kernel_rfl) rfl (fun _ _ _ h => h) rfl hA (by decide) (by decide) rfl rfl (fun _ => hS) ?_; clear hA; intro a hA
                      refine d_skip (i := 19) (L' := #[tT,tT,tT,tT,tT,tT,tT,tT,tT,tT,tT,tT,tT,tT,tT,tT,tT,tT,tT,tT,fF,fF,fF,fF,fF,fF,fF,fF]) rfl (by kernel_rfl) rfl (fun _ _ _ h => h) rfl hA (by decide) (by decide) rfl rfl (fun _ => hS) ?_; clear hA; intro a hA
                      refine d_skip (i := 20) (L' := #[tT,tT,tT,tT,tT,tT,tT,tT,tT,tT,tT,tT,tT,tT,tT,tT,tT,tT,tT,tT,tT,fF,fF,fF,fF,fF,fF,fF]) rfl (by kernel_rfl) rfl (fun _ _ _ h => h) rfl hA (by decide) (by decide) rfl rfl (fun _ => hS) ?_; clear hA; intro a hA
                      refine d_skip (i := 21) (L' := #[tT,tT,tT,tT,tT,tT,tT,tT,tT,tT,tT,tT,tT,tT,tT,tT,tT,tT,tT,tT,tT,tT,fF,fF,fF,fF,fF,fF]) rfl (by kernel_rfl) rfl (fun _ _ _ h => h) rfl hA (by decide) (by decide) rfl rfl (fun _ => hS) ?_; clear hA; intro a hA
                      refine d_skip (i := 22) (L' := #[tT,tT,tT,tT,tT,tT,tT,tT,tT,tT,tT,tT,tT,tT,tT,tT,tT,tT,tT,tT,tT,tT,tT,fF,fF,fF,fF,fF]) rfl (by kernel_rfl) rfl (fun _ _ _ h => h) rfl hA (by decide) (by decide) rfl rfl (fun _ => hS) ?_; clear hA; intro a hA
                      refine d_skip (i := 23) (L' := #[tT,tT,tT,tT,tT,tT,tT,tT,tT,tT,tT,tT,tT,tT,tT,tT,tT,tT,tT,tT,tT,tT,tT,tT,fF,fF,fF,fF]) rfl (by kernel_rfl) rfl (fun _ _ _ h => h) rfl hA (by decide) (by decide) rfl rfl (fun _ => hS) ?_; clear hA; intro a hA
                      refine d_skip (i := 24) (L' := #[tT,tT,tT,tT,tT,tT,tT,tT,tT,tT,tT,tT,tT,tT,tT,tT,tT,tT,tT,tT,tT,tT,tT,tT,tT,fF,fF,fF]) rfl (by kernel_rfl) rfl (fun _ _ _ h => h) rfl hA (by decide) (by decide) rfl rfl (fun _ => hS) ?_; clear hA; intro a hA
                      refine d_skip (i := 25) (L' := #[tT,tT,tT,tT,tT,tT,tT,tT,tT,tT,tT,tT,tT,tT,tT,tT,tT,tT,tT,tT,tT,tT,tT,tT,tT,tT,fF,fF]) rfl (by kernel_rfl) rfl (fun _ _ _ h => h) rfl hA (by decide) (by decide) rfl rfl (fun _ => hS) ?_; clear hA; intro a hA
                      refine d_takegf (i := 26) (L' := #[tT,tT,tT,tT,tT,tT,tT,tT,tT,tT,tT,tT,tT,tT,tT,tT,tT,tT,tT,tT,tT,tT,tT,tT,tT,tT,tT,fF]) rfl (by kernel_rfl) rfl (fun _ _ _ h => h) rfl hA (by decide) (by decide) rfl (fun _ => hS) (fun a w' hA => run_pick (hA.ev rfl) (fun h => Bool.noConfusion h) (fun _ => hA.ev rfl)) ?_; clear hA; intro a hA
                      refine d_takef (i := 27) (L' := #[tT,tT,tT,tT,tT,tT,tT,tT,tT,tT,tT,tT,tT,tT,tT,tT,tT,tT,tT,tT,tT,tT,tT,tT,tT,tT,tT,tT]) rfl (by kernel_rfl) rfl (fun _ _ _ h => h) hA (by decide) (fun _ => hS) (fun a w' hA => run_pick (hA.ev rfl) (fun h => Bool.noConfusion h) (fun _ => hA.ev rfl)) ?_; clear hA; intro a hA
                      refine d_done (by kernel_rfl) ?_
                      exact ⟨false, Option.some.inj H8055, (hM.sel [0] rfl (by decide)), (((((((hA.nil.cons (hA.get 56 _ rfl)).cons (hA.get 9 _ rfl)).cons (hA.get 8 _ rfl)).cons (hA.get 7 _ rfl)).cons (hA.get 5 _ rfl)).cons (hA.get 1 _ rfl)).cons (hA.get 0 _ rfl))⟩
                · replace H8055 := ite_f hb8059 H8055
                  have hA := hA.re (t := 31) rfl (congrArg Value.bool hb8059)
                  refine d_skip (i := 3) (L' := #[tT,tT,tT,tT,fF,fF,fF,fF,fF,fF,fF,fF,fF,fF,fF,fF,fF,fF,fF,fF,fF,fF,fF,fF,fF,fF,fF,fF]) rfl (by kernel_rfl) rfl (fun _ _ _ h => h) rfl hA (by decide) (by decide) rfl rfl (fun _ => hS) ?_; clear hA; intro a hA
                  refine d_skip (i := 4) (L' := #[tT,tT,tT,tT,tT,fF,fF,fF,fF,fF,fF,fF,fF,fF,fF,fF,fF,fF,fF,fF,fF,fF,fF,fF,fF,fF,fF,fF]) rfl (by kernel_rfl) rfl (fun _ _ _ h => h) rfl hA (by decide) (by decide) rfl rfl (fun _ => hS) ?_; clear hA; intro a hA
                  refine d_skip (i := 5) (L' := #[tT,tT,tT,tT,tT,tT,fF,fF,fF,fF,fF,fF,fF,fF,fF,fF,fF,fF,fF,fF,fF,fF,fF,fF,fF,fF,fF,fF]) rfl (by kernel_rfl) rfl (fun _ _ _ h => h) rfl hA (by decide) (by decide) rfl rfl (fun _ => hS) ?_; clear hA; intro a hA
                  refine d_skip (i := 6) (L' := #[tT,tT,tT,tT,tT,tT,tT,fF,fF,fF,fF,fF,fF,fF,fF,fF,fF,fF,fF,fF,fF,fF,fF,fF,fF,fF,fF,fF]) rfl (by kernel_rfl) rfl (fun _ _ _ h => h) rfl hA (by decide) (by decide) rfl rfl (fun _ => hS) ?_; clear hA; intro a hA
                  refine d_skip (i := 7) (L' := #[tT,tT,tT,tT,tT,tT,tT,tT,fF,fF,fF,fF,fF,fF,fF,fF,fF,fF,fF,fF,fF,fF,fF,fF,fF,fF,fF,fF]) rfl (by kernel_rfl) rfl (fun _ _ _ h => h) rfl hA (by decide) (by decide) rfl rfl (fun _ => hS) ?_; clear hA; intro a hA
                  refine d_skip (i := 8) (L' := #[tT,tT,tT,tT,tT,tT,tT,tT,tT,fF,fF,fF,fF,fF,fF,fF,fF,fF,fF,fF,fF,fF,fF,fF,fF,fF,fF,fF]) rfl (by kernel_rfl) rfl (fun _ _ _ h => h) rfl hA (by decide) (by decide) rfl rfl (fun _ => hS) ?_; clear hA; intro a hA
                  refine d_skip (i := 9) (L' := #[tT,tT,tT,tT,tT,tT,tT,tT,tT,tT,fF,fF,fF,fF,fF,fF,fF,fF,fF,fF,fF,fF,fF,fF,fF,fF,fF,fF]) rfl (by kernel_rfl) rfl (fun _ _ _ h => h) rfl hA (by decide) (by decide) rfl rfl (fun _ => hS) ?_; clear hA; intro a hA
                  refine d_skip (i := 10) (L' := #[tT,tT,tT,tT,tT,tT,tT,tT,tT,tT,tT,fF,fF,fF,fF,fF,fF,fF,fF,fF,fF,fF,fF,fF,fF,fF,fF,fF]) rfl (by kernel_rfl) rfl (fun _ _ _ h => h) rfl hA (by decide) (by decide) rfl rfl (fun _ => hS) ?_; clear hA; intro a hA
                  refine d_skip (i := 11) (L' := #[tT,tT,tT,tT,tT,tT,tT,tT,tT,tT,tT,tT,fF,fF,fF,fF,fF,fF,fF,fF,fF,fF,fF,fF,fF,fF,fF,fF]) rfl (by kernel_rfl) rfl (fun _ _ _ h => h) rfl hA (by decide) (by decide) rfl rfl (fun _ => hS) ?_; clear hA; intro a hA
                  refine d_takef (i := 12) (L' := #[tT,tT,tT,tT,tT,tT,tT,tT,tT,tT,tT,tT,tT,fF,fF,fF,fF,fF,fF,fF,fF,fF,fF,fF,fF,fF,fF,fF]) rfl (by kernel_rfl) rfl (fun _ _ _ h => h) hA (by decide) (fun _ => hS) (fun a w' hA => run_pick (hA.ev rfl) (fun h => Bool.noConfusion h) (fun _ => hA.ev rfl)) ?_; clear hA; intro a hA
                  refine d_takef (i := 13) (L' := #[tT,tT,tT,tT,tT,tT,tT,tT,tT,tT,tT,tT,tT,tT,fF,fF,fF,fF,fF,fF,fF,fF,fF,fF,fF,fF,fF,fF]) rfl (by kernel_rfl) rfl (fun _ _ _ h => h) hA (by decide) (fun _ => hS) (fun a w' hA => run_move (hA.ev rfl)) ?_; clear hA; intro a hA
                  refine d_takegf (i := 14) (L' := #[tT,tT,tT,tT,tT,tT,tT,tT,tT,tT,tT,tT,tT,tT,tT,fF,fF,fF,fF,fF,fF,fF,fF,fF,fF,fF,fF,fF]) rfl (by kernel_rfl) rfl (fun _ _ _ h => h) rfl hA (by decide) (by decide) rfl (fun _ => hS) (fun a w' hA => run_move (hA.ev rfl)) ?_; clear hA; intro a hA
                  refine d_takegf (i := 15) (L' := #[tT,tT,tT,tT,tT,tT,tT,tT,tT,tT,tT,tT,tT,tT,tT,tT,fF,fF,fF,fF,fF,fF,fF,fF,fF,fF,fF,fF]) rfl (by kernel_rfl) rfl (fun _ _ _ h => h) rfl hA (by decide) (by decide) rfl (fun _ => hS) (fun a w' hA => run_bin (hA.ev rfl) (hA.ev rfl) (bin_geq _ _ _ _)) ?_; clear hA; intro a hA
                  refine d_takegf (i := 16) (L' := #[tT,tT,tT,tT,tT,tT,tT,tT,tT,tT,tT,tT,tT,tT,tT,tT,tT,fF,fF,fF,fF,fF,fF,fF,fF,fF,fF,fF]) rfl (by kernel_rfl) rfl (fun _ _ _ h => h) rfl hA (by decide) (by decide) rfl (fun _ => hS) (fun a w' hA => run_move (hA.ev rfl)) ?_; clear hA; intro a hA
                  refine bsplit (b := (decide (t7952 ≥ 8))) (fun hb8072 => ?_) (fun hb8072 => ?_)
                  · replace H8055 := ite_t hb8072 H8055
                    have hA := hA.re (t := 45) rfl (congrArg Value.bool hb8072)
                    refine d_takegf (i := 17) (L' := #[tT,tT,tT,tT,tT,tT,tT,tT,tT,tT,tT,tT,tT,tT,tT,tT,tT,tT,fF,fF,fF,fF,fF,fF,fF,fF,fF,fF]) rfl (by kernel_rfl) rfl (fun _ _ _ h => h) rfl hA (by decide) (by decide) rfl (fun _ => hS) (fun a w' hA => run_move (hA.ev rfl)) ?_; clear hA; intro a hA
                    refine d_takegf (i := 18) (L' := #[tT,tT,tT,tT,tT,tT,tT,tT,tT,tT,tT,tT,tT,tT,tT,tT,tT,tT,tT,fF,fF,fF,fF,fF,fF,fF,fF,fF]) rfl (by kernel_rfl) rfl (fun _ _ _ h => h) rfl hA (by decide) (by decide) rfl (fun _ => hS) (fun a w' hA => run_move (hA.ev rfl)) ?_; clear hA; intro a hA
                    refine d_takegf (i := 19) (L' := #[tT,tT,tT,tT,tT,tT,tT,tT,tT,tT,tT,tT,tT,tT,tT,tT,tT,tT,tT,tT,fF,fF,fF,fF,fF,fF,fF,fF]) rfl (by kernel_rfl) rfl (fun _ _ _ h => h) rfl hA (by decide) (by decide) rfl (fun _ => hS) (fun a w' hA => run_bin (hA.ev rfl) (hA.ev rfl) (bin_sub _ _ _ _)) ?_; clear hA; intro a hA
                    obtain ⟨⟨hi8073, hj8074⟩, H8055⟩ := ite_some H8055
                    obtain ⟨ad8075, hq8076, hat8077⟩ := Row.elem' (p := pPlace) (hM.ro hr0_2) (Eq.refl b_0.Tried.length) Place.z (IntKind.i64.wrap (t7952 - 8)) hi8073 hj8074
                    refine d_takegf (i := 20) (L' := #[tT,tT,tT,tT,tT,tT,tT,tT,tT,tT,tT,tT,tT,tT,tT,tT,tT,tT,tT,tT,tT,fF,fF,fF,fF,fF,fF,fF]) rfl (by kernel_rfl) rfl (fun _ _ _ h => h) rfl hA (by decide) (by decide) rfl (fun _ => hS) (fun a w' hA => run_idx Try.underlying39 Try.sizeOf70 (hA.ev rfl) hq8076 (hA.ev rfl) hi8073 hj8074) ?_; clear hA; intro a hA
                    refine d_takegf (i := 21) (L' := #[tT,tT,tT,tT,tT,tT,tT,tT,tT,tT,tT,tT,tT,tT,tT,tT,tT,tT,tT,tT,tT,tT,fF,fF,fF,fF,fF,fF]) rfl (by kernel_rfl) rfl (fun _ _ _ h => h) rfl hA (by decide) (by decide) rfl (fun _ => hS) (fun a w' hA => run_field' Try.underlying70 rfl rfl Try.sizeOf3 (by decide) (hA.ev rfl)) ?_; clear hA; intro a hA
                    refine rebase hS ?_; clear hS; intro hS
                    refine d_takeg (i := 22) (L' := #[tT,tT,tT,tT,tT,tT,tT,tT,tT,tT,tT,tT,tT,tT,tT,tT,tT,tT,tT,tT,tT,tT,tT,fF,fF,fF,fF,fF]) rfl (by kernel_rfl) rfl (fun _ _ _ h => h) rfl hA (by decide) (by decide) rfl rfl hS (fun a w' hA hS' => run_ld (hA.ev rfl) (run_loadS Try.isAgg3 ((Place.at_Bucket (hat8077)).extB hS'))) ?_; clear hA; intro a hA
                    refine d_takegf (i := 23) (L' := #[tT,tT,tT,tT,tT,tT,tT,tT,tT,tT,tT,tT,tT,tT,tT,tT,tT,tT,tT,tT,tT,tT,tT,tT,fF,fF,fF,fF]) rfl (by kernel_rfl) rfl (fun _ _ _ h => h) rfl hA (by decide) (by decide) rfl (fun _ => hS) (fun a w' hA => run_field' Try.underlying70 rfl rfl Try.sizeOf3 (by decide) (hA.ev rfl)) ?_; clear hA; intro a hA
                    refine d_takeg (i := 24) (L' := #[tT,tT,tT,tT,tT,tT,tT,tT,tT,tT,tT,tT,tT,tT,tT,tT,tT,tT,tT,tT,tT,tT,tT,tT,tT,fF,fF,fF]) rfl (by kernel_rfl) rfl (fun _ _ _ h => h) rfl hA (by decide) (by decide) rfl rfl hS (fun a w' hA hS' => run_ld (hA.ev rfl) (run_loadS Try.isAgg3 ((Place.at_Bucket (hM.box (.s .z))).extB hS'))) ?_; clear hA; intro a hA
                    refine d_takegf (i := 25) (L' := #[tT,tT,tT,tT,tT,tT,tT,tT,tT,tT,tT,tT,tT,tT,tT,tT,tT,tT,tT,tT,tT,tT,tT,tT,tT,tT,fF,fF]) rfl (by kernel_rfl) rfl (fun _ _ _ h => h) rfl hA (by decide) (by decide) rfl (fun _ => hS) (fun a w' hA => run_bin (hA.ev rfl) (hA.ev rfl) (bin_eql _ _ _ _)) ?_; clear hA; intro a hA
                    refine d_takegf (i := 26) (L' := #[tT,tT,tT,tT,tT,tT,tT,tT,tT,tT,tT,tT,tT,tT,tT,tT,tT,tT,tT,tT,tT,tT,tT,tT,tT,tT,tT,fF]) rfl (by kernel_rfl) rfl (fun _ _ _ h => h) rfl hA (by decide) (by decide) rfl (fun _ => hS) (fun a w' hA => run_pick (hA.ev rfl) (fun _ => hA.ev rfl) (fun h => Bool.noConfusion h)) ?_; clear hA; intro a hA
                    refine d_takef (i := 27) (L' := #[tT,tT,tT,tT,tT,tT,tT,tT,tT,tT,tT,tT,tT,tT,tT,tT,tT,tT,tT,tT,tT,tT,tT,tT,tT,tT,tT,tT]) rfl (by kernel_rfl) rfl (fun _ _ _ h => h) hA (by decide) (fun _ => hS) (fun a w' hA => run_pick (hA.ev rfl) (fun h => Bool.noConfusion h) (fun _ => hA.ev rfl)) ?_; clear hA; intro a hA
                    refine d_done (by kernel_rfl) ?_
                    exact ⟨(((b_0.Tried.getD (IntKind.i64.wrap (t7952 - 8)).toNat Place.z).Bucket) == ((b_0.Tried.getD t7952.toNat Place.z).Bucket)), Option.some.inj H8055, (hM.sel [0] rfl (by decide)), (((((((hA.nil.cons (hA.get 56 _ rfl)).cons (hA.get 9 _ rfl)).cons (hA.get 8 _ rfl)).cons (hA.get 7 _ rfl)).cons (hA.get 5 _ rfl)).cons (hA.get 1 _ rfl)).cons (hA.get 0 _ rfl))⟩
                  · replace H8055 := ite_f hb8072 H8055
                    have hA := hA.re (t := 45) rfl (congrArg Value.bool hb8072)
                    refine d_skip (i := 17) (L' := #[tT,tT,tT,tT,tT,tT,tT,tT,tT,tT,tT,tT,tT,tT,tT,tT,tT,tT,fF,fF,fF,fF,fF,fF,fF,fF,fF,fF]) rfl (by kernel_rfl) rfl (fun _ _ _ h => h) rfl hA (by decide) (by decide) rfl rfl (fun _ => hS) ?_; clear hA; intro a hA
                    refine d_skip (i := 18) (L' := #[tT,tT,tT,tT,tT,tT,tT,tT,tT,tT,tT,tT,tT,tT,tT,tT,tT,tT,tT,fF,fF,fF,fF,fF,fF,fF,fF,fF]) rfl (by kernel_rfl) rfl (fun _ _ _ h => h) rfl hA (by decide) (by decide) rfl rfl (fun _ => hS) ?_; clear hA; intro a hA
                    refine d_skip (i := 19) (L' := #[tT,tT,tT,tT,tT,tT,tT,tT,tT,tT,tT,tT,tT,tT,tT,tT,tT,tT,tT,tT,fF,fF,fF,fF,fF,fF,fF,fF]) rfl (by kernel_rfl) rfl (fun _ _ _ h => h) rfl hA (by decide) (by decide) rfl rfl (fun _ => hS) ?_; clear hA; intro a hA
                    refine d_skip (i := 20) (L' := #[tT,tT,tT,tT,tT,tT,tT,tT,tT,tT,tT,tT,tT,tT,tT,tT,tT,tT,tT,tT,tT,fF,fF,fF,fF,fF,fF,fF]) rfl (by kernel_rfl) rfl (fun _ _ _ h => h) rfl hA (by decide) (by decide) rfl rfl (fun _ => hS) ?_; clear hA; intro a hA
                    refine d_skip (i := 21) (L' := #[tT,tT,tT,tT,tT,tT,tT,tT,tT,tT,tT,tT,tT,tT,tT,tT,tT,tT,tT,tT,tT,tT,fF,fF,fF,fF,fF,fF]) rfl (by kernel_rfl) rfl (fun _ _ _ h => h) rfl hA (by decide) (by decide) rfl rfl (fun _ => hS) ?_; clear hA; intro a hA
                    refine d_skip (i := 22) (L' := #[tT,tT,tT,tT,tT,tT,tT,tT,tT,tT,tT,tT,tT,tT,tT,tT,tT,tT,tT,tT,tT,tT,tT,fF,fF,fF,fF,fF]) rfl (by kernel_rfl) rfl (fun _ _ _ h => h) rfl hA (by decide) (by decide) rfl rfl (fun _ => hS) ?_; clear hA; intro a hA
                    refine d_skip (i := 23) (L' := #[tT,tT,tT,tT,tT,tT,tT,tT,tT,tT,tT,tT,tT,tT,tT,tT,tT,tT,tT,tT,tT,tT,tT,tT,fF,fF,fF,fF]) rfl (by kernel_rfl) rfl (fun _ _ _ h => h) rfl hA (by decide) (by decide) rfl rfl (fun _ => hS) ?_; clear hA; intro a hA
                    refine d_skip (i := 24) (L' := #[tT,tT,tT,tT,tT,tT,tT,tT,tT,tT,tT,tT,tT,tT,tT,tT,tT,tT,tT,tT,tT,tT,tT,tT,tT,fF,fF,fF]) rfl (by kernel_rfl) rfl (fun _ _ _ h => h) rfl hA (by decide) (by decide) rfl rfl (fun _ => hS) ?_; clear hA; intro a hA
                    refine d_skip (i := 25) (L' := #[tT,tT,tT,tT,tT,tT,tT,tT,tT,tT,tT,tT,tT,tT,tT,tT,tT,tT,tT,tT,tT,tT,tT,tT,tT,tT,fF,fF]) rfl (by kernel_rfl) rfl (fun _ _ _ h => h) rfl hA (by decide) (by decide) rfl rfl (fun _ => hS) ?_; clear hA; intro a hA
                    refine d_takegf (i := 26) (L' := #[tT,tT,tT,tT,tT,tT,tT,tT,tT,tT,tT,tT,tT,tT,tT,tT,tT,tT,tT,tT,tT,tT,tT,tT,tT,tT,tT,fF]) rfl (by kernel_rfl) rfl (fun _ _ _ h => h) rfl hA (by decide) (by decide) rfl (fun _ => hS) (fun a w' hA => run_pick (hA.ev rfl) (fun h => Bool.noConfusion h) (fun _ => hA.ev rfl)) ?_; clear hA; intro a hA
                    refine d_takef (i := 27) (L' := #[tT,tT,tT,tT,tT,tT,tT,tT,tT,tT,tT,tT,tT,tT,tT,tT,tT,tT,tT,tT,tT,tT,tT,tT,tT,tT,tT,tT]) rfl (by kernel_rfl) rfl (fun _ _ _ h => h) hA (by decide) (fun _ => hS) (fun a w' hA => run_pick (hA.ev rfl) (fun h => Bool.noConfusion h) (fun _ => hA.ev rfl)) ?_; clear hA; intro a hA
                    refine d_done (by kernel_rfl) ?_
                    exact ⟨false, Option.some.inj H8055, (hM.sel [0] rfl (by decide)), (((((((hA.nil.cons (hA.get 56 _ rfl)).cons (hA.get 9 _ rfl)).cons (hA.get 8 _ rfl)).cons (hA.get 7 _ rfl)).cons (hA.get 5 _ rfl)).cons (hA.get 1 _ rfl)).cons (hA.get 0 _ rfl))⟩
              clear hM hA
              rintro a w8078 ⟨t8054, rfl, hM, hA⟩
              try dsimp only at H7954
              refine TN ?_
              refine tcond (b := t8054) hA rfl (fun hb8079 => ?_) (fun hb8079 => ?_)
              · replace H7954 := ite_t hb8079 H7954
                refine wp_seq ?_
                refine wp_region_lit ?_
                refine L1 (stv hA (by decide) (run_assign (hA.ev rfl)) ?_)
                clear hA; intro a hA
                refine LQ ?_
                refine TN ?_
                refine wp_ret ?_
                obtain rfl := Option.some.inj H7954
                dsimp only at H7605
                obtain rfl := Option.some.inj H7605
                refine TR ?_
                refine BR ?_
                refine TR ?_
                refine TR ?_
                refine BR ?_
                refine TR ?_
                refine TR ?_
                exact ret_post1 (fn := Try.f59) hA rfl rfl ⟨_, rfl, x7992, false, rfl, rfl, hM⟩
              · replace H7954 := ite_f hb8079 H7954
                refine wp_skip ?_
                refine TN ?_
                refine wp_seq ?_
                refine wp_region_lit ?_
                refine L1 (stv hA (by decide) (run_move (hA.ev rfl)) ?_)
                clear hA; intro a hA
                refine L1 (stv hA (by decide) (run_bin (hA.ev rfl) (hA.ev rfl) (bin_geq _ _ _ _)) ?_)
                clear hA; intro a hA
                refine LQ ?_
                refine TN ?_
                refine tcond (b := (decide (t7952 ≥ 512))) hA rfl (fun hb8080 => ?_) (fun hb8080 => ?_)
                · replace H7954 := ite_t hb8080 H7954
                  refine wp_seq ?_
                  refine wp_region_lit ?_
                  refine L1 (stv hA (by decide) (run_assign (hA.ev rfl)) ?_)
                  clear hA; intro a hA
                  refine LQ ?_
                  refine TN ?_
                  refine wp_ret ?_
                  obtain rfl := Option.some.inj H7954
                  dsimp only at H7605
                  obtain rfl := Option.some.inj H7605
                  refine BR ?_
                  refine TR ?_
                  refine TR ?_
                  refine BR ?_
                  refine TR ?_
                  refine TR ?_
                  exact ret_post1 (fn := Try.f59) hA rfl rfl ⟨_, rfl, x7992, false, rfl, rfl, hM⟩
                · replace H7954 := ite_f hb8080 H7954
                  refine wp_skip ?_
                  refine BN ?_
                  refine TN ?_
                  refine wp_region_lit ?_
                  refine L1 (stv hA (by decide) (run_bin (hA.ev rfl) (hA.ev rfl) (bin_add _ _ _ _)) ?_)
                  clear hA; intro a hA
                  refine L1 (stv hA (by decide) (run_move (hA.ev rfl)) ?_)
                  clear hA; intro a hA
                  refine LQ ?_
                  exact ⟨_, Nat.lt_succ_self m7956, x7992, IntKind.i64.wrap (t7952 + 1), H7954, hM, (((((hA.nil.cons (hA.get 9 _ rfl)).cons (hA.get 8 _ rfl)).cons (hA.get 7 _ rfl)).cons (hA.get 1 _ rfl)).cons (hA.get 0 _ rfl))⟩
          · replace H7954 := ite_f hb7958 H7954
            refine wp_exit ?_
            refine TX ?_
            refine TX ?_
            refine BX ?_
            exact ⟨x7948, Option.some.inj H7954, hM, hA.nil⟩
        clear hM hA
        rintro a w8081 ⟨x7953, rfl, hM, hA⟩
        try dsimp only at H7605
        refine TN ?_
        refine wp_seq ?_
        refine wp_region_lit ?_
        refine L1 (stv hA (by decide) (run_assign (hA.ev rfl)) ?_)
        clear hA; intro a hA
        refine LQ ?_
        refine TN ?_
        refine wp_ret ?_
        obtain rfl := Option.some.inj H7605
        exact ret_post1 (fn := Try.f59) hA rfl rfl ⟨_, rfl, x7953, true, rfl, rfl, hM⟩
      rintro e w8082 ⟨_, rfl, ⟨x7602, t7604, rfl, rfl, hM⟩⟩
      refine ⟨_, rfl, ?_⟩; clear hA; intro a hA; try dsimp only at H6168
      refine L1 (gate_on rfl rfl hA (by decide) rfl (stv hA (by decide) (run_not (hA.ev rfl)) ?_))
      clear hA; intro a hA
      refine L1 (stv hA (by decide) (run_pick (hA.ev rfl) (fun h => Bool.noConfusion h) (fun _ => hA.ev rfl)) ?_)
      clear hA; intro a hA
      refine LQ ?_
      exact ⟨x7602, (!t7604), Option.some.inj H6168, hM, ((hA.nil.cons (hA.get 18 _ rfl)).cons (hA.get 1 _ rfl))⟩
  clear hM hA
  rintro a w8083 ⟨x6165, t6167, rfl, hM, hA⟩
  try dsimp only at H
  refine TN ?_
  refine tcond (b := t6167) hA rfl (fun hb8084 => ?_) (fun hb8084 => ?_)
  · replace H := ite_t hb8084 H
    refine wp_seq ?_
    refine wp_region_lit ?_
    refine L1 (stv hA (by decide) (run_assign (hA.ev rfl)) ?_)
    clear hA; intro a hA
    refine LQ ?_
    refine TN ?_
    refine wp_ret ?_
    obtain rfl := Option.some.inj H
    refine TR ?_
    exact ret_post1 (fn := Try.f33) hA rfl rfl ⟨_, rfl, rfl, (hM.sel [] rfl (by decide))⟩
  · replace H := ite_f hb8084 H
    refine wp_skip ?_
    refine TN ?_
    refine wp_seq ?_
    refine wp_region_lit ?_
    refine L1 (stv hA (by decide) (run_field' Try.underlying41 rfl rfl Try.sizeOf39 (by decide) (hA.ev rfl)) ?_)
    clear hA; intro a hA
    refine L1 (stv hA (by decide) (run_ld (hA.ev rfl) (run_loadS Try.isAgg39 (At.seg (segs := [pHash.enc x6165, [(.slice A0_1 b_0.Heard.length c0_1)], [(.slice A0_2 b_0.Tried.length c0_2)]]) (hM.box .z) 1 rfl (by simp [Pl.len]; try rfl)))) ?_)
    clear hA; intro a hA
    refine L1 (stv hA (by decide) (run_fn2 hA [(.pointer (some (⟨g4248, 0, none⟩)))] rfl) ?_)
    clear hA; intro a hA
    refine L1 (inl_call Try.call60 hA [(.slice A0_1 b_0.Heard.length c0_1), (.func (.func 61) #[] #[(.pointer (some (⟨g4248, 0, none⟩)))])] rfl (by decide) ?_)
    refine enterL (n := 9) [(.slice A0_1 b_0.Heard.length c0_1), (.func (.func 61) #[] #[(.pointer (some (⟨g4248, 0, none⟩)))])] Try.func60 rfl rfl rfl ?_
    clear hA; intro a hA
    refine wp_seq ?_
    refine wp_region_lit ?_
    refine L1 (stv hA (by decide) (run_assign (hA.ev rfl)) ?_)
    clear hA; intro a hA
    refine LQ ?_
    refine TN ?_
    refine wp_seq ?_
    refine wp_region_lit ?_
    refine L1 (stv hA (by decide) (run_move (hA.ev rfl)) ?_)
    clear hA; intro a hA
    refine L1 (stv hA (by decide) (run_move (hA.ev rfl)) ?_)
    clear hA; intro a hA
    refine L1 (inl_call Try.call85 hA [(.slice A0_1 b_0.Heard.length c0_1), (.func (.func 61) #[] #[(.pointer (some (⟨g4248, 0, none⟩)))])] rfl (by decide) ?_)
    obtain ⟨o8393, H8392, H⟩ := Option.bind_eq_some_iff.1 H
    refine (show Calls Try.prog 85 _ w8083 (fun e w => ∃ v, e = .returned v ∧ ∃ (t8391 : Int), t8391 = o8393 ∧ v = (.int .i64 t8391) ∧ Mem F w0 w [.box g4248 41 (List.flatten [pHash.enc x6165, [(.slice A0_1 b_0.Heard.length c0_1)], [(.slice A0_2 b_0.Tried.length c0_2)]])]) from ?_).mono ?_
    · refine enterL (n := 19) [(.slice A0_1 b_0.Heard.length c0_1), (.func (.func 61) #[] #[(.pointer (some (⟨g4248, 0, none⟩)))])] Try.func85 rfl rfl rfl ?_
      clear hA; intro a hA
      refine wp_seq ?_
      refine wp_region_lit ?_
      refine L1 (stv hA (by decide) (run_assign (hA.ev rfl)) ?_)
      clear hA; intro a hA
      refine LQ ?_
      refine TN ?_
      refine wp_seq ?_
      refine wp_seq ?_
      refine wp_region_lit ?_
      refine L1 (stv hA (by decide) (run_move (hA.ev rfl)) ?_)
      clear hA; intro a hA
      refine L1 (stv hA (by decide) (run_len_slice Try.underlying39 (hA.ev rfl)) ?_)
      clear hA; intro a hA
      refine L1 (stv hA (by decide) (run_move (hA.ev rfl)) ?_)
      clear hA; intro a hA
      refine LQ ?_
      refine TN ?_
      obtain ⟨o8471, H8470, H8392⟩ := Option.bind_eq_some_iff.1 H8392
      refine cutC (fun a w => (.go ()) = o8471 ∧ Mem F w0 w [.box g4248 41 (List.flatten [pHash.enc x6165, [(.slice A0_1 b_0.Heard.length c0_1)], [(.slice A0_2 b_0.Tried.length c0_2)]])] ∧ Has 19 [] a) ?_ ?_
      · refine wp_block ?_
        refine wp_loop_ghost (fun m a w => ∃ (t8469 : Int), addrbook_Sound.l2 b_0 m t8469 = some o8471 ∧ Mem F w0 w [.box g4248 41 (List.flatten [pHash.enc x6165, [(.slice A0_1 b_0.Heard.length c0_1)], [(.slice A0_2 b_0.Tried.length c0_2)]])] ∧ Has 19 [(0, (.slice A0_1 b_0.Heard.length c0_1)), (1, (.func (.func 61) #[] #[(.pointer (some (⟨g4248, 0, none⟩)))])), (7, (.int .i64 ((b_0.Heard.length : Nat) : Int))), (8, (.int .i64 t8469))] a) k ⟨0, H8470, hM, ((((hA.nil.cons (hA.get 8 _ rfl)).cons (hA.get 7 _ rfl)).cons (hA.get 1 _ rfl)).cons (hA.get 0 _ rfl))⟩ ?_
        clear hM hA; rintro m8472 a w8473 ⟨t8469, H8470, hM, hA⟩
        cases m8472 with
        | zero => exact absurd H8470 (by simp [addrbook_Sound.l2])
        | succ m8472 =>
        rw [addrbook_Sound.l2] at H8470
        refine wp_seq ?_
        refine wp_region_lit ?_
        refine L1 (stv hA (by decide) (run_bin (hA.ev rfl) (hA.ev rfl) (bin_lss _ _ _ _)) ?_)
        clear hA; intro a hA
        refine LQ ?_
        refine TN ?_
        refine wp_seq ?_
        refine tcond (b := (decide (t8469 < ((b_0.Heard.length : Nat) : Int)))) hA rfl (fun hb8474 => ?_) (fun hb8474 => ?_)
        · replace H8470 := ite_t hb8474 H8470
          refine wp_skip ?_
          refine TN ?_
          refine wp_seq ?_
          refine wp_block ?_
          refine wp_seq ?_
          refine wp_region_lit ?_
          refine L1 (stv hA (by decide) (run_move (hA.ev rfl)) ?_)
          clear hA; intro a hA
          refine L1 (stv hA (by decide) (run_assign (hA.ev rfl)) ?_)
          clear hA; intro a hA
          refine LQ ?_
          refine TN ?_
          refine wp_seq ?_
          refine wp_region_lit ?_
          refine L1 (stv hA (by decide) (run_move (hA.ev rfl)) ?_)
          clear hA; intro a hA
          refine L1 (stv hA (by decide) (run_move (hA.ev rfl)) ?_)
          clear hA; intro a hA
          refine L1 (stv hA (by decide) (run_move (hA.ev rfl)) ?_)
          clear hA; intro a hA
          obtain ⟨⟨hi8475, hj8476⟩, H8470⟩ := ite_some H8470
          obtain ⟨ad8477, hq8478, hat8479⟩ := Row.elem' (p := pPlace) (hM.ro hr0_1) (Eq.refl b_0.Heard.length) Place.z t8469 hi8475 hj8476
          refine L1 (stv hA (by decide) (run_idx Try.underlying39 Try.sizeOf70 (hA.ev rfl) hq8478 (hA.ev rfl) hi8475 hj8476) ?_)
          clear hA; intro a hA
          refine L1 (stv hA (by decide) (run_ld (hA.ev rfl) (run_loadP Try.isAgg70 Try.sizeOf70 hat8479)) ?_)
          clear hA; intro a hA
          refine L1 (inl_callv (caps := [(.pointer (some (⟨g4248, 0, none⟩)))]) Try.call61 hA rfl [(.agg (pPlace.enc (b_0.Heard.getD t8469.toNat Place.z)).toArray)] rfl (by decide) ?_)
          refine enterL (n := 10) [(.agg (pPlace.enc (b_0.Heard.getD t8469.toNat Place.z)).toArray), (.pointer (some (⟨g4248, 0, none⟩)))] Try.func61 rfl rfl rfl ?_
          clear hA; intro a hA
          refine wp_seq ?_
          refine wp_region_lit ?_
          refine L1 (e_box (cs := (pPlace.enc (b_0.Heard.getD t8469.toNat Place.z))) hM hA rfl rfl (by decide) ?_)
          clear hM hA; intro w8487 g8486 hM hE  a hA
          refine L1 (stv hA (by decide) (run_assign (hA.ev rfl)) ?_)
          clear hA; intro a hA
          refine LQ ?_
          refine TN ?_
          refine wp_seq ?_
          refine wp_region_lit ?_
          refine L1 (stv hA (by decide) (run_field' Try.underlying41 rfl rfl Try.sizeOf39 (by decide) (hA.ev rfl)) ?_)
          clear hA; intro a hA
          refine L1 (stv hA (by decide) (run_ld (hA.ev rfl) (run_loadS Try.isAgg39 (At.seg (segs := [pHash.enc x6165, [(.slice A0_1 b_0.Heard.length c0_1)], [(.slice A0_2 b_0.Tried.length c0_2)]]) (hM.box (.s .z)) 2 rfl (by simp [Pl.len]; try rfl)))) ?_)
          clear hA; intro a hA
          refine L1 (stv hA (by decide) (run_field' Try.underlying70 rfl rfl Try.sizeOf46 (by decide) (hA.ev rfl)) ?_)
          clear hA; intro a hA
          refine L1 (stv hA (by decide) (run_ld (hA.ev rfl) (run_loadP Try.isAgg46 Try.sizeOf46 (Place.at_Addr_ (hM.box .z)))) ?_)
          clear hA; intro a hA
          obtain ⟨r8489, H8490, H8470⟩ := Option.bind_eq_some_iff.1 H8470
          refine L1 (st_call Try.call62 hA [(.slice A0_2 b_0.Tried.length c0_2), (.agg (pNAddr.enc ((b_0.Heard.getD t8469.toNat Place.z).Addr_)).toArray)] rfl (by decide) (addrbook_find.calls _ _ _ _ _ _ _ ((RoV.mk (hM.roC (Ms := []) hr0_2) (Eq.refl b_0.Tried.length) hc0_2)) (hM.front (Ms := [])) H8490) ?_)
          clear hA; rintro _ w8491 ⟨rfl, hMc⟩ a hA
          have hE := hMc.below; have hM := hM.call (Ms := []) hMc
          clear hMc; simp only [List.cons_append, List.nil_append] at hM
          refine L1 (stv hA (by decide) (run_bin (hA.ev rfl) (hA.ev rfl) (bin_geq _ _ _ _)) ?_)
          clear hA; intro a hA
          refine L1 (stv hA (by decide) (run_assign (hA.ev rfl)) ?_)
          clear hA; intro a hA
          refine LQ ?_
          refine TN ?_
          refine wp_ret ?_
          refine ret_post1 (fn := Try.f61) hA rfl rfl ⟨_, rfl, ?_⟩; clear hA; intro a hA
          refine LQ ?_
          refine TN ?_
          refine tcond (b := (decide (r8489 ≥ 0))) hA rfl (fun hb8492 => ?_) (fun hb8492 => ?_)
          · replace H8470 := ite_t hb8492 H8470
            refine wp_seq ?_
            refine wp_region_lit ?_
            refine L1 (stv hA (by decide) (run_move (hA.ev rfl)) ?_)
            clear hA; intro a hA
            refine L1 (stv hA (by decide) (run_assign (hA.ev rfl)) ?_)
            clear hA; intro a hA
            refine LQ ?_
            refine TN ?_
            refine wp_ret ?_
            obtain rfl := Option.some.inj H8470
            dsimp only at H8392
            obtain rfl := Option.some.inj H8392
            refine BR ?_
            refine TR ?_
            refine TR ?_
            refine BR ?_
            refine TR ?_
            refine TR ?_
            exact ret_post1 (fn := Try.f85) hA rfl rfl ⟨_, rfl, t8469, rfl, rfl, (hM.sel [1] rfl (by decide))⟩
          · replace H8470 := ite_f hb8492 H8470
            refine wp_skip ?_
            refine BN ?_
            refine TN ?_
            refine wp_region_lit ?_
            refine L1 (stv hA (by decide) (run_bin (hA.ev rfl) (hA.ev rfl) (bin_add _ _ _ _)) ?_)
            clear hA; intro a hA
            refine L1 (stv hA (by decide) (run_move (hA.ev rfl)) ?_)
            clear hA; intro a hA
            refine LQ ?_
            exact ⟨_, Nat.lt_succ_self m8472, IntKind.i64.wrap (t8469 + 1), H8470, (hM.sel [1] rfl (by decide)), ((((hA.nil.cons (hA.get 8 _ rfl)).cons (hA.get 7 _ rfl)).cons (hA.get 1 _ rfl)).cons (hA.get 0 _ rfl))⟩
        · replace H8470 := ite_f hb8474 H8470
          refine wp_exit ?_
          refine TX ?_
          refine TX ?_
          refine BX ?_
          exact ⟨Option.some.inj H8470, hM, hA.nil⟩
      clear hM hA
      rintro a w8493 ⟨rfl, hM, hA⟩
      try dsimp only at H8392
      refine TN ?_
      refine wp_seq ?_
      refine wp_region_lit ?_
      refine L1 (stv hA (by decide) (run_assign (hA.ev rfl)) ?_)
      clear hA; intro a hA
      refine LQ ?_
      refine TN ?_
      refine wp_ret ?_
      obtain rfl := Option.some.inj H8392
      exact ret_post1 (fn := Try.f85) hA rfl rfl ⟨_, rfl, (-1), rfl, rfl, hM⟩
    rintro e w8494 ⟨_, rfl, ⟨t8391, rfl, rfl, hM⟩⟩
    refine ⟨_, rfl, ?_⟩; clear hA; intro a hA; try dsimp only at H
    refine L1 (stv hA (by decide) (run_bin (hA.ev rfl) (hA.ev rfl) (bin_geq _ _ _ _)) ?_)
    clear hA; intro a hA
    refine L1 (stv hA (by decide) (run_assign (hA.ev rfl)) ?_)
    clear hA; intro a hA
    refine LQ ?_
    refine TN ?_
    refine wp_ret ?_
    refine ret_post1 (fn := Try.f60) hA rfl rfl ⟨_, rfl, ?_⟩; clear hA; intro a hA
    refine L1 (stv hA (by decide) (run_not (hA.ev rfl)) ?_)
    clear hA; intro a hA
    refine L1 (stv hA (by decide) (run_assign (hA.ev rfl)) ?_)
    clear hA; intro a hA
    refine LQ ?_
    refine TN ?_
    refine wp_ret ?_
    obtain rfl := Option.some.inj H
    exact ret_post1 (fn := Try.f33) hA rfl rfl ⟨_, rfl, rfl, (hM.sel [] rfl (by decide))⟩

def connect_count.l0 (l_0 : (List Link)) (kind_1 : Int) : Nat → Int → Int → Option (Int)
  | 0, _, _ => none
  | k + 1, n202, t206 => (if (decide (t206 < ((l_0.length : Nat) : Int))) = true then (if 0 ≤ t206 ∧ t206 < ((l_0.length : Nat) : Int) then (Option.bind (α := Int) (if (((l_0.getD t206.toNat Link.z).Kind) == kind_1) = true then (some (IntKind.i64.wrap (n202 + 1))) else (some n202)) (fun n226 => (connect_count.l0 l_0 kind_1 k n226 (IntKind.i64.wrap (t206 + 1))))) else none) else (some n202))
def connect_count.f (k : Nat) (l_0 : (List Link)) (kind_1 : Int) : Option Int := (Option.bind (α := Int) (connect_count.l0 l_0 kind_1 k 0 0) (fun n208 => (some n208)))
set_option maxHeartbeats 2000000 in
set_option maxRecDepth 100000 in
theorem connect_count.calls (k : Nat) (l_0 : (List Link)) (kind_1 : Int) (F : List (Option Nat)) (v0 : Value) (r : Int) (w0 : World) (h0 : RoV F pLink w0 v0 l_0) (hM : Mem F w0 w0 []) (H : connect_count.f k l_0 kind_1 = some r) :
    Calls Try.prog 54 #[v0, (.int .i64 kind_1)] w0 fun e w' => ∃ v, e = .returned v ∧ v = (.int .i64 r) ∧ Mem F w0 w' [] := by
  unfold connect_count.f at H
  obtain ⟨A0, c0, rfl, hr0, hc0⟩ := h0
  refine enterL (n := 22) [(.slice A0 l_0.length c0), (.int .i64 kind_1)] Try.func54 rfl rfl rfl ?_
  intro a hA
  refine wp_seq ?_
  refine wp_region_lit ?_
  refine L1 (stv hA (by decide) (run_assign (hA.ev rfl)) ?_)
  clear hA; intro a hA
  refine LQ ?_
  refine TN ?_
  refine wp_seq ?_
  refine wp_region_lit ?_
  refine L1 (stv hA (by decide) (run_assign (hA.ev rfl)) ?_)
  clear hA; intro a hA
  refine LQ ?_
  refine TN ?_
  refine wp_seq ?_
  refine wp_seq ?_
  refine wp_region_lit ?_
  refine L1 (stv hA (by decide) (run_move (hA.ev rfl)) ?_)
  clear hA; intro a hA
  refine L1 (stv hA (by decide) (run_len_slice Try.underlying49 (hA.ev rfl)) ?_)
  clear hA; intro a hA
  refine L1 (stv hA (by decide) (run_move (hA.ev rfl)) ?_)
  clear hA; intro a hA
  refine LQ ?_
  refine TN ?_
  obtain ⟨o210, H209, H⟩ := Option.bind_eq_some_iff.1 H
  refine cutC (fun a w => ∃ (n208 : Int), n208 = o210 ∧ Mem F w0 w [] ∧ Has 22 [(5, (.int .i64 n208))] a) ?_ ?_
  · refine wp_block ?_
    refine wp_loop_ghost (fun m a w => ∃ (n202 : Int) (t206 : Int), connect_count.l0 l_0 kind_1 m n202 t206 = some o210 ∧ Mem F w0 w [] ∧ Has 22 [(1, (.int .i64 kind_1)), (5, (.int .i64 n202)), (8, (.slice A0 l_0.length c0)), (9, (.int .i64 ((l_0.length : Nat) : Int))), (10, (.int .i64 t206))] a) k ⟨0, 0, H209, hM, (((((hA.nil.cons (hA.get 10 _ rfl)).cons (hA.get 9 _ rfl)).cons (hA.get 8 _ rfl)).cons (hA.get 5 _ rfl)).cons (hA.get 1 _ rfl))⟩ ?_
    clear hM hA; rintro m211 a w212 ⟨n202, t206, H209, hM, hA⟩
    cases m211 with
    | zero => exact absurd H209 (by simp [connect_count.l0])
    | succ m211 =>
    rw [connect_count.l0] at H209
    refine wp_seq ?_
    refine wp_region_lit ?_
    refine L1 (stv hA (by decide) (run_bin (hA.ev rfl) (hA.ev rfl) (bin_lss _ _ _ _)) ?_)
    clear hA; intro a hA
    refine LQ ?_
    refine TN ?_
    refine wp_seq ?_
    refine tcond (b := (decide (t206 < ((l_0.length : Nat) : Int)))) hA rfl (fun hb213 => ?_) (fun hb213 => ?_)
    · replace H209 := ite_t hb213 H209
      refine wp_skip ?_
      refine TN ?_
      refine wp_seq ?_
      refine wp_block ?_
      refine wp_seq ?_
      refine wp_region_lit ?_
      obtain ⟨⟨hi214, hj215⟩, H209⟩ := ite_some H209
      obtain ⟨ad216, hq217, hat218⟩ := Row.elem' (p := pLink) (hM.ro hr0) (Eq.refl l_0.length) Link.z t206 hi214 hj215
      refine L1 (stv hA (by decide) (run_idx Try.underlying49 Try.sizeOf53 (hA.ev rfl) hq217 (hA.ev rfl) hi214 hj215) ?_)
      clear hA; intro a hA
      refine L1 (stv hA (by decide) (run_ld (hA.ev rfl) (run_loadP Try.isAgg53 Try.sizeOf53 hat218)) ?_)
      clear hA; intro a hA
      refine L1 (e_alloc (cs := (pLink.enc Link.z)) hM zero53 rfl hA (by decide) ?_)
      clear hM hA; intro w220 g219 hM hE  a hA
      refine L1 (e_store (g := g219) (off := 0) (cur := (pLink.enc Link.z)) (cs' := (pLink.enc (l_0.getD t206.toNat Link.z))) hM .z Try.sizeOf53 hA rfl (by simp [add_mk]) rfl (agg_size _ _) (agg_one _ _) (Nat.le_of_ble_eq_true (enc_fitL _ _ rfl)) (spl_all (by first | rfl | (simp [Value.cells, Pl.len]; done) | (simp [Value.cells, Pl.len]; rfl))) ?_)
      clear hM hA; intro w222  hM hE  a hA
      refine LQ ?_
      refine TN ?_
      refine wp_seq ?_
      refine wp_region_lit ?_
      refine L1 (stv hA (by decide) (run_field' Try.underlying53 rfl rfl Try.sizeOf3 (by decide) (hA.ev rfl)) ?_)
      clear hA; intro a hA
      refine L1 (stv hA (by decide) (run_ld (hA.ev rfl) (run_loadS Try.isAgg3 (Link.at_Kind (hM.box .z)))) ?_)
      clear hA; intro a hA
      refine L1 (stv hA (by decide) (run_move (hA.ev rfl)) ?_)
      clear hA; intro a hA
      refine L1 (stv hA (by decide) (run_bin (hA.ev rfl) (hA.ev rfl) (bin_eql _ _ _ _)) ?_)
      clear hA; intro a hA
      refine LQ ?_
      refine TN ?_
      obtain ⟨o231, H230, H209⟩ := Option.bind_eq_some_iff.1 H209
      refine cutC (fun a w => ∃ (n226 : Int), n226 = o231 ∧ Mem F w0 w [] ∧ Has 22 [(1, (.int .i64 kind_1)), (5, (.int .i64 n226)), (8, (.slice A0 l_0.length c0)), (9, (.int .i64 ((l_0.length : Nat) : Int))), (10, (.int .i64 t206))] a) ?_ ?_
      · refine tcond (b := (((l_0.getD t206.toNat Link.z).Kind) == kind_1)) hA rfl (fun hb232 => ?_) (fun hb232 => ?_)
        · replace H230 := ite_t hb232 H230
          refine wp_region_lit ?_
          refine L1 (stv hA (by decide) (run_move (hA.ev rfl)) ?_)
          clear hA; intro a hA
          refine L1 (stv hA (by decide) (run_bin (hA.ev rfl) (hA.ev rfl) (bin_add _ _ _ _)) ?_)
          clear hA; intro a hA
          refine L1 (stv hA (by decide) (run_assign (hA.ev rfl)) ?_)
          clear hA; intro a hA
          refine LQ ?_
          exact ⟨IntKind.i64.wrap (n202 + 1), Option.some.inj H230, (hM.sel [] rfl (by decide)), (((((hA.nil.cons (hA.get 10 _ rfl)).cons (hA.get 9 _ rfl)).cons (hA.get 8 _ rfl)).cons (hA.get 5 _ rfl)).cons (hA.get 1 _ rfl))⟩
        · replace H230 := ite_f hb232 H230
          refine wp_skip ?_
          exact ⟨n202, Option.some.inj H230, (hM.sel [] rfl (by decide)), (((((hA.nil.cons (hA.get 10 _ rfl)).cons (hA.get 9 _ rfl)).cons (hA.get 8 _ rfl)).cons (hA.get 5 _ rfl)).cons (hA.get 1 _ rfl))⟩
      clear hM hA
      rintro a w233 ⟨n226, rfl, hM, hA⟩
      try dsimp only at H209
      refine BN ?_
      refine TN ?_
      refine wp_region_lit ?_
      refine L1 (stv hA (by decide) (run_bin (hA.ev rfl) (hA.ev rfl) (bin_add _ _ _ _)) ?_)
      clear hA; intro a hA
      refine L1 (stv hA (by decide) (run_move (hA.ev rfl)) ?_)
      clear hA; intro a hA
      refine LQ ?_
      exact ⟨_, Nat.lt_succ_self m211, n226, IntKind.i64.wrap (t206 + 1), H209, hM, (((((hA.nil.cons (hA.get 10 _ rfl)).cons (hA.get 9 _ rfl)).cons (hA.get 8 _ rfl)).cons (hA.get 5 _ rfl)).cons (hA.get 1 _ rfl))⟩
    · replace H209 := ite_f hb213 H209
      refine wp_exit ?_
      refine TX ?_
      refine TX ?_
      refine BX ?_
      exact ⟨n202, Option.some.inj H209, hM, (hA.nil.cons (hA.get 5 _ rfl))⟩
  clear hM hA
  rintro a w234 ⟨n208, rfl, hM, hA⟩
  try dsimp only at H
  refine TN ?_
  refine wp_seq ?_
  refine wp_region_lit ?_
  refine L1 (stv hA (by decide) (run_move (hA.ev rfl)) ?_)
  clear hA; intro a hA
  refine L1 (stv hA (by decide) (run_assign (hA.ev rfl)) ?_)
  clear hA; intro a hA
  refine LQ ?_
  refine TN ?_
  refine wp_ret ?_
  obtain rfl := Option.some.inj H
  exact ret_post1 (fn := Try.f54) hA rfl rfl ⟨_, rfl, rfl, hM⟩

def connect_Choose.l0 (anchors_1 : (List NAddr)) (l_2 : (List Link)) : Nat → Int → Option (Out Int (Unit))
  | 0, _ => none
  | k + 1, t519 => (if (decide (t519 < ((anchors_1.length : Nat) : Int))) = true then (if 0 ≤ t519 ∧ t519 < ((anchors_1.length : Nat) : Int) then ((connect_met.f k l_2 (anchors_1.getD t519.toNat NAddr.z)).bind fun r539 => (if (!r539) = true then (some (.ret t519)) else (connect_Choose.l0 anchors_1 l_2 k (IntKind.i64.wrap (t519 + 1))))) else none) else (some (.go ())))
def connect_Choose.f (k : Nat) (b_0 : Book) (anchors_1 : (List NAddr)) (l_2 : (List Link)) (draw_3 : Int) : Option (Link × Int) := (Option.bind (α := Bool) ((connect_Sound.f k l_2).bind fun r328 => (if (!r328) = true then (some true) else ((addrbook_Sound.f k (Book.mk b_0.Salt b_0.Heard b_0.Tried)).bind fun r332 => (some (!r332))))) (fun t325 => (if t325 = true then (some ((Link.z), 6)) else (if (decide (((l_2.length : Nat) : Int) ≥ 8)) = true then (some ((Link.z), 380)) else (Option.bind (α := Int) (Option.bind (α := Out Int (Unit)) (connect_Choose.l0 anchors_1 l_2 k 0) (fun o => match o with | .ret r => some r | .go _ => (some (-1)))) (fun t441 => (Option.bind (α := Bool) (if (decide (t441 ≥ 0)) = true then ((connect_count.f k l_2 1).bind fun r560 => (some (decide (r560 < 2)))) else (some false)) (fun t556 => (if t556 = true then (if 0 ≤ t441 ∧ t441 < ((anchors_1.length : Nat) : Int) then (some ((Link.mk 1 (anchors_1.getD t441.toNat NAddr.z)), 0)) else none) else ((connect_count.f k l_2 3).bind fun r571 => (Option.bind (α := Out (Link × Int) (Int)) (if (decide ((IntKind.i64.wrap (((l_2.length : Nat) : Int) - r571)) ≥ 7)) = true then (if (decide (r571 > 0)) = true then (some (.ret ((Link.z), 380))) else (some (.go 3))) else (some (.go 2))) (fun o => match o with | .ret r => some r | .go kind582 => ((connect_Candidates.f k (Book.mk b_0.Salt b_0.Heard b_0.Tried) l_2 kind582).bind fun r589 => (if (((r589.length : Nat) : Int) == 0) = true then (some ((Link.z), 390)) else (if ¬ (IntKind.u64.wrap ((r589.length : Nat) : Int)) = 0 then (if 0 ≤ (draw_3.tmod (IntKind.u64.wrap ((r589.length : Nat) : Int))) ∧ (draw_3.tmod (IntKind.u64.wrap ((r589.length : Nat) : Int))) < ((r589.length : Nat) : Int) then (some ((Link.mk kind582 (r589.getD (draw_3.tmod (IntKind.u64.wrap ((r589.length : Nat) : Int))).toNat NAddr.z)), 0)) else none) else none)))))))))))))))
set_option maxHeartbeats 2000000 in
set_option maxRecDepth 100000 in
theorem connect_Choose.calls (k : Nat) (b_0 : Book) (anchors_1 : (List NAddr)) (l_2 : (List Link)) (draw_3 : Int) (F : List (Option Nat)) (v0_1 : Value) (v0_2 : Value) (v1 : Value) (v2 : Value) (r : (Link × Int)) (w0 : World) (h0_1 : RoV F pPlace w0 v0_1 b_0.Heard) (h0_2 : RoV F pPlace w0 v0_2 b_0.Tried) (h1 : RoV F pNAddr w0 v1 anchors_1) (h2 : RoV F pLink w0 v2 l_2) (hM : Mem F w0 w0 []) (H : connect_Choose.f k b_0 anchors_1 l_2 draw_3 = some r) :
    Calls Try.prog 27 #[(.agg (List.flatten [pHash.enc b_0.Salt, [v0_1], [v0_2]]).toArray), v1, v2, (.int .u64 draw_3)] w0 fun e w' => ∃ v, e = .returned v ∧ v = (.tuple #[(.agg (pLink.enc r.1).toArray), (.int .i64 r.2)]) ∧ Mem F w0 w' [] := by
  unfold connect_Choose.f at H
  obtain ⟨A0_1, c0_1, rfl, hr0_1, hc0_1⟩ := h0_1
  obtain ⟨A0_2, c0_2, rfl, hr0_2, hc0_2⟩ := h0_2
  obtain ⟨A1, c1, rfl, hr1, hc1⟩ := h1
  obtain ⟨A2, c2, rfl, hr2, hc2⟩ := h2
  refine enterL (n := 70) [(.agg (List.flatten [pHash.enc b_0.Salt, [(.slice A0_1 b_0.Heard.length c0_1)], [(.slice A0_2 b_0.Tried.length c0_2)]]).toArray), (.slice A1 anchors_1.length c1), (.slice A2 l_2.length c2), (.int .u64 draw_3)] Try.func27 rfl rfl rfl ?_
  intro a hA
  refine wp_seq ?_
  refine wp_region_lit ?_
  refine L1 (e_box (cs := (List.flatten [pHash.enc b_0.Salt, [(.slice A0_1 b_0.Heard.length c0_1)], [(.slice A0_2 b_0.Tried.length c0_2)]])) hM hA rfl rfl (by decide) ?_)
  clear hM hA; intro w304 g303 hM hE  a hA
  refine L1 (e_box (cs := [(.slice A2 l_2.length c2)]) hM hA rfl rfl (by decide) ?_)
  clear hM hA; intro w307 g306 hM hE  a hA
  refine L1 (e_alloc (cs := (pLink.enc Link.z)) hM zero53 rfl hA (by decide) ?_)
  clear hM hA; intro w310 g309 hM hE  a hA
  refine L1 (stv hA (by decide) (run_assign (hA.ev rfl)) ?_)
  clear hA; intro a hA
  refine LQ ?_
  refine TN ?_
  refine wp_seq ?_
  refine wp_seq ?_
  obtain ⟨o327, H326, H⟩ := Option.bind_eq_some_iff.1 H
  refine cutC (fun a w => ∃ (t325 : Bool), t325 = o327 ∧ Mem F w0 w [.box g303 41 (List.flatten [pHash.enc b_0.Salt, [(.slice A0_1 b_0.Heard.length c0_1)], [(.slice A0_2 b_0.Tried.length c0_2)]]), .box g306 49 [(.slice A2 l_2.length c2)], .box g309 53 (pLink.enc Link.z)] ∧ Has 70 [(1, (.slice A1 anchors_1.length c1)), (3, (.int .u64 draw_3)), (4, (.pointer (some (⟨g303, 0, none⟩)))), (6, (.pointer (some (⟨g306, 0, none⟩)))), (8, (.pointer (some (⟨g309, 0, none⟩)))), (21, (.bool t325))] a) ?_ ?_
  · refine wp_region_lit ?_
    refine L1 (stv hA (by decide) (run_ld (hA.ev rfl) (run_loadS Try.isAgg49 (hM.box (.s .z)))) ?_)
    clear hA; intro a hA
    obtain ⟨r328, H329, H326⟩ := Option.bind_eq_some_iff.1 H326
    refine L1 (st_call Try.call25 hA [(.slice A2 l_2.length c2)] rfl (by decide) (connect_Sound.calls _ _ _ _ _ _ ((RoV.mk (hM.roC (Ms := []) hr2) (Eq.refl l_2.length) hc2)) (hM.front (Ms := [])) H329) ?_)
    clear hA; rintro _ w330 ⟨rfl, hMc⟩ a hA
    have hE := hMc.below; have hM := hM.call (Ms := []) hMc
    clear hMc; simp only [List.cons_append, List.nil_append] at hM
    refine L1 (stv hA (by decide) (run_not (hA.ev rfl)) ?_)
    clear hA; intro a hA
    refine L1 (stv hA (by decide) (run_move (hA.ev rfl)) ?_)
    clear hA; intro a hA
    refine bsplit (b := (!r328)) (fun hb331 => ?_) (fun hb331 => ?_)
    · replace H326 := ite_t hb331 H326
      have hA := hA.re (t := 17) rfl (congrArg Value.bool hb331)
      refine L1 (gate_off rfl (by decide) rfl hA (by decide) rfl rfl ?_); clear hA; intro a hA
      refine L1 (gate_off rfl (by decide) rfl hA (by decide) rfl rfl ?_); clear hA; intro a hA
      refine L1 (gate_off rfl (by decide) rfl hA (by decide) rfl rfl ?_); clear hA; intro a hA
      refine L1 (stv hA (by decide) (run_pick (hA.ev rfl) (fun _ => hA.ev rfl) (fun h => Bool.noConfusion h)) ?_)
      clear hA; intro a hA
      refine LQ ?_
      exact ⟨true, Option.some.inj H326, (hM.sel [2, 1, 0] rfl (by decide)), ((((((hA.nil.cons (hA.get 21 _ rfl)).cons (hA.get 8 _ rfl)).cons (hA.get 6 _ rfl)).cons (hA.get 4 _ rfl)).cons (hA.get 3 _ rfl)).cons (hA.get 1 _ rfl))⟩
    · replace H326 := ite_f hb331 H326
      have hA := hA.re (t := 17) rfl (congrArg Value.bool hb331)
      refine L1 (gate_on rfl rfl hA (by decide) rfl (stv hA (by decide) (run_ld (hA.ev rfl) (run_loadW Try.isAgg41 Try.sizeOf41 (by simp [Pl.len]; try rfl) (hM.box (.s (.s .z))))) ?_))
      clear hA; intro a hA
      obtain ⟨r332, H333, H326⟩ := Option.bind_eq_some_iff.1 H326
      refine L1 (gate_on rfl rfl hA (by decide) rfl (st_call Try.call33 hA [(.agg (List.flatten [pHash.enc b_0.Salt, [(.slice A0_1 b_0.Heard.length c0_1)], [(.slice A0_2 b_0.Tried.length c0_2)]]).toArray)] rfl (by decide) (addrbook_Sound.calls _ (Book.mk b_0.Salt b_0.Heard b_0.Tried) _ _ _ _ _ ((RoV.mk (hM.roC (Ms := []) hr0_1) (Eq.refl b_0.Heard.length) hc0_1)) ((RoV.mk (hM.roC (Ms := []) hr0_2) (Eq.refl b_0.Tried.length) hc0_2)) (hM.front (Ms := [])) H333) ?_))
      clear hA; rintro _ w334 ⟨rfl, hMc⟩ a hA
      have hE := hMc.below; have hM := hM.call (Ms := []) hMc
      clear hMc; simp only [List.cons_append, List.nil_append] at hM
      refine L1 (gate_on rfl rfl hA (by decide) rfl (stv hA (by decide) (run_not (hA.ev rfl)) ?_))
      clear hA; intro a hA
      refine L1 (stv hA (by decide) (run_pick (hA.ev rfl) (fun h => Bool.noConfusion h) (fun _ => hA.ev rfl)) ?_)
      clear hA; intro a hA
      refine LQ ?_
      exact ⟨(!r332), Option.some.inj H326, (hM.sel [2, 1, 0] rfl (by decide)), ((((((hA.nil.cons (hA.get 21 _ rfl)).cons (hA.get 8 _ rfl)).cons (hA.get 6 _ rfl)).cons (hA.get 4 _ rfl)).cons (hA.get 3 _ rfl)).cons (hA.get 1 _ rfl))⟩
  clear hM hA
  rintro a w335 ⟨t325, rfl, hM, hA⟩
  try dsimp only at H
  refine TN ?_
  refine tcond (b := t325) hA rfl (fun hb336 => ?_) (fun hb336 => ?_)
  · replace H := ite_t hb336 H
    refine wp_seq ?_
    refine wp_region_lit ?_
    refine L1 (stv hA (by decide) (run_build [] zero53 Try.underlying53 (ss := [1, 3]) ⟨Try.sizeOf3, Try.sizeOf46, trivial⟩ hA rfl (fill_nil)) ?_)
    clear hA; intro a hA
    refine L1 (e_store (g := g309) (off := 0) (cur := (pLink.enc Link.z)) (cs' := (pLink.enc (Link.z))) hM (.s (.s .z)) Try.sizeOf53 hA rfl (by simp [add_mk]) rfl (agg_size _ _) (agg_one _ _) (Nat.le_of_ble_eq_true (enc_fitL _ _ rfl)) (spl_all (by first | rfl | (simp [Value.cells, Pl.len]; done) | (simp [Value.cells, Pl.len]; rfl))) ?_)
    clear hM hA; intro w337  hM hE  a hA
    refine L1 (stv hA (by decide) (run_assign (hA.ev rfl)) ?_)
    clear hA; intro a hA
    refine LQ ?_
    refine TN ?_
    refine wp_ret ?_
    obtain rfl := Option.some.inj H
    refine TR ?_
    exact ret_mix2 (fn := Try.f27) hA rfl (RV.cell rfl (run_loadP Try.isAgg53 Try.sizeOf53 (hM.box (.s (.s .z))))) (RV.tmp rfl) ⟨_, rfl, rfl, (hM.sel [] rfl (by decide))⟩
  · replace H := ite_f hb336 H
    refine wp_skip ?_
    refine TN ?_
    refine wp_seq ?_
    refine wp_seq ?_
    refine wp_region_lit ?_
    refine L1 (stv hA (by decide) (run_ld (hA.ev rfl) (run_loadS Try.isAgg49 (hM.box (.s .z)))) ?_)
    clear hA; intro a hA
    refine L1 (stv hA (by decide) (run_len_slice Try.underlying49 (hA.ev rfl)) ?_)
    clear hA; intro a hA
    refine L1 (stv hA (by decide) (run_bin (hA.ev rfl) (hA.ev rfl) (bin_geq _ _ _ _)) ?_)
    clear hA; intro a hA
    refine LQ ?_
    refine TN ?_
    refine tcond (b := (decide (((l_2.length : Nat) : Int) ≥ 8))) hA rfl (fun hb338 => ?_) (fun hb338 => ?_)
    · replace H := ite_t hb338 H
      refine wp_seq ?_
      refine wp_region_lit ?_
      refine L1 (stv hA (by decide) (run_build [] zero53 Try.underlying53 (ss := [1, 3]) ⟨Try.sizeOf3, Try.sizeOf46, trivial⟩ hA rfl (fill_nil)) ?_)
      clear hA; intro a hA
      refine L1 (e_store (g := g309) (off := 0) (cur := (pLink.enc Link.z)) (cs' := (pLink.enc (Link.z))) hM (.s (.s .z)) Try.sizeOf53 hA rfl (by simp [add_mk]) rfl (agg_size _ _) (agg_one _ _) (Nat.le_of_ble_eq_true (enc_fitL _ _ rfl)) (spl_all (by first | rfl | (simp [Value.cells, Pl.len]; done) | (simp [Value.cells, Pl.len]; rfl))) ?_)
      clear hM hA; intro w339  hM hE  a hA
      refine L1 (stv hA (by decide) (run_assign (hA.ev rfl)) ?_)
      clear hA; intro a hA
      refine LQ ?_
      refine TN ?_
      refine wp_ret ?_
      obtain rfl := Option.some.inj H
      refine TR ?_
      exact ret_mix2 (fn := Try.f27) hA rfl (RV.cell rfl (run_loadP Try.isAgg53 Try.sizeOf53 (hM.box (.s (.s .z))))) (RV.tmp rfl) ⟨_, rfl, rfl, (hM.sel [] rfl (by decide))⟩
    · replace H := ite_f hb338 H
      refine wp_skip ?_
      refine TN ?_
      refine wp_seq ?_
      refine wp_seq ?_
      refine wp_region_lit ?_
      refine L1 (stv hA (by decide) (run_move (hA.ev rfl)) ?_)
      clear hA; intro a hA
      refine L1 (stv hA (by decide) (run_fn2 hA [(.pointer (some (⟨g306, 0, none⟩)))] rfl) ?_)
      clear hA; intro a hA
      refine L1 (inl_call Try.call52 hA [(.slice A1 anchors_1.length c1), (.func (.func 53) #[] #[(.pointer (some (⟨g306, 0, none⟩)))])] rfl (by decide) ?_)
      obtain ⟨o443, H442, H⟩ := Option.bind_eq_some_iff.1 H
      refine (show Calls Try.prog 52 _ w335 (fun e w => ∃ v, e = .returned v ∧ ∃ (t441 : Int), t441 = o443 ∧ v = (.int .i64 t441) ∧ Mem F w0 w [.box g303 41 (List.flatten [pHash.enc b_0.Salt, [(.slice A0_1 b_0.Heard.length c0_1)], [(.slice A0_2 b_0.Tried.length c0_2)]]), .box g306 49 [(.slice A2 l_2.length c2)], .box g309 53 (pLink.enc Link.z)]) from ?_).mono ?_
      · refine enterL (n := 19) [(.slice A1 anchors_1.length c1), (.func (.func 53) #[] #[(.pointer (some (⟨g306, 0, none⟩)))])] Try.func52 rfl rfl rfl ?_
        clear hA; intro a hA
        refine wp_seq ?_
        refine wp_region_lit ?_
        refine L1 (stv hA (by decide) (run_assign (hA.ev rfl)) ?_)
        clear hA; intro a hA
        refine LQ ?_
        refine TN ?_
        refine wp_seq ?_
        refine wp_seq ?_
        refine wp_region_lit ?_
        refine L1 (stv hA (by decide) (run_move (hA.ev rfl)) ?_)
        clear hA; intro a hA
        refine L1 (stv hA (by decide) (run_len_slice Try.underlying48 (hA.ev rfl)) ?_)
        clear hA; intro a hA
        refine L1 (stv hA (by decide) (run_move (hA.ev rfl)) ?_)
        clear hA; intro a hA
        refine LQ ?_
        refine TN ?_
        obtain ⟨o521, H520, H442⟩ := Option.bind_eq_some_iff.1 H442
        refine cutC (fun a w => (.go ()) = o521 ∧ Mem F w0 w [.box g309 53 (pLink.enc Link.z), .box g306 49 [(.slice A2 l_2.length c2)], .box g303 41 (List.flatten [pHash.enc b_0.Salt, [(.slice A0_1 b_0.Heard.length c0_1)], [(.slice A0_2 b_0.Tried.length c0_2)]])] ∧ Has 19 [] a) ?_ ?_
        · refine wp_block ?_
          refine wp_loop_ghost (fun m a w => ∃ (t519 : Int), connect_Choose.l0 anchors_1 l_2 m t519 = some o521 ∧ Mem F w0 w [.box g306 49 [(.slice A2 l_2.length c2)], .box g309 53 (pLink.enc Link.z), .box g303 41 (List.flatten [pHash.enc b_0.Salt, [(.slice A0_1 b_0.Heard.length c0_1)], [(.slice A0_2 b_0.Tried.length c0_2)]])] ∧ Has 19 [(0, (.slice A1 anchors_1.length c1)), (1, (.func (.func 53) #[] #[(.pointer (some (⟨g306, 0, none⟩)))])), (7, (.int .i64 ((anchors_1.length : Nat) : Int))), (8, (.int .i64 t519))] a) k ⟨0, H520, (hM.sel [1, 2, 0] rfl (by decide)), ((((hA.nil.cons (hA.get 8 _ rfl)).cons (hA.get 7 _ rfl)).cons (hA.get 1 _ rfl)).cons (hA.get 0 _ rfl))⟩ ?_
          clear hM hA; rintro m522 a w523 ⟨t519, H520, hM, hA⟩
          cases m522 with
          | zero => exact absurd H520 (by simp [connect_Choose.l0])
          | succ m522 =>
          rw [connect_Choose.l0] at H520
          refine wp_seq ?_
          refine wp_region_lit ?_
          refine L1 (stv hA (by decide) (run_bin (hA.ev rfl) (hA.ev rfl) (bin_lss _ _ _ _)) ?_)
          clear hA; intro a hA
          refine LQ ?_
          refine TN ?_
          refine wp_seq ?_
          refine tcond (b := (decide (t519 < ((anchors_1.length : Nat) : Int)))) hA rfl (fun hb524 => ?_) (fun hb524 => ?_)
          · replace H520 := ite_t hb524 H520
            refine wp_skip ?_
            refine TN ?_
            refine wp_seq ?_
            refine wp_block ?_
            refine wp_seq ?_
            refine wp_region_lit ?_
            refine L1 (stv hA (by decide) (run_move (hA.ev rfl)) ?_)
            clear hA; intro a hA
            refine L1 (stv hA (by decide) (run_assign (hA.ev rfl)) ?_)
            clear hA; intro a hA
            refine LQ ?_
            refine TN ?_
            refine wp_seq ?_
            refine wp_region_lit ?_
            refine L1 (stv hA (by decide) (run_move (hA.ev rfl)) ?_)
            clear hA; intro a hA
            refine L1 (stv hA (by decide) (run_move (hA.ev rfl)) ?_)
            clear hA; intro a hA
            refine L1 (stv hA (by decide) (run_move (hA.ev rfl)) ?_)
            clear hA; intro a hA
            obtain ⟨⟨hi525, hj526⟩, H520⟩ := ite_some H520
            obtain ⟨ad527, hq528, hat529⟩ := Row.elem' (p := pNAddr) (hM.ro hr1) (Eq.refl anchors_1.length) NAddr.z t519 hi525 hj526
            refine L1 (stv hA (by decide) (run_idx Try.underlying48 Try.sizeOf46 (hA.ev rfl) hq528 (hA.ev rfl) hi525 hj526) ?_)
            clear hA; intro a hA
            refine L1 (stv hA (by decide) (run_ld (hA.ev rfl) (run_loadP Try.isAgg46 Try.sizeOf46 hat529)) ?_)
            clear hA; intro a hA
            refine L1 (inl_callv (caps := [(.pointer (some (⟨g306, 0, none⟩)))]) Try.call53 hA rfl [(.agg (pNAddr.enc (anchors_1.getD t519.toNat NAddr.z)).toArray)] rfl (by decide) ?_)
            refine enterL (n := 8) [(.agg (pNAddr.enc (anchors_1.getD t519.toNat NAddr.z)).toArray), (.pointer (some (⟨g306, 0, none⟩)))] Try.func53 rfl rfl rfl ?_
            clear hA; intro a hA
            refine wp_seq ?_
            refine wp_region_lit ?_
            refine L1 (e_box (cs := (pNAddr.enc (anchors_1.getD t519.toNat NAddr.z))) hM hA rfl rfl (by decide) ?_)
            clear hM hA; intro w537 g536 hM hE  a hA
            refine L1 (stv hA (by decide) (run_assign (hA.ev rfl)) ?_)
            clear hA; intro a hA
            refine LQ ?_
            refine TN ?_
            refine wp_seq ?_
            refine wp_region_lit ?_
            refine L1 (stv hA (by decide) (run_ld (hA.ev rfl) (run_loadS Try.isAgg49 (hM.box (.s .z)))) ?_)
            clear hA; intro a hA
            refine L1 (stv hA (by decide) (run_ld (hA.ev rfl) (run_loadP Try.isAgg46 Try.sizeOf46 (hM.box .z))) ?_)
            clear hA; intro a hA
            obtain ⟨r539, H540, H520⟩ := Option.bind_eq_some_iff.1 H520
            refine L1 (st_call Try.call50 hA [(.slice A2 l_2.length c2), (.agg (pNAddr.enc (anchors_1.getD t519.toNat NAddr.z)).toArray)] rfl (by decide) (connect_met.calls _ _ _ _ _ _ _ ((RoV.mk (hM.roC (Ms := []) hr2) (Eq.refl l_2.length) hc2)) (hM.front (Ms := [])) H540) ?_)
            clear hA; rintro _ w541 ⟨rfl, hMc⟩ a hA
            have hE := hMc.below; have hM := hM.call (Ms := []) hMc
            clear hMc; simp only [List.cons_append, List.nil_append] at hM
            refine L1 (stv hA (by decide) (run_not (hA.ev rfl)) ?_)
            clear hA; intro a hA
            refine L1 (stv hA (by decide) (run_assign (hA.ev rfl)) ?_)
            clear hA; intro a hA
            refine LQ ?_
            refine TN ?_
            refine wp_ret ?_
            refine ret_post1 (fn := Try.f53) hA rfl rfl ⟨_, rfl, ?_⟩; clear hA; intro a hA
            refine LQ ?_
            refine TN ?_
            refine tcond (b := (!r539)) hA rfl (fun hb542 => ?_) (fun hb542 => ?_)
            · replace H520 := ite_t hb542 H520
              refine wp_seq ?_
              refine wp_region_lit ?_
              refine L1 (stv hA (by decide) (run_move (hA.ev rfl)) ?_)
              clear hA; intro a hA
              refine L1 (stv hA (by decide) (run_assign (hA.ev rfl)) ?_)
              clear hA; intro a hA
              refine LQ ?_
              refine TN ?_
              refine wp_ret ?_
              obtain rfl := Option.some.inj H520
              dsimp only at H442
              obtain rfl := Option.some.inj H442
              refine BR ?_
              refine TR ?_
              refine TR ?_
              refine BR ?_
              refine TR ?_
              refine TR ?_
              exact ret_post1 (fn := Try.f52) hA rfl rfl ⟨_, rfl, t519, rfl, rfl, (hM.sel [3, 1, 2] rfl (by decide))⟩
            · replace H520 := ite_f hb542 H520
              refine wp_skip ?_
              refine BN ?_
              refine TN ?_
              refine wp_region_lit ?_
              refine L1 (stv hA (by decide) (run_bin (hA.ev rfl) (hA.ev rfl) (bin_add _ _ _ _)) ?_)
              clear hA; intro a hA
              refine L1 (stv hA (by decide) (run_move (hA.ev rfl)) ?_)
              clear hA; intro a hA
              refine LQ ?_
              exact ⟨_, Nat.lt_succ_self m522, IntKind.i64.wrap (t519 + 1), H520, (hM.sel [1, 2, 3] rfl (by decide)), ((((hA.nil.cons (hA.get 8 _ rfl)).cons (hA.get 7 _ rfl)).cons (hA.get 1 _ rfl)).cons (hA.get 0 _ rfl))⟩
          · replace H520 := ite_f hb524 H520
            refine wp_exit ?_
            refine TX ?_
            refine TX ?_
            refine BX ?_
            exact ⟨Option.some.inj H520, (hM.sel [1, 0, 2] rfl (by decide)), hA.nil⟩
        clear hM hA
        rintro a w543 ⟨rfl, hM, hA⟩
        try dsimp only at H442
        refine TN ?_
        refine wp_seq ?_
        refine wp_region_lit ?_
        refine L1 (stv hA (by decide) (run_assign (hA.ev rfl)) ?_)
        clear hA; intro a hA
        refine LQ ?_
        refine TN ?_
        refine wp_ret ?_
        obtain rfl := Option.some.inj H442
        exact ret_post1 (fn := Try.f52) hA rfl rfl ⟨_, rfl, (-1), rfl, rfl, (hM.sel [2, 1, 0] rfl (by decide))⟩
      rintro e w544 ⟨_, rfl, ⟨t441, rfl, rfl, hM⟩⟩
      refine ⟨_, rfl, ?_⟩; clear hA; intro a hA; try dsimp only at H
      refine L1 (stv hA (by decide) (run_assign (hA.ev rfl)) ?_)
      clear hA; intro a hA
      refine LQ ?_
      refine TN ?_
      refine wp_seq ?_
      obtain ⟨o558, H557, H⟩ := Option.bind_eq_some_iff.1 H
      refine cutC (fun a w => ∃ (t556 : Bool), t556 = o558 ∧ Mem F w0 w [.box g303 41 (List.flatten [pHash.enc b_0.Salt, [(.slice A0_1 b_0.Heard.length c0_1)], [(.slice A0_2 b_0.Tried.length c0_2)]]), .box g306 49 [(.slice A2 l_2.length c2)], .box g309 53 (pLink.enc Link.z)] ∧ Has 70 [(1, (.slice A1 anchors_1.length c1)), (3, (.int .u64 draw_3)), (4, (.pointer (some (⟨g303, 0, none⟩)))), (6, (.pointer (some (⟨g306, 0, none⟩)))), (8, (.pointer (some (⟨g309, 0, none⟩)))), (10, (.int .i64 t441)), (36, (.bool t556))] a) ?_ ?_
      · refine wp_region_lit ?_
        refine L1 (stv hA (by decide) (run_move (hA.ev rfl)) ?_)
        clear hA; intro a hA
        refine L1 (stv hA (by decide) (run_bin (hA.ev rfl) (hA.ev rfl) (bin_geq _ _ _ _)) ?_)
        clear hA; intro a hA
        refine L1 (stv hA (by decide) (run_move (hA.ev rfl)) ?_)
        clear hA; intro a hA
        refine bsplit (b := (decide (t441 ≥ 0))) (fun hb559 => ?_) (fun hb559 => ?_)
        · replace H557 := ite_t hb559 H557
          have hA := hA.re (t := 32) rfl (congrArg Value.bool hb559)
          refine L1 (gate_on rfl rfl hA (by decide) rfl (stv hA (by decide) (run_ld (hA.ev rfl) (run_loadS Try.isAgg49 (hM.box (.s .z)))) ?_))
          clear hA; intro a hA
          obtain ⟨r560, H561, H557⟩ := Option.bind_eq_some_iff.1 H557
          refine L1 (gate_on rfl rfl hA (by decide) rfl (st_call Try.call54 hA [(.slice A2 l_2.length c2), (.int .i64 1)] rfl (by decide) (connect_count.calls _ _ _ _ _ _ _ ((RoV.mk (hM.roC (Ms := []) hr2) (Eq.refl l_2.length) hc2)) (hM.front (Ms := [])) H561) ?_))
          clear hA; rintro _ w562 ⟨rfl, hMc⟩ a hA
          have hE := hMc.below; have hM := hM.call (Ms := []) hMc
          clear hMc; simp only [List.cons_append, List.nil_append] at hM
          refine L1 (gate_on rfl rfl hA (by decide) rfl (stv hA (by decide) (run_bin (hA.ev rfl) (hA.ev rfl) (bin_lss _ _ _ _)) ?_))
          clear hA; intro a hA
          refine L1 (stv hA (by decide) (run_pick (hA.ev rfl) (fun _ => hA.ev rfl) (fun h => Bool.noConfusion h)) ?_)
          clear hA; intro a hA
          refine LQ ?_
          exact ⟨(decide (r560 < 2)), Option.some.inj H557, hM, (((((((hA.nil.cons (hA.get 36 _ rfl)).cons (hA.get 10 _ rfl)).cons (hA.get 8 _ rfl)).cons (hA.get 6 _ rfl)).cons (hA.get 4 _ rfl)).cons (hA.get 3 _ rfl)).cons (hA.get 1 _ rfl))⟩
        · replace H557 := ite_f hb559 H557
          have hA := hA.re (t := 32) rfl (congrArg Value.bool hb559)
          refine L1 (gate_off rfl (by decide) rfl hA (by decide) rfl rfl ?_); clear hA; intro a hA
          refine L1 (gate_off rfl (by decide) rfl hA (by decide) rfl rfl ?_); clear hA; intro a hA
          refine L1 (gate_off rfl (by decide) rfl hA (by decide) rfl rfl ?_); clear hA; intro a hA
          refine L1 (stv hA (by decide) (run_pick (hA.ev rfl) (fun h => Bool.noConfusion h) (fun _ => hA.ev rfl)) ?_)
          clear hA; intro a hA
          refine LQ ?_
          exact ⟨false, Option.some.inj H557, hM, (((((((hA.nil.cons (hA.get 36 _ rfl)).cons (hA.get 10 _ rfl)).cons (hA.get 8 _ rfl)).cons (hA.get 6 _ rfl)).cons (hA.get 4 _ rfl)).cons (hA.get 3 _ rfl)).cons (hA.get 1 _ rfl))⟩
      clear hM hA
      rintro a w563 ⟨t556, rfl, hM, hA⟩
      try dsimp only at H
      refine TN ?_
      refine tcond (b := t556) hA rfl (fun hb564 => ?_) (fun hb564 => ?_)
      · replace H := ite_t hb564 H
        refine wp_seq ?_
        refine wp_region_lit ?_
        refine L1 (stv hA (by decide) (run_move (hA.ev rfl)) ?_)
        clear hA; intro a hA
        refine L1 (stv hA (by decide) (run_move (hA.ev rfl)) ?_)
        clear hA; intro a hA
        obtain ⟨⟨hi565, hj566⟩, H⟩ := ite_some H
        obtain ⟨ad567, hq568, hat569⟩ := Row.elem' (p := pNAddr) (hM.ro hr1) (Eq.refl anchors_1.length) NAddr.z t441 hi565 hj566
        refine L1 (stv hA (by decide) (run_idx Try.underlying48 Try.sizeOf46 (hA.ev rfl) hq568 (hA.ev rfl) hi565 hj566) ?_)
        clear hA; intro a hA
        refine L1 (stv hA (by decide) (run_ld (hA.ev rfl) (run_loadP Try.isAgg46 Try.sizeOf46 hat569)) ?_)
        clear hA; intro a hA
        refine L1 (stv hA (by decide) (run_build [(0, (.int .i64 1)), (1, (.agg (pNAddr.enc (anchors_1.getD t441.toNat NAddr.z)).toArray))] zero53 Try.underlying53 (ss := [1, 3]) ⟨Try.sizeOf3, Try.sizeOf46, trivial⟩ hA rfl (fill_step rfl rfl (enc_fit _ _ rfl) (arr_eq (Link.spl_Kind _ _)) (fill_step rfl (by simp [Value.cells, Pl.len]; try rfl) (enc_fit _ _ rfl) (arr_eq (Link.spl_Addr_ _ _)) (fill_nil)))) ?_)
        clear hA; intro a hA
        refine L1 (e_store (g := g309) (off := 0) (cur := (pLink.enc Link.z)) (cs' := (pLink.enc (Link.mk 1 (anchors_1.getD t441.toNat NAddr.z)))) hM (.s (.s .z)) Try.sizeOf53 hA rfl (by simp [add_mk]) rfl (agg_size _ _) (agg_one _ _) (Nat.le_of_ble_eq_true (enc_fitL _ _ rfl)) (spl_all (by first | rfl | (simp [Value.cells, Pl.len]; done) | (simp [Value.cells, Pl.len]; rfl))) ?_)
        clear hM hA; intro w570  hM hE  a hA
        refine L1 (stv hA (by decide) (run_assign (hA.ev rfl)) ?_)
        clear hA; intro a hA
        refine LQ ?_
        refine TN ?_
        refine wp_ret ?_
        obtain rfl := Option.some.inj H
        refine TR ?_
        exact ret_mix2 (fn := Try.f27) hA rfl (RV.cell rfl (run_loadP Try.isAgg53 Try.sizeOf53 (hM.box (.s (.s .z))))) (RV.tmp rfl) ⟨_, rfl, rfl, (hM.sel [] rfl (by decide))⟩
      · replace H := ite_f hb564 H
        refine wp_skip ?_
        refine TN ?_
        refine wp_seq ?_
        refine wp_region_lit ?_
        refine L1 (stv hA (by decide) (run_ld (hA.ev rfl) (run_loadS Try.isAgg49 (hM.box (.s .z)))) ?_)
        clear hA; intro a hA
        obtain ⟨r571, H572, H⟩ := Option.bind_eq_some_iff.1 H
        refine L1 (st_call Try.call54 hA [(.slice A2 l_2.length c2), (.int .i64 3)] rfl (by decide) (connect_count.calls _ _ _ _ _ _ _ ((RoV.mk (hM.roC (Ms := []) hr2) (Eq.refl l_2.length) hc2)) (hM.front (Ms := [])) H572) ?_)
        clear hA; rintro _ w573 ⟨rfl, hMc⟩ a hA
        have hE := hMc.below; have hM := hM.call (Ms := []) hMc
        clear hMc; simp only [List.cons_append, List.nil_append] at hM
        refine L1 (stv hA (by decide) (run_assign (hA.ev rfl)) ?_)
        clear hA; intro a hA
        refine L1 (stv hA (by decide) (run_assign (hA.ev rfl)) ?_)
        clear hA; intro a hA
        refine LQ ?_
        refine TN ?_
        refine wp_seq ?_
        refine wp_seq ?_
        refine wp_region_lit ?_
        refine L1 (stv hA (by decide) (run_ld (hA.ev rfl) (run_loadS Try.isAgg49 (hM.box (.s .z)))) ?_)
        clear hA; intro a hA
        refine L1 (stv hA (by decide) (run_len_slice Try.underlying49 (hA.ev rfl)) ?_)
        clear hA; intro a hA
        refine L1 (stv hA (by decide) (run_move (hA.ev rfl)) ?_)
        clear hA; intro a hA
        refine L1 (stv hA (by decide) (run_bin (hA.ev rfl) (hA.ev rfl) (bin_sub _ _ _ _)) ?_)
        clear hA; intro a hA
        refine L1 (stv hA (by decide) (run_bin (hA.ev rfl) (hA.ev rfl) (bin_geq _ _ _ _)) ?_)
        clear hA; intro a hA
        refine LQ ?_
        refine TN ?_
        obtain ⟨o584, H583, H⟩ := Option.bind_eq_some_iff.1 H
        refine cutC (fun a w => ∃ (kind582 : Int), (.go kind582) = o584 ∧ Mem F w0 w [.box g303 41 (List.flatten [pHash.enc b_0.Salt, [(.slice A0_1 b_0.Heard.length c0_1)], [(.slice A0_2 b_0.Tried.length c0_2)]]), .box g306 49 [(.slice A2 l_2.length c2)], .box g309 53 (pLink.enc Link.z)] ∧ Has 70 [(3, (.int .u64 draw_3)), (4, (.pointer (some (⟨g303, 0, none⟩)))), (6, (.pointer (some (⟨g306, 0, none⟩)))), (8, (.pointer (some (⟨g309, 0, none⟩)))), (11, (.int .i64 kind582))] a) ?_ ?_
        · refine tcond (b := (decide ((IntKind.i64.wrap (((l_2.length : Nat) : Int) - r571)) ≥ 7))) hA rfl (fun hb585 => ?_) (fun hb585 => ?_)
          · replace H583 := ite_t hb585 H583
            refine wp_seq ?_
            refine wp_region_lit ?_
            refine L1 (stv hA (by decide) (run_assign (hA.ev rfl)) ?_)
            clear hA; intro a hA
            refine LQ ?_
            refine TN ?_
            refine wp_seq ?_
            refine wp_region_lit ?_
            refine L1 (stv hA (by decide) (run_move (hA.ev rfl)) ?_)
            clear hA; intro a hA
            refine L1 (stv hA (by decide) (run_bin (hA.ev rfl) (hA.ev rfl) (bin_gtr _ _ _ _)) ?_)
            clear hA; intro a hA
            refine LQ ?_
            refine TN ?_
            refine tcond (b := (decide (r571 > 0))) hA rfl (fun hb586 => ?_) (fun hb586 => ?_)
            · replace H583 := ite_t hb586 H583
              refine wp_seq ?_
              refine wp_region_lit ?_
              refine L1 (stv hA (by decide) (run_build [] zero53 Try.underlying53 (ss := [1, 3]) ⟨Try.sizeOf3, Try.sizeOf46, trivial⟩ hA rfl (fill_nil)) ?_)
              clear hA; intro a hA
              refine L1 (e_store (g := g309) (off := 0) (cur := (pLink.enc Link.z)) (cs' := (pLink.enc (Link.z))) hM (.s (.s .z)) Try.sizeOf53 hA rfl (by simp [add_mk]) rfl (agg_size _ _) (agg_one _ _) (Nat.le_of_ble_eq_true (enc_fitL _ _ rfl)) (spl_all (by first | rfl | (simp [Value.cells, Pl.len]; done) | (simp [Value.cells, Pl.len]; rfl))) ?_)
              clear hM hA; intro w587  hM hE  a hA
              refine L1 (stv hA (by decide) (run_assign (hA.ev rfl)) ?_)
              clear hA; intro a hA
              refine LQ ?_
              refine TN ?_
              refine wp_ret ?_
              obtain rfl := Option.some.inj H583
              dsimp only at H
              obtain rfl := Option.some.inj H
              refine TR ?_
              refine TR ?_
              exact ret_mix2 (fn := Try.f27) hA rfl (RV.cell rfl (run_loadP Try.isAgg53 Try.sizeOf53 (hM.box (.s (.s .z))))) (RV.tmp rfl) ⟨_, rfl, rfl, (hM.sel [] rfl (by decide))⟩
            · replace H583 := ite_f hb586 H583
              refine wp_skip ?_
              exact ⟨3, Option.some.inj H583, hM, (((((hA.nil.cons (hA.get 11 _ rfl)).cons (hA.get 8 _ rfl)).cons (hA.get 6 _ rfl)).cons (hA.get 4 _ rfl)).cons (hA.get 3 _ rfl))⟩
          · replace H583 := ite_f hb585 H583
            refine wp_skip ?_
            exact ⟨2, Option.some.inj H583, hM, (((((hA.nil.cons (hA.get 11 _ rfl)).cons (hA.get 8 _ rfl)).cons (hA.get 6 _ rfl)).cons (hA.get 4 _ rfl)).cons (hA.get 3 _ rfl))⟩
        clear hM hA
        rintro a w588 ⟨kind582, rfl, hM, hA⟩
        try dsimp only at H
        refine TN ?_
        refine wp_seq ?_
        refine wp_region_lit ?_
        refine L1 (stv hA (by decide) (run_ld (hA.ev rfl) (run_loadW Try.isAgg41 Try.sizeOf41 (by simp [Pl.len]; try rfl) (hM.box .z))) ?_)
        clear hA; intro a hA
        refine L1 (stv hA (by decide) (run_ld (hA.ev rfl) (run_loadS Try.isAgg49 (hM.box (.s .z)))) ?_)
        clear hA; intro a hA
        refine L1 (stv hA (by decide) (run_move (hA.ev rfl)) ?_)
        clear hA; intro a hA
        obtain ⟨r589, H590, H⟩ := Option.bind_eq_some_iff.1 H
        refine L1 (st_call Try.call26 hA [(.agg (List.flatten [pHash.enc b_0.Salt, [(.slice A0_1 b_0.Heard.length c0_1)], [(.slice A0_2 b_0.Tried.length c0_2)]]).toArray), (.slice A2 l_2.length c2), (.int .i64 kind582)] rfl (by decide) (connect_Candidates.calls _ (Book.mk b_0.Salt b_0.Heard b_0.Tried) _ _ _ _ _ _ _ _ ((RoV.mk (hM.roC (Ms := []) hr0_1) (Eq.refl b_0.Heard.length) hc0_1)) ((RoV.mk (hM.roC (Ms := []) hr0_2) (Eq.refl b_0.Tried.length) hc0_2)) ((RoV.mk (hM.roC (Ms := []) hr2) (Eq.refl l_2.length) hc2)) (hM.front (Ms := [])) H590) ?_)
        clear hA; rintro _ w591 ⟨v592, rfl, hMc⟩ a hA
        have hE := hMc.below; have hM := hM.call (Ms := []) hMc
        clear hMc; simp only [List.cons_append, List.nil_append] at hM
        obtain ⟨A594, c595, rfl⟩ := RowOk.form (hM.row (p := pNAddr) .z)
        refine L1 (stv hA (by decide) (run_assign (hA.ev rfl)) ?_)
        clear hA; intro a hA
        refine LQ ?_
        refine TN ?_
        refine wp_seq ?_
        refine wp_seq ?_
        refine wp_region_lit ?_
        refine L1 (stv hA (by decide) (run_move (hA.ev rfl)) ?_)
        clear hA; intro a hA
        refine L1 (stv hA (by decide) (run_len_slice Try.underlying48 (hA.ev rfl)) ?_)
        clear hA; intro a hA
        refine L1 (stv hA (by decide) (run_bin (hA.ev rfl) (hA.ev rfl) (bin_eql _ _ _ _)) ?_)
        clear hA; intro a hA
        refine LQ ?_
        refine TN ?_
        refine tcond (b := (((r589.length : Nat) : Int) == 0)) hA rfl (fun hb596 => ?_) (fun hb596 => ?_)
        · replace H := ite_t hb596 H
          refine wp_seq ?_
          refine wp_region_lit ?_
          refine L1 (stv hA (by decide) (run_build [] zero53 Try.underlying53 (ss := [1, 3]) ⟨Try.sizeOf3, Try.sizeOf46, trivial⟩ hA rfl (fill_nil)) ?_)
          clear hA; intro a hA
          refine L1 (e_store (g := g309) (off := 0) (cur := (pLink.enc Link.z)) (cs' := (pLink.enc (Link.z))) hM (.s (.s (.s .z))) Try.sizeOf53 hA rfl (by simp [add_mk]) rfl (agg_size _ _) (agg_one _ _) (Nat.le_of_ble_eq_true (enc_fitL _ _ rfl)) (spl_all (by first | rfl | (simp [Value.cells, Pl.len]; done) | (simp [Value.cells, Pl.len]; rfl))) ?_)
          clear hM hA; intro w597  hM hE  a hA
          refine L1 (stv hA (by decide) (run_assign (hA.ev rfl)) ?_)
          clear hA; intro a hA
          refine LQ ?_
          refine TN ?_
          refine wp_ret ?_
          obtain rfl := Option.some.inj H
          refine TR ?_
          exact ret_mix2 (fn := Try.f27) hA rfl (RV.cell rfl (run_loadP Try.isAgg53 Try.sizeOf53 (hM.box (.s (.s (.s .z)))))) (RV.tmp rfl) ⟨_, rfl, rfl, (hM.sel [] rfl (by decide))⟩
        · replace H := ite_f hb596 H
          refine wp_skip ?_
          refine TN ?_
          refine wp_seq ?_
          refine wp_region_lit ?_
          refine L1 (stv hA (by decide) (run_move (hA.ev rfl)) ?_)
          clear hA; intro a hA
          refine L1 (stv hA (by decide) (run_move (hA.ev rfl)) ?_)
          clear hA; intro a hA
          refine L1 (stv hA (by decide) (run_move (hA.ev rfl)) ?_)
          clear hA; intro a hA
          refine L1 (stv hA (by decide) (run_move (hA.ev rfl)) ?_)
          clear hA; intro a hA
          refine L1 (stv hA (by decide) (run_len_slice Try.underlying48 (hA.ev rfl)) ?_)
          clear hA; intro a hA
          refine L1 (stv hA (by decide) (run_conv Try.underlying3 Try.underlying22 (hA.ev rfl)) ?_)
          clear hA; intro a hA
          obtain ⟨hd598, H⟩ := ite_some H
          refine L1 (stv hA (by decide) (run_bin (hA.ev rfl) (hA.ev rfl) (bin_rem _ _ _ _ hd598)) ?_)
          clear hA; intro a hA
          obtain ⟨⟨hi599, hj600⟩, H⟩ := ite_some H
          obtain ⟨ad601, hq602, hat603⟩ := Row.elem' (p := pNAddr) (RowOk.row (hM.row (p := pNAddr) .z)) (RowOk.len (hM.row (p := pNAddr) .z)) NAddr.z (draw_3.tmod (IntKind.u64.wrap ((r589.length : Nat) : Int))) hi599 hj600
          refine L1 (stv hA (by decide) (run_idx Try.underlying48 Try.sizeOf46 (hA.ev rfl) hq602 (hA.ev rfl) hi599 hj600) ?_)
          clear hA; intro a hA
          refine L1 (stv hA (by decide) (run_ld (hA.ev rfl) (run_loadP Try.isAgg46 Try.sizeOf46 hat603)) ?_)
          clear hA; intro a hA
          refine L1 (stv hA (by decide) (run_build [(0, (.int .i64 kind582)), (1, (.agg (pNAddr.enc (r589.getD (draw_3.tmod (IntKind.u64.wrap ((r589.length : Nat) : Int))).toNat NAddr.z)).toArray))] zero53 Try.underlying53 (ss := [1, 3]) ⟨Try.sizeOf3, Try.sizeOf46, trivial⟩ hA rfl (fill_step rfl rfl (enc_fit _ _ rfl) (arr_eq (Link.spl_Kind _ _)) (fill_step rfl (by simp [Value.cells, Pl.len]; try rfl) (enc_fit _ _ rfl) (arr_eq (Link.spl_Addr_ _ _)) (fill_nil)))) ?_)
          clear hA; intro a hA
          refine L1 (e_store (g := g309) (off := 0) (cur := (pLink.enc Link.z)) (cs' := (pLink.enc (Link.mk kind582 (r589.getD (draw_3.tmod (IntKind.u64.wrap ((r589.length : Nat) : Int))).toNat NAddr.z)))) hM (.s (.s (.s .z))) Try.sizeOf53 hA rfl (by simp [add_mk]) rfl (agg_size _ _) (agg_one _ _) (Nat.le_of_ble_eq_true (enc_fitL _ _ rfl)) (spl_all (by first | rfl | (simp [Value.cells, Pl.len]; done) | (simp [Value.cells, Pl.len]; rfl))) ?_)
          clear hM hA; intro w604  hM hE  a hA
          refine L1 (stv hA (by decide) (run_assign (hA.ev rfl)) ?_)
          clear hA; intro a hA
          refine LQ ?_
          refine TN ?_
          refine wp_ret ?_
          obtain rfl := Option.some.inj H
          exact ret_mix2 (fn := Try.f27) hA rfl (RV.cell rfl (run_loadP Try.isAgg53 Try.sizeOf53 (hM.box (.s (.s (.s .z)))))) (RV.tmp rfl) ⟨_, rfl, rfl, (hM.sel [] rfl (by decide))⟩

def slices_Clone_LinkN.f (k : Nat) (s_0 : (List Link)) (nl0 : Bool) : Option (List Link) := (if nl0 = true then (some ([] : List Link)) else (if (0 + s_0.length) * 24 ≤ 140737488355328 then (some (([] : List Link) ++ s_0)) else none))
set_option maxHeartbeats 2000000 in
set_option maxRecDepth 100000 in
theorem slices_Clone_LinkN.calls (k : Nat) (s_0 : (List Link)) (nl0 : Bool) (F : List (Option Nat)) (v0 : Value) (r : (List Link)) (w0 : World) (h0 : RoV F pLink w0 v0 s_0) (hnl0 : ∀ A q c, v0 = .slice A q c → A.isNone = nl0) (hM : Mem F w0 w0 []) (H : slices_Clone_LinkN.f k s_0 nl0 = some r) :
    Calls Try.prog 70 #[v0] w0 fun e w' => ∃ v, e = .returned v ∧ ∃ (ur_0 : Value), v = ur_0 ∧ Mem F w0 w' [.row 53 pLink.sz ur_0 (pLink.flat r)] := by
  unfold slices_Clone_LinkN.f at H
  obtain ⟨A0, c0, rfl, hr0, hc0⟩ := h0
  have hn0 := hnl0 _ _ _ rfl
  refine enterL (n := 8) [(.slice A0 s_0.length c0)] Try.func70 rfl rfl rfl ?_
  intro a hA
  refine wp_seq ?_
  refine wp_region_lit ?_
  refine L1 (stv hA (by decide) (run_assign (hA.ev rfl)) ?_)
  clear hA; intro a hA
  refine LQ ?_
  refine TN ?_
  refine wp_seq ?_
  refine wp_seq ?_
  refine wp_region_lit ?_
  refine L1 (stv hA (by decide) (run_move (hA.ev rfl)) ?_)
  clear hA; intro a hA
  refine L1 (stv hA (by decide) (run_slnil Try.underlying49 (hA.ev rfl) (hA.ev rfl) hn0) ?_)
  clear hA; intro a hA
  refine LQ ?_
  refine TN ?_
  refine tcond (b := nl0) hA rfl (fun hb9 => ?_) (fun hb9 => ?_)
  · replace H := ite_t hb9 H
    refine wp_seq ?_
    refine wp_region_lit ?_
    refine L1 (stv hA (by decide) (run_assign (hA.ev rfl)) ?_)
    clear hA; intro a hA
    refine LQ ?_
    refine TN ?_
    refine wp_ret ?_
    have hM := hM.addnil 53 (pLink).sz
    obtain rfl := Option.some.inj H
    refine TR ?_
    exact ret_post1 (fn := Try.f70) hA rfl rfl ⟨_, rfl, (.slice none 0 0), rfl, hM⟩
  · replace H := ite_f hb9 H
    refine wp_skip ?_
    refine TN ?_
    refine wp_seq ?_
    refine wp_region_lit ?_
    refine L1 (e_lit0 elt49 hM hA (by decide) ?_)
    clear hM hA; intro w12 g11 hM hE  a hA
    refine L1 (stv hA (by decide) (run_move (hA.ev rfl)) ?_)
    clear hA; intro a hA
    obtain ⟨hl16, H⟩ := ite_some H
    refine L1 (e_append elt49 hM (fun _ => .z) (Src.row Try.underlying49 (hM.ro hr0) (Eq.refl s_0.length)) hl16 hA rfl rfl (by decide) ?_)
    clear hM hA; intro w17 A14 c15 hM hE  a hA
    refine L1 (stv hA (by decide) (run_assign (hA.ev rfl)) ?_)
    clear hA; intro a hA
    refine LQ ?_
    refine TN ?_
    refine wp_ret ?_
    obtain rfl := Option.some.inj H
    exact ret_post1 (fn := Try.f70) hA rfl rfl ⟨_, rfl, (.slice A14 (0 + s_0.length) c15), rfl, hM⟩

def slices_Clone_Link.f (k : Nat) (s_0 : (List Link)) : Option (List Link) := (if s_0.length * 24 ≤ 140737488355328 then (some s_0) else none)
theorem slices_Clone_Link.calls (k : Nat) (s_0 : (List Link)) (F : List (Option Nat)) (v0 : Value) (r : (List Link)) (w0 : World) (h0 : RoV F pLink w0 v0 s_0) (hM : Mem F w0 w0 []) (H : slices_Clone_Link.f k s_0 = some r) :
    Calls Try.prog 70 #[v0] w0 fun e w' => ∃ v, e = .returned v ∧ ∃ (ur_0 : Value), v = ur_0 ∧ Mem F w0 w' [.row 53 pLink.sz ur_0 (pLink.flat r)] := by
  obtain ⟨A, c, rfl, hr, hc⟩ := h0
  refine slices_Clone_LinkN.calls k s_0 A.isNone F _ r w0 ⟨A, c, rfl, hr, hc⟩ (fun A' q c' e => by cases e; rfl) hM ?_
  unfold slices_Clone_Link.f at H
  unfold slices_Clone_LinkN.f
  cases A with
  | none =>
    have e : s_0 = [] := hr.1.1 rfl
    subst e
    simpa using H
  | some ad => simpa using H

def connect_Open.f (k : Nat) (l_0 : (List Link)) (n_1 : Link) : Option ((List Link) × Int) := (Option.bind (α := Bool) ((connect_Sound.f k l_0).bind fun r151 => (if (!r151) = true then (some true) else ((connect_known.f k n_1.Kind).bind fun r155 => (some (!r155))))) (fun t148 => (if t148 = true then (some (([] : List Link), 6)) else ((connect_met.f k l_0 n_1.Addr_).bind fun r161 => (if r161 = true then (some (([] : List Link), 350)) else (if (decide (((l_0.length : Nat) : Int) ≥ 8)) = true then (some (([] : List Link), 380)) else (Option.bind (α := (List Link)) ((slices_Clone_Link.f k l_0).bind fun r225 => (if (r225.length + 1) * 24 ≤ 140737488355328 then (some (r225 ++ [n_1])) else none)) (fun xs220 => (some (xs220, 0))))))))))
set_option maxHeartbeats 2000000 in
set_option maxRecDepth 100000 in
theorem connect_Open.calls (k : Nat) (l_0 : (List Link)) (n_1 : Link) (F : List (Option Nat)) (v0 : Value) (r : ((List Link) × Int)) (w0 : World) (h0 : RoV F pLink w0 v0 l_0) (hM : Mem F w0 w0 []) (H : connect_Open.f k l_0 n_1 = some r) :
    Calls Try.prog 45 #[v0, (.agg (pLink.enc n_1).toArray)] w0 fun e w' => ∃ v, e = .returned v ∧ ∃ (ur_0 : Value), v = (.tuple #[ur_0, (.int .i64 r.2)]) ∧ Mem F w0 w' [.row 53 pLink.sz ur_0 (pLink.flat r.1)] := by
  unfold connect_Open.f at H
  obtain ⟨A0, c0, rfl, hr0, hc0⟩ := h0
  refine enterL (n := 30) [(.slice A0 l_0.length c0), (.agg (pLink.enc n_1).toArray)] Try.func45 rfl rfl rfl ?_
  intro a hA
  refine wp_seq ?_
  refine wp_region_lit ?_
  refine L1 (e_box (cs := (pLink.enc n_1)) hM hA rfl rfl (by decide) ?_)
  clear hM hA; intro w136 g135 hM hE  a hA
  refine L1 (stv hA (by decide) (run_assign (hA.ev rfl)) ?_)
  clear hA; intro a hA
  refine L1 (stv hA (by decide) (run_assign (hA.ev rfl)) ?_)
  clear hA; intro a hA
  refine LQ ?_
  refine TN ?_
  refine wp_seq ?_
  refine wp_block ?_
  refine wp_seq ?_
  obtain ⟨o150, H149, H⟩ := Option.bind_eq_some_iff.1 H
  refine cutC (fun a w => ∃ (t148 : Bool), t148 = o150 ∧ Mem F w0 w [.box g135 53 (pLink.enc n_1)] ∧ Has 30 [(0, (.slice A0 l_0.length c0)), (3, (.pointer (some (⟨g135, 0, none⟩)))), (6, (.bool t148))] a) ?_ ?_
  · refine wp_region_lit ?_
    refine L1 (stv hA (by decide) (run_move (hA.ev rfl)) ?_)
    clear hA; intro a hA
    obtain ⟨r151, H152, H149⟩ := Option.bind_eq_some_iff.1 H149
    refine L1 (st_call Try.call25 hA [(.slice A0 l_0.length c0)] rfl (by decide) (connect_Sound.calls _ _ _ _ _ _ ((RoV.mk (hM.roC (Ms := []) hr0) (Eq.refl l_0.length) hc0)) (hM.front (Ms := [])) H152) ?_)
    clear hA; rintro _ w153 ⟨rfl, hMc⟩ a hA
    have hE := hMc.below; have hM := hM.call (Ms := []) hMc
    clear hMc; simp only [List.cons_append, List.nil_append] at hM
    refine L1 (stv hA (by decide) (run_not (hA.ev rfl)) ?_)
    clear hA; intro a hA
    refine L1 (stv hA (by decide) (run_move (hA.ev rfl)) ?_)
    clear hA; intro a hA
    refine bsplit (b := (!r151)) (fun hb154 => ?_) (fun hb154 => ?_)
    · replace H149 := ite_t hb154 H149
      have hA := hA.re (t := 10) rfl (congrArg Value.bool hb154)
      refine L1 (gate_off rfl (by decide) rfl hA (by decide) rfl rfl ?_); clear hA; intro a hA
      refine L1 (gate_off rfl (by decide) rfl hA (by decide) rfl rfl ?_); clear hA; intro a hA
      refine L1 (gate_off rfl (by decide) rfl hA (by decide) rfl rfl ?_); clear hA; intro a hA
      refine L1 (gate_off rfl (by decide) rfl hA (by decide) rfl rfl ?_); clear hA; intro a hA
      refine L1 (stv hA (by decide) (run_pick (hA.ev rfl) (fun _ => hA.ev rfl) (fun h => Bool.noConfusion h)) ?_)
      clear hA; intro a hA
      refine L1 (stv hA (by decide) (run_assign (hA.ev rfl)) ?_)
      clear hA; intro a hA
      refine LQ ?_
      exact ⟨true, Option.some.inj H149, hM, (((hA.nil.cons (hA.get 6 _ rfl)).cons (hA.get 3 _ rfl)).cons (hA.get 0 _ rfl))⟩
    · replace H149 := ite_f hb154 H149
      have hA := hA.re (t := 10) rfl (congrArg Value.bool hb154)
      refine L1 (gate_on rfl rfl hA (by decide) rfl (stv hA (by decide) (run_field' Try.underlying53 rfl rfl Try.sizeOf3 (by decide) (hA.ev rfl)) ?_))
      clear hA; intro a hA
      refine L1 (gate_on rfl rfl hA (by decide) rfl (stv hA (by decide) (run_ld (hA.ev rfl) (run_loadS Try.isAgg3 (Link.at_Kind (hM.box .z)))) ?_))
      clear hA; intro a hA
      obtain ⟨r155, H156, H149⟩ := Option.bind_eq_some_iff.1 H149
      refine L1 (gate_on rfl rfl hA (by decide) rfl (st_call Try.call49 hA [(.int .i64 n_1.Kind)] rfl (by decide) (connect_known.calls _ _ _ _ _ (hM.front (Ms := [])) H156) ?_))
      clear hA; rintro _ w157 ⟨rfl, hMc⟩ a hA
      have hE := hMc.below; have hM := hM.call (Ms := []) hMc
      clear hMc; simp only [List.cons_append, List.nil_append] at hM
      refine L1 (gate_on rfl rfl hA (by decide) rfl (stv hA (by decide) (run_not (hA.ev rfl)) ?_))
      clear hA; intro a hA
      refine L1 (stv hA (by decide) (run_pick (hA.ev rfl) (fun h => Bool.noConfusion h) (fun _ => hA.ev rfl)) ?_)
      clear hA; intro a hA
      refine L1 (stv hA (by decide) (run_assign (hA.ev rfl)) ?_)
      clear hA; intro a hA
      refine LQ ?_
      exact ⟨(!r155), Option.some.inj H149, hM, (((hA.nil.cons (hA.get 6 _ rfl)).cons (hA.get 3 _ rfl)).cons (hA.get 0 _ rfl))⟩
  clear hM hA
  rintro a w158 ⟨t148, rfl, hM, hA⟩
  try dsimp only at H
  refine TN ?_
  refine tcond (b := t148) hA rfl (fun hb159 => ?_) (fun hb159 => ?_)
  · replace H := ite_t hb159 H
    refine wp_seq ?_
    refine wp_region_lit ?_
    refine L1 (stv hA (by decide) (run_assign (hA.ev rfl)) ?_)
    clear hA; intro a hA
    refine L1 (stv hA (by decide) (run_assign (hA.ev rfl)) ?_)
    clear hA; intro a hA
    refine LQ ?_
    refine TN ?_
    refine wp_ret ?_
    have hM := hM.addnil 53 (pLink).sz
    obtain rfl := Option.some.inj H
    refine BR ?_
    refine TR ?_
    exact ret_post2 (fn := Try.f45) hA rfl rfl rfl ⟨_, rfl, (.slice none 0 0), rfl, (hM.sel [0] rfl (by decide))⟩
  · replace H := ite_f hb159 H
    refine wp_seq ?_
    refine wp_region_lit ?_
    refine L1 (stv hA (by decide) (run_move (hA.ev rfl)) ?_)
    clear hA; intro a hA
    refine L1 (stv hA (by decide) (run_field' Try.underlying53 rfl rfl Try.sizeOf46 (by decide) (hA.ev rfl)) ?_)
    clear hA; intro a hA
    refine L1 (stv hA (by decide) (run_ld (hA.ev rfl) (run_loadP Try.isAgg46 Try.sizeOf46 (Link.at_Addr_ (hM.box .z)))) ?_)
    clear hA; intro a hA
    obtain ⟨r161, H162, H⟩ := Option.bind_eq_some_iff.1 H
    refine L1 (st_call Try.call50 hA [(.slice A0 l_0.length c0), (.agg (pNAddr.enc n_1.Addr_).toArray)] rfl (by decide) (connect_met.calls _ _ _ _ _ _ _ ((RoV.mk (hM.roC (Ms := []) hr0) (Eq.refl l_0.length) hc0)) (hM.front (Ms := [])) H162) ?_)
    clear hA; rintro _ w163 ⟨rfl, hMc⟩ a hA
    have hE := hMc.below; have hM := hM.call (Ms := []) hMc
    clear hMc; simp only [List.cons_append, List.nil_append] at hM
    refine L1 (stv hA (by decide) (run_assign (hA.ev rfl)) ?_)
    clear hA; intro a hA
    refine LQ ?_
    refine TN ?_
    refine tcond (b := r161) hA rfl (fun hb164 => ?_) (fun hb164 => ?_)
    · replace H := ite_t hb164 H
      refine wp_seq ?_
      refine wp_region_lit ?_
      refine L1 (stv hA (by decide) (run_assign (hA.ev rfl)) ?_)
      clear hA; intro a hA
      refine L1 (stv hA (by decide) (run_assign (hA.ev rfl)) ?_)
      clear hA; intro a hA
      refine LQ ?_
      refine TN ?_
      refine wp_ret ?_
      have hM := hM.addnil 53 (pLink).sz
      obtain rfl := Option.some.inj H
      refine BR ?_
      refine TR ?_
      exact ret_post2 (fn := Try.f45) hA rfl rfl rfl ⟨_, rfl, (.slice none 0 0), rfl, (hM.sel [0] rfl (by decide))⟩
    · replace H := ite_f hb164 H
      refine wp_seq ?_
      refine wp_region_lit ?_
      refine L1 (stv hA (by decide) (run_move (hA.ev rfl)) ?_)
      clear hA; intro a hA
      refine L1 (stv hA (by decide) (run_len_slice Try.underlying49 (hA.ev rfl)) ?_)
      clear hA; intro a hA
      refine L1 (stv hA (by decide) (run_bin (hA.ev rfl) (hA.ev rfl) (bin_geq _ _ _ _)) ?_)
      clear hA; intro a hA
      refine L1 (stv hA (by decide) (run_assign (hA.ev rfl)) ?_)
      clear hA; intro a hA
      refine LQ ?_
      refine TN ?_
      refine tcond (b := (decide (((l_0.length : Nat) : Int) ≥ 8))) hA rfl (fun hb166 => ?_) (fun hb166 => ?_)
      · replace H := ite_t hb166 H
        refine wp_seq ?_
        refine wp_region_lit ?_
        refine L1 (stv hA (by decide) (run_assign (hA.ev rfl)) ?_)
        clear hA; intro a hA
        refine L1 (stv hA (by decide) (run_assign (hA.ev rfl)) ?_)
        clear hA; intro a hA
        refine LQ ?_
        refine TN ?_
        refine wp_ret ?_
        have hM := hM.addnil 53 (pLink).sz
        obtain rfl := Option.some.inj H
        refine BR ?_
        refine TR ?_
        exact ret_post2 (fn := Try.f45) hA rfl rfl rfl ⟨_, rfl, (.slice none 0 0), rfl, (hM.sel [0] rfl (by decide))⟩
      · replace H := ite_f hb166 H
        refine wp_skip ?_
        refine BN ?_
        refine TN ?_
        refine wp_seq ?_
        obtain ⟨o223, H222, H⟩ := Option.bind_eq_some_iff.1 H
        refine cutC (fun a w => ∃ (xs220 : (List Link)) (v217 : Value), xs220 = o223 ∧ Mem F w0 w [.row 53 pLink.sz v217 (pLink.flat xs220)] ∧ Has 30 [(4, v217), (5, (.int .i64 0))] a) ?_ ?_
        · obtain ⟨r225, H226, H222⟩ := Option.bind_eq_some_iff.1 H222
          obtain ⟨hl238, H222⟩ := ite_some H222
          refine draw (fun w' => Below w163.heap.size w163 w') [] rfl ?_
          intro w242 hw hS; replace hM := hM.ext hS; clear hw
          refine d_takef (i := 0) (L' := #[tT,fF,fF,fF,fF,fF,fF]) rfl (by kernel_rfl) rfl (fun _ _ _ h => h) hA (by decide) (fun _ => hS) (fun a w' hA => run_move (hA.ev rfl)) ?_; clear hA; intro a hA
          refine rebase hS ?_; clear hS; intro hS
          refine d_take (i := 2) (L' := #[tT,fF,tT,fF,fF,fF,fF]) rfl (by kernel_rfl) rfl (fun _ _ _ h => h) hA (by decide) rfl hS (fun a w' hA hS' => run_ld (hA.ev rfl) (run_loadP Try.isAgg53 Try.sizeOf53 ((hM.box .z).extB hS'))) ?_; clear hA; intro a hA
          refine d_many (is := [1, 3]) (by kernel_rfl) (by decide) ⟨?_, ?_, trivial⟩
          · refine d_op (i := 1) (L' := #[tT,tT,tT,fF,fF,fF,fF]) rfl rfl (st_call Try.call70 hA [(.slice A0 l_0.length c0)] rfl (by decide) (slices_Clone_Link.calls _ _ _ _ _ _ ((RoV.mk (hM.roC (Ms := []) hr0) (Eq.refl l_0.length) hc0)) (hM.front (Ms := [])) H226) ?_)
            clear hA; rintro _ w243 ⟨v244, rfl, hMc⟩ a hA
            have hE := hMc.below; have hM := hM.call (Ms := []) hMc
            have hlw245 : ∀ k, _ → w242.heap.size ≤ k := fun k hk => Nat.le_trans hS.size ((hMc.low _ (List.Mem.head _) k hk).resolve_right (by simp))
            clear hMc; simp only [List.cons_append, List.nil_append] at hM
            obtain ⟨A246, c247, rfl⟩ := RowOk.form (hM.row (p := pLink) .z)
            replace hS := hS.trans (hE.mono hS.size)
            refine ⟨fun _ => hS, ?_⟩
            refine d_one (i := 3) (L' := #[tT,tT,tT,tT,fF,fF,fF]) (by kernel_rfl) rfl rfl (e_litNL [n_1] [(.agg (pLink.enc n_1).toArray)] elt49 hM rfl (by decide) hA rfl rfl (List.cons_ne_nil _ _) (by decide) ?_)
            clear hM hA; intro w249 g248 hM hE hlo250 a hA
            have hlw251 : ∀ k, Value.ownBlock (.slice (some ⟨g248, 0, none⟩) 1 1) = some k → w242.heap.size ≤ k := fun k hk => by cases hk; exact Nat.le_trans hS.size hlo250
            replace hS := hS.trans (hE.mono hS.size)
            refine ⟨fun _ => hS, ?_⟩
            refine d_one (i := 4) (L' := #[tT,tT,tT,tT,tT,fF,fF]) (by kernel_rfl) rfl rfl (e_appendL elt49 hM (fun _ => (.s .z)) (Src.row Try.underlying49 (RowOk.row (hM.row (p := pLink) .z)) (RowOk.len (hM.row (p := pLink) .z))) hl238 hA rfl rfl (by decide) ?_)
            clear hM hA; intro w254 A252 c253 hM hE hlo255 a hA
            have hlw256 : ∀ k, Value.ownBlock (.slice A252 (r225.length + 1) c253) = some k → w242.heap.size ≤ k := hlo255 _ hS.size hlw245
            replace hS := hS.grown hE hS.size hlw245
            refine ⟨fun _ => hS, ?_⟩
            refine d_takef (i := 5) (L' := #[tT,tT,tT,tT,tT,tT,fF]) rfl (by kernel_rfl) rfl (fun _ _ _ h => h) hA (by decide) (fun _ => hS) (fun a w' hA => run_assign (hA.ev rfl)) ?_; clear hA; intro a hA
            refine d_takef (i := 6) (L' := #[tT,tT,tT,tT,tT,tT,tT]) rfl (by kernel_rfl) rfl (fun _ _ _ h => h) hA (by decide) (fun _ => hS) (fun a w' hA => run_assign (hA.ev rfl)) ?_; clear hA; intro a hA
            refine d_done (by kernel_rfl) ?_
            exact ⟨(r225 ++ [n_1]), (.slice A252 (r225.length + 1) c253), Option.some.inj H222, (hM.sel [1] rfl (by decide)), ((hA.nil.cons (hA.get 5 _ rfl)).cons (hA.get 4 _ rfl))⟩
          · refine d_op (i := 3) (L' := #[tT,fF,tT,tT,fF,fF,fF]) rfl rfl (e_litNL [n_1] [(.agg (pLink.enc n_1).toArray)] elt49 hM rfl (by decide) hA rfl rfl (List.cons_ne_nil _ _) (by decide) ?_)
            clear hM hA; intro w258 g257 hM hE hlo259 a hA
            have hlw260 : ∀ k, Value.ownBlock (.slice (some ⟨g257, 0, none⟩) 1 1) = some k → w242.heap.size ≤ k := fun k hk => by cases hk; exact Nat.le_trans hS.size hlo259
            replace hS := hS.trans (hE.mono hS.size)
            refine ⟨fun _ => hS, ?_⟩
            refine d_one (i := 1) (L' := #[tT,tT,tT,tT,fF,fF,fF]) (by kernel_rfl) rfl rfl (st_call Try.call70 hA [(.slice A0 l_0.length c0)] rfl (by decide) (slices_Clone_Link.calls _ _ _ _ _ _ ((RoV.mk (hM.roC (Ms := []) hr0) (Eq.refl l_0.length) hc0)) (hM.front (Ms := [])) H226) ?_)
            clear hA; rintro _ w261 ⟨v262, rfl, hMc⟩ a hA
            have hE := hMc.below; have hM := hM.call (Ms := []) hMc
            have hlw263 : ∀ k, _ → w242.heap.size ≤ k := fun k hk => Nat.le_trans hS.size ((hMc.low _ (List.Mem.head _) k hk).resolve_right (by simp))
            clear hMc; simp only [List.cons_append, List.nil_append] at hM
            obtain ⟨A264, c265, rfl⟩ := RowOk.form (hM.row (p := pLink) .z)
            replace hS := hS.trans (hE.mono hS.size)
            refine ⟨fun _ => hS, ?_⟩
            refine d_one (i := 4) (L' := #[tT,tT,tT,tT,tT,fF,fF]) (by kernel_rfl) rfl rfl (e_appendL elt49 hM (fun _ => .z) (Src.row Try.underlying49 (RowOk.row (hM.row (p := pLink) (.s .z))) (RowOk.len (hM.row (p := pLink) (.s .z)))) hl238 hA rfl rfl (by decide) ?_)
            clear hM hA; intro w268 A266 c267 hM hE hlo269 a hA
            have hlw270 : ∀ k, Value.ownBlock (.slice A266 (r225.length + 1) c267) = some k → w242.heap.size ≤ k := hlo269 _ hS.size hlw263
            replace hS := hS.grown hE hS.size hlw263
            refine ⟨fun _ => hS, ?_⟩
            refine d_takef (i := 5) (L' := #[tT,tT,tT,tT,tT,tT,fF]) rfl (by kernel_rfl) rfl (fun _ _ _ h => h) hA (by decide) (fun _ => hS) (fun a w' hA => run_assign (hA.ev rfl)) ?_; clear hA; intro a hA
            refine d_takef (i := 6) (L' := #[tT,tT,tT,tT,tT,tT,tT]) rfl (by kernel_rfl) rfl (fun _ _ _ h => h) hA (by decide) (fun _ => hS) (fun a w' hA => run_assign (hA.ev rfl)) ?_; clear hA; intro a hA
            refine d_done (by kernel_rfl) ?_
            exact ⟨(r225 ++ [n_1]), (.slice A266 (r225.length + 1) c267), Option.some.inj H222, (hM.sel [0] rfl (by decide)), ((hA.nil.cons (hA.get 5 _ rfl)).cons (hA.get 4 _ rfl))⟩
        clear hM hA
        rintro a w271 ⟨xs220, v217, rfl, hM, hA⟩
        try dsimp only at H
        obtain ⟨A218, c219, rfl⟩ := RowOk.form (hM.row (p := pLink) .z)
        refine TN ?_
        refine wp_ret ?_
        obtain rfl := Option.some.inj H
        exact ret_post2 (fn := Try.f45) hA rfl rfl rfl ⟨_, rfl, (.slice A218 xs220.length c219), rfl, hM⟩

def law39_sane.f (k : Nat)  : Option Bool := ((connect_Choose.f k (Book.mk (Vector.replicate 32 0 : Vector Int 32) ([] : List Place) ([] : List Place)) ([] : List NAddr) ([] : List Link) 0).bind fun r33 => ((connect_Open.f k ([] : List Link) (Link.mk 2 ({ NAddr.z with Host := 65536 }))).bind fun r40 => ((connect_Open.f k r40.1 (Link.mk 2 ({ NAddr.z with Host := 65539 }))).bind fun r47 => (Option.bind (α := Bool) (if (r33.2 == 390) = true then (if (r40.2 == 0) = true then (if (((r40.1.length : Nat) : Int) == 1) = true then (some (r47.2 == 350)) else (some false)) else (some false)) else (some false)) (fun t58 => (some t58))))))
set_option maxHeartbeats 2000000 in
set_option maxRecDepth 100000 in
theorem law39_sane.calls (k : Nat)  (F : List (Option Nat)) (r : Bool) (w0 : World) (hM : Mem F w0 w0 []) (H : law39_sane.f k  = some r) :
    Calls Try.prog 19 #[] w0 fun e w' => ∃ v, e = .returned v ∧ v = (.bool r) ∧ Mem F w0 w' [] := by
  unfold law39_sane.f at H
  refine enterL (n := 40) [] Try.func19 rfl rfl rfl ?_
  intro a hA
  refine wp_seq ?_
  refine wp_region_lit ?_
  refine L1 (stv hA (by decide) (run_assign (hA.ev rfl)) ?_)
  clear hA; intro a hA
  refine LQ ?_
  refine TN ?_
  refine wp_seq ?_
  refine wp_region_lit ?_
  refine L1 (stv hA (by decide) (run_build (cells := (List.flatten [pHash.enc (Vector.replicate 32 0 : Vector Int 32), [(.slice none 0 0)], [(.slice none 0 0)]]).toArray) [] zero41 Try.underlying41 (ss := [32, 1, 1]) ⟨Try.sizeOf33, Try.sizeOf39, Try.sizeOf39, trivial⟩ hA rfl (fill_nilS)) ?_)
  clear hA; intro a hA
  obtain ⟨r33, H34, H⟩ := Option.bind_eq_some_iff.1 H
  refine L1 (st_call Try.call27 hA [(.agg (List.flatten [pHash.enc (Vector.replicate 32 0 : Vector Int 32), [(.slice none 0 0)], [(.slice none 0 0)]]).toArray), (.slice none 0 0), (.slice none 0 0), (.int .u64 0)] rfl (by decide) (connect_Choose.calls _ (Book.mk (Vector.replicate 32 0 : Vector Int 32) ([] : List Place) ([] : List Place)) _ _ _ _ _ _ _ _ _ _ ((RoV.nil _ _ _)) ((RoV.nil _ _ _)) ((RoV.nil _ _ _)) ((RoV.nil _ _ _)) (hM.front (Ms := [])) H34) ?_)
  clear hA; rintro _ w35 ⟨rfl, hMc⟩ a hA
  have hE := hMc.below; have hM := hM.call (Ms := []) hMc
  clear hMc; simp only [List.cons_append, List.nil_append] at hM
  refine L1 (stv hA (by decide) (run_move (hA.ev rfl)) ?_)
  clear hA; intro a hA
  refine L1 (stv hA (by decide) (run_ext (hA.ev rfl) rfl) ?_)
  clear hA; intro a hA
  refine L1 (stv hA (by decide) (run_ext (hA.ev rfl) rfl) ?_)
  clear hA; intro a hA
  refine L1 (e_alloc (cs := (pLink.enc Link.z)) hM zero53 rfl hA (by decide) ?_)
  clear hM hA; intro w37 g36 hM hE  a hA
  refine L1 (e_store (g := g36) (off := 0) (cur := (pLink.enc Link.z)) (cs' := (pLink.enc r33.1)) hM .z Try.sizeOf53 hA rfl (by simp [add_mk]) rfl (agg_size _ _) (agg_one _ _) (Nat.le_of_ble_eq_true (enc_fitL _ _ rfl)) (spl_all (by first | rfl | (simp [Value.cells, Pl.len]; done) | (simp [Value.cells, Pl.len]; rfl))) ?_)
  clear hM hA; intro w39  hM hE  a hA
  refine L1 (stv hA (by decide) (run_assign (hA.ev rfl)) ?_)
  clear hA; intro a hA
  refine LQ ?_
  refine TN ?_
  refine wp_seq ?_
  refine wp_region_lit ?_
  refine L1 (stv hA (by decide) (run_build [(0, (.int .u32 65536))] zero46 Try.underlying46 (ss := [1, 1, 1]) ⟨Try.sizeOf43, Try.sizeOf44, Try.sizeOf43, trivial⟩ hA rfl (fill_step rfl rfl (enc_fit _ _ rfl) (arr_eq (NAddr.spl_Host _ _)) (fill_nil))) ?_)
  clear hA; intro a hA
  refine L1 (stv hA (by decide) (run_build [(0, (.int .i64 2)), (1, (.agg (pNAddr.enc ({ NAddr.z with Host := 65536 })).toArray))] zero53 Try.underlying53 (ss := [1, 3]) ⟨Try.sizeOf3, Try.sizeOf46, trivial⟩ hA rfl (fill_step rfl rfl (enc_fit _ _ rfl) (arr_eq (Link.spl_Kind _ _)) (fill_step rfl (by simp [Value.cells, Pl.len]; try rfl) (enc_fit _ _ rfl) (arr_eq (Link.spl_Addr_ _ _)) (fill_nil)))) ?_)
  clear hA; intro a hA
  obtain ⟨r40, H41, H⟩ := Option.bind_eq_some_iff.1 H
  refine L1 (st_call Try.call45 hA [(.slice none 0 0), (.agg (pLink.enc (Link.mk 2 ({ NAddr.z with Host := 65536 }))).toArray)] rfl (by decide) (connect_Open.calls _ _ _ _ _ _ _ ((RoV.nil _ _ _)) (hM.front (Ms := [])) H41) ?_)
  clear hA; rintro _ w42 ⟨v43, rfl, hMc⟩ a hA
  have hE := hMc.below; have hM := hM.call (Ms := []) hMc
  clear hMc; simp only [List.cons_append, List.nil_append] at hM
  obtain ⟨A45, c46, rfl⟩ := RowOk.form (hM.row (p := pLink) .z)
  refine L1 (stv hA (by decide) (run_move (hA.ev rfl)) ?_)
  clear hA; intro a hA
  refine L1 (stv hA (by decide) (run_ext (hA.ev rfl) rfl) ?_)
  clear hA; intro a hA
  refine L1 (stv hA (by decide) (run_ext (hA.ev rfl) rfl) ?_)
  clear hA; intro a hA
  refine L1 (stv hA (by decide) (run_assign (hA.ev rfl)) ?_)
  clear hA; intro a hA
  refine L1 (stv hA (by decide) (run_assign (hA.ev rfl)) ?_)
  clear hA; intro a hA
  refine LQ ?_
  refine TN ?_
  refine wp_seq ?_
  refine wp_region_lit ?_
  refine L1 (stv hA (by decide) (run_move (hA.ev rfl)) ?_)
  clear hA; intro a hA
  refine L1 (stv hA (by decide) (run_build [(0, (.int .u32 65539))] zero46 Try.underlying46 (ss := [1, 1, 1]) ⟨Try.sizeOf43, Try.sizeOf44, Try.sizeOf43, trivial⟩ hA rfl (fill_step rfl rfl (enc_fit _ _ rfl) (arr_eq (NAddr.spl_Host _ _)) (fill_nil))) ?_)
  clear hA; intro a hA
  refine L1 (stv hA (by decide) (run_build [(0, (.int .i64 2)), (1, (.agg (pNAddr.enc ({ NAddr.z with Host := 65539 })).toArray))] zero53 Try.underlying53 (ss := [1, 3]) ⟨Try.sizeOf3, Try.sizeOf46, trivial⟩ hA rfl (fill_step rfl rfl (enc_fit _ _ rfl) (arr_eq (Link.spl_Kind _ _)) (fill_step rfl (by simp [Value.cells, Pl.len]; try rfl) (enc_fit _ _ rfl) (arr_eq (Link.spl_Addr_ _ _)) (fill_nil)))) ?_)
  clear hA; intro a hA
  obtain ⟨r47, H48, H⟩ := Option.bind_eq_some_iff.1 H
  refine L1 (st_call Try.call45 hA [(.slice A45 r40.1.length c46), (.agg (pLink.enc (Link.mk 2 ({ NAddr.z with Host := 65539 }))).toArray)] rfl (by decide) (connect_Open.calls _ _ _ _ _ _ _ ((hM.roV (p := pLink) (Ms := []) .z)) (hM.front (Ms := [])) H48) ?_)
  clear hA; rintro _ w49 ⟨v50, rfl, hMc⟩ a hA
  have hE := hMc.below; have hM := hM.call (Ms := []) hMc
  clear hMc; simp only [List.cons_append, List.nil_append] at hM
  obtain ⟨A52, c53, rfl⟩ := RowOk.form (hM.row (p := pLink) .z)
  refine L1 (stv hA (by decide) (run_move (hA.ev rfl)) ?_)
  clear hA; intro a hA
  refine L1 (stv hA (by decide) (run_ext (hA.ev rfl) rfl) ?_)
  clear hA; intro a hA
  refine L1 (stv hA (by decide) (run_ext (hA.ev rfl) rfl) ?_)
  clear hA; intro a hA
  refine L1 (stv hA (by decide) (run_assign (hA.ev rfl)) ?_)
  clear hA; intro a hA
  refine L1 (stv hA (by decide) (run_assign (hA.ev rfl)) ?_)
  clear hA; intro a hA
  refine LQ ?_
  refine TN ?_
  refine wp_seq ?_
  obtain ⟨o60, H59, H⟩ := Option.bind_eq_some_iff.1 H
  refine cutC (fun a w => ∃ (t58 : Bool), t58 = o60 ∧ Mem F w0 w [] ∧ Has 40 [(0, (.bool t58))] a) ?_ ?_
  · refine wp_region_lit ?_
    refine L1 (stv hA (by decide) (run_move (hA.ev rfl)) ?_)
    clear hA; intro a hA
    refine L1 (stv hA (by decide) (run_bin (hA.ev rfl) (hA.ev rfl) (bin_eql _ _ _ _)) ?_)
    clear hA; intro a hA
    refine L1 (stv hA (by decide) (run_move (hA.ev rfl)) ?_)
    clear hA; intro a hA
    refine bsplit (b := (r33.2 == 390)) (fun hb61 => ?_) (fun hb61 => ?_)
    · replace H59 := ite_t hb61 H59
      have hA := hA.re (t := 27) rfl (congrArg Value.bool hb61)
      refine L1 (gate_on rfl rfl hA (by decide) rfl (stv hA (by decide) (run_move (hA.ev rfl)) ?_))
      clear hA; intro a hA
      refine L1 (gate_on rfl rfl hA (by decide) rfl (stv hA (by decide) (run_bin (hA.ev rfl) (hA.ev rfl) (bin_eql _ _ _ _)) ?_))
      clear hA; intro a hA
      refine L1 (stv hA (by decide) (run_pick (hA.ev rfl) (fun _ => hA.ev rfl) (fun h => Bool.noConfusion h)) ?_)
      clear hA; intro a hA
      refine L1 (stv hA (by decide) (run_move (hA.ev rfl)) ?_)
      clear hA; intro a hA
      refine bsplit (b := (r40.2 == 0)) (fun hb62 => ?_) (fun hb62 => ?_)
      · replace H59 := ite_t hb62 H59
        have hA := hA.re (t := 31) rfl (congrArg Value.bool hb62)
        refine L1 (gate_on rfl rfl hA (by decide) rfl (stv hA (by decide) (run_move (hA.ev rfl)) ?_))
        clear hA; intro a hA
        refine L1 (gate_on rfl rfl hA (by decide) rfl (stv hA (by decide) (run_len_slice Try.underlying49 (hA.ev rfl)) ?_))
        clear hA; intro a hA
        refine L1 (gate_on rfl rfl hA (by decide) rfl (stv hA (by decide) (run_bin (hA.ev rfl) (hA.ev rfl) (bin_eql _ _ _ _)) ?_))
        clear hA; intro a hA
        refine L1 (stv hA (by decide) (run_pick (hA.ev rfl) (fun _ => hA.ev rfl) (fun h => Bool.noConfusion h)) ?_)
        clear hA; intro a hA
        refine L1 (stv hA (by decide) (run_move (hA.ev rfl)) ?_)
        clear hA; intro a hA
        refine bsplit (b := (((r40.1.length : Nat) : Int) == 1)) (fun hb63 => ?_) (fun hb63 => ?_)
        · replace H59 := ite_t hb63 H59
          have hA := hA.re (t := 36) rfl (congrArg Value.bool hb63)
          refine L1 (gate_on rfl rfl hA (by decide) rfl (stv hA (by decide) (run_move (hA.ev rfl)) ?_))
          clear hA; intro a hA
          refine L1 (gate_on rfl rfl hA (by decide) rfl (stv hA (by decide) (run_bin (hA.ev rfl) (hA.ev rfl) (bin_eql _ _ _ _)) ?_))
          clear hA; intro a hA
          refine L1 (stv hA (by decide) (run_pick (hA.ev rfl) (fun _ => hA.ev rfl) (fun h => Bool.noConfusion h)) ?_)
          clear hA; intro a hA
          refine L1 (stv hA (by decide) (run_assign (hA.ev rfl)) ?_)
          clear hA; intro a hA
          refine LQ ?_
          exact ⟨(r47.2 == 350), Option.some.inj H59, (hM.sel [] rfl (by decide)), (hA.nil.cons (hA.get 0 _ rfl))⟩
        · replace H59 := ite_f hb63 H59
          have hA := hA.re (t := 36) rfl (congrArg Value.bool hb63)
          refine L1 (gate_off rfl (by decide) rfl hA (by decide) rfl rfl ?_); clear hA; intro a hA
          refine L1 (gate_off rfl (by decide) rfl hA (by decide) rfl rfl ?_); clear hA; intro a hA
          refine L1 (stv hA (by decide) (run_pick (hA.ev rfl) (fun h => Bool.noConfusion h) (fun _ => hA.ev rfl)) ?_)
          clear hA; intro a hA
          refine L1 (stv hA (by decide) (run_assign (hA.ev rfl)) ?_)
          clear hA; intro a hA
          refine LQ ?_
          exact ⟨false, Option.some.inj H59, (hM.sel [] rfl (by decide)), (hA.nil.cons (hA.get 0 _ rfl))⟩
      · replace H59 := ite_f hb62 H59
        have hA := hA.re (t := 31) rfl (congrArg Value.bool hb62)
        refine L1 (gate_off rfl (by decide) rfl hA (by decide) rfl rfl ?_); clear hA; intro a hA
        refine L1 (gate_off rfl (by decide) rfl hA (by decide) rfl rfl ?_); clear hA; intro a hA
        refine L1 (gate_off rfl (by decide) rfl hA (by decide) rfl rfl ?_); clear hA; intro a hA
        refine L1 (stv hA (by decide) (run_pick (hA.ev rfl) (fun h => Bool.noConfusion h) (fun _ => hA.ev rfl)) ?_)
        clear hA; intro a hA
        refine L1 (stv hA (by decide) (run_move (hA.ev rfl)) ?_)
        clear hA; intro a hA
        refine L1 (gate_off rfl (by decide) rfl hA (by decide) rfl rfl ?_); clear hA; intro a hA
        refine L1 (gate_off rfl (by decide) rfl hA (by decide) rfl rfl ?_); clear hA; intro a hA
        refine L1 (stv hA (by decide) (run_pick (hA.ev rfl) (fun h => Bool.noConfusion h) (fun _ => hA.ev rfl)) ?_)
        clear hA; intro a hA
        refine L1 (stv hA (by decide) (run_assign (hA.ev rfl)) ?_)
        clear hA; intro a hA
        refine LQ ?_
        exact ⟨false, Option.some.inj H59, (hM.sel [] rfl (by decide)), (hA.nil.cons (hA.get 0 _ rfl))⟩
    · replace H59 := ite_f hb61 H59
      have hA := hA.re (t := 27) rfl (congrArg Value.bool hb61)
      refine L1 (gate_off rfl (by decide) rfl hA (by decide) rfl rfl ?_); clear hA; intro a hA
      refine L1 (gate_off rfl (by decide) rfl hA (by decide) rfl rfl ?_); clear hA; intro a hA
      refine L1 (stv hA (by decide) (run_pick (hA.ev rfl) (fun h => Bool.noConfusion h) (fun _ => hA.ev rfl)) ?_)
      clear hA; intro a hA
      refine L1 (stv hA (by decide) (run_move (hA.ev rfl)) ?_)
      clear hA; intro a hA
      refine L1 (gate_off rfl (by decide) rfl hA (by decide) rfl rfl ?_); clear hA; intro a hA
      refine L1 (gate_off rfl (by decide) rfl hA (by decide) rfl rfl ?_); clear hA; intro a hA
      refine L1 (gate_off rfl (by decide) rfl hA (by decide) rfl rfl ?_); clear hA; intro a hA
      refine L1 (stv hA (by decide) (run_pick (hA.ev rfl) (fun h => Bool.noConfusion h) (fun _ => hA.ev rfl)) ?_)
      clear hA; intro a hA
      refine L1 (stv hA (by decide) (run_move (hA.ev rfl)) ?_)
      clear hA; intro a hA
      refine L1 (gate_off rfl (by decide) rfl hA (by decide) rfl rfl ?_); clear hA; intro a hA
      refine L1 (gate_off rfl (by decide) rfl hA (by decide) rfl rfl ?_); clear hA; intro a hA
      refine L1 (stv hA (by decide) (run_pick (hA.ev rfl) (fun h => Bool.noConfusion h) (fun _ => hA.ev rfl)) ?_)
      clear hA; intro a hA
      refine L1 (stv hA (by decide) (run_assign (hA.ev rfl)) ?_)
      clear hA; intro a hA
      refine LQ ?_
      exact ⟨false, Option.some.inj H59, (hM.sel [] rfl (by decide)), (hA.nil.cons (hA.get 0 _ rfl))⟩
  clear hM hA
  rintro a w64 ⟨t58, rfl, hM, hA⟩
  try dsimp only at H
  refine TN ?_
  refine wp_ret ?_
  obtain rfl := Option.some.inj H
  exact ret_post1 (fn := Try.f19) hA rfl rfl ⟨_, rfl, rfl, hM⟩

def mill_New.f (k : Nat) (l_0 : (List Int)) : Option lightclientmill_Deck := (some (lightclientmill_Deck.mk l_0 0))
set_option maxHeartbeats 2000000 in
set_option maxRecDepth 100000 in
theorem mill_New.calls (k : Nat) (l_0 : (List Int)) (F : List (Option Nat)) (v0 : Value) (r : lightclientmill_Deck) (w0 : World) (h0 : RoV F (Pl.int .i64) w0 v0 l_0) (hM : Mem F w0 w0 []) (H : mill_New.f k l_0 = some r) :
    Calls Try.prog 20 #[v0] w0 fun e w' => ∃ v, e = .returned v ∧ ∃ (ggr_0 : Nat), v = (.pointer (some (⟨ggr_0, 0, none⟩))) ∧ Mem F w0 w' [.box ggr_0 91 [v0, (.int .i64 r.At_)]] := by
  unfold mill_New.f at H
  obtain ⟨A0, c0, rfl, hr0, hc0⟩ := h0
  refine enterL (n := 6) [(.slice A0 l_0.length c0)] Try.func20 rfl rfl rfl ?_
  intro a hA
  refine wp_seq ?_
  refine wp_region_lit ?_
  refine L1 (stv hA (by decide) (run_assign (hA.ev rfl)) ?_)
  clear hA; intro a hA
  refine LQ ?_
  refine TN ?_
  refine wp_seq ?_
  refine wp_region_lit ?_
  refine L1 (stv hA (by decide) (run_move (hA.ev rfl)) ?_)
  clear hA; intro a hA
  refine L1 (stv hA (by decide) (run_build (cells := #[(.slice A0 l_0.length c0), (.int .i64 0)]) [(0, (.slice A0 l_0.length c0))] zero91 Try.underlying91 (ss := [1, 1]) ⟨Try.sizeOf36, Try.sizeOf3, trivial⟩ hA rfl (by rfl)) ?_)
  clear hA; intro a hA
  refine L1 (e_box (cs := [(.slice A0 l_0.length c0), (.int .i64 0)]) hM hA rfl rfl (by decide) ?_)
  clear hM hA; intro w5 g4 hM hE  a hA
  refine L1 (stv hA (by decide) (run_assign (hA.ev rfl)) ?_)
  clear hA; intro a hA
  refine LQ ?_
  refine TN ?_
  refine wp_ret ?_
  obtain rfl := Option.some.inj H
  exact ret_post1 (fn := Try.f20) hA rfl rfl ⟨_, rfl, g4, rfl, hM⟩

def mill_Mod.f (k : Nat) (v_0 : Int) (n_1 : Int) : Option Int := (if ¬ n_1 = 0 then (Option.bind (α := Int) (if (decide ((v_0.tmod n_1) < 0)) = true then (some (IntKind.i64.wrap ((v_0.tmod n_1) + n_1))) else (some (v_0.tmod n_1))) (fun t12 => (some t12))) else none)
set_option maxHeartbeats 2000000 in
set_option maxRecDepth 100000 in
theorem mill_Mod.calls (k : Nat) (v_0 : Int) (n_1 : Int) (F : List (Option Nat)) (r : Int) (w0 : World) (hM : Mem F w0 w0 []) (H : mill_Mod.f k v_0 n_1 = some r) :
    Calls Try.prog 28 #[(.int .i64 v_0), (.int .i64 n_1)] w0 fun e w' => ∃ v, e = .returned v ∧ v = (.int .i64 r) ∧ Mem F w0 w' [] := by
  unfold mill_Mod.f at H
  refine enterL (n := 15) [(.int .i64 v_0), (.int .i64 n_1)] Try.func28 rfl rfl rfl ?_
  intro a hA
  refine wp_seq ?_
  refine wp_region_lit ?_
  refine L1 (stv hA (by decide) (run_assign (hA.ev rfl)) ?_)
  clear hA; intro a hA
  refine LQ ?_
  refine TN ?_
  refine wp_seq ?_
  refine wp_region_lit ?_
  refine L1 (stv hA (by decide) (run_move (hA.ev rfl)) ?_)
  clear hA; intro a hA
  refine L1 (stv hA (by decide) (run_move (hA.ev rfl)) ?_)
  clear hA; intro a hA
  obtain ⟨hd9, H⟩ := ite_some H
  refine L1 (stv hA (by decide) (run_bin (hA.ev rfl) (hA.ev rfl) (bin_rem _ _ _ _ hd9)) ?_)
  clear hA; intro a hA
  refine L1 (stv hA (by decide) (run_assign (hA.ev rfl)) ?_)
  clear hA; intro a hA
  refine LQ ?_
  refine TN ?_
  refine wp_seq ?_
  refine wp_seq ?_
  refine wp_region_lit ?_
  refine L1 (stv hA (by decide) (run_move (hA.ev rfl)) ?_)
  clear hA; intro a hA
  refine L1 (stv hA (by decide) (run_bin (hA.ev rfl) (hA.ev rfl) (bin_lss _ _ _ _)) ?_)
  clear hA; intro a hA
  refine LQ ?_
  refine TN ?_
  obtain ⟨o14, H13, H⟩ := Option.bind_eq_some_iff.1 H
  refine cutC (fun a w => ∃ (t12 : Int), t12 = o14 ∧ Mem F w0 w [] ∧ Has 15 [(5, (.int .i64 t12))] a) ?_ ?_
  · refine tcond (b := (decide ((v_0.tmod n_1) < 0))) hA rfl (fun hb15 => ?_) (fun hb15 => ?_)
    · replace H13 := ite_t hb15 H13
      refine wp_region_lit ?_
      refine L1 (stv hA (by decide) (run_move (hA.ev rfl)) ?_)
      clear hA; intro a hA
      refine L1 (stv hA (by decide) (run_move (hA.ev rfl)) ?_)
      clear hA; intro a hA
      refine L1 (stv hA (by decide) (run_bin (hA.ev rfl) (hA.ev rfl) (bin_add _ _ _ _)) ?_)
      clear hA; intro a hA
      refine L1 (stv hA (by decide) (run_assign (hA.ev rfl)) ?_)
      clear hA; intro a hA
      refine LQ ?_
      exact ⟨IntKind.i64.wrap ((v_0.tmod n_1) + n_1), Option.some.inj H13, hM, (hA.nil.cons (hA.get 5 _ rfl))⟩
    · replace H13 := ite_f hb15 H13
      refine wp_skip ?_
      exact ⟨v_0.tmod n_1, Option.some.inj H13, hM, (hA.nil.cons (hA.get 5 _ rfl))⟩
  clear hM hA
  rintro a w16 ⟨t12, rfl, hM, hA⟩
  try dsimp only at H
  refine TN ?_
  refine wp_seq ?_
  refine wp_region_lit ?_
  refine L1 (stv hA (by decide) (run_move (hA.ev rfl)) ?_)
  clear hA; intro a hA
  refine L1 (stv hA (by decide) (run_assign (hA.ev rfl)) ?_)
  clear hA; intro a hA
  refine LQ ?_
  refine TN ?_
  refine wp_ret ?_
  obtain rfl := Option.some.inj H
  exact ret_post1 (fn := Try.f28) hA rfl rfl ⟨_, rfl, rfl, hM⟩

def mill_Deck_Left.f (k : Nat) (d_0 : lightclientmill_Deck) : Option (Bool × lightclientmill_Deck) := (some ((decide (d_0.At_ < ((d_0.L.length : Nat) : Int))), (lightclientmill_Deck.mk d_0.L d_0.At_)))
set_option maxHeartbeats 2000000 in
set_option maxRecDepth 100000 in
theorem mill_Deck_Left.calls (k : Nat) (d_0 : lightclientmill_Deck) (F : List (Option Nat)) (g0 : Nat) (v0_0 : Value) (r : (Bool × lightclientmill_Deck)) (w0 : World) (h0_0 : RoV F (Pl.int .i64) w0 v0_0 d_0.L) (hM : Mem F w0 w0 [.box g0 91 [v0_0, (.int .i64 d_0.At_)]]) (H : mill_Deck_Left.f k d_0 = some r) :
    Calls Try.prog 63 #[(.pointer (some (⟨g0, 0, none⟩)))] w0 fun e w' => ∃ v, e = .returned v ∧ v = (.bool r.1) ∧ Mem F w0 w' [.box g0 91 [v0_0, (.int .i64 r.2.At_)]] := by
  unfold mill_Deck_Left.f at H
  obtain ⟨A0_0, c0_0, rfl, hr0_0, hc0_0⟩ := h0_0
  refine enterL (n := 13) [(.pointer (some (⟨g0, 0, none⟩)))] Try.func63 rfl rfl rfl ?_
  intro a hA
  refine wp_seq ?_
  refine wp_region_lit ?_
  refine L1 (stv hA (by decide) (run_assign (hA.ev rfl)) ?_)
  clear hA; intro a hA
  refine LQ ?_
  refine TN ?_
  refine wp_seq ?_
  refine draw (fun w' => Below w0.heap.size w0 w') [] rfl ?_
  intro w3 hw hS; replace hM := hM.ext hS; clear hw
  refine d_takef (i := 0) (L' := #[tT,fF,fF,fF,fF,fF,fF,fF,fF,fF,fF]) rfl (by kernel_rfl) rfl (fun _ _ _ h => h) hA (by decide) (fun _ => hS) (fun a w' hA => run_move (hA.ev rfl)) ?_; clear hA; intro a hA
  refine d_takef (i := 1) (L' := #[tT,tT,fF,fF,fF,fF,fF,fF,fF,fF,fF]) rfl (by kernel_rfl) rfl (fun _ _ _ h => h) hA (by decide) (fun _ => hS) (fun a w' hA => run_nilchk (hA.ev rfl)) ?_; clear hA; intro a hA
  refine d_takef (i := 2) (L' := #[tT,tT,tT,fF,fF,fF,fF,fF,fF,fF,fF]) rfl (by kernel_rfl) rfl (fun _ _ _ h => h) hA (by decide) (fun _ => hS) (fun a w' hA => run_field' Try.underlying91 rfl rfl Try.sizeOf3 (by decide) (hA.ev rfl)) ?_; clear hA; intro a hA
  refine rebase hS ?_; clear hS; intro hS
  refine d_take (i := 3) (L' := #[tT,tT,tT,tT,fF,fF,fF,fF,fF,fF,fF]) rfl (by kernel_rfl) rfl (fun _ _ _ h => h) hA (by decide) rfl hS (fun a w' hA hS' => run_ld (hA.ev rfl) (run_loadS Try.isAgg3 ((At.seg1 (hM.box .z) 1 rfl).extB hS'))) ?_; clear hA; intro a hA
  refine d_takef (i := 4) (L' := #[tT,tT,tT,tT,tT,fF,fF,fF,fF,fF,fF]) rfl (by kernel_rfl) rfl (fun _ _ _ h => h) hA (by decide) (fun _ => hS) (fun a w' hA => run_move (hA.ev rfl)) ?_; clear hA; intro a hA
  refine d_takef (i := 5) (L' := #[tT,tT,tT,tT,tT,tT,fF,fF,fF,fF,fF]) rfl (by kernel_rfl) rfl (fun _ _ _ h => h) hA (by decide) (fun _ => hS) (fun a w' hA => run_nilchk (hA.ev rfl)) ?_; clear hA; intro a hA
  refine d_takef (i := 6) (L' := #[tT,tT,tT,tT,tT,tT,tT,fF,fF,fF,fF]) rfl (by kernel_rfl) rfl (fun _ _ _ h => h) hA (by decide) (fun _ => hS) (fun a w' hA => run_field' Try.underlying91 rfl rfl Try.sizeOf36 (by decide) (hA.ev rfl)) ?_; clear hA; intro a hA
  refine d_take (i := 7) (L' := #[tT,tT,tT,tT,tT,tT,tT,tT,fF,fF,fF]) rfl (by kernel_rfl) rfl (fun _ _ _ h => h) hA (by decide) rfl hS (fun a w' hA hS' => run_ld (hA.ev rfl) (run_loadS Try.isAgg36 ((At.seg1 (hM.box .z) 0 rfl).extB hS'))) ?_; clear hA; intro a hA
  refine d_takef (i := 8) (L' := #[tT,tT,tT,tT,tT,tT,tT,tT,tT,fF,fF]) rfl (by kernel_rfl) rfl (fun _ _ _ h => h) hA (by decide) (fun _ => hS) (fun a w' hA => run_len_slice Try.underlying36 (hA.ev rfl)) ?_; clear hA; intro a hA
  refine d_takef (i := 9) (L' := #[tT,tT,tT,tT,tT,tT,tT,tT,tT,tT,fF]) rfl (by kernel_rfl) rfl (fun _ _ _ h => h) hA (by decide) (fun _ => hS) (fun a w' hA => run_bin (hA.ev rfl) (hA.ev rfl) (bin_lss _ _ _ _)) ?_; clear hA; intro a hA
  refine d_takef (i := 10) (L' := #[tT,tT,tT,tT,tT,tT,tT,tT,tT,tT,tT]) rfl (by kernel_rfl) rfl (fun _ _ _ h => h) hA (by decide) (fun _ => hS) (fun a w' hA => run_assign (hA.ev rfl)) ?_; clear hA; intro a hA
  refine d_done (by kernel_rfl) ?_
  refine TN ?_
  refine wp_ret ?_
  obtain rfl := Option.some.inj H
  exact ret_post1 (fn := Try.f63) hA rfl rfl ⟨_, rfl, rfl, hM⟩

def mill_Deck_Next.f (k : Nat) (d_0 : lightclientmill_Deck) (n_1 : Int) : Option (Int × lightclientmill_Deck) := ((mill_Deck_Left.f k (lightclientmill_Deck.mk d_0.L d_0.At_)).bind fun r16 => (if (!r16.1) = true then (some (0, (lightclientmill_Deck.mk d_0.L r16.2.At_))) else (if 0 ≤ (IntKind.i64.wrap ((IntKind.i64.wrap (r16.2.At_ + 1)) - 1)) ∧ (IntKind.i64.wrap ((IntKind.i64.wrap (r16.2.At_ + 1)) - 1)) < ((d_0.L.length : Nat) : Int) then ((mill_Mod.f k (d_0.L.getD (IntKind.i64.wrap ((IntKind.i64.wrap (r16.2.At_ + 1)) - 1)).toNat (0 : Int)) n_1).bind fun r28 => (some (r28, (lightclientmill_Deck.mk d_0.L (IntKind.i64.wrap (r16.2.At_ + 1)))))) else none)))
set_option maxHeartbeats 2000000 in
set_option maxRecDepth 100000 in
theorem mill_Deck_Next.calls (k : Nat) (d_0 : lightclientmill_Deck) (n_1 : Int) (F : List (Option Nat)) (g0 : Nat) (v0_0 : Value) (r : (Int × lightclientmill_Deck)) (w0 : World) (h0_0 : RoV F (Pl.int .i64) w0 v0_0 d_0.L) (hM : Mem F w0 w0 [.box g0 91 [v0_0, (.int .i64 d_0.At_)]]) (H : mill_Deck_Next.f k d_0 n_1 = some r) :
    Calls Try.prog 35 #[(.pointer (some (⟨g0, 0, none⟩))), (.int .i64 n_1)] w0 fun e w' => ∃ v, e = .returned v ∧ v = (.int .i64 r.1) ∧ Mem F w0 w' [.box g0 91 [v0_0, (.int .i64 r.2.At_)]] := by
  unfold mill_Deck_Next.f at H
  obtain ⟨A0_0, c0_0, rfl, hr0_0, hc0_0⟩ := h0_0
  refine enterL (n := 28) [(.pointer (some (⟨g0, 0, none⟩))), (.int .i64 n_1)] Try.func35 rfl rfl rfl ?_
  intro a hA
  refine wp_seq ?_
  refine wp_region_lit ?_
  refine L1 (stv hA (by decide) (run_assign (hA.ev rfl)) ?_)
  clear hA; intro a hA
  refine LQ ?_
  refine TN ?_
  refine wp_seq ?_
  refine wp_seq ?_
  refine wp_region_lit ?_
  refine L1 (stv hA (by decide) (run_move (hA.ev rfl)) ?_)
  clear hA; intro a hA
  obtain ⟨r16, H17, H⟩ := Option.bind_eq_some_iff.1 H
  refine L1 (st_call Try.call63 hA [(.pointer (some (⟨g0, 0, none⟩)))] rfl (by decide) (mill_Deck_Left.calls _ (lightclientmill_Deck.mk d_0.L d_0.At_) _ _ _ _ _ ((RoV.mk (hM.roC (Ms := [_]) hr0_0) (Eq.refl d_0.L.length) hc0_0)) (hM.front (Ms := [_])) H17) ?_)
  clear hA; rintro _ w18 ⟨rfl, hMc⟩ a hA
  have hM := hM.call (Ms := [_]) hMc
  clear hMc; simp only [List.cons_append, List.nil_append] at hM
  refine L1 (stv hA (by decide) (run_not (hA.ev rfl)) ?_)
  clear hA; intro a hA
  refine LQ ?_
  refine TN ?_
  refine tcond (b := (!r16.1)) hA rfl (fun hb19 => ?_) (fun hb19 => ?_)
  · replace H := ite_t hb19 H
    refine wp_seq ?_
    refine wp_region_lit ?_
    refine L1 (stv hA (by decide) (run_assign (hA.ev rfl)) ?_)
    clear hA; intro a hA
    refine LQ ?_
    refine TN ?_
    refine wp_ret ?_
    obtain rfl := Option.some.inj H
    refine TR ?_
    exact ret_post1 (fn := Try.f35) hA rfl rfl ⟨_, rfl, rfl, hM⟩
  · replace H := ite_f hb19 H
    refine wp_skip ?_
    refine TN ?_
    refine wp_seq ?_
    refine wp_region_lit ?_
    refine L1 (stv hA (by decide) (run_move (hA.ev rfl)) ?_)
    clear hA; intro a hA
    refine L1 (stv hA (by decide) (run_nilchk (hA.ev rfl)) ?_)
    clear hA; intro a hA
    refine L1 (stv hA (by decide) (run_field' Try.underlying91 rfl rfl Try.sizeOf3 (by decide) (hA.ev rfl)) ?_)
    clear hA; intro a hA
    refine L1 (stv hA (by decide) (run_ld (hA.ev rfl) (run_loadS Try.isAgg3 (At.seg1 (hM.box .z) 1 rfl))) ?_)
    clear hA; intro a hA
    refine L1 (stv hA (by decide) (run_bin (hA.ev rfl) (hA.ev rfl) (bin_add _ _ _ _)) ?_)
    clear hA; intro a hA
    refine L1 (stv hA (by decide) (run_nilchk (hA.ev rfl)) ?_)
    clear hA; intro a hA
    refine L1 (stv hA (by decide) (run_field' Try.underlying91 rfl rfl Try.sizeOf3 (by decide) (hA.ev rfl)) ?_)
    clear hA; intro a hA
    refine L1 (e_store (g := g0) (off := 1) (cur := [(.slice A0_0 d_0.L.length c0_0), (.int .i64 r16.2.At_)]) (cs' := [(.slice A0_0 d_0.L.length c0_0), (.int .i64 (IntKind.i64.wrap (r16.2.At_ + 1)))]) hM .z Try.sizeOf3 hA rfl (by simp [add_mk]) rfl (by first | rfl | (simp [Value.cells, Pl.len]; done) | (simp [Value.cells, Pl.len]; rfl)) (one_val rfl) (by first | exact Nat.le_of_ble_eq_true rfl | (simp [Pl.len]; done) | (simp [Pl.len]; decide)) (rfl) ?_)
    clear hM hA; intro w20  hM hE  a hA
    refine LQ ?_
    refine TN ?_
    refine wp_seq ?_
    refine draw (fun w' => Below w20.heap.size w20 w') [] rfl ?_
    intro w21 hw hS; replace hM := hM.ext hS; clear hw
    refine d_takef (i := 0) (L' := #[tT,fF,fF,fF,fF,fF,fF,fF,fF,fF,fF,fF,fF,fF]) rfl (by kernel_rfl) rfl (fun _ _ _ h => h) hA (by decide) (fun _ => hS) (fun a w' hA => run_move (hA.ev rfl)) ?_; clear hA; intro a hA
    refine d_takef (i := 1) (L' := #[tT,tT,fF,fF,fF,fF,fF,fF,fF,fF,fF,fF,fF,fF]) rfl (by kernel_rfl) rfl (fun _ _ _ h => h) hA (by decide) (fun _ => hS) (fun a w' hA => run_nilchk (hA.ev rfl)) ?_; clear hA; intro a hA
    refine d_takef (i := 2) (L' := #[tT,tT,tT,fF,fF,fF,fF,fF,fF,fF,fF,fF,fF,fF]) rfl (by kernel_rfl) rfl (fun _ _ _ h => h) hA (by decide) (fun _ => hS) (fun a w' hA => run_field' Try.underlying91 rfl rfl Try.sizeOf36 (by decide) (hA.ev rfl)) ?_; clear hA; intro a hA
    refine rebase hS ?_; clear hS; intro hS
    refine d_take (i := 3) (L' := #[tT,tT,tT,tT,fF,fF,fF,fF,fF,fF,fF,fF,fF,fF]) rfl (by kernel_rfl) rfl (fun _ _ _ h => h) hA (by decide) rfl hS (fun a w' hA hS' => run_ld (hA.ev rfl) (run_loadS Try.isAgg36 ((At.seg1 (hM.box .z) 0 rfl).extB hS'))) ?_; clear hA; intro a hA
    refine d_takef (i := 4) (L' := #[tT,tT,tT,tT,tT,fF,fF,fF,fF,fF,fF,fF,fF,fF]) rfl (by kernel_rfl) rfl (fun _ _ _ h => h) hA (by decide) (fun _ => hS) (fun a w' hA => run_move (hA.ev rfl)) ?_; clear hA; intro a hA
    refine d_takef (i := 5) (L' := #[tT,tT,tT,tT,tT,tT,fF,fF,fF,fF,fF,fF,fF,fF]) rfl (by kernel_rfl) rfl (fun _ _ _ h => h) hA (by decide) (fun _ => hS) (fun a w' hA => run_nilchk (hA.ev rfl)) ?_; clear hA; intro a hA
    refine d_takef (i := 6) (L' := #[tT,tT,tT,tT,tT,tT,tT,fF,fF,fF,fF,fF,fF,fF]) rfl (by kernel_rfl) rfl (fun _ _ _ h => h) hA (by decide) (fun _ => hS) (fun a w' hA => run_field' Try.underlying91 rfl rfl Try.sizeOf3 (by decide) (hA.ev rfl)) ?_; clear hA; intro a hA
    refine d_take (i := 7) (L' := #[tT,tT,tT,tT,tT,tT,tT,tT,fF,fF,fF,fF,fF,fF]) rfl (by kernel_rfl) rfl (fun _ _ _ h => h) hA (by decide) rfl hS (fun a w' hA hS' => run_ld (hA.ev rfl) (run_loadS Try.isAgg3 ((At.seg1 (hM.box .z) 1 rfl).extB hS'))) ?_; clear hA; intro a hA
    refine d_takef (i := 8) (L' := #[tT,tT,tT,tT,tT,tT,tT,tT,tT,fF,fF,fF,fF,fF]) rfl (by kernel_rfl) rfl (fun _ _ _ h => h) hA (by decide) (fun _ => hS) (fun a w' hA => run_bin (hA.ev rfl) (hA.ev rfl) (bin_sub _ _ _ _)) ?_; clear hA; intro a hA
    obtain ⟨⟨hi23, hj24⟩, H⟩ := ite_some H
    obtain ⟨ad25, hq26, hat27⟩ := Row.elem' (p := (Pl.int .i64)) (hM.ro hr0_0) (Eq.refl d_0.L.length) (0 : Int) (IntKind.i64.wrap ((IntKind.i64.wrap (r16.2.At_ + 1)) - 1)) hi23 hj24
    refine d_takef (i := 9) (L' := #[tT,tT,tT,tT,tT,tT,tT,tT,tT,tT,fF,fF,fF,fF]) rfl (by kernel_rfl) rfl (fun _ _ _ h => h) hA (by decide) (fun _ => hS) (fun a w' hA => run_idx Try.underlying36 Try.sizeOf3 (hA.ev rfl) hq26 (hA.ev rfl) hi23 hj24) ?_; clear hA; intro a hA
    refine d_take (i := 10) (L' := #[tT,tT,tT,tT,tT,tT,tT,tT,tT,tT,tT,fF,fF,fF]) rfl (by kernel_rfl) rfl (fun _ _ _ h => h) hA (by decide) rfl hS (fun a w' hA hS' => run_ld (hA.ev rfl) (run_loadS Try.isAgg3 ((hat27).extB hS'))) ?_; clear hA; intro a hA
    refine d_takef (i := 11) (L' := #[tT,tT,tT,tT,tT,tT,tT,tT,tT,tT,tT,tT,fF,fF]) rfl (by kernel_rfl) rfl (fun _ _ _ h => h) hA (by decide) (fun _ => hS) (fun a w' hA => run_move (hA.ev rfl)) ?_; clear hA; intro a hA
    obtain ⟨r28, H29, H⟩ := Option.bind_eq_some_iff.1 H
    refine d_one (i := 12) (L' := #[tT,tT,tT,tT,tT,tT,tT,tT,tT,tT,tT,tT,tT,fF]) (by kernel_rfl) rfl rfl (st_call Try.call28 hA [(.int .i64 (d_0.L.getD (IntKind.i64.wrap ((IntKind.i64.wrap (r16.2.At_ + 1)) - 1)).toNat (0 : Int))), (.int .i64 n_1)] rfl (by decide) (mill_Mod.calls _ _ _ _ _ _ (hM.front (Ms := [])) H29) ?_)
    clear hA; rintro _ w30 ⟨rfl, hMc⟩ a hA
    have hE := hMc.below; have hM := hM.call (Ms := []) hMc
    clear hMc; simp only [List.cons_append, List.nil_append] at hM
    replace hS := hS.trans (hE.mono hS.size)
    refine ⟨fun _ => hS, ?_⟩
    refine d_takef (i := 13) (L' := #[tT,tT,tT,tT,tT,tT,tT,tT,tT,tT,tT,tT,tT,tT]) rfl (by kernel_rfl) rfl (fun _ _ _ h => h) hA (by decide) (fun _ => hS) (fun a w' hA => run_assign (hA.ev rfl)) ?_; clear hA; intro a hA
    refine d_done (by kernel_rfl) ?_
    refine TN ?_
    refine wp_ret ?_
    obtain rfl := Option.some.inj H
    exact ret_post1 (fn := Try.f35) hA rfl rfl ⟨_, rfl, rfl, hM⟩

def mill_Addr.f (k : Nat) (d_0 : lightclientmill_Deck) : Option (NAddr × lightclientmill_Deck) := ((mill_Deck_Next.f k (lightclientmill_Deck.mk d_0.L d_0.At_) 6).bind fun r20 => ((mill_Deck_Next.f k (lightclientmill_Deck.mk d_0.L r20.2.At_) 5).bind fun r23 => ((mill_Deck_Next.f k (lightclientmill_Deck.mk d_0.L r23.2.At_) 2).bind fun r26 => ((mill_Deck_Next.f k (lightclientmill_Deck.mk d_0.L r26.2.At_) 50).bind fun r29 => (some ((NAddr.mk (IntKind.u32.wrap ((ishl .u32 (IntKind.u32.wrap r20.1) 16) + (IntKind.u32.wrap r23.1))) (IntKind.u16.wrap r26.1) (IntKind.u32.wrap r29.1)), (lightclientmill_Deck.mk d_0.L r29.2.At_)))))))
set_option maxHeartbeats 2000000 in
set_option maxRecDepth 100000 in
theorem mill_Addr.calls (k : Nat) (d_0 : lightclientmill_Deck) (F : List (Option Nat)) (g0 : Nat) (v0_0 : Value) (r : (NAddr × lightclientmill_Deck)) (w0 : World) (h0_0 : RoV F (Pl.int .i64) w0 v0_0 d_0.L) (hM : Mem F w0 w0 [.box g0 91 [v0_0, (.int .i64 d_0.At_)]]) (H : mill_Addr.f k d_0 = some r) :
    Calls Try.prog 22 #[(.pointer (some (⟨g0, 0, none⟩)))] w0 fun e w' => ∃ v, e = .returned v ∧ v = (.agg (pNAddr.enc r.1).toArray) ∧ Mem F w0 w' [.box g0 91 [v0_0, (.int .i64 r.2.At_)]] := by
  unfold mill_Addr.f at H
  obtain ⟨A0_0, c0_0, rfl, hr0_0, hc0_0⟩ := h0_0
  refine enterL (n := 18) [(.pointer (some (⟨g0, 0, none⟩)))] Try.func22 rfl rfl rfl ?_
  intro a hA
  refine wp_seq ?_
  refine wp_region_lit ?_
  refine L1 (e_alloc (cs := (pNAddr.enc NAddr.z)) hM zero46 rfl hA (by decide) ?_)
  clear hM hA; intro w18 g17 hM hE  a hA
  refine LQ ?_
  refine TN ?_
  refine wp_seq ?_
  refine wp_region_lit ?_
  refine L1 (stv hA (by decide) (run_move (hA.ev rfl)) ?_)
  clear hA; intro a hA
  have hM := hM.sel [1, 0] rfl (by decide)
  obtain ⟨r20, H21, H⟩ := Option.bind_eq_some_iff.1 H
  refine L1 (st_call Try.call35 hA [(.pointer (some (⟨g0, 0, none⟩))), (.int .i64 6)] rfl (by decide) (mill_Deck_Next.calls _ (lightclientmill_Deck.mk d_0.L d_0.At_) _ _ _ _ _ _ ((RoV.mk (hM.roC (Ms := [_]) hr0_0) (Eq.refl d_0.L.length) hc0_0)) (hM.front (Ms := [_])) H21) ?_)
  clear hA; rintro _ w22 ⟨rfl, hMc⟩ a hA
  have hM := hM.call (Ms := [_]) hMc
  clear hMc; simp only [List.cons_append, List.nil_append] at hM
  refine L1 (stv hA (by decide) (run_conv Try.underlying3 Try.underlying43 (hA.ev rfl)) ?_)
  clear hA; intro a hA
  refine L1 (stv hA (by decide) (run_shl (hA.ev rfl) (hA.ev rfl) (by decide)) ?_)
  clear hA; intro a hA
  refine L1 (stv hA (by decide) (run_move (hA.ev rfl)) ?_)
  clear hA; intro a hA
  obtain ⟨r23, H24, H⟩ := Option.bind_eq_some_iff.1 H
  refine L1 (st_call Try.call35 hA [(.pointer (some (⟨g0, 0, none⟩))), (.int .i64 5)] rfl (by decide) (mill_Deck_Next.calls _ (lightclientmill_Deck.mk d_0.L r20.2.At_) _ _ _ _ _ _ ((RoV.mk (hM.roC (Ms := [_]) hr0_0) (Eq.refl d_0.L.length) hc0_0)) (hM.front (Ms := [_])) H24) ?_)
  clear hA; rintro _ w25 ⟨rfl, hMc⟩ a hA
  have hM := hM.call (Ms := [_]) hMc
  clear hMc; simp only [List.cons_append, List.nil_append] at hM
  refine L1 (stv hA (by decide) (run_conv Try.underlying3 Try.underlying43 (hA.ev rfl)) ?_)
  clear hA; intro a hA
  refine L1 (stv hA (by decide) (run_bin (hA.ev rfl) (hA.ev rfl) (bin_add _ _ _ _)) ?_)
  clear hA; intro a hA
  refine L1 (stv hA (by decide) (run_move (hA.ev rfl)) ?_)
  clear hA; intro a hA
  obtain ⟨r26, H27, H⟩ := Option.bind_eq_some_iff.1 H
  refine L1 (st_call Try.call35 hA [(.pointer (some (⟨g0, 0, none⟩))), (.int .i64 2)] rfl (by decide) (mill_Deck_Next.calls _ (lightclientmill_Deck.mk d_0.L r23.2.At_) _ _ _ _ _ _ ((RoV.mk (hM.roC (Ms := [_]) hr0_0) (Eq.refl d_0.L.length) hc0_0)) (hM.front (Ms := [_])) H27) ?_)
  clear hA; rintro _ w28 ⟨rfl, hMc⟩ a hA
  have hM := hM.call (Ms := [_]) hMc
  clear hMc; simp only [List.cons_append, List.nil_append] at hM
  refine L1 (stv hA (by decide) (run_conv Try.underlying3 Try.underlying44 (hA.ev rfl)) ?_)
  clear hA; intro a hA
  refine L1 (stv hA (by decide) (run_move (hA.ev rfl)) ?_)
  clear hA; intro a hA
  obtain ⟨r29, H30, H⟩ := Option.bind_eq_some_iff.1 H
  refine L1 (st_call Try.call35 hA [(.pointer (some (⟨g0, 0, none⟩))), (.int .i64 50)] rfl (by decide) (mill_Deck_Next.calls _ (lightclientmill_Deck.mk d_0.L r26.2.At_) _ _ _ _ _ _ ((RoV.mk (hM.roC (Ms := [_]) hr0_0) (Eq.refl d_0.L.length) hc0_0)) (hM.front (Ms := [_])) H30) ?_)
  clear hA; rintro _ w31 ⟨rfl, hMc⟩ a hA
  have hM := hM.call (Ms := [_]) hMc
  clear hMc; simp only [List.cons_append, List.nil_append] at hM
  refine L1 (stv hA (by decide) (run_conv Try.underlying3 Try.underlying43 (hA.ev rfl)) ?_)
  clear hA; intro a hA
  refine L1 (stv hA (by decide) (run_build [(0, (.int .u32 (IntKind.u32.wrap ((ishl .u32 (IntKind.u32.wrap r20.1) 16) + (IntKind.u32.wrap r23.1))))), (1, (.int .u16 (IntKind.u16.wrap r26.1))), (2, (.int .u32 (IntKind.u32.wrap r29.1)))] zero46 Try.underlying46 (ss := [1, 1, 1]) ⟨Try.sizeOf43, Try.sizeOf44, Try.sizeOf43, trivial⟩ hA rfl (fill_step rfl rfl (enc_fit _ _ rfl) (arr_eq (NAddr.spl_Host _ _)) (fill_step rfl rfl (enc_fit _ _ rfl) (arr_eq (NAddr.spl_Port _ _)) (fill_step rfl rfl (enc_fit _ _ rfl) (arr_eq (NAddr.spl_Time _ _)) (fill_nil))))) ?_)
  clear hA; intro a hA
  refine L1 (e_store (g := g17) (off := 0) (cur := (pNAddr.enc NAddr.z)) (cs' := (pNAddr.enc (NAddr.mk (IntKind.u32.wrap ((ishl .u32 (IntKind.u32.wrap r20.1) 16) + (IntKind.u32.wrap r23.1))) (IntKind.u16.wrap r26.1) (IntKind.u32.wrap r29.1)))) hM (.s .z) Try.sizeOf46 hA rfl (by simp [add_mk]) rfl (agg_size _ _) (agg_one _ _) (Nat.le_of_ble_eq_true (enc_fitL _ _ rfl)) (spl_all (by first | rfl | (simp [Value.cells, Pl.len]; done) | (simp [Value.cells, Pl.len]; rfl))) ?_)
  clear hM hA; intro w32  hM hE  a hA
  refine LQ ?_
  refine TN ?_
  refine wp_ret ?_
  obtain rfl := Option.some.inj H
  exact ret_cell (fn := Try.f22) hA rfl rfl (run_loadP Try.isAgg46 Try.sizeOf46 (hM.box (.s .z))) ⟨_, rfl, rfl, (hM.sel [0] rfl (by decide))⟩

end Go.Proofs.Ytoogcdmdbogkeaa.G
