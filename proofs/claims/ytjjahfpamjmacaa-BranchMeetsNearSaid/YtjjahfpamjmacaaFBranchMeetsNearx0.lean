/- The functions that a law of this seat reaches: what each comes to, as a plain function, and that its code comes to it. Conditions: the plain function gives a value (enough fuel, no panic). -/
import Derived.Test.YtjjahfpamjmacaaChecked
import Derived.Test.YtjjahfpamjmacaaE
set_option linter.unusedVariables false
set_option linter.unusedSimpArgs false
namespace Go.Proofs.Ytjjahfpamjmacaa.G
open Go Go.RowKit Go.Proofs
def pHash : Pl (Vector Int 32) := Pl.vec 32 .u8 (by decide)
theorem eq_Hash : EqOk Try.prog 38 pHash 2 := fun d x y w => eq_vec (by decide) d Try.underlying38 Try.isAgg5 Try.underlying5 (by kernel_rfl) (by kernel_rfl) x y w
structure Header where
  Version : Int
  Prev : (Vector Int 32)
  Root : (Vector Int 32)
  Time : Int
  Bits : Int
  Nonce : Int
def Header.z : Header := ⟨(0 : Int), (Vector.replicate 32 0 : Vector Int 32), (Vector.replicate 32 0 : Vector Int 32), (0 : Int), (0 : Int), (0 : Int)⟩
def Header.segs (x : Header) : List (List Value) := [(Pl.int .u32).enc x.Version, pHash.enc x.Prev, pHash.enc x.Root, (Pl.int .u32).enc x.Time, (Pl.int .u32).enc x.Bits, (Pl.int .u32).enc x.Nonce]
theorem Header.segs_len (x : Header) : x.segs.flatten.length = 68 := by
  simp only [Header.segs, List.flatten_cons, List.flatten_nil, List.length_append, List.length_nil, Pl.len]
  rfl
def pHeader : Pl Header := ⟨68, fun x => x.segs.flatten, Header.segs_len, fun x u hu => by
  simp only [Header.segs, List.mem_flatten, List.mem_cons, List.not_mem_nil, or_false] at hu
  obtain ⟨l, hl, hu⟩ := hu
  rcases hl with rfl | rfl | rfl | rfl | rfl | rfl
  all_goals exact Pl.one _ _ u hu, by decide⟩
def Header.eqb (x y : Header) : Bool := (x.Version == y.Version && (x.Prev == y.Prev && (x.Root == y.Root && (x.Time == y.Time && (x.Bits == y.Bits && (x.Nonce == y.Nonce && true))))))
instance : BEq Header := ⟨Header.eqb⟩
theorem Header.eqb_iff (x y : Header) : (x == y) = true ↔ x = y := by
  show Header.eqb x y = true ↔ x = y
  cases x; cases y
  simp [Header.eqb, and_assoc]
theorem eq_Header : EqOk Try.prog 41 pHeader 3 := fun d x y w => eq_struct (P := Try.prog) (d := d + 2) Try.underlying41 (by kernel_rfl) (eqf_cons (by decide) (part_one Try.isAgg39 x.segs 0 rfl (by first | rfl | (simp only [Header.segs, List.take, List.flatten_cons, List.flatten_nil, List.length_append, List.length_nil, Pl.len]; rfl))) (part_one Try.isAgg39 y.segs 0 rfl (by first | rfl | (simp only [Header.segs, List.take, List.flatten_cons, List.flatten_nil, List.length_append, List.length_nil, Pl.len]; rfl))) (run_equalIn_int w (d + 1) _ _ _ _ _ Try.underlying39)
    (eqf_cons (by decide) (part_agg Try.isAgg38 Try.sizeOf38 x.segs 1 rfl (by first | rfl | (simp only [Header.segs, List.take, List.flatten_cons, List.flatten_nil, List.length_append, List.length_nil, Pl.len]; rfl)) (Pl.len _ _)) (part_agg Try.isAgg38 Try.sizeOf38 y.segs 1 rfl (by first | rfl | (simp only [Header.segs, List.take, List.flatten_cons, List.flatten_nil, List.length_append, List.length_nil, Pl.len]; rfl)) (Pl.len _ _)) (eq_Hash d x.Prev y.Prev w)
    (eqf_cons (by decide) (part_agg Try.isAgg38 Try.sizeOf38 x.segs 2 rfl (by first | rfl | (simp only [Header.segs, List.take, List.flatten_cons, List.flatten_nil, List.length_append, List.length_nil, Pl.len]; rfl)) (Pl.len _ _)) (part_agg Try.isAgg38 Try.sizeOf38 y.segs 2 rfl (by first | rfl | (simp only [Header.segs, List.take, List.flatten_cons, List.flatten_nil, List.length_append, List.length_nil, Pl.len]; rfl)) (Pl.len _ _)) (eq_Hash d x.Root y.Root w)
    (eqf_cons (by decide) (part_one Try.isAgg39 x.segs 3 rfl (by first | rfl | (simp only [Header.segs, List.take, List.flatten_cons, List.flatten_nil, List.length_append, List.length_nil, Pl.len]; rfl))) (part_one Try.isAgg39 y.segs 3 rfl (by first | rfl | (simp only [Header.segs, List.take, List.flatten_cons, List.flatten_nil, List.length_append, List.length_nil, Pl.len]; rfl))) (run_equalIn_int w (d + 1) _ _ _ _ _ Try.underlying39)
    (eqf_cons (by decide) (part_one Try.isAgg39 x.segs 4 rfl (by first | rfl | (simp only [Header.segs, List.take, List.flatten_cons, List.flatten_nil, List.length_append, List.length_nil, Pl.len]; rfl))) (part_one Try.isAgg39 y.segs 4 rfl (by first | rfl | (simp only [Header.segs, List.take, List.flatten_cons, List.flatten_nil, List.length_append, List.length_nil, Pl.len]; rfl))) (run_equalIn_int w (d + 1) _ _ _ _ _ Try.underlying39)
    (eqf_cons (by decide) (part_one Try.isAgg39 x.segs 5 rfl (by first | rfl | (simp only [Header.segs, List.take, List.flatten_cons, List.flatten_nil, List.length_append, List.length_nil, Pl.len]; rfl))) (part_one Try.isAgg39 y.segs 5 rfl (by first | rfl | (simp only [Header.segs, List.take, List.flatten_cons, List.flatten_nil, List.length_append, List.length_nil, Pl.len]; rfl))) (run_equalIn_int w (d + 1) _ _ _ _ _ Try.underlying39)
    (eqf_nil)))))))
theorem Header.at_Version {w : World} {ad : Addr} {x : Header} (h : At w ad (pHeader.enc x)) : At w (ad.add 0) ((Pl.int .u32).enc x.Version) := At.seg (segs := x.segs) h 0 rfl (by
  first | rfl | simp only [Header.segs, List.take, List.flatten_cons, List.flatten_nil, List.length_append, List.length_nil, Pl.len]; rfl)
theorem Header.spl_Version (x : Header) (y : Int) : spl (pHeader.enc x) 0 ((Pl.int .u32).enc y) = pHeader.enc { x with Version := y } := spl_seg x.segs 0 ((Pl.int .u32).enc y) 0 rfl (by
  first | rfl | simp only [Header.segs, List.take, List.flatten_cons, List.flatten_nil, List.length_append, List.length_nil, Pl.len]; rfl) (by simp [Pl.len])
theorem Header.at_Prev {w : World} {ad : Addr} {x : Header} (h : At w ad (pHeader.enc x)) : At w (ad.add 1) (pHash.enc x.Prev) := At.seg (segs := x.segs) h 1 rfl (by
  first | rfl | simp only [Header.segs, List.take, List.flatten_cons, List.flatten_nil, List.length_append, List.length_nil, Pl.len]; rfl)
theorem Header.spl_Prev (x : Header) (y : (Vector Int 32)) : spl (pHeader.enc x) 1 (pHash.enc y) = pHeader.enc { x with Prev := y } := spl_seg x.segs 1 (pHash.enc y) 1 rfl (by
  first | rfl | simp only [Header.segs, List.take, List.flatten_cons, List.flatten_nil, List.length_append, List.length_nil, Pl.len]; rfl) (by simp [Pl.len])
theorem Header.at_Root {w : World} {ad : Addr} {x : Header} (h : At w ad (pHeader.enc x)) : At w (ad.add 33) (pHash.enc x.Root) := At.seg (segs := x.segs) h 2 rfl (by
  first | rfl | simp only [Header.segs, List.take, List.flatten_cons, List.flatten_nil, List.length_append, List.length_nil, Pl.len]; rfl)
theorem Header.spl_Root (x : Header) (y : (Vector Int 32)) : spl (pHeader.enc x) 33 (pHash.enc y) = pHeader.enc { x with Root := y } := spl_seg x.segs 2 (pHash.enc y) 33 rfl (by
  first | rfl | simp only [Header.segs, List.take, List.flatten_cons, List.flatten_nil, List.length_append, List.length_nil, Pl.len]; rfl) (by simp [Pl.len])
theorem Header.at_Time {w : World} {ad : Addr} {x : Header} (h : At w ad (pHeader.enc x)) : At w (ad.add 65) ((Pl.int .u32).enc x.Time) := At.seg (segs := x.segs) h 3 rfl (by
  first | rfl | simp only [Header.segs, List.take, List.flatten_cons, List.flatten_nil, List.length_append, List.length_nil, Pl.len]; rfl)
theorem Header.spl_Time (x : Header) (y : Int) : spl (pHeader.enc x) 65 ((Pl.int .u32).enc y) = pHeader.enc { x with Time := y } := spl_seg x.segs 3 ((Pl.int .u32).enc y) 65 rfl (by
  first | rfl | simp only [Header.segs, List.take, List.flatten_cons, List.flatten_nil, List.length_append, List.length_nil, Pl.len]; rfl) (by simp [Pl.len])
theorem Header.at_Bits {w : World} {ad : Addr} {x : Header} (h : At w ad (pHeader.enc x)) : At w (ad.add 66) ((Pl.int .u32).enc x.Bits) := At.seg (segs := x.segs) h 4 rfl (by
  first | rfl | simp only [Header.segs, List.take, List.flatten_cons, List.flatten_nil, List.length_append, List.length_nil, Pl.len]; rfl)
theorem Header.spl_Bits (x : Header) (y : Int) : spl (pHeader.enc x) 66 ((Pl.int .u32).enc y) = pHeader.enc { x with Bits := y } := spl_seg x.segs 4 ((Pl.int .u32).enc y) 66 rfl (by
  first | rfl | simp only [Header.segs, List.take, List.flatten_cons, List.flatten_nil, List.length_append, List.length_nil, Pl.len]; rfl) (by simp [Pl.len])
theorem Header.at_Nonce {w : World} {ad : Addr} {x : Header} (h : At w ad (pHeader.enc x)) : At w (ad.add 67) ((Pl.int .u32).enc x.Nonce) := At.seg (segs := x.segs) h 5 rfl (by
  first | rfl | simp only [Header.segs, List.take, List.flatten_cons, List.flatten_nil, List.length_append, List.length_nil, Pl.len]; rfl)
theorem Header.spl_Nonce (x : Header) (y : Int) : spl (pHeader.enc x) 67 ((Pl.int .u32).enc y) = pHeader.enc { x with Nonce := y } := spl_seg x.segs 5 ((Pl.int .u32).enc y) 67 rfl (by
  first | rfl | simp only [Header.segs, List.take, List.flatten_cons, List.flatten_nil, List.length_append, List.length_nil, Pl.len]; rfl) (by simp [Pl.len])
def pU256 : Pl (Vector Int 4) := Pl.vec 4 .u64 (by decide)
theorem eq_U256 : EqOk Try.prog 44 pU256 2 := fun d x y w => eq_vec (by decide) d Try.underlying44 Try.isAgg42 Try.underlying42 (by kernel_rfl) (by kernel_rfl) x y w
structure Node where
  Header_ : Header
  Hash : (Vector Int 32)
  Parent : Int
  Height : Int
  Work : (Vector Int 4)
def Node.z : Node := ⟨Header.z, (Vector.replicate 32 0 : Vector Int 32), (0 : Int), (0 : Int), (Vector.replicate 4 0 : Vector Int 4)⟩
def Node.segs (x : Node) : List (List Value) := [pHeader.enc x.Header_, pHash.enc x.Hash, (Pl.int .i64).enc x.Parent, (Pl.int .i64).enc x.Height, pU256.enc x.Work]
theorem Node.segs_len (x : Node) : x.segs.flatten.length = 106 := by
  simp only [Node.segs, List.flatten_cons, List.flatten_nil, List.length_append, List.length_nil, Pl.len]
  rfl
def pNode : Pl Node := ⟨106, fun x => x.segs.flatten, Node.segs_len, fun x u hu => by
  simp only [Node.segs, List.mem_flatten, List.mem_cons, List.not_mem_nil, or_false] at hu
  obtain ⟨l, hl, hu⟩ := hu
  rcases hl with rfl | rfl | rfl | rfl | rfl
  all_goals exact Pl.one _ _ u hu, by decide⟩
def Node.eqb (x y : Node) : Bool := (x.Header_ == y.Header_ && (x.Hash == y.Hash && (x.Parent == y.Parent && (x.Height == y.Height && (x.Work == y.Work && true)))))
instance : BEq Node := ⟨Node.eqb⟩
theorem Node.eqb_iff (x y : Node) : (x == y) = true ↔ x = y := by
  show Node.eqb x y = true ↔ x = y
  cases x; cases y
  simp [Node.eqb, and_assoc, Header.eqb_iff]
theorem eq_Node : EqOk Try.prog 46 pNode 4 := fun d x y w => eq_struct (P := Try.prog) (d := d + 3) Try.underlying46 (by kernel_rfl) (eqf_cons (by decide) (part_agg Try.isAgg41 Try.sizeOf41 x.segs 0 rfl (by first | rfl | (simp only [Node.segs, List.take, List.flatten_cons, List.flatten_nil, List.length_append, List.length_nil, Pl.len]; rfl)) (Pl.len _ _)) (part_agg Try.isAgg41 Try.sizeOf41 y.segs 0 rfl (by first | rfl | (simp only [Node.segs, List.take, List.flatten_cons, List.flatten_nil, List.length_append, List.length_nil, Pl.len]; rfl)) (Pl.len _ _)) (eq_Header d x.Header_ y.Header_ w)
    (eqf_cons (by decide) (part_agg Try.isAgg38 Try.sizeOf38 x.segs 1 rfl (by first | rfl | (simp only [Node.segs, List.take, List.flatten_cons, List.flatten_nil, List.length_append, List.length_nil, Pl.len]; rfl)) (Pl.len _ _)) (part_agg Try.isAgg38 Try.sizeOf38 y.segs 1 rfl (by first | rfl | (simp only [Node.segs, List.take, List.flatten_cons, List.flatten_nil, List.length_append, List.length_nil, Pl.len]; rfl)) (Pl.len _ _)) (eq_Hash (d + 1) x.Hash y.Hash w)
    (eqf_cons (by decide) (part_one Try.isAgg3 x.segs 2 rfl (by first | rfl | (simp only [Node.segs, List.take, List.flatten_cons, List.flatten_nil, List.length_append, List.length_nil, Pl.len]; rfl))) (part_one Try.isAgg3 y.segs 2 rfl (by first | rfl | (simp only [Node.segs, List.take, List.flatten_cons, List.flatten_nil, List.length_append, List.length_nil, Pl.len]; rfl))) (run_equalIn_int w (d + 2) _ _ _ _ _ Try.underlying3)
    (eqf_cons (by decide) (part_one Try.isAgg3 x.segs 3 rfl (by first | rfl | (simp only [Node.segs, List.take, List.flatten_cons, List.flatten_nil, List.length_append, List.length_nil, Pl.len]; rfl))) (part_one Try.isAgg3 y.segs 3 rfl (by first | rfl | (simp only [Node.segs, List.take, List.flatten_cons, List.flatten_nil, List.length_append, List.length_nil, Pl.len]; rfl))) (run_equalIn_int w (d + 2) _ _ _ _ _ Try.underlying3)
    (eqf_cons (by decide) (part_agg Try.isAgg44 Try.sizeOf44 x.segs 4 rfl (by first | rfl | (simp only [Node.segs, List.take, List.flatten_cons, List.flatten_nil, List.length_append, List.length_nil, Pl.len]; rfl)) (Pl.len _ _)) (part_agg Try.isAgg44 Try.sizeOf44 y.segs 4 rfl (by first | rfl | (simp only [Node.segs, List.take, List.flatten_cons, List.flatten_nil, List.length_append, List.length_nil, Pl.len]; rfl)) (Pl.len _ _)) (eq_U256 (d + 1) x.Work y.Work w)
    (eqf_nil))))))
theorem Node.at_Header_ {w : World} {ad : Addr} {x : Node} (h : At w ad (pNode.enc x)) : At w (ad.add 0) (pHeader.enc x.Header_) := At.seg (segs := x.segs) h 0 rfl (by
  first | rfl | simp only [Node.segs, List.take, List.flatten_cons, List.flatten_nil, List.length_append, List.length_nil, Pl.len]; rfl)
theorem Node.spl_Header_ (x : Node) (y : Header) : spl (pNode.enc x) 0 (pHeader.enc y) = pNode.enc { x with Header_ := y } := spl_seg x.segs 0 (pHeader.enc y) 0 rfl (by
  first | rfl | simp only [Node.segs, List.take, List.flatten_cons, List.flatten_nil, List.length_append, List.length_nil, Pl.len]; rfl) (by simp [Pl.len])
theorem Node.at_Hash {w : World} {ad : Addr} {x : Node} (h : At w ad (pNode.enc x)) : At w (ad.add 68) (pHash.enc x.Hash) := At.seg (segs := x.segs) h 1 rfl (by
  first | rfl | simp only [Node.segs, List.take, List.flatten_cons, List.flatten_nil, List.length_append, List.length_nil, Pl.len]; rfl)
theorem Node.spl_Hash (x : Node) (y : (Vector Int 32)) : spl (pNode.enc x) 68 (pHash.enc y) = pNode.enc { x with Hash := y } := spl_seg x.segs 1 (pHash.enc y) 68 rfl (by
  first | rfl | simp only [Node.segs, List.take, List.flatten_cons, List.flatten_nil, List.length_append, List.length_nil, Pl.len]; rfl) (by simp [Pl.len])
theorem Node.at_Parent {w : World} {ad : Addr} {x : Node} (h : At w ad (pNode.enc x)) : At w (ad.add 100) ((Pl.int .i64).enc x.Parent) := At.seg (segs := x.segs) h 2 rfl (by
  first | rfl | simp only [Node.segs, List.take, List.flatten_cons, List.flatten_nil, List.length_append, List.length_nil, Pl.len]; rfl)
theorem Node.spl_Parent (x : Node) (y : Int) : spl (pNode.enc x) 100 ((Pl.int .i64).enc y) = pNode.enc { x with Parent := y } := spl_seg x.segs 2 ((Pl.int .i64).enc y) 100 rfl (by
  first | rfl | simp only [Node.segs, List.take, List.flatten_cons, List.flatten_nil, List.length_append, List.length_nil, Pl.len]; rfl) (by simp [Pl.len])
theorem Node.at_Height {w : World} {ad : Addr} {x : Node} (h : At w ad (pNode.enc x)) : At w (ad.add 101) ((Pl.int .i64).enc x.Height) := At.seg (segs := x.segs) h 3 rfl (by
  first | rfl | simp only [Node.segs, List.take, List.flatten_cons, List.flatten_nil, List.length_append, List.length_nil, Pl.len]; rfl)
theorem Node.spl_Height (x : Node) (y : Int) : spl (pNode.enc x) 101 ((Pl.int .i64).enc y) = pNode.enc { x with Height := y } := spl_seg x.segs 3 ((Pl.int .i64).enc y) 101 rfl (by
  first | rfl | simp only [Node.segs, List.take, List.flatten_cons, List.flatten_nil, List.length_append, List.length_nil, Pl.len]; rfl) (by simp [Pl.len])
theorem Node.at_Work {w : World} {ad : Addr} {x : Node} (h : At w ad (pNode.enc x)) : At w (ad.add 102) (pU256.enc x.Work) := At.seg (segs := x.segs) h 4 rfl (by
  first | rfl | simp only [Node.segs, List.take, List.flatten_cons, List.flatten_nil, List.length_append, List.length_nil, Pl.len]; rfl)
theorem Node.spl_Work (x : Node) (y : (Vector Int 4)) : spl (pNode.enc x) 102 (pU256.enc y) = pNode.enc { x with Work := y } := spl_seg x.segs 4 (pU256.enc y) 102 rfl (by
  first | rfl | simp only [Node.segs, List.take, List.flatten_cons, List.flatten_nil, List.length_append, List.length_nil, Pl.len]; rfl) (by simp [Pl.len])
structure Tree where
  Nodes : (List Node)
  Best : Int
def Tree.z : Tree := ⟨[], (0 : Int)⟩
theorem zero3 : ∀ w, (zeroValue 3).run Try.prog w = .ok (.int .i64 (0 : Int)) w := run_zero (by kernel_rfl)
theorem zero24 : ∀ w, (zeroValue 24).run Try.prog w = .ok (.agg #[(.slice none 0 0), (.int .i64 (0 : Int))]) w := run_zero (by kernel_rfl)
theorem zero38 : ∀ w, (zeroValue 38).run Try.prog w = .ok (.agg (pHash.enc (Vector.replicate 32 0 : Vector Int 32)).toArray) w := run_zero (by kernel_rfl)
theorem zero41 : ∀ w, (zeroValue 41).run Try.prog w = .ok (.agg (pHeader.enc Header.z).toArray) w := run_zero (by kernel_rfl)
theorem zero46 : ∀ w, (zeroValue 46).run Try.prog w = .ok (.agg (pNode.enc Node.z).toArray) w := run_zero (by kernel_rfl)
theorem elt22 : Elt Try.prog pNode 22 46 (.agg (pNode.enc Node.z).toArray) 160 := ⟨Try.underlying22, by kernel_rfl, by first | rfl | simp [Value.cells, Pl.len], by decide⟩
theorem elt25 : Elt Try.prog (Pl.int .u8) 25 5 (.int .u8 (0 : Int)) 1 := ⟨Try.underlying25, by kernel_rfl, by first | rfl | simp [Value.cells, Pl.len], by decide⟩
theorem elt31 : Elt Try.prog (Pl.int .i64) 31 3 (.int .i64 (0 : Int)) 8 := ⟨Try.underlying31, by kernel_rfl, by first | rfl | simp [Value.cells, Pl.len], by decide⟩
theorem elt35 : Elt Try.prog pHash 35 38 (.agg (pHash.enc (Vector.replicate 32 0 : Vector Int 32)).toArray) 32 := ⟨Try.underlying35, by kernel_rfl, by first | rfl | simp [Value.cells, Pl.len], by decide⟩
theorem key38 : KeyOk Try.prog 38 pHash := key_vec (by decide) Try.underlying38 Try.underlying5 Try.isAgg5 Try.sizeOf5 (by kernel_rfl) (by kernel_rfl)
def law16_line.l0 (l_0 : (List Int)) : Nat → (List Node) → (List Int) → Int → Option ((List Node))
  | 0, _, _, _ => none
  | k + 1, xs454, t456, t465 => (if (decide (t465 < (((if 60 < ((l_0.length : Nat) : Int) then 60 else ((l_0.length : Nat) : Int)).toNat : Nat) : Int))) = true then (if 0 ≤ t465 ∧ t465 < ((t456.length : Nat) : Int) then (if 0 ≤ (if IntKind.i64.wrap (t465 - (IntKind.i64.wrap ((IntKind.i64.wrap ((t456.getD t465.toNat (0 : Int)).tmod 4)) * (IntKind.i64.wrap (IntKind.u8.wrap ((t456.getD t465.toNat (0 : Int)).tdiv 64)))))) > 0 then IntKind.i64.wrap (t465 - (IntKind.i64.wrap ((IntKind.i64.wrap ((t456.getD t465.toNat (0 : Int)).tmod 4)) * (IntKind.i64.wrap (IntKind.u8.wrap ((t456.getD t465.toNat (0 : Int)).tdiv 64)))))) else 0) ∧ (if IntKind.i64.wrap (t465 - (IntKind.i64.wrap ((IntKind.i64.wrap ((t456.getD t465.toNat (0 : Int)).tmod 4)) * (IntKind.i64.wrap (IntKind.u8.wrap ((t456.getD t465.toNat (0 : Int)).tdiv 64)))))) > 0 then IntKind.i64.wrap (t465 - (IntKind.i64.wrap ((IntKind.i64.wrap ((t456.getD t465.toNat (0 : Int)).tmod 4)) * (IntKind.i64.wrap (IntKind.u8.wrap ((t456.getD t465.toNat (0 : Int)).tdiv 64)))))) else 0) < ((xs454.length : Nat) : Int) then (if (xs454.length + 1) * 160 ≤ 140737488355328 then (law16_line.l0 l_0 k (xs454 ++ [({ { { { Node.z with Header_ := ({ Header.z with Nonce := IntKind.u32.wrap t465 }) } with Hash := ((((Vector.replicate 32 0 : Vector Int 32).setIfInBounds 0 (IntKind.u8.wrap t465)).setIfInBounds 1 1)) } with Parent := if IntKind.i64.wrap (t465 - (IntKind.i64.wrap ((IntKind.i64.wrap ((t456.getD t465.toNat (0 : Int)).tmod 4)) * (IntKind.i64.wrap (IntKind.u8.wrap ((t456.getD t465.toNat (0 : Int)).tdiv 64)))))) > 0 then IntKind.i64.wrap (t465 - (IntKind.i64.wrap ((IntKind.i64.wrap ((t456.getD t465.toNat (0 : Int)).tmod 4)) * (IntKind.i64.wrap (IntKind.u8.wrap ((t456.getD t465.toNat (0 : Int)).tdiv 64)))))) else 0 } with Height := IntKind.i64.wrap (((xs454.getD (if IntKind.i64.wrap (t465 - (IntKind.i64.wrap ((IntKind.i64.wrap ((t456.getD t465.toNat (0 : Int)).tmod 4)) * (IntKind.i64.wrap (IntKind.u8.wrap ((t456.getD t465.toNat (0 : Int)).tdiv 64)))))) > 0 then IntKind.i64.wrap (t465 - (IntKind.i64.wrap ((IntKind.i64.wrap ((t456.getD t465.toNat (0 : Int)).tmod 4)) * (IntKind.i64.wrap (IntKind.u8.wrap ((t456.getD t465.toNat (0 : Int)).tdiv 64)))))) else 0).toNat Node.z).Height) + 1) })]) t456 (IntKind.i64.wrap (t465 + 1))) else none) else none) else none) else (some xs454))
def law16_line.l1 (xs471 : (List Node)) : Nat → Int → Int → Option (Int)
  | 0, _, _ => none
  | k + 1, x619, t622 => (if (decide (t622 < ((xs471.length : Nat) : Int))) = true then (if 0 ≤ t622 ∧ t622 < ((xs471.length : Nat) : Int) then (if 0 ≤ x619 ∧ x619 < ((xs471.length : Nat) : Int) then (Option.bind (α := Int) (if (decide (((xs471.getD t622.toNat Node.z).Height) > ((xs471.getD x619.toNat Node.z).Height))) = true then (some t622) else (some x619)) (fun x647 => (law16_line.l1 xs471 k x647 (IntKind.i64.wrap (t622 + 1))))) else none) else none) else (some x619))
def law16_line.f (k : Nat) (l_0 : (List Int)) : Option Tree := (if 0 ≤ (if 60 < ((l_0.length : Nat) : Int) then 60 else ((l_0.length : Nat) : Int)) ∧ (if 60 < ((l_0.length : Nat) : Int) then 60 else ((l_0.length : Nat) : Int)) ≤ ((l_0.length : Nat) : Int) then (Option.bind (α := (List Node)) (law16_line.l0 l_0 k [({ { Node.z with Hash := (((Vector.replicate 32 0 : Vector Int 32).setIfInBounds 0 255)) } with Parent := (-1) })] (l_0.take ((if 60 < ((l_0.length : Nat) : Int) then 60 else ((l_0.length : Nat) : Int)).toNat)) 0) (fun xs471 => (Option.bind (α := Int) (law16_line.l1 xs471 k 0 0) (fun x625 => (some (Tree.mk xs471 x625)))))) else none)
set_option maxRecDepth 100000 in
theorem law16_line.calls (k : Nat) (l_0 : (List Int)) (F : List (Option Nat)) (v0 : Value) (r : Tree) (w0 : World) (h0 : RoV F (Pl.int .u8) w0 v0 l_0) (hM : Mem F w0 w0 []) (H : law16_line.f k l_0 = some r) :
    Calls Try.prog 10 #[v0] w0 fun e w' => ∃ v, e = .returned v ∧ ∃ (ur_0_0 : Value), v = (.agg #[ur_0_0, (.int .i64 r.Best)]) ∧ Mem F w0 w' [.row 46 pNode.sz ur_0_0 (pNode.flat r.Nodes)] := by
  unfold law16_line.f at H
  obtain ⟨A0, c0, rfl, hr0, hc0⟩ := h0
  refine enterL (n := 75) [(.slice A0 l_0.length c0)] Try.func10 rfl rfl rfl ?_
  intro a hA
  refine wp_seq ?_
  refine wp_region_lit ?_
  refine L1 (e_alloc (cs := [(.slice none 0 0), (.int .i64 0)]) hM zero24 rfl hA (by decide) ?_)
  clear hM hA; intro w330 g329 hM hE a hA
  refine LQ ?_
  refine TN ?_
  refine wp_seq ?_
  refine wp_region_lit ?_
  refine L1 (stv hA (by decide) (run_build_arr [(0, (.int .u8 255))] zero38 Try.underlying38 Try.sizeOf5 hA rfl (fill_step rfl rfl (enc_fit _ _ rfl) (arr_eq (vec_spl' _ _ _ (by decide))) (fill_nil))) ?_)
  clear hA; intro a hA
  refine L1 (stv hA (by decide) (run_build [(1, (.agg (pHash.enc (((Vector.replicate 32 0 : Vector Int 32).setIfInBounds 0 255))).toArray)), (2, (.int .i64 (-1)))] zero46 Try.underlying46 (ss := [68, 32, 1, 1, 4]) ⟨Try.sizeOf41, Try.sizeOf38, Try.sizeOf3, Try.sizeOf3, Try.sizeOf44, trivial⟩ hA rfl (fill_step rfl (by simp [Value.cells, Pl.len]; try rfl) (enc_fit _ _ rfl) (arr_eq (Node.spl_Hash _ _)) (fill_step rfl rfl (enc_fit _ _ rfl) (arr_eq (Node.spl_Parent _ _)) (fill_nil)))) ?_)
  clear hA; intro a hA
  refine L1 (e_litN [({ { Node.z with Hash := (((Vector.replicate 32 0 : Vector Int 32).setIfInBounds 0 255)) } with Parent := (-1) })] [(.agg (pNode.enc ({ { Node.z with Hash := (((Vector.replicate 32 0 : Vector Int 32).setIfInBounds 0 255)) } with Parent := (-1) })).toArray)] elt22 hM rfl (by decide) hA rfl rfl (List.cons_ne_nil _ _) (by decide) ?_)
  clear hM hA; intro w333 g332 hM hE a hA
  refine L1 (stv hA (by decide) (run_build (cells := #[(.slice (some ⟨g332, 0, none⟩) 1 1), (.int .i64 0)]) [(0, (.slice (some ⟨g332, 0, none⟩) 1 1))] zero24 Try.underlying24 (ss := [1, 1]) ⟨Try.sizeOf22, Try.sizeOf3, trivial⟩ hA rfl (by rfl)) ?_)
  clear hA; intro a hA
  refine L1 (e_alloc (cs := [(.slice none 0 0), (.int .i64 0)]) hM zero24 rfl hA (by decide) ?_)
  clear hM hA; intro w336 g335 hM hE a hA
  refine L1 (e_store (g := g335) (off := 0) (cur := [(.slice none 0 0), (.int .i64 0)]) (cs' := [(.slice (some ⟨g332, 0, none⟩) 1 1), (.int .i64 0)]) hM .z Try.sizeOf24 hA rfl (by simp [add_mk]) rfl (by first | rfl | simp [Value.cells, Pl.len]) (by simp [Value.cells, Value.oneCell']) (by first | exact Nat.le_of_ble_eq_true rfl | (simp [Pl.len]; done)) (spl_all (by first | rfl | simp [Value.cells, Pl.len])) ?_)
  clear hM hA; intro w338 hM hE a hA
  refine LQ ?_
  refine TN ?_
  refine wp_seq ?_
  refine wp_seq ?_
  refine wp_region_lit ?_
  refine L1 (stv hA (by decide) (run_move (hA.ev rfl)) ?_)
  clear hA; intro a hA
  refine L1 (inl_call Try.call22 hA [(.slice A0 l_0.length c0), (.int .i64 60)] rfl (by decide) ?_)
  refine enterL (n := 11) [(.slice A0 l_0.length c0), (.int .i64 60)] Try.func22 rfl rfl rfl ?_
  clear hA; intro a hA
  refine wp_seq ?_
  refine wp_region_lit ?_
  refine L1 (stv hA (by decide) (run_assign (hA.ev rfl)) ?_)
  clear hA; intro a hA
  refine LQ ?_
  refine TN ?_
  refine wp_seq ?_
  refine wp_region_lit ?_
  refine L1 (stv hA (by decide) (run_move (hA.ev rfl)) ?_)
  clear hA; intro a hA
  refine L1 (stv hA (by decide) (run_move (hA.ev rfl)) ?_)
  clear hA; intro a hA
  refine L1 (stv hA (by decide) (run_len_slice Try.underlying25 (hA.ev rfl)) ?_)
  clear hA; intro a hA
  refine L1 (stv hA (by decide) (run_move (hA.ev rfl)) ?_)
  clear hA; intro a hA
  refine L1 (stv hA (by decide) (run_min (hA.ev rfl) (hA.ev rfl)) ?_)
  clear hA; intro a hA
  obtain ⟨⟨hi341, hj342⟩, H⟩ := ite_some H
  refine L1 (stv hA (by decide) (run_hi Try.underlying25 Try.sizeOf5 hc0 hi341 hj342 (hA.ev rfl) (hA.ev rfl)) ?_)
  clear hA; intro a hA
  refine L1 (stv hA (by decide) (run_assign (hA.ev rfl)) ?_)
  clear hA; intro a hA
  refine LQ ?_
  refine TN ?_
  refine wp_ret ?_
  refine ret_post1 (fn := Try.f22) hA rfl rfl ⟨_, rfl, ?_⟩; clear hA; intro a hA
  refine L1 (stv hA (by decide) (run_len_slice Try.underlying25 (hA.ev rfl)) ?_)
  clear hA; intro a hA
  refine L1 (stv hA (by decide) (run_move (hA.ev rfl)) ?_)
  clear hA; intro a hA
  refine LQ ?_
  refine TN ?_
  obtain ⟨o473, H472, H⟩ := Option.bind_eq_some_iff.1 H
  refine cutC (fun a w => ∃ (xs471 : (List Node)) (v468 : Value), xs471 = o473 ∧ Mem F w0 w [.box g329 24 [(.slice none 0 0), (.int .i64 0)], .box g335 24 [v468, (.int .i64 0)], .row 46 pNode.sz v468 (pNode.flat xs471)] ∧ Has 75 [(2, (.pointer (some (⟨g329, 0, none⟩)))), (3, (.pointer (some (⟨g335, 0, none⟩))))] a) ?_ ?_
  · refine wp_block ?_
    refine wp_loop_ghost (fun m a w => ∃ (xs454 : (List Node)) (t456 : (List Int)) (t465 : Int) (v451 : Value) (v457 : Value), law16_line.l0 l_0 m xs454 t456 t465 = some o473 ∧ (RoV F (Pl.int .u8) w0 v457 t456) ∧ Mem F w0 w [.box g329 24 [(.slice none 0 0), (.int .i64 0)], .box g335 24 [v451, (.int .i64 0)], .row 46 pNode.sz v451 (pNode.flat xs454)] ∧ Has 75 [(2, (.pointer (some (⟨g329, 0, none⟩)))), (3, (.pointer (some (⟨g335, 0, none⟩)))), (13, v457), (14, (.int .i64 (((if 60 < ((l_0.length : Nat) : Int) then 60 else ((l_0.length : Nat) : Int)).toNat : Nat) : Int))), (15, (.int .i64 t465))] a) k ⟨[({ { Node.z with Hash := (((Vector.replicate 32 0 : Vector Int 32).setIfInBounds 0 255)) } with Parent := (-1) })], (l_0.take ((if 60 < ((l_0.length : Nat) : Int) then 60 else ((l_0.length : Nat) : Int)).toNat)), 0, (.slice (some ⟨g332, 0, none⟩) 1 1), (.slice A0 ((if 60 < ((l_0.length : Nat) : Int) then 60 else ((l_0.length : Nat) : Int)).toNat) c0), H472, (RoV.mk (Ro.take hr0 ((if 60 < ((l_0.length : Nat) : Int) then 60 else ((l_0.length : Nat) : Int)).toNat)) (len_take (Eq.refl l_0.length) (by omega)) (by have hh1 := hc0; omega)), (hM.sel [2, 0, 1] rfl (by decide)), (((((hA.nil.cons (hA.get 15 _ rfl)).cons (hA.get 14 _ rfl)).cons (hA.get 13 _ rfl)).cons (hA.get 3 _ rfl)).cons (hA.get 2 _ rfl))⟩ ?_
    clear hM hA; rintro m474 a w475 ⟨xs454, t456, t465, v451, v457, H472, h462, hM, hA⟩
    cases m474 with
    | zero => exact absurd H472 (by simp [law16_line.l0])
    | succ m474 =>
    rw [law16_line.l0] at H472
    obtain ⟨A458, c459, rfl, hr460, hc461⟩ := h462
    obtain ⟨A452, c453, rfl⟩ := RowOk.form (hM.row (p := pNode) (.s (.s .z)))
    refine wp_seq ?_
    refine wp_region_lit ?_
    refine L1 (stv hA (by decide) (run_bin (hA.ev rfl) (hA.ev rfl) (bin_lss _ _ _ _)) ?_)
    clear hA; intro a hA
    refine LQ ?_
    refine TN ?_
    refine wp_seq ?_
    refine tcond (b := (decide (t465 < (((if 60 < ((l_0.length : Nat) : Int) then 60 else ((l_0.length : Nat) : Int)).toNat : Nat) : Int)))) hA rfl (fun hb476 => ?_) (fun hb476 => ?_)
    · replace H472 := ite_t hb476 H472
      refine wp_skip ?_
      refine TN ?_
      refine wp_seq ?_
      refine wp_block ?_
      refine wp_seq ?_
      refine wp_region_lit ?_
      refine L1 (stv hA (by decide) (run_move (hA.ev rfl)) ?_)
      clear hA; intro a hA
      obtain ⟨⟨hi477, hj478⟩, H472⟩ := ite_some H472
      obtain ⟨ad479, hq480, hat481⟩ := Row.elem' (p := (Pl.int .u8)) (hM.ro hr460) (Eq.refl t456.length) (0 : Int) t465 hi477 hj478
      refine L1 (stv hA (by decide) (run_idx Try.underlying25 Try.sizeOf5 (hA.ev rfl) hq480 (hA.ev rfl) hi477 hj478) ?_)
      clear hA; intro a hA
      refine L1 (stv hA (by decide) (run_ld (hA.ev rfl) (run_loadS Try.isAgg5 hat481)) ?_)
      clear hA; intro a hA
      refine L1 (stv hA (by decide) (run_assign (hA.ev rfl)) ?_)
      clear hA; intro a hA
      refine L1 (stv hA (by decide) (run_assign (hA.ev rfl)) ?_)
      clear hA; intro a hA
      refine LQ ?_
      refine TN ?_
      refine wp_seq ?_
      refine wp_region_lit ?_
      refine L1 (stv hA (by decide) (run_move (hA.ev rfl)) ?_)
      clear hA; intro a hA
      refine L1 (stv hA (by decide) (run_move (hA.ev rfl)) ?_)
      clear hA; intro a hA
      refine L1 (stv hA (by decide) (run_bin (hA.ev rfl) (hA.ev rfl) (bin_rem _ _ _ _ (by decide))) ?_)
      clear hA; intro a hA
      refine L1 (stv hA (by decide) (run_conv Try.underlying5 Try.underlying3 (hA.ev rfl)) ?_)
      clear hA; intro a hA
      refine L1 (stv hA (by decide) (run_move (hA.ev rfl)) ?_)
      clear hA; intro a hA
      refine L1 (stv hA (by decide) (run_bin (hA.ev rfl) (hA.ev rfl) (bin_quo _ _ _ _ (by decide))) ?_)
      clear hA; intro a hA
      refine L1 (stv hA (by decide) (run_conv Try.underlying5 Try.underlying3 (hA.ev rfl)) ?_)
      clear hA; intro a hA
      refine L1 (stv hA (by decide) (run_bin (hA.ev rfl) (hA.ev rfl) (bin_mul _ _ _ _)) ?_)
      clear hA; intro a hA
      refine L1 (stv hA (by decide) (run_bin (hA.ev rfl) (hA.ev rfl) (bin_sub _ _ _ _)) ?_)
      clear hA; intro a hA
      refine L1 (stv hA (by decide) (run_max (hA.ev rfl) (hA.ev rfl)) ?_)
      clear hA; intro a hA
      refine L1 (stv hA (by decide) (run_assign (hA.ev rfl)) ?_)
      clear hA; intro a hA
      refine LQ ?_
      refine TN ?_
      refine draw (fun w' => Below w475.heap.size w475 w') [18, 20] rfl ?_
      intro w482 hw hS; replace hM := hM.ext hS; clear hw
      refine d_takef (i := 0) (L' := #[true, false, false, false, false, false, false, false, false, false, false, false, false, false, false, false, false, false, false, false, false]) rfl (by kernel_rfl) rfl (fun _ _ _ h => h) hA (by decide) (fun _ => hS) (fun a w' hA => run_field' Try.underlying24 rfl rfl Try.sizeOf22 (by decide) (hA.ev rfl)) ?_; clear hA; intro a hA
      refine rebase hS ?_; clear hS; intro hS
      refine d_take (i := 1) (L' := #[true, true, false, false, false, false, false, false, false, false, false, false, false, false, false, false, false, false, false, false, false]) rfl (by kernel_rfl) rfl (fun _ _ _ h => h) hA (by decide) rfl hS (fun a w' hA hS' => run_ld (hA.ev rfl) (run_loadS Try.isAgg22 ((At.seg1 (hM.box (.s .z)) 0 rfl).extB hS'))) ?_; clear hA; intro a hA
      refine d_takef (i := 2) (L' := #[true, true, true, false, false, false, false, false, false, false, false, false, false, false, false, false, false, false, false, false, false]) rfl (by kernel_rfl) rfl (fun _ _ _ h => h) hA (by decide) (fun _ => hS) (fun a w' hA => run_move (hA.ev rfl)) ?_; clear hA; intro a hA
      refine d_takef (i := 3) (L' := #[true, true, true, true, false, false, false, false, false, false, false, false, false, false, false, false, false, false, false, false, false]) rfl (by kernel_rfl) rfl (fun _ _ _ h => h) hA (by decide) (fun _ => hS) (fun a w' hA => run_conv Try.underlying3 Try.underlying39 (hA.ev rfl)) ?_; clear hA; intro a hA
      refine d_takef (i := 4) (L' := #[true, true, true, true, true, false, false, false, false, false, false, false, false, false, false, false, false, false, false, false, false]) rfl (by kernel_rfl) rfl (fun _ _ _ h => h) hA (by decide) (fun _ => hS) (fun a w' hA => run_build [(5, (.int .u32 (IntKind.u32.wrap t465)))] zero41 Try.underlying41 (ss := [1, 32, 32, 1, 1, 1]) ⟨Try.sizeOf39, Try.sizeOf38, Try.sizeOf38, Try.sizeOf39, Try.sizeOf39, Try.sizeOf39, trivial⟩ hA rfl (fill_step rfl rfl (enc_fit _ _ rfl) (arr_eq (Header.spl_Nonce _ _)) (fill_nil))) ?_; clear hA; intro a hA
      refine d_takef (i := 5) (L' := #[true, true, true, true, true, true, false, false, false, false, false, false, false, false, false, false, false, false, false, false, false]) rfl (by kernel_rfl) rfl (fun _ _ _ h => h) hA (by decide) (fun _ => hS) (fun a w' hA => run_move (hA.ev rfl)) ?_; clear hA; intro a hA
      refine d_takef (i := 6) (L' := #[true, true, true, true, true, true, true, false, false, false, false, false, false, false, false, false, false, false, false, false, false]) rfl (by kernel_rfl) rfl (fun _ _ _ h => h) hA (by decide) (fun _ => hS) (fun a w' hA => run_conv Try.underlying3 Try.underlying5 (hA.ev rfl)) ?_; clear hA; intro a hA
      refine d_takef (i := 7) (L' := #[true, true, true, true, true, true, true, true, false, false, false, false, false, false, false, false, false, false, false, false, false]) rfl (by kernel_rfl) rfl (fun _ _ _ h => h) hA (by decide) (fun _ => hS) (fun a w' hA => run_build_arr [(0, (.int .u8 (IntKind.u8.wrap t465))), (1, (.int .u8 1))] zero38 Try.underlying38 Try.sizeOf5 hA rfl (fill_step rfl rfl (enc_fit _ _ rfl) (arr_eq (vec_spl' _ _ _ (by decide))) (fill_step rfl rfl (enc_fit _ _ rfl) (arr_eq (vec_spl' _ _ _ (by decide))) (fill_nil)))) ?_; clear hA; intro a hA
      refine d_takef (i := 8) (L' := #[true, true, true, true, true, true, true, true, true, false, false, false, false, false, false, false, false, false, false, false, false]) rfl (by kernel_rfl) rfl (fun _ _ _ h => h) hA (by decide) (fun _ => hS) (fun a w' hA => run_move (hA.ev rfl)) ?_; clear hA; intro a hA
      refine d_takef (i := 9) (L' := #[true, true, true, true, true, true, true, true, true, true, false, false, false, false, false, false, false, false, false, false, false]) rfl (by kernel_rfl) rfl (fun _ _ _ h => h) hA (by decide) (fun _ => hS) (fun a w' hA => run_field' Try.underlying24 rfl rfl Try.sizeOf22 (by decide) (hA.ev rfl)) ?_; clear hA; intro a hA
      refine d_takef (i := 11) (L' := #[true, true, true, true, true, true, true, true, true, true, false, true, false, false, false, false, false, false, false, false, false]) rfl (by kernel_rfl) rfl (fun _ _ _ h => h) hA (by decide) (fun _ => hS) (fun a w' hA => run_move (hA.ev rfl)) ?_; clear hA; intro a hA
      refine d_one (i := 10) (L' := #[true, true, true, true, true, true, true, true, true, true, true, true, false, false, false, false, false, false, false, false, false]) (by kernel_rfl) rfl rfl (stv hA (by decide) (run_ld (hA.ev rfl) (run_loadS Try.isAgg22 (At.seg1 (hM.box (.s .z)) 0 rfl))) ?_)
      clear hA; intro a hA
      refine ⟨fun _ => hS, ?_⟩
      obtain ⟨⟨hi484, hj485⟩, H472⟩ := ite_some H472
      obtain ⟨ad486, hq487, hat488⟩ := Row.elem' (p := pNode) (RowOk.row (hM.row (p := pNode) (.s (.s .z)))) (RowOk.len (hM.row (p := pNode) (.s (.s .z)))) Node.z (if IntKind.i64.wrap (t465 - (IntKind.i64.wrap ((IntKind.i64.wrap ((t456.getD t465.toNat (0 : Int)).tmod 4)) * (IntKind.i64.wrap (IntKind.u8.wrap ((t456.getD t465.toNat (0 : Int)).tdiv 64)))))) > 0 then IntKind.i64.wrap (t465 - (IntKind.i64.wrap ((IntKind.i64.wrap ((t456.getD t465.toNat (0 : Int)).tmod 4)) * (IntKind.i64.wrap (IntKind.u8.wrap ((t456.getD t465.toNat (0 : Int)).tdiv 64)))))) else 0) hi484 hj485
      refine d_takef (i := 12) (L' := #[true, true, true, true, true, true, true, true, true, true, true, true, true, false, false, false, false, false, false, false, false]) rfl (by kernel_rfl) rfl (fun _ _ _ h => h) hA (by decide) (fun _ => hS) (fun a w' hA => run_idx Try.underlying22 Try.sizeOf46 (hA.ev rfl) hq487 (hA.ev rfl) hi484 hj485) ?_; clear hA; intro a hA
      refine d_takef (i := 13) (L' := #[true, true, true, true, true, true, true, true, true, true, true, true, true, true, false, false, false, false, false, false, false]) rfl (by kernel_rfl) rfl (fun _ _ _ h => h) hA (by decide) (fun _ => hS) (fun a w' hA => run_field' Try.underlying46 rfl rfl Try.sizeOf3 (by decide) (hA.ev rfl)) ?_; clear hA; intro a hA
      refine d_one (i := 14) (L' := #[true, true, true, true, true, true, true, true, true, true, true, true, true, true, true, false, false, false, false, false, false]) (by kernel_rfl) rfl rfl (stv hA (by decide) (run_ld (hA.ev rfl) (run_loadS Try.isAgg3 (Node.at_Height (hat488)))) ?_)
      clear hA; intro a hA
      refine ⟨fun _ => hS, ?_⟩
      refine d_takef (i := 15) (L' := #[true, true, true, true, true, true, true, true, true, true, true, true, true, true, true, true, false, false, false, false, false]) rfl (by kernel_rfl) rfl (fun _ _ _ h => h) hA (by decide) (fun _ => hS) (fun a w' hA => run_bin (hA.ev rfl) (hA.ev rfl) (bin_add _ _ _ _)) ?_; clear hA; intro a hA
      refine d_takef (i := 16) (L' := #[true, true, true, true, true, true, true, true, true, true, true, true, true, true, true, true, true, false, false, false, false]) rfl (by kernel_rfl) rfl (fun _ _ _ h => h) hA (by decide) (fun _ => hS) (fun a w' hA => run_build [(0, (.agg (pHeader.enc ({ Header.z with Nonce := IntKind.u32.wrap t465 })).toArray)), (1, (.agg (pHash.enc ((((Vector.replicate 32 0 : Vector Int 32).setIfInBounds 0 (IntKind.u8.wrap t465)).setIfInBounds 1 1))).toArray)), (2, (.int .i64 (if IntKind.i64.wrap (t465 - (IntKind.i64.wrap ((IntKind.i64.wrap ((t456.getD t465.toNat (0 : Int)).tmod 4)) * (IntKind.i64.wrap (IntKind.u8.wrap ((t456.getD t465.toNat (0 : Int)).tdiv 64)))))) > 0 then IntKind.i64.wrap (t465 - (IntKind.i64.wrap ((IntKind.i64.wrap ((t456.getD t465.toNat (0 : Int)).tmod 4)) * (IntKind.i64.wrap (IntKind.u8.wrap ((t456.getD t465.toNat (0 : Int)).tdiv 64)))))) else 0))), (3, (.int .i64 (IntKind.i64.wrap (((xs454.getD (if IntKind.i64.wrap (t465 - (IntKind.i64.wrap ((IntKind.i64.wrap ((t456.getD t465.toNat (0 : Int)).tmod 4)) * (IntKind.i64.wrap (IntKind.u8.wrap ((t456.getD t465.toNat (0 : Int)).tdiv 64)))))) > 0 then IntKind.i64.wrap (t465 - (IntKind.i64.wrap ((IntKind.i64.wrap ((t456.getD t465.toNat (0 : Int)).tmod 4)) * (IntKind.i64.wrap (IntKind.u8.wrap ((t456.getD t465.toNat (0 : Int)).tdiv 64)))))) else 0).toNat Node.z).Height) + 1))))] zero46 Try.underlying46 (ss := [68, 32, 1, 1, 4]) ⟨Try.sizeOf41, Try.sizeOf38, Try.sizeOf3, Try.sizeOf3, Try.sizeOf44, trivial⟩ hA rfl (fill_step rfl (by simp [Value.cells, Pl.len]; try rfl) (enc_fit _ _ rfl) (arr_eq (Node.spl_Header_ _ _)) (fill_step rfl (by simp [Value.cells, Pl.len]; try rfl) (enc_fit _ _ rfl) (arr_eq (Node.spl_Hash _ _)) (fill_step rfl rfl (enc_fit _ _ rfl) (arr_eq (Node.spl_Parent _ _)) (fill_step rfl rfl (enc_fit _ _ rfl) (arr_eq (Node.spl_Height _ _)) (fill_nil)))))) ?_; clear hA; intro a hA
      refine d_one (i := 17) (L' := #[true, true, true, true, true, true, true, true, true, true, true, true, true, true, true, true, true, true, false, false, false]) (by kernel_rfl) rfl rfl (e_litN [({ { { { Node.z with Header_ := ({ Header.z with Nonce := IntKind.u32.wrap t465 }) } with Hash := ((((Vector.replicate 32 0 : Vector Int 32).setIfInBounds 0 (IntKind.u8.wrap t465)).setIfInBounds 1 1)) } with Parent := if IntKind.i64.wrap (t465 - (IntKind.i64.wrap ((IntKind.i64.wrap ((t456.getD t465.toNat (0 : Int)).tmod 4)) * (IntKind.i64.wrap (IntKind.u8.wrap ((t456.getD t465.toNat (0 : Int)).tdiv 64)))))) > 0 then IntKind.i64.wrap (t465 - (IntKind.i64.wrap ((IntKind.i64.wrap ((t456.getD t465.toNat (0 : Int)).tmod 4)) * (IntKind.i64.wrap (IntKind.u8.wrap ((t456.getD t465.toNat (0 : Int)).tdiv 64)))))) else 0 } with Height := IntKind.i64.wrap (((xs454.getD (if IntKind.i64.wrap (t465 - (IntKind.i64.wrap ((IntKind.i64.wrap ((t456.getD t465.toNat (0 : Int)).tmod 4)) * (IntKind.i64.wrap (IntKind.u8.wrap ((t456.getD t465.toNat (0 : Int)).tdiv 64)))))) > 0 then IntKind.i64.wrap (t465 - (IntKind.i64.wrap ((IntKind.i64.wrap ((t456.getD t465.toNat (0 : Int)).tmod 4)) * (IntKind.i64.wrap (IntKind.u8.wrap ((t456.getD t465.toNat (0 : Int)).tdiv 64)))))) else 0).toNat Node.z).Height) + 1) })] [(.agg (pNode.enc ({ { { { Node.z with Header_ := ({ Header.z with Nonce := IntKind.u32.wrap t465 }) } with Hash := ((((Vector.replicate 32 0 : Vector Int 32).setIfInBounds 0 (IntKind.u8.wrap t465)).setIfInBounds 1 1)) } with Parent := if IntKind.i64.wrap (t465 - (IntKind.i64.wrap ((IntKind.i64.wrap ((t456.getD t465.toNat (0 : Int)).tmod 4)) * (IntKind.i64.wrap (IntKind.u8.wrap ((t456.getD t465.toNat (0 : Int)).tdiv 64)))))) > 0 then IntKind.i64.wrap (t465 - (IntKind.i64.wrap ((IntKind.i64.wrap ((t456.getD t465.toNat (0 : Int)).tmod 4)) * (IntKind.i64.wrap (IntKind.u8.wrap ((t456.getD t465.toNat (0 : Int)).tdiv 64)))))) else 0 } with Height := IntKind.i64.wrap (((xs454.getD (if IntKind.i64.wrap (t465 - (IntKind.i64.wrap ((IntKind.i64.wrap ((t456.getD t465.toNat (0 : Int)).tmod 4)) * (IntKind.i64.wrap (IntKind.u8.wrap ((t456.getD t465.toNat (0 : Int)).tdiv 64)))))) > 0 then IntKind.i64.wrap (t465 - (IntKind.i64.wrap ((IntKind.i64.wrap ((t456.getD t465.toNat (0 : Int)).tmod 4)) * (IntKind.i64.wrap (IntKind.u8.wrap ((t456.getD t465.toNat (0 : Int)).tdiv 64)))))) else 0).toNat Node.z).Height) + 1) })).toArray)] elt22 hM rfl (by decide) hA rfl rfl (List.cons_ne_nil _ _) (by decide) ?_)
      clear hM hA; intro w490 g489 hM hE a hA
      replace hS := hS.trans (hE.mono hS.size)
      refine ⟨fun _ => hS, ?_⟩
      obtain ⟨hl493, H472⟩ := ite_some H472
      refine d_one (i := 18) (L' := #[true, true, true, true, true, true, true, true, true, true, true, true, true, true, true, true, true, true, true, false, false]) (by kernel_rfl) rfl rfl (e_append elt22 hM (fun _ => (.s (.s (.s .z)))) (Src.row Try.underlying22 (RowOk.row (hM.row (p := pNode) .z)) (RowOk.len (hM.row (p := pNode) .z))) hl493 hA rfl rfl (by decide) ?_)
      clear hM hA; intro w494 A491 c492 hM hE a hA
      refine ⟨fun h => absurd h (by decide), ?_⟩
      refine d_takef (i := 19) (L' := #[true, true, true, true, true, true, true, true, true, true, true, true, true, true, true, true, true, true, true, true, false]) rfl (by kernel_rfl) rfl (fun _ _ _ h => h) hA (by decide) (fun h => absurd h (by decide)) (fun a w' hA => run_field' Try.underlying24 rfl rfl Try.sizeOf22 (by decide) (hA.ev rfl)) ?_; clear hA; intro a hA
      refine d_one (i := 20) (L' := #[true, true, true, true, true, true, true, true, true, true, true, true, true, true, true, true, true, true, true, true, true]) (by kernel_rfl) rfl rfl (e_store (g := g335) (off := 0) (cur := [(.slice A452 xs454.length c453), (.int .i64 0)]) (cs' := [(.slice A491 (xs454.length + 1) c492), (.int .i64 0)]) hM (.s (.s .z)) Try.sizeOf22 hA rfl (by simp [add_mk]) rfl (by first | rfl | simp [Value.cells, Pl.len]) (one_val rfl) (by first | exact Nat.le_of_ble_eq_true rfl | (simp [Pl.len]; done)) (rfl) ?_)
      clear hM hA; intro w495 hM hE a hA
      refine ⟨fun h => absurd h (by decide), ?_⟩
      refine d_done (by kernel_rfl) ?_
      refine BN ?_
      refine TN ?_
      refine wp_region_lit ?_
      refine L1 (stv hA (by decide) (run_bin (hA.ev rfl) (hA.ev rfl) (bin_add _ _ _ _)) ?_)
      clear hA; intro a hA
      refine L1 (stv hA (by decide) (run_move (hA.ev rfl)) ?_)
      clear hA; intro a hA
      refine LQ ?_
      exact ⟨_, Nat.lt_succ_self m474, (xs454 ++ [({ { { { Node.z with Header_ := ({ Header.z with Nonce := IntKind.u32.wrap t465 }) } with Hash := ((((Vector.replicate 32 0 : Vector Int 32).setIfInBounds 0 (IntKind.u8.wrap t465)).setIfInBounds 1 1)) } with Parent := if IntKind.i64.wrap (t465 - (IntKind.i64.wrap ((IntKind.i64.wrap ((t456.getD t465.toNat (0 : Int)).tmod 4)) * (IntKind.i64.wrap (IntKind.u8.wrap ((t456.getD t465.toNat (0 : Int)).tdiv 64)))))) > 0 then IntKind.i64.wrap (t465 - (IntKind.i64.wrap ((IntKind.i64.wrap ((t456.getD t465.toNat (0 : Int)).tmod 4)) * (IntKind.i64.wrap (IntKind.u8.wrap ((t456.getD t465.toNat (0 : Int)).tdiv 64)))))) else 0 } with Height := IntKind.i64.wrap (((xs454.getD (if IntKind.i64.wrap (t465 - (IntKind.i64.wrap ((IntKind.i64.wrap ((t456.getD t465.toNat (0 : Int)).tmod 4)) * (IntKind.i64.wrap (IntKind.u8.wrap ((t456.getD t465.toNat (0 : Int)).tdiv 64)))))) > 0 then IntKind.i64.wrap (t465 - (IntKind.i64.wrap ((IntKind.i64.wrap ((t456.getD t465.toNat (0 : Int)).tmod 4)) * (IntKind.i64.wrap (IntKind.u8.wrap ((t456.getD t465.toNat (0 : Int)).tdiv 64)))))) else 0).toNat Node.z).Height) + 1) })]), t456, IntKind.i64.wrap (t465 + 1), (.slice A491 (xs454.length + 1) c492), (.slice A458 t456.length c459), H472, (RoV.mk hr460 (Eq.refl t456.length) hc461), (hM.sel [1, 2, 3] rfl (by decide)), (((((hA.nil.cons (hA.get 15 _ rfl)).cons (hA.get 14 _ rfl)).cons (hA.get 13 _ rfl)).cons (hA.get 3 _ rfl)).cons (hA.get 2 _ rfl))⟩
    · replace H472 := ite_f hb476 H472
      refine wp_exit ?_
      refine TX ?_
      refine TX ?_
      refine BX ?_
      exact ⟨xs454, (.slice A452 xs454.length c453), Option.some.inj H472, hM, ((hA.nil.cons (hA.get 3 _ rfl)).cons (hA.get 2 _ rfl))⟩
  clear hM hA
  rintro a w496 ⟨xs471, v468, rfl, hM, hA⟩
  try dsimp only at H
  obtain ⟨A469, c470, rfl⟩ := RowOk.form (hM.row (p := pNode) (.s (.s .z)))
  refine TN ?_
  refine wp_seq ?_
  refine wp_seq ?_
  refine wp_region_lit ?_
  refine L1 (stv hA (by decide) (run_field' Try.underlying24 rfl rfl Try.sizeOf22 (by decide) (hA.ev rfl)) ?_)
  clear hA; intro a hA
  refine L1 (stv hA (by decide) (run_ld (hA.ev rfl) (run_loadS Try.isAgg22 (At.seg1 (hM.box (.s .z)) 0 rfl))) ?_)
  clear hA; intro a hA
  refine L1 (stv hA (by decide) (run_len_slice Try.underlying22 (hA.ev rfl)) ?_)
  clear hA; intro a hA
  refine L1 (stv hA (by decide) (run_move (hA.ev rfl)) ?_)
  clear hA; intro a hA
  refine LQ ?_
  refine TN ?_
  obtain ⟨o627, H626, H⟩ := Option.bind_eq_some_iff.1 H
  refine cutC (fun a w => ∃ (x625 : Int), x625 = o627 ∧ Mem F w0 w [.box g329 24 [(.slice none 0 0), (.int .i64 0)], .box g335 24 [(.slice A469 xs471.length c470), (.int .i64 x625)], .row 46 pNode.sz (.slice A469 xs471.length c470) (pNode.flat xs471)] ∧ Has 75 [(2, (.pointer (some (⟨g329, 0, none⟩)))), (3, (.pointer (some (⟨g335, 0, none⟩))))] a) ?_ ?_
  · refine wp_block ?_
    refine wp_loop_ghost (fun m a w => ∃ (x619 : Int) (t622 : Int), law16_line.l1 xs471 m x619 t622 = some o627 ∧ Mem F w0 w [.box g329 24 [(.slice none 0 0), (.int .i64 0)], .box g335 24 [(.slice A469 xs471.length c470), (.int .i64 x619)], .row 46 pNode.sz (.slice A469 xs471.length c470) (pNode.flat xs471)] ∧ Has 75 [(2, (.pointer (some (⟨g329, 0, none⟩)))), (3, (.pointer (some (⟨g335, 0, none⟩)))), (53, (.int .i64 ((xs471.length : Nat) : Int))), (54, (.int .i64 t622))] a) k ⟨0, 0, H626, hM, ((((hA.nil.cons (hA.get 54 _ rfl)).cons (hA.get 53 _ rfl)).cons (hA.get 3 _ rfl)).cons (hA.get 2 _ rfl))⟩ ?_
    clear hM hA; rintro m628 a w629 ⟨x619, t622, H626, hM, hA⟩
    cases m628 with
    | zero => exact absurd H626 (by simp [law16_line.l1])
    | succ m628 =>
    rw [law16_line.l1] at H626
    refine wp_seq ?_
    refine wp_region_lit ?_
    refine L1 (stv hA (by decide) (run_bin (hA.ev rfl) (hA.ev rfl) (bin_lss _ _ _ _)) ?_)
    clear hA; intro a hA
    refine LQ ?_
    refine TN ?_
    refine wp_seq ?_
    refine tcond (b := (decide (t622 < ((xs471.length : Nat) : Int)))) hA rfl (fun hb630 => ?_) (fun hb630 => ?_)
    · replace H626 := ite_t hb630 H626
      refine wp_skip ?_
      refine TN ?_
      refine wp_seq ?_
      refine wp_block ?_
      refine wp_seq ?_
      refine wp_region_lit ?_
      refine L1 (stv hA (by decide) (run_move (hA.ev rfl)) ?_)
      clear hA; intro a hA
      refine L1 (stv hA (by decide) (run_assign (hA.ev rfl)) ?_)
      clear hA; intro a hA
      refine LQ ?_
      refine TN ?_
      refine wp_seq ?_
      refine draw (fun w' => Below w629.heap.size w629 w') [] rfl ?_
      intro w631 hw hS; replace hM := hM.ext hS; clear hw
      refine d_takef (i := 0) (L' := #[true, false, false, false, false, false, false, false, false, false, false, false, false, false]) rfl (by kernel_rfl) rfl (fun _ _ _ h => h) hA (by decide) (fun _ => hS) (fun a w' hA => run_field' Try.underlying24 rfl rfl Try.sizeOf22 (by decide) (hA.ev rfl)) ?_; clear hA; intro a hA
      refine rebase hS ?_; clear hS; intro hS
      refine d_take (i := 1) (L' := #[true, true, false, false, false, false, false, false, false, false, false, false, false, false]) rfl (by kernel_rfl) rfl (fun _ _ _ h => h) hA (by decide) rfl hS (fun a w' hA hS' => run_ld (hA.ev rfl) (run_loadS Try.isAgg22 ((At.seg1 (hM.box (.s .z)) 0 rfl).extB hS'))) ?_; clear hA; intro a hA
      refine d_takef (i := 2) (L' := #[true, true, true, false, false, false, false, false, false, false, false, false, false, false]) rfl (by kernel_rfl) rfl (fun _ _ _ h => h) hA (by decide) (fun _ => hS) (fun a w' hA => run_move (hA.ev rfl)) ?_; clear hA; intro a hA
      obtain ⟨⟨hi633, hj634⟩, H626⟩ := ite_some H626
      obtain ⟨ad635, hq636, hat637⟩ := Row.elem' (p := pNode) (RowOk.row (hM.row (p := pNode) (.s (.s .z)))) (RowOk.len (hM.row (p := pNode) (.s (.s .z)))) Node.z t622 hi633 hj634
      refine d_takef (i := 3) (L' := #[true, true, true, true, false, false, false, false, false, false, false, false, false, false]) rfl (by kernel_rfl) rfl (fun _ _ _ h => h) hA (by decide) (fun _ => hS) (fun a w' hA => run_idx Try.underlying22 Try.sizeOf46 (hA.ev rfl) hq636 (hA.ev rfl) hi633 hj634) ?_; clear hA; intro a hA
      refine d_takef (i := 4) (L' := #[true, true, true, true, true, false, false, false, false, false, false, false, false, false]) rfl (by kernel_rfl) rfl (fun _ _ _ h => h) hA (by decide) (fun _ => hS) (fun a w' hA => run_field' Try.underlying46 rfl rfl Try.sizeOf3 (by decide) (hA.ev rfl)) ?_; clear hA; intro a hA
      refine d_take (i := 5) (L' := #[true, true, true, true, true, true, false, false, false, false, false, false, false, false]) rfl (by kernel_rfl) rfl (fun _ _ _ h => h) hA (by decide) rfl hS (fun a w' hA hS' => run_ld (hA.ev rfl) (run_loadS Try.isAgg3 ((Node.at_Height (hat637)).extB hS'))) ?_; clear hA; intro a hA
      refine d_takef (i := 6) (L' := #[true, true, true, true, true, true, true, false, false, false, false, false, false, false]) rfl (by kernel_rfl) rfl (fun _ _ _ h => h) hA (by decide) (fun _ => hS) (fun a w' hA => run_field' Try.underlying24 rfl rfl Try.sizeOf22 (by decide) (hA.ev rfl)) ?_; clear hA; intro a hA
      refine d_take (i := 7) (L' := #[true, true, true, true, true, true, true, true, false, false, false, false, false, false]) rfl (by kernel_rfl) rfl (fun _ _ _ h => h) hA (by decide) rfl hS (fun a w' hA hS' => run_ld (hA.ev rfl) (run_loadS Try.isAgg22 ((At.seg1 (hM.box (.s .z)) 0 rfl).extB hS'))) ?_; clear hA; intro a hA
      refine d_takef (i := 8) (L' := #[true, true, true, true, true, true, true, true, true, false, false, false, false, false]) rfl (by kernel_rfl) rfl (fun _ _ _ h => h) hA (by decide) (fun _ => hS) (fun a w' hA => run_field' Try.underlying24 rfl rfl Try.sizeOf3 (by decide) (hA.ev rfl)) ?_; clear hA; intro a hA
      refine d_take (i := 9) (L' := #[true, true, true, true, true, true, true, true, true, true, false, false, false, false]) rfl (by kernel_rfl) rfl (fun _ _ _ h => h) hA (by decide) rfl hS (fun a w' hA hS' => run_ld (hA.ev rfl) (run_loadS Try.isAgg3 ((At.seg1 (hM.box (.s .z)) 1 rfl).extB hS'))) ?_; clear hA; intro a hA
      obtain ⟨⟨hi638, hj639⟩, H626⟩ := ite_some H626
      obtain ⟨ad640, hq641, hat642⟩ := Row.elem' (p := pNode) (RowOk.row (hM.row (p := pNode) (.s (.s .z)))) (RowOk.len (hM.row (p := pNode) (.s (.s .z)))) Node.z x619 hi638 hj639
      refine d_takef (i := 10) (L' := #[true, true, true, true, true, true, true, true, true, true, true, false, false, false]) rfl (by kernel_rfl) rfl (fun _ _ _ h => h) hA (by decide) (fun _ => hS) (fun a w' hA => run_idx Try.underlying22 Try.sizeOf46 (hA.ev rfl) hq641 (hA.ev rfl) hi638 hj639) ?_; clear hA; intro a hA
      refine d_takef (i := 11) (L' := #[true, true, true, true, true, true, true, true, true, true, true, true, false, false]) rfl (by kernel_rfl) rfl (fun _ _ _ h => h) hA (by decide) (fun _ => hS) (fun a w' hA => run_field' Try.underlying46 rfl rfl Try.sizeOf3 (by decide) (hA.ev rfl)) ?_; clear hA; intro a hA
      refine d_take (i := 12) (L' := #[true, true, true, true, true, true, true, true, true, true, true, true, true, false]) rfl (by kernel_rfl) rfl (fun _ _ _ h => h) hA (by decide) rfl hS (fun a w' hA hS' => run_ld (hA.ev rfl) (run_loadS Try.isAgg3 ((Node.at_Height (hat642)).extB hS'))) ?_; clear hA; intro a hA
      refine d_takef (i := 13) (L' := #[true, true, true, true, true, true, true, true, true, true, true, true, true, true]) rfl (by kernel_rfl) rfl (fun _ _ _ h => h) hA (by decide) (fun _ => hS) (fun a w' hA => run_bin (hA.ev rfl) (hA.ev rfl) (bin_gtr _ _ _ _)) ?_; clear hA; intro a hA
      refine d_done (by kernel_rfl) ?_
      refine TN ?_
      obtain ⟨o651, H650, H626⟩ := Option.bind_eq_some_iff.1 H626
      refine cutC (fun a w => ∃ (x647 : Int), x647 = o651 ∧ Mem F w0 w [.box g329 24 [(.slice none 0 0), (.int .i64 0)], .box g335 24 [(.slice A469 xs471.length c470), (.int .i64 x647)], .row 46 pNode.sz (.slice A469 xs471.length c470) (pNode.flat xs471)] ∧ Has 75 [(2, (.pointer (some (⟨g329, 0, none⟩)))), (3, (.pointer (some (⟨g335, 0, none⟩)))), (53, (.int .i64 ((xs471.length : Nat) : Int))), (54, (.int .i64 t622))] a) ?_ ?_
      · refine tcond (b := (decide (((xs471.getD t622.toNat Node.z).Height) > ((xs471.getD x619.toNat Node.z).Height)))) hA rfl (fun hb652 => ?_) (fun hb652 => ?_)
        · replace H650 := ite_t hb652 H650
          refine wp_region_lit ?_
          refine L1 (stv hA (by decide) (run_move (hA.ev rfl)) ?_)
          clear hA; intro a hA
          refine L1 (stv hA (by decide) (run_field' Try.underlying24 rfl rfl Try.sizeOf3 (by decide) (hA.ev rfl)) ?_)
          clear hA; intro a hA
          refine L1 (e_store (g := g335) (off := 1) (cur := [(.slice A469 xs471.length c470), (.int .i64 x619)]) (cs' := [(.slice A469 xs471.length c470), (.int .i64 t622)]) hM (.s .z) Try.sizeOf3 hA rfl (by simp [add_mk]) rfl (by first | rfl | simp [Value.cells, Pl.len]) (one_val rfl) (by first | exact Nat.le_of_ble_eq_true rfl | (simp [Pl.len]; done)) (rfl) ?_)
          clear hM hA; intro w653 hM hE a hA
          refine LQ ?_
          exact ⟨t622, Option.some.inj H650, hM, ((((hA.nil.cons (hA.get 54 _ rfl)).cons (hA.get 53 _ rfl)).cons (hA.get 3 _ rfl)).cons (hA.get 2 _ rfl))⟩
        · replace H650 := ite_f hb652 H650
          refine wp_skip ?_
          exact ⟨x619, Option.some.inj H650, hM, ((((hA.nil.cons (hA.get 54 _ rfl)).cons (hA.get 53 _ rfl)).cons (hA.get 3 _ rfl)).cons (hA.get 2 _ rfl))⟩
      clear hM hA
      rintro a w654 ⟨x647, rfl, hM, hA⟩
      try dsimp only at H626
      refine BN ?_
      refine TN ?_
      refine wp_region_lit ?_
      refine L1 (stv hA (by decide) (run_bin (hA.ev rfl) (hA.ev rfl) (bin_add _ _ _ _)) ?_)
      clear hA; intro a hA
      refine L1 (stv hA (by decide) (run_move (hA.ev rfl)) ?_)
      clear hA; intro a hA
      refine LQ ?_
      exact ⟨_, Nat.lt_succ_self m628, x647, IntKind.i64.wrap (t622 + 1), H626, hM, ((((hA.nil.cons (hA.get 54 _ rfl)).cons (hA.get 53 _ rfl)).cons (hA.get 3 _ rfl)).cons (hA.get 2 _ rfl))⟩
    · replace H626 := ite_f hb630 H626
      refine wp_exit ?_
      refine TX ?_
      refine TX ?_
      refine BX ?_
      exact ⟨x619, Option.some.inj H626, hM, ((hA.nil.cons (hA.get 3 _ rfl)).cons (hA.get 2 _ rfl))⟩
  clear hM hA
  rintro a w655 ⟨x625, rfl, hM, hA⟩
  try dsimp only at H
  refine TN ?_
  refine wp_seq ?_
  refine wp_region_lit ?_
  refine L1 (stv hA (by decide) (run_ld (hA.ev rfl) (run_loadW Try.isAgg24 Try.sizeOf24 (by simp [Pl.len]; try rfl) (hM.box (.s .z)))) ?_)
  clear hA; intro a hA
  refine L1 (e_store (g := g329) (off := 0) (cur := [(.slice none 0 0), (.int .i64 0)]) (cs' := [(.slice A469 xs471.length c470), (.int .i64 x625)]) hM .z Try.sizeOf24 hA rfl (by simp [add_mk]) rfl (by first | rfl | simp [Value.cells, Pl.len]) (by simp [Value.cells, Value.oneCell']) (by first | exact Nat.le_of_ble_eq_true rfl | (simp [Pl.len]; done)) (spl_all (by first | rfl | simp [Value.cells, Pl.len])) ?_)
  clear hM hA; intro w656 hM hE a hA
  refine LQ ?_
  refine TN ?_
  refine wp_ret ?_
  obtain rfl := Option.some.inj H
  exact ret_cell (fn := Try.f10) hA rfl rfl (run_loadW Try.isAgg24 Try.sizeOf24 (by simp [Pl.len]; try rfl) (hM.box .z)) ⟨_, rfl, (.slice A469 xs471.length c470), rfl, (hM.sel [2] rfl (by decide))⟩

def branch_sound.l0 (t_0 : Tree) : Nat → Int → Option (Out Bool (Unit))
  | 0, _ => none
  | k + 1, t427 => (if (decide (t427 < ((t_0.Nodes.length : Nat) : Int))) = true then (if 0 ≤ t427 ∧ t427 < ((t_0.Nodes.length : Nat) : Int) then (Option.bind (α := Bool) (if (t427 == 0) = true then (if (((t_0.Nodes.getD t427.toNat Node.z).Parent) != (-1)) = true then (some true) else (some (((t_0.Nodes.getD t427.toNat Node.z).Height) != 0))) else (some false)) (fun t451 => (if t451 = true then (some (.ret false)) else (Option.bind (α := Bool) (if (decide (t427 > 0)) = true then (if (decide (((t_0.Nodes.getD t427.toNat Node.z).Parent) < 0)) = true then (some true) else (if (decide (((t_0.Nodes.getD t427.toNat Node.z).Parent) ≥ t427)) = true then (some true) else (if 0 ≤ ((t_0.Nodes.getD t427.toNat Node.z).Parent) ∧ ((t_0.Nodes.getD t427.toNat Node.z).Parent) < ((t_0.Nodes.length : Nat) : Int) then (some (((t_0.Nodes.getD t427.toNat Node.z).Height) != (IntKind.i64.wrap (((t_0.Nodes.getD ((t_0.Nodes.getD t427.toNat Node.z).Parent).toNat Node.z).Height) + 1)))) else none))) else (some false)) (fun t473 => (if t473 = true then (some (.ret false)) else (branch_sound.l0 t_0 k (IntKind.i64.wrap (t427 + 1))))))))) else none) else (some (.go ())))
def branch_sound.f (k : Nat) (t_0 : Tree) : Option Bool := (Option.bind (α := Bool) (if (decide (((t_0.Nodes.length : Nat) : Int) < 1)) = true then (some true) else (if (decide (((t_0.Nodes.length : Nat) : Int) > 4096)) = true then (some true) else (if (decide (t_0.Best < 0)) = true then (some true) else (some (decide (t_0.Best ≥ ((t_0.Nodes.length : Nat) : Int))))))) (fun t253 => (if t253 = true then (some false) else (Option.bind (α := Out Bool (Unit)) (branch_sound.l0 t_0 k 0) (fun o => match o with | .ret r => some r | .go _ => (some true))))))
set_option maxRecDepth 100000 in
theorem branch_sound.calls (k : Nat) (t_0 : Tree) (F : List (Option Nat)) (v0_0 : Value) (r : Bool) (w0 : World) (h0_0 : RoV F pNode w0 v0_0 t_0.Nodes) (hM : Mem F w0 w0 []) (H : branch_sound.f k t_0 = some r) :
    Calls Try.prog 23 #[(.agg #[v0_0, (.int .i64 t_0.Best)])] w0 fun e w' => ∃ v, e = .returned v ∧ v = (.bool r) ∧ Mem F w0 w' [] := by
  unfold branch_sound.f at H
  obtain ⟨A0_0, c0_0, rfl, hr0_0, hc0_0⟩ := h0_0
  refine enterL (n := 75) [(.agg #[(.slice A0_0 t_0.Nodes.length c0_0), (.int .i64 t_0.Best)])] Try.func23 rfl rfl rfl ?_
  intro a hA
  refine wp_seq ?_
  refine wp_region_lit ?_
  refine L1 (e_box (cs := [(.slice A0_0 t_0.Nodes.length c0_0), (.int .i64 t_0.Best)]) hM hA rfl rfl (by decide) ?_)
  clear hM hA; intro w246 g245 hM hE a hA
  refine L1 (stv hA (by decide) (run_assign (hA.ev rfl)) ?_)
  clear hA; intro a hA
  refine LQ ?_
  refine TN ?_
  refine wp_seq ?_
  refine wp_seq ?_
  obtain ⟨o255, H254, H⟩ := Option.bind_eq_some_iff.1 H
  refine cutC (fun a w => ∃ (t253 : Bool), t253 = o255 ∧ Mem F w0 w [.box g245 24 [(.slice A0_0 t_0.Nodes.length c0_0), (.int .i64 t_0.Best)]] ∧ Has 75 [(1, (.pointer (some (⟨g245, 0, none⟩)))), (27, (.bool t253))] a) ?_ ?_
  · refine wp_region_lit ?_
    refine L1 (stv hA (by decide) (run_field' Try.underlying24 rfl rfl Try.sizeOf22 (by decide) (hA.ev rfl)) ?_)
    clear hA; intro a hA
    refine L1 (stv hA (by decide) (run_ld (hA.ev rfl) (run_loadS Try.isAgg22 (At.seg1 (hM.box .z) 0 rfl))) ?_)
    clear hA; intro a hA
    refine L1 (stv hA (by decide) (run_len_slice Try.underlying22 (hA.ev rfl)) ?_)
    clear hA; intro a hA
    refine L1 (stv hA (by decide) (run_bin (hA.ev rfl) (hA.ev rfl) (bin_lss _ _ _ _)) ?_)
    clear hA; intro a hA
    refine L1 (stv hA (by decide) (run_move (hA.ev rfl)) ?_)
    clear hA; intro a hA
    refine bsplit (b := (decide (((t_0.Nodes.length : Nat) : Int) < 1))) (fun hb256 => ?_) (fun hb256 => ?_)
    · replace H254 := ite_t hb256 H254
      have hA := hA.re (t := 9) rfl (congrArg Value.bool hb256)
      refine L1 (gate_off rfl (by decide) rfl hA (by decide) rfl rfl ?_); clear hA; intro a hA
      refine L1 (gate_off rfl (by decide) rfl hA (by decide) rfl rfl ?_); clear hA; intro a hA
      refine L1 (gate_off rfl (by decide) rfl hA (by decide) rfl rfl ?_); clear hA; intro a hA
      refine L1 (gate_off rfl (by decide) rfl hA (by decide) rfl rfl ?_); clear hA; intro a hA
      refine L1 (stv hA (by decide) (run_pick (hA.ev rfl) (fun _ => hA.ev rfl) (fun h => Bool.noConfusion h)) ?_)
      clear hA; intro a hA
      refine L1 (stv hA (by decide) (run_move (hA.ev rfl)) ?_)
      clear hA; intro a hA
      refine L1 (gate_off rfl (by decide) rfl hA (by decide) rfl rfl ?_); clear hA; intro a hA
      refine L1 (gate_off rfl (by decide) rfl hA (by decide) rfl rfl ?_); clear hA; intro a hA
      refine L1 (gate_off rfl (by decide) rfl hA (by decide) rfl rfl ?_); clear hA; intro a hA
      refine L1 (stv hA (by decide) (run_pick (hA.ev rfl) (fun _ => hA.ev rfl) (fun h => Bool.noConfusion h)) ?_)
      clear hA; intro a hA
      refine L1 (stv hA (by decide) (run_move (hA.ev rfl)) ?_)
      clear hA; intro a hA
      refine L1 (gate_off rfl (by decide) rfl hA (by decide) rfl rfl ?_); clear hA; intro a hA
      refine L1 (gate_off rfl (by decide) rfl hA (by decide) rfl rfl ?_); clear hA; intro a hA
      refine L1 (gate_off rfl (by decide) rfl hA (by decide) rfl rfl ?_); clear hA; intro a hA
      refine L1 (gate_off rfl (by decide) rfl hA (by decide) rfl rfl ?_); clear hA; intro a hA
      refine L1 (gate_off rfl (by decide) rfl hA (by decide) rfl rfl ?_); clear hA; intro a hA
      refine L1 (gate_off rfl (by decide) rfl hA (by decide) rfl rfl ?_); clear hA; intro a hA
      refine L1 (stv hA (by decide) (run_pick (hA.ev rfl) (fun _ => hA.ev rfl) (fun h => Bool.noConfusion h)) ?_)
      clear hA; intro a hA
      refine LQ ?_
      exact ⟨true, Option.some.inj H254, hM, ((hA.nil.cons (hA.get 27 _ rfl)).cons (hA.get 1 _ rfl))⟩
    · replace H254 := ite_f hb256 H254
      have hA := hA.re (t := 9) rfl (congrArg Value.bool hb256)
      refine L1 (gate_on rfl rfl hA (by decide) rfl (stv hA (by decide) (run_field' Try.underlying24 rfl rfl Try.sizeOf22 (by decide) (hA.ev rfl)) ?_))
      clear hA; intro a hA
      refine L1 (gate_on rfl rfl hA (by decide) rfl (stv hA (by decide) (run_ld (hA.ev rfl) (run_loadS Try.isAgg22 (At.seg1 (hM.box .z) 0 rfl))) ?_))
      clear hA; intro a hA
      refine L1 (gate_on rfl rfl hA (by decide) rfl (stv hA (by decide) (run_len_slice Try.underlying22 (hA.ev rfl)) ?_))
      clear hA; intro a hA
      refine L1 (gate_on rfl rfl hA (by decide) rfl (stv hA (by decide) (run_bin (hA.ev rfl) (hA.ev rfl) (bin_gtr _ _ _ _)) ?_))
      clear hA; intro a hA
      refine L1 (stv hA (by decide) (run_pick (hA.ev rfl) (fun h => Bool.noConfusion h) (fun _ => hA.ev rfl)) ?_)
      clear hA; intro a hA
      refine L1 (stv hA (by decide) (run_move (hA.ev rfl)) ?_)
      clear hA; intro a hA
      refine bsplit (b := (decide (((t_0.Nodes.length : Nat) : Int) > 4096))) (fun hb257 => ?_) (fun hb257 => ?_)
      · replace H254 := ite_t hb257 H254
        have hA := hA.re (t := 15) rfl (congrArg Value.bool hb257)
        refine L1 (gate_off rfl (by decide) rfl hA (by decide) rfl rfl ?_); clear hA; intro a hA
        refine L1 (gate_off rfl (by decide) rfl hA (by decide) rfl rfl ?_); clear hA; intro a hA
        refine L1 (gate_off rfl (by decide) rfl hA (by decide) rfl rfl ?_); clear hA; intro a hA
        refine L1 (stv hA (by decide) (run_pick (hA.ev rfl) (fun _ => hA.ev rfl) (fun h => Bool.noConfusion h)) ?_)
        clear hA; intro a hA
        refine L1 (stv hA (by decide) (run_move (hA.ev rfl)) ?_)
        clear hA; intro a hA
        refine L1 (gate_off rfl (by decide) rfl hA (by decide) rfl rfl ?_); clear hA; intro a hA
        refine L1 (gate_off rfl (by decide) rfl hA (by decide) rfl rfl ?_); clear hA; intro a hA
        refine L1 (gate_off rfl (by decide) rfl hA (by decide) rfl rfl ?_); clear hA; intro a hA
        refine L1 (gate_off rfl (by decide) rfl hA (by decide) rfl rfl ?_); clear hA; intro a hA
        refine L1 (gate_off rfl (by decide) rfl hA (by decide) rfl rfl ?_); clear hA; intro a hA
        refine L1 (gate_off rfl (by decide) rfl hA (by decide) rfl rfl ?_); clear hA; intro a hA
        refine L1 (stv hA (by decide) (run_pick (hA.ev rfl) (fun _ => hA.ev rfl) (fun h => Bool.noConfusion h)) ?_)
        clear hA; intro a hA
        refine LQ ?_
        exact ⟨true, Option.some.inj H254, hM, ((hA.nil.cons (hA.get 27 _ rfl)).cons (hA.get 1 _ rfl))⟩
      · replace H254 := ite_f hb257 H254
        have hA := hA.re (t := 15) rfl (congrArg Value.bool hb257)
        refine L1 (gate_on rfl rfl hA (by decide) rfl (stv hA (by decide) (run_field' Try.underlying24 rfl rfl Try.sizeOf3 (by decide) (hA.ev rfl)) ?_))
        clear hA; intro a hA
        refine L1 (gate_on rfl rfl hA (by decide) rfl (stv hA (by decide) (run_ld (hA.ev rfl) (run_loadS Try.isAgg3 (At.seg1 (hM.box .z) 1 rfl))) ?_))
        clear hA; intro a hA
        refine L1 (gate_on rfl rfl hA (by decide) rfl (stv hA (by decide) (run_bin (hA.ev rfl) (hA.ev rfl) (bin_lss _ _ _ _)) ?_))
        clear hA; intro a hA
        refine L1 (stv hA (by decide) (run_pick (hA.ev rfl) (fun h => Bool.noConfusion h) (fun _ => hA.ev rfl)) ?_)
        clear hA; intro a hA
        refine L1 (stv hA (by decide) (run_move (hA.ev rfl)) ?_)
        clear hA; intro a hA
        refine bsplit (b := (decide (t_0.Best < 0))) (fun hb258 => ?_) (fun hb258 => ?_)
        · replace H254 := ite_t hb258 H254
          have hA := hA.re (t := 20) rfl (congrArg Value.bool hb258)
          refine L1 (gate_off rfl (by decide) rfl hA (by decide) rfl rfl ?_); clear hA; intro a hA
          refine L1 (gate_off rfl (by decide) rfl hA (by decide) rfl rfl ?_); clear hA; intro a hA
          refine L1 (gate_off rfl (by decide) rfl hA (by decide) rfl rfl ?_); clear hA; intro a hA
          refine L1 (gate_off rfl (by decide) rfl hA (by decide) rfl rfl ?_); clear hA; intro a hA
          refine L1 (gate_off rfl (by decide) rfl hA (by decide) rfl rfl ?_); clear hA; intro a hA
          refine L1 (gate_off rfl (by decide) rfl hA (by decide) rfl rfl ?_); clear hA; intro a hA
          refine L1 (stv hA (by decide) (run_pick (hA.ev rfl) (fun _ => hA.ev rfl) (fun h => Bool.noConfusion h)) ?_)
          clear hA; intro a hA
          refine LQ ?_
          exact ⟨true, Option.some.inj H254, hM, ((hA.nil.cons (hA.get 27 _ rfl)).cons (hA.get 1 _ rfl))⟩
        · replace H254 := ite_f hb258 H254
          have hA := hA.re (t := 20) rfl (congrArg Value.bool hb258)
          refine L1 (gate_on rfl rfl hA (by decide) rfl (stv hA (by decide) (run_field' Try.underlying24 rfl rfl Try.sizeOf3 (by decide) (hA.ev rfl)) ?_))
          clear hA; intro a hA
          refine L1 (gate_on rfl rfl hA (by decide) rfl (stv hA (by decide) (run_ld (hA.ev rfl) (run_loadS Try.isAgg3 (At.seg1 (hM.box .z) 1 rfl))) ?_))
          clear hA; intro a hA
          refine L1 (gate_on rfl rfl hA (by decide) rfl (stv hA (by decide) (run_field' Try.underlying24 rfl rfl Try.sizeOf22 (by decide) (hA.ev rfl)) ?_))
          clear hA; intro a hA
          refine L1 (gate_on rfl rfl hA (by decide) rfl (stv hA (by decide) (run_ld (hA.ev rfl) (run_loadS Try.isAgg22 (At.seg1 (hM.box .z) 0 rfl))) ?_))
          clear hA; intro a hA
          refine L1 (gate_on rfl rfl hA (by decide) rfl (stv hA (by decide) (run_len_slice Try.underlying22 (hA.ev rfl)) ?_))
          clear hA; intro a hA
          refine L1 (gate_on rfl rfl hA (by decide) rfl (stv hA (by decide) (run_bin (hA.ev rfl) (hA.ev rfl) (bin_geq _ _ _ _)) ?_))
          clear hA; intro a hA
          refine L1 (stv hA (by decide) (run_pick (hA.ev rfl) (fun h => Bool.noConfusion h) (fun _ => hA.ev rfl)) ?_)
          clear hA; intro a hA
          refine LQ ?_
          exact ⟨(decide (t_0.Best ≥ ((t_0.Nodes.length : Nat) : Int))), Option.some.inj H254, hM, ((hA.nil.cons (hA.get 27 _ rfl)).cons (hA.get 1 _ rfl))⟩
  clear hM hA
  rintro a w259 ⟨t253, rfl, hM, hA⟩
  try dsimp only at H
  refine TN ?_
  refine tcond (b := t253) hA rfl (fun hb260 => ?_) (fun hb260 => ?_)
  · replace H := ite_t hb260 H
    refine wp_seq ?_
    refine wp_region_lit ?_
    refine L1 (stv hA (by decide) (run_assign (hA.ev rfl)) ?_)
    clear hA; intro a hA
    refine LQ ?_
    refine TN ?_
    refine wp_ret ?_
    obtain rfl := Option.some.inj H
    refine TR ?_
    exact ret_post1 (fn := Try.f23) hA rfl rfl ⟨_, rfl, rfl, (hM.sel [] rfl (by decide))⟩
  · replace H := ite_f hb260 H
    refine wp_skip ?_
    refine TN ?_
    refine wp_seq ?_
    refine wp_seq ?_
    refine wp_region_lit ?_
    refine L1 (stv hA (by decide) (run_field' Try.underlying24 rfl rfl Try.sizeOf22 (by decide) (hA.ev rfl)) ?_)
    clear hA; intro a hA
    refine L1 (stv hA (by decide) (run_ld (hA.ev rfl) (run_loadS Try.isAgg22 (At.seg1 (hM.box .z) 0 rfl))) ?_)
    clear hA; intro a hA
    refine L1 (stv hA (by decide) (run_len_slice Try.underlying22 (hA.ev rfl)) ?_)
    clear hA; intro a hA
    refine L1 (stv hA (by decide) (run_move (hA.ev rfl)) ?_)
    clear hA; intro a hA
    refine LQ ?_
    refine TN ?_
    obtain ⟨o429, H428, H⟩ := Option.bind_eq_some_iff.1 H
    refine cutC (fun a w => (.go ()) = o429 ∧ Mem F w0 w [] ∧ Has 75 [] a) ?_ ?_
    · refine wp_block ?_
      refine wp_loop_ghost (fun m a w => ∃ (t427 : Int), branch_sound.l0 t_0 m t427 = some o429 ∧ Mem F w0 w [.box g245 24 [(.slice A0_0 t_0.Nodes.length c0_0), (.int .i64 t_0.Best)]] ∧ Has 75 [(1, (.pointer (some (⟨g245, 0, none⟩)))), (29, (.slice A0_0 t_0.Nodes.length c0_0)), (30, (.int .i64 ((t_0.Nodes.length : Nat) : Int))), (31, (.int .i64 t427))] a) k ⟨0, H428, hM, ((((hA.nil.cons (hA.get 31 _ rfl)).cons (hA.get 30 _ rfl)).cons (hA.get 29 _ rfl)).cons (hA.get 1 _ rfl))⟩ ?_
      clear hM hA; rintro m430 a w431 ⟨t427, H428, hM, hA⟩
      cases m430 with
      | zero => exact absurd H428 (by simp [branch_sound.l0])
      | succ m430 =>
      rw [branch_sound.l0] at H428
      refine wp_seq ?_
      refine wp_region_lit ?_
      refine L1 (stv hA (by decide) (run_bin (hA.ev rfl) (hA.ev rfl) (bin_lss _ _ _ _)) ?_)
      clear hA; intro a hA
      refine LQ ?_
      refine TN ?_
      refine wp_seq ?_
      refine tcond (b := (decide (t427 < ((t_0.Nodes.length : Nat) : Int)))) hA rfl (fun hb432 => ?_) (fun hb432 => ?_)
      · replace H428 := ite_t hb432 H428
        refine wp_skip ?_
        refine TN ?_
        refine wp_seq ?_
        refine wp_block ?_
        refine wp_seq ?_
        refine wp_region_lit ?_
        refine L1 (stv hA (by decide) (run_move (hA.ev rfl)) ?_)
        clear hA; intro a hA
        obtain ⟨⟨hi433, hj434⟩, H428⟩ := ite_some H428
        obtain ⟨ad435, hq436, hat437⟩ := Row.elem' (p := pNode) (hM.ro hr0_0) (Eq.refl t_0.Nodes.length) Node.z t427 hi433 hj434
        refine L1 (stv hA (by decide) (run_idx Try.underlying22 Try.sizeOf46 (hA.ev rfl) hq436 (hA.ev rfl) hi433 hj434) ?_)
        clear hA; intro a hA
        refine L1 (stv hA (by decide) (run_ld (hA.ev rfl) (run_loadP Try.isAgg46 Try.sizeOf46 hat437)) ?_)
        clear hA; intro a hA
        refine L1 (e_alloc (cs := (pNode.enc Node.z)) hM zero46 rfl hA (by decide) ?_)
        clear hM hA; intro w439 g438 hM hE a hA
        refine L1 (stv hA (by decide) (run_assign (hA.ev rfl)) ?_)
        clear hA; intro a hA
        refine L1 (e_store (g := g438) (off := 0) (cur := (pNode.enc Node.z)) (cs' := (pNode.enc (t_0.Nodes.getD t427.toNat Node.z))) hM .z Try.sizeOf46 hA rfl (by simp [add_mk]) rfl (agg_size _ _) (agg_one _ _) (Nat.le_of_ble_eq_true (enc_fitL _ _ rfl)) (spl_all (by first | rfl | simp [Value.cells, Pl.len])) ?_)
        clear hM hA; intro w441 hM hE a hA
        refine LQ ?_
        refine TN ?_
        refine wp_seq ?_
        refine wp_seq ?_
        obtain ⟨o453, H452, H428⟩ := Option.bind_eq_some_iff.1 H428
        refine cutC (fun a w => ∃ (t451 : Bool), t451 = o453 ∧ Mem F w0 w [.box g245 24 [(.slice A0_0 t_0.Nodes.length c0_0), (.int .i64 t_0.Best)], .box g438 46 (pNode.enc (t_0.Nodes.getD t427.toNat Node.z))] ∧ Has 75 [(1, (.pointer (some (⟨g245, 0, none⟩)))), (3, (.int .i64 t427)), (4, (.pointer (some (⟨g438, 0, none⟩)))), (29, (.slice A0_0 t_0.Nodes.length c0_0)), (30, (.int .i64 ((t_0.Nodes.length : Nat) : Int))), (31, (.int .i64 t427)), (47, (.bool t451))] a) ?_ ?_
        · refine wp_region_lit ?_
          refine L1 (stv hA (by decide) (run_move (hA.ev rfl)) ?_)
          clear hA; intro a hA
          refine L1 (stv hA (by decide) (run_bin (hA.ev rfl) (hA.ev rfl) (bin_eql _ _ _ _)) ?_)
          clear hA; intro a hA
          refine L1 (stv hA (by decide) (run_move (hA.ev rfl)) ?_)
          clear hA; intro a hA
          refine bsplit (b := (t427 == 0)) (fun hb454 => ?_) (fun hb454 => ?_)
          · replace H452 := ite_t hb454 H452
            have hA := hA.re (t := 38) rfl (congrArg Value.bool hb454)
            refine L1 (gate_on rfl rfl hA (by decide) rfl (stv hA (by decide) (run_field' Try.underlying46 rfl rfl Try.sizeOf3 (by decide) (hA.ev rfl)) ?_))
            clear hA; intro a hA
            refine L1 (gate_on rfl rfl hA (by decide) rfl (stv hA (by decide) (run_ld (hA.ev rfl) (run_loadS Try.isAgg3 (Node.at_Parent (hM.box .z)))) ?_))
            clear hA; intro a hA
            refine L1 (gate_on rfl rfl hA (by decide) rfl (stv hA (by decide) (run_bin (hA.ev rfl) (hA.ev rfl) (bin_neq _ _ _ _)) ?_))
            clear hA; intro a hA
            refine L1 (gate_on rfl rfl hA (by decide) rfl (stv hA (by decide) (run_move (hA.ev rfl)) ?_))
            clear hA; intro a hA
            refine bsplit (b := (((t_0.Nodes.getD t427.toNat Node.z).Parent) != (-1))) (fun hb455 => ?_) (fun hb455 => ?_)
            · replace H452 := ite_t hb455 H452
              have hA := hA.re (t := 42) rfl (congrArg Value.bool hb455)
              refine L1 (gate_off rfl (by decide) rfl hA (by decide) rfl rfl ?_); clear hA; intro a hA
              refine L1 (gate_off rfl (by decide) rfl hA (by decide) rfl rfl ?_); clear hA; intro a hA
              refine L1 (gate_off rfl (by decide) rfl hA (by decide) rfl rfl ?_); clear hA; intro a hA
              refine L1 (gate_on rfl rfl hA (by decide) rfl (stv hA (by decide) (run_pick (hA.ev rfl) (fun _ => hA.ev rfl) (fun h => Bool.noConfusion h)) ?_))
              clear hA; intro a hA
              refine L1 (stv hA (by decide) (run_pick (hA.ev rfl) (fun _ => hA.ev rfl) (fun h => Bool.noConfusion h)) ?_)
              clear hA; intro a hA
              refine LQ ?_
              exact ⟨true, Option.some.inj H452, (hM.sel [1, 0] rfl (by decide)), (((((((hA.nil.cons (hA.get 47 _ rfl)).cons (hA.get 31 _ rfl)).cons (hA.get 30 _ rfl)).cons (hA.get 29 _ rfl)).cons (hA.get 4 _ rfl)).cons (hA.get 3 _ rfl)).cons (hA.get 1 _ rfl))⟩
            · replace H452 := ite_f hb455 H452
              have hA := hA.re (t := 42) rfl (congrArg Value.bool hb455)
              refine L1 (gate_on rfl rfl hA (by decide) rfl (stv hA (by decide) (run_field' Try.underlying46 rfl rfl Try.sizeOf3 (by decide) (hA.ev rfl)) ?_))
              clear hA; intro a hA
              refine L1 (gate_on rfl rfl hA (by decide) rfl (stv hA (by decide) (run_ld (hA.ev rfl) (run_loadS Try.isAgg3 (Node.at_Height (hM.box .z)))) ?_))
              clear hA; intro a hA
              refine L1 (gate_on rfl rfl hA (by decide) rfl (stv hA (by decide) (run_bin (hA.ev rfl) (hA.ev rfl) (bin_neq _ _ _ _)) ?_))
              clear hA; intro a hA
              refine L1 (gate_on rfl rfl hA (by decide) rfl (stv hA (by decide) (run_pick (hA.ev rfl) (fun h => Bool.noConfusion h) (fun _ => hA.ev rfl)) ?_))
              clear hA; intro a hA
              refine L1 (stv hA (by decide) (run_pick (hA.ev rfl) (fun _ => hA.ev rfl) (fun h => Bool.noConfusion h)) ?_)
              clear hA; intro a hA
              refine LQ ?_
              exact ⟨(((t_0.Nodes.getD t427.toNat Node.z).Height) != 0), Option.some.inj H452, (hM.sel [1, 0] rfl (by decide)), (((((((hA.nil.cons (hA.get 47 _ rfl)).cons (hA.get 31 _ rfl)).cons (hA.get 30 _ rfl)).cons (hA.get 29 _ rfl)).cons (hA.get 4 _ rfl)).cons (hA.get 3 _ rfl)).cons (hA.get 1 _ rfl))⟩
          · replace H452 := ite_f hb454 H452
            have hA := hA.re (t := 38) rfl (congrArg Value.bool hb454)
            refine L1 (gate_off rfl (by decide) rfl hA (by decide) rfl rfl ?_); clear hA; intro a hA
            refine L1 (gate_off rfl (by decide) rfl hA (by decide) rfl rfl ?_); clear hA; intro a hA
            refine L1 (gate_off rfl (by decide) rfl hA (by decide) rfl rfl ?_); clear hA; intro a hA
            refine L1 (gate_off rfl (by decide) rfl hA (by decide) rfl rfl ?_); clear hA; intro a hA
            refine L1 (gate_undef rfl (by decide) rfl hA (by decide) rfl ?_); clear hA; intro a hA
            refine L1 (gate_undef rfl (by decide) rfl hA (by decide) rfl ?_); clear hA; intro a hA
            refine L1 (gate_undef rfl (by decide) rfl hA (by decide) rfl ?_); clear hA; intro a hA
            refine L1 (gate_off rfl (by decide) rfl hA (by decide) rfl rfl ?_); clear hA; intro a hA
            refine L1 (stv hA (by decide) (run_pick (hA.ev rfl) (fun h => Bool.noConfusion h) (fun _ => hA.ev rfl)) ?_)
            clear hA; intro a hA
            refine LQ ?_
            exact ⟨false, Option.some.inj H452, (hM.sel [1, 0] rfl (by decide)), (((((((hA.nil.cons (hA.get 47 _ rfl)).cons (hA.get 31 _ rfl)).cons (hA.get 30 _ rfl)).cons (hA.get 29 _ rfl)).cons (hA.get 4 _ rfl)).cons (hA.get 3 _ rfl)).cons (hA.get 1 _ rfl))⟩
        clear hM hA
        rintro a w456 ⟨t451, rfl, hM, hA⟩
        try dsimp only at H428
        refine TN ?_
        refine tcond (b := t451) hA rfl (fun hb457 => ?_) (fun hb457 => ?_)
        · replace H428 := ite_t hb457 H428
          refine wp_seq ?_
          refine wp_region_lit ?_
          refine L1 (stv hA (by decide) (run_assign (hA.ev rfl)) ?_)
          clear hA; intro a hA
          refine LQ ?_
          refine TN ?_
          refine wp_ret ?_
          obtain rfl := Option.some.inj H428
          dsimp only at H
          obtain rfl := Option.some.inj H
          refine TR ?_
          refine BR ?_
          refine TR ?_
          refine TR ?_
          refine BR ?_
          refine TR ?_
          refine TR ?_
          exact ret_post1 (fn := Try.f23) hA rfl rfl ⟨_, rfl, rfl, (hM.sel [] rfl (by decide))⟩
        · replace H428 := ite_f hb457 H428
          refine wp_skip ?_
          refine TN ?_
          refine wp_seq ?_
          obtain ⟨o475, H474, H428⟩ := Option.bind_eq_some_iff.1 H428
          refine cutC (fun a w => ∃ (t473 : Bool), t473 = o475 ∧ Mem F w0 w [.box g245 24 [(.slice A0_0 t_0.Nodes.length c0_0), (.int .i64 t_0.Best)]] ∧ Has 75 [(1, (.pointer (some (⟨g245, 0, none⟩)))), (29, (.slice A0_0 t_0.Nodes.length c0_0)), (30, (.int .i64 ((t_0.Nodes.length : Nat) : Int))), (31, (.int .i64 t427)), (73, (.bool t473))] a) ?_ ?_
          · refine draw (fun w' => Below w456.heap.size w456 w') [] rfl ?_
            intro w476 hw hS; replace hM := hM.ext hS; clear hw
            refine d_takef (i := 0) (L' := #[true, false, false, false, false, false, false, false, false, false, false, false, false, false, false, false, false, false, false, false, false, false, false, false, false, false]) rfl (by kernel_rfl) rfl (fun _ _ _ h => h) hA (by decide) (fun _ => hS) (fun a w' hA => run_move (hA.ev rfl)) ?_; clear hA; intro a hA
            refine d_takef (i := 1) (L' := #[true, true, false, false, false, false, false, false, false, false, false, false, false, false, false, false, false, false, false, false, false, false, false, false, false, false]) rfl (by kernel_rfl) rfl (fun _ _ _ h => h) hA (by decide) (fun _ => hS) (fun a w' hA => run_bin (hA.ev rfl) (hA.ev rfl) (bin_gtr _ _ _ _)) ?_; clear hA; intro a hA
            refine d_takef (i := 2) (L' := #[true, true, true, false, false, false, false, false, false, false, false, false, false, false, false, false, false, false, false, false, false, false, false, false, false, false]) rfl (by kernel_rfl) rfl (fun _ _ _ h => h) hA (by decide) (fun _ => hS) (fun a w' hA => run_move (hA.ev rfl)) ?_; clear hA; intro a hA
            refine bsplit (b := (decide (t427 > 0))) (fun hb478 => ?_) (fun hb478 => ?_)
            · replace H474 := ite_t hb478 H474
              have hA := hA.re (t := 50) rfl (congrArg Value.bool hb478)
              refine d_takegf (i := 3) (L' := #[true, true, true, true, false, false, false, false, false, false, false, false, false, false, false, false, false, false, false, false, false, false, false, false, false, false]) rfl (by kernel_rfl) rfl (fun _ _ _ h => h) rfl hA (by decide) (by decide) rfl (fun _ => hS) (fun a w' hA => run_field' Try.underlying46 rfl rfl Try.sizeOf3 (by decide) (hA.ev rfl)) ?_; clear hA; intro a hA
              refine rebase hS ?_; clear hS; intro hS
              refine d_takeg (i := 4) (L' := #[true, true, true, true, true, false, false, false, false, false, false, false, false, false, false, false, false, false, false, false, false, false, false, false, false, false]) rfl (by kernel_rfl) rfl (fun _ _ _ h => h) rfl hA (by decide) (by decide) rfl rfl hS (fun a w' hA hS' => run_ld (hA.ev rfl) (run_loadS Try.isAgg3 ((Node.at_Parent (hM.box (.s .z))).extB hS'))) ?_; clear hA; intro a hA
              refine d_takegf (i := 5) (L' := #[true, true, true, true, true, true, false, false, false, false, false, false, false, false, false, false, false, false, false, false, false, false, false, false, false, false]) rfl (by kernel_rfl) rfl (fun _ _ _ h => h) rfl hA (by decide) (by decide) rfl (fun _ => hS) (fun a w' hA => run_bin (hA.ev rfl) (hA.ev rfl) (bin_lss _ _ _ _)) ?_; clear hA; intro a hA
              refine d_takegf (i := 6) (L' := #[true, true, true, true, true, true, true, false, false, false, false, false, false, false, false, false, false, false, false, false, false, false, false, false, false, false]) rfl (by kernel_rfl) rfl (fun _ _ _ h => h) rfl hA (by decide) (by decide) rfl (fun _ => hS) (fun a w' hA => run_move (hA.ev rfl)) ?_; clear hA; intro a hA
              refine bsplit (b := (decide (((t_0.Nodes.getD t427.toNat Node.z).Parent) < 0))) (fun hb479 => ?_) (fun hb479 => ?_)
              · replace H474 := ite_t hb479 H474
                have hA := hA.re (t := 54) rfl (congrArg Value.bool hb479)
                refine d_skip (i := 7) (L' := #[true, true, true, true, true, true, true, true, false, false, false, false, false, false, false, false, false, false, false, false, false, false, false, false, false, false]) rfl (by kernel_rfl) rfl (fun _ _ _ h => h) rfl hA (by decide) (by decide) rfl rfl (fun _ => hS) ?_; clear hA; intro a hA
                refine d_skip (i := 8) (L' := #[true, true, true, true, true, true, true, true, true, false, false, false, false, false, false, false, false, false, false, false, false, false, false, false, false, false]) rfl (by kernel_rfl) rfl (fun _ _ _ h => h) rfl hA (by decide) (by decide) rfl rfl (fun _ => hS) ?_; clear hA; intro a hA
                refine d_skip (i := 9) (L' := #[true, true, true, true, true, true, true, true, true, true, false, false, false, false, false, false, false, false, false, false, false, false, false, false, false, false]) rfl (by kernel_rfl) rfl (fun _ _ _ h => h) rfl hA (by decide) (by decide) rfl rfl (fun _ => hS) ?_; clear hA; intro a hA
                refine d_skip (i := 10) (L' := #[true, true, true, true, true, true, true, true, true, true, true, false, false, false, false, false, false, false, false, false, false, false, false, false, false, false]) rfl (by kernel_rfl) rfl (fun _ _ _ h => h) rfl hA (by decide) (by decide) rfl rfl (fun _ => hS) ?_; clear hA; intro a hA
                refine d_takegf (i := 11) (L' := #[true, true, true, true, true, true, true, true, true, true, true, true, false, false, false, false, false, false, false, false, false, false, false, false, false, false]) rfl (by kernel_rfl) rfl (fun _ _ _ h => h) rfl hA (by decide) (by decide) rfl (fun _ => hS) (fun a w' hA => run_pick (hA.ev rfl) (fun _ => hA.ev rfl) (fun h => Bool.noConfusion h)) ?_; clear hA; intro a hA
                refine d_takegf (i := 12) (L' := #[true, true, true, true, true, true, true, true, true, true, true, true, true, false, false, false, false, false, false, false, false, false, false, false, false, false]) rfl (by kernel_rfl) rfl (fun _ _ _ h => h) rfl hA (by decide) (by decide) rfl (fun _ => hS) (fun a w' hA => run_move (hA.ev rfl)) ?_; clear hA; intro a hA
                refine d_skip (i := 13) (L' := #[true, true, true, true, true, true, true, true, true, true, true, true, true, true, false, false, false, false, false, false, false, false, false, false, false, false]) rfl (by kernel_rfl) rfl (fun _ _ _ h => h) rfl hA (by decide) (by decide) rfl rfl (fun _ => hS) ?_; clear hA; intro a hA
                refine d_skip (i := 14) (L' := #[true, true, true, true, true, true, true, true, true, true, true, true, true, true, true, false, false, false, false, false, false, false, false, false, false, false]) rfl (by kernel_rfl) rfl (fun _ _ _ h => h) rfl hA (by decide) (by decide) rfl rfl (fun _ => hS) ?_; clear hA; intro a hA
                refine d_skip (i := 15) (L' := #[true, true, true, true, true, true, true, true, true, true, true, true, true, true, true, true, false, false, false, false, false, false, false, false, false, false]) rfl (by kernel_rfl) rfl (fun _ _ _ h => h) rfl hA (by decide) (by decide) rfl rfl (fun _ => hS) ?_; clear hA; intro a hA
                refine d_skip (i := 16) (L' := #[true, true, true, true, true, true, true, true, true, true, true, true, true, true, true, true, true, false, false, false, false, false, false, false, false, false]) rfl (by kernel_rfl) rfl (fun _ _ _ h => h) rfl hA (by decide) (by decide) rfl rfl (fun _ => hS) ?_; clear hA; intro a hA
                refine d_skip (i := 17) (L' := #[true, true, true, true, true, true, true, true, true, true, true, true, true, true, true, true, true, true, false, false, false, false, false, false, false, false]) rfl (by kernel_rfl) rfl (fun _ _ _ h => h) rfl hA (by decide) (by decide) rfl rfl (fun _ => hS) ?_; clear hA; intro a hA
                refine d_skip (i := 18) (L' := #[true, true, true, true, true, true, true, true, true, true, true, true, true, true, true, true, true, true, true, false, false, false, false, false, false, false]) rfl (by kernel_rfl) rfl (fun _ _ _ h => h) rfl hA (by decide) (by decide) rfl rfl (fun _ => hS) ?_; clear hA; intro a hA
                refine d_skip (i := 19) (L' := #[true, true, true, true, true, true, true, true, true, true, true, true, true, true, true, true, true, true, true, true, false, false, false, false, false, false]) rfl (by kernel_rfl) rfl (fun _ _ _ h => h) rfl hA (by decide) (by decide) rfl rfl (fun _ => hS) ?_; clear hA; intro a hA
                refine d_skip (i := 20) (L' := #[true, true, true, true, true, true, true, true, true, true, true, true, true, true, true, true, true, true, true, true, true, false, false, false, false, false]) rfl (by kernel_rfl) rfl (fun _ _ _ h => h) rfl hA (by decide) (by decide) rfl rfl (fun _ => hS) ?_; clear hA; intro a hA
                refine d_skip (i := 21) (L' := #[true, true, true, true, true, true, true, true, true, true, true, true, true, true, true, true, true, true, true, true, true, true, false, false, false, false]) rfl (by kernel_rfl) rfl (fun _ _ _ h => h) rfl hA (by decide) (by decide) rfl rfl (fun _ => hS) ?_; clear hA; intro a hA
                refine d_skip (i := 22) (L' := #[true, true, true, true, true, true, true, true, true, true, true, true, true, true, true, true, true, true, true, true, true, true, true, false, false, false]) rfl (by kernel_rfl) rfl (fun _ _ _ h => h) rfl hA (by decide) (by decide) rfl rfl (fun _ => hS) ?_; clear hA; intro a hA
                refine d_skip (i := 23) (L' := #[true, true, true, true, true, true, true, true, true, true, true, true, true, true, true, true, true, true, true, true, true, true, true, true, false, false]) rfl (by kernel_rfl) rfl (fun _ _ _ h => h) rfl hA (by decide) (by decide) rfl rfl (fun _ => hS) ?_; clear hA; intro a hA
                refine d_takegf (i := 24) (L' := #[true, true, true, true, true, true, true, true, true, true, true, true, true, true, true, true, true, true, true, true, true, true, true, true, true, false]) rfl (by kernel_rfl) rfl (fun _ _ _ h => h) rfl hA (by decide) (by decide) rfl (fun _ => hS) (fun a w' hA => run_pick (hA.ev rfl) (fun _ => hA.ev rfl) (fun h => Bool.noConfusion h)) ?_; clear hA; intro a hA
                refine d_takef (i := 25) (L' := #[true, true, true, true, true, true, true, true, true, true, true, true, true, true, true, true, true, true, true, true, true, true, true, true, true, true]) rfl (by kernel_rfl) rfl (fun _ _ _ h => h) hA (by decide) (fun _ => hS) (fun a w' hA => run_pick (hA.ev rfl) (fun _ => hA.ev rfl) (fun h => Bool.noConfusion h)) ?_; clear hA; intro a hA
                refine d_done (by kernel_rfl) ?_
                exact ⟨true, Option.some.inj H474, (hM.sel [0] rfl (by decide)), (((((hA.nil.cons (hA.get 73 _ rfl)).cons (hA.get 31 _ rfl)).cons (hA.get 30 _ rfl)).cons (hA.get 29 _ rfl)).cons (hA.get 1 _ rfl))⟩
              · replace H474 := ite_f hb479 H474
                have hA := hA.re (t := 54) rfl (congrArg Value.bool hb479)
                refine d_takegf (i := 7) (L' := #[true, true, true, true, true, true, true, true, false, false, false, false, false, false, false, false, false, false, false, false, false, false, false, false, false, false]) rfl (by kernel_rfl) rfl (fun _ _ _ h => h) rfl hA (by decide) (by decide) rfl (fun _ => hS) (fun a w' hA => run_field' Try.underlying46 rfl rfl Try.sizeOf3 (by decide) (hA.ev rfl)) ?_; clear hA; intro a hA
                refine d_takeg (i := 8) (L' := #[true, true, true, true, true, true, true, true, true, false, false, false, false, false, false, false, false, false, false, false, false, false, false, false, false, false]) rfl (by kernel_rfl) rfl (fun _ _ _ h => h) rfl hA (by decide) (by decide) rfl rfl hS (fun a w' hA hS' => run_ld (hA.ev rfl) (run_loadS Try.isAgg3 ((Node.at_Parent (hM.box (.s .z))).extB hS'))) ?_; clear hA; intro a hA
                refine d_takegf (i := 9) (L' := #[true, true, true, true, true, true, true, true, true, true, false, false, false, false, false, false, false, false, false, false, false, false, false, false, false, false]) rfl (by kernel_rfl) rfl (fun _ _ _ h => h) rfl hA (by decide) (by decide) rfl (fun _ => hS) (fun a w' hA => run_move (hA.ev rfl)) ?_; clear hA; intro a hA
                refine d_takegf (i := 10) (L' := #[true, true, true, true, true, true, true, true, true, true, true, false, false, false, false, false, false, false, false, false, false, false, false, false, false, false]) rfl (by kernel_rfl) rfl (fun _ _ _ h => h) rfl hA (by decide) (by decide) rfl (fun _ => hS) (fun a w' hA => run_bin (hA.ev rfl) (hA.ev rfl) (bin_geq _ _ _ _)) ?_; clear hA; intro a hA
                refine d_takegf (i := 11) (L' := #[true, true, true, true, true, true, true, true, true, true, true, true, false, false, false, false, false, false, false, false, false, false, false, false, false, false]) rfl (by kernel_rfl) rfl (fun _ _ _ h => h) rfl hA (by decide) (by decide) rfl (fun _ => hS) (fun a w' hA => run_pick (hA.ev rfl) (fun h => Bool.noConfusion h) (fun _ => hA.ev rfl)) ?_; clear hA; intro a hA
                refine d_takegf (i := 12) (L' := #[true, true, true, true, true, true, true, true, true, true, true, true, true, false, false, false, false, false, false, false, false, false, false, false, false, false]) rfl (by kernel_rfl) rfl (fun _ _ _ h => h) rfl hA (by decide) (by decide) rfl (fun _ => hS) (fun a w' hA => run_move (hA.ev rfl)) ?_; clear hA; intro a hA
                refine bsplit (b := (decide (((t_0.Nodes.getD t427.toNat Node.z).Parent) ≥ t427))) (fun hb480 => ?_) (fun hb480 => ?_)
                · replace H474 := ite_t hb480 H474
                  have hA := hA.re (t := 60) rfl (congrArg Value.bool hb480)
                  refine d_skip (i := 13) (L' := #[true, true, true, true, true, true, true, true, true, true, true, true, true, true, false, false, false, false, false, false, false, false, false, false, false, false]) rfl (by kernel_rfl) rfl (fun _ _ _ h => h) rfl hA (by decide) (by decide) rfl rfl (fun _ => hS) ?_; clear hA; intro a hA
                  refine d_skip (i := 14) (L' := #[true, true, true, true, true, true, true, true, true, true, true, true, true, true, true, false, false, false, false, false, false, false, false, false, false, false]) rfl (by kernel_rfl) rfl (fun _ _ _ h => h) rfl hA (by decide) (by decide) rfl rfl (fun _ => hS) ?_; clear hA; intro a hA
                  refine d_skip (i := 15) (L' := #[true, true, true, true, true, true, true, true, true, true, true, true, true, true, true, true, false, false, false, false, false, false, false, false, false, false]) rfl (by kernel_rfl) rfl (fun _ _ _ h => h) rfl hA (by decide) (by decide) rfl rfl (fun _ => hS) ?_; clear hA; intro a hA
                  refine d_skip (i := 16) (L' := #[true, true, true, true, true, true, true, true, true, true, true, true, true, true, true, true, true, false, false, false, false, false, false, false, false, false]) rfl (by kernel_rfl) rfl (fun _ _ _ h => h) rfl hA (by decide) (by decide) rfl rfl (fun _ => hS) ?_; clear hA; intro a hA
                  refine d_skip (i := 17) (L' := #[true, true, true, true, true, true, true, true, true, true, true, true, true, true, true, true, true, true, false, false, false, false, false, false, false, false]) rfl (by kernel_rfl) rfl (fun _ _ _ h => h) rfl hA (by decide) (by decide) rfl rfl (fun _ => hS) ?_; clear hA; intro a hA
                  refine d_skip (i := 18) (L' := #[true, true, true, true, true, true, true, true, true, true, true, true, true, true, true, true, true, true, true, false, false, false, false, false, false, false]) rfl (by kernel_rfl) rfl (fun _ _ _ h => h) rfl hA (by decide) (by decide) rfl rfl (fun _ => hS) ?_; clear hA; intro a hA
                  refine d_skip (i := 19) (L' := #[true, true, true, true, true, true, true, true, true, true, true, true, true, true, true, true, true, true, true, true, false, false, false, false, false, false]) rfl (by kernel_rfl) rfl (fun _ _ _ h => h) rfl hA (by decide) (by decide) rfl rfl (fun _ => hS) ?_; clear hA; intro a hA
                  refine d_skip (i := 20) (L' := #[true, true, true, true, true, true, true, true, true, true, true, true, true, true, true, true, true, true, true, true, true, false, false, false, false, false]) rfl (by kernel_rfl) rfl (fun _ _ _ h => h) rfl hA (by decide) (by decide) rfl rfl (fun _ => hS) ?_; clear hA; intro a hA
                  refine d_skip (i := 21) (L' := #[true, true, true, true, true, true, true, true, true, true, true, true, true, true, true, true, true, true, true, true, true, true, false, false, false, false]) rfl (by kernel_rfl) rfl (fun _ _ _ h => h) rfl hA (by decide) (by decide) rfl rfl (fun _ => hS) ?_; clear hA; intro a hA
                  refine d_skip (i := 22) (L' := #[true, true, true, true, true, true, true, true, true, true, true, true, true, true, true, true, true, true, true, true, true, true, true, false, false, false]) rfl (by kernel_rfl) rfl (fun _ _ _ h => h) rfl hA (by decide) (by decide) rfl rfl (fun _ => hS) ?_; clear hA; intro a hA
                  refine d_skip (i := 23) (L' := #[true, true, true, true, true, true, true, true, true, true, true, true, true, true, true, true, true, true, true, true, true, true, true, true, false, false]) rfl (by kernel_rfl) rfl (fun _ _ _ h => h) rfl hA (by decide) (by decide) rfl rfl (fun _ => hS) ?_; clear hA; intro a hA
                  refine d_takegf (i := 24) (L' := #[true, true, true, true, true, true, true, true, true, true, true, true, true, true, true, true, true, true, true, true, true, true, true, true, true, false]) rfl (by kernel_rfl) rfl (fun _ _ _ h => h) rfl hA (by decide) (by decide) rfl (fun _ => hS) (fun a w' hA => run_pick (hA.ev rfl) (fun _ => hA.ev rfl) (fun h => Bool.noConfusion h)) ?_; clear hA; intro a hA
                  refine d_takef (i := 25) (L' := #[true, true, true, true, true, true, true, true, true, true, true, true, true, true, true, true, true, true, true, true, true, true, true, true, true, true]) rfl (by kernel_rfl) rfl (fun _ _ _ h => h) hA (by decide) (fun _ => hS) (fun a w' hA => run_pick (hA.ev rfl) (fun _ => hA.ev rfl) (fun h => Bool.noConfusion h)) ?_; clear hA; intro a hA
                  refine d_done (by kernel_rfl) ?_
                  exact ⟨true, Option.some.inj H474, (hM.sel [0] rfl (by decide)), (((((hA.nil.cons (hA.get 73 _ rfl)).cons (hA.get 31 _ rfl)).cons (hA.get 30 _ rfl)).cons (hA.get 29 _ rfl)).cons (hA.get 1 _ rfl))⟩
                · replace H474 := ite_f hb480 H474
                  have hA := hA.re (t := 60) rfl (congrArg Value.bool hb480)
                  refine d_takegf (i := 13) (L' := #[true, true, true, true, true, true, true, true, true, true, true, true, true, true, false, false, false, false, false, false, false, false, false, false, false, false]) rfl (by kernel_rfl) rfl (fun _ _ _ h => h) rfl hA (by decide) (by decide) rfl (fun _ => hS) (fun a w' hA => run_field' Try.underlying46 rfl rfl Try.sizeOf3 (by decide) (hA.ev rfl)) ?_; clear hA; intro a hA
                  refine d_takeg (i := 14) (L' := #[true, true, true, true, true, true, true, true, true, true, true, true, true, true, true, false, false, false, false, false, false, false, false, false, false, false]) rfl (by kernel_rfl) rfl (fun _ _ _ h => h) rfl hA (by decide) (by decide) rfl rfl hS (fun a w' hA hS' => run_ld (hA.ev rfl) (run_loadS Try.isAgg3 ((Node.at_Height (hM.box (.s .z))).extB hS'))) ?_; clear hA; intro a hA
                  refine d_takegf (i := 15) (L' := #[true, true, true, true, true, true, true, true, true, true, true, true, true, true, true, true, false, false, false, false, false, false, false, false, false, false]) rfl (by kernel_rfl) rfl (fun _ _ _ h => h) rfl hA (by decide) (by decide) rfl (fun _ => hS) (fun a w' hA => run_field' Try.underlying24 rfl rfl Try.sizeOf22 (by decide) (hA.ev rfl)) ?_; clear hA; intro a hA
                  refine d_takeg (i := 16) (L' := #[true, true, true, true, true, true, true, true, true, true, true, true, true, true, true, true, true, false, false, false, false, false, false, false, false, false]) rfl (by kernel_rfl) rfl (fun _ _ _ h => h) rfl hA (by decide) (by decide) rfl rfl hS (fun a w' hA hS' => run_ld (hA.ev rfl) (run_loadS Try.isAgg22 ((At.seg1 (hM.box .z) 0 rfl).extB hS'))) ?_; clear hA; intro a hA
                  refine d_takegf (i := 17) (L' := #[true, true, true, true, true, true, true, true, true, true, true, true, true, true, true, true, true, true, false, false, false, false, false, false, false, false]) rfl (by kernel_rfl) rfl (fun _ _ _ h => h) rfl hA (by decide) (by decide) rfl (fun _ => hS) (fun a w' hA => run_field' Try.underlying46 rfl rfl Try.sizeOf3 (by decide) (hA.ev rfl)) ?_; clear hA; intro a hA
                  refine d_takeg (i := 18) (L' := #[true, true, true, true, true, true, true, true, true, true, true, true, true, true, true, true, true, true, true, false, false, false, false, false, false, false]) rfl (by kernel_rfl) rfl (fun _ _ _ h => h) rfl hA (by decide) (by decide) rfl rfl hS (fun a w' hA hS' => run_ld (hA.ev rfl) (run_loadS Try.isAgg3 ((Node.at_Parent (hM.box (.s .z))).extB hS'))) ?_; clear hA; intro a hA
                  obtain ⟨⟨hi481, hj482⟩, H474⟩ := ite_some H474
                  obtain ⟨ad483, hq484, hat485⟩ := Row.elem' (p := pNode) (hM.ro hr0_0) (Eq.refl t_0.Nodes.length) Node.z ((t_0.Nodes.getD t427.toNat Node.z).Parent) hi481 hj482
                  refine d_takegf (i := 19) (L' := #[true, true, true, true, true, true, true, true, true, true, true, true, true, true, true, true, true, true, true, true, false, false, false, false, false, false]) rfl (by kernel_rfl) rfl (fun _ _ _ h => h) rfl hA (by decide) (by decide) rfl (fun _ => hS) (fun a w' hA => run_idx Try.underlying22 Try.sizeOf46 (hA.ev rfl) hq484 (hA.ev rfl) hi481 hj482) ?_; clear hA; intro a hA
                  refine d_takegf (i := 20) (L' := #[true, true, true, true, true, true, true, true, true, true, true, true, true, true, true, true, true, true, true, true, true, false, false, false, false, false]) rfl (by kernel_rfl) rfl (fun _ _ _ h => h) rfl hA (by decide) (by decide) rfl (fun _ => hS) (fun a w' hA => run_field' Try.underlying46 rfl rfl Try.sizeOf3 (by decide) (hA.ev rfl)) ?_; clear hA; intro a hA
                  refine d_takeg (i := 21) (L' := #[true, true, true, true, true, true, true, true, true, true, true, true, true, true, true, true, true, true, true, true, true, true, false, false, false, false]) rfl (by kernel_rfl) rfl (fun _ _ _ h => h) rfl hA (by decide) (by decide) rfl rfl hS (fun a w' hA hS' => run_ld (hA.ev rfl) (run_loadS Try.isAgg3 ((Node.at_Height (hat485)).extB hS'))) ?_; clear hA; intro a hA
                  refine d_takegf (i := 22) (L' := #[true, true, true, true, true, true, true, true, true, true, true, true, true, true, true, true, true, true, true, true, true, true, true, false, false, false]) rfl (by kernel_rfl) rfl (fun _ _ _ h => h) rfl hA (by decide) (by decide) rfl (fun _ => hS) (fun a w' hA => run_bin (hA.ev rfl) (hA.ev rfl) (bin_add _ _ _ _)) ?_; clear hA; intro a hA
                  refine d_takegf (i := 23) (L' := #[true, true, true, true, true, true, true, true, true, true, true, true, true, true, true, true, true, true, true, true, true, true, true, true, false, false]) rfl (by kernel_rfl) rfl (fun _ _ _ h => h) rfl hA (by decide) (by decide) rfl (fun _ => hS) (fun a w' hA => run_bin (hA.ev rfl) (hA.ev rfl) (bin_neq _ _ _ _)) ?_; clear hA; intro a hA
                  refine d_takegf (i := 24) (L' := #[true, true, true, true, true, true, true, true, true, true, true, true, true, true, true, true, true, true, true, true, true, true, true, true, true, false]) rfl (by kernel_rfl) rfl (fun _ _ _ h => h) rfl hA (by decide) (by decide) rfl (fun _ => hS) (fun a w' hA => run_pick (hA.ev rfl) (fun h => Bool.noConfusion h) (fun _ => hA.ev rfl)) ?_; clear hA; intro a hA
                  refine d_takef (i := 25) (L' := #[true, true, true, true, true, true, true, true, true, true, true, true, true, true, true, true, true, true, true, true, true, true, true, true, true, true]) rfl (by kernel_rfl) rfl (fun _ _ _ h => h) hA (by decide) (fun _ => hS) (fun a w' hA => run_pick (hA.ev rfl) (fun _ => hA.ev rfl) (fun h => Bool.noConfusion h)) ?_; clear hA; intro a hA
                  refine d_done (by kernel_rfl) ?_
                  exact ⟨(((t_0.Nodes.getD t427.toNat Node.z).Height) != (IntKind.i64.wrap (((t_0.Nodes.getD ((t_0.Nodes.getD t427.toNat Node.z).Parent).toNat Node.z).Height) + 1))), Option.some.inj H474, (hM.sel [0] rfl (by decide)), (((((hA.nil.cons (hA.get 73 _ rfl)).cons (hA.get 31 _ rfl)).cons (hA.get 30 _ rfl)).cons (hA.get 29 _ rfl)).cons (hA.get 1 _ rfl))⟩
            · replace H474 := ite_f hb478 H474
              have hA := hA.re (t := 50) rfl (congrArg Value.bool hb478)
              refine d_skip (i := 3) (L' := #[true, true, true, true, false, false, false, false, false, false, false, false, false, false, false, false, false, false, false, false, false, false, false, false, false, false]) rfl (by kernel_rfl) rfl (fun _ _ _ h => h) rfl hA (by decide) (by decide) rfl rfl (fun _ => hS) ?_; clear hA; intro a hA
              refine d_skip (i := 4) (L' := #[true, true, true, true, true, false, false, false, false, false, false, false, false, false, false, false, false, false, false, false, false, false, false, false, false, false]) rfl (by kernel_rfl) rfl (fun _ _ _ h => h) rfl hA (by decide) (by decide) rfl rfl (fun _ => hS) ?_; clear hA; intro a hA
              refine d_skip (i := 5) (L' := #[true, true, true, true, true, true, false, false, false, false, false, false, false, false, false, false, false, false, false, false, false, false, false, false, false, false]) rfl (by kernel_rfl) rfl (fun _ _ _ h => h) rfl hA (by decide) (by decide) rfl rfl (fun _ => hS) ?_; clear hA; intro a hA
              refine d_skip (i := 6) (L' := #[true, true, true, true, true, true, true, false, false, false, false, false, false, false, false, false, false, false, false, false, false, false, false, false, false, false]) rfl (by kernel_rfl) rfl (fun _ _ _ h => h) rfl hA (by decide) (by decide) rfl rfl (fun _ => hS) ?_; clear hA; intro a hA
              refine d_skipu (i := 7) (L' := #[true, true, true, true, true, true, true, true, false, false, false, false, false, false, false, false, false, false, false, false, false, false, false, false, false, false]) rfl (by kernel_rfl) rfl (fun _ _ _ h => h) rfl hA (by decide) (by decide) rfl (fun _ => hS) ?_; clear hA; intro a hA
              refine d_skipu (i := 8) (L' := #[true, true, true, true, true, true, true, true, true, false, false, false, false, false, false, false, false, false, false, false, false, false, false, false, false, false]) rfl (by kernel_rfl) rfl (fun _ _ _ h => h) rfl hA (by decide) (by decide) rfl (fun _ => hS) ?_; clear hA; intro a hA
              refine d_skipu (i := 9) (L' := #[true, true, true, true, true, true, true, true, true, true, false, false, false, false, false, false, false, false, false, false, false, false, false, false, false, false]) rfl (by kernel_rfl) rfl (fun _ _ _ h => h) rfl hA (by decide) (by decide) rfl (fun _ => hS) ?_; clear hA; intro a hA
              refine d_skipu (i := 10) (L' := #[true, true, true, true, true, true, true, true, true, true, true, false, false, false, false, false, false, false, false, false, false, false, false, false, false, false]) rfl (by kernel_rfl) rfl (fun _ _ _ h => h) rfl hA (by decide) (by decide) rfl (fun _ => hS) ?_; clear hA; intro a hA
              refine d_skip (i := 11) (L' := #[true, true, true, true, true, true, true, true, true, true, true, true, false, false, false, false, false, false, false, false, false, false, false, false, false, false]) rfl (by kernel_rfl) rfl (fun _ _ _ h => h) rfl hA (by decide) (by decide) rfl rfl (fun _ => hS) ?_; clear hA; intro a hA
              refine d_skip (i := 12) (L' := #[true, true, true, true, true, true, true, true, true, true, true, true, true, false, false, false, false, false, false, false, false, false, false, false, false, false]) rfl (by kernel_rfl) rfl (fun _ _ _ h => h) rfl hA (by decide) (by decide) rfl rfl (fun _ => hS) ?_; clear hA; intro a hA
              refine d_skipu (i := 13) (L' := #[true, true, true, true, true, true, true, true, true, true, true, true, true, true, false, false, false, false, false, false, false, false, false, false, false, false]) rfl (by kernel_rfl) rfl (fun _ _ _ h => h) rfl hA (by decide) (by decide) rfl (fun _ => hS) ?_; clear hA; intro a hA
              refine d_skipu (i := 14) (L' := #[true, true, true, true, true, true, true, true, true, true, true, true, true, true, true, false, false, false, false, false, false, false, false, false, false, false]) rfl (by kernel_rfl) rfl (fun _ _ _ h => h) rfl hA (by decide) (by decide) rfl (fun _ => hS) ?_; clear hA; intro a hA
              refine d_skipu (i := 15) (L' := #[true, true, true, true, true, true, true, true, true, true, true, true, true, true, true, true, false, false, false, false, false, false, false, false, false, false]) rfl (by kernel_rfl) rfl (fun _ _ _ h => h) rfl hA (by decide) (by decide) rfl (fun _ => hS) ?_; clear hA; intro a hA
              refine d_skipu (i := 16) (L' := #[true, true, true, true, true, true, true, true, true, true, true, true, true, true, true, true, true, false, false, false, false, false, false, false, false, false]) rfl (by kernel_rfl) rfl (fun _ _ _ h => h) rfl hA (by decide) (by decide) rfl (fun _ => hS) ?_; clear hA; intro a hA
              refine d_skipu (i := 17) (L' := #[true, true, true, true, true, true, true, true, true, true, true, true, true, true, true, true, true, true, false, false, false, false, false, false, false, false]) rfl (by kernel_rfl) rfl (fun _ _ _ h => h) rfl hA (by decide) (by decide) rfl (fun _ => hS) ?_; clear hA; intro a hA
              refine d_skipu (i := 18) (L' := #[true, true, true, true, true, true, true, true, true, true, true, true, true, true, true, true, true, true, true, false, false, false, false, false, false, false]) rfl (by kernel_rfl) rfl (fun _ _ _ h => h) rfl hA (by decide) (by decide) rfl (fun _ => hS) ?_; clear hA; intro a hA
              refine d_skipu (i := 19) (L' := #[true, true, true, true, true, true, true, true, true, true, true, true, true, true, true, true, true, true, true, true, false, false, false, false, false, false]) rfl (by kernel_rfl) rfl (fun _ _ _ h => h) rfl hA (by decide) (by decide) rfl (fun _ => hS) ?_; clear hA; intro a hA
              refine d_skipu (i := 20) (L' := #[true, true, true, true, true, true, true, true, true, true, true, true, true, true, true, true, true, true, true, true, true, false, false, false, false, false]) rfl (by kernel_rfl) rfl (fun _ _ _ h => h) rfl hA (by decide) (by decide) rfl (fun _ => hS) ?_; clear hA; intro a hA
              refine d_skipu (i := 21) (L' := #[true, true, true, true, true, true, true, true, true, true, true, true, true, true, true, true, true, true, true, true, true, true, false, false, false, false]) rfl (by kernel_rfl) rfl (fun _ _ _ h => h) rfl hA (by decide) (by decide) rfl (fun _ => hS) ?_; clear hA; intro a hA
              refine d_skipu (i := 22) (L' := #[true, true, true, true, true, true, true, true, true, true, true, true, true, true, true, true, true, true, true, true, true, true, true, false, false, false]) rfl (by kernel_rfl) rfl (fun _ _ _ h => h) rfl hA (by decide) (by decide) rfl (fun _ => hS) ?_; clear hA; intro a hA
              refine d_skipu (i := 23) (L' := #[true, true, true, true, true, true, true, true, true, true, true, true, true, true, true, true, true, true, true, true, true, true, true, true, false, false]) rfl (by kernel_rfl) rfl (fun _ _ _ h => h) rfl hA (by decide) (by decide) rfl (fun _ => hS) ?_; clear hA; intro a hA
              refine d_skip (i := 24) (L' := #[true, true, true, true, true, true, true, true, true, true, true, true, true, true, true, true, true, true, true, true, true, true, true, true, true, false]) rfl (by kernel_rfl) rfl (fun _ _ _ h => h) rfl hA (by decide) (by decide) rfl rfl (fun _ => hS) ?_; clear hA; intro a hA
              refine d_takef (i := 25) (L' := #[true, true, true, true, true, true, true, true, true, true, true, true, true, true, true, true, true, true, true, true, true, true, true, true, true, true]) rfl (by kernel_rfl) rfl (fun _ _ _ h => h) hA (by decide) (fun _ => hS) (fun a w' hA => run_pick (hA.ev rfl) (fun h => Bool.noConfusion h) (fun _ => hA.ev rfl)) ?_; clear hA; intro a hA
              refine d_done (by kernel_rfl) ?_
              exact ⟨false, Option.some.inj H474, (hM.sel [0] rfl (by decide)), (((((hA.nil.cons (hA.get 73 _ rfl)).cons (hA.get 31 _ rfl)).cons (hA.get 30 _ rfl)).cons (hA.get 29 _ rfl)).cons (hA.get 1 _ rfl))⟩
          clear hM hA
          rintro a w486 ⟨t473, rfl, hM, hA⟩
          try dsimp only at H428
          refine TN ?_
          refine tcond (b := t473) hA rfl (fun hb487 => ?_) (fun hb487 => ?_)
          · replace H428 := ite_t hb487 H428
            refine wp_seq ?_
            refine wp_region_lit ?_
            refine L1 (stv hA (by decide) (run_assign (hA.ev rfl)) ?_)
            clear hA; intro a hA
            refine LQ ?_
            refine TN ?_
            refine wp_ret ?_
            obtain rfl := Option.some.inj H428
            dsimp only at H
            obtain rfl := Option.some.inj H
            refine BR ?_
            refine TR ?_
            refine TR ?_
            refine BR ?_
            refine TR ?_
            refine TR ?_
            exact ret_post1 (fn := Try.f23) hA rfl rfl ⟨_, rfl, rfl, (hM.sel [] rfl (by decide))⟩
          · replace H428 := ite_f hb487 H428
            refine wp_skip ?_
            refine BN ?_
            refine TN ?_
            refine wp_region_lit ?_
            refine L1 (stv hA (by decide) (run_bin (hA.ev rfl) (hA.ev rfl) (bin_add _ _ _ _)) ?_)
            clear hA; intro a hA
            refine L1 (stv hA (by decide) (run_move (hA.ev rfl)) ?_)
            clear hA; intro a hA
            refine LQ ?_
            exact ⟨_, Nat.lt_succ_self m430, IntKind.i64.wrap (t427 + 1), H428, hM, ((((hA.nil.cons (hA.get 31 _ rfl)).cons (hA.get 30 _ rfl)).cons (hA.get 29 _ rfl)).cons (hA.get 1 _ rfl))⟩
      · replace H428 := ite_f hb432 H428
        refine wp_exit ?_
        refine TX ?_
        refine TX ?_
        refine BX ?_
        exact ⟨Option.some.inj H428, (hM.sel [] rfl (by decide)), hA.nil⟩
    clear hM hA
    rintro a w488 ⟨rfl, hM, hA⟩
    try dsimp only at H
    refine TN ?_
    refine wp_seq ?_
    refine wp_region_lit ?_
    refine L1 (stv hA (by decide) (run_assign (hA.ev rfl)) ?_)
    clear hA; intro a hA
    refine LQ ?_
    refine TN ?_
    refine wp_ret ?_
    obtain rfl := Option.some.inj H
    exact ret_post1 (fn := Try.f23) hA rfl rfl ⟨_, rfl, rfl, hM⟩

def branch_chain.l0 (t_0 : Tree) (n_1 : Int) : Nat → Int → (List Int) → Int → Option ((List Int))
  | 0, _, _, _ => none
  | k + 1, n162, xs165, h167 => (if (decide (h167 ≥ 0)) = true then (if 0 ≤ h167 ∧ h167 < (((IntKind.i64.wrap (((t_0.Nodes.getD n_1.toNat Node.z).Height) + 1)).toNat : Nat) : Int) then (if 0 ≤ n162 ∧ n162 < ((t_0.Nodes.length : Nat) : Int) then (branch_chain.l0 t_0 n_1 k ((t_0.Nodes.getD n162.toNat Node.z).Parent) (xs165.set h167.toNat n162) (IntKind.i64.wrap (h167 - 1))) else none) else none) else (some xs165))
def branch_chain.f (k : Nat) (t_0 : Tree) (n_1 : Int) : Option (List Int) := (if 0 ≤ n_1 ∧ n_1 < ((t_0.Nodes.length : Nat) : Int) then (if 0 ≤ (IntKind.i64.wrap (((t_0.Nodes.getD n_1.toNat Node.z).Height) + 1)) ∧ (IntKind.i64.wrap (((t_0.Nodes.getD n_1.toNat Node.z).Height) + 1)) * 8 ≤ 140737488355328 then (Option.bind (α := (List Int)) (branch_chain.l0 t_0 n_1 k n_1 (List.replicate ((IntKind.i64.wrap (((t_0.Nodes.getD n_1.toNat Node.z).Height) + 1)).toNat) (0 : Int)) (IntKind.i64.wrap ((((IntKind.i64.wrap (((t_0.Nodes.getD n_1.toNat Node.z).Height) + 1)).toNat : Nat) : Int) - 1))) (fun xs169 => (some xs169))) else none) else none)
set_option maxRecDepth 100000 in
theorem branch_chain.calls (k : Nat) (t_0 : Tree) (n_1 : Int) (F : List (Option Nat)) (v0_0 : Value) (r : (List Int)) (w0 : World) (h0_0 : RoV F pNode w0 v0_0 t_0.Nodes) (hM : Mem F w0 w0 []) (H : branch_chain.f k t_0 n_1 = some r) :
    Calls Try.prog 24 #[(.agg #[v0_0, (.int .i64 t_0.Best)]), (.int .i64 n_1)] w0 fun e w' => ∃ v, e = .returned v ∧ ∃ (ur_0 : Value), v = ur_0 ∧ Mem F w0 w' [.row 3 (Pl.int .i64).sz ur_0 ((Pl.int .i64).flat r)] := by
  unfold branch_chain.f at H
  obtain ⟨A0_0, c0_0, rfl, hr0_0, hc0_0⟩ := h0_0
  refine enterL (n := 33) [(.agg #[(.slice A0_0 t_0.Nodes.length c0_0), (.int .i64 t_0.Best)]), (.int .i64 n_1)] Try.func24 rfl rfl rfl ?_
  intro a hA
  refine wp_seq ?_
  refine wp_region_lit ?_
  refine L1 (e_box (cs := [(.slice A0_0 t_0.Nodes.length c0_0), (.int .i64 t_0.Best)]) hM hA rfl rfl (by decide) ?_)
  clear hM hA; intro w95 g94 hM hE a hA
  refine L1 (stv hA (by decide) (run_assign (hA.ev rfl)) ?_)
  clear hA; intro a hA
  refine LQ ?_
  refine TN ?_
  refine wp_seq ?_
  refine wp_region_lit ?_
  refine L1 (stv hA (by decide) (run_field' Try.underlying24 rfl rfl Try.sizeOf22 (by decide) (hA.ev rfl)) ?_)
  clear hA; intro a hA
  refine L1 (stv hA (by decide) (run_ld (hA.ev rfl) (run_loadS Try.isAgg22 (At.seg1 (hM.box .z) 0 rfl))) ?_)
  clear hA; intro a hA
  refine L1 (stv hA (by decide) (run_move (hA.ev rfl)) ?_)
  clear hA; intro a hA
  obtain ⟨⟨hi97, hj98⟩, H⟩ := ite_some H
  obtain ⟨ad99, hq100, hat101⟩ := Row.elem' (p := pNode) (hM.ro hr0_0) (Eq.refl t_0.Nodes.length) Node.z n_1 hi97 hj98
  refine L1 (stv hA (by decide) (run_idx Try.underlying22 Try.sizeOf46 (hA.ev rfl) hq100 (hA.ev rfl) hi97 hj98) ?_)
  clear hA; intro a hA
  refine L1 (stv hA (by decide) (run_field' Try.underlying46 rfl rfl Try.sizeOf3 (by decide) (hA.ev rfl)) ?_)
  clear hA; intro a hA
  refine L1 (stv hA (by decide) (run_ld (hA.ev rfl) (run_loadS Try.isAgg3 (Node.at_Height (hat101)))) ?_)
  clear hA; intro a hA
  refine L1 (stv hA (by decide) (run_bin (hA.ev rfl) (hA.ev rfl) (bin_add _ _ _ _)) ?_)
  clear hA; intro a hA
  obtain ⟨⟨hi103, hj104⟩, H⟩ := ite_some H
  refine L1 (e_make elt31 rfl hM hA rfl rfl hi103 hj104 (by decide) ?_)
  clear hM hA; intro w105 g102 hM hE a hA
  refine L1 (stv hA (by decide) (run_assign (hA.ev rfl)) ?_)
  clear hA; intro a hA
  refine LQ ?_
  refine TN ?_
  refine wp_seq ?_
  refine wp_seq ?_
  refine wp_region_lit ?_
  refine L1 (stv hA (by decide) (run_move (hA.ev rfl)) ?_)
  clear hA; intro a hA
  refine L1 (stv hA (by decide) (run_len_slice Try.underlying31 (hA.ev rfl)) ?_)
  clear hA; intro a hA
  refine L1 (stv hA (by decide) (run_bin (hA.ev rfl) (hA.ev rfl) (bin_sub _ _ _ _)) ?_)
  clear hA; intro a hA
  refine L1 (stv hA (by decide) (run_assign (hA.ev rfl)) ?_)
  clear hA; intro a hA
  refine LQ ?_
  refine TN ?_
  obtain ⟨o171, H170, H⟩ := Option.bind_eq_some_iff.1 H
  refine cutC (fun a w => ∃ (xs169 : (List Int)), xs169 = o171 ∧ Mem F w0 w [.row 3 (Pl.int .i64).sz (.slice (some ⟨g102, 0, none⟩) ((IntKind.i64.wrap (((t_0.Nodes.getD n_1.toNat Node.z).Height) + 1)).toNat) ((IntKind.i64.wrap (((t_0.Nodes.getD n_1.toNat Node.z).Height) + 1)).toNat)) ((Pl.int .i64).flat xs169)] ∧ Has 33 [(5, (.slice (some ⟨g102, 0, none⟩) ((IntKind.i64.wrap (((t_0.Nodes.getD n_1.toNat Node.z).Height) + 1)).toNat) ((IntKind.i64.wrap (((t_0.Nodes.getD n_1.toNat Node.z).Height) + 1)).toNat)))] a) ?_ ?_
  · refine wp_block ?_
    refine wp_loop_ghost (fun m a w => ∃ (n162 : Int) (xs165 : (List Int)) (h167 : Int), branch_chain.l0 t_0 n_1 m n162 xs165 h167 = some o171 ∧ Mem F w0 w [.box g94 24 [(.slice A0_0 t_0.Nodes.length c0_0), (.int .i64 t_0.Best)], .row 3 (Pl.int .i64).sz (.slice (some ⟨g102, 0, none⟩) ((IntKind.i64.wrap (((t_0.Nodes.getD n_1.toNat Node.z).Height) + 1)).toNat) ((IntKind.i64.wrap (((t_0.Nodes.getD n_1.toNat Node.z).Height) + 1)).toNat)) ((Pl.int .i64).flat xs165)] ∧ Has 33 [(1, (.int .i64 n162)), (2, (.pointer (some (⟨g94, 0, none⟩)))), (5, (.slice (some ⟨g102, 0, none⟩) ((IntKind.i64.wrap (((t_0.Nodes.getD n_1.toNat Node.z).Height) + 1)).toNat) ((IntKind.i64.wrap (((t_0.Nodes.getD n_1.toNat Node.z).Height) + 1)).toNat))), (6, (.int .i64 h167))] a) k ⟨n_1, (List.replicate ((IntKind.i64.wrap (((t_0.Nodes.getD n_1.toNat Node.z).Height) + 1)).toNat) (0 : Int)), IntKind.i64.wrap ((((IntKind.i64.wrap (((t_0.Nodes.getD n_1.toNat Node.z).Height) + 1)).toNat : Nat) : Int) - 1), H170, (hM.sel [1, 0] rfl (by decide)), ((((hA.nil.cons (hA.get 6 _ rfl)).cons (hA.get 5 _ rfl)).cons (hA.get 2 _ rfl)).cons (hA.get 1 _ rfl))⟩ ?_
    clear hM hA; rintro m172 a w173 ⟨n162, xs165, h167, H170, hM, hA⟩
    cases m172 with
    | zero => exact absurd H170 (by simp [branch_chain.l0])
    | succ m172 =>
    rw [branch_chain.l0] at H170
    refine wp_seq ?_
    refine wp_seq ?_
    refine wp_region_lit ?_
    refine L1 (stv hA (by decide) (run_move (hA.ev rfl)) ?_)
    clear hA; intro a hA
    refine L1 (stv hA (by decide) (run_bin (hA.ev rfl) (hA.ev rfl) (bin_geq _ _ _ _)) ?_)
    clear hA; intro a hA
    refine LQ ?_
    refine TN ?_
    refine tcond (b := (decide (h167 ≥ 0))) hA rfl (fun hb174 => ?_) (fun hb174 => ?_)
    · replace H170 := ite_t hb174 H170
      refine wp_skip ?_
      refine TN ?_
      refine wp_seq ?_
      refine wp_block ?_
      refine wp_seq ?_
      refine wp_region_lit ?_
      refine L1 (stv hA (by decide) (run_move (hA.ev rfl)) ?_)
      clear hA; intro a hA
      refine L1 (stv hA (by decide) (run_move (hA.ev rfl)) ?_)
      clear hA; intro a hA
      refine L1 (stv hA (by decide) (run_move (hA.ev rfl)) ?_)
      clear hA; intro a hA
      obtain ⟨⟨hi175, hj176⟩, H170⟩ := ite_some H170
      obtain ⟨ad177, hq178, hat179⟩ := Row.elem' (p := (Pl.int .i64)) (RowOk.row (hM.row (p := (Pl.int .i64)) (.s .z))) (RowOk.len (hM.row (p := (Pl.int .i64)) (.s .z))) (0 : Int) h167 hi175 hj176
      refine L1 (stv hA (by decide) (run_idx Try.underlying31 Try.sizeOf3 (hA.ev rfl) hq178 (hA.ev rfl) hi175 hj176) ?_)
      clear hA; intro a hA
      refine L1 (e_setrow (x1 := (xs165.getD h167.toNat (0 : Int))) (y1 := n162) (off := 0) hM (.s .z) Try.sizeOf3 hA rfl rfl hq178 rfl (by first | rfl | simp [Value.cells, Pl.len]) (one_val rfl) hi175 hj176 (getD_getD _ _ _) (by decide) (spl_all (by first | rfl | simp [Value.cells, Pl.len] | (simp only [Value.cells, Pl.len, List.length_cons, List.length_nil]; done))) ?_)
      clear hM hA; intro w180 hM hE a hA
      refine LQ ?_
      refine TN ?_
      refine wp_region_lit ?_
      refine L1 (stv hA (by decide) (run_field' Try.underlying24 rfl rfl Try.sizeOf22 (by decide) (hA.ev rfl)) ?_)
      clear hA; intro a hA
      refine L1 (stv hA (by decide) (run_ld (hA.ev rfl) (run_loadS Try.isAgg22 (At.seg1 (hM.box .z) 0 rfl))) ?_)
      clear hA; intro a hA
      refine L1 (stv hA (by decide) (run_move (hA.ev rfl)) ?_)
      clear hA; intro a hA
      obtain ⟨⟨hi181, hj182⟩, H170⟩ := ite_some H170
      obtain ⟨ad183, hq184, hat185⟩ := Row.elem' (p := pNode) (hM.ro hr0_0) (Eq.refl t_0.Nodes.length) Node.z n162 hi181 hj182
      refine L1 (stv hA (by decide) (run_idx Try.underlying22 Try.sizeOf46 (hA.ev rfl) hq184 (hA.ev rfl) hi181 hj182) ?_)
      clear hA; intro a hA
      refine L1 (stv hA (by decide) (run_field' Try.underlying46 rfl rfl Try.sizeOf3 (by decide) (hA.ev rfl)) ?_)
      clear hA; intro a hA
      refine L1 (stv hA (by decide) (run_ld (hA.ev rfl) (run_loadS Try.isAgg3 (Node.at_Parent (hat185)))) ?_)
      clear hA; intro a hA
      refine L1 (stv hA (by decide) (run_assign (hA.ev rfl)) ?_)
      clear hA; intro a hA
      refine LQ ?_
      refine BN ?_
      refine TN ?_
      refine wp_region_lit ?_
      refine L1 (stv hA (by decide) (run_move (hA.ev rfl)) ?_)
      clear hA; intro a hA
      refine L1 (stv hA (by decide) (run_bin (hA.ev rfl) (hA.ev rfl) (bin_sub _ _ _ _)) ?_)
      clear hA; intro a hA
      refine L1 (stv hA (by decide) (run_assign (hA.ev rfl)) ?_)
      clear hA; intro a hA
      refine LQ ?_
      exact ⟨_, Nat.lt_succ_self m172, (t_0.Nodes.getD n162.toNat Node.z).Parent, (xs165.set h167.toNat n162), IntKind.i64.wrap (h167 - 1), H170, hM, ((((hA.nil.cons (hA.get 6 _ rfl)).cons (hA.get 5 _ rfl)).cons (hA.get 2 _ rfl)).cons (hA.get 1 _ rfl))⟩
    · replace H170 := ite_f hb174 H170
      refine wp_exit ?_
      refine TX ?_
      refine TX ?_
      refine BX ?_
      exact ⟨xs165, Option.some.inj H170, (hM.sel [1] rfl (by decide)), (hA.nil.cons (hA.get 5 _ rfl))⟩
  clear hM hA
  rintro a w186 ⟨xs169, rfl, hM, hA⟩
  try dsimp only at H
  refine TN ?_
  refine wp_seq ?_
  refine wp_region_lit ?_
  refine L1 (stv hA (by decide) (run_move (hA.ev rfl)) ?_)
  clear hA; intro a hA
  refine L1 (stv hA (by decide) (run_assign (hA.ev rfl)) ?_)
  clear hA; intro a hA
  refine LQ ?_
  refine TN ?_
  refine wp_ret ?_
  obtain rfl := Option.some.inj H
  exact ret_post1 (fn := Try.f24) hA rfl rfl ⟨_, rfl, (.slice (some ⟨g102, 0, none⟩) ((IntKind.i64.wrap (((t_0.Nodes.getD n_1.toNat Node.z).Height) + 1)).toNat) ((IntKind.i64.wrap (((t_0.Nodes.getD n_1.toNat Node.z).Height) + 1)).toNat)), rfl, hM⟩

def branch_Main.f (k : Nat) (t_0 : Tree) : Option (List Int) := ((branch_sound.f k (Tree.mk t_0.Nodes t_0.Best)).bind fun r18 => (if (!r18) = true then (some ([] : List Int)) else ((branch_chain.f k (Tree.mk t_0.Nodes t_0.Best) t_0.Best).bind fun r23 => (some r23))))
set_option maxRecDepth 100000 in
theorem branch_Main.calls (k : Nat) (t_0 : Tree) (F : List (Option Nat)) (v0_0 : Value) (r : (List Int)) (w0 : World) (h0_0 : RoV F pNode w0 v0_0 t_0.Nodes) (hM : Mem F w0 w0 []) (H : branch_Main.f k t_0 = some r) :
    Calls Try.prog 12 #[(.agg #[v0_0, (.int .i64 t_0.Best)])] w0 fun e w' => ∃ v, e = .returned v ∧ ∃ (ur_0 : Value), v = ur_0 ∧ Mem F w0 w' [.row 3 (Pl.int .i64).sz ur_0 ((Pl.int .i64).flat r)] := by
  unfold branch_Main.f at H
  obtain ⟨A0_0, c0_0, rfl, hr0_0, hc0_0⟩ := h0_0
  refine enterL (n := 10) [(.agg #[(.slice A0_0 t_0.Nodes.length c0_0), (.int .i64 t_0.Best)])] Try.func12 rfl rfl rfl ?_
  intro a hA
  refine wp_seq ?_
  refine wp_region_lit ?_
  refine L1 (e_box (cs := [(.slice A0_0 t_0.Nodes.length c0_0), (.int .i64 t_0.Best)]) hM hA rfl rfl (by decide) ?_)
  clear hM hA; intro w16 g15 hM hE a hA
  refine L1 (stv hA (by decide) (run_assign (hA.ev rfl)) ?_)
  clear hA; intro a hA
  refine LQ ?_
  refine TN ?_
  refine wp_seq ?_
  refine wp_seq ?_
  refine wp_region_lit ?_
  refine L1 (stv hA (by decide) (run_ld (hA.ev rfl) (run_loadW Try.isAgg24 Try.sizeOf24 (by simp [Pl.len]; try rfl) (hM.box .z))) ?_)
  clear hA; intro a hA
  obtain ⟨r18, H19, H⟩ := Option.bind_eq_some_iff.1 H
  refine L1 (st_call Try.call23 hA [(.agg #[(.slice A0_0 t_0.Nodes.length c0_0), (.int .i64 t_0.Best)])] rfl (by decide) (branch_sound.calls _ _ _ _ _ _ ((RoV.mk (hM.roC (Ms := []) hr0_0) (Eq.refl t_0.Nodes.length) hc0_0)) (hM.front (Ms := [])) H19) ?_)
  clear hA; rintro _ w20 ⟨rfl, hMc⟩ a hA
  have hE := hMc.below; have hM := hM.call (Ms := []) hMc
  clear hMc; simp only [List.cons_append, List.nil_append] at hM
  refine L1 (stv hA (by decide) (run_not (hA.ev rfl)) ?_)
  clear hA; intro a hA
  refine LQ ?_
  refine TN ?_
  refine tcond (b := (!r18)) hA rfl (fun hb21 => ?_) (fun hb21 => ?_)
  · replace H := ite_t hb21 H
    refine wp_seq ?_
    refine wp_region_lit ?_
    refine L1 (stv hA (by decide) (run_assign (hA.ev rfl)) ?_)
    clear hA; intro a hA
    refine LQ ?_
    refine TN ?_
    refine wp_ret ?_
    have hM := hM.addnil 3 ((Pl.int .i64)).sz
    obtain rfl := Option.some.inj H
    refine TR ?_
    exact ret_post1 (fn := Try.f12) hA rfl rfl ⟨_, rfl, (.slice none 0 0), rfl, (hM.sel [0] rfl (by decide))⟩
  · replace H := ite_f hb21 H
    refine wp_skip ?_
    refine TN ?_
    refine wp_seq ?_
    refine wp_region_lit ?_
    refine L1 (stv hA (by decide) (run_ld (hA.ev rfl) (run_loadW Try.isAgg24 Try.sizeOf24 (by simp [Pl.len]; try rfl) (hM.box .z))) ?_)
    clear hA; intro a hA
    refine L1 (stv hA (by decide) (run_field' Try.underlying24 rfl rfl Try.sizeOf3 (by decide) (hA.ev rfl)) ?_)
    clear hA; intro a hA
    refine L1 (stv hA (by decide) (run_ld (hA.ev rfl) (run_loadS Try.isAgg3 (At.seg1 (hM.box .z) 1 rfl))) ?_)
    clear hA; intro a hA
    obtain ⟨r23, H24, H⟩ := Option.bind_eq_some_iff.1 H
    refine L1 (st_call Try.call24 hA [(.agg #[(.slice A0_0 t_0.Nodes.length c0_0), (.int .i64 t_0.Best)]), (.int .i64 t_0.Best)] rfl (by decide) (branch_chain.calls _ _ _ _ _ _ _ ((RoV.mk (hM.roC (Ms := []) hr0_0) (Eq.refl t_0.Nodes.length) hc0_0)) (hM.front (Ms := [])) H24) ?_)
    clear hA; rintro _ w25 ⟨v26, rfl, hMc⟩ a hA
    have hE := hMc.below; have hM := hM.call (Ms := []) hMc
    clear hMc; simp only [List.cons_append, List.nil_append] at hM
    obtain ⟨A28, c29, rfl⟩ := RowOk.form (hM.row (p := (Pl.int .i64)) .z)
    refine L1 (stv hA (by decide) (run_assign (hA.ev rfl)) ?_)
    clear hA; intro a hA
    refine LQ ?_
    refine TN ?_
    refine wp_ret ?_
    obtain rfl := Option.some.inj H
    exact ret_post1 (fn := Try.f12) hA rfl rfl ⟨_, rfl, (.slice A28 r23.length c29), rfl, (hM.sel [0] rfl (by decide))⟩

def branch_has.l0 (t_0 : Tree) (nodes_1 : (List Int)) : Nat → Int → Option (Out Bool (Unit))
  | 0, _ => none
  | k + 1, t179 => (if (decide (t179 < ((nodes_1.length : Nat) : Int))) = true then (if 0 ≤ t179 ∧ t179 < ((nodes_1.length : Nat) : Int) then (Option.bind (α := Bool) (if (decide ((nodes_1.getD t179.toNat (0 : Int)) < 0)) = true then (some true) else (some (decide ((nodes_1.getD t179.toNat (0 : Int)) ≥ ((t_0.Nodes.length : Nat) : Int))))) (fun t197 => (if t197 = true then (some (.ret false)) else (branch_has.l0 t_0 nodes_1 k (IntKind.i64.wrap (t179 + 1)))))) else none) else (some (.go ())))
def branch_has.f (k : Nat) (t_0 : Tree) (nodes_1 : (List Int)) : Option Bool := (Option.bind (α := Out Bool (Unit)) (branch_has.l0 t_0 nodes_1 k 0) (fun o => match o with | .ret r => some r | .go _ => ((branch_sound.f k (Tree.mk t_0.Nodes t_0.Best)).bind fun r204 => (some r204))))
set_option maxRecDepth 100000 in
theorem branch_has.calls (k : Nat) (t_0 : Tree) (nodes_1 : (List Int)) (F : List (Option Nat)) (v0_0 : Value) (v1 : Value) (r : Bool) (w0 : World) (h0_0 : RoV F pNode w0 v0_0 t_0.Nodes) (h1 : RoV F (Pl.int .i64) w0 v1 nodes_1) (hM : Mem F w0 w0 []) (H : branch_has.f k t_0 nodes_1 = some r) :
    Calls Try.prog 27 #[(.agg #[v0_0, (.int .i64 t_0.Best)]), v1] w0 fun e w' => ∃ v, e = .returned v ∧ v = (.bool r) ∧ Mem F w0 w' [] := by
  unfold branch_has.f at H
  obtain ⟨A0_0, c0_0, rfl, hr0_0, hc0_0⟩ := h0_0
  obtain ⟨A1, c1, rfl, hr1, hc1⟩ := h1
  refine enterL (n := 25) [(.agg #[(.slice A0_0 t_0.Nodes.length c0_0), (.int .i64 t_0.Best)]), (.slice A1 nodes_1.length c1)] Try.func27 rfl rfl rfl ?_
  intro a hA
  refine wp_seq ?_
  refine wp_region_lit ?_
  refine L1 (e_box (cs := [(.slice A0_0 t_0.Nodes.length c0_0), (.int .i64 t_0.Best)]) hM hA rfl rfl (by decide) ?_)
  clear hM hA; intro w105 g104 hM hE a hA
  refine L1 (stv hA (by decide) (run_assign (hA.ev rfl)) ?_)
  clear hA; intro a hA
  refine LQ ?_
  refine TN ?_
  refine wp_seq ?_
  refine wp_seq ?_
  refine wp_region_lit ?_
  refine L1 (stv hA (by decide) (run_move (hA.ev rfl)) ?_)
  clear hA; intro a hA
  refine L1 (stv hA (by decide) (run_len_slice Try.underlying31 (hA.ev rfl)) ?_)
  clear hA; intro a hA
  refine L1 (stv hA (by decide) (run_move (hA.ev rfl)) ?_)
  clear hA; intro a hA
  refine LQ ?_
  refine TN ?_
  obtain ⟨o182, H181, H⟩ := Option.bind_eq_some_iff.1 H
  refine cutC (fun a w => (.go ()) = o182 ∧ Mem F w0 w [.box g104 24 [(.slice A0_0 t_0.Nodes.length c0_0), (.int .i64 t_0.Best)]] ∧ Has 25 [(2, (.pointer (some (⟨g104, 0, none⟩))))] a) ?_ ?_
  · refine wp_block ?_
    refine wp_loop_ghost (fun m a w => ∃ (t179 : Int), branch_has.l0 t_0 nodes_1 m t179 = some o182 ∧ Mem F w0 w [.box g104 24 [(.slice A0_0 t_0.Nodes.length c0_0), (.int .i64 t_0.Best)]] ∧ Has 25 [(2, (.pointer (some (⟨g104, 0, none⟩)))), (7, (.slice A1 nodes_1.length c1)), (8, (.int .i64 ((nodes_1.length : Nat) : Int))), (9, (.int .i64 t179))] a) k ⟨0, H181, hM, ((((hA.nil.cons (hA.get 9 _ rfl)).cons (hA.get 8 _ rfl)).cons (hA.get 7 _ rfl)).cons (hA.get 2 _ rfl))⟩ ?_
    clear hM hA; rintro m183 a w184 ⟨t179, H181, hM, hA⟩
    cases m183 with
    | zero => exact absurd H181 (by simp [branch_has.l0])
    | succ m183 =>
    rw [branch_has.l0] at H181
    refine wp_seq ?_
    refine wp_region_lit ?_
    refine L1 (stv hA (by decide) (run_bin (hA.ev rfl) (hA.ev rfl) (bin_lss _ _ _ _)) ?_)
    clear hA; intro a hA
    refine LQ ?_
    refine TN ?_
    refine wp_seq ?_
    refine tcond (b := (decide (t179 < ((nodes_1.length : Nat) : Int)))) hA rfl (fun hb185 => ?_) (fun hb185 => ?_)
    · replace H181 := ite_t hb185 H181
      refine wp_skip ?_
      refine TN ?_
      refine wp_seq ?_
      refine wp_block ?_
      refine wp_seq ?_
      refine wp_region_lit ?_
      obtain ⟨⟨hi186, hj187⟩, H181⟩ := ite_some H181
      obtain ⟨ad188, hq189, hat190⟩ := Row.elem' (p := (Pl.int .i64)) (hM.ro hr1) (Eq.refl nodes_1.length) (0 : Int) t179 hi186 hj187
      refine L1 (stv hA (by decide) (run_idx Try.underlying31 Try.sizeOf3 (hA.ev rfl) hq189 (hA.ev rfl) hi186 hj187) ?_)
      clear hA; intro a hA
      refine L1 (stv hA (by decide) (run_ld (hA.ev rfl) (run_loadS Try.isAgg3 hat190)) ?_)
      clear hA; intro a hA
      refine L1 (stv hA (by decide) (run_assign (hA.ev rfl)) ?_)
      clear hA; intro a hA
      refine LQ ?_
      refine TN ?_
      refine wp_seq ?_
      obtain ⟨o199, H198, H181⟩ := Option.bind_eq_some_iff.1 H181
      refine cutC (fun a w => ∃ (t197 : Bool), t197 = o199 ∧ Mem F w0 w [.box g104 24 [(.slice A0_0 t_0.Nodes.length c0_0), (.int .i64 t_0.Best)]] ∧ Has 25 [(2, (.pointer (some (⟨g104, 0, none⟩)))), (7, (.slice A1 nodes_1.length c1)), (8, (.int .i64 ((nodes_1.length : Nat) : Int))), (9, (.int .i64 t179)), (21, (.bool t197))] a) ?_ ?_
      · refine wp_region_lit ?_
        refine L1 (stv hA (by decide) (run_move (hA.ev rfl)) ?_)
        clear hA; intro a hA
        refine L1 (stv hA (by decide) (run_bin (hA.ev rfl) (hA.ev rfl) (bin_lss _ _ _ _)) ?_)
        clear hA; intro a hA
        refine L1 (stv hA (by decide) (run_move (hA.ev rfl)) ?_)
        clear hA; intro a hA
        refine bsplit (b := (decide ((nodes_1.getD t179.toNat (0 : Int)) < 0))) (fun hb200 => ?_) (fun hb200 => ?_)
        · replace H198 := ite_t hb200 H198
          have hA := hA.re (t := 15) rfl (congrArg Value.bool hb200)
          refine L1 (gate_off rfl (by decide) rfl hA (by decide) rfl rfl ?_); clear hA; intro a hA
          refine L1 (gate_off rfl (by decide) rfl hA (by decide) rfl rfl ?_); clear hA; intro a hA
          refine L1 (gate_off rfl (by decide) rfl hA (by decide) rfl rfl ?_); clear hA; intro a hA
          refine L1 (gate_off rfl (by decide) rfl hA (by decide) rfl rfl ?_); clear hA; intro a hA
          refine L1 (gate_off rfl (by decide) rfl hA (by decide) rfl rfl ?_); clear hA; intro a hA
          refine L1 (stv hA (by decide) (run_pick (hA.ev rfl) (fun _ => hA.ev rfl) (fun h => Bool.noConfusion h)) ?_)
          clear hA; intro a hA
          refine LQ ?_
          exact ⟨true, Option.some.inj H198, hM, (((((hA.nil.cons (hA.get 21 _ rfl)).cons (hA.get 9 _ rfl)).cons (hA.get 8 _ rfl)).cons (hA.get 7 _ rfl)).cons (hA.get 2 _ rfl))⟩
        · replace H198 := ite_f hb200 H198
          have hA := hA.re (t := 15) rfl (congrArg Value.bool hb200)
          refine L1 (gate_on rfl rfl hA (by decide) rfl (stv hA (by decide) (run_move (hA.ev rfl)) ?_))
          clear hA; intro a hA
          refine L1 (gate_on rfl rfl hA (by decide) rfl (stv hA (by decide) (run_field' Try.underlying24 rfl rfl Try.sizeOf22 (by decide) (hA.ev rfl)) ?_))
          clear hA; intro a hA
          refine L1 (gate_on rfl rfl hA (by decide) rfl (stv hA (by decide) (run_ld (hA.ev rfl) (run_loadS Try.isAgg22 (At.seg1 (hM.box .z) 0 rfl))) ?_))
          clear hA; intro a hA
          refine L1 (gate_on rfl rfl hA (by decide) rfl (stv hA (by decide) (run_len_slice Try.underlying22 (hA.ev rfl)) ?_))
          clear hA; intro a hA
          refine L1 (gate_on rfl rfl hA (by decide) rfl (stv hA (by decide) (run_bin (hA.ev rfl) (hA.ev rfl) (bin_geq _ _ _ _)) ?_))
          clear hA; intro a hA
          refine L1 (stv hA (by decide) (run_pick (hA.ev rfl) (fun h => Bool.noConfusion h) (fun _ => hA.ev rfl)) ?_)
          clear hA; intro a hA
          refine LQ ?_
          exact ⟨(decide ((nodes_1.getD t179.toNat (0 : Int)) ≥ ((t_0.Nodes.length : Nat) : Int))), Option.some.inj H198, hM, (((((hA.nil.cons (hA.get 21 _ rfl)).cons (hA.get 9 _ rfl)).cons (hA.get 8 _ rfl)).cons (hA.get 7 _ rfl)).cons (hA.get 2 _ rfl))⟩
      clear hM hA
      rintro a w201 ⟨t197, rfl, hM, hA⟩
      try dsimp only at H181
      refine TN ?_
      refine tcond (b := t197) hA rfl (fun hb202 => ?_) (fun hb202 => ?_)
      · replace H181 := ite_t hb202 H181
        refine wp_seq ?_
        refine wp_region_lit ?_
        refine L1 (stv hA (by decide) (run_assign (hA.ev rfl)) ?_)
        clear hA; intro a hA
        refine LQ ?_
        refine TN ?_
        refine wp_ret ?_
        obtain rfl := Option.some.inj H181
        dsimp only at H
        obtain rfl := Option.some.inj H
        refine BR ?_
        refine TR ?_
        refine TR ?_
        refine BR ?_
        refine TR ?_
        refine TR ?_
        exact ret_post1 (fn := Try.f27) hA rfl rfl ⟨_, rfl, rfl, (hM.sel [] rfl (by decide))⟩
      · replace H181 := ite_f hb202 H181
        refine wp_skip ?_
        refine BN ?_
        refine TN ?_
        refine wp_region_lit ?_
        refine L1 (stv hA (by decide) (run_bin (hA.ev rfl) (hA.ev rfl) (bin_add _ _ _ _)) ?_)
        clear hA; intro a hA
        refine L1 (stv hA (by decide) (run_move (hA.ev rfl)) ?_)
        clear hA; intro a hA
        refine LQ ?_
        exact ⟨_, Nat.lt_succ_self m183, IntKind.i64.wrap (t179 + 1), H181, hM, ((((hA.nil.cons (hA.get 9 _ rfl)).cons (hA.get 8 _ rfl)).cons (hA.get 7 _ rfl)).cons (hA.get 2 _ rfl))⟩
    · replace H181 := ite_f hb185 H181
      refine wp_exit ?_
      refine TX ?_
      refine TX ?_
      refine BX ?_
      exact ⟨Option.some.inj H181, hM, (hA.nil.cons (hA.get 2 _ rfl))⟩
  clear hM hA
  rintro a w203 ⟨rfl, hM, hA⟩
  try dsimp only at H
  refine TN ?_
  refine wp_seq ?_
  refine wp_region_lit ?_
  refine L1 (stv hA (by decide) (run_ld (hA.ev rfl) (run_loadW Try.isAgg24 Try.sizeOf24 (by simp [Pl.len]; try rfl) (hM.box .z))) ?_)
  clear hA; intro a hA
  obtain ⟨r204, H205, H⟩ := Option.bind_eq_some_iff.1 H
  refine L1 (st_call Try.call23 hA [(.agg #[(.slice A0_0 t_0.Nodes.length c0_0), (.int .i64 t_0.Best)])] rfl (by decide) (branch_sound.calls _ _ _ _ _ _ ((RoV.mk (hM.roC (Ms := []) hr0_0) (Eq.refl t_0.Nodes.length) hc0_0)) (hM.front (Ms := [])) H205) ?_)
  clear hA; rintro _ w206 ⟨rfl, hMc⟩ a hA
  have hE := hMc.below; have hM := hM.call (Ms := []) hMc
  clear hMc; simp only [List.cons_append, List.nil_append] at hM
  refine L1 (stv hA (by decide) (run_assign (hA.ev rfl)) ?_)
  clear hA; intro a hA
  refine LQ ?_
  refine TN ?_
  refine wp_ret ?_
  obtain rfl := Option.some.inj H
  exact ret_post1 (fn := Try.f27) hA rfl rfl ⟨_, rfl, rfl, (hM.sel [] rfl (by decide))⟩

def branch_common.l0 (a_0 : (List Int)) (b_1 : (List Int)) : Nat → Int → Option (Int)
  | 0, _ => none
  | k + 1, h296 => (Option.bind (α := Bool) (if (decide ((IntKind.i64.wrap (h296 + 1)) < ((a_0.length : Nat) : Int))) = true then (if (decide ((IntKind.i64.wrap (h296 + 1)) < ((b_1.length : Nat) : Int))) = true then (if 0 ≤ (IntKind.i64.wrap (h296 + 1)) ∧ (IntKind.i64.wrap (h296 + 1)) < ((a_0.length : Nat) : Int) then (if 0 ≤ (IntKind.i64.wrap (h296 + 1)) ∧ (IntKind.i64.wrap (h296 + 1)) < ((b_1.length : Nat) : Int) then (some ((a_0.getD (IntKind.i64.wrap (h296 + 1)).toNat (0 : Int)) == (b_1.getD (IntKind.i64.wrap (h296 + 1)).toNat (0 : Int)))) else none) else none) else (some false)) else (some false)) (fun t321 => (if t321 = true then (branch_common.l0 a_0 b_1 k (IntKind.i64.wrap (h296 + 1))) else (some h296))))
def branch_common.f (k : Nat) (a_0 : (List Int)) (b_1 : (List Int)) : Option Int := (Option.bind (α := Int) (branch_common.l0 a_0 b_1 k 0) (fun h298 => (some h298)))
set_option maxRecDepth 100000 in
theorem branch_common.calls (k : Nat) (a_0 : (List Int)) (b_1 : (List Int)) (F : List (Option Nat)) (v0 : Value) (v1 : Value) (r : Int) (w0 : World) (h0 : RoV F (Pl.int .i64) w0 v0 a_0) (h1 : RoV F (Pl.int .i64) w0 v1 b_1) (hM : Mem F w0 w0 []) (H : branch_common.f k a_0 b_1 = some r) :
    Calls Try.prog 29 #[v0, v1] w0 fun e w' => ∃ v, e = .returned v ∧ v = (.int .i64 r) ∧ Mem F w0 w' [] := by
  unfold branch_common.f at H
  obtain ⟨A0, c0, rfl, hr0, hc0⟩ := h0
  obtain ⟨A1, c1, rfl, hr1, hc1⟩ := h1
  refine enterL (n := 34) [(.slice A0 a_0.length c0), (.slice A1 b_1.length c1)] Try.func29 rfl rfl rfl ?_
  intro a hA
  refine wp_seq ?_
  refine wp_region_lit ?_
  refine L1 (stv hA (by decide) (run_assign (hA.ev rfl)) ?_)
  clear hA; intro a hA
  refine LQ ?_
  refine TN ?_
  refine wp_seq ?_
  refine wp_region_lit ?_
  refine L1 (stv hA (by decide) (run_assign (hA.ev rfl)) ?_)
  clear hA; intro a hA
  refine LQ ?_
  refine TN ?_
  refine wp_seq ?_
  obtain ⟨o300, H299, H⟩ := Option.bind_eq_some_iff.1 H
  refine cutC (fun a w => ∃ (h298 : Int), h298 = o300 ∧ Mem F w0 w [] ∧ Has 34 [(5, (.int .i64 h298))] a) ?_ ?_
  · refine wp_block ?_
    refine wp_loop_ghost (fun m a w => ∃ (h296 : Int), branch_common.l0 a_0 b_1 m h296 = some o300 ∧ Mem F w0 w [] ∧ Has 34 [(0, (.slice A0 a_0.length c0)), (1, (.slice A1 b_1.length c1)), (5, (.int .i64 h296))] a) k ⟨0, H299, hM, (((hA.nil.cons (hA.get 5 _ rfl)).cons (hA.get 1 _ rfl)).cons (hA.get 0 _ rfl))⟩ ?_
    clear hM hA; rintro m301 a w302 ⟨h296, H299, hM, hA⟩
    cases m301 with
    | zero => exact absurd H299 (by simp [branch_common.l0])
    | succ m301 =>
    rw [branch_common.l0] at H299
    refine wp_seq ?_
    refine wp_seq ?_
    obtain ⟨o323, H322, H299⟩ := Option.bind_eq_some_iff.1 H299
    refine cutC (fun a w => ∃ (t321 : Bool), t321 = o323 ∧ Mem F w0 w [] ∧ Has 34 [(0, (.slice A0 a_0.length c0)), (1, (.slice A1 b_1.length c1)), (5, (.int .i64 h296)), (30, (.bool t321))] a) ?_ ?_
    · refine draw (fun w' => Below w302.heap.size w302 w') [] rfl ?_
      intro w324 hw hS; replace hM := hM.ext hS; clear hw
      refine d_takef (i := 0) (L' := #[true, false, false, false, false, false, false, false, false, false, false, false, false, false, false, false, false, false, false, false, false, false, false, false, false]) rfl (by kernel_rfl) rfl (fun _ _ _ h => h) hA (by decide) (fun _ => hS) (fun a w' hA => run_move (hA.ev rfl)) ?_; clear hA; intro a hA
      refine d_takef (i := 1) (L' := #[true, true, false, false, false, false, false, false, false, false, false, false, false, false, false, false, false, false, false, false, false, false, false, false, false]) rfl (by kernel_rfl) rfl (fun _ _ _ h => h) hA (by decide) (fun _ => hS) (fun a w' hA => run_bin (hA.ev rfl) (hA.ev rfl) (bin_add _ _ _ _)) ?_; clear hA; intro a hA
      refine d_takef (i := 2) (L' := #[true, true, true, false, false, false, false, false, false, false, false, false, false, false, false, false, false, false, false, false, false, false, false, false, false]) rfl (by kernel_rfl) rfl (fun _ _ _ h => h) hA (by decide) (fun _ => hS) (fun a w' hA => run_move (hA.ev rfl)) ?_; clear hA; intro a hA
      refine d_takef (i := 3) (L' := #[true, true, true, true, false, false, false, false, false, false, false, false, false, false, false, false, false, false, false, false, false, false, false, false, false]) rfl (by kernel_rfl) rfl (fun _ _ _ h => h) hA (by decide) (fun _ => hS) (fun a w' hA => run_len_slice Try.underlying31 (hA.ev rfl)) ?_; clear hA; intro a hA
      refine d_takef (i := 4) (L' := #[true, true, true, true, true, false, false, false, false, false, false, false, false, false, false, false, false, false, false, false, false, false, false, false, false]) rfl (by kernel_rfl) rfl (fun _ _ _ h => h) hA (by decide) (fun _ => hS) (fun a w' hA => run_bin (hA.ev rfl) (hA.ev rfl) (bin_lss _ _ _ _)) ?_; clear hA; intro a hA
      refine d_takef (i := 5) (L' := #[true, true, true, true, true, true, false, false, false, false, false, false, false, false, false, false, false, false, false, false, false, false, false, false, false]) rfl (by kernel_rfl) rfl (fun _ _ _ h => h) hA (by decide) (fun _ => hS) (fun a w' hA => run_move (hA.ev rfl)) ?_; clear hA; intro a hA
      refine bsplit (b := (decide ((IntKind.i64.wrap (h296 + 1)) < ((a_0.length : Nat) : Int)))) (fun hb326 => ?_) (fun hb326 => ?_)
      · replace H322 := ite_t hb326 H322
        have hA := hA.re (t := 11) rfl (congrArg Value.bool hb326)
        refine d_takegf (i := 6) (L' := #[true, true, true, true, true, true, true, false, false, false, false, false, false, false, false, false, false, false, false, false, false, false, false, false, false]) rfl (by kernel_rfl) rfl (fun _ _ _ h => h) rfl hA (by decide) (by decide) rfl (fun _ => hS) (fun a w' hA => run_move (hA.ev rfl)) ?_; clear hA; intro a hA
        refine d_takegf (i := 7) (L' := #[true, true, true, true, true, true, true, true, false, false, false, false, false, false, false, false, false, false, false, false, false, false, false, false, false]) rfl (by kernel_rfl) rfl (fun _ _ _ h => h) rfl hA (by decide) (by decide) rfl (fun _ => hS) (fun a w' hA => run_bin (hA.ev rfl) (hA.ev rfl) (bin_add _ _ _ _)) ?_; clear hA; intro a hA
        refine d_takegf (i := 8) (L' := #[true, true, true, true, true, true, true, true, true, false, false, false, false, false, false, false, false, false, false, false, false, false, false, false, false]) rfl (by kernel_rfl) rfl (fun _ _ _ h => h) rfl hA (by decide) (by decide) rfl (fun _ => hS) (fun a w' hA => run_move (hA.ev rfl)) ?_; clear hA; intro a hA
        refine d_takegf (i := 9) (L' := #[true, true, true, true, true, true, true, true, true, true, false, false, false, false, false, false, false, false, false, false, false, false, false, false, false]) rfl (by kernel_rfl) rfl (fun _ _ _ h => h) rfl hA (by decide) (by decide) rfl (fun _ => hS) (fun a w' hA => run_len_slice Try.underlying31 (hA.ev rfl)) ?_; clear hA; intro a hA
        refine d_takegf (i := 10) (L' := #[true, true, true, true, true, true, true, true, true, true, true, false, false, false, false, false, false, false, false, false, false, false, false, false, false]) rfl (by kernel_rfl) rfl (fun _ _ _ h => h) rfl hA (by decide) (by decide) rfl (fun _ => hS) (fun a w' hA => run_bin (hA.ev rfl) (hA.ev rfl) (bin_lss _ _ _ _)) ?_; clear hA; intro a hA
        refine d_takef (i := 11) (L' := #[true, true, true, true, true, true, true, true, true, true, true, true, false, false, false, false, false, false, false, false, false, false, false, false, false]) rfl (by kernel_rfl) rfl (fun _ _ _ h => h) hA (by decide) (fun _ => hS) (fun a w' hA => run_pick (hA.ev rfl) (fun _ => hA.ev rfl) (fun h => Bool.noConfusion h)) ?_; clear hA; intro a hA
        refine d_takef (i := 12) (L' := #[true, true, true, true, true, true, true, true, true, true, true, true, true, false, false, false, false, false, false, false, false, false, false, false, false]) rfl (by kernel_rfl) rfl (fun _ _ _ h => h) hA (by decide) (fun _ => hS) (fun a w' hA => run_move (hA.ev rfl)) ?_; clear hA; intro a hA
        refine bsplit (b := (decide ((IntKind.i64.wrap (h296 + 1)) < ((b_1.length : Nat) : Int)))) (fun hb327 => ?_) (fun hb327 => ?_)
        · replace H322 := ite_t hb327 H322
          have hA := hA.re (t := 18) rfl (congrArg Value.bool hb327)
          refine d_takegf (i := 13) (L' := #[true, true, true, true, true, true, true, true, true, true, true, true, true, true, false, false, false, false, false, false, false, false, false, false, false]) rfl (by kernel_rfl) rfl (fun _ _ _ h => h) rfl hA (by decide) (by decide) rfl (fun _ => hS) (fun a w' hA => run_move (hA.ev rfl)) ?_; clear hA; intro a hA
          refine d_takegf (i := 14) (L' := #[true, true, true, true, true, true, true, true, true, true, true, true, true, true, true, false, false, false, false, false, false, false, false, false, false]) rfl (by kernel_rfl) rfl (fun _ _ _ h => h) rfl hA (by decide) (by decide) rfl (fun _ => hS) (fun a w' hA => run_move (hA.ev rfl)) ?_; clear hA; intro a hA
          refine d_takegf (i := 15) (L' := #[true, true, true, true, true, true, true, true, true, true, true, true, true, true, true, true, false, false, false, false, false, false, false, false, false]) rfl (by kernel_rfl) rfl (fun _ _ _ h => h) rfl hA (by decide) (by decide) rfl (fun _ => hS) (fun a w' hA => run_bin (hA.ev rfl) (hA.ev rfl) (bin_add _ _ _ _)) ?_; clear hA; intro a hA
          obtain ⟨⟨hi328, hj329⟩, H322⟩ := ite_some H322
          obtain ⟨ad330, hq331, hat332⟩ := Row.elem' (p := (Pl.int .i64)) (hM.ro hr0) (Eq.refl a_0.length) (0 : Int) (IntKind.i64.wrap (h296 + 1)) hi328 hj329
          refine d_takegf (i := 16) (L' := #[true, true, true, true, true, true, true, true, true, true, true, true, true, true, true, true, true, false, false, false, false, false, false, false, false]) rfl (by kernel_rfl) rfl (fun _ _ _ h => h) rfl hA (by decide) (by decide) rfl (fun _ => hS) (fun a w' hA => run_idx Try.underlying31 Try.sizeOf3 (hA.ev rfl) hq331 (hA.ev rfl) hi328 hj329) ?_; clear hA; intro a hA
          refine rebase hS ?_; clear hS; intro hS
          refine d_takeg (i := 17) (L' := #[true, true, true, true, true, true, true, true, true, true, true, true, true, true, true, true, true, true, false, false, false, false, false, false, false]) rfl (by kernel_rfl) rfl (fun _ _ _ h => h) rfl hA (by decide) (by decide) rfl rfl hS (fun a w' hA hS' => run_ld (hA.ev rfl) (run_loadS Try.isAgg3 ((hat332).extB hS'))) ?_; clear hA; intro a hA
          refine d_takegf (i := 18) (L' := #[true, true, true, true, true, true, true, true, true, true, true, true, true, true, true, true, true, true, true, false, false, false, false, false, false]) rfl (by kernel_rfl) rfl (fun _ _ _ h => h) rfl hA (by decide) (by decide) rfl (fun _ => hS) (fun a w' hA => run_move (hA.ev rfl)) ?_; clear hA; intro a hA
          refine d_takegf (i := 19) (L' := #[true, true, true, true, true, true, true, true, true, true, true, true, true, true, true, true, true, true, true, true, false, false, false, false, false]) rfl (by kernel_rfl) rfl (fun _ _ _ h => h) rfl hA (by decide) (by decide) rfl (fun _ => hS) (fun a w' hA => run_move (hA.ev rfl)) ?_; clear hA; intro a hA
          refine d_takegf (i := 20) (L' := #[true, true, true, true, true, true, true, true, true, true, true, true, true, true, true, true, true, true, true, true, true, false, false, false, false]) rfl (by kernel_rfl) rfl (fun _ _ _ h => h) rfl hA (by decide) (by decide) rfl (fun _ => hS) (fun a w' hA => run_bin (hA.ev rfl) (hA.ev rfl) (bin_add _ _ _ _)) ?_; clear hA; intro a hA
          obtain ⟨⟨hi333, hj334⟩, H322⟩ := ite_some H322
          obtain ⟨ad335, hq336, hat337⟩ := Row.elem' (p := (Pl.int .i64)) (hM.ro hr1) (Eq.refl b_1.length) (0 : Int) (IntKind.i64.wrap (h296 + 1)) hi333 hj334
          refine d_takegf (i := 21) (L' := #[true, true, true, true, true, true, true, true, true, true, true, true, true, true, true, true, true, true, true, true, true, true, false, false, false]) rfl (by kernel_rfl) rfl (fun _ _ _ h => h) rfl hA (by decide) (by decide) rfl (fun _ => hS) (fun a w' hA => run_idx Try.underlying31 Try.sizeOf3 (hA.ev rfl) hq336 (hA.ev rfl) hi333 hj334) ?_; clear hA; intro a hA
          refine d_takeg (i := 22) (L' := #[true, true, true, true, true, true, true, true, true, true, true, true, true, true, true, true, true, true, true, true, true, true, true, false, false]) rfl (by kernel_rfl) rfl (fun _ _ _ h => h) rfl hA (by decide) (by decide) rfl rfl hS (fun a w' hA hS' => run_ld (hA.ev rfl) (run_loadS Try.isAgg3 ((hat337).extB hS'))) ?_; clear hA; intro a hA
          refine d_takegf (i := 23) (L' := #[true, true, true, true, true, true, true, true, true, true, true, true, true, true, true, true, true, true, true, true, true, true, true, true, false]) rfl (by kernel_rfl) rfl (fun _ _ _ h => h) rfl hA (by decide) (by decide) rfl (fun _ => hS) (fun a w' hA => run_bin (hA.ev rfl) (hA.ev rfl) (bin_eql _ _ _ _)) ?_; clear hA; intro a hA
          refine d_takef (i := 24) (L' := #[true, true, true, true, true, true, true, true, true, true, true, true, true, true, true, true, true, true, true, true, true, true, true, true, true]) rfl (by kernel_rfl) rfl (fun _ _ _ h => h) hA (by decide) (fun _ => hS) (fun a w' hA => run_pick (hA.ev rfl) (fun _ => hA.ev rfl) (fun h => Bool.noConfusion h)) ?_; clear hA; intro a hA
          refine d_done (by kernel_rfl) ?_
          exact ⟨((a_0.getD (IntKind.i64.wrap (h296 + 1)).toNat (0 : Int)) == (b_1.getD (IntKind.i64.wrap (h296 + 1)).toNat (0 : Int))), Option.some.inj H322, hM, ((((hA.nil.cons (hA.get 30 _ rfl)).cons (hA.get 5 _ rfl)).cons (hA.get 1 _ rfl)).cons (hA.get 0 _ rfl))⟩
        · replace H322 := ite_f hb327 H322
          have hA := hA.re (t := 18) rfl (congrArg Value.bool hb327)
          refine d_skip (i := 13) (L' := #[true, true, true, true, true, true, true, true, true, true, true, true, true, true, false, false, false, false, false, false, false, false, false, false, false]) rfl (by kernel_rfl) rfl (fun _ _ _ h => h) rfl hA (by decide) (by decide) rfl rfl (fun _ => hS) ?_; clear hA; intro a hA
          refine d_skip (i := 14) (L' := #[true, true, true, true, true, true, true, true, true, true, true, true, true, true, true, false, false, false, false, false, false, false, false, false, false]) rfl (by kernel_rfl) rfl (fun _ _ _ h => h) rfl hA (by decide) (by decide) rfl rfl (fun _ => hS) ?_; clear hA; intro a hA
          refine d_skip (i := 15) (L' := #[true, true, true, true, true, true, true, true, true, true, true, true, true, true, true, true, false, false, false, false, false, false, false, false, false]) rfl (by kernel_rfl) rfl (fun _ _ _ h => h) rfl hA (by decide) (by decide) rfl rfl (fun _ => hS) ?_; clear hA; intro a hA
          refine d_skip (i := 16) (L' := #[true, true, true, true, true, true, true, true, true, true, true, true, true, true, true, true, true, false, false, false, false, false, false, false, false]) rfl (by kernel_rfl) rfl (fun _ _ _ h => h) rfl hA (by decide) (by decide) rfl rfl (fun _ => hS) ?_; clear hA; intro a hA
          refine d_skip (i := 17) (L' := #[true, true, true, true, true, true, true, true, true, true, true, true, true, true, true, true, true, true, false, false, false, false, false, false, false]) rfl (by kernel_rfl) rfl (fun _ _ _ h => h) rfl hA (by decide) (by decide) rfl rfl (fun _ => hS) ?_; clear hA; intro a hA
          refine d_skip (i := 18) (L' := #[true, true, true, true, true, true, true, true, true, true, true, true, true, true, true, true, true, true, true, false, false, false, false, false, false]) rfl (by kernel_rfl) rfl (fun _ _ _ h => h) rfl hA (by decide) (by decide) rfl rfl (fun _ => hS) ?_; clear hA; intro a hA
          refine d_skip (i := 19) (L' := #[true, true, true, true, true, true, true, true, true, true, true, true, true, true, true, true, true, true, true, true, false, false, false, false, false]) rfl (by kernel_rfl) rfl (fun _ _ _ h => h) rfl hA (by decide) (by decide) rfl rfl (fun _ => hS) ?_; clear hA; intro a hA
          refine d_skip (i := 20) (L' := #[true, true, true, true, true, true, true, true, true, true, true, true, true, true, true, true, true, true, true, true, true, false, false, false, false]) rfl (by kernel_rfl) rfl (fun _ _ _ h => h) rfl hA (by decide) (by decide) rfl rfl (fun _ => hS) ?_; clear hA; intro a hA
          refine d_skip (i := 21) (L' := #[true, true, true, true, true, true, true, true, true, true, true, true, true, true, true, true, true, true, true, true, true, true, false, false, false]) rfl (by kernel_rfl) rfl (fun _ _ _ h => h) rfl hA (by decide) (by decide) rfl rfl (fun _ => hS) ?_; clear hA; intro a hA
          refine d_skip (i := 22) (L' := #[true, true, true, true, true, true, true, true, true, true, true, true, true, true, true, true, true, true, true, true, true, true, true, false, false]) rfl (by kernel_rfl) rfl (fun _ _ _ h => h) rfl hA (by decide) (by decide) rfl rfl (fun _ => hS) ?_; clear hA; intro a hA
          refine d_skip (i := 23) (L' := #[true, true, true, true, true, true, true, true, true, true, true, true, true, true, true, true, true, true, true, true, true, true, true, true, false]) rfl (by kernel_rfl) rfl (fun _ _ _ h => h) rfl hA (by decide) (by decide) rfl rfl (fun _ => hS) ?_; clear hA; intro a hA
          refine d_takef (i := 24) (L' := #[true, true, true, true, true, true, true, true, true, true, true, true, true, true, true, true, true, true, true, true, true, true, true, true, true]) rfl (by kernel_rfl) rfl (fun _ _ _ h => h) hA (by decide) (fun _ => hS) (fun a w' hA => run_pick (hA.ev rfl) (fun h => Bool.noConfusion h) (fun _ => hA.ev rfl)) ?_; clear hA; intro a hA
          refine d_done (by kernel_rfl) ?_
          exact ⟨false, Option.some.inj H322, hM, ((((hA.nil.cons (hA.get 30 _ rfl)).cons (hA.get 5 _ rfl)).cons (hA.get 1 _ rfl)).cons (hA.get 0 _ rfl))⟩
      · replace H322 := ite_f hb326 H322
        have hA := hA.re (t := 11) rfl (congrArg Value.bool hb326)
        refine d_skip (i := 6) (L' := #[true, true, true, true, true, true, true, false, false, false, false, false, false, false, false, false, false, false, false, false, false, false, false, false, false]) rfl (by kernel_rfl) rfl (fun _ _ _ h => h) rfl hA (by decide) (by decide) rfl rfl (fun _ => hS) ?_; clear hA; intro a hA
        refine d_skip (i := 7) (L' := #[true, true, true, true, true, true, true, true, false, false, false, false, false, false, false, false, false, false, false, false, false, false, false, false, false]) rfl (by kernel_rfl) rfl (fun _ _ _ h => h) rfl hA (by decide) (by decide) rfl rfl (fun _ => hS) ?_; clear hA; intro a hA
        refine d_skip (i := 8) (L' := #[true, true, true, true, true, true, true, true, true, false, false, false, false, false, false, false, false, false, false, false, false, false, false, false, false]) rfl (by kernel_rfl) rfl (fun _ _ _ h => h) rfl hA (by decide) (by decide) rfl rfl (fun _ => hS) ?_; clear hA; intro a hA
        refine d_skip (i := 9) (L' := #[true, true, true, true, true, true, true, true, true, true, false, false, false, false, false, false, false, false, false, false, false, false, false, false, false]) rfl (by kernel_rfl) rfl (fun _ _ _ h => h) rfl hA (by decide) (by decide) rfl rfl (fun _ => hS) ?_; clear hA; intro a hA
        refine d_skip (i := 10) (L' := #[true, true, true, true, true, true, true, true, true, true, true, false, false, false, false, false, false, false, false, false, false, false, false, false, false]) rfl (by kernel_rfl) rfl (fun _ _ _ h => h) rfl hA (by decide) (by decide) rfl rfl (fun _ => hS) ?_; clear hA; intro a hA
        refine d_takef (i := 11) (L' := #[true, true, true, true, true, true, true, true, true, true, true, true, false, false, false, false, false, false, false, false, false, false, false, false, false]) rfl (by kernel_rfl) rfl (fun _ _ _ h => h) hA (by decide) (fun _ => hS) (fun a w' hA => run_pick (hA.ev rfl) (fun h => Bool.noConfusion h) (fun _ => hA.ev rfl)) ?_; clear hA; intro a hA
        refine d_takef (i := 12) (L' := #[true, true, true, true, true, true, true, true, true, true, true, true, true, false, false, false, false, false, false, false, false, false, false, false, false]) rfl (by kernel_rfl) rfl (fun _ _ _ h => h) hA (by decide) (fun _ => hS) (fun a w' hA => run_move (hA.ev rfl)) ?_; clear hA; intro a hA
        refine d_skip (i := 13) (L' := #[true, true, true, true, true, true, true, true, true, true, true, true, true, true, false, false, false, false, false, false, false, false, false, false, false]) rfl (by kernel_rfl) rfl (fun _ _ _ h => h) rfl hA (by decide) (by decide) rfl rfl (fun _ => hS) ?_; clear hA; intro a hA
        refine d_skip (i := 14) (L' := #[true, true, true, true, true, true, true, true, true, true, true, true, true, true, true, false, false, false, false, false, false, false, false, false, false]) rfl (by kernel_rfl) rfl (fun _ _ _ h => h) rfl hA (by decide) (by decide) rfl rfl (fun _ => hS) ?_; clear hA; intro a hA
        refine d_skip (i := 15) (L' := #[true, true, true, true, true, true, true, true, true, true, true, true, true, true, true, true, false, false, false, false, false, false, false, false, false]) rfl (by kernel_rfl) rfl (fun _ _ _ h => h) rfl hA (by decide) (by decide) rfl rfl (fun _ => hS) ?_; clear hA; intro a hA
        refine d_skip (i := 16) (L' := #[true, true, true, true, true, true, true, true, true, true, true, true, true, true, true, true, true, false, false, false, false, false, false, false, false]) rfl (by kernel_rfl) rfl (fun _ _ _ h => h) rfl hA (by decide) (by decide) rfl rfl (fun _ => hS) ?_; clear hA; intro a hA
        refine d_skip (i := 17) (L' := #[true, true, true, true, true, true, true, true, true, true, true, true, true, true, true, true, true, true, false, false, false, false, false, false, false]) rfl (by kernel_rfl) rfl (fun _ _ _ h => h) rfl hA (by decide) (by decide) rfl rfl (fun _ => hS) ?_; clear hA; intro a hA
        refine d_skip (i := 18) (L' := #[true, true, true, true, true, true, true, true, true, true, true, true, true, true, true, true, true, true, true, false, false, false, false, false, false]) rfl (by kernel_rfl) rfl (fun _ _ _ h => h) rfl hA (by decide) (by decide) rfl rfl (fun _ => hS) ?_; clear hA; intro a hA
        refine d_skip (i := 19) (L' := #[true, true, true, true, true, true, true, true, true, true, true, true, true, true, true, true, true, true, true, true, false, false, false, false, false]) rfl (by kernel_rfl) rfl (fun _ _ _ h => h) rfl hA (by decide) (by decide) rfl rfl (fun _ => hS) ?_; clear hA; intro a hA
        refine d_skip (i := 20) (L' := #[true, true, true, true, true, true, true, true, true, true, true, true, true, true, true, true, true, true, true, true, true, false, false, false, false]) rfl (by kernel_rfl) rfl (fun _ _ _ h => h) rfl hA (by decide) (by decide) rfl rfl (fun _ => hS) ?_; clear hA; intro a hA
        refine d_skip (i := 21) (L' := #[true, true, true, true, true, true, true, true, true, true, true, true, true, true, true, true, true, true, true, true, true, true, false, false, false]) rfl (by kernel_rfl) rfl (fun _ _ _ h => h) rfl hA (by decide) (by decide) rfl rfl (fun _ => hS) ?_; clear hA; intro a hA
        refine d_skip (i := 22) (L' := #[true, true, true, true, true, true, true, true, true, true, true, true, true, true, true, true, true, true, true, true, true, true, true, false, false]) rfl (by kernel_rfl) rfl (fun _ _ _ h => h) rfl hA (by decide) (by decide) rfl rfl (fun _ => hS) ?_; clear hA; intro a hA
        refine d_skip (i := 23) (L' := #[true, true, true, true, true, true, true, true, true, true, true, true, true, true, true, true, true, true, true, true, true, true, true, true, false]) rfl (by kernel_rfl) rfl (fun _ _ _ h => h) rfl hA (by decide) (by decide) rfl rfl (fun _ => hS) ?_; clear hA; intro a hA
        refine d_takef (i := 24) (L' := #[true, true, true, true, true, true, true, true, true, true, true, true, true, true, true, true, true, true, true, true, true, true, true, true, true]) rfl (by kernel_rfl) rfl (fun _ _ _ h => h) hA (by decide) (fun _ => hS) (fun a w' hA => run_pick (hA.ev rfl) (fun h => Bool.noConfusion h) (fun _ => hA.ev rfl)) ?_; clear hA; intro a hA
        refine d_done (by kernel_rfl) ?_
        exact ⟨false, Option.some.inj H322, hM, ((((hA.nil.cons (hA.get 30 _ rfl)).cons (hA.get 5 _ rfl)).cons (hA.get 1 _ rfl)).cons (hA.get 0 _ rfl))⟩
    clear hM hA
    rintro a w338 ⟨t321, rfl, hM, hA⟩
    try dsimp only at H299
    refine TN ?_
    refine tcond (b := t321) hA rfl (fun hb339 => ?_) (fun hb339 => ?_)
    · replace H299 := ite_t hb339 H299
      refine wp_skip ?_
      refine TN ?_
      refine wp_block ?_
      refine wp_region_lit ?_
      refine L1 (stv hA (by decide) (run_move (hA.ev rfl)) ?_)
      clear hA; intro a hA
      refine L1 (stv hA (by decide) (run_bin (hA.ev rfl) (hA.ev rfl) (bin_add _ _ _ _)) ?_)
      clear hA; intro a hA
      refine L1 (stv hA (by decide) (run_assign (hA.ev rfl)) ?_)
      clear hA; intro a hA
      refine LQ ?_
      refine BN ?_
      exact ⟨_, Nat.lt_succ_self m301, IntKind.i64.wrap (h296 + 1), H299, hM, (((hA.nil.cons (hA.get 5 _ rfl)).cons (hA.get 1 _ rfl)).cons (hA.get 0 _ rfl))⟩
    · replace H299 := ite_f hb339 H299
      refine wp_exit ?_
      refine TX ?_
      refine TX ?_
      refine BX ?_
      exact ⟨h296, Option.some.inj H299, hM, (hA.nil.cons (hA.get 5 _ rfl))⟩
  clear hM hA
  rintro a w340 ⟨h298, rfl, hM, hA⟩
  try dsimp only at H
  refine TN ?_
  refine wp_seq ?_
  refine wp_region_lit ?_
  refine L1 (stv hA (by decide) (run_move (hA.ev rfl)) ?_)
  clear hA; intro a hA
  refine L1 (stv hA (by decide) (run_assign (hA.ev rfl)) ?_)
  clear hA; intro a hA
  refine LQ ?_
  refine TN ?_
  refine wp_ret ?_
  obtain rfl := Option.some.inj H
  exact ret_post1 (fn := Try.f29) hA rfl rfl ⟨_, rfl, rfl, hM⟩

def branch_Fork.f (k : Nat) (t_0 : Tree) (a_1 : Int) (b_2 : Int) : Option Int := ((branch_has.f k (Tree.mk t_0.Nodes t_0.Best) [a_1, b_2]).bind fun r39 => (if (!r39) = true then (some (-1)) else ((branch_chain.f k (Tree.mk t_0.Nodes t_0.Best) a_1).bind fun r43 => ((branch_chain.f k (Tree.mk t_0.Nodes t_0.Best) b_2).bind fun r50 => ((branch_common.f k r43 r50).bind fun r57 => (if 0 ≤ r57 ∧ r57 < ((r43.length : Nat) : Int) then (some (r43.getD r57.toNat (0 : Int))) else none))))))
set_option maxRecDepth 100000 in
theorem branch_Fork.calls (k : Nat) (t_0 : Tree) (a_1 : Int) (b_2 : Int) (F : List (Option Nat)) (v0_0 : Value) (r : Int) (w0 : World) (h0_0 : RoV F pNode w0 v0_0 t_0.Nodes) (hM : Mem F w0 w0 []) (H : branch_Fork.f k t_0 a_1 b_2 = some r) :
    Calls Try.prog 16 #[(.agg #[v0_0, (.int .i64 t_0.Best)]), (.int .i64 a_1), (.int .i64 b_2)] w0 fun e w' => ∃ v, e = .returned v ∧ v = (.int .i64 r) ∧ Mem F w0 w' [] := by
  unfold branch_Fork.f at H
  obtain ⟨A0_0, c0_0, rfl, hr0_0, hc0_0⟩ := h0_0
  refine enterL (n := 25) [(.agg #[(.slice A0_0 t_0.Nodes.length c0_0), (.int .i64 t_0.Best)]), (.int .i64 a_1), (.int .i64 b_2)] Try.func16 rfl rfl rfl ?_
  intro a hA
  refine wp_seq ?_
  refine wp_region_lit ?_
  refine L1 (e_box (cs := [(.slice A0_0 t_0.Nodes.length c0_0), (.int .i64 t_0.Best)]) hM hA rfl rfl (by decide) ?_)
  clear hM hA; intro w34 g33 hM hE a hA
  refine L1 (stv hA (by decide) (run_assign (hA.ev rfl)) ?_)
  clear hA; intro a hA
  refine LQ ?_
  refine TN ?_
  refine wp_seq ?_
  refine wp_seq ?_
  refine wp_region_lit ?_
  refine L1 (stv hA (by decide) (run_ld (hA.ev rfl) (run_loadW Try.isAgg24 Try.sizeOf24 (by simp [Pl.len]; try rfl) (hM.box .z))) ?_)
  clear hA; intro a hA
  refine L1 (stv hA (by decide) (run_move (hA.ev rfl)) ?_)
  clear hA; intro a hA
  refine L1 (stv hA (by decide) (run_move (hA.ev rfl)) ?_)
  clear hA; intro a hA
  refine L1 (e_litN [a_1, b_2] [(.int .i64 a_1), (.int .i64 b_2)] elt31 hM rfl (by decide) hA rfl rfl (List.cons_ne_nil _ _) (by decide) ?_)
  clear hM hA; intro w37 g36 hM hE a hA
  obtain ⟨r39, H40, H⟩ := Option.bind_eq_some_iff.1 H
  refine L1 (st_call Try.call27 hA [(.agg #[(.slice A0_0 t_0.Nodes.length c0_0), (.int .i64 t_0.Best)]), (.slice (some ⟨g36, 0, none⟩) 2 2)] rfl (by decide) (branch_has.calls _ _ _ _ _ _ _ _ ((RoV.mk (hM.roC (Ms := []) hr0_0) (Eq.refl t_0.Nodes.length) hc0_0)) ((RoV.mk (hM.rowC (p := (Pl.int .i64)) (Ms := []) .z) (RowOk.len (hM.row (p := (Pl.int .i64)) .z)) (RowOk.cap (hM.row (p := (Pl.int .i64)) .z)))) (hM.front (Ms := [])) H40) ?_)
  clear hA; rintro _ w41 ⟨rfl, hMc⟩ a hA
  have hE := hMc.below; have hM := hM.call (Ms := []) hMc
  clear hMc; simp only [List.cons_append, List.nil_append] at hM
  refine L1 (stv hA (by decide) (run_not (hA.ev rfl)) ?_)
  clear hA; intro a hA
  refine LQ ?_
  refine TN ?_
  refine tcond (b := (!r39)) hA rfl (fun hb42 => ?_) (fun hb42 => ?_)
  · replace H := ite_t hb42 H
    refine wp_seq ?_
    refine wp_region_lit ?_
    refine L1 (stv hA (by decide) (run_assign (hA.ev rfl)) ?_)
    clear hA; intro a hA
    refine LQ ?_
    refine TN ?_
    refine wp_ret ?_
    obtain rfl := Option.some.inj H
    refine TR ?_
    exact ret_post1 (fn := Try.f16) hA rfl rfl ⟨_, rfl, rfl, (hM.sel [] rfl (by decide))⟩
  · replace H := ite_f hb42 H
    refine wp_skip ?_
    refine TN ?_
    refine wp_seq ?_
    refine wp_region_lit ?_
    refine L1 (stv hA (by decide) (run_ld (hA.ev rfl) (run_loadW Try.isAgg24 Try.sizeOf24 (by simp [Pl.len]; try rfl) (hM.box (.s .z)))) ?_)
    clear hA; intro a hA
    refine L1 (stv hA (by decide) (run_move (hA.ev rfl)) ?_)
    clear hA; intro a hA
    obtain ⟨r43, H44, H⟩ := Option.bind_eq_some_iff.1 H
    refine L1 (st_call Try.call24 hA [(.agg #[(.slice A0_0 t_0.Nodes.length c0_0), (.int .i64 t_0.Best)]), (.int .i64 a_1)] rfl (by decide) (branch_chain.calls _ _ _ _ _ _ _ ((RoV.mk (hM.roC (Ms := []) hr0_0) (Eq.refl t_0.Nodes.length) hc0_0)) (hM.front (Ms := [])) H44) ?_)
    clear hA; rintro _ w45 ⟨v46, rfl, hMc⟩ a hA
    have hE := hMc.below; have hM := hM.call (Ms := []) hMc
    clear hMc; simp only [List.cons_append, List.nil_append] at hM
    obtain ⟨A48, c49, rfl⟩ := RowOk.form (hM.row (p := (Pl.int .i64)) .z)
    refine L1 (stv hA (by decide) (run_assign (hA.ev rfl)) ?_)
    clear hA; intro a hA
    refine LQ ?_
    refine TN ?_
    refine wp_seq ?_
    refine wp_region_lit ?_
    refine L1 (stv hA (by decide) (run_move (hA.ev rfl)) ?_)
    clear hA; intro a hA
    refine L1 (stv hA (by decide) (run_move (hA.ev rfl)) ?_)
    clear hA; intro a hA
    refine L1 (stv hA (by decide) (run_ld (hA.ev rfl) (run_loadW Try.isAgg24 Try.sizeOf24 (by simp [Pl.len]; try rfl) (hM.box (.s (.s .z))))) ?_)
    clear hA; intro a hA
    refine L1 (stv hA (by decide) (run_move (hA.ev rfl)) ?_)
    clear hA; intro a hA
    obtain ⟨r50, H51, H⟩ := Option.bind_eq_some_iff.1 H
    refine L1 (st_call Try.call24 hA [(.agg #[(.slice A0_0 t_0.Nodes.length c0_0), (.int .i64 t_0.Best)]), (.int .i64 b_2)] rfl (by decide) (branch_chain.calls _ _ _ _ _ _ _ ((RoV.mk (hM.roC (Ms := []) hr0_0) (Eq.refl t_0.Nodes.length) hc0_0)) (hM.front (Ms := [])) H51) ?_)
    clear hA; rintro _ w52 ⟨v53, rfl, hMc⟩ a hA
    have hE := hMc.below; have hM := hM.call (Ms := []) hMc
    clear hMc; simp only [List.cons_append, List.nil_append] at hM
    obtain ⟨A55, c56, rfl⟩ := RowOk.form (hM.row (p := (Pl.int .i64)) .z)
    obtain ⟨r57, H58, H⟩ := Option.bind_eq_some_iff.1 H
    refine L1 (st_call Try.call29 hA [(.slice A48 r43.length c49), (.slice A55 r50.length c56)] rfl (by decide) (branch_common.calls _ _ _ _ _ _ _ _ ((RoV.mk (hM.rowC (p := (Pl.int .i64)) (Ms := []) (.s .z)) (RowOk.len (hM.row (p := (Pl.int .i64)) (.s .z))) (RowOk.cap (hM.row (p := (Pl.int .i64)) (.s .z))))) ((RoV.mk (hM.rowC (p := (Pl.int .i64)) (Ms := []) .z) (RowOk.len (hM.row (p := (Pl.int .i64)) .z)) (RowOk.cap (hM.row (p := (Pl.int .i64)) .z)))) (hM.front (Ms := [])) H58) ?_)
    clear hA; rintro _ w59 ⟨rfl, hMc⟩ a hA
    have hE := hMc.below; have hM := hM.call (Ms := []) hMc
    clear hMc; simp only [List.cons_append, List.nil_append] at hM
    obtain ⟨⟨hi60, hj61⟩, H⟩ := ite_some H
    obtain ⟨ad62, hq63, hat64⟩ := Row.elem' (p := (Pl.int .i64)) (RowOk.row (hM.row (p := (Pl.int .i64)) (.s .z))) (RowOk.len (hM.row (p := (Pl.int .i64)) (.s .z))) (0 : Int) r57 hi60 hj61
    refine L1 (stv hA (by decide) (run_idx Try.underlying31 Try.sizeOf3 (hA.ev rfl) hq63 (hA.ev rfl) hi60 hj61) ?_)
    clear hA; intro a hA
    refine L1 (stv hA (by decide) (run_ld (hA.ev rfl) (run_loadS Try.isAgg3 hat64)) ?_)
    clear hA; intro a hA
    refine L1 (stv hA (by decide) (run_assign (hA.ev rfl)) ?_)
    clear hA; intro a hA
    refine LQ ?_
    refine TN ?_
    refine wp_ret ?_
    obtain rfl := Option.some.inj H
    exact ret_post1 (fn := Try.f16) hA rfl rfl ⟨_, rfl, rfl, (hM.sel [] rfl (by decide))⟩

def branch_Locator.l0 (t_0 : Tree) (r523 : (List Int)) : Nat → (List (Vector Int 32)) → Int → Int → Int → Option ((List (Vector Int 32)) × Int)
  | 0, _, _, _, _ => none
  | k + 1, xs868, last871, h873, step875 => (if (decide (h873 ≥ 0)) = true then (Option.bind (α := (List (Vector Int 32))) (if 0 ≤ h873 ∧ h873 < ((r523.length : Nat) : Int) then (if 0 ≤ (r523.getD h873.toNat (0 : Int)) ∧ (r523.getD h873.toNat (0 : Int)) < ((t_0.Nodes.length : Nat) : Int) then (if (xs868.length + 1) * 32 ≤ 140737488355328 then (some (xs868 ++ [(t_0.Nodes.getD (r523.getD h873.toNat (0 : Int)).toNat Node.z).Hash])) else none) else none) else none) (fun xs933 => (Option.bind (α := Int) (if (decide (((xs933.length : Nat) : Int) ≥ 10)) = true then (some (IntKind.i64.wrap (step875 * 2))) else (some step875)) (fun step984 => (branch_Locator.l0 t_0 r523 k xs933 h873 (IntKind.i64.wrap (h873 - step984)) step984))))) else (some (xs868, last871)))
def branch_Locator.f (k : Nat) (t_0 : Tree) (n_1 : Int) : Option (List (Vector Int 32)) := ((branch_has.f k (Tree.mk t_0.Nodes t_0.Best) [n_1]).bind fun r518 => (if (!r518) = true then (some ([] : List (Vector Int 32))) else ((branch_chain.f k (Tree.mk t_0.Nodes t_0.Best) n_1).bind fun r523 => (Option.bind (α := (List (Vector Int 32)) × Int) (branch_Locator.l0 t_0 r523 k ([] : List (Vector Int 32)) ((r523.length : Nat) : Int) (IntKind.i64.wrap (((r523.length : Nat) : Int) - 1)) 1) (fun st => match st with | (xs882, last884) => (Option.bind (α := (List (Vector Int 32))) (if (decide (last884 > 0)) = true then (if 0 ≤ (0 : Int) ∧ (0 : Int) < ((t_0.Nodes.length : Nat) : Int) then (if (xs882.length + 1) * 32 ≤ 140737488355328 then (some (xs882 ++ [(t_0.Nodes.getD (0 : Int).toNat Node.z).Hash])) else none) else none) else (some xs882)) (fun xs1007 => (some xs1007))))))))
set_option maxRecDepth 100000 in
theorem branch_Locator.calls (k : Nat) (t_0 : Tree) (n_1 : Int) (F : List (Option Nat)) (v0_0 : Value) (r : (List (Vector Int 32))) (w0 : World) (h0_0 : RoV F pNode w0 v0_0 t_0.Nodes) (hM : Mem F w0 w0 []) (H : branch_Locator.f k t_0 n_1 = some r) :
    Calls Try.prog 18 #[(.agg #[v0_0, (.int .i64 t_0.Best)]), (.int .i64 n_1)] w0 fun e w' => ∃ v, e = .returned v ∧ ∃ (ur_0 : Value), v = ur_0 ∧ Mem F w0 w' [.row 38 pHash.sz ur_0 (pHash.flat r)] := by
  unfold branch_Locator.f at H
  obtain ⟨A0_0, c0_0, rfl, hr0_0, hc0_0⟩ := h0_0
  refine enterL (n := 57) [(.agg #[(.slice A0_0 t_0.Nodes.length c0_0), (.int .i64 t_0.Best)]), (.int .i64 n_1)] Try.func18 rfl rfl rfl ?_
  intro a hA
  refine wp_seq ?_
  refine wp_region_lit ?_
  refine L1 (e_box (cs := [(.slice A0_0 t_0.Nodes.length c0_0), (.int .i64 t_0.Best)]) hM hA rfl rfl (by decide) ?_)
  clear hM hA; intro w513 g512 hM hE a hA
  refine L1 (stv hA (by decide) (run_assign (hA.ev rfl)) ?_)
  clear hA; intro a hA
  refine LQ ?_
  refine TN ?_
  refine wp_seq ?_
  refine wp_seq ?_
  refine wp_region_lit ?_
  refine L1 (stv hA (by decide) (run_ld (hA.ev rfl) (run_loadW Try.isAgg24 Try.sizeOf24 (by simp [Pl.len]; try rfl) (hM.box .z))) ?_)
  clear hA; intro a hA
  refine L1 (stv hA (by decide) (run_move (hA.ev rfl)) ?_)
  clear hA; intro a hA
  refine L1 (e_litN [n_1] [(.int .i64 n_1)] elt31 hM rfl (by decide) hA rfl rfl (List.cons_ne_nil _ _) (by decide) ?_)
  clear hM hA; intro w516 g515 hM hE a hA
  obtain ⟨r518, H519, H⟩ := Option.bind_eq_some_iff.1 H
  refine L1 (st_call Try.call27 hA [(.agg #[(.slice A0_0 t_0.Nodes.length c0_0), (.int .i64 t_0.Best)]), (.slice (some ⟨g515, 0, none⟩) 1 1)] rfl (by decide) (branch_has.calls _ _ _ _ _ _ _ _ ((RoV.mk (hM.roC (Ms := []) hr0_0) (Eq.refl t_0.Nodes.length) hc0_0)) ((RoV.mk (hM.rowC (p := (Pl.int .i64)) (Ms := []) .z) (RowOk.len (hM.row (p := (Pl.int .i64)) .z)) (RowOk.cap (hM.row (p := (Pl.int .i64)) .z)))) (hM.front (Ms := [])) H519) ?_)
  clear hA; rintro _ w520 ⟨rfl, hMc⟩ a hA
  have hE := hMc.below; have hM := hM.call (Ms := []) hMc
  clear hMc; simp only [List.cons_append, List.nil_append] at hM
  refine L1 (stv hA (by decide) (run_not (hA.ev rfl)) ?_)
  clear hA; intro a hA
  refine LQ ?_
  refine TN ?_
  refine tcond (b := (!r518)) hA rfl (fun hb521 => ?_) (fun hb521 => ?_)
  · replace H := ite_t hb521 H
    refine wp_seq ?_
    refine wp_region_lit ?_
    refine L1 (stv hA (by decide) (run_assign (hA.ev rfl)) ?_)
    clear hA; intro a hA
    refine LQ ?_
    refine TN ?_
    refine wp_ret ?_
    have hM := hM.addnil 38 (pHash).sz
    obtain rfl := Option.some.inj H
    refine TR ?_
    exact ret_post1 (fn := Try.f18) hA rfl rfl ⟨_, rfl, (.slice none 0 0), rfl, (hM.sel [0] rfl (by decide))⟩
  · replace H := ite_f hb521 H
    refine wp_skip ?_
    refine TN ?_
    refine wp_seq ?_
    refine wp_region_lit ?_
    refine L1 (stv hA (by decide) (run_assign (hA.ev rfl)) ?_)
    clear hA; intro a hA
    refine LQ ?_
    refine TN ?_
    refine wp_seq ?_
    refine wp_region_lit ?_
    refine L1 (stv hA (by decide) (run_ld (hA.ev rfl) (run_loadW Try.isAgg24 Try.sizeOf24 (by simp [Pl.len]; try rfl) (hM.box (.s .z)))) ?_)
    clear hA; intro a hA
    refine L1 (stv hA (by decide) (run_move (hA.ev rfl)) ?_)
    clear hA; intro a hA
    obtain ⟨r523, H524, H⟩ := Option.bind_eq_some_iff.1 H
    refine L1 (st_call Try.call24 hA [(.agg #[(.slice A0_0 t_0.Nodes.length c0_0), (.int .i64 t_0.Best)]), (.int .i64 n_1)] rfl (by decide) (branch_chain.calls _ _ _ _ _ _ _ ((RoV.mk (hM.roC (Ms := []) hr0_0) (Eq.refl t_0.Nodes.length) hc0_0)) (hM.front (Ms := [])) H524) ?_)
    clear hA; rintro _ w525 ⟨v526, rfl, hMc⟩ a hA
    have hE := hMc.below; have hM := hM.call (Ms := []) hMc
    clear hMc; simp only [List.cons_append, List.nil_append] at hM
    obtain ⟨A528, c529, rfl⟩ := RowOk.form (hM.row (p := (Pl.int .i64)) .z)
    refine L1 (stv hA (by decide) (run_assign (hA.ev rfl)) ?_)
    clear hA; intro a hA
    refine LQ ?_
    refine TN ?_
    refine wp_seq ?_
    refine wp_region_lit ?_
    refine L1 (stv hA (by decide) (run_move (hA.ev rfl)) ?_)
    clear hA; intro a hA
    refine L1 (stv hA (by decide) (run_len_slice Try.underlying31 (hA.ev rfl)) ?_)
    clear hA; intro a hA
    refine L1 (stv hA (by decide) (run_assign (hA.ev rfl)) ?_)
    clear hA; intro a hA
    refine LQ ?_
    refine TN ?_
    refine wp_seq ?_
    refine wp_seq ?_
    refine wp_region_lit ?_
    refine L1 (stv hA (by decide) (run_move (hA.ev rfl)) ?_)
    clear hA; intro a hA
    refine L1 (stv hA (by decide) (run_len_slice Try.underlying31 (hA.ev rfl)) ?_)
    clear hA; intro a hA
    refine L1 (stv hA (by decide) (run_bin (hA.ev rfl) (hA.ev rfl) (bin_sub _ _ _ _)) ?_)
    clear hA; intro a hA
    refine L1 (stv hA (by decide) (run_assign (hA.ev rfl)) ?_)
    clear hA; intro a hA
    refine L1 (stv hA (by decide) (run_assign (hA.ev rfl)) ?_)
    clear hA; intro a hA
    refine LQ ?_
    refine TN ?_
    obtain ⟨o886, H885, H⟩ := Option.bind_eq_some_iff.1 H
    refine cutC (fun a w => ∃ (xs882 : (List (Vector Int 32))) (last884 : Int) (v879 : Value), (xs882, last884) = o886 ∧ Mem F w0 w [.box g512 24 [(.slice A0_0 t_0.Nodes.length c0_0), (.int .i64 t_0.Best)], .row 38 pHash.sz v879 (pHash.flat xs882)] ∧ Has 57 [(2, (.pointer (some (⟨g512, 0, none⟩)))), (5, v879), (7, (.int .i64 last884))] a) ?_ ?_
    · refine wp_block ?_
      have hM := hM.addnil 38 (pHash).sz
      refine wp_loop_ghost (fun m a w => ∃ (xs868 : (List (Vector Int 32))) (last871 : Int) (h873 : Int) (step875 : Int) (v865 : Value), branch_Locator.l0 t_0 r523 m xs868 last871 h873 step875 = some o886 ∧ Mem F w0 w [.box g512 24 [(.slice A0_0 t_0.Nodes.length c0_0), (.int .i64 t_0.Best)], .row 38 pHash.sz v865 (pHash.flat xs868), .row 3 (Pl.int .i64).sz (.slice A528 r523.length c529) ((Pl.int .i64).flat r523)] ∧ Has 57 [(2, (.pointer (some (⟨g512, 0, none⟩)))), (5, v865), (6, (.slice A528 r523.length c529)), (7, (.int .i64 last871)), (8, (.int .i64 h873)), (9, (.int .i64 step875))] a) k ⟨([] : List (Vector Int 32)), ((r523.length : Nat) : Int), IntKind.i64.wrap (((r523.length : Nat) : Int) - 1), 1, (.slice none 0 0), H885, (hM.sel [3, 0, 1] rfl (by decide)), ((((((hA.nil.cons (hA.get 9 _ rfl)).cons (hA.get 8 _ rfl)).cons (hA.get 7 _ rfl)).cons (hA.get 6 _ rfl)).cons (hA.get 5 _ rfl)).cons (hA.get 2 _ rfl))⟩ ?_
      clear hM hA; rintro m888 a w889 ⟨xs868, last871, h873, step875, v865, H885, hM, hA⟩
      cases m888 with
      | zero => exact absurd H885 (by simp [branch_Locator.l0])
      | succ m888 =>
      rw [branch_Locator.l0] at H885
      obtain ⟨A866, c867, rfl⟩ := RowOk.form (hM.row (p := pHash) (.s .z))
      refine wp_seq ?_
      refine wp_seq ?_
      refine wp_region_lit ?_
      refine L1 (stv hA (by decide) (run_move (hA.ev rfl)) ?_)
      clear hA; intro a hA
      refine L1 (stv hA (by decide) (run_bin (hA.ev rfl) (hA.ev rfl) (bin_geq _ _ _ _)) ?_)
      clear hA; intro a hA
      refine LQ ?_
      refine TN ?_
      refine tcond (b := (decide (h873 ≥ 0))) hA rfl (fun hb890 => ?_) (fun hb890 => ?_)
      · replace H885 := ite_t hb890 H885
        refine wp_skip ?_
        refine TN ?_
        refine wp_seq ?_
        refine wp_block ?_
        refine wp_seq ?_
        obtain ⟨o938, H937, H885⟩ := Option.bind_eq_some_iff.1 H885
        refine cutC (fun a w => ∃ (xs933 : (List (Vector Int 32))) (v930 : Value), xs933 = o938 ∧ Mem F w0 w [.box g512 24 [(.slice A0_0 t_0.Nodes.length c0_0), (.int .i64 t_0.Best)], .row 38 pHash.sz v930 (pHash.flat xs933), .row 3 (Pl.int .i64).sz (.slice A528 r523.length c529) ((Pl.int .i64).flat r523)] ∧ Has 57 [(2, (.pointer (some (⟨g512, 0, none⟩)))), (5, v930), (6, (.slice A528 r523.length c529)), (8, (.int .i64 h873)), (9, (.int .i64 step875))] a) ?_ ?_
        · obtain ⟨⟨hi940, hj941⟩, H937⟩ := ite_some H937
          obtain ⟨⟨hi945, hj946⟩, H937⟩ := ite_some H937
          obtain ⟨hl954, H937⟩ := ite_some H937
          refine draw (fun w' => Below w889.heap.size w889 w') [11] rfl ?_
          intro w956 hw hS; replace hM := hM.ext hS; clear hw
          refine d_takef (i := 0) (L' := #[true, false, false, false, false, false, false, false, false, false, false, false, false]) rfl (by kernel_rfl) rfl (fun _ _ _ h => h) hA (by decide) (fun _ => hS) (fun a w' hA => run_move (hA.ev rfl)) ?_; clear hA; intro a hA
          refine d_takef (i := 1) (L' := #[true, true, false, false, false, false, false, false, false, false, false, false, false]) rfl (by kernel_rfl) rfl (fun _ _ _ h => h) hA (by decide) (fun _ => hS) (fun a w' hA => run_field' Try.underlying24 rfl rfl Try.sizeOf22 (by decide) (hA.ev rfl)) ?_; clear hA; intro a hA
          refine d_takef (i := 3) (L' := #[true, true, false, true, false, false, false, false, false, false, false, false, false]) rfl (by kernel_rfl) rfl (fun _ _ _ h => h) hA (by decide) (fun _ => hS) (fun a w' hA => run_move (hA.ev rfl)) ?_; clear hA; intro a hA
          refine d_takef (i := 4) (L' := #[true, true, false, true, true, false, false, false, false, false, false, false, false]) rfl (by kernel_rfl) rfl (fun _ _ _ h => h) hA (by decide) (fun _ => hS) (fun a w' hA => run_move (hA.ev rfl)) ?_; clear hA; intro a hA
          obtain ⟨ad957, hq958, hat959⟩ := Row.elem' (p := (Pl.int .i64)) (RowOk.row (hM.row (p := (Pl.int .i64)) (.s (.s .z)))) (RowOk.len (hM.row (p := (Pl.int .i64)) (.s (.s .z)))) (0 : Int) h873 hi940 hj941
          refine d_takef (i := 5) (L' := #[true, true, false, true, true, true, false, false, false, false, false, false, false]) rfl (by kernel_rfl) rfl (fun _ _ _ h => h) hA (by decide) (fun _ => hS) (fun a w' hA => run_idx Try.underlying31 Try.sizeOf3 (hA.ev rfl) hq958 (hA.ev rfl) hi940 hj941) ?_; clear hA; intro a hA
          refine d_many (is := [2, 6]) (by kernel_rfl) (by decide) ⟨?_, ?_, trivial⟩
          · refine d_op (i := 2) (L' := #[true, true, true, true, true, true, false, false, false, false, false, false, false]) rfl rfl (stv hA (by decide) (run_ld (hA.ev rfl) (run_loadS Try.isAgg22 (At.seg1 (hM.box .z) 0 rfl))) ?_)
            clear hA; intro a hA
            refine ⟨fun _ => hS, ?_⟩
            refine d_one (i := 6) (L' := #[true, true, true, true, true, true, true, false, false, false, false, false, false]) (by kernel_rfl) rfl rfl (stv hA (by decide) (run_ld (hA.ev rfl) (run_loadS Try.isAgg3 hat959)) ?_)
            clear hA; intro a hA
            refine ⟨fun _ => hS, ?_⟩
            obtain ⟨ad960, hq961, hat962⟩ := Row.elem' (p := pNode) (hM.ro hr0_0) (Eq.refl t_0.Nodes.length) Node.z (r523.getD h873.toNat (0 : Int)) hi945 hj946
            refine d_takef (i := 7) (L' := #[true, true, true, true, true, true, true, true, false, false, false, false, false]) rfl (by kernel_rfl) rfl (fun _ _ _ h => h) hA (by decide) (fun _ => hS) (fun a w' hA => run_idx Try.underlying22 Try.sizeOf46 (hA.ev rfl) hq961 (hA.ev rfl) hi945 hj946) ?_; clear hA; intro a hA
            refine d_takef (i := 8) (L' := #[true, true, true, true, true, true, true, true, true, false, false, false, false]) rfl (by kernel_rfl) rfl (fun _ _ _ h => h) hA (by decide) (fun _ => hS) (fun a w' hA => run_field' Try.underlying46 rfl rfl Try.sizeOf38 (by decide) (hA.ev rfl)) ?_; clear hA; intro a hA
            refine d_one (i := 9) (L' := #[true, true, true, true, true, true, true, true, true, true, false, false, false]) (by kernel_rfl) rfl rfl (stv hA (by decide) (run_ld (hA.ev rfl) (run_loadP Try.isAgg38 Try.sizeOf38 (Node.at_Hash (hat962)))) ?_)
            clear hA; intro a hA
            refine ⟨fun _ => hS, ?_⟩
            refine d_one (i := 10) (L' := #[true, true, true, true, true, true, true, true, true, true, true, false, false]) (by kernel_rfl) rfl rfl (e_litN [(t_0.Nodes.getD (r523.getD h873.toNat (0 : Int)).toNat Node.z).Hash] [(.agg (pHash.enc ((t_0.Nodes.getD (r523.getD h873.toNat (0 : Int)).toNat Node.z).Hash)).toArray)] elt35 hM rfl (by decide) hA rfl rfl (List.cons_ne_nil _ _) (by decide) ?_)
            clear hM hA; intro w964 g963 hM hE a hA
            replace hS := hS.trans (hE.mono hS.size)
            refine ⟨fun _ => hS, ?_⟩
            refine d_one (i := 11) (L' := #[true, true, true, true, true, true, true, true, true, true, true, true, false]) (by kernel_rfl) rfl rfl (e_append elt35 hM (fun _ => (.s (.s .z))) (Src.row Try.underlying35 (RowOk.row (hM.row (p := pHash) .z)) (RowOk.len (hM.row (p := pHash) .z))) hl954 hA rfl rfl (by decide) ?_)
            clear hM hA; intro w967 A965 c966 hM hE a hA
            refine ⟨fun h => absurd h (by decide), ?_⟩
            refine d_takef (i := 12) (L' := #[true, true, true, true, true, true, true, true, true, true, true, true, true]) rfl (by kernel_rfl) rfl (fun _ _ _ h => h) hA (by decide) (fun h => absurd h (by decide)) (fun a w' hA => run_assign (hA.ev rfl)) ?_; clear hA; intro a hA
            refine d_done (by kernel_rfl) ?_
            exact ⟨(xs868 ++ [(t_0.Nodes.getD (r523.getD h873.toNat (0 : Int)).toNat Node.z).Hash]), (.slice A965 (xs868.length + 1) c966), Option.some.inj H937, (hM.sel [1, 2, 3] rfl (by decide)), (((((hA.nil.cons (hA.get 9 _ rfl)).cons (hA.get 8 _ rfl)).cons (hA.get 6 _ rfl)).cons (hA.get 5 _ rfl)).cons (hA.get 2 _ rfl))⟩
          · refine d_op (i := 6) (L' := #[true, true, false, true, true, true, true, false, false, false, false, false, false]) rfl rfl (stv hA (by decide) (run_ld (hA.ev rfl) (run_loadS Try.isAgg3 hat959)) ?_)
            clear hA; intro a hA
            refine ⟨fun _ => hS, ?_⟩
            refine d_one (i := 2) (L' := #[true, true, true, true, true, true, true, false, false, false, false, false, false]) (by kernel_rfl) rfl rfl (stv hA (by decide) (run_ld (hA.ev rfl) (run_loadS Try.isAgg22 (At.seg1 (hM.box .z) 0 rfl))) ?_)
            clear hA; intro a hA
            refine ⟨fun _ => hS, ?_⟩
            obtain ⟨ad968, hq969, hat970⟩ := Row.elem' (p := pNode) (hM.ro hr0_0) (Eq.refl t_0.Nodes.length) Node.z (r523.getD h873.toNat (0 : Int)) hi945 hj946
            refine d_takef (i := 7) (L' := #[true, true, true, true, true, true, true, true, false, false, false, false, false]) rfl (by kernel_rfl) rfl (fun _ _ _ h => h) hA (by decide) (fun _ => hS) (fun a w' hA => run_idx Try.underlying22 Try.sizeOf46 (hA.ev rfl) hq969 (hA.ev rfl) hi945 hj946) ?_; clear hA; intro a hA
            refine d_takef (i := 8) (L' := #[true, true, true, true, true, true, true, true, true, false, false, false, false]) rfl (by kernel_rfl) rfl (fun _ _ _ h => h) hA (by decide) (fun _ => hS) (fun a w' hA => run_field' Try.underlying46 rfl rfl Try.sizeOf38 (by decide) (hA.ev rfl)) ?_; clear hA; intro a hA
            refine d_one (i := 9) (L' := #[true, true, true, true, true, true, true, true, true, true, false, false, false]) (by kernel_rfl) rfl rfl (stv hA (by decide) (run_ld (hA.ev rfl) (run_loadP Try.isAgg38 Try.sizeOf38 (Node.at_Hash (hat970)))) ?_)
            clear hA; intro a hA
            refine ⟨fun _ => hS, ?_⟩
            refine d_one (i := 10) (L' := #[true, true, true, true, true, true, true, true, true, true, true, false, false]) (by kernel_rfl) rfl rfl (e_litN [(t_0.Nodes.getD (r523.getD h873.toNat (0 : Int)).toNat Node.z).Hash] [(.agg (pHash.enc ((t_0.Nodes.getD (r523.getD h873.toNat (0 : Int)).toNat Node.z).Hash)).toArray)] elt35 hM rfl (by decide) hA rfl rfl (List.cons_ne_nil _ _) (by decide) ?_)
            clear hM hA; intro w972 g971 hM hE a hA
            replace hS := hS.trans (hE.mono hS.size)
            refine ⟨fun _ => hS, ?_⟩
            refine d_one (i := 11) (L' := #[true, true, true, true, true, true, true, true, true, true, true, true, false]) (by kernel_rfl) rfl rfl (e_append elt35 hM (fun _ => (.s (.s .z))) (Src.row Try.underlying35 (RowOk.row (hM.row (p := pHash) .z)) (RowOk.len (hM.row (p := pHash) .z))) hl954 hA rfl rfl (by decide) ?_)
            clear hM hA; intro w975 A973 c974 hM hE a hA
            refine ⟨fun h => absurd h (by decide), ?_⟩
            refine d_takef (i := 12) (L' := #[true, true, true, true, true, true, true, true, true, true, true, true, true]) rfl (by kernel_rfl) rfl (fun _ _ _ h => h) hA (by decide) (fun h => absurd h (by decide)) (fun a w' hA => run_assign (hA.ev rfl)) ?_; clear hA; intro a hA
            refine d_done (by kernel_rfl) ?_
            exact ⟨(xs868 ++ [(t_0.Nodes.getD (r523.getD h873.toNat (0 : Int)).toNat Node.z).Hash]), (.slice A973 (xs868.length + 1) c974), Option.some.inj H937, (hM.sel [1, 2, 3] rfl (by decide)), (((((hA.nil.cons (hA.get 9 _ rfl)).cons (hA.get 8 _ rfl)).cons (hA.get 6 _ rfl)).cons (hA.get 5 _ rfl)).cons (hA.get 2 _ rfl))⟩
        clear hM hA
        rintro a w976 ⟨xs933, v930, rfl, hM, hA⟩
        try dsimp only at H885
        obtain ⟨A931, c932, rfl⟩ := RowOk.form (hM.row (p := pHash) (.s .z))
        refine TN ?_
        refine wp_seq ?_
        refine wp_region_lit ?_
        refine L1 (stv hA (by decide) (run_move (hA.ev rfl)) ?_)
        clear hA; intro a hA
        refine L1 (stv hA (by decide) (run_assign (hA.ev rfl)) ?_)
        clear hA; intro a hA
        refine LQ ?_
        refine TN ?_
        refine wp_seq ?_
        refine wp_region_lit ?_
        refine L1 (stv hA (by decide) (run_move (hA.ev rfl)) ?_)
        clear hA; intro a hA
        refine L1 (stv hA (by decide) (run_len_slice Try.underlying35 (hA.ev rfl)) ?_)
        clear hA; intro a hA
        refine L1 (stv hA (by decide) (run_bin (hA.ev rfl) (hA.ev rfl) (bin_geq _ _ _ _)) ?_)
        clear hA; intro a hA
        refine LQ ?_
        refine TN ?_
        obtain ⟨o986, H985, H885⟩ := Option.bind_eq_some_iff.1 H885
        refine cutC (fun a w => ∃ (step984 : Int), step984 = o986 ∧ Mem F w0 w [.box g512 24 [(.slice A0_0 t_0.Nodes.length c0_0), (.int .i64 t_0.Best)], .row 38 pHash.sz (.slice A931 xs933.length c932) (pHash.flat xs933), .row 3 (Pl.int .i64).sz (.slice A528 r523.length c529) ((Pl.int .i64).flat r523)] ∧ Has 57 [(2, (.pointer (some (⟨g512, 0, none⟩)))), (5, (.slice A931 xs933.length c932)), (6, (.slice A528 r523.length c529)), (7, (.int .i64 h873)), (8, (.int .i64 h873)), (9, (.int .i64 step984))] a) ?_ ?_
        · refine tcond (b := (decide (((xs933.length : Nat) : Int) ≥ 10))) hA rfl (fun hb987 => ?_) (fun hb987 => ?_)
          · replace H985 := ite_t hb987 H985
            refine wp_region_lit ?_
            refine L1 (stv hA (by decide) (run_move (hA.ev rfl)) ?_)
            clear hA; intro a hA
            refine L1 (stv hA (by decide) (run_bin (hA.ev rfl) (hA.ev rfl) (bin_mul _ _ _ _)) ?_)
            clear hA; intro a hA
            refine L1 (stv hA (by decide) (run_assign (hA.ev rfl)) ?_)
            clear hA; intro a hA
            refine LQ ?_
            exact ⟨IntKind.i64.wrap (step875 * 2), Option.some.inj H985, hM, ((((((hA.nil.cons (hA.get 9 _ rfl)).cons (hA.get 8 _ rfl)).cons (hA.get 7 _ rfl)).cons (hA.get 6 _ rfl)).cons (hA.get 5 _ rfl)).cons (hA.get 2 _ rfl))⟩
          · replace H985 := ite_f hb987 H985
            refine wp_skip ?_
            exact ⟨step875, Option.some.inj H985, hM, ((((((hA.nil.cons (hA.get 9 _ rfl)).cons (hA.get 8 _ rfl)).cons (hA.get 7 _ rfl)).cons (hA.get 6 _ rfl)).cons (hA.get 5 _ rfl)).cons (hA.get 2 _ rfl))⟩
        clear hM hA
        rintro a w988 ⟨step984, rfl, hM, hA⟩
        try dsimp only at H885
        refine BN ?_
        refine TN ?_
        refine wp_region_lit ?_
        refine L1 (stv hA (by decide) (run_move (hA.ev rfl)) ?_)
        clear hA; intro a hA
        refine L1 (stv hA (by decide) (run_move (hA.ev rfl)) ?_)
        clear hA; intro a hA
        refine L1 (stv hA (by decide) (run_bin (hA.ev rfl) (hA.ev rfl) (bin_sub _ _ _ _)) ?_)
        clear hA; intro a hA
        refine L1 (stv hA (by decide) (run_assign (hA.ev rfl)) ?_)
        clear hA; intro a hA
        refine LQ ?_
        exact ⟨_, Nat.lt_succ_self m888, xs933, h873, IntKind.i64.wrap (h873 - step984), step984, (.slice A931 xs933.length c932), H885, hM, ((((((hA.nil.cons (hA.get 9 _ rfl)).cons (hA.get 8 _ rfl)).cons (hA.get 7 _ rfl)).cons (hA.get 6 _ rfl)).cons (hA.get 5 _ rfl)).cons (hA.get 2 _ rfl))⟩
      · replace H885 := ite_f hb890 H885
        refine wp_exit ?_
        refine TX ?_
        refine TX ?_
        refine BX ?_
        exact ⟨xs868, last871, (.slice A866 xs868.length c867), Option.some.inj H885, (hM.sel [0, 1] rfl (by decide)), (((hA.nil.cons (hA.get 7 _ rfl)).cons (hA.get 5 _ rfl)).cons (hA.get 2 _ rfl))⟩
    clear hM hA
    rintro a w989 ⟨xs882, last884, v879, rfl, hM, hA⟩
    try dsimp only at H
    obtain ⟨A880, c881, rfl⟩ := RowOk.form (hM.row (p := pHash) (.s .z))
    refine TN ?_
    refine wp_seq ?_
    refine wp_seq ?_
    refine wp_region_lit ?_
    refine L1 (stv hA (by decide) (run_move (hA.ev rfl)) ?_)
    clear hA; intro a hA
    refine L1 (stv hA (by decide) (run_bin (hA.ev rfl) (hA.ev rfl) (bin_gtr _ _ _ _)) ?_)
    clear hA; intro a hA
    refine LQ ?_
    refine TN ?_
    obtain ⟨o1009, H1008, H⟩ := Option.bind_eq_some_iff.1 H
    refine cutC (fun a w => ∃ (xs1007 : (List (Vector Int 32))) (v1004 : Value), xs1007 = o1009 ∧ Mem F w0 w [.row 38 pHash.sz v1004 (pHash.flat xs1007)] ∧ Has 57 [(5, v1004)] a) ?_ ?_
    · refine tcond (b := (decide (last884 > 0))) hA rfl (fun hb1010 => ?_) (fun hb1010 => ?_)
      · replace H1008 := ite_t hb1010 H1008
        refine wp_region_lit ?_
        refine L1 (stv hA (by decide) (run_move (hA.ev rfl)) ?_)
        clear hA; intro a hA
        refine L1 (stv hA (by decide) (run_field' Try.underlying24 rfl rfl Try.sizeOf22 (by decide) (hA.ev rfl)) ?_)
        clear hA; intro a hA
        refine L1 (stv hA (by decide) (run_ld (hA.ev rfl) (run_loadS Try.isAgg22 (At.seg1 (hM.box .z) 0 rfl))) ?_)
        clear hA; intro a hA
        obtain ⟨⟨hi1011, hj1012⟩, H1008⟩ := ite_some H1008
        obtain ⟨ad1013, hq1014, hat1015⟩ := Row.elem' (p := pNode) (hM.ro hr0_0) (Eq.refl t_0.Nodes.length) Node.z (0 : Int) hi1011 hj1012
        refine L1 (stv hA (by decide) (run_idx Try.underlying22 Try.sizeOf46 (hA.ev rfl) hq1014 (hA.ev rfl) hi1011 hj1012) ?_)
        clear hA; intro a hA
        refine L1 (stv hA (by decide) (run_field' Try.underlying46 rfl rfl Try.sizeOf38 (by decide) (hA.ev rfl)) ?_)
        clear hA; intro a hA
        refine L1 (stv hA (by decide) (run_ld (hA.ev rfl) (run_loadP Try.isAgg38 Try.sizeOf38 (Node.at_Hash (hat1015)))) ?_)
        clear hA; intro a hA
        refine L1 (e_litN [(t_0.Nodes.getD (0 : Int).toNat Node.z).Hash] [(.agg (pHash.enc ((t_0.Nodes.getD (0 : Int).toNat Node.z).Hash)).toArray)] elt35 hM rfl (by decide) hA rfl rfl (List.cons_ne_nil _ _) (by decide) ?_)
        clear hM hA; intro w1017 g1016 hM hE a hA
        obtain ⟨hl1021, H1008⟩ := ite_some H1008
        refine L1 (e_append elt35 hM (fun _ => (.s (.s .z))) (Src.row Try.underlying35 (RowOk.row (hM.row (p := pHash) .z)) (RowOk.len (hM.row (p := pHash) .z))) hl1021 hA rfl rfl (by decide) ?_)
        clear hM hA; intro w1022 A1019 c1020 hM hE a hA
        refine L1 (stv hA (by decide) (run_assign (hA.ev rfl)) ?_)
        clear hA; intro a hA
        refine LQ ?_
        exact ⟨(xs882 ++ [(t_0.Nodes.getD (0 : Int).toNat Node.z).Hash]), (.slice A1019 (xs882.length + 1) c1020), Option.some.inj H1008, (hM.sel [2] rfl (by decide)), (hA.nil.cons (hA.get 5 _ rfl))⟩
      · replace H1008 := ite_f hb1010 H1008
        refine wp_skip ?_
        exact ⟨xs882, (.slice A880 xs882.length c881), Option.some.inj H1008, (hM.sel [1] rfl (by decide)), (hA.nil.cons (hA.get 5 _ rfl))⟩
    clear hM hA
    rintro a w1023 ⟨xs1007, v1004, rfl, hM, hA⟩
    try dsimp only at H
    obtain ⟨A1005, c1006, rfl⟩ := RowOk.form (hM.row (p := pHash) .z)
    refine TN ?_
    refine wp_seq ?_
    refine wp_region_lit ?_
    refine L1 (stv hA (by decide) (run_move (hA.ev rfl)) ?_)
    clear hA; intro a hA
    refine L1 (stv hA (by decide) (run_assign (hA.ev rfl)) ?_)
    clear hA; intro a hA
    refine LQ ?_
    refine TN ?_
    refine wp_ret ?_
    obtain rfl := Option.some.inj H
    exact ret_post1 (fn := Try.f18) hA rfl rfl ⟨_, rfl, (.slice A1005 xs1007.length c1006), rfl, hM⟩

end Go.Proofs.Ytjjahfpamjmacaa.G
