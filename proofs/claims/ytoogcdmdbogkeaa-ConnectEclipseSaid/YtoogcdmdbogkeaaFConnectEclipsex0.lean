/- The functions that a law of this seat reaches: what each comes to, as a plain function, and that its code comes to it. Conditions: the plain function gives a value (enough fuel, no panic). -/
import Derived.Test.YtoogcdmdbogkeaaChecked
import Derived.Test.YtoogcdmdbogkeaaD
set_option linter.unusedVariables false
set_option linter.unusedSimpArgs false
namespace Go.Proofs.Ytoogcdmdbogkeaa.G
open Go Go.RowKit Go.Proofs
abbrev tT : Bool := true
abbrev fF : Bool := false
structure NAddr where
  Host : Int
  Port : Int
  Time : Int
def NAddr.z : NAddr := ⟨(0 : Int), (0 : Int), (0 : Int)⟩
def NAddr.segs (x : NAddr) : List (List Value) := [(Pl.int .u32).enc x.Host, (Pl.int .u16).enc x.Port, (Pl.int .u32).enc x.Time]
theorem NAddr.segs_len (x : NAddr) : x.segs.flatten.length = 3 := by
  simp only [NAddr.segs, List.flatten_cons, List.flatten_nil, List.length_append, List.length_nil, Pl.len]
  rfl
def pNAddr : Pl NAddr := ⟨3, fun x => x.segs.flatten, NAddr.segs_len, fun x u hu => by
  simp only [NAddr.segs, List.mem_flatten, List.mem_cons, List.not_mem_nil, or_false] at hu
  obtain ⟨l, hl, hu⟩ := hu
  rcases hl with rfl | rfl | rfl
  all_goals exact Pl.one _ _ u hu, by decide⟩
def NAddr.eqb (x y : NAddr) : Bool := (x.Host == y.Host && (x.Port == y.Port && (x.Time == y.Time && true)))
instance : BEq NAddr := ⟨NAddr.eqb⟩
theorem NAddr.eqb_iff (x y : NAddr) : (x == y) = true ↔ x = y := by
  show NAddr.eqb x y = true ↔ x = y
  cases x; cases y
  simp [NAddr.eqb, and_assoc]
theorem eq_NAddr : EqOk Try.prog 46 pNAddr 2 := fun d x y w => eq_struct (P := Try.prog) (d := d + 1) Try.underlying46 (by kernel_rfl) (eqf_cons (by decide) (part_one Try.isAgg43 x.segs 0 rfl (by first | rfl | (simp only [NAddr.segs, List.take, List.flatten_cons, List.flatten_nil, List.length_append, List.length_nil, Pl.len]; rfl))) (part_one Try.isAgg43 y.segs 0 rfl (by first | rfl | (simp only [NAddr.segs, List.take, List.flatten_cons, List.flatten_nil, List.length_append, List.length_nil, Pl.len]; rfl))) (run_equalIn_int w (d + 0) _ _ _ _ _ Try.underlying43)
    (eqf_cons (by decide) (part_one Try.isAgg44 x.segs 1 rfl (by first | rfl | (simp only [NAddr.segs, List.take, List.flatten_cons, List.flatten_nil, List.length_append, List.length_nil, Pl.len]; rfl))) (part_one Try.isAgg44 y.segs 1 rfl (by first | rfl | (simp only [NAddr.segs, List.take, List.flatten_cons, List.flatten_nil, List.length_append, List.length_nil, Pl.len]; rfl))) (run_equalIn_int w (d + 0) _ _ _ _ _ Try.underlying44)
    (eqf_cons (by decide) (part_one Try.isAgg43 x.segs 2 rfl (by first | rfl | (simp only [NAddr.segs, List.take, List.flatten_cons, List.flatten_nil, List.length_append, List.length_nil, Pl.len]; rfl))) (part_one Try.isAgg43 y.segs 2 rfl (by first | rfl | (simp only [NAddr.segs, List.take, List.flatten_cons, List.flatten_nil, List.length_append, List.length_nil, Pl.len]; rfl))) (run_equalIn_int w (d + 0) _ _ _ _ _ Try.underlying43)
    (eqf_nil))))
theorem NAddr.at_Host {w : World} {ad : Addr} {x : NAddr} (h : At w ad (pNAddr.enc x)) : At w (ad.add 0) ((Pl.int .u32).enc x.Host) := At.seg (segs := x.segs) h 0 rfl (by
  first | rfl | simp only [NAddr.segs, List.take, List.flatten_cons, List.flatten_nil, List.length_append, List.length_nil, Pl.len]; rfl)
theorem NAddr.spl_Host (x : NAddr) (y : Int) : spl (pNAddr.enc x) 0 ((Pl.int .u32).enc y) = pNAddr.enc { x with Host := y } := spl_seg x.segs 0 ((Pl.int .u32).enc y) 0 rfl (by
  first | rfl | simp only [NAddr.segs, List.take, List.flatten_cons, List.flatten_nil, List.length_append, List.length_nil, Pl.len]; rfl) (by simp [Pl.len])
theorem NAddr.at_Port {w : World} {ad : Addr} {x : NAddr} (h : At w ad (pNAddr.enc x)) : At w (ad.add 1) ((Pl.int .u16).enc x.Port) := At.seg (segs := x.segs) h 1 rfl (by
  first | rfl | simp only [NAddr.segs, List.take, List.flatten_cons, List.flatten_nil, List.length_append, List.length_nil, Pl.len]; rfl)
theorem NAddr.spl_Port (x : NAddr) (y : Int) : spl (pNAddr.enc x) 1 ((Pl.int .u16).enc y) = pNAddr.enc { x with Port := y } := spl_seg x.segs 1 ((Pl.int .u16).enc y) 1 rfl (by
  first | rfl | simp only [NAddr.segs, List.take, List.flatten_cons, List.flatten_nil, List.length_append, List.length_nil, Pl.len]; rfl) (by simp [Pl.len])
theorem NAddr.at_Time {w : World} {ad : Addr} {x : NAddr} (h : At w ad (pNAddr.enc x)) : At w (ad.add 2) ((Pl.int .u32).enc x.Time) := At.seg (segs := x.segs) h 2 rfl (by
  first | rfl | simp only [NAddr.segs, List.take, List.flatten_cons, List.flatten_nil, List.length_append, List.length_nil, Pl.len]; rfl)
theorem NAddr.spl_Time (x : NAddr) (y : Int) : spl (pNAddr.enc x) 2 ((Pl.int .u32).enc y) = pNAddr.enc { x with Time := y } := spl_seg x.segs 2 ((Pl.int .u32).enc y) 2 rfl (by
  first | rfl | simp only [NAddr.segs, List.take, List.flatten_cons, List.flatten_nil, List.length_append, List.length_nil, Pl.len]; rfl) (by simp [Pl.len])
structure Link where
  Kind : Int
  Addr_ : NAddr
def Link.z : Link := ⟨(0 : Int), NAddr.z⟩
def Link.segs (x : Link) : List (List Value) := [(Pl.int .i64).enc x.Kind, pNAddr.enc x.Addr_]
theorem Link.segs_len (x : Link) : x.segs.flatten.length = 4 := by
  simp only [Link.segs, List.flatten_cons, List.flatten_nil, List.length_append, List.length_nil, Pl.len]
  rfl
def pLink : Pl Link := ⟨4, fun x => x.segs.flatten, Link.segs_len, fun x u hu => by
  simp only [Link.segs, List.mem_flatten, List.mem_cons, List.not_mem_nil, or_false] at hu
  obtain ⟨l, hl, hu⟩ := hu
  rcases hl with rfl | rfl
  all_goals exact Pl.one _ _ u hu, by decide⟩
def Link.eqb (x y : Link) : Bool := (x.Kind == y.Kind && (x.Addr_ == y.Addr_ && true))
instance : BEq Link := ⟨Link.eqb⟩
theorem Link.eqb_iff (x y : Link) : (x == y) = true ↔ x = y := by
  show Link.eqb x y = true ↔ x = y
  cases x; cases y
  simp [Link.eqb, and_assoc, NAddr.eqb_iff]
theorem eq_Link : EqOk Try.prog 53 pLink 3 := fun d x y w => eq_struct (P := Try.prog) (d := d + 2) Try.underlying53 (by kernel_rfl) (eqf_cons (by decide) (part_one Try.isAgg3 x.segs 0 rfl (by first | rfl | (simp only [Link.segs, List.take, List.flatten_cons, List.flatten_nil, List.length_append, List.length_nil, Pl.len]; rfl))) (part_one Try.isAgg3 y.segs 0 rfl (by first | rfl | (simp only [Link.segs, List.take, List.flatten_cons, List.flatten_nil, List.length_append, List.length_nil, Pl.len]; rfl))) (run_equalIn_int w (d + 1) _ _ _ _ _ Try.underlying3)
    (eqf_cons (by decide) (part_agg Try.isAgg46 Try.sizeOf46 x.segs 1 rfl (by first | rfl | (simp only [Link.segs, List.take, List.flatten_cons, List.flatten_nil, List.length_append, List.length_nil, Pl.len]; rfl)) (Pl.len _ _)) (part_agg Try.isAgg46 Try.sizeOf46 y.segs 1 rfl (by first | rfl | (simp only [Link.segs, List.take, List.flatten_cons, List.flatten_nil, List.length_append, List.length_nil, Pl.len]; rfl)) (Pl.len _ _)) (eq_NAddr d x.Addr_ y.Addr_ w)
    (eqf_nil)))
theorem Link.at_Kind {w : World} {ad : Addr} {x : Link} (h : At w ad (pLink.enc x)) : At w (ad.add 0) ((Pl.int .i64).enc x.Kind) := At.seg (segs := x.segs) h 0 rfl (by
  first | rfl | simp only [Link.segs, List.take, List.flatten_cons, List.flatten_nil, List.length_append, List.length_nil, Pl.len]; rfl)
theorem Link.spl_Kind (x : Link) (y : Int) : spl (pLink.enc x) 0 ((Pl.int .i64).enc y) = pLink.enc { x with Kind := y } := spl_seg x.segs 0 ((Pl.int .i64).enc y) 0 rfl (by
  first | rfl | simp only [Link.segs, List.take, List.flatten_cons, List.flatten_nil, List.length_append, List.length_nil, Pl.len]; rfl) (by simp [Pl.len])
theorem Link.at_Addr_ {w : World} {ad : Addr} {x : Link} (h : At w ad (pLink.enc x)) : At w (ad.add 1) (pNAddr.enc x.Addr_) := At.seg (segs := x.segs) h 1 rfl (by
  first | rfl | simp only [Link.segs, List.take, List.flatten_cons, List.flatten_nil, List.length_append, List.length_nil, Pl.len]; rfl)
theorem Link.spl_Addr_ (x : Link) (y : NAddr) : spl (pLink.enc x) 1 (pNAddr.enc y) = pLink.enc { x with Addr_ := y } := spl_seg x.segs 1 (pNAddr.enc y) 1 rfl (by
  first | rfl | simp only [Link.segs, List.take, List.flatten_cons, List.flatten_nil, List.length_append, List.length_nil, Pl.len]; rfl) (by simp [Pl.len])
structure Place where
  Bucket : Int
  Addr_ : NAddr
  Source : Int
def Place.z : Place := ⟨(0 : Int), NAddr.z, (0 : Int)⟩
def Place.segs (x : Place) : List (List Value) := [(Pl.int .i64).enc x.Bucket, pNAddr.enc x.Addr_, (Pl.int .u32).enc x.Source]
theorem Place.segs_len (x : Place) : x.segs.flatten.length = 5 := by
  simp only [Place.segs, List.flatten_cons, List.flatten_nil, List.length_append, List.length_nil, Pl.len]
  rfl
def pPlace : Pl Place := ⟨5, fun x => x.segs.flatten, Place.segs_len, fun x u hu => by
  simp only [Place.segs, List.mem_flatten, List.mem_cons, List.not_mem_nil, or_false] at hu
  obtain ⟨l, hl, hu⟩ := hu
  rcases hl with rfl | rfl | rfl
  all_goals exact Pl.one _ _ u hu, by decide⟩
def Place.eqb (x y : Place) : Bool := (x.Bucket == y.Bucket && (x.Addr_ == y.Addr_ && (x.Source == y.Source && true)))
instance : BEq Place := ⟨Place.eqb⟩
theorem Place.eqb_iff (x y : Place) : (x == y) = true ↔ x = y := by
  show Place.eqb x y = true ↔ x = y
  cases x; cases y
  simp [Place.eqb, and_assoc, NAddr.eqb_iff]
theorem eq_Place : EqOk Try.prog 70 pPlace 3 := fun d x y w => eq_struct (P := Try.prog) (d := d + 2) Try.underlying70 (by kernel_rfl) (eqf_cons (by decide) (part_one Try.isAgg3 x.segs 0 rfl (by first | rfl | (simp only [Place.segs, List.take, List.flatten_cons, List.flatten_nil, List.length_append, List.length_nil, Pl.len]; rfl))) (part_one Try.isAgg3 y.segs 0 rfl (by first | rfl | (simp only [Place.segs, List.take, List.flatten_cons, List.flatten_nil, List.length_append, List.length_nil, Pl.len]; rfl))) (run_equalIn_int w (d + 1) _ _ _ _ _ Try.underlying3)
    (eqf_cons (by decide) (part_agg Try.isAgg46 Try.sizeOf46 x.segs 1 rfl (by first | rfl | (simp only [Place.segs, List.take, List.flatten_cons, List.flatten_nil, List.length_append, List.length_nil, Pl.len]; rfl)) (Pl.len _ _)) (part_agg Try.isAgg46 Try.sizeOf46 y.segs 1 rfl (by first | rfl | (simp only [Place.segs, List.take, List.flatten_cons, List.flatten_nil, List.length_append, List.length_nil, Pl.len]; rfl)) (Pl.len _ _)) (eq_NAddr d x.Addr_ y.Addr_ w)
    (eqf_cons (by decide) (part_one Try.isAgg43 x.segs 2 rfl (by first | rfl | (simp only [Place.segs, List.take, List.flatten_cons, List.flatten_nil, List.length_append, List.length_nil, Pl.len]; rfl))) (part_one Try.isAgg43 y.segs 2 rfl (by first | rfl | (simp only [Place.segs, List.take, List.flatten_cons, List.flatten_nil, List.length_append, List.length_nil, Pl.len]; rfl))) (run_equalIn_int w (d + 1) _ _ _ _ _ Try.underlying43)
    (eqf_nil))))
theorem Place.at_Bucket {w : World} {ad : Addr} {x : Place} (h : At w ad (pPlace.enc x)) : At w (ad.add 0) ((Pl.int .i64).enc x.Bucket) := At.seg (segs := x.segs) h 0 rfl (by
  first | rfl | simp only [Place.segs, List.take, List.flatten_cons, List.flatten_nil, List.length_append, List.length_nil, Pl.len]; rfl)
theorem Place.spl_Bucket (x : Place) (y : Int) : spl (pPlace.enc x) 0 ((Pl.int .i64).enc y) = pPlace.enc { x with Bucket := y } := spl_seg x.segs 0 ((Pl.int .i64).enc y) 0 rfl (by
  first | rfl | simp only [Place.segs, List.take, List.flatten_cons, List.flatten_nil, List.length_append, List.length_nil, Pl.len]; rfl) (by simp [Pl.len])
theorem Place.at_Addr_ {w : World} {ad : Addr} {x : Place} (h : At w ad (pPlace.enc x)) : At w (ad.add 1) (pNAddr.enc x.Addr_) := At.seg (segs := x.segs) h 1 rfl (by
  first | rfl | simp only [Place.segs, List.take, List.flatten_cons, List.flatten_nil, List.length_append, List.length_nil, Pl.len]; rfl)
theorem Place.spl_Addr_ (x : Place) (y : NAddr) : spl (pPlace.enc x) 1 (pNAddr.enc y) = pPlace.enc { x with Addr_ := y } := spl_seg x.segs 1 (pNAddr.enc y) 1 rfl (by
  first | rfl | simp only [Place.segs, List.take, List.flatten_cons, List.flatten_nil, List.length_append, List.length_nil, Pl.len]; rfl) (by simp [Pl.len])
theorem Place.at_Source {w : World} {ad : Addr} {x : Place} (h : At w ad (pPlace.enc x)) : At w (ad.add 4) ((Pl.int .u32).enc x.Source) := At.seg (segs := x.segs) h 2 rfl (by
  first | rfl | simp only [Place.segs, List.take, List.flatten_cons, List.flatten_nil, List.length_append, List.length_nil, Pl.len]; rfl)
theorem Place.spl_Source (x : Place) (y : Int) : spl (pPlace.enc x) 4 ((Pl.int .u32).enc y) = pPlace.enc { x with Source := y } := spl_seg x.segs 2 ((Pl.int .u32).enc y) 4 rfl (by
  first | rfl | simp only [Place.segs, List.take, List.flatten_cons, List.flatten_nil, List.length_append, List.length_nil, Pl.len]; rfl) (by simp [Pl.len])
def pHash : Pl (Vector Int 32) := Pl.vec 32 .u8 (by decide)
theorem eq_Hash : EqOk Try.prog 33 pHash 2 := fun d x y w => eq_vec (by decide) d Try.underlying33 Try.isAgg5 Try.underlying5 (by kernel_rfl) (by kernel_rfl) x y w
structure Book where
  Salt : (Vector Int 32)
  Heard : (List Place)
  Tried : (List Place)
def Book.z : Book := ⟨(Vector.replicate 32 0 : Vector Int 32), [], []⟩
structure sip_words where
  v0 : Int
  v1 : Int
  v2 : Int
  v3 : Int
def sip_words.z : sip_words := ⟨(0 : Int), (0 : Int), (0 : Int), (0 : Int)⟩
def sip_words.segs (x : sip_words) : List (List Value) := [(Pl.int .u64).enc x.v0, (Pl.int .u64).enc x.v1, (Pl.int .u64).enc x.v2, (Pl.int .u64).enc x.v3]
theorem sip_words.segs_len (x : sip_words) : x.segs.flatten.length = 4 := by
  simp only [sip_words.segs, List.flatten_cons, List.flatten_nil, List.length_append, List.length_nil, Pl.len]
  rfl
def psip_words : Pl sip_words := ⟨4, fun x => x.segs.flatten, sip_words.segs_len, fun x u hu => by
  simp only [sip_words.segs, List.mem_flatten, List.mem_cons, List.not_mem_nil, or_false] at hu
  obtain ⟨l, hl, hu⟩ := hu
  rcases hl with rfl | rfl | rfl | rfl
  all_goals exact Pl.one _ _ u hu, by decide⟩
def sip_words.eqb (x y : sip_words) : Bool := (x.v0 == y.v0 && (x.v1 == y.v1 && (x.v2 == y.v2 && (x.v3 == y.v3 && true))))
instance : BEq sip_words := ⟨sip_words.eqb⟩
theorem sip_words.eqb_iff (x y : sip_words) : (x == y) = true ↔ x = y := by
  show sip_words.eqb x y = true ↔ x = y
  cases x; cases y
  simp [sip_words.eqb, and_assoc]
theorem eq_sip_words : EqOk Try.prog 80 psip_words 2 := fun d x y w => eq_struct (P := Try.prog) (d := d + 1) Try.underlying80 (by kernel_rfl) (eqf_cons (by decide) (part_one Try.isAgg22 x.segs 0 rfl (by first | rfl | (simp only [sip_words.segs, List.take, List.flatten_cons, List.flatten_nil, List.length_append, List.length_nil, Pl.len]; rfl))) (part_one Try.isAgg22 y.segs 0 rfl (by first | rfl | (simp only [sip_words.segs, List.take, List.flatten_cons, List.flatten_nil, List.length_append, List.length_nil, Pl.len]; rfl))) (run_equalIn_int w (d + 0) _ _ _ _ _ Try.underlying22)
    (eqf_cons (by decide) (part_one Try.isAgg22 x.segs 1 rfl (by first | rfl | (simp only [sip_words.segs, List.take, List.flatten_cons, List.flatten_nil, List.length_append, List.length_nil, Pl.len]; rfl))) (part_one Try.isAgg22 y.segs 1 rfl (by first | rfl | (simp only [sip_words.segs, List.take, List.flatten_cons, List.flatten_nil, List.length_append, List.length_nil, Pl.len]; rfl))) (run_equalIn_int w (d + 0) _ _ _ _ _ Try.underlying22)
    (eqf_cons (by decide) (part_one Try.isAgg22 x.segs 2 rfl (by first | rfl | (simp only [sip_words.segs, List.take, List.flatten_cons, List.flatten_nil, List.length_append, List.length_nil, Pl.len]; rfl))) (part_one Try.isAgg22 y.segs 2 rfl (by first | rfl | (simp only [sip_words.segs, List.take, List.flatten_cons, List.flatten_nil, List.length_append, List.length_nil, Pl.len]; rfl))) (run_equalIn_int w (d + 0) _ _ _ _ _ Try.underlying22)
    (eqf_cons (by decide) (part_one Try.isAgg22 x.segs 3 rfl (by first | rfl | (simp only [sip_words.segs, List.take, List.flatten_cons, List.flatten_nil, List.length_append, List.length_nil, Pl.len]; rfl))) (part_one Try.isAgg22 y.segs 3 rfl (by first | rfl | (simp only [sip_words.segs, List.take, List.flatten_cons, List.flatten_nil, List.length_append, List.length_nil, Pl.len]; rfl))) (run_equalIn_int w (d + 0) _ _ _ _ _ Try.underlying22)
    (eqf_nil)))))
theorem sip_words.at_v0 {w : World} {ad : Addr} {x : sip_words} (h : At w ad (psip_words.enc x)) : At w (ad.add 0) ((Pl.int .u64).enc x.v0) := At.seg (segs := x.segs) h 0 rfl (by
  first | rfl | simp only [sip_words.segs, List.take, List.flatten_cons, List.flatten_nil, List.length_append, List.length_nil, Pl.len]; rfl)
theorem sip_words.spl_v0 (x : sip_words) (y : Int) : spl (psip_words.enc x) 0 ((Pl.int .u64).enc y) = psip_words.enc { x with v0 := y } := spl_seg x.segs 0 ((Pl.int .u64).enc y) 0 rfl (by
  first | rfl | simp only [sip_words.segs, List.take, List.flatten_cons, List.flatten_nil, List.length_append, List.length_nil, Pl.len]; rfl) (by simp [Pl.len])
theorem sip_words.at_v1 {w : World} {ad : Addr} {x : sip_words} (h : At w ad (psip_words.enc x)) : At w (ad.add 1) ((Pl.int .u64).enc x.v1) := At.seg (segs := x.segs) h 1 rfl (by
  first | rfl | simp only [sip_words.segs, List.take, List.flatten_cons, List.flatten_nil, List.length_append, List.length_nil, Pl.len]; rfl)
theorem sip_words.spl_v1 (x : sip_words) (y : Int) : spl (psip_words.enc x) 1 ((Pl.int .u64).enc y) = psip_words.enc { x with v1 := y } := spl_seg x.segs 1 ((Pl.int .u64).enc y) 1 rfl (by
  first | rfl | simp only [sip_words.segs, List.take, List.flatten_cons, List.flatten_nil, List.length_append, List.length_nil, Pl.len]; rfl) (by simp [Pl.len])
theorem sip_words.at_v2 {w : World} {ad : Addr} {x : sip_words} (h : At w ad (psip_words.enc x)) : At w (ad.add 2) ((Pl.int .u64).enc x.v2) := At.seg (segs := x.segs) h 2 rfl (by
  first | rfl | simp only [sip_words.segs, List.take, List.flatten_cons, List.flatten_nil, List.length_append, List.length_nil, Pl.len]; rfl)
theorem sip_words.spl_v2 (x : sip_words) (y : Int) : spl (psip_words.enc x) 2 ((Pl.int .u64).enc y) = psip_words.enc { x with v2 := y } := spl_seg x.segs 2 ((Pl.int .u64).enc y) 2 rfl (by
  first | rfl | simp only [sip_words.segs, List.take, List.flatten_cons, List.flatten_nil, List.length_append, List.length_nil, Pl.len]; rfl) (by simp [Pl.len])
theorem sip_words.at_v3 {w : World} {ad : Addr} {x : sip_words} (h : At w ad (psip_words.enc x)) : At w (ad.add 3) ((Pl.int .u64).enc x.v3) := At.seg (segs := x.segs) h 3 rfl (by
  first | rfl | simp only [sip_words.segs, List.take, List.flatten_cons, List.flatten_nil, List.length_append, List.length_nil, Pl.len]; rfl)
theorem sip_words.spl_v3 (x : sip_words) (y : Int) : spl (psip_words.enc x) 3 ((Pl.int .u64).enc y) = psip_words.enc { x with v3 := y } := spl_seg x.segs 3 ((Pl.int .u64).enc y) 3 rfl (by
  first | rfl | simp only [sip_words.segs, List.take, List.flatten_cons, List.flatten_nil, List.length_append, List.length_nil, Pl.len]; rfl) (by simp [Pl.len])
def pSipKey : Pl (Vector Int 2) := Pl.vec 2 .u64 (by decide)
theorem eq_SipKey : EqOk Try.prog 24 pSipKey 2 := fun d x y w => eq_vec (by decide) d Try.underlying24 Try.isAgg22 Try.underlying22 (by kernel_rfl) (by kernel_rfl) x y w
structure lightclientmill_Deck where
  L : (List Int)
  At_ : Int
def lightclientmill_Deck.z : lightclientmill_Deck := ⟨[], (0 : Int)⟩
def pA4u64 : Pl (Vector Int 4) := Pl.vec 4 .u64 (by decide)
theorem eq_A4u64 : EqOk Try.prog 83 pA4u64 2 := fun d x y w => eq_vec (by decide) d Try.underlying83 Try.isAgg22 Try.underlying22 (by kernel_rfl) (by kernel_rfl) x y w
theorem zero24 : ∀ w, (zeroValue 24).run Try.prog w = .ok (.agg (pSipKey.enc (Vector.replicate 2 0 : Vector Int 2)).toArray) w := run_zero (by kernel_rfl)
theorem zero33 : ∀ w, (zeroValue 33).run Try.prog w = .ok (.agg (pHash.enc (Vector.replicate 32 0 : Vector Int 32)).toArray) w := run_zero (by kernel_rfl)
theorem zero41 : ∀ w, (zeroValue 41).run Try.prog w = .ok (.agg (List.flatten [pHash.enc (Vector.replicate 32 0 : Vector Int 32), [(.slice none 0 0)], [(.slice none 0 0)]]).toArray) w := run_zero (by kernel_rfl)
theorem zero46 : ∀ w, (zeroValue 46).run Try.prog w = .ok (.agg (pNAddr.enc NAddr.z).toArray) w := run_zero (by kernel_rfl)
theorem zero53 : ∀ w, (zeroValue 53).run Try.prog w = .ok (.agg (pLink.enc Link.z).toArray) w := run_zero (by kernel_rfl)
theorem zero70 : ∀ w, (zeroValue 70).run Try.prog w = .ok (.agg (pPlace.enc Place.z).toArray) w := run_zero (by kernel_rfl)
theorem zero80 : ∀ w, (zeroValue 80).run Try.prog w = .ok (.agg (psip_words.enc sip_words.z).toArray) w := run_zero (by kernel_rfl)
theorem zero83 : ∀ w, (zeroValue 83).run Try.prog w = .ok (.agg (pA4u64.enc (Vector.replicate 4 0 : Vector Int 4)).toArray) w := run_zero (by kernel_rfl)
theorem zero91 : ∀ w, (zeroValue 91).run Try.prog w = .ok (.agg #[(.slice none 0 0), (.int .i64 (0 : Int))]) w := run_zero (by kernel_rfl)
theorem elt25 : Elt Try.prog (Pl.int .u8) 25 5 (.int .u8 (0 : Int)) 1 := ⟨Try.underlying25, by kernel_rfl, by first | rfl | simp [Value.cells, Pl.len], by decide⟩
theorem elt39 : Elt Try.prog pPlace 39 70 (.agg (pPlace.enc Place.z).toArray) 24 := ⟨Try.underlying39, by kernel_rfl, by first | rfl | simp [Value.cells, Pl.len], by decide⟩
theorem elt48 : Elt Try.prog pNAddr 48 46 (.agg (pNAddr.enc NAddr.z).toArray) 12 := ⟨Try.underlying48, by kernel_rfl, by first | rfl | simp [Value.cells, Pl.len], by decide⟩
theorem elt49 : Elt Try.prog pLink 49 53 (.agg (pLink.enc Link.z).toArray) 24 := ⟨Try.underlying49, by kernel_rfl, by first | rfl | simp [Value.cells, Pl.len], by decide⟩
def connect_known.f (k : Nat) (kind_0 : Int) : Option Bool := (Option.bind (α := Bool) (if (decide (kind_0 ≥ 1)) = true then (some (decide (kind_0 ≤ 3))) else (some false)) (fun t10 => (some t10)))
set_option maxHeartbeats 2000000 in
set_option maxRecDepth 100000 in
theorem connect_known.calls (k : Nat) (kind_0 : Int) (F : List (Option Nat)) (r : Bool) (w0 : World) (hM : Mem F w0 w0 []) (H : connect_known.f k kind_0 = some r) :
    Calls Try.prog 49 #[(.int .i64 kind_0)] w0 fun e w' => ∃ v, e = .returned v ∧ v = (.bool r) ∧ Mem F w0 w' [] := by
  unfold connect_known.f at H
  refine enterL (n := 9) [(.int .i64 kind_0)] Try.func49 rfl rfl rfl ?_
  intro a hA
  refine wp_seq ?_
  refine wp_region_lit ?_
  refine L1 (stv hA (by decide) (run_assign (hA.ev rfl)) ?_)
  clear hA; intro a hA
  refine LQ ?_
  refine TN ?_
  refine wp_seq ?_
  obtain ⟨o12, H11, H⟩ := Option.bind_eq_some_iff.1 H
  refine cutC (fun a w => ∃ (t10 : Bool), t10 = o12 ∧ Mem F w0 w [] ∧ Has 9 [(2, (.bool t10))] a) ?_ ?_
  · refine wp_region_lit ?_
    refine L1 (stv hA (by decide) (run_move (hA.ev rfl)) ?_)
    clear hA; intro a hA
    refine L1 (stv hA (by decide) (run_bin (hA.ev rfl) (hA.ev rfl) (bin_geq _ _ _ _)) ?_)
    clear hA; intro a hA
    refine L1 (stv hA (by decide) (run_move (hA.ev rfl)) ?_)
    clear hA; intro a hA
    refine bsplit (b := (decide (kind_0 ≥ 1))) (fun hb13 => ?_) (fun hb13 => ?_)
    · replace H11 := ite_t hb13 H11
      have hA := hA.re (t := 5) rfl (congrArg Value.bool hb13)
      refine L1 (gate_on rfl rfl hA (by decide) rfl (stv hA (by decide) (run_move (hA.ev rfl)) ?_))
      clear hA; intro a hA
      refine L1 (gate_on rfl rfl hA (by decide) rfl (stv hA (by decide) (run_bin (hA.ev rfl) (hA.ev rfl) (bin_leq _ _ _ _)) ?_))
      clear hA; intro a hA
      refine L1 (stv hA (by decide) (run_pick (hA.ev rfl) (fun _ => hA.ev rfl) (fun h => Bool.noConfusion h)) ?_)
      clear hA; intro a hA
      refine L1 (stv hA (by decide) (run_assign (hA.ev rfl)) ?_)
      clear hA; intro a hA
      refine LQ ?_
      exact ⟨(decide (kind_0 ≤ 3)), Option.some.inj H11, hM, (hA.nil.cons (hA.get 2 _ rfl))⟩
    · replace H11 := ite_f hb13 H11
      have hA := hA.re (t := 5) rfl (congrArg Value.bool hb13)
      refine L1 (gate_off rfl (by decide) rfl hA (by decide) rfl rfl ?_); clear hA; intro a hA
      refine L1 (gate_off rfl (by decide) rfl hA (by decide) rfl rfl ?_); clear hA; intro a hA
      refine L1 (stv hA (by decide) (run_pick (hA.ev rfl) (fun h => Bool.noConfusion h) (fun _ => hA.ev rfl)) ?_)
      clear hA; intro a hA
      refine L1 (stv hA (by decide) (run_assign (hA.ev rfl)) ?_)
      clear hA; intro a hA
      refine LQ ?_
      exact ⟨false, Option.some.inj H11, hM, (hA.nil.cons (hA.get 2 _ rfl))⟩
  clear hM hA
  rintro a w14 ⟨t10, rfl, hM, hA⟩
  try dsimp only at H
  refine TN ?_
  refine wp_ret ?_
  obtain rfl := Option.some.inj H
  exact ret_post1 (fn := Try.f49) hA rfl rfl ⟨_, rfl, rfl, hM⟩

def addrbook_Group.f (k : Nat) (a_0 : NAddr) : Option Int := (some (ishr .u32 a_0.Host 16))
set_option maxHeartbeats 2000000 in
set_option maxRecDepth 100000 in
theorem addrbook_Group.calls (k : Nat) (a_0 : NAddr) (F : List (Option Nat)) (r : Int) (w0 : World) (hM : Mem F w0 w0 []) (H : addrbook_Group.f k a_0 = some r) :
    Calls Try.prog 24 #[(.agg (pNAddr.enc a_0).toArray)] w0 fun e w' => ∃ v, e = .returned v ∧ v = (.int .u32 r) ∧ Mem F w0 w' [] := by
  unfold addrbook_Group.f at H
  refine enterL (n := 6) [(.agg (pNAddr.enc a_0).toArray)] Try.func24 rfl rfl rfl ?_
  intro a hA
  refine wp_seq ?_
  refine wp_region_lit ?_
  refine L1 (e_box (cs := (pNAddr.enc a_0)) hM hA rfl rfl (by decide) ?_)
  clear hM hA; intro w5 g4 hM hE  a hA
  refine L1 (stv hA (by decide) (run_assign (hA.ev rfl)) ?_)
  clear hA; intro a hA
  refine LQ ?_
  refine TN ?_
  refine wp_seq ?_
  refine wp_region_lit ?_
  refine L1 (stv hA (by decide) (run_field' Try.underlying46 rfl rfl Try.sizeOf43 (by decide) (hA.ev rfl)) ?_)
  clear hA; intro a hA
  refine L1 (stv hA (by decide) (run_ld (hA.ev rfl) (run_loadS Try.isAgg43 (NAddr.at_Host (hM.box .z)))) ?_)
  clear hA; intro a hA
  refine L1 (stv hA (by decide) (run_shr (hA.ev rfl) (hA.ev rfl) (by decide)) ?_)
  clear hA; intro a hA
  refine L1 (stv hA (by decide) (run_assign (hA.ev rfl)) ?_)
  clear hA; intro a hA
  refine LQ ?_
  refine TN ?_
  refine wp_ret ?_
  obtain rfl := Option.some.inj H
  exact ret_post1 (fn := Try.f24) hA rfl rfl ⟨_, rfl, rfl, (hM.sel [] rfl (by decide))⟩

def connect_met.l0 (l_0 : (List Link)) (a_1 : NAddr) : Nat → Int → Option (Out Int (Unit))
  | 0, _ => none
  | k + 1, t1111 => (if (decide (t1111 < ((l_0.length : Nat) : Int))) = true then (if 0 ≤ t1111 ∧ t1111 < ((l_0.length : Nat) : Int) then ((addrbook_Group.f k ((l_0.getD t1111.toNat Link.z).Addr_)).bind fun r1138 => ((addrbook_Group.f k a_1).bind fun r1141 => (if (r1138 == r1141) = true then (some (.ret t1111)) else (connect_met.l0 l_0 a_1 k (IntKind.i64.wrap (t1111 + 1)))))) else none) else (some (.go ())))
def connect_met.f (k : Nat) (l_0 : (List Link)) (a_1 : NAddr) : Option Bool := (Option.bind (α := Int) (Option.bind (α := Out Int (Unit)) (connect_met.l0 l_0 a_1 k 0) (fun o => match o with | .ret r => some r | .go _ => (some (-1)))) (fun t1003 => (some (decide (t1003 ≥ 0)))))
set_option maxHeartbeats 2000000 in
set_option maxRecDepth 100000 in
theorem connect_met.calls (k : Nat) (l_0 : (List Link)) (a_1 : NAddr) (F : List (Option Nat)) (v0 : Value) (r : Bool) (w0 : World) (h0 : RoV F pLink w0 v0 l_0) (hM : Mem F w0 w0 []) (H : connect_met.f k l_0 a_1 = some r) :
    Calls Try.prog 50 #[v0, (.agg (pNAddr.enc a_1).toArray)] w0 fun e w' => ∃ v, e = .returned v ∧ v = (.bool r) ∧ Mem F w0 w' [] := by
  unfold connect_met.f at H
  obtain ⟨A0, c0, rfl, hr0, hc0⟩ := h0
  refine enterL (n := 8) [(.slice A0 l_0.length c0), (.agg (pNAddr.enc a_1).toArray)] Try.func50 rfl rfl rfl ?_
  intro a hA
  refine wp_seq ?_
  refine wp_region_lit ?_
  refine L1 (e_box (cs := (pNAddr.enc a_1)) hM hA rfl rfl (by decide) ?_)
  clear hM hA; intro w575 g574 hM hE  a hA
  refine L1 (stv hA (by decide) (run_assign (hA.ev rfl)) ?_)
  clear hA; intro a hA
  refine LQ ?_
  refine TN ?_
  refine wp_seq ?_
  refine wp_region_lit ?_
  refine L1 (stv hA (by decide) (run_move (hA.ev rfl)) ?_)
  clear hA; intro a hA
  refine L1 (stv hA (by decide) (run_fn2 hA [(.pointer (some (⟨g574, 0, none⟩)))] rfl) ?_)
  clear hA; intro a hA
  refine L1 (inl_call Try.call80 hA [(.slice A0 l_0.length c0), (.func (.func 81) #[] #[(.pointer (some (⟨g574, 0, none⟩)))])] rfl (by decide) ?_)
  refine enterL (n := 9) [(.slice A0 l_0.length c0), (.func (.func 81) #[] #[(.pointer (some (⟨g574, 0, none⟩)))])] Try.func80 rfl rfl rfl ?_
  clear hA; intro a hA
  refine wp_seq ?_
  refine wp_region_lit ?_
  refine L1 (stv hA (by decide) (run_assign (hA.ev rfl)) ?_)
  clear hA; intro a hA
  refine LQ ?_
  refine TN ?_
  refine wp_seq ?_
  refine wp_region_lit ?_
  refine L1 (stv hA (by decide) (run_move (hA.ev rfl)) ?_)
  clear hA; intro a hA
  refine L1 (stv hA (by decide) (run_move (hA.ev rfl)) ?_)
  clear hA; intro a hA
  refine L1 (inl_call Try.call96 hA [(.slice A0 l_0.length c0), (.func (.func 81) #[] #[(.pointer (some (⟨g574, 0, none⟩)))])] rfl (by decide) ?_)
  obtain ⟨o1005, H1004, H⟩ := Option.bind_eq_some_iff.1 H
  refine (show Calls Try.prog 96 _ w575 (fun e w => ∃ v, e = .returned v ∧ ∃ (t1003 : Int), t1003 = o1005 ∧ v = (.int .i64 t1003) ∧ Mem F w0 w [.box g574 46 (pNAddr.enc a_1)]) from ?_).mono ?_
  · refine enterL (n := 19) [(.slice A0 l_0.length c0), (.func (.func 81) #[] #[(.pointer (some (⟨g574, 0, none⟩)))])] Try.func96 rfl rfl rfl ?_
    clear hA; intro a hA
    refine wp_seq ?_
    refine wp_region_lit ?_
    refine L1 (stv hA (by decide) (run_assign (hA.ev rfl)) ?_)
    clear hA; intro a hA
    refine LQ ?_
    refine TN ?_
    refine wp_seq ?_
    refine wp_seq ?_
    refine wp_region_lit ?_
    refine L1 (stv hA (by decide) (run_move (hA.ev rfl)) ?_)
    clear hA; intro a hA
    refine L1 (stv hA (by decide) (run_len_slice Try.underlying49 (hA.ev rfl)) ?_)
    clear hA; intro a hA
    refine L1 (stv hA (by decide) (run_move (hA.ev rfl)) ?_)
    clear hA; intro a hA
    refine LQ ?_
    refine TN ?_
    obtain ⟨o1113, H1112, H1004⟩ := Option.bind_eq_some_iff.1 H1004
    refine cutC (fun a w => (.go ()) = o1113 ∧ Mem F w0 w [.box g574 46 (pNAddr.enc a_1)] ∧ Has 19 [] a) ?_ ?_
    · refine wp_block ?_
      refine wp_loop_ghost (fun m a w => ∃ (t1111 : Int), connect_met.l0 l_0 a_1 m t1111 = some o1113 ∧ Mem F w0 w [.box g574 46 (pNAddr.enc a_1)] ∧ Has 19 [(0, (.slice A0 l_0.length c0)), (1, (.func (.func 81) #[] #[(.pointer (some (⟨g574, 0, none⟩)))])), (7, (.int .i64 ((l_0.length : Nat) : Int))), (8, (.int .i64 t1111))] a) k ⟨0, H1112, hM, ((((hA.nil.cons (hA.get 8 _ rfl)).cons (hA.get 7 _ rfl)).cons (hA.get 1 _ rfl)).cons (hA.get 0 _ rfl))⟩ ?_
      clear hM hA; rintro m1114 a w1115 ⟨t1111, H1112, hM, hA⟩
      cases m1114 with
      | zero => exact absurd H1112 (by simp [connect_met.l0])
      | succ m1114 =>
      rw [connect_met.l0] at H1112
      refine wp_seq ?_
      refine wp_region_lit ?_
      refine L1 (stv hA (by decide) (run_bin (hA.ev rfl) (hA.ev rfl) (bin_lss _ _ _ _)) ?_)
      clear hA; intro a hA
      refine LQ ?_
      refine TN ?_
      refine wp_seq ?_
      refine tcond (b := (decide (t1111 < ((l_0.length : Nat) : Int)))) hA rfl (fun hb1116 => ?_) (fun hb1116 => ?_)
      · replace H1112 := ite_t hb1116 H1112
        refine wp_skip ?_
        refine TN ?_
        refine wp_seq ?_
        refine wp_block ?_
        refine wp_seq ?_
        refine wp_region_lit ?_
        refine L1 (stv hA (by decide) (run_move (hA.ev rfl)) ?_)
        clear hA; intro a hA
        refine L1 (stv hA (by decide) (run_assign (hA.ev rfl)) ?_)
        clear hA; intro a hA
        refine LQ ?_
        refine TN ?_
        refine wp_seq ?_
        refine wp_region_lit ?_
        refine L1 (stv hA (by decide) (run_move (hA.ev rfl)) ?_)
        clear hA; intro a hA
        refine L1 (stv hA (by decide) (run_move (hA.ev rfl)) ?_)
        clear hA; intro a hA
        refine L1 (stv hA (by decide) (run_move (hA.ev rfl)) ?_)
        clear hA; intro a hA
        obtain ⟨⟨hi1117, hj1118⟩, H1112⟩ := ite_some H1112
        obtain ⟨ad1119, hq1120, hat1121⟩ := Row.elem' (p := pLink) (hM.ro hr0) (Eq.refl l_0.length) Link.z t1111 hi1117 hj1118
        refine L1 (stv hA (by decide) (run_idx Try.underlying49 Try.sizeOf53 (hA.ev rfl) hq1120 (hA.ev rfl) hi1117 hj1118) ?_)
        clear hA; intro a hA
        refine L1 (stv hA (by decide) (run_ld (hA.ev rfl) (run_loadP Try.isAgg53 Try.sizeOf53 hat1121)) ?_)
        clear hA; intro a hA
        refine L1 (inl_callv (caps := [(.pointer (some (⟨g574, 0, none⟩)))]) Try.call81 hA rfl [(.agg (pLink.enc (l_0.getD t1111.toNat Link.z)).toArray)] rfl (by decide) ?_)
        refine enterL (n := 10) [(.agg (pLink.enc (l_0.getD t1111.toNat Link.z)).toArray), (.pointer (some (⟨g574, 0, none⟩)))] Try.func81 rfl rfl rfl ?_
        clear hA; intro a hA
        refine wp_seq ?_
        refine wp_region_lit ?_
        refine L1 (e_box (cs := (pLink.enc (l_0.getD t1111.toNat Link.z))) hM hA rfl rfl (by decide) ?_)
        clear hM hA; intro w1134 g1133 hM hE  a hA
        refine L1 (stv hA (by decide) (run_assign (hA.ev rfl)) ?_)
        clear hA; intro a hA
        refine LQ ?_
        refine TN ?_
        refine wp_seq ?_
        refine draw (fun w' => Below w1134.heap.size w1134 w') [] rfl ?_
        intro w1136 hw hS; replace hM := hM.ext hS; clear hw
        refine d_takef (i := 0) (L' := #[tT,fF,fF,fF,fF,fF,fF]) rfl (by kernel_rfl) rfl (fun _ _ _ h => h) hA (by decide) (fun _ => hS) (fun a w' hA => run_field' Try.underlying53 rfl rfl Try.sizeOf46 (by decide) (hA.ev rfl)) ?_; clear hA; intro a hA
        refine rebase hS ?_; clear hS; intro hS
        refine d_take (i := 1) (L' := #[tT,tT,fF,fF,fF,fF,fF]) rfl (by kernel_rfl) rfl (fun _ _ _ h => h) hA (by decide) rfl hS (fun a w' hA hS' => run_ld (hA.ev rfl) (run_loadP Try.isAgg46 Try.sizeOf46 ((Link.at_Addr_ (hM.box .z)).extB hS'))) ?_; clear hA; intro a hA
        refine d_take (i := 3) (L' := #[tT,tT,fF,tT,fF,fF,fF]) rfl (by kernel_rfl) rfl (fun _ _ _ h => h) hA (by decide) rfl hS (fun a w' hA hS' => run_ld (hA.ev rfl) (run_loadP Try.isAgg46 Try.sizeOf46 ((hM.box (.s .z)).extB hS'))) ?_; clear hA; intro a hA
        obtain ⟨r1138, H1139, H1112⟩ := Option.bind_eq_some_iff.1 H1112
        refine d_one (i := 2) (L' := #[tT,tT,tT,tT,fF,fF,fF]) (by kernel_rfl) rfl rfl (st_call Try.call24 hA [(.agg (pNAddr.enc ((l_0.getD t1111.toNat Link.z).Addr_)).toArray)] rfl (by decide) (addrbook_Group.calls _ _ _ _ _ (hM.front (Ms := [])) H1139) ?_)
        clear hA; rintro _ w1140 ⟨rfl, hMc⟩ a hA
        have hE := hMc.below; have hM := hM.call (Ms := []) hMc
        clear hMc; simp only [List.cons_append, List.nil_append] at hM
        replace hS := hS.trans (hE.mono hS.size)
        refine ⟨fun _ => hS, ?_⟩
        obtain ⟨r1141, H1142, H1112⟩ := Option.bind_eq_some_iff.1 H1112
        refine d_one (i := 4) (L' := #[tT,tT,tT,tT,tT,fF,fF]) (by kernel_rfl) rfl rfl (st_call Try.call24 hA [(.agg (pNAddr.enc a_1).toArray)] rfl (by decide) (addrbook_Group.calls _ _ _ _ _ (hM.front (Ms := [])) H1142) ?_)
        clear hA; rintro _ w1143 ⟨rfl, hMc⟩ a hA
        have hE := hMc.below; have hM := hM.call (Ms := []) hMc
        clear hMc; simp only [List.cons_append, List.nil_append] at hM
        replace hS := hS.trans (hE.mono hS.size)
        refine ⟨fun _ => hS, ?_⟩
        refine d_takef (i := 5) (L' := #[tT,tT,tT,tT,tT,tT,fF]) rfl (by kernel_rfl) rfl (fun _ _ _ h => h) hA (by decide) (fun _ => hS) (fun a w' hA => run_bin (hA.ev rfl) (hA.ev rfl) (bin_eql _ _ _ _)) ?_; clear hA; intro a hA
        refine d_takef (i := 6) (L' := #[tT,tT,tT,tT,tT,tT,tT]) rfl (by kernel_rfl) rfl (fun _ _ _ h => h) hA (by decide) (fun _ => hS) (fun a w' hA => run_assign (hA.ev rfl)) ?_; clear hA; intro a hA
        refine d_done (by kernel_rfl) ?_
        refine TN ?_
        refine wp_ret ?_
        refine ret_post1 (fn := Try.f81) hA rfl rfl ⟨_, rfl, ?_⟩; clear hA; intro a hA
        refine LQ ?_
        refine TN ?_
        refine tcond (b := (r1138 == r1141)) hA rfl (fun hb1144 => ?_) (fun hb1144 => ?_)
        · replace H1112 := ite_t hb1144 H1112
          refine wp_seq ?_
          refine wp_region_lit ?_
          refine L1 (stv hA (by decide) (run_move (hA.ev rfl)) ?_)
          clear hA; intro a hA
          refine L1 (stv hA (by decide) (run_assign (hA.ev rfl)) ?_)
          clear hA; intro a hA
          refine LQ ?_
          refine TN ?_
          refine wp_ret ?_
          obtain rfl := Option.some.inj H1112
          dsimp only at H1004
          obtain rfl := Option.some.inj H1004
          refine BR ?_
          refine TR ?_
          refine TR ?_
          refine BR ?_
          refine TR ?_
          refine TR ?_
          exact ret_post1 (fn := Try.f96) hA rfl rfl ⟨_, rfl, t1111, rfl, rfl, (hM.sel [1] rfl (by decide))⟩
        · replace H1112 := ite_f hb1144 H1112
          refine wp_skip ?_
          refine BN ?_
          refine TN ?_
          refine wp_region_lit ?_
          refine L1 (stv hA (by decide) (run_bin (hA.ev rfl) (hA.ev rfl) (bin_add _ _ _ _)) ?_)
          clear hA; intro a hA
          refine L1 (stv hA (by decide) (run_move (hA.ev rfl)) ?_)
          clear hA; intro a hA
          refine LQ ?_
          exact ⟨_, Nat.lt_succ_self m1114, IntKind.i64.wrap (t1111 + 1), H1112, (hM.sel [1] rfl (by decide)), ((((hA.nil.cons (hA.get 8 _ rfl)).cons (hA.get 7 _ rfl)).cons (hA.get 1 _ rfl)).cons (hA.get 0 _ rfl))⟩
      · replace H1112 := ite_f hb1116 H1112
        refine wp_exit ?_
        refine TX ?_
        refine TX ?_
        refine BX ?_
        exact ⟨Option.some.inj H1112, hM, hA.nil⟩
    clear hM hA
    rintro a w1145 ⟨rfl, hM, hA⟩
    try dsimp only at H1004
    refine TN ?_
    refine wp_seq ?_
    refine wp_region_lit ?_
    refine L1 (stv hA (by decide) (run_assign (hA.ev rfl)) ?_)
    clear hA; intro a hA
    refine LQ ?_
    refine TN ?_
    refine wp_ret ?_
    obtain rfl := Option.some.inj H1004
    exact ret_post1 (fn := Try.f96) hA rfl rfl ⟨_, rfl, (-1), rfl, rfl, hM⟩
  rintro e w1146 ⟨_, rfl, ⟨t1003, rfl, rfl, hM⟩⟩
  refine ⟨_, rfl, ?_⟩; clear hA; intro a hA; try dsimp only at H
  refine L1 (stv hA (by decide) (run_bin (hA.ev rfl) (hA.ev rfl) (bin_geq _ _ _ _)) ?_)
  clear hA; intro a hA
  refine L1 (stv hA (by decide) (run_assign (hA.ev rfl)) ?_)
  clear hA; intro a hA
  refine LQ ?_
  refine TN ?_
  refine wp_ret ?_
  refine ret_post1 (fn := Try.f80) hA rfl rfl ⟨_, rfl, ?_⟩; clear hA; intro a hA
  refine L1 (stv hA (by decide) (run_assign (hA.ev rfl)) ?_)
  clear hA; intro a hA
  refine LQ ?_
  refine TN ?_
  refine wp_ret ?_
  obtain rfl := Option.some.inj H
  exact ret_post1 (fn := Try.f50) hA rfl rfl ⟨_, rfl, rfl, (hM.sel [] rfl (by decide))⟩

def connect_Sound.l0 (l_0 : (List Link)) : Nat → Int → Option (Out Bool (Unit))
  | 0, _ => none
  | k + 1, t339 => (if (decide (t339 < ((l_0.length : Nat) : Int))) = true then (if 0 ≤ t339 ∧ t339 < ((l_0.length : Nat) : Int) then (Option.bind (α := Bool) ((connect_known.f k ((l_0.getD t339.toNat Link.z).Kind)).bind fun r375 => (if (!r375) = true then (some true) else (if 0 ≤ t339 ∧ t339 ≤ ((l_0.length : Nat) : Int) then ((connect_met.f k (l_0.take t339.toNat) ((l_0.getD t339.toNat Link.z).Addr_)).bind fun r381 => (some r381)) else none))) (fun t370 => (if t370 = true then (some (.ret false)) else (connect_Sound.l0 l_0 k (IntKind.i64.wrap (t339 + 1)))))) else none) else (some (.go ())))
def connect_Sound.f (k : Nat) (l_0 : (List Link)) : Option Bool := (if (decide (((l_0.length : Nat) : Int) > 8)) = true then (some false) else (Option.bind (α := Out Bool (Unit)) (connect_Sound.l0 l_0 k 0) (fun o => match o with | .ret r => some r | .go _ => (some true))))
set_option maxHeartbeats 2000000 in
set_option maxRecDepth 100000 in
theorem connect_Sound.calls (k : Nat) (l_0 : (List Link)) (F : List (Option Nat)) (v0 : Value) (r : Bool) (w0 : World) (h0 : RoV F pLink w0 v0 l_0) (hM : Mem F w0 w0 []) (H : connect_Sound.f k l_0 = some r) :
    Calls Try.prog 25 #[v0] w0 fun e w' => ∃ v, e = .returned v ∧ v = (.bool r) ∧ Mem F w0 w' [] := by
  unfold connect_Sound.f at H
  obtain ⟨A0, c0, rfl, hr0, hc0⟩ := h0
  refine enterL (n := 28) [(.slice A0 l_0.length c0)] Try.func25 rfl rfl rfl ?_
  intro a hA
  refine wp_seq ?_
  refine wp_region_lit ?_
  refine L1 (stv hA (by decide) (run_assign (hA.ev rfl)) ?_)
  clear hA; intro a hA
  refine LQ ?_
  refine TN ?_
  refine wp_seq ?_
  refine wp_seq ?_
  refine wp_region_lit ?_
  refine L1 (stv hA (by decide) (run_move (hA.ev rfl)) ?_)
  clear hA; intro a hA
  refine L1 (stv hA (by decide) (run_len_slice Try.underlying49 (hA.ev rfl)) ?_)
  clear hA; intro a hA
  refine L1 (stv hA (by decide) (run_bin (hA.ev rfl) (hA.ev rfl) (bin_gtr _ _ _ _)) ?_)
  clear hA; intro a hA
  refine LQ ?_
  refine TN ?_
  refine tcond (b := (decide (((l_0.length : Nat) : Int) > 8))) hA rfl (fun hb194 => ?_) (fun hb194 => ?_)
  · replace H := ite_t hb194 H
    refine wp_seq ?_
    refine wp_region_lit ?_
    refine L1 (stv hA (by decide) (run_assign (hA.ev rfl)) ?_)
    clear hA; intro a hA
    refine LQ ?_
    refine TN ?_
    refine wp_ret ?_
    obtain rfl := Option.some.inj H
    refine TR ?_
    exact ret_post1 (fn := Try.f25) hA rfl rfl ⟨_, rfl, rfl, hM⟩
  · replace H := ite_f hb194 H
    refine wp_skip ?_
    refine TN ?_
    refine wp_seq ?_
    refine wp_seq ?_
    refine wp_region_lit ?_
    refine L1 (stv hA (by decide) (run_move (hA.ev rfl)) ?_)
    clear hA; intro a hA
    refine L1 (stv hA (by decide) (run_len_slice Try.underlying49 (hA.ev rfl)) ?_)
    clear hA; intro a hA
    refine L1 (stv hA (by decide) (run_move (hA.ev rfl)) ?_)
    clear hA; intro a hA
    refine LQ ?_
    refine TN ?_
    obtain ⟨o341, H340, H⟩ := Option.bind_eq_some_iff.1 H
    refine cutC (fun a w => (.go ()) = o341 ∧ Mem F w0 w [] ∧ Has 28 [] a) ?_ ?_
    · refine wp_block ?_
      refine wp_loop_ghost (fun m a w => ∃ (t339 : Int), connect_Sound.l0 l_0 m t339 = some o341 ∧ Mem F w0 w [] ∧ Has 28 [(0, (.slice A0 l_0.length c0)), (8, (.slice A0 l_0.length c0)), (9, (.int .i64 ((l_0.length : Nat) : Int))), (10, (.int .i64 t339))] a) k ⟨0, H340, hM, ((((hA.nil.cons (hA.get 10 _ rfl)).cons (hA.get 9 _ rfl)).cons (hA.get 8 _ rfl)).cons (hA.get 0 _ rfl))⟩ ?_
      clear hM hA; rintro m342 a w343 ⟨t339, H340, hM, hA⟩
      cases m342 with
      | zero => exact absurd H340 (by simp [connect_Sound.l0])
      | succ m342 =>
      rw [connect_Sound.l0] at H340
      refine wp_seq ?_
      refine wp_region_lit ?_
      refine L1 (stv hA (by decide) (run_bin (hA.ev rfl) (hA.ev rfl) (bin_lss _ _ _ _)) ?_)
      clear hA; intro a hA
      refine LQ ?_
      refine TN ?_
      refine wp_seq ?_
      refine tcond (b := (decide (t339 < ((l_0.length : Nat) : Int)))) hA rfl (fun hb344 => ?_) (fun hb344 => ?_)
      · replace H340 := ite_t hb344 H340
        refine wp_skip ?_
        refine TN ?_
        refine wp_seq ?_
        refine wp_block ?_
        refine wp_seq ?_
        refine wp_region_lit ?_
        refine L1 (stv hA (by decide) (run_move (hA.ev rfl)) ?_)
        clear hA; intro a hA
        obtain ⟨⟨hi345, hj346⟩, H340⟩ := ite_some H340
        obtain ⟨ad347, hq348, hat349⟩ := Row.elem' (p := pLink) (hM.ro hr0) (Eq.refl l_0.length) Link.z t339 hi345 hj346
        refine L1 (stv hA (by decide) (run_idx Try.underlying49 Try.sizeOf53 (hA.ev rfl) hq348 (hA.ev rfl) hi345 hj346) ?_)
        clear hA; intro a hA
        refine L1 (stv hA (by decide) (run_ld (hA.ev rfl) (run_loadP Try.isAgg53 Try.sizeOf53 hat349)) ?_)
        clear hA; intro a hA
        refine L1 (e_alloc (cs := (pLink.enc Link.z)) hM zero53 rfl hA (by decide) ?_)
        clear hM hA; intro w351 g350 hM hE  a hA
        refine L1 (stv hA (by decide) (run_assign (hA.ev rfl)) ?_)
        clear hA; intro a hA
        refine L1 (e_store (g := g350) (off := 0) (cur := (pLink.enc Link.z)) (cs' := (pLink.enc (l_0.getD t339.toNat Link.z))) hM .z Try.sizeOf53 hA rfl (by simp [add_mk]) rfl (agg_size _ _) (agg_one _ _) (Nat.le_of_ble_eq_true (enc_fitL _ _ rfl)) (spl_all (by first | rfl | (simp [Value.cells, Pl.len]; done) | (simp [Value.cells, Pl.len]; rfl))) ?_)
        clear hM hA; intro w353  hM hE  a hA
        refine LQ ?_
        refine TN ?_
        refine wp_seq ?_
        obtain ⟨o372, H371, H340⟩ := Option.bind_eq_some_iff.1 H340
        refine cutC (fun a w => ∃ (t370 : Bool), t370 = o372 ∧ Mem F w0 w [] ∧ Has 28 [(0, (.slice A0 l_0.length c0)), (8, (.slice A0 l_0.length c0)), (9, (.int .i64 ((l_0.length : Nat) : Int))), (10, (.int .i64 t339)), (26, (.bool t370))] a) ?_ ?_
        · refine draw (fun w' => Below w353.heap.size w353 w') [] rfl ?_
          intro w373 hw hS; replace hM := hM.ext hS; clear hw
          refine d_takef (i := 0) (L' := #[tT,fF,fF,fF,fF,fF,fF,fF,fF,fF,fF,fF]) rfl (by kernel_rfl) rfl (fun _ _ _ h => h) hA (by decide) (fun _ => hS) (fun a w' hA => run_field' Try.underlying53 rfl rfl Try.sizeOf3 (by decide) (hA.ev rfl)) ?_; clear hA; intro a hA
          refine rebase hS ?_; clear hS; intro hS
          refine d_take (i := 1) (L' := #[tT,tT,fF,fF,fF,fF,fF,fF,fF,fF,fF,fF]) rfl (by kernel_rfl) rfl (fun _ _ _ h => h) hA (by decide) rfl hS (fun a w' hA hS' => run_ld (hA.ev rfl) (run_loadS Try.isAgg3 ((Link.at_Kind (hM.box .z)).extB hS'))) ?_; clear hA; intro a hA
          obtain ⟨r375, H376, H371⟩ := Option.bind_eq_some_iff.1 H371
          refine d_one (i := 2) (L' := #[tT,tT,tT,fF,fF,fF,fF,fF,fF,fF,fF,fF]) (by kernel_rfl) rfl rfl (st_call Try.call49 hA [(.int .i64 ((l_0.getD t339.toNat Link.z).Kind))] rfl (by decide) (connect_known.calls _ _ _ _ _ (hM.front (Ms := [])) H376) ?_)
          clear hA; rintro _ w377 ⟨rfl, hMc⟩ a hA
          have hE := hMc.below; have hM := hM.call (Ms := []) hMc
          clear hMc; simp only [List.cons_append, List.nil_append] at hM
          replace hS := hS.trans (hE.mono hS.size)
          refine ⟨fun _ => hS, ?_⟩
          refine d_takef (i := 3) (L' := #[tT,tT,tT,tT,fF,fF,fF,fF,fF,fF,fF,fF]) rfl (by kernel_rfl) rfl (fun _ _ _ h => h) hA (by decide) (fun _ => hS) (fun a w' hA => run_not (hA.ev rfl)) ?_; clear hA; intro a hA
          refine d_takef (i := 4) (L' := #[tT,tT,tT,tT,tT,fF,fF,fF,fF,fF,fF,fF]) rfl (by kernel_rfl) rfl (fun _ _ _ h => h) hA (by decide) (fun _ => hS) (fun a w' hA => run_move (hA.ev rfl)) ?_; clear hA; intro a hA
          refine bsplit (b := (!r375)) (fun hb378 => ?_) (fun hb378 => ?_)
          · replace H371 := ite_t hb378 H371
            have hA := hA.re (t := 19) rfl (congrArg Value.bool hb378)
            refine d_skip (i := 5) (L' := #[tT,tT,tT,tT,tT,tT,fF,fF,fF,fF,fF,fF]) rfl (by kernel_rfl) rfl (fun _ _ _ h => h) rfl hA (by decide) (by decide) rfl rfl (fun _ => hS) ?_; clear hA; intro a hA
            refine d_skip (i := 6) (L' := #[tT,tT,tT,tT,tT,tT,tT,fF,fF,fF,fF,fF]) rfl (by kernel_rfl) rfl (fun _ _ _ h => h) rfl hA (by decide) (by decide) rfl rfl (fun _ => hS) ?_; clear hA; intro a hA
            refine d_skip (i := 7) (L' := #[tT,tT,tT,tT,tT,tT,tT,tT,fF,fF,fF,fF]) rfl (by kernel_rfl) rfl (fun _ _ _ h => h) rfl hA (by decide) (by decide) rfl rfl (fun _ => hS) ?_; clear hA; intro a hA
            refine d_skip (i := 8) (L' := #[tT,tT,tT,tT,tT,tT,tT,tT,tT,fF,fF,fF]) rfl (by kernel_rfl) rfl (fun _ _ _ h => h) rfl hA (by decide) (by decide) rfl rfl (fun _ => hS) ?_; clear hA; intro a hA
            refine d_skip (i := 9) (L' := #[tT,tT,tT,tT,tT,tT,tT,tT,tT,tT,fF,fF]) rfl (by kernel_rfl) rfl (fun _ _ _ h => h) rfl hA (by decide) (by decide) rfl rfl (fun _ => hS) ?_; clear hA; intro a hA
            refine d_one (i := 10) (L' := #[tT,tT,tT,tT,tT,tT,tT,tT,tT,tT,tT,fF]) (by kernel_rfl) rfl rfl (gate_off rfl (by decide) rfl hA (by decide) rfl rfl ?_); clear hA; intro a hA
            refine ⟨fun _ => hS, ?_⟩
            refine d_takef (i := 11) (L' := #[tT,tT,tT,tT,tT,tT,tT,tT,tT,tT,tT,tT]) rfl (by kernel_rfl) rfl (fun _ _ _ h => h) hA (by decide) (fun _ => hS) (fun a w' hA => run_pick (hA.ev rfl) (fun _ => hA.ev rfl) (fun h => Bool.noConfusion h)) ?_; clear hA; intro a hA
            refine d_done (by kernel_rfl) ?_
            exact ⟨true, Option.some.inj H371, (hM.sel [] rfl (by decide)), (((((hA.nil.cons (hA.get 26 _ rfl)).cons (hA.get 10 _ rfl)).cons (hA.get 9 _ rfl)).cons (hA.get 8 _ rfl)).cons (hA.get 0 _ rfl))⟩
          · replace H371 := ite_f hb378 H371
            have hA := hA.re (t := 19) rfl (congrArg Value.bool hb378)
            refine d_takegf (i := 5) (L' := #[tT,tT,tT,tT,tT,tT,fF,fF,fF,fF,fF,fF]) rfl (by kernel_rfl) rfl (fun _ _ _ h => h) rfl hA (by decide) (by decide) rfl (fun _ => hS) (fun a w' hA => run_move (hA.ev rfl)) ?_; clear hA; intro a hA
            refine d_takegf (i := 6) (L' := #[tT,tT,tT,tT,tT,tT,tT,fF,fF,fF,fF,fF]) rfl (by kernel_rfl) rfl (fun _ _ _ h => h) rfl hA (by decide) (by decide) rfl (fun _ => hS) (fun a w' hA => run_move (hA.ev rfl)) ?_; clear hA; intro a hA
            obtain ⟨⟨hi379, hj380⟩, H371⟩ := ite_some H371
            refine d_takegf (i := 7) (L' := #[tT,tT,tT,tT,tT,tT,tT,tT,fF,fF,fF,fF]) rfl (by kernel_rfl) rfl (fun _ _ _ h => h) rfl hA (by decide) (by decide) rfl (fun _ => hS) (fun a w' hA => run_hi Try.underlying49 Try.sizeOf53 hc0 hi379 hj380 (hA.ev rfl) (hA.ev rfl)) ?_; clear hA; intro a hA
            refine d_takegf (i := 8) (L' := #[tT,tT,tT,tT,tT,tT,tT,tT,tT,fF,fF,fF]) rfl (by kernel_rfl) rfl (fun _ _ _ h => h) rfl hA (by decide) (by decide) rfl (fun _ => hS) (fun a w' hA => run_field' Try.underlying53 rfl rfl Try.sizeOf46 (by decide) (hA.ev rfl)) ?_; clear hA; intro a hA
            refine rebase hS ?_; clear hS; intro hS
            refine d_takeg (i := 9) (L' := #[tT,tT,tT,tT,tT,tT,tT,tT,tT,tT,fF,fF]) rfl (by kernel_rfl) rfl (fun _ _ _ h => h) rfl hA (by decide) (by decide) rfl rfl hS (fun a w' hA hS' => run_ld (hA.ev rfl) (run_loadP Try.isAgg46 Try.sizeOf46 ((Link.at_Addr_ (hM.box .z)).extB hS'))) ?_; clear hA; intro a hA
            obtain ⟨r381, H382, H371⟩ := Option.bind_eq_some_iff.1 H371
            refine d_one (i := 10) (L' := #[tT,tT,tT,tT,tT,tT,tT,tT,tT,tT,tT,fF]) (by kernel_rfl) rfl rfl (gate_on rfl rfl hA (by decide) rfl (st_call Try.call50 hA [(.slice A0 t339.toNat c0), (.agg (pNAddr.enc ((l_0.getD t339.toNat Link.z).Addr_)).toArray)] rfl (by decide) (connect_met.calls _ _ _ _ _ _ _ ((RoV.mk (Ro.take (hM.roC (Ms := []) hr0) t339.toNat) (len_take (Eq.refl l_0.length) (by omega)) (by have hh1 := hc0; omega))) (hM.front (Ms := [])) H382) ?_))
            clear hA; rintro _ w383 ⟨rfl, hMc⟩ a hA
            have hE := hMc.below; have hM := hM.call (Ms := []) hMc
            clear hMc; simp only [List.cons_append, List.nil_append] at hM
            replace hS := hS.trans (hE.mono hS.size)
            refine ⟨fun _ => hS, ?_⟩
            refine d_takef (i := 11) (L' := #[tT,tT,tT,tT,tT,tT,tT,tT,tT,tT,tT,tT]) rfl (by kernel_rfl) rfl (fun _ _ _ h => h) hA (by decide) (fun _ => hS) (fun a w' hA => run_pick (hA.ev rfl) (fun h => Bool.noConfusion h) (fun _ => hA.ev rfl)) ?_; clear hA; intro a hA
            refine d_done (by kernel_rfl) ?_
            exact ⟨r381, Option.some.inj H371, (hM.sel [] rfl (by decide)), (((((hA.nil.cons (hA.get 26 _ rfl)).cons (hA.get 10 _ rfl)).cons (hA.get 9 _ rfl)).cons (hA.get 8 _ rfl)).cons (hA.get 0 _ rfl))⟩
        clear hM hA
        rintro a w384 ⟨t370, rfl, hM, hA⟩
        try dsimp only at H340
        refine TN ?_
        refine tcond (b := t370) hA rfl (fun hb385 => ?_) (fun hb385 => ?_)
        · replace H340 := ite_t hb385 H340
          refine wp_seq ?_
          refine wp_region_lit ?_
          refine L1 (stv hA (by decide) (run_assign (hA.ev rfl)) ?_)
          clear hA; intro a hA
          refine LQ ?_
          refine TN ?_
          refine wp_ret ?_
          obtain rfl := Option.some.inj H340
          dsimp only at H
          obtain rfl := Option.some.inj H
          refine BR ?_
          refine TR ?_
          refine TR ?_
          refine BR ?_
          refine TR ?_
          refine TR ?_
          exact ret_post1 (fn := Try.f25) hA rfl rfl ⟨_, rfl, rfl, hM⟩
        · replace H340 := ite_f hb385 H340
          refine wp_skip ?_
          refine BN ?_
          refine TN ?_
          refine wp_region_lit ?_
          refine L1 (stv hA (by decide) (run_bin (hA.ev rfl) (hA.ev rfl) (bin_add _ _ _ _)) ?_)
          clear hA; intro a hA
          refine L1 (stv hA (by decide) (run_move (hA.ev rfl)) ?_)
          clear hA; intro a hA
          refine LQ ?_
          exact ⟨_, Nat.lt_succ_self m342, IntKind.i64.wrap (t339 + 1), H340, hM, ((((hA.nil.cons (hA.get 10 _ rfl)).cons (hA.get 9 _ rfl)).cons (hA.get 8 _ rfl)).cons (hA.get 0 _ rfl))⟩
      · replace H340 := ite_f hb344 H340
        refine wp_exit ?_
        refine TX ?_
        refine TX ?_
        refine BX ?_
        exact ⟨Option.some.inj H340, hM, hA.nil⟩
    clear hM hA
    rintro a w386 ⟨rfl, hM, hA⟩
    try dsimp only at H
    refine TN ?_
    refine wp_seq ?_
    refine wp_region_lit ?_
    refine L1 (stv hA (by decide) (run_assign (hA.ev rfl)) ?_)
    clear hA; intro a hA
    refine LQ ?_
    refine TN ?_
    refine wp_ret ?_
    obtain rfl := Option.some.inj H
    exact ret_post1 (fn := Try.f25) hA rfl rfl ⟨_, rfl, rfl, hM⟩

def connect_fresh.l0 (places_0 : (List Place)) (l_1 : (List Link)) : Nat → (List NAddr) → Int → Option ((List NAddr))
  | 0, _, _ => none
  | k + 1, xs379, t383 => (if (decide (t383 < ((places_0.length : Nat) : Int))) = true then (if 0 ≤ t383 ∧ t383 < ((places_0.length : Nat) : Int) then ((connect_met.f k l_1 ((places_0.getD t383.toNat Place.z).Addr_)).bind fun r405 => (Option.bind (α := (List NAddr)) (if (!r405) = true then (if (xs379.length + 1) * 12 ≤ 140737488355328 then (some (xs379 ++ [(places_0.getD t383.toNat Place.z).Addr_])) else none) else (some xs379)) (fun xs421 => (connect_fresh.l0 places_0 l_1 k xs421 (IntKind.i64.wrap (t383 + 1)))))) else none) else (some xs379))
def connect_fresh.f (k : Nat) (places_0 : (List Place)) (l_1 : (List Link)) : Option (List NAddr) := (Option.bind (α := (List NAddr)) (connect_fresh.l0 places_0 l_1 k ([] : List NAddr) 0) (fun xs389 => (some xs389)))
set_option maxHeartbeats 2000000 in
set_option maxRecDepth 100000 in
theorem connect_fresh.calls (k : Nat) (places_0 : (List Place)) (l_1 : (List Link)) (F : List (Option Nat)) (v0 : Value) (v1 : Value) (r : (List NAddr)) (w0 : World) (h0 : RoV F pPlace w0 v0 places_0) (h1 : RoV F pLink w0 v1 l_1) (hM : Mem F w0 w0 []) (H : connect_fresh.f k places_0 l_1 = some r) :
    Calls Try.prog 51 #[v0, v1] w0 fun e w' => ∃ v, e = .returned v ∧ ∃ (ur_0 : Value), v = ur_0 ∧ Mem F w0 w' [.row 46 pNAddr.sz ur_0 (pNAddr.flat r)] := by
  unfold connect_fresh.f at H
  obtain ⟨A0, c0, rfl, hr0, hc0⟩ := h0
  obtain ⟨A1, c1, rfl, hr1, hc1⟩ := h1
  refine enterL (n := 26) [(.slice A0 places_0.length c0), (.slice A1 l_1.length c1)] Try.func51 rfl rfl rfl ?_
  intro a hA
  refine wp_seq ?_
  refine wp_region_lit ?_
  refine L1 (stv hA (by decide) (run_assign (hA.ev rfl)) ?_)
  clear hA; intro a hA
  refine LQ ?_
  refine TN ?_
  refine wp_seq ?_
  refine wp_region_lit ?_
  refine L1 (stv hA (by decide) (run_assign (hA.ev rfl)) ?_)
  clear hA; intro a hA
  refine LQ ?_
  refine TN ?_
  refine wp_seq ?_
  refine wp_seq ?_
  refine wp_region_lit ?_
  refine L1 (stv hA (by decide) (run_move (hA.ev rfl)) ?_)
  clear hA; intro a hA
  refine L1 (stv hA (by decide) (run_len_slice Try.underlying39 (hA.ev rfl)) ?_)
  clear hA; intro a hA
  refine L1 (stv hA (by decide) (run_move (hA.ev rfl)) ?_)
  clear hA; intro a hA
  refine LQ ?_
  refine TN ?_
  obtain ⟨o391, H390, H⟩ := Option.bind_eq_some_iff.1 H
  refine cutC (fun a w => ∃ (xs389 : (List NAddr)) (v386 : Value), xs389 = o391 ∧ Mem F w0 w [.row 46 pNAddr.sz v386 (pNAddr.flat xs389)] ∧ Has 26 [(5, v386)] a) ?_ ?_
  · refine wp_block ?_
    have hM := hM.addnil 46 (pNAddr).sz
    refine wp_loop_ghost (fun m a w => ∃ (xs379 : (List NAddr)) (t383 : Int) (v376 : Value), connect_fresh.l0 places_0 l_1 m xs379 t383 = some o391 ∧ Mem F w0 w [.row 46 pNAddr.sz v376 (pNAddr.flat xs379)] ∧ Has 26 [(1, (.slice A1 l_1.length c1)), (5, v376), (8, (.slice A0 places_0.length c0)), (9, (.int .i64 ((places_0.length : Nat) : Int))), (10, (.int .i64 t383))] a) k ⟨([] : List NAddr), 0, (.slice none 0 0), H390, hM, (((((hA.nil.cons (hA.get 10 _ rfl)).cons (hA.get 9 _ rfl)).cons (hA.get 8 _ rfl)).cons (hA.get 5 _ rfl)).cons (hA.get 1 _ rfl))⟩ ?_
    clear hM hA; rintro m393 a w394 ⟨xs379, t383, v376, H390, hM, hA⟩
    cases m393 with
    | zero => exact absurd H390 (by simp [connect_fresh.l0])
    | succ m393 =>
    rw [connect_fresh.l0] at H390
    obtain ⟨A377, c378, rfl⟩ := RowOk.form (hM.row (p := pNAddr) .z)
    refine wp_seq ?_
    refine wp_region_lit ?_
    refine L1 (stv hA (by decide) (run_bin (hA.ev rfl) (hA.ev rfl) (bin_lss _ _ _ _)) ?_)
    clear hA; intro a hA
    refine LQ ?_
    refine TN ?_
    refine wp_seq ?_
    refine tcond (b := (decide (t383 < ((places_0.length : Nat) : Int)))) hA rfl (fun hb395 => ?_) (fun hb395 => ?_)
    · replace H390 := ite_t hb395 H390
      refine wp_skip ?_
      refine TN ?_
      refine wp_seq ?_
      refine wp_block ?_
      refine wp_seq ?_
      refine wp_region_lit ?_
      obtain ⟨⟨hi396, hj397⟩, H390⟩ := ite_some H390
      obtain ⟨ad398, hq399, hat400⟩ := Row.elem' (p := pPlace) (hM.ro hr0) (Eq.refl places_0.length) Place.z t383 hi396 hj397
      refine L1 (stv hA (by decide) (run_idx Try.underlying39 Try.sizeOf70 (hA.ev rfl) hq399 (hA.ev rfl) hi396 hj397) ?_)
      clear hA; intro a hA
      refine L1 (stv hA (by decide) (run_ld (hA.ev rfl) (run_loadP Try.isAgg70 Try.sizeOf70 hat400)) ?_)
      clear hA; intro a hA
      refine L1 (e_alloc (cs := (pPlace.enc Place.z)) hM zero70 rfl hA (by decide) ?_)
      clear hM hA; intro w402 g401 hM hE  a hA
      refine L1 (e_store (g := g401) (off := 0) (cur := (pPlace.enc Place.z)) (cs' := (pPlace.enc (places_0.getD t383.toNat Place.z))) hM .z Try.sizeOf70 hA rfl (by simp [add_mk]) rfl (agg_size _ _) (agg_one _ _) (Nat.le_of_ble_eq_true (enc_fitL _ _ rfl)) (spl_all (by first | rfl | (simp [Value.cells, Pl.len]; done) | (simp [Value.cells, Pl.len]; rfl))) ?_)
      clear hM hA; intro w404  hM hE  a hA
      refine LQ ?_
      refine TN ?_
      refine wp_seq ?_
      refine wp_region_lit ?_
      refine L1 (stv hA (by decide) (run_move (hA.ev rfl)) ?_)
      clear hA; intro a hA
      refine L1 (stv hA (by decide) (run_field' Try.underlying70 rfl rfl Try.sizeOf46 (by decide) (hA.ev rfl)) ?_)
      clear hA; intro a hA
      refine L1 (stv hA (by decide) (run_ld (hA.ev rfl) (run_loadP Try.isAgg46 Try.sizeOf46 (Place.at_Addr_ (hM.box .z)))) ?_)
      clear hA; intro a hA
      obtain ⟨r405, H406, H390⟩ := Option.bind_eq_some_iff.1 H390
      refine L1 (st_call Try.call50 hA [(.slice A1 l_1.length c1), (.agg (pNAddr.enc ((places_0.getD t383.toNat Place.z).Addr_)).toArray)] rfl (by decide) (connect_met.calls _ _ _ _ _ _ _ ((RoV.mk (hM.roC (Ms := []) hr1) (Eq.refl l_1.length) hc1)) (hM.front (Ms := [])) H406) ?_)
      clear hA; rintro _ w407 ⟨rfl, hMc⟩ a hA
      have hE := hMc.below; have hM := hM.call (Ms := []) hMc
      clear hMc; simp only [List.cons_append, List.nil_append] at hM
      refine L1 (stv hA (by decide) (run_not (hA.ev rfl)) ?_)
      clear hA; intro a hA
      refine LQ ?_
      refine TN ?_
      obtain ⟨o426, H425, H390⟩ := Option.bind_eq_some_iff.1 H390
      refine cutC (fun a w => ∃ (xs421 : (List NAddr)) (v418 : Value), xs421 = o426 ∧ Mem F w0 w [.row 46 pNAddr.sz v418 (pNAddr.flat xs421)] ∧ Has 26 [(1, (.slice A1 l_1.length c1)), (5, v418), (8, (.slice A0 places_0.length c0)), (9, (.int .i64 ((places_0.length : Nat) : Int))), (10, (.int .i64 t383))] a) ?_ ?_
      · refine tcond (b := (!r405)) hA rfl (fun hb427 => ?_) (fun hb427 => ?_)
        · replace H425 := ite_t hb427 H425
          refine wp_region_lit ?_
          refine L1 (stv hA (by decide) (run_move (hA.ev rfl)) ?_)
          clear hA; intro a hA
          refine L1 (stv hA (by decide) (run_field' Try.underlying70 rfl rfl Try.sizeOf46 (by decide) (hA.ev rfl)) ?_)
          clear hA; intro a hA
          refine L1 (stv hA (by decide) (run_ld (hA.ev rfl) (run_loadP Try.isAgg46 Try.sizeOf46 (Place.at_Addr_ (hM.box .z)))) ?_)
          clear hA; intro a hA
          refine L1 (e_litN [(places_0.getD t383.toNat Place.z).Addr_] [(.agg (pNAddr.enc ((places_0.getD t383.toNat Place.z).Addr_)).toArray)] elt48 hM rfl (by decide) hA rfl rfl (List.cons_ne_nil _ _) (by decide) ?_)
          clear hM hA; intro w429 g428 hM hE  a hA
          obtain ⟨hl433, H425⟩ := ite_some H425
          refine L1 (e_append elt48 hM (fun _ => (.s (.s .z))) (Src.row Try.underlying48 (RowOk.row (hM.row (p := pNAddr) .z)) (RowOk.len (hM.row (p := pNAddr) .z))) hl433 hA rfl rfl (by decide) ?_)
          clear hM hA; intro w434 A431 c432 hM hE  a hA
          refine L1 (stv hA (by decide) (run_assign (hA.ev rfl)) ?_)
          clear hA; intro a hA
          refine LQ ?_
          exact ⟨(xs379 ++ [(places_0.getD t383.toNat Place.z).Addr_]), (.slice A431 (xs379.length + 1) c432), Option.some.inj H425, (hM.sel [2] rfl (by decide)), (((((hA.nil.cons (hA.get 10 _ rfl)).cons (hA.get 9 _ rfl)).cons (hA.get 8 _ rfl)).cons (hA.get 5 _ rfl)).cons (hA.get 1 _ rfl))⟩
        · replace H425 := ite_f hb427 H425
          refine wp_skip ?_
          exact ⟨xs379, (.slice A377 xs379.length c378), Option.some.inj H425, (hM.sel [1] rfl (by decide)), (((((hA.nil.cons (hA.get 10 _ rfl)).cons (hA.get 9 _ rfl)).cons (hA.get 8 _ rfl)).cons (hA.get 5 _ rfl)).cons (hA.get 1 _ rfl))⟩
      clear hM hA
      rintro a w435 ⟨xs421, v418, rfl, hM, hA⟩
      try dsimp only at H390
      obtain ⟨A419, c420, rfl⟩ := RowOk.form (hM.row (p := pNAddr) .z)
      refine BN ?_
      refine TN ?_
      refine wp_region_lit ?_
      refine L1 (stv hA (by decide) (run_bin (hA.ev rfl) (hA.ev rfl) (bin_add _ _ _ _)) ?_)
      clear hA; intro a hA
      refine L1 (stv hA (by decide) (run_move (hA.ev rfl)) ?_)
      clear hA; intro a hA
      refine LQ ?_
      exact ⟨_, Nat.lt_succ_self m393, xs421, IntKind.i64.wrap (t383 + 1), (.slice A419 xs421.length c420), H390, hM, (((((hA.nil.cons (hA.get 10 _ rfl)).cons (hA.get 9 _ rfl)).cons (hA.get 8 _ rfl)).cons (hA.get 5 _ rfl)).cons (hA.get 1 _ rfl))⟩
    · replace H390 := ite_f hb395 H390
      refine wp_exit ?_
      refine TX ?_
      refine TX ?_
      refine BX ?_
      exact ⟨xs379, (.slice A377 xs379.length c378), Option.some.inj H390, hM, (hA.nil.cons (hA.get 5 _ rfl))⟩
  clear hM hA
  rintro a w436 ⟨xs389, v386, rfl, hM, hA⟩
  try dsimp only at H
  obtain ⟨A387, c388, rfl⟩ := RowOk.form (hM.row (p := pNAddr) .z)
  refine TN ?_
  refine wp_seq ?_
  refine wp_region_lit ?_
  refine L1 (stv hA (by decide) (run_move (hA.ev rfl)) ?_)
  clear hA; intro a hA
  refine L1 (stv hA (by decide) (run_assign (hA.ev rfl)) ?_)
  clear hA; intro a hA
  refine LQ ?_
  refine TN ?_
  refine wp_ret ?_
  obtain rfl := Option.some.inj H
  exact ret_post1 (fn := Try.f51) hA rfl rfl ⟨_, rfl, (.slice A387 xs389.length c388), rfl, hM⟩

def connect_Candidates.f (k : Nat) (b_0 : Book) (l_1 : (List Link)) (kind_2 : Int) : Option (List NAddr) := (if (kind_2 == 2) = true then ((connect_fresh.f k b_0.Tried l_1).bind fun r41 => ((connect_fresh.f k b_0.Heard l_1).bind fun r48 => (if (r41.length + r48.length) * 12 ≤ 140737488355328 then (some (r41 ++ r48)) else none))) else (if (kind_2 == 3) = true then ((connect_fresh.f k b_0.Heard l_1).bind fun r62 => (some r62)) else (some ([] : List NAddr))))
set_option maxHeartbeats 2000000 in
set_option maxRecDepth 100000 in
theorem connect_Candidates.calls (k : Nat) (b_0 : Book) (l_1 : (List Link)) (kind_2 : Int) (F : List (Option Nat)) (v0_1 : Value) (v0_2 : Value) (v1 : Value) (r : (List NAddr)) (w0 : World) (h0_1 : RoV F pPlace w0 v0_1 b_0.Heard) (h0_2 : RoV F pPlace w0 v0_2 b_0.Tried) (h1 : RoV F pLink w0 v1 l_1) (hM : Mem F w0 w0 []) (H : connect_Candidates.f k b_0 l_1 kind_2 = some r) :
    Calls Try.prog 26 #[(.agg (List.flatten [pHash.enc b_0.Salt, [v0_1], [v0_2]]).toArray), v1, (.int .i64 kind_2)] w0 fun e w' => ∃ v, e = .returned v ∧ ∃ (ur_0 : Value), v = ur_0 ∧ Mem F w0 w' [.row 46 pNAddr.sz ur_0 (pNAddr.flat r)] := by
  unfold connect_Candidates.f at H
  obtain ⟨A0_1, c0_1, rfl, hr0_1, hc0_1⟩ := h0_1
  obtain ⟨A0_2, c0_2, rfl, hr0_2, hc0_2⟩ := h0_2
  obtain ⟨A1, c1, rfl, hr1, hc1⟩ := h1
  refine enterL (n := 25) [(.agg (List.flatten [pHash.enc b_0.Salt, [(.slice A0_1 b_0.Heard.length c0_1)], [(.slice A0_2 b_0.Tried.length c0_2)]]).toArray), (.slice A1 l_1.length c1), (.int .i64 kind_2)] Try.func26 rfl rfl rfl ?_
  intro a hA
  refine wp_seq ?_
  refine wp_region_lit ?_
  refine L1 (e_box (cs := (List.flatten [pHash.enc b_0.Salt, [(.slice A0_1 b_0.Heard.length c0_1)], [(.slice A0_2 b_0.Tried.length c0_2)]])) hM hA rfl rfl (by decide) ?_)
  clear hM hA; intro w36 g35 hM hE  a hA
  refine L1 (stv hA (by decide) (run_assign (hA.ev rfl)) ?_)
  clear hA; intro a hA
  refine LQ ?_
  refine TN ?_
  refine wp_seq ?_
  refine wp_seq ?_
  refine wp_region_lit ?_
  refine L1 (stv hA (by decide) (run_move (hA.ev rfl)) ?_)
  clear hA; intro a hA
  refine LQ ?_
  refine TN ?_
  refine wp_block ?_
  refine wp_seq ?_
  refine wp_region_lit ?_
  refine L1 (stv hA (by decide) (run_bin (hA.ev rfl) (hA.ev rfl) (bin_eql _ _ _ _)) ?_)
  clear hA; intro a hA
  refine L1 (stv hA (by decide) (run_assign (hA.ev rfl)) ?_)
  clear hA; intro a hA
  refine LQ ?_
  refine TN ?_
  refine tcond (b := (kind_2 == 2)) hA rfl (fun hb38 => ?_) (fun hb38 => ?_)
  · replace H := ite_t hb38 H
    refine wp_seq ?_
    refine draw (fun w' => Below w36.heap.size w36 w') [] rfl ?_
    intro w39 hw hS; replace hM := hM.ext hS; clear hw
    refine d_takef (i := 0) (L' := #[tT,fF,fF,fF,fF,fF,fF,fF,fF,fF]) rfl (by kernel_rfl) rfl (fun _ _ _ h => h) hA (by decide) (fun _ => hS) (fun a w' hA => run_field' Try.underlying41 rfl rfl Try.sizeOf39 (by decide) (hA.ev rfl)) ?_; clear hA; intro a hA
    refine rebase hS ?_; clear hS; intro hS
    refine d_take (i := 1) (L' := #[tT,tT,fF,fF,fF,fF,fF,fF,fF,fF]) rfl (by kernel_rfl) rfl (fun _ _ _ h => h) hA (by decide) rfl hS (fun a w' hA hS' => run_ld (hA.ev rfl) (run_loadS Try.isAgg39 ((At.seg (segs := [pHash.enc b_0.Salt, [(.slice A0_1 b_0.Heard.length c0_1)], [(.slice A0_2 b_0.Tried.length c0_2)]]) (hM.box .z) 2 rfl (by simp [Pl.len]; try rfl)).extB hS'))) ?_; clear hA; intro a hA
    refine d_takef (i := 2) (L' := #[tT,tT,tT,fF,fF,fF,fF,fF,fF,fF]) rfl (by kernel_rfl) rfl (fun _ _ _ h => h) hA (by decide) (fun _ => hS) (fun a w' hA => run_move (hA.ev rfl)) ?_; clear hA; intro a hA
    refine d_takef (i := 4) (L' := #[tT,tT,tT,fF,tT,fF,fF,fF,fF,fF]) rfl (by kernel_rfl) rfl (fun _ _ _ h => h) hA (by decide) (fun _ => hS) (fun a w' hA => run_field' Try.underlying41 rfl rfl Try.sizeOf39 (by decide) (hA.ev rfl)) ?_; clear hA; intro a hA
    refine d_take (i := 5) (L' := #[tT,tT,tT,fF,tT,tT,fF,fF,fF,fF]) rfl (by kernel_rfl) rfl (fun _ _ _ h => h) hA (by decide) rfl hS (fun a w' hA hS' => run_ld (hA.ev rfl) (run_loadS Try.isAgg39 ((At.seg (segs := [pHash.enc b_0.Salt, [(.slice A0_1 b_0.Heard.length c0_1)], [(.slice A0_2 b_0.Tried.length c0_2)]]) (hM.box .z) 1 rfl (by simp [Pl.len]; try rfl)).extB hS'))) ?_; clear hA; intro a hA
    refine d_takef (i := 6) (L' := #[tT,tT,tT,fF,tT,tT,tT,fF,fF,fF]) rfl (by kernel_rfl) rfl (fun _ _ _ h => h) hA (by decide) (fun _ => hS) (fun a w' hA => run_move (hA.ev rfl)) ?_; clear hA; intro a hA
    obtain ⟨r41, H42, H⟩ := Option.bind_eq_some_iff.1 H
    refine d_one (i := 3) (L' := #[tT,tT,tT,tT,tT,tT,tT,fF,fF,fF]) (by kernel_rfl) rfl rfl (st_call Try.call51 hA [(.slice A0_2 b_0.Tried.length c0_2), (.slice A1 l_1.length c1)] rfl (by decide) (connect_fresh.calls _ _ _ _ _ _ _ _ ((RoV.mk (hM.roC (Ms := []) hr0_2) (Eq.refl b_0.Tried.length) hc0_2)) ((RoV.mk (hM.roC (Ms := []) hr1) (Eq.refl l_1.length) hc1)) (hM.front (Ms := [])) H42) ?_)
    clear hA; rintro _ w43 ⟨v44, rfl, hMc⟩ a hA
    have hE := hMc.below; have hM := hM.call (Ms := []) hMc
    have hlw45 : ∀ k, _ → w39.heap.size ≤ k := fun k hk => Nat.le_trans hS.size ((hMc.low _ (List.Mem.head _) k hk).resolve_right (by simp))
    clear hMc; simp only [List.cons_append, List.nil_append] at hM
    obtain ⟨A46, c47, rfl⟩ := RowOk.form (hM.row (p := pNAddr) .z)
    replace hS := hS.trans (hE.mono hS.size)
    refine ⟨fun _ => hS, ?_⟩
    obtain ⟨r48, H49, H⟩ := Option.bind_eq_some_iff.1 H
    refine d_one (i := 7) (L' := #[tT,tT,tT,tT,tT,tT,tT,tT,fF,fF]) (by kernel_rfl) rfl rfl (st_call Try.call51 hA [(.slice A0_1 b_0.Heard.length c0_1), (.slice A1 l_1.length c1)] rfl (by decide) (connect_fresh.calls _ _ _ _ _ _ _ _ ((RoV.mk (hM.roC (Ms := []) hr0_1) (Eq.refl b_0.Heard.length) hc0_1)) ((RoV.mk (hM.roC (Ms := []) hr1) (Eq.refl l_1.length) hc1)) (hM.front (Ms := [])) H49) ?_)
    clear hA; rintro _ w50 ⟨v51, rfl, hMc⟩ a hA
    have hE := hMc.below; have hM := hM.call (Ms := []) hMc
    have hlw52 : ∀ k, _ → w39.heap.size ≤ k := fun k hk => Nat.le_trans hS.size ((hMc.low _ (List.Mem.head _) k hk).resolve_right (by simp))
    clear hMc; simp only [List.cons_append, List.nil_append] at hM
    obtain ⟨A53, c54, rfl⟩ := RowOk.form (hM.row (p := pNAddr) .z)
    replace hS := hS.trans (hE.mono hS.size)
    refine ⟨fun _ => hS, ?_⟩
    obtain ⟨hl57, H⟩ := ite_some H
    refine d_one (i := 8) (L' := #[tT,tT,tT,tT,tT,tT,tT,tT,tT,fF]) (by kernel_rfl) rfl rfl (e_appendL elt48 hM (fun _ => (.s .z)) (Src.row Try.underlying48 (RowOk.row (hM.row (p := pNAddr) .z)) (RowOk.len (hM.row (p := pNAddr) .z))) hl57 hA rfl rfl (by decide) ?_)
    clear hM hA; intro w58 A55 c56 hM hE hlo59 a hA
    have hlw60 : ∀ k, Value.ownBlock (.slice A55 (r41.length + r48.length) c56) = some k → w39.heap.size ≤ k := hlo59 _ hS.size hlw45
    replace hS := hS.grown hE hS.size hlw45
    refine ⟨fun _ => hS, ?_⟩
    refine d_takef (i := 9) (L' := #[tT,tT,tT,tT,tT,tT,tT,tT,tT,tT]) rfl (by kernel_rfl) rfl (fun _ _ _ h => h) hA (by decide) (fun _ => hS) (fun a w' hA => run_assign (hA.ev rfl)) ?_; clear hA; intro a hA
    refine d_done (by kernel_rfl) ?_
    refine TN ?_
    refine wp_ret ?_
    obtain rfl := Option.some.inj H
    refine BR ?_
    refine TR ?_
    exact ret_post1 (fn := Try.f26) hA rfl rfl ⟨_, rfl, (.slice A55 (r41.length + r48.length) c56), rfl, (hM.sel [1] rfl (by decide))⟩
  · replace H := ite_f hb38 H
    refine wp_seq ?_
    refine wp_region_lit ?_
    refine L1 (stv hA (by decide) (run_bin (hA.ev rfl) (hA.ev rfl) (bin_eql _ _ _ _)) ?_)
    clear hA; intro a hA
    refine L1 (stv hA (by decide) (run_assign (hA.ev rfl)) ?_)
    clear hA; intro a hA
    refine LQ ?_
    refine TN ?_
    refine tcond (b := (kind_2 == 3)) hA rfl (fun hb61 => ?_) (fun hb61 => ?_)
    · replace H := ite_t hb61 H
      refine wp_seq ?_
      refine wp_region_lit ?_
      refine L1 (stv hA (by decide) (run_field' Try.underlying41 rfl rfl Try.sizeOf39 (by decide) (hA.ev rfl)) ?_)
      clear hA; intro a hA
      refine L1 (stv hA (by decide) (run_ld (hA.ev rfl) (run_loadS Try.isAgg39 (At.seg (segs := [pHash.enc b_0.Salt, [(.slice A0_1 b_0.Heard.length c0_1)], [(.slice A0_2 b_0.Tried.length c0_2)]]) (hM.box .z) 1 rfl (by simp [Pl.len]; try rfl)))) ?_)
      clear hA; intro a hA
      refine L1 (stv hA (by decide) (run_move (hA.ev rfl)) ?_)
      clear hA; intro a hA
      obtain ⟨r62, H63, H⟩ := Option.bind_eq_some_iff.1 H
      refine L1 (st_call Try.call51 hA [(.slice A0_1 b_0.Heard.length c0_1), (.slice A1 l_1.length c1)] rfl (by decide) (connect_fresh.calls _ _ _ _ _ _ _ _ ((RoV.mk (hM.roC (Ms := []) hr0_1) (Eq.refl b_0.Heard.length) hc0_1)) ((RoV.mk (hM.roC (Ms := []) hr1) (Eq.refl l_1.length) hc1)) (hM.front (Ms := [])) H63) ?_)
      clear hA; rintro _ w64 ⟨v65, rfl, hMc⟩ a hA
      have hE := hMc.below; have hM := hM.call (Ms := []) hMc
      clear hMc; simp only [List.cons_append, List.nil_append] at hM
      obtain ⟨A67, c68, rfl⟩ := RowOk.form (hM.row (p := pNAddr) .z)
      refine L1 (stv hA (by decide) (run_assign (hA.ev rfl)) ?_)
      clear hA; intro a hA
      refine LQ ?_
      refine TN ?_
      refine wp_ret ?_
      obtain rfl := Option.some.inj H
      refine BR ?_
      refine TR ?_
      exact ret_post1 (fn := Try.f26) hA rfl rfl ⟨_, rfl, (.slice A67 r62.length c68), rfl, (hM.sel [0] rfl (by decide))⟩
    · replace H := ite_f hb61 H
      refine wp_skip ?_
      refine BN ?_
      refine TN ?_
      refine wp_seq ?_
      refine wp_region_lit ?_
      refine L1 (stv hA (by decide) (run_assign (hA.ev rfl)) ?_)
      clear hA; intro a hA
      refine LQ ?_
      refine TN ?_
      refine wp_ret ?_
      have hM := hM.addnil 46 (pNAddr).sz
      obtain rfl := Option.some.inj H
      exact ret_post1 (fn := Try.f26) hA rfl rfl ⟨_, rfl, (.slice none 0 0), rfl, (hM.sel [0] rfl (by decide))⟩

def bits_RotateLeft64.f (k : Nat) (x_0 : Int) (k_1 : Int) : Option Int := (if 0 ≤ (iand .u64 (IntKind.u64.wrap k_1) 63) then (if 0 ≤ (IntKind.u64.wrap (64 - (iand .u64 (IntKind.u64.wrap k_1) 63))) then (some (ior .u64 (ishl .u64 x_0 (iand .u64 (IntKind.u64.wrap k_1) 63)) (ishr .u64 x_0 (IntKind.u64.wrap (64 - (iand .u64 (IntKind.u64.wrap k_1) 63)))))) else none) else none)
set_option maxHeartbeats 2000000 in
set_option maxRecDepth 100000 in
theorem bits_RotateLeft64.calls (k : Nat) (x_0 : Int) (k_1 : Int) (F : List (Option Nat)) (r : Int) (w0 : World) (hM : Mem F w0 w0 []) (H : bits_RotateLeft64.f k x_0 k_1 = some r) :
    Calls Try.prog 69 #[(.int .u64 x_0), (.int .i64 k_1)] w0 fun e w' => ∃ v, e = .returned v ∧ v = (.int .u64 r) ∧ Mem F w0 w' [] := by
  unfold bits_RotateLeft64.f at H
  refine enterL (n := 17) [(.int .u64 x_0), (.int .i64 k_1)] Try.func69 rfl rfl rfl ?_
  intro a hA
  refine wp_seq ?_
  refine wp_region_lit ?_
  refine L1 (stv hA (by decide) (run_assign (hA.ev rfl)) ?_)
  clear hA; intro a hA
  refine LQ ?_
  refine TN ?_
  refine wp_seq ?_
  refine wp_region_lit ?_
  refine L1 (stv hA (by decide) (run_move (hA.ev rfl)) ?_)
  clear hA; intro a hA
  refine L1 (stv hA (by decide) (run_conv Try.underlying3 Try.underlying73 (hA.ev rfl)) ?_)
  clear hA; intro a hA
  refine L1 (stv hA (by decide) (run_bin (hA.ev rfl) (hA.ev rfl) (bin_and _ _ _ _)) ?_)
  clear hA; intro a hA
  refine L1 (stv hA (by decide) (run_assign (hA.ev rfl)) ?_)
  clear hA; intro a hA
  refine LQ ?_
  refine TN ?_
  refine wp_seq ?_
  refine wp_region_lit ?_
  refine L1 (stv hA (by decide) (run_move (hA.ev rfl)) ?_)
  clear hA; intro a hA
  refine L1 (stv hA (by decide) (run_move (hA.ev rfl)) ?_)
  clear hA; intro a hA
  obtain ⟨hs3, H⟩ := ite_some H
  refine L1 (stv hA (by decide) (run_shl (hA.ev rfl) (hA.ev rfl) hs3) ?_)
  clear hA; intro a hA
  refine L1 (stv hA (by decide) (run_move (hA.ev rfl)) ?_)
  clear hA; intro a hA
  refine L1 (stv hA (by decide) (run_move (hA.ev rfl)) ?_)
  clear hA; intro a hA
  refine L1 (stv hA (by decide) (run_bin (hA.ev rfl) (hA.ev rfl) (bin_sub _ _ _ _)) ?_)
  clear hA; intro a hA
  obtain ⟨hs4, H⟩ := ite_some H
  refine L1 (stv hA (by decide) (run_shr (hA.ev rfl) (hA.ev rfl) hs4) ?_)
  clear hA; intro a hA
  refine L1 (stv hA (by decide) (run_bin (hA.ev rfl) (hA.ev rfl) (bin_or _ _ _ _)) ?_)
  clear hA; intro a hA
  refine L1 (stv hA (by decide) (run_assign (hA.ev rfl)) ?_)
  clear hA; intro a hA
  refine LQ ?_
  refine TN ?_
  refine wp_ret ?_
  obtain rfl := Option.some.inj H
  exact ret_post1 (fn := Try.f69) hA rfl rfl ⟨_, rfl, rfl, hM⟩

def sip_words_round.f (k : Nat) (w_0 : sip_words) : Option sip_words := ((bits_RotateLeft64.f k w_0.v1 13).bind fun r50 => ((bits_RotateLeft64.f k (IntKind.u64.wrap (w_0.v0 + w_0.v1)) 32).bind fun r54 => ((bits_RotateLeft64.f k w_0.v3 16).bind fun r63 => ((bits_RotateLeft64.f k (ixor .u64 r63 (IntKind.u64.wrap (w_0.v2 + w_0.v3))) 21).bind fun r72 => ((bits_RotateLeft64.f k (ixor .u64 r50 (IntKind.u64.wrap (w_0.v0 + w_0.v1))) 17).bind fun r81 => ((bits_RotateLeft64.f k (IntKind.u64.wrap ((IntKind.u64.wrap (w_0.v2 + w_0.v3)) + (ixor .u64 r50 (IntKind.u64.wrap (w_0.v0 + w_0.v1))))) 32).bind fun r85 => (some (sip_words.mk (IntKind.u64.wrap (r54 + (ixor .u64 r63 (IntKind.u64.wrap (w_0.v2 + w_0.v3))))) (ixor .u64 r81 (IntKind.u64.wrap ((IntKind.u64.wrap (w_0.v2 + w_0.v3)) + (ixor .u64 r50 (IntKind.u64.wrap (w_0.v0 + w_0.v1)))))) r85 (ixor .u64 r72 (IntKind.u64.wrap (r54 + (ixor .u64 r63 (IntKind.u64.wrap (w_0.v2 + w_0.v3))))))))))))))
set_option maxHeartbeats 2000000 in
set_option maxRecDepth 100000 in
theorem sip_words_round.calls (k : Nat) (w_0 : sip_words) (F : List (Option Nat)) (g0 : Nat) (r : sip_words) (w0 : World) (hM : Mem F w0 w0 [.box g0 80 (psip_words.enc w_0)]) (H : sip_words_round.f k w_0 = some r) :
    Calls Try.prog 40 #[(.pointer (some (⟨g0, 0, none⟩)))] w0 fun e w' => ∃ v, e = .returned v ∧ v = (.tuple #[]) ∧ Mem F w0 w' [.box g0 80 (psip_words.enc r)] := by
  unfold sip_words_round.f at H
  refine enterL (n := 114) [(.pointer (some (⟨g0, 0, none⟩)))] Try.func40 rfl rfl rfl ?_
  intro a hA
  refine wp_seq ?_
  refine draw (fun w' => Below w0.heap.size w0 w') [11] rfl ?_
  intro w45 hw hS; replace hM := hM.ext hS; clear hw
  refine d_takef (i := 0) (L' := #[tT,fF,fF,fF,fF,fF,fF,fF,fF,fF,fF,fF]) rfl (by kernel_rfl) rfl (fun _ _ _ h => h) hA (by decide) (fun _ => hS) (fun a w' hA => run_move (hA.ev rfl)) ?_; clear hA; intro a hA
  refine d_takef (i := 1) (L' := #[tT,tT,fF,fF,fF,fF,fF,fF,fF,fF,fF,fF]) rfl (by kernel_rfl) rfl (fun _ _ _ h => h) hA (by decide) (fun _ => hS) (fun a w' hA => run_nilchk (hA.ev rfl)) ?_; clear hA; intro a hA
  refine d_takef (i := 2) (L' := #[tT,tT,tT,fF,fF,fF,fF,fF,fF,fF,fF,fF]) rfl (by kernel_rfl) rfl (fun _ _ _ h => h) hA (by decide) (fun _ => hS) (fun a w' hA => run_field' Try.underlying80 rfl rfl Try.sizeOf22 (by decide) (hA.ev rfl)) ?_; clear hA; intro a hA
  refine rebase hS ?_; clear hS; intro hS
  refine d_take (i := 3) (L' := #[tT,tT,tT,tT,fF,fF,fF,fF,fF,fF,fF,fF]) rfl (by kernel_rfl) rfl (fun _ _ _ h => h) hA (by decide) rfl hS (fun a w' hA hS' => run_ld (hA.ev rfl) (run_loadS Try.isAgg22 ((sip_words.at_v0 (hM.box .z)).extB hS'))) ?_; clear hA; intro a hA
  refine d_takef (i := 4) (L' := #[tT,tT,tT,tT,tT,fF,fF,fF,fF,fF,fF,fF]) rfl (by kernel_rfl) rfl (fun _ _ _ h => h) hA (by decide) (fun _ => hS) (fun a w' hA => run_move (hA.ev rfl)) ?_; clear hA; intro a hA
  refine d_takef (i := 5) (L' := #[tT,tT,tT,tT,tT,tT,fF,fF,fF,fF,fF,fF]) rfl (by kernel_rfl) rfl (fun _ _ _ h => h) hA (by decide) (fun _ => hS) (fun a w' hA => run_nilchk (hA.ev rfl)) ?_; clear hA; intro a hA
  refine d_takef (i := 6) (L' := #[tT,tT,tT,tT,tT,tT,tT,fF,fF,fF,fF,fF]) rfl (by kernel_rfl) rfl (fun _ _ _ h => h) hA (by decide) (fun _ => hS) (fun a w' hA => run_field' Try.underlying80 rfl rfl Try.sizeOf22 (by decide) (hA.ev rfl)) ?_; clear hA; intro a hA
  refine d_take (i := 7) (L' := #[tT,tT,tT,tT,tT,tT,tT,tT,fF,fF,fF,fF]) rfl (by kernel_rfl) rfl (fun _ _ _ h => h) hA (by decide) rfl hS (fun a w' hA hS' => run_ld (hA.ev rfl) (run_loadS Try.isAgg22 ((sip_words.at_v1 (hM.box .z)).extB hS'))) ?_; clear hA; intro a hA
  refine d_takef (i := 8) (L' := #[tT,tT,tT,tT,tT,tT,tT,tT,tT,fF,fF,fF]) rfl (by kernel_rfl) rfl (fun _ _ _ h => h) hA (by decide) (fun _ => hS) (fun a w' hA => run_bin (hA.ev rfl) (hA.ev rfl) (bin_add _ _ _ _)) ?_; clear hA; intro a hA
  refine d_takef (i := 9) (L' := #[tT,tT,tT,tT,tT,tT,tT,tT,tT,tT,fF,fF]) rfl (by kernel_rfl) rfl (fun _ _ _ h => h) hA (by decide) (fun _ => hS) (fun a w' hA => run_nilchk (hA.ev rfl)) ?_; clear hA; intro a hA
  refine d_takef (i := 10) (L' := #[tT,tT,tT,tT,tT,tT,tT,tT,tT,tT,tT,fF]) rfl (by kernel_rfl) rfl (fun _ _ _ h => h) hA (by decide) (fun _ => hS) (fun a w' hA => run_field' Try.underlying80 rfl rfl Try.sizeOf22 (by decide) (hA.ev rfl)) ?_; clear hA; intro a hA
  refine d_one (i := 11) (L' := #[tT,tT,tT,tT,tT,tT,tT,tT,tT,tT,tT,tT]) (by kernel_rfl) rfl rfl (e_store (g := g0) (off := 0) (cur := (psip_words.enc w_0)) (cs' := (psip_words.enc (sip_words.mk (IntKind.u64.wrap (w_0.v0 + w_0.v1)) w_0.v1 w_0.v2 w_0.v3))) hM .z Try.sizeOf22 hA rfl (by simp [add_mk]) rfl (by first | rfl | (simp [Value.cells, Pl.len]; done) | (simp [Value.cells, Pl.len]; rfl)) (one_val rfl) (Nat.le_of_ble_eq_true (enc_fitL _ _ rfl)) (sip_words.spl_v0 _ _) ?_)
  clear hM hA; intro w47  hM hE  a hA
  refine ⟨fun h => absurd h (by decide), ?_⟩
  refine d_done (by kernel_rfl) ?_
  refine TN ?_
  refine wp_seq ?_
  refine draw (fun w' => Below w47.heap.size w47 w') [13] rfl ?_
  intro w48 hw hS; replace hM := hM.ext hS; clear hw
  refine d_takef (i := 0) (L' := #[tT,fF,fF,fF,fF,fF,fF,fF,fF,fF,fF,fF,fF,fF]) rfl (by kernel_rfl) rfl (fun _ _ _ h => h) hA (by decide) (fun _ => hS) (fun a w' hA => run_move (hA.ev rfl)) ?_; clear hA; intro a hA
  refine d_takef (i := 1) (L' := #[tT,tT,fF,fF,fF,fF,fF,fF,fF,fF,fF,fF,fF,fF]) rfl (by kernel_rfl) rfl (fun _ _ _ h => h) hA (by decide) (fun _ => hS) (fun a w' hA => run_move (hA.ev rfl)) ?_; clear hA; intro a hA
  refine d_takef (i := 2) (L' := #[tT,tT,tT,fF,fF,fF,fF,fF,fF,fF,fF,fF,fF,fF]) rfl (by kernel_rfl) rfl (fun _ _ _ h => h) hA (by decide) (fun _ => hS) (fun a w' hA => run_nilchk (hA.ev rfl)) ?_; clear hA; intro a hA
  refine d_takef (i := 3) (L' := #[tT,tT,tT,tT,fF,fF,fF,fF,fF,fF,fF,fF,fF,fF]) rfl (by kernel_rfl) rfl (fun _ _ _ h => h) hA (by decide) (fun _ => hS) (fun a w' hA => run_field' Try.underlying80 rfl rfl Try.sizeOf22 (by decide) (hA.ev rfl)) ?_; clear hA; intro a hA
  refine rebase hS ?_; clear hS; intro hS
  refine d_take (i := 4) (L' := #[tT,tT,tT,tT,tT,fF,fF,fF,fF,fF,fF,fF,fF,fF]) rfl (by kernel_rfl) rfl (fun _ _ _ h => h) hA (by decide) rfl hS (fun a w' hA hS' => run_ld (hA.ev rfl) (run_loadS Try.isAgg22 ((sip_words.at_v1 (hM.box .z)).extB hS'))) ?_; clear hA; intro a hA
  refine d_takef (i := 6) (L' := #[tT,tT,tT,tT,tT,fF,tT,fF,fF,fF,fF,fF,fF,fF]) rfl (by kernel_rfl) rfl (fun _ _ _ h => h) hA (by decide) (fun _ => hS) (fun a w' hA => run_move (hA.ev rfl)) ?_; clear hA; intro a hA
  refine d_takef (i := 7) (L' := #[tT,tT,tT,tT,tT,fF,tT,tT,fF,fF,fF,fF,fF,fF]) rfl (by kernel_rfl) rfl (fun _ _ _ h => h) hA (by decide) (fun _ => hS) (fun a w' hA => run_nilchk (hA.ev rfl)) ?_; clear hA; intro a hA
  refine d_takef (i := 8) (L' := #[tT,tT,tT,tT,tT,fF,tT,tT,tT,fF,fF,fF,fF,fF]) rfl (by kernel_rfl) rfl (fun _ _ _ h => h) hA (by decide) (fun _ => hS) (fun a w' hA => run_field' Try.underlying80 rfl rfl Try.sizeOf22 (by decide) (hA.ev rfl)) ?_; clear hA; intro a hA
  refine d_take (i := 9) (L' := #[tT,tT,tT,tT,tT,fF,tT,tT,tT,tT,fF,fF,fF,fF]) rfl (by kernel_rfl) rfl (fun _ _ _ h => h) hA (by decide) rfl hS (fun a w' hA hS' => run_ld (hA.ev rfl) (run_loadS Try.isAgg22 ((sip_words.at_v0 (hM.box .z)).extB hS'))) ?_; clear hA; intro a hA
  obtain ⟨r50, H51, H⟩ := Option.bind_eq_some_iff.1 H
  refine d_one (i := 5) (L' := #[tT,tT,tT,tT,tT,tT,tT,tT,tT,tT,fF,fF,fF,fF]) (by kernel_rfl) rfl rfl (st_call Try.call69 hA [(.int .u64 w_0.v1), (.int .i64 13)] rfl (by decide) (bits_RotateLeft64.calls _ _ _ _ _ _ (hM.front (Ms := [])) H51) ?_)
  clear hA; rintro _ w52 ⟨rfl, hMc⟩ a hA
  have hE := hMc.below; have hM := hM.call (Ms := []) hMc
  clear hMc; simp only [List.cons_append, List.nil_append] at hM
  replace hS := hS.trans (hE.mono hS.size)
  refine ⟨fun _ => hS, ?_⟩
  refine d_takef (i := 10) (L' := #[tT,tT,tT,tT,tT,tT,tT,tT,tT,tT,tT,fF,fF,fF]) rfl (by kernel_rfl) rfl (fun _ _ _ h => h) hA (by decide) (fun _ => hS) (fun a w' hA => run_bin (hA.ev rfl) (hA.ev rfl) (bin_xor _ _ _ _)) ?_; clear hA; intro a hA
  refine d_takef (i := 11) (L' := #[tT,tT,tT,tT,tT,tT,tT,tT,tT,tT,tT,tT,fF,fF]) rfl (by kernel_rfl) rfl (fun _ _ _ h => h) hA (by decide) (fun _ => hS) (fun a w' hA => run_nilchk (hA.ev rfl)) ?_; clear hA; intro a hA
  refine d_takef (i := 12) (L' := #[tT,tT,tT,tT,tT,tT,tT,tT,tT,tT,tT,tT,tT,fF]) rfl (by kernel_rfl) rfl (fun _ _ _ h => h) hA (by decide) (fun _ => hS) (fun a w' hA => run_field' Try.underlying80 rfl rfl Try.sizeOf22 (by decide) (hA.ev rfl)) ?_; clear hA; intro a hA
  refine d_one (i := 13) (L' := #[tT,tT,tT,tT,tT,tT,tT,tT,tT,tT,tT,tT,tT,tT]) (by kernel_rfl) rfl rfl (e_store (g := g0) (off := 1) (cur := (psip_words.enc (sip_words.mk (IntKind.u64.wrap (w_0.v0 + w_0.v1)) w_0.v1 w_0.v2 w_0.v3))) (cs' := (psip_words.enc (sip_words.mk (IntKind.u64.wrap (w_0.v0 + w_0.v1)) (ixor .u64 r50 (IntKind.u64.wrap (w_0.v0 + w_0.v1))) w_0.v2 w_0.v3))) hM .z Try.sizeOf22 hA rfl (by simp [add_mk]) rfl (by first | rfl | (simp [Value.cells, Pl.len]; done) | (simp [Value.cells, Pl.len]; rfl)) (one_val rfl) (Nat.le_of_ble_eq_true (enc_fitL _ _ rfl)) (sip_words.spl_v1 _ _) ?_)
  clear hM hA; intro w53  hM hE  a hA
  refine ⟨fun h => absurd h (by decide), ?_⟩
  refine d_done (by kernel_rfl) ?_
  refine TN ?_
  refine wp_seq ?_
  refine wp_region_lit ?_
  refine L1 (stv hA (by decide) (run_move (hA.ev rfl)) ?_)
  clear hA; intro a hA
  refine L1 (stv hA (by decide) (run_move (hA.ev rfl)) ?_)
  clear hA; intro a hA
  refine L1 (stv hA (by decide) (run_nilchk (hA.ev rfl)) ?_)
  clear hA; intro a hA
  refine L1 (stv hA (by decide) (run_field' Try.underlying80 rfl rfl Try.sizeOf22 (by decide) (hA.ev rfl)) ?_)
  clear hA; intro a hA
  refine L1 (stv hA (by decide) (run_ld (hA.ev rfl) (run_loadS Try.isAgg22 (sip_words.at_v0 (hM.box .z)))) ?_)
  clear hA; intro a hA
  obtain ⟨r54, H55, H⟩ := Option.bind_eq_some_iff.1 H
  refine L1 (st_call Try.call69 hA [(.int .u64 (IntKind.u64.wrap (w_0.v0 + w_0.v1))), (.int .i64 32)] rfl (by decide) (bits_RotateLeft64.calls _ _ _ _ _ _ (hM.front (Ms := [])) H55) ?_)
  clear hA; rintro _ w56 ⟨rfl, hMc⟩ a hA
  have hE := hMc.below; have hM := hM.call (Ms := []) hMc
  clear hMc; simp only [List.cons_append, List.nil_append] at hM
  refine L1 (stv hA (by decide) (run_nilchk (hA.ev rfl)) ?_)
  clear hA; intro a hA
  refine L1 (stv hA (by decide) (run_field' Try.underlying80 rfl rfl Try.sizeOf22 (by decide) (hA.ev rfl)) ?_)
  clear hA; intro a hA
  refine L1 (e_store (g := g0) (off := 0) (cur := (psip_words.enc (sip_words.mk (IntKind.u64.wrap (w_0.v0 + w_0.v1)) (ixor .u64 r50 (IntKind.u64.wrap (w_0.v0 + w_0.v1))) w_0.v2 w_0.v3))) (cs' := (psip_words.enc (sip_words.mk r54 (ixor .u64 r50 (IntKind.u64.wrap (w_0.v0 + w_0.v1))) w_0.v2 w_0.v3))) hM .z Try.sizeOf22 hA rfl (by simp [add_mk]) rfl (by first | rfl | (simp [Value.cells, Pl.len]; done) | (simp [Value.cells, Pl.len]; rfl)) (one_val rfl) (Nat.le_of_ble_eq_true (enc_fitL _ _ rfl)) (sip_words.spl_v0 _ _) ?_)
  clear hM hA; intro w57  hM hE  a hA
  refine LQ ?_
  refine TN ?_
  refine wp_seq ?_
  refine draw (fun w' => Below w57.heap.size w57 w') [11] rfl ?_
  intro w58 hw hS; replace hM := hM.ext hS; clear hw
  refine d_takef (i := 0) (L' := #[tT,fF,fF,fF,fF,fF,fF,fF,fF,fF,fF,fF]) rfl (by kernel_rfl) rfl (fun _ _ _ h => h) hA (by decide) (fun _ => hS) (fun a w' hA => run_move (hA.ev rfl)) ?_; clear hA; intro a hA
  refine d_takef (i := 1) (L' := #[tT,tT,fF,fF,fF,fF,fF,fF,fF,fF,fF,fF]) rfl (by kernel_rfl) rfl (fun _ _ _ h => h) hA (by decide) (fun _ => hS) (fun a w' hA => run_nilchk (hA.ev rfl)) ?_; clear hA; intro a hA
  refine d_takef (i := 2) (L' := #[tT,tT,tT,fF,fF,fF,fF,fF,fF,fF,fF,fF]) rfl (by kernel_rfl) rfl (fun _ _ _ h => h) hA (by decide) (fun _ => hS) (fun a w' hA => run_field' Try.underlying80 rfl rfl Try.sizeOf22 (by decide) (hA.ev rfl)) ?_; clear hA; intro a hA
  refine rebase hS ?_; clear hS; intro hS
  refine d_take (i := 3) (L' := #[tT,tT,tT,tT,fF,fF,fF,fF,fF,fF,fF,fF]) rfl (by kernel_rfl) rfl (fun _ _ _ h => h) hA (by decide) rfl hS (fun a w' hA hS' => run_ld (hA.ev rfl) (run_loadS Try.isAgg22 ((sip_words.at_v2 (hM.box .z)).extB hS'))) ?_; clear hA; intro a hA
  refine d_takef (i := 4) (L' := #[tT,tT,tT,tT,tT,fF,fF,fF,fF,fF,fF,fF]) rfl (by kernel_rfl) rfl (fun _ _ _ h => h) hA (by decide) (fun _ => hS) (fun a w' hA => run_move (hA.ev rfl)) ?_; clear hA; intro a hA
  refine d_takef (i := 5) (L' := #[tT,tT,tT,tT,tT,tT,fF,fF,fF,fF,fF,fF]) rfl (by kernel_rfl) rfl (fun _ _ _ h => h) hA (by decide) (fun _ => hS) (fun a w' hA => run_nilchk (hA.ev rfl)) ?_; clear hA; intro a hA
  refine d_takef (i := 6) (L' := #[tT,tT,tT,tT,tT,tT,tT,fF,fF,fF,fF,fF]) rfl (by kernel_rfl) rfl (fun _ _ _ h => h) hA (by decide) (fun _ => hS) (fun a w' hA => run_field' Try.underlying80 rfl rfl Try.sizeOf22 (by decide) (hA.ev rfl)) ?_; clear hA; intro a hA
  refine d_take (i := 7) (L' := #[tT,tT,tT,tT,tT,tT,tT,tT,fF,fF,fF,fF]) rfl (by kernel_rfl) rfl (fun _ _ _ h => h) hA (by decide) rfl hS (fun a w' hA hS' => run_ld (hA.ev rfl) (run_loadS Try.isAgg22 ((sip_words.at_v3 (hM.box .z)).extB hS'))) ?_; clear hA; intro a hA
  refine d_takef (i := 8) (L' := #[tT,tT,tT,tT,tT,tT,tT,tT,tT,fF,fF,fF]) rfl (by kernel_rfl) rfl (fun _ _ _ h => h) hA (by decide) (fun _ => hS) (fun a w' hA => run_bin (hA.ev rfl) (hA.ev rfl) (bin_add _ _ _ _)) ?_; clear hA; intro a hA
  refine d_takef (i := 9) (L' := #[tT,tT,tT,tT,tT,tT,tT,tT,tT,tT,fF,fF]) rfl (by kernel_rfl) rfl (fun _ _ _ h => h) hA (by decide) (fun _ => hS) (fun a w' hA => run_nilchk (hA.ev rfl)) ?_; clear hA; intro a hA
  refine d_takef (i := 10) (L' := #[tT,tT,tT,tT,tT,tT,tT,tT,tT,tT,tT,fF]) rfl (by kernel_rfl) rfl (fun _ _ _ h => h) hA (by decide) (fun _ => hS) (fun a w' hA => run_field' Try.underlying80 rfl rfl Try.sizeOf22 (by decide) (hA.ev rfl)) ?_; clear hA; intro a hA
  refine d_one (i := 11) (L' := #[tT,tT,tT,tT,tT,tT,tT,tT,tT,tT,tT,tT]) (by kernel_rfl) rfl rfl (e_store (g := g0) (off := 2) (cur := (psip_words.enc (sip_words.mk r54 (ixor .u64 r50 (IntKind.u64.wrap (w_0.v0 + w_0.v1))) w_0.v2 w_0.v3))) (cs' := (psip_words.enc (sip_words.mk r54 (ixor .u64 r50 (IntKind.u64.wrap (w_0.v0 + w_0.v1))) (IntKind.u64.wrap (w_0.v2 + w_0.v3)) w_0.v3))) hM .z Try.sizeOf22 hA rfl (by simp [add_mk]) rfl (by first | rfl | (simp [Value.cells, Pl.len]; done) | (simp [Value.cells, Pl.len]; rfl)) (one_val rfl) (Nat.le_of_ble_eq_true (enc_fitL _ _ rfl)) (sip_words.spl_v2 _ _) ?_)
  clear hM hA; intro w60  hM hE  a hA
  refine ⟨fun h => absurd h (by decide), ?_⟩
  refine d_done (by kernel_rfl) ?_
  refine TN ?_
  refine wp_seq ?_
  refine draw (fun w' => Below w60.heap.size w60 w') [13] rfl ?_
  intro w61 hw hS; replace hM := hM.ext hS; clear hw
  refine d_takef (i := 0) (L' := #[tT,fF,fF,fF,fF,fF,fF,fF,fF,fF,fF,fF,fF,fF]) rfl (by kernel_rfl) rfl (fun _ _ _ h => h) hA (by decide) (fun _ => hS) (fun a w' hA => run_move (hA.ev rfl)) ?_; clear hA; intro a hA
  refine d_takef (i := 1) (L' := #[tT,tT,fF,fF,fF,fF,fF,fF,fF,fF,fF,fF,fF,fF]) rfl (by kernel_rfl) rfl (fun _ _ _ h => h) hA (by decide) (fun _ => hS) (fun a w' hA => run_move (hA.ev rfl)) ?_; clear hA; intro a hA
  refine d_takef (i := 2) (L' := #[tT,tT,tT,fF,fF,fF,fF,fF,fF,fF,fF,fF,fF,fF]) rfl (by kernel_rfl) rfl (fun _ _ _ h => h) hA (by decide) (fun _ => hS) (fun a w' hA => run_nilchk (hA.ev rfl)) ?_; clear hA; intro a hA
  refine d_takef (i := 3) (L' := #[tT,tT,tT,tT,fF,fF,fF,fF,fF,fF,fF,fF,fF,fF]) rfl (by kernel_rfl) rfl (fun _ _ _ h => h) hA (by decide) (fun _ => hS) (fun a w' hA => run_field' Try.underlying80 rfl rfl Try.sizeOf22 (by decide) (hA.ev rfl)) ?_; clear hA; intro a hA
  refine rebase hS ?_; clear hS; intro hS
  refine d_take (i := 4) (L' := #[tT,tT,tT,tT,tT,fF,fF,fF,fF,fF,fF,fF,fF,fF]) rfl (by kernel_rfl) rfl (fun _ _ _ h => h) hA (by decide) rfl hS (fun a w' hA hS' => run_ld (hA.ev rfl) (run_loadS Try.isAgg22 ((sip_words.at_v3 (hM.box .z)).extB hS'))) ?_; clear hA; intro a hA
  refine d_takef (i := 6) (L' := #[tT,tT,tT,tT,tT,fF,tT,fF,fF,fF,fF,fF,fF,fF]) rfl (by kernel_rfl) rfl (fun _ _ _ h => h) hA (by decide) (fun _ => hS) (fun a w' hA => run_move (hA.ev rfl)) ?_; clear hA; intro a hA
  refine d_takef (i := 7) (L' := #[tT,tT,tT,tT,tT,fF,tT,tT,fF,fF,fF,fF,fF,fF]) rfl (by kernel_rfl) rfl (fun _ _ _ h => h) hA (by decide) (fun _ => hS) (fun a w' hA => run_nilchk (hA.ev rfl)) ?_; clear hA; intro a hA
  refine d_takef (i := 8) (L' := #[tT,tT,tT,tT,tT,fF,tT,tT,tT,fF,fF,fF,fF,fF]) rfl (by kernel_rfl) rfl (fun _ _ _ h => h) hA (by decide) (fun _ => hS) (fun a w' hA => run_field' Try.underlying80 rfl rfl Try.sizeOf22 (by decide) (hA.ev rfl)) ?_; clear hA; intro a hA
  refine d_take (i := 9) (L' := #[tT,tT,tT,tT,tT,fF,tT,tT,tT,tT,fF,fF,fF,fF]) rfl (by kernel_rfl) rfl (fun _ _ _ h => h) hA (by decide) rfl hS (fun a w' hA hS' => run_ld (hA.ev rfl) (run_loadS Try.isAgg22 ((sip_words.at_v2 (hM.box .z)).extB hS'))) ?_; clear hA; intro a hA
  obtain ⟨r63, H64, H⟩ := Option.bind_eq_some_iff.1 H
  refine d_one (i := 5) (L' := #[tT,tT,tT,tT,tT,tT,tT,tT,tT,tT,fF,fF,fF,fF]) (by kernel_rfl) rfl rfl (st_call Try.call69 hA [(.int .u64 w_0.v3), (.int .i64 16)] rfl (by decide) (bits_RotateLeft64.calls _ _ _ _ _ _ (hM.front (Ms := [])) H64) ?_)
  clear hA; rintro _ w65 ⟨rfl, hMc⟩ a hA
  have hE := hMc.below; have hM := hM.call (Ms := []) hMc
  clear hMc; simp only [List.cons_append, List.nil_append] at hM
  replace hS := hS.trans (hE.mono hS.size)
  refine ⟨fun _ => hS, ?_⟩
  refine d_takef (i := 10) (L' := #[tT,tT,tT,tT,tT,tT,tT,tT,tT,tT,tT,fF,fF,fF]) rfl (by kernel_rfl) rfl (fun _ _ _ h => h) hA (by decide) (fun _ => hS) (fun a w' hA => run_bin (hA.ev rfl) (hA.ev rfl) (bin_xor _ _ _ _)) ?_; clear hA; intro a hA
  refine d_takef (i := 11) (L' := #[tT,tT,tT,tT,tT,tT,tT,tT,tT,tT,tT,tT,fF,fF]) rfl (by kernel_rfl) rfl (fun _ _ _ h => h) hA (by decide) (fun _ => hS) (fun a w' hA => run_nilchk (hA.ev rfl)) ?_; clear hA; intro a hA
  refine d_takef (i := 12) (L' := #[tT,tT,tT,tT,tT,tT,tT,tT,tT,tT,tT,tT,tT,fF]) rfl (by kernel_rfl) rfl (fun _ _ _ h => h) hA (by decide) (fun _ => hS) (fun a w' hA => run_field' Try.underlying80 rfl rfl Try.sizeOf22 (by decide) (hA.ev rfl)) ?_; clear hA; intro a hA
  refine d_one (i := 13) (L' := #[tT,tT,tT,tT,tT,tT,tT,tT,tT,tT,tT,tT,tT,tT]) (by kernel_rfl) rfl rfl (e_store (g := g0) (off := 3) (cur := (psip_words.enc (sip_words.mk r54 (ixor .u64 r50 (IntKind.u64.wrap (w_0.v0 + w_0.v1))) (IntKind.u64.wrap (w_0.v2 + w_0.v3)) w_0.v3))) (cs' := (psip_words.enc (sip_words.mk r54 (ixor .u64 r50 (IntKind.u64.wrap (w_0.v0 + w_0.v1))) (IntKind.u64.wrap (w_0.v2 + w_0.v3)) (ixor .u64 r63 (IntKind.u64.wrap (w_0.v2 + w_0.v3)))))) hM .z Try.sizeOf22 hA rfl (by simp [add_mk]) rfl (by first | rfl | (simp [Value.cells, Pl.len]; done) | (simp [Value.cells, Pl.len]; rfl)) (one_val rfl) (Nat.le_of_ble_eq_true (enc_fitL _ _ rfl)) (sip_words.spl_v3 _ _) ?_)
  clear hM hA; intro w66  hM hE  a hA
  refine ⟨fun h => absurd h (by decide), ?_⟩
  refine d_done (by kernel_rfl) ?_
  refine TN ?_
  refine wp_seq ?_
  refine draw (fun w' => Below w66.heap.size w66 w') [11] rfl ?_
  intro w67 hw hS; replace hM := hM.ext hS; clear hw
  refine d_takef (i := 0) (L' := #[tT,fF,fF,fF,fF,fF,fF,fF,fF,fF,fF,fF]) rfl (by kernel_rfl) rfl (fun _ _ _ h => h) hA (by decide) (fun _ => hS) (fun a w' hA => run_move (hA.ev rfl)) ?_; clear hA; intro a hA
  refine d_takef (i := 1) (L' := #[tT,tT,fF,fF,fF,fF,fF,fF,fF,fF,fF,fF]) rfl (by kernel_rfl) rfl (fun _ _ _ h => h) hA (by decide) (fun _ => hS) (fun a w' hA => run_nilchk (hA.ev rfl)) ?_; clear hA; intro a hA
  refine d_takef (i := 2) (L' := #[tT,tT,tT,fF,fF,fF,fF,fF,fF,fF,fF,fF]) rfl (by kernel_rfl) rfl (fun _ _ _ h => h) hA (by decide) (fun _ => hS) (fun a w' hA => run_field' Try.underlying80 rfl rfl Try.sizeOf22 (by decide) (hA.ev rfl)) ?_; clear hA; intro a hA
  refine rebase hS ?_; clear hS; intro hS
  refine d_take (i := 3) (L' := #[tT,tT,tT,tT,fF,fF,fF,fF,fF,fF,fF,fF]) rfl (by kernel_rfl) rfl (fun _ _ _ h => h) hA (by decide) rfl hS (fun a w' hA hS' => run_ld (hA.ev rfl) (run_loadS Try.isAgg22 ((sip_words.at_v0 (hM.box .z)).extB hS'))) ?_; clear hA; intro a hA
  refine d_takef (i := 4) (L' := #[tT,tT,tT,tT,tT,fF,fF,fF,fF,fF,fF,fF]) rfl (by kernel_rfl) rfl (fun _ _ _ h => h) hA (by decide) (fun _ => hS) (fun a w' hA => run_move (hA.ev rfl)) ?_; clear hA; intro a hA
  refine d_takef (i := 5) (L' := #[tT,tT,tT,tT,tT,tT,fF,fF,fF,fF,fF,fF]) rfl (by kernel_rfl) rfl (fun _ _ _ h => h) hA (by decide) (fun _ => hS) (fun a w' hA => run_nilchk (hA.ev rfl)) ?_; clear hA; intro a hA
  refine d_takef (i := 6) (L' := #[tT,tT,tT,tT,tT,tT,tT,fF,fF,fF,fF,fF]) rfl (by kernel_rfl) rfl (fun _ _ _ h => h) hA (by decide) (fun _ => hS) (fun a w' hA => run_field' Try.underlying80 rfl rfl Try.sizeOf22 (by decide) (hA.ev rfl)) ?_; clear hA; intro a hA
  refine d_take (i := 7) (L' := #[tT,tT,tT,tT,tT,tT,tT,tT,fF,fF,fF,fF]) rfl (by kernel_rfl) rfl (fun _ _ _ h => h) hA (by decide) rfl hS (fun a w' hA hS' => run_ld (hA.ev rfl) (run_loadS Try.isAgg22 ((sip_words.at_v3 (hM.box .z)).extB hS'))) ?_; clear hA; intro a hA
  refine d_takef (i := 8) (L' := #[tT,tT,tT,tT,tT,tT,tT,tT,tT,fF,fF,fF]) rfl (by kernel_rfl) rfl (fun _ _ _ h => h) hA (by decide) (fun _ => hS) (fun a w' hA => run_bin (hA.ev rfl) (hA.ev rfl) (bin_add _ _ _ _)) ?_; clear hA; intro a hA
  refine d_takef (i := 9) (L' := #[tT,tT,tT,tT,tT,tT,tT,tT,tT,tT,fF,fF]) rfl (by kernel_rfl) rfl (fun _ _ _ h => h) hA (by decide) (fun _ => hS) (fun a w' hA => run_nilchk (hA.ev rfl)) ?_; clear hA; intro a hA
  refine d_takef (i := 10) (L' := #[tT,tT,tT,tT,tT,tT,tT,tT,tT,tT,tT,fF]) rfl (by kernel_rfl) rfl (fun _ _ _ h => h) hA (by decide) (fun _ => hS) (fun a w' hA => run_field' Try.underlying80 rfl rfl Try.sizeOf22 (by decide) (hA.ev rfl)) ?_; clear hA; intro a hA
  refine d_one (i := 11) (L' := #[tT,tT,tT,tT,tT,tT,tT,tT,tT,tT,tT,tT]) (by kernel_rfl) rfl rfl (e_store (g := g0) (off := 0) (cur := (psip_words.enc (sip_words.mk r54 (ixor .u64 r50 (IntKind.u64.wrap (w_0.v0 + w_0.v1))) (IntKind.u64.wrap (w_0.v2 + w_0.v3)) (ixor .u64 r63 (IntKind.u64.wrap (w_0.v2 + w_0.v3)))))) (cs' := (psip_words.enc (sip_words.mk (IntKind.u64.wrap (r54 + (ixor .u64 r63 (IntKind.u64.wrap (w_0.v2 + w_0.v3))))) (ixor .u64 r50 (IntKind.u64.wrap (w_0.v0 + w_0.v1))) (IntKind.u64.wrap (w_0.v2 + w_0.v3)) (ixor .u64 r63 (IntKind.u64.wrap (w_0.v2 + w_0.v3)))))) hM .z Try.sizeOf22 hA rfl (by simp [add_mk]) rfl (by first | rfl | (simp [Value.cells, Pl.len]; done) | (simp [Value.cells, Pl.len]; rfl)) (one_val rfl) (Nat.le_of_ble_eq_true (enc_fitL _ _ rfl)) (sip_words.spl_v0 _ _) ?_)
  clear hM hA; intro w69  hM hE  a hA
  refine ⟨fun h => absurd h (by decide), ?_⟩
  refine d_done (by kernel_rfl) ?_
  refine TN ?_
  refine wp_seq ?_
  refine draw (fun w' => Below w69.heap.size w69 w') [13] rfl ?_
  intro w70 hw hS; replace hM := hM.ext hS; clear hw
  refine d_takef (i := 0) (L' := #[tT,fF,fF,fF,fF,fF,fF,fF,fF,fF,fF,fF,fF,fF]) rfl (by kernel_rfl) rfl (fun _ _ _ h => h) hA (by decide) (fun _ => hS) (fun a w' hA => run_move (hA.ev rfl)) ?_; clear hA; intro a hA
  refine d_takef (i := 1) (L' := #[tT,tT,fF,fF,fF,fF,fF,fF,fF,fF,fF,fF,fF,fF]) rfl (by kernel_rfl) rfl (fun _ _ _ h => h) hA (by decide) (fun _ => hS) (fun a w' hA => run_move (hA.ev rfl)) ?_; clear hA; intro a hA
  refine d_takef (i := 2) (L' := #[tT,tT,tT,fF,fF,fF,fF,fF,fF,fF,fF,fF,fF,fF]) rfl (by kernel_rfl) rfl (fun _ _ _ h => h) hA (by decide) (fun _ => hS) (fun a w' hA => run_nilchk (hA.ev rfl)) ?_; clear hA; intro a hA
  refine d_takef (i := 3) (L' := #[tT,tT,tT,tT,fF,fF,fF,fF,fF,fF,fF,fF,fF,fF]) rfl (by kernel_rfl) rfl (fun _ _ _ h => h) hA (by decide) (fun _ => hS) (fun a w' hA => run_field' Try.underlying80 rfl rfl Try.sizeOf22 (by decide) (hA.ev rfl)) ?_; clear hA; intro a hA
  refine rebase hS ?_; clear hS; intro hS
  refine d_take (i := 4) (L' := #[tT,tT,tT,tT,tT,fF,fF,fF,fF,fF,fF,fF,fF,fF]) rfl (by kernel_rfl) rfl (fun _ _ _ h => h) hA (by decide) rfl hS (fun a w' hA hS' => run_ld (hA.ev rfl) (run_loadS Try.isAgg22 ((sip_words.at_v3 (hM.box .z)).extB hS'))) ?_; clear hA; intro a hA
  refine d_takef (i := 6) (L' := #[tT,tT,tT,tT,tT,fF,tT,fF,fF,fF,fF,fF,fF,fF]) rfl (by kernel_rfl) rfl (fun _ _ _ h => h) hA (by decide) (fun _ => hS) (fun a w' hA => run_move (hA.ev rfl)) ?_; clear hA; intro a hA
  refine d_takef (i := 7) (L' := #[tT,tT,tT,tT,tT,fF,tT,tT,fF,fF,fF,fF,fF,fF]) rfl (by kernel_rfl) rfl (fun _ _ _ h => h) hA (by decide) (fun _ => hS) (fun a w' hA => run_nilchk (hA.ev rfl)) ?_; clear hA; intro a hA
  refine d_takef (i := 8) (L' := #[tT,tT,tT,tT,tT,fF,tT,tT,tT,fF,fF,fF,fF,fF]) rfl (by kernel_rfl) rfl (fun _ _ _ h => h) hA (by decide) (fun _ => hS) (fun a w' hA => run_field' Try.underlying80 rfl rfl Try.sizeOf22 (by decide) (hA.ev rfl)) ?_; clear hA; intro a hA
  refine d_take (i := 9) (L' := #[tT,tT,tT,tT,tT,fF,tT,tT,tT,tT,fF,fF,fF,fF]) rfl (by kernel_rfl) rfl (fun _ _ _ h => h) hA (by decide) rfl hS (fun a w' hA hS' => run_ld (hA.ev rfl) (run_loadS Try.isAgg22 ((sip_words.at_v0 (hM.box .z)).extB hS'))) ?_; clear hA; intro a hA
  obtain ⟨r72, H73, H⟩ := Option.bind_eq_some_iff.1 H
  refine d_one (i := 5) (L' := #[tT,tT,tT,tT,tT,tT,tT,tT,tT,tT,fF,fF,fF,fF]) (by kernel_rfl) rfl rfl (st_call Try.call69 hA [(.int .u64 (ixor .u64 r63 (IntKind.u64.wrap (w_0.v2 + w_0.v3)))), (.int .i64 21)] rfl (by decide) (bits_RotateLeft64.calls _ _ _ _ _ _ (hM.front (Ms := [])) H73) ?_)
  clear hA; rintro _ w74 ⟨rfl, hMc⟩ a hA
  have hE := hMc.below; have hM := hM.call (Ms := []) hMc
  clear hMc; simp only [List.cons_append, List.nil_append] at hM
  replace hS := hS.trans (hE.mono hS.size)
  refine ⟨fun _ => hS, ?_⟩
  refine d_takef (i := 10) (L' := #[tT,tT,tT,tT,tT,tT,tT,tT,tT,tT,tT,fF,fF,fF]) rfl (by kernel_rfl) rfl (fun _ _ _ h => h) hA (by decide) (fun _ => hS) (fun a w' hA => run_bin (hA.ev rfl) (hA.ev rfl) (bin_xor _ _ _ _)) ?_; clear hA; intro a hA
  refine d_takef (i := 11) (L' := #[tT,tT,tT,tT,tT,tT,tT,tT,tT,tT,tT,tT,fF,fF]) rfl (by kernel_rfl) rfl (fun _ _ _ h => h) hA (by decide) (fun _ => hS) (fun a w' hA => run_nilchk (hA.ev rfl)) ?_; clear hA; intro a hA
  refine d_takef (i := 12) (L' := #[tT,tT,tT,tT,tT,tT,tT,tT,tT,tT,tT,tT,tT,fF]) rfl (by kernel_rfl) rfl (fun _ _ _ h => h) hA (by decide) (fun _ => hS) (fun a w' hA => run_field' Try.underlying80 rfl rfl Try.sizeOf22 (by decide) (hA.ev rfl)) ?_; clear hA; intro a hA
  refine d_one (i := 13) (L' := #[tT,tT,tT,tT,tT,tT,tT,tT,tT,tT,tT,tT,tT,tT]) (by kernel_rfl) rfl rfl (e_store (g := g0) (off := 3) (cur := (psip_words.enc (sip_words.mk (IntKind.u64.wrap (r54 + (ixor .u64 r63 (IntKind.u64.wrap (w_0.v2 + w_0.v3))))) (ixor .u64 r50 (IntKind.u64.wrap (w_0.v0 + w_0.v1))) (IntKind.u64.wrap (w_0.v2 + w_0.v3)) (ixor .u64 r63 (IntKind.u64.wrap (w_0.v2 + w_0.v3)))))) (cs' := (psip_words.enc (sip_words.mk (IntKind.u64.wrap (r54 + (ixor .u64 r63 (IntKind.u64.wrap (w_0.v2 + w_0.v3))))) (ixor .u64 r50 (IntKind.u64.wrap (w_0.v0 + w_0.v1))) (IntKind.u64.wrap (w_0.v2 + w_0.v3)) (ixor .u64 r72 (IntKind.u64.wrap (r54 + (ixor .u64 r63 (IntKind.u64.wrap (w_0.v2 + w_0.v3))))))))) hM .z Try.sizeOf22 hA rfl (by simp [add_mk]) rfl (by first | rfl | (simp [Value.cells, Pl.len]; done) | (simp [Value.cells, Pl.len]; rfl)) (one_val rfl) (Nat.le_of_ble_eq_true (enc_fitL _ _ rfl)) (sip_words.spl_v3 _ _) ?_)
  clear hM hA; intro w75  hM hE  a hA
  refine ⟨fun h => absurd h (by decide), ?_⟩
  refine d_done (by kernel_rfl) ?_
  refine TN ?_
  refine wp_seq ?_
  refine draw (fun w' => Below w75.heap.size w75 w') [11] rfl ?_
  intro w76 hw hS; replace hM := hM.ext hS; clear hw
  refine d_takef (i := 0) (L' := #[tT,fF,fF,fF,fF,fF,fF,fF,fF,fF,fF,fF]) rfl (by kernel_rfl) rfl (fun _ _ _ h => h) hA (by decide) (fun _ => hS) (fun a w' hA => run_move (hA.ev rfl)) ?_; clear hA; intro a hA
  refine d_takef (i := 1) (L' := #[tT,tT,fF,fF,fF,fF,fF,fF,fF,fF,fF,fF]) rfl (by kernel_rfl) rfl (fun _ _ _ h => h) hA (by decide) (fun _ => hS) (fun a w' hA => run_nilchk (hA.ev rfl)) ?_; clear hA; intro a hA
  refine d_takef (i := 2) (L' := #[tT,tT,tT,fF,fF,fF,fF,fF,fF,fF,fF,fF]) rfl (by kernel_rfl) rfl (fun _ _ _ h => h) hA (by decide) (fun _ => hS) (fun a w' hA => run_field' Try.underlying80 rfl rfl Try.sizeOf22 (by decide) (hA.ev rfl)) ?_; clear hA; intro a hA
  refine rebase hS ?_; clear hS; intro hS
  refine d_take (i := 3) (L' := #[tT,tT,tT,tT,fF,fF,fF,fF,fF,fF,fF,fF]) rfl (by kernel_rfl) rfl (fun _ _ _ h => h) hA (by decide) rfl hS (fun a w' hA hS' => run_ld (hA.ev rfl) (run_loadS Try.isAgg22 ((sip_words.at_v2 (hM.box .z)).extB hS'))) ?_; clear hA; intro a hA
  refine d_takef (i := 4) (L' := #[tT,tT,tT,tT,tT,fF,fF,fF,fF,fF,fF,fF]) rfl (by kernel_rfl) rfl (fun _ _ _ h => h) hA (by decide) (fun _ => hS) (fun a w' hA => run_move (hA.ev rfl)) ?_; clear hA; intro a hA
  refine d_takef (i := 5) (L' := #[tT,tT,tT,tT,tT,tT,fF,fF,fF,fF,fF,fF]) rfl (by kernel_rfl) rfl (fun _ _ _ h => h) hA (by decide) (fun _ => hS) (fun a w' hA => run_nilchk (hA.ev rfl)) ?_; clear hA; intro a hA
  refine d_takef (i := 6) (L' := #[tT,tT,tT,tT,tT,tT,tT,fF,fF,fF,fF,fF]) rfl (by kernel_rfl) rfl (fun _ _ _ h => h) hA (by decide) (fun _ => hS) (fun a w' hA => run_field' Try.underlying80 rfl rfl Try.sizeOf22 (by decide) (hA.ev rfl)) ?_; clear hA; intro a hA
  refine d_take (i := 7) (L' := #[tT,tT,tT,tT,tT,tT,tT,tT,fF,fF,fF,fF]) rfl (by kernel_rfl) rfl (fun _ _ _ h => h) hA (by decide) rfl hS (fun a w' hA hS' => run_ld (hA.ev rfl) (run_loadS Try.isAgg22 ((sip_words.at_v1 (hM.box .z)).extB hS'))) ?_; clear hA; intro a hA
  refine d_takef (i := 8) (L' := #[tT,tT,tT,tT,tT,tT,tT,tT,tT,fF,fF,fF]) rfl (by kernel_rfl) rfl (fun _ _ _ h => h) hA (by decide) (fun _ => hS) (fun a w' hA => run_bin (hA.ev rfl) (hA.ev rfl) (bin_add _ _ _ _)) ?_; clear hA; intro a hA
  refine d_takef (i := 9) (L' := #[tT,tT,tT,tT,tT,tT,tT,tT,tT,tT,fF,fF]) rfl (by kernel_rfl) rfl (fun _ _ _ h => h) hA (by decide) (fun _ => hS) (fun a w' hA => run_nilchk (hA.ev rfl)) ?_; clear hA; intro a hA
  refine d_takef (i := 10) (L' := #[tT,tT,tT,tT,tT,tT,tT,tT,tT,tT,tT,fF]) rfl (by kernel_rfl) rfl (fun _ _ _ h => h) hA (by decide) (fun _ => hS) (fun a w' hA => run_field' Try.underlying80 rfl rfl Try.sizeOf22 (by decide) (hA.ev rfl)) ?_; clear hA; intro a hA
  refine d_one (i := 11) (L' := #[tT,tT,tT,tT,tT,tT,tT,tT,tT,tT,tT,tT]) (by kernel_rfl) rfl rfl (e_store (g := g0) (off := 2) (cur := (psip_words.enc (sip_words.mk (IntKind.u64.wrap (r54 + (ixor .u64 r63 (IntKind.u64.wrap (w_0.v2 + w_0.v3))))) (ixor .u64 r50 (IntKind.u64.wrap (w_0.v0 + w_0.v1))) (IntKind.u64.wrap (w_0.v2 + w_0.v3)) (ixor .u64 r72 (IntKind.u64.wrap (r54 + (ixor .u64 r63 (IntKind.u64.wrap (w_0.v2 + w_0.v3))))))))) (cs' := (psip_words.enc (sip_words.mk (IntKind.u64.wrap (r54 + (ixor .u64 r63 (IntKind.u64.wrap (w_0.v2 + w_0.v3))))) (ixor .u64 r50 (IntKind.u64.wrap (w_0.v0 + w_0.v1))) (IntKind.u64.wrap ((IntKind.u64.wrap (w_0.v2 + w_0.v3)) + (ixor .u64 r50 (IntKind.u64.wrap (w_0.v0 + w_0.v1))))) (ixor .u64 r72 (IntKind.u64.wrap (r54 + (ixor .u64 r63 (IntKind.u64.wrap (w_0.v2 + w_0.v3))))))))) hM .z Try.sizeOf22 hA rfl (by simp [add_mk]) rfl (by first | rfl | (simp [Value.cells, Pl.len]; done) | (simp [Value.cells, Pl.len]; rfl)) (one_val rfl) (Nat.le_of_ble_eq_true (enc_fitL _ _ rfl)) (sip_words.spl_v2 _ _) ?_)
  clear hM hA; intro w78  hM hE  a hA
  refine ⟨fun h => absurd h (by decide), ?_⟩
  refine d_done (by kernel_rfl) ?_
  refine TN ?_
  refine wp_seq ?_
  refine draw (fun w' => Below w78.heap.size w78 w') [13] rfl ?_
  intro w79 hw hS; replace hM := hM.ext hS; clear hw
  refine d_takef (i := 0) (L' := #[tT,fF,fF,fF,fF,fF,fF,fF,fF,fF,fF,fF,fF,fF]) rfl (by kernel_rfl) rfl (fun _ _ _ h => h) hA (by decide) (fun _ => hS) (fun a w' hA => run_move (hA.ev rfl)) ?_; clear hA; intro a hA
  refine d_takef (i := 1) (L' := #[tT,tT,fF,fF,fF,fF,fF,fF,fF,fF,fF,fF,fF,fF]) rfl (by kernel_rfl) rfl (fun _ _ _ h => h) hA (by decide) (fun _ => hS) (fun a w' hA => run_move (hA.ev rfl)) ?_; clear hA; intro a hA
  refine d_takef (i := 2) (L' := #[tT,tT,tT,fF,fF,fF,fF,fF,fF,fF,fF,fF,fF,fF]) rfl (by kernel_rfl) rfl (fun _ _ _ h => h) hA (by decide) (fun _ => hS) (fun a w' hA => run_nilchk (hA.ev rfl)) ?_; clear hA; intro a hA
  refine d_takef (i := 3) (L' := #[tT,tT,tT,tT,fF,fF,fF,fF,fF,fF,fF,fF,fF,fF]) rfl (by kernel_rfl) rfl (fun _ _ _ h => h) hA (by decide) (fun _ => hS) (fun a w' hA => run_field' Try.underlying80 rfl rfl Try.sizeOf22 (by decide) (hA.ev rfl)) ?_; clear hA; intro a hA
  refine rebase hS ?_; clear hS; intro hS
  refine d_take (i := 4) (L' := #[tT,tT,tT,tT,tT,fF,fF,fF,fF,fF,fF,fF,fF,fF]) rfl (by kernel_rfl) rfl (fun _ _ _ h => h) hA (by decide) rfl hS (fun a w' hA hS' => run_ld (hA.ev rfl) (run_loadS Try.isAgg22 ((sip_words.at_v1 (hM.box .z)).extB hS'))) ?_; clear hA; intro a hA
  refine d_takef (i := 6) (L' := #[tT,tT,tT,tT,tT,fF,tT,fF,fF,fF,fF,fF,fF,fF]) rfl (by kernel_rfl) rfl (fun _ _ _ h => h) hA (by decide) (fun _ => hS) (fun a w' hA => run_move (hA.ev rfl)) ?_; clear hA; intro a hA
  refine d_takef (i := 7) (L' := #[tT,tT,tT,tT,tT,fF,tT,tT,fF,fF,fF,fF,fF,fF]) rfl (by kernel_rfl) rfl (fun _ _ _ h => h) hA (by decide) (fun _ => hS) (fun a w' hA => run_nilchk (hA.ev rfl)) ?_; clear hA; intro a hA
  refine d_takef (i := 8) (L' := #[tT,tT,tT,tT,tT,fF,tT,tT,tT,fF,fF,fF,fF,fF]) rfl (by kernel_rfl) rfl (fun _ _ _ h => h) hA (by decide) (fun _ => hS) (fun a w' hA => run_field' Try.underlying80 rfl rfl Try.sizeOf22 (by decide) (hA.ev rfl)) ?_; clear hA; intro a hA
  refine d_take (i := 9) (L' := #[tT,tT,tT,tT,tT,fF,tT,tT,tT,tT,fF,fF,fF,fF]) rfl (by kernel_rfl) rfl (fun _ _ _ h => h) hA (by decide) rfl hS (fun a w' hA hS' => run_ld (hA.ev rfl) (run_loadS Try.isAgg22 ((sip_words.at_v2 (hM.box .z)).extB hS'))) ?_; clear hA; intro a hA
  obtain ⟨r81, H82, H⟩ := Option.bind_eq_some_iff.1 H
  refine d_one (i := 5) (L' := #[tT,tT,tT,tT,tT,tT,tT,tT,tT,tT,fF,fF,fF,fF]) (by kernel_rfl) rfl rfl (st_call Try.call69 hA [(.int .u64 (ixor .u64 r50 (IntKind.u64.wrap (w_0.v0 + w_0.v1)))), (.int .i64 17)] rfl (by decide) (bits_RotateLeft64.calls _ _ _ _ _ _ (hM.front (Ms := [])) H82) ?_)
  clear hA; rintro _ w83 ⟨rfl, hMc⟩ a hA
  have hE := hMc.below; have hM := hM.call (Ms := []) hMc
  clear hMc; simp only [List.cons_append, List.nil_append] at hM
  replace hS := hS.trans (hE.mono hS.size)
  refine ⟨fun _ => hS, ?_⟩
  refine d_takef (i := 10) (L' := #[tT,tT,tT,tT,tT,tT,tT,tT,tT,tT,tT,fF,fF,fF]) rfl (by kernel_rfl) rfl (fun _ _ _ h => h) hA (by decide) (fun _ => hS) (fun a w' hA => run_bin (hA.ev rfl) (hA.ev rfl) (bin_xor _ _ _ _)) ?_; clear hA; intro a hA
  refine d_takef (i := 11) (L' := #[tT,tT,tT,tT,tT,tT,tT,tT,tT,tT,tT,tT,fF,fF]) rfl (by kernel_rfl) rfl (fun _ _ _ h => h) hA (by decide) (fun _ => hS) (fun a w' hA => run_nilchk (hA.ev rfl)) ?_; clear hA; intro a hA
  refine d_takef (i := 12) (L' := #[tT,tT,tT,tT,tT,tT,tT,tT,tT,tT,tT,tT,tT,fF]) rfl (by kernel_rfl) rfl (fun _ _ _ h => h) hA (by decide) (fun _ => hS) (fun a w' hA => run_field' Try.underlying80 rfl rfl Try.sizeOf22 (by decide) (hA.ev rfl)) ?_; clear hA; intro a hA
  refine d_one (i := 13) (L' := #[tT,tT,tT,tT,tT,tT,tT,tT,tT,tT,tT,tT,tT,tT]) (by kernel_rfl) rfl rfl (e_store (g := g0) (off := 1) (cur := (psip_words.enc (sip_words.mk (IntKind.u64.wrap (r54 + (ixor .u64 r63 (IntKind.u64.wrap (w_0.v2 + w_0.v3))))) (ixor .u64 r50 (IntKind.u64.wrap (w_0.v0 + w_0.v1))) (IntKind.u64.wrap ((IntKind.u64.wrap (w_0.v2 + w_0.v3)) + (ixor .u64 r50 (IntKind.u64.wrap (w_0.v0 + w_0.v1))))) (ixor .u64 r72 (IntKind.u64.wrap (r54 + (ixor .u64 r63 (IntKind.u64.wrap (w_0.v2 + w_0.v3))))))))) (cs' := (psip_words.enc (sip_words.mk (IntKind.u64.wrap (r54 + (ixor .u64 r63 (IntKind.u64.wrap (w_0.v2 + w_0.v3))))) (ixor .u64 r81 (IntKind.u64.wrap ((IntKind.u64.wrap (w_0.v2 + w_0.v3)) + (ixor .u64 r50 (IntKind.u64.wrap (w_0.v0 + w_0.v1)))))) (IntKind.u64.wrap ((IntKind.u64.wrap (w_0.v2 + w_0.v3)) + (ixor .u64 r50 (IntKind.u64.wrap (w_0.v0 + w_0.v1))))) (ixor .u64 r72 (IntKind.u64.wrap (r54 + (ixor .u64 r63 (IntKind.u64.wrap (w_0.v2 + w_0.v3))))))))) hM .z Try.sizeOf22 hA rfl (by simp [add_mk]) rfl (by first | rfl | (simp [Value.cells, Pl.len]; done) | (simp [Value.cells, Pl.len]; rfl)) (one_val rfl) (Nat.le_of_ble_eq_true (enc_fitL _ _ rfl)) (sip_words.spl_v1 _ _) ?_)
  clear hM hA; intro w84  hM hE  a hA
  refine ⟨fun h => absurd h (by decide), ?_⟩
  refine d_done (by kernel_rfl) ?_
  refine TN ?_
  refine wp_region_lit ?_
  refine L1 (stv hA (by decide) (run_move (hA.ev rfl)) ?_)
  clear hA; intro a hA
  refine L1 (stv hA (by decide) (run_move (hA.ev rfl)) ?_)
  clear hA; intro a hA
  refine L1 (stv hA (by decide) (run_nilchk (hA.ev rfl)) ?_)
  clear hA; intro a hA
  refine L1 (stv hA (by decide) (run_field' Try.underlying80 rfl rfl Try.sizeOf22 (by decide) (hA.ev rfl)) ?_)
  clear hA; intro a hA
  refine L1 (stv hA (by decide) (run_ld (hA.ev rfl) (run_loadS Try.isAgg22 (sip_words.at_v2 (hM.box .z)))) ?_)
  clear hA; intro a hA
  obtain ⟨r85, H86, H⟩ := Option.bind_eq_some_iff.1 H
  refine L1 (st_call Try.call69 hA [(.int .u64 (IntKind.u64.wrap ((IntKind.u64.wrap (w_0.v2 + w_0.v3)) + (ixor .u64 r50 (IntKind.u64.wrap (w_0.v0 + w_0.v1)))))), (.int .i64 32)] rfl (by decide) (bits_RotateLeft64.calls _ _ _ _ _ _ (hM.front (Ms := [])) H86) ?_)
  clear hA; rintro _ w87 ⟨rfl, hMc⟩ a hA
  have hE := hMc.below; have hM := hM.call (Ms := []) hMc
  clear hMc; simp only [List.cons_append, List.nil_append] at hM
  refine L1 (stv hA (by decide) (run_nilchk (hA.ev rfl)) ?_)
  clear hA; intro a hA
  refine L1 (stv hA (by decide) (run_field' Try.underlying80 rfl rfl Try.sizeOf22 (by decide) (hA.ev rfl)) ?_)
  clear hA; intro a hA
  refine L1 (e_store (g := g0) (off := 2) (cur := (psip_words.enc (sip_words.mk (IntKind.u64.wrap (r54 + (ixor .u64 r63 (IntKind.u64.wrap (w_0.v2 + w_0.v3))))) (ixor .u64 r81 (IntKind.u64.wrap ((IntKind.u64.wrap (w_0.v2 + w_0.v3)) + (ixor .u64 r50 (IntKind.u64.wrap (w_0.v0 + w_0.v1)))))) (IntKind.u64.wrap ((IntKind.u64.wrap (w_0.v2 + w_0.v3)) + (ixor .u64 r50 (IntKind.u64.wrap (w_0.v0 + w_0.v1))))) (ixor .u64 r72 (IntKind.u64.wrap (r54 + (ixor .u64 r63 (IntKind.u64.wrap (w_0.v2 + w_0.v3))))))))) (cs' := (psip_words.enc (sip_words.mk (IntKind.u64.wrap (r54 + (ixor .u64 r63 (IntKind.u64.wrap (w_0.v2 + w_0.v3))))) (ixor .u64 r81 (IntKind.u64.wrap ((IntKind.u64.wrap (w_0.v2 + w_0.v3)) + (ixor .u64 r50 (IntKind.u64.wrap (w_0.v0 + w_0.v1)))))) r85 (ixor .u64 r72 (IntKind.u64.wrap (r54 + (ixor .u64 r63 (IntKind.u64.wrap (w_0.v2 + w_0.v3))))))))) hM .z Try.sizeOf22 hA rfl (by simp [add_mk]) rfl (by first | rfl | (simp [Value.cells, Pl.len]; done) | (simp [Value.cells, Pl.len]; rfl)) (one_val rfl) (Nat.le_of_ble_eq_true (enc_fitL _ _ rfl)) (sip_words.spl_v2 _ _) ?_)
  clear hM hA; intro w88  hM hE  a hA
  refine LQ ?_
  refine nret ?_
  obtain rfl := Option.some.inj H
  exact ret_post0 (fn := Try.f40) hA rfl  ⟨_, rfl, rfl, hM⟩

def sip_words_take.f (k : Nat) (w_0 : sip_words) (m_1 : Int) : Option sip_words := ((sip_words_round.f k (sip_words.mk w_0.v0 w_0.v1 w_0.v2 (ixor .u64 w_0.v3 m_1))).bind fun r10 => ((sip_words_round.f k r10).bind fun r13 => (some (sip_words.mk (ixor .u64 r13.v0 m_1) r13.v1 r13.v2 r13.v3))))
set_option maxHeartbeats 2000000 in
set_option maxRecDepth 100000 in
theorem sip_words_take.calls (k : Nat) (w_0 : sip_words) (m_1 : Int) (F : List (Option Nat)) (g0 : Nat) (r : sip_words) (w0 : World) (hM : Mem F w0 w0 [.box g0 80 (psip_words.enc w_0)]) (H : sip_words_take.f k w_0 m_1 = some r) :
    Calls Try.prog 38 #[(.pointer (some (⟨g0, 0, none⟩))), (.int .u64 m_1)] w0 fun e w' => ∃ v, e = .returned v ∧ v = (.tuple #[]) ∧ Mem F w0 w' [.box g0 80 (psip_words.enc r)] := by
  unfold sip_words_take.f at H
  refine enterL (n := 24) [(.pointer (some (⟨g0, 0, none⟩))), (.int .u64 m_1)] Try.func38 rfl rfl rfl ?_
  intro a hA
  refine wp_seq ?_
  refine wp_region_lit ?_
  refine L1 (stv hA (by decide) (run_move (hA.ev rfl)) ?_)
  clear hA; intro a hA
  refine L1 (stv hA (by decide) (run_nilchk (hA.ev rfl)) ?_)
  clear hA; intro a hA
  refine L1 (stv hA (by decide) (run_field' Try.underlying80 rfl rfl Try.sizeOf22 (by decide) (hA.ev rfl)) ?_)
  clear hA; intro a hA
  refine L1 (stv hA (by decide) (run_ld (hA.ev rfl) (run_loadS Try.isAgg22 (sip_words.at_v3 (hM.box .z)))) ?_)
  clear hA; intro a hA
  refine L1 (stv hA (by decide) (run_move (hA.ev rfl)) ?_)
  clear hA; intro a hA
  refine L1 (stv hA (by decide) (run_bin (hA.ev rfl) (hA.ev rfl) (bin_xor _ _ _ _)) ?_)
  clear hA; intro a hA
  refine L1 (stv hA (by decide) (run_nilchk (hA.ev rfl)) ?_)
  clear hA; intro a hA
  refine L1 (stv hA (by decide) (run_field' Try.underlying80 rfl rfl Try.sizeOf22 (by decide) (hA.ev rfl)) ?_)
  clear hA; intro a hA
  refine L1 (e_store (g := g0) (off := 3) (cur := (psip_words.enc w_0)) (cs' := (psip_words.enc (sip_words.mk w_0.v0 w_0.v1 w_0.v2 (ixor .u64 w_0.v3 m_1)))) hM .z Try.sizeOf22 hA rfl (by simp [add_mk]) rfl (by first | rfl | (simp [Value.cells, Pl.len]; done) | (simp [Value.cells, Pl.len]; rfl)) (one_val rfl) (Nat.le_of_ble_eq_true (enc_fitL _ _ rfl)) (sip_words.spl_v3 _ _) ?_)
  clear hM hA; intro w9  hM hE  a hA
  refine LQ ?_
  refine TN ?_
  refine wp_seq ?_
  refine wp_region_lit ?_
  refine L1 (stv hA (by decide) (run_move (hA.ev rfl)) ?_)
  clear hA; intro a hA
  obtain ⟨r10, H11, H⟩ := Option.bind_eq_some_iff.1 H
  refine L1 (st_call Try.call40 hA [(.pointer (some (⟨g0, 0, none⟩)))] rfl (by decide) (sip_words_round.calls _ _ _ _ _ _ (hM.front (Ms := [_])) H11) ?_)
  clear hA; rintro _ w12 ⟨rfl, hMc⟩ a hA
  have hM := hM.call (Ms := [_]) hMc
  clear hMc; simp only [List.cons_append, List.nil_append] at hM
  refine LQ ?_
  refine TN ?_
  refine wp_seq ?_
  refine wp_region_lit ?_
  refine L1 (stv hA (by decide) (run_move (hA.ev rfl)) ?_)
  clear hA; intro a hA
  obtain ⟨r13, H14, H⟩ := Option.bind_eq_some_iff.1 H
  refine L1 (st_call Try.call40 hA [(.pointer (some (⟨g0, 0, none⟩)))] rfl (by decide) (sip_words_round.calls _ _ _ _ _ _ (hM.front (Ms := [_])) H14) ?_)
  clear hA; rintro _ w15 ⟨rfl, hMc⟩ a hA
  have hM := hM.call (Ms := [_]) hMc
  clear hMc; simp only [List.cons_append, List.nil_append] at hM
  refine LQ ?_
  refine TN ?_
  refine wp_region_lit ?_
  refine L1 (stv hA (by decide) (run_move (hA.ev rfl)) ?_)
  clear hA; intro a hA
  refine L1 (stv hA (by decide) (run_nilchk (hA.ev rfl)) ?_)
  clear hA; intro a hA
  refine L1 (stv hA (by decide) (run_field' Try.underlying80 rfl rfl Try.sizeOf22 (by decide) (hA.ev rfl)) ?_)
  clear hA; intro a hA
  refine L1 (stv hA (by decide) (run_ld (hA.ev rfl) (run_loadS Try.isAgg22 (sip_words.at_v0 (hM.box .z)))) ?_)
  clear hA; intro a hA
  refine L1 (stv hA (by decide) (run_move (hA.ev rfl)) ?_)
  clear hA; intro a hA
  refine L1 (stv hA (by decide) (run_bin (hA.ev rfl) (hA.ev rfl) (bin_xor _ _ _ _)) ?_)
  clear hA; intro a hA
  refine L1 (stv hA (by decide) (run_nilchk (hA.ev rfl)) ?_)
  clear hA; intro a hA
  refine L1 (stv hA (by decide) (run_field' Try.underlying80 rfl rfl Try.sizeOf22 (by decide) (hA.ev rfl)) ?_)
  clear hA; intro a hA
  refine L1 (e_store (g := g0) (off := 0) (cur := (psip_words.enc r13)) (cs' := (psip_words.enc (sip_words.mk (ixor .u64 r13.v0 m_1) r13.v1 r13.v2 r13.v3))) hM .z Try.sizeOf22 hA rfl (by simp [add_mk]) rfl (by first | rfl | (simp [Value.cells, Pl.len]; done) | (simp [Value.cells, Pl.len]; rfl)) (one_val rfl) (Nat.le_of_ble_eq_true (enc_fitL _ _ rfl)) (sip_words.spl_v0 _ _) ?_)
  clear hM hA; intro w16  hM hE  a hA
  refine LQ ?_
  refine nret ?_
  obtain rfl := Option.some.inj H
  exact ret_post0 (fn := Try.f38) hA rfl  ⟨_, rfl, rfl, hM⟩

def sip_word.l0 (b_0 : (List Int)) : Nat → Int → Int → Option (Int)
  | 0, _, _ => none
  | k + 1, t94, t98 => (if (decide (t98 < ((b_0.length : Nat) : Int))) = true then (if 0 ≤ t98 ∧ t98 < ((b_0.length : Nat) : Int) then (if 0 ≤ (IntKind.i64.wrap (8 * t98)) then (sip_word.l0 b_0 k (ior .u64 t94 (ishl .u64 (IntKind.u64.wrap (b_0.getD t98.toNat (0 : Int))) (IntKind.i64.wrap (8 * t98)))) (IntKind.i64.wrap (t98 + 1))) else none) else none) else (some t94))
def sip_word.f (k : Nat) (b_0 : (List Int)) : Option Int := (Option.bind (α := Int) (sip_word.l0 b_0 k 0 0) (fun t100 => (some t100)))
set_option maxHeartbeats 2000000 in
set_option maxRecDepth 100000 in
theorem sip_word.calls (k : Nat) (b_0 : (List Int)) (F : List (Option Nat)) (v0 : Value) (r : Int) (w0 : World) (h0 : RoV F (Pl.int .u8) w0 v0 b_0) (hM : Mem F w0 w0 []) (H : sip_word.f k b_0 = some r) :
    Calls Try.prog 39 #[v0] w0 fun e w' => ∃ v, e = .returned v ∧ v = (.int .u64 r) ∧ Mem F w0 w' [] := by
  unfold sip_word.f at H
  obtain ⟨A0, c0, rfl, hr0, hc0⟩ := h0
  refine enterL (n := 22) [(.slice A0 b_0.length c0)] Try.func39 rfl rfl rfl ?_
  intro a hA
  refine wp_seq ?_
  refine wp_region_lit ?_
  refine L1 (stv hA (by decide) (run_assign (hA.ev rfl)) ?_)
  clear hA; intro a hA
  refine LQ ?_
  refine TN ?_
  refine wp_seq ?_
  refine wp_region_lit ?_
  refine L1 (stv hA (by decide) (run_assign (hA.ev rfl)) ?_)
  clear hA; intro a hA
  refine LQ ?_
  refine TN ?_
  refine wp_seq ?_
  refine wp_seq ?_
  refine wp_region_lit ?_
  refine L1 (stv hA (by decide) (run_move (hA.ev rfl)) ?_)
  clear hA; intro a hA
  refine L1 (stv hA (by decide) (run_len_slice Try.underlying25 (hA.ev rfl)) ?_)
  clear hA; intro a hA
  refine L1 (stv hA (by decide) (run_move (hA.ev rfl)) ?_)
  clear hA; intro a hA
  refine LQ ?_
  refine TN ?_
  obtain ⟨o102, H101, H⟩ := Option.bind_eq_some_iff.1 H
  refine cutC (fun a w => ∃ (t100 : Int), t100 = o102 ∧ Mem F w0 w [] ∧ Has 22 [(3, (.int .u64 t100))] a) ?_ ?_
  · refine wp_block ?_
    refine wp_loop_ghost (fun m a w => ∃ (t94 : Int) (t98 : Int), sip_word.l0 b_0 m t94 t98 = some o102 ∧ Mem F w0 w [] ∧ Has 22 [(3, (.int .u64 t94)), (6, (.slice A0 b_0.length c0)), (7, (.int .i64 ((b_0.length : Nat) : Int))), (8, (.int .i64 t98))] a) k ⟨0, 0, H101, hM, ((((hA.nil.cons (hA.get 8 _ rfl)).cons (hA.get 7 _ rfl)).cons (hA.get 6 _ rfl)).cons (hA.get 3 _ rfl))⟩ ?_
    clear hM hA; rintro m103 a w104 ⟨t94, t98, H101, hM, hA⟩
    cases m103 with
    | zero => exact absurd H101 (by simp [sip_word.l0])
    | succ m103 =>
    rw [sip_word.l0] at H101
    refine wp_seq ?_
    refine wp_region_lit ?_
    refine L1 (stv hA (by decide) (run_bin (hA.ev rfl) (hA.ev rfl) (bin_lss _ _ _ _)) ?_)
    clear hA; intro a hA
    refine LQ ?_
    refine TN ?_
    refine wp_seq ?_
    refine tcond (b := (decide (t98 < ((b_0.length : Nat) : Int)))) hA rfl (fun hb105 => ?_) (fun hb105 => ?_)
    · replace H101 := ite_t hb105 H101
      refine wp_skip ?_
      refine TN ?_
      refine wp_seq ?_
      refine wp_block ?_
      refine wp_seq ?_
      refine wp_region_lit ?_
      refine L1 (stv hA (by decide) (run_move (hA.ev rfl)) ?_)
      clear hA; intro a hA
      obtain ⟨⟨hi106, hj107⟩, H101⟩ := ite_some H101
      obtain ⟨ad108, hq109, hat110⟩ := Row.elem' (p := (Pl.int .u8)) (hM.ro hr0) (Eq.refl b_0.length) (0 : Int) t98 hi106 hj107
      refine L1 (stv hA (by decide) (run_idx Try.underlying25 Try.sizeOf5 (hA.ev rfl) hq109 (hA.ev rfl) hi106 hj107) ?_)
      clear hA; intro a hA
      refine L1 (stv hA (by decide) (run_ld (hA.ev rfl) (run_loadS Try.isAgg5 hat110)) ?_)
      clear hA; intro a hA
      refine L1 (stv hA (by decide) (run_assign (hA.ev rfl)) ?_)
      clear hA; intro a hA
      refine L1 (stv hA (by decide) (run_assign (hA.ev rfl)) ?_)
      clear hA; intro a hA
      refine LQ ?_
      refine TN ?_
      refine wp_region_lit ?_
      refine L1 (stv hA (by decide) (run_move (hA.ev rfl)) ?_)
      clear hA; intro a hA
      refine L1 (stv hA (by decide) (run_move (hA.ev rfl)) ?_)
      clear hA; intro a hA
      refine L1 (stv hA (by decide) (run_conv Try.underlying5 Try.underlying22 (hA.ev rfl)) ?_)
      clear hA; intro a hA
      refine L1 (stv hA (by decide) (run_move (hA.ev rfl)) ?_)
      clear hA; intro a hA
      refine L1 (stv hA (by decide) (run_bin (hA.ev rfl) (hA.ev rfl) (bin_mul _ _ _ _)) ?_)
      clear hA; intro a hA
      obtain ⟨hs111, H101⟩ := ite_some H101
      refine L1 (stv hA (by decide) (run_shl (hA.ev rfl) (hA.ev rfl) hs111) ?_)
      clear hA; intro a hA
      refine L1 (stv hA (by decide) (run_bin (hA.ev rfl) (hA.ev rfl) (bin_or _ _ _ _)) ?_)
      clear hA; intro a hA
      refine L1 (stv hA (by decide) (run_assign (hA.ev rfl)) ?_)
      clear hA; intro a hA
      refine LQ ?_
      refine BN ?_
      refine TN ?_
      refine wp_region_lit ?_
      refine L1 (stv hA (by decide) (run_bin (hA.ev rfl) (hA.ev rfl) (bin_add _ _ _ _)) ?_)
      clear hA; intro a hA
      refine L1 (stv hA (by decide) (run_move (hA.ev rfl)) ?_)
      clear hA; intro a hA
      refine LQ ?_
      exact ⟨_, Nat.lt_succ_self m103, ior .u64 t94 (ishl .u64 (IntKind.u64.wrap (b_0.getD t98.toNat (0 : Int))) (IntKind.i64.wrap (8 * t98))), IntKind.i64.wrap (t98 + 1), H101, hM, ((((hA.nil.cons (hA.get 8 _ rfl)).cons (hA.get 7 _ rfl)).cons (hA.get 6 _ rfl)).cons (hA.get 3 _ rfl))⟩
    · replace H101 := ite_f hb105 H101
      refine wp_exit ?_
      refine TX ?_
      refine TX ?_
      refine BX ?_
      exact ⟨t94, Option.some.inj H101, hM, (hA.nil.cons (hA.get 3 _ rfl))⟩
  clear hM hA
  rintro a w112 ⟨t100, rfl, hM, hA⟩
  try dsimp only at H
  refine TN ?_
  refine wp_seq ?_
  refine wp_region_lit ?_
  refine L1 (stv hA (by decide) (run_move (hA.ev rfl)) ?_)
  clear hA; intro a hA
  refine L1 (stv hA (by decide) (run_assign (hA.ev rfl)) ?_)
  clear hA; intro a hA
  refine LQ ?_
  refine TN ?_
  refine wp_ret ?_
  obtain rfl := Option.some.inj H
  exact ret_post1 (fn := Try.f39) hA rfl rfl ⟨_, rfl, rfl, hM⟩

def sip_Sum.l0  : Nat → (List Int) → sip_words → Option ((List Int) × sip_words)
  | 0, _, _ => none
  | k + 1, b214, x222 => (if (decide (((b214.length : Nat) : Int) ≥ 8)) = true then (if 0 ≤ (8 : Int) ∧ (8 : Int) ≤ ((b214.length : Nat) : Int) then ((sip_word.f k (b214.take ((8 : Int).toNat))).bind fun r242 => ((sip_words_take.f k x222 r242).bind fun r245 => (if 0 ≤ (8 : Int) ∧ (8 : Int) ≤ ((b214.length : Nat) : Int) then (sip_Sum.l0  k (b214.drop ((8 : Int).toNat)) r245) else none))) else none) else (some (b214, x222)))
def sip_Sum.l1  : Nat → sip_words → Int → Option (sip_words)
  | 0, _, _ => none
  | k + 1, x281, t283 => (if (decide (t283 < 4)) = true then ((sip_words_round.f k x281).bind fun r291 => (sip_Sum.l1  k r291 (IntKind.i64.wrap (t283 + 1)))) else (some x281))
def sip_Sum.f (k : Nat) (k_0 : (Vector Int 2)) (b_1 : (List Int)) : Option Int := (Option.bind (α := (List Int) × sip_words) (sip_Sum.l0 k b_1 (sip_words.mk (ixor .u64 (vg k_0 (0 : Int)) 8317987319222330741) (ixor .u64 (vg k_0 (1 : Int)) 7237128888997146477) (ixor .u64 (vg k_0 (0 : Int)) 7816392313619706465) (ixor .u64 (vg k_0 (1 : Int)) 8387220255154660723))) (fun st => match st with | (b225, x233) => ((sip_word.f k b225).bind fun r251 => ((sip_words_take.f k x233 (ior .u64 r251 (ishl .u64 (IntKind.u64.wrap ((b_1.length : Nat) : Int)) 56))).bind fun r254 => (Option.bind (α := sip_words) (sip_Sum.l1 k (sip_words.mk r254.v0 r254.v1 (ixor .u64 r254.v2 255) r254.v3) 0) (fun x285 => (some (ixor .u64 (ixor .u64 (ixor .u64 x285.v0 x285.v1) x285.v2) x285.v3))))))))
set_option maxHeartbeats 2000000 in
set_option maxRecDepth 100000 in
theorem sip_Sum.calls (k : Nat) (k_0 : (Vector Int 2)) (b_1 : (List Int)) (F : List (Option Nat)) (v1 : Value) (r : Int) (w0 : World) (h1 : RoV F (Pl.int .u8) w0 v1 b_1) (hM : Mem F w0 w0 []) (H : sip_Sum.f k k_0 b_1 = some r) :
    Calls Try.prog 13 #[(.agg (pSipKey.enc k_0).toArray), v1] w0 fun e w' => ∃ v, e = .returned v ∧ v = (.int .u64 r) ∧ Mem F w0 w' [] := by
  unfold sip_Sum.f at H
  obtain ⟨A1, c1, rfl, hr1, hc1⟩ := h1
  refine enterL (n := 57) [(.agg (pSipKey.enc k_0).toArray), (.slice A1 b_1.length c1)] Try.func13 rfl rfl rfl ?_
  intro a hA
  refine wp_seq ?_
  refine wp_region_lit ?_
  refine L1 (e_box (cs := (pSipKey.enc k_0)) hM hA rfl rfl (by decide) ?_)
  clear hM hA; intro w149 g148 hM hE  a hA
  refine L1 (stv hA (by decide) (run_assign (hA.ev rfl)) ?_)
  clear hA; intro a hA
  refine LQ ?_
  refine TN ?_
  refine wp_seq ?_
  refine wp_region_lit ?_
  refine L1 (stv hA (by decide) (run_idxarr Try.underlying24 Try.sizeOf22 (hA.ev rfl) (hA.ev rfl) (by decide) (by decide)) ?_)
  clear hA; intro a hA
  refine L1 (stv hA (by decide) (run_ld (hA.ev rfl) (run_loadS Try.isAgg22 (vec_at (hM.box .z) (by decide) (by decide)))) ?_)
  clear hA; intro a hA
  refine L1 (stv hA (by decide) (run_bin (hA.ev rfl) (hA.ev rfl) (bin_xor _ _ _ _)) ?_)
  clear hA; intro a hA
  refine L1 (stv hA (by decide) (run_idxarr Try.underlying24 Try.sizeOf22 (hA.ev rfl) (hA.ev rfl) (by decide) (by decide)) ?_)
  clear hA; intro a hA
  refine L1 (stv hA (by decide) (run_ld (hA.ev rfl) (run_loadS Try.isAgg22 (vec_at (hM.box .z) (by decide) (by decide)))) ?_)
  clear hA; intro a hA
  refine L1 (stv hA (by decide) (run_bin (hA.ev rfl) (hA.ev rfl) (bin_xor _ _ _ _)) ?_)
  clear hA; intro a hA
  refine L1 (stv hA (by decide) (run_idxarr Try.underlying24 Try.sizeOf22 (hA.ev rfl) (hA.ev rfl) (by decide) (by decide)) ?_)
  clear hA; intro a hA
  refine L1 (stv hA (by decide) (run_ld (hA.ev rfl) (run_loadS Try.isAgg22 (vec_at (hM.box .z) (by decide) (by decide)))) ?_)
  clear hA; intro a hA
  refine L1 (stv hA (by decide) (run_bin (hA.ev rfl) (hA.ev rfl) (bin_xor _ _ _ _)) ?_)
  clear hA; intro a hA
  refine L1 (stv hA (by decide) (run_idxarr Try.underlying24 Try.sizeOf22 (hA.ev rfl) (hA.ev rfl) (by decide) (by decide)) ?_)
  clear hA; intro a hA
  refine L1 (stv hA (by decide) (run_ld (hA.ev rfl) (run_loadS Try.isAgg22 (vec_at (hM.box .z) (by decide) (by decide)))) ?_)
  clear hA; intro a hA
  refine L1 (stv hA (by decide) (run_bin (hA.ev rfl) (hA.ev rfl) (bin_xor _ _ _ _)) ?_)
  clear hA; intro a hA
  refine L1 (stv hA (by decide) (run_build [(0, (.int .u64 (ixor .u64 (vg k_0 (0 : Int)) 8317987319222330741))), (1, (.int .u64 (ixor .u64 (vg k_0 (1 : Int)) 7237128888997146477))), (2, (.int .u64 (ixor .u64 (vg k_0 (0 : Int)) 7816392313619706465))), (3, (.int .u64 (ixor .u64 (vg k_0 (1 : Int)) 8387220255154660723)))] zero80 Try.underlying80 (ss := [1, 1, 1, 1]) ⟨Try.sizeOf22, Try.sizeOf22, Try.sizeOf22, Try.sizeOf22, trivial⟩ hA rfl (fill_step rfl rfl (enc_fit _ _ rfl) (arr_eq (sip_words.spl_v0 _ _)) (fill_step rfl rfl (enc_fit _ _ rfl) (arr_eq (sip_words.spl_v1 _ _)) (fill_step rfl rfl (enc_fit _ _ rfl) (arr_eq (sip_words.spl_v2 _ _)) (fill_step rfl rfl (enc_fit _ _ rfl) (arr_eq (sip_words.spl_v3 _ _)) (fill_nil)))))) ?_)
  clear hA; intro a hA
  refine L1 (e_alloc (cs := (psip_words.enc sip_words.z)) hM zero80 rfl hA (by decide) ?_)
  clear hM hA; intro w152 g151 hM hE  a hA
  refine L1 (e_store (g := g151) (off := 0) (cur := (psip_words.enc sip_words.z)) (cs' := (psip_words.enc (sip_words.mk (ixor .u64 (vg k_0 (0 : Int)) 8317987319222330741) (ixor .u64 (vg k_0 (1 : Int)) 7237128888997146477) (ixor .u64 (vg k_0 (0 : Int)) 7816392313619706465) (ixor .u64 (vg k_0 (1 : Int)) 8387220255154660723)))) hM .z Try.sizeOf80 hA rfl (by simp [add_mk]) rfl (agg_size _ _) (agg_one _ _) (Nat.le_of_ble_eq_true (enc_fitL _ _ rfl)) (spl_all (by first | rfl | (simp [Value.cells, Pl.len]; done) | (simp [Value.cells, Pl.len]; rfl))) ?_)
  clear hM hA; intro w154  hM hE  a hA
  refine LQ ?_
  refine TN ?_
  refine wp_seq ?_
  refine wp_region_lit ?_
  refine L1 (stv hA (by decide) (run_move (hA.ev rfl)) ?_)
  clear hA; intro a hA
  refine L1 (stv hA (by decide) (run_len_slice Try.underlying25 (hA.ev rfl)) ?_)
  clear hA; intro a hA
  refine L1 (stv hA (by decide) (run_conv Try.underlying3 Try.underlying22 (hA.ev rfl)) ?_)
  clear hA; intro a hA
  refine L1 (stv hA (by decide) (run_shl (hA.ev rfl) (hA.ev rfl) (by decide)) ?_)
  clear hA; intro a hA
  refine L1 (stv hA (by decide) (run_assign (hA.ev rfl)) ?_)
  clear hA; intro a hA
  refine LQ ?_
  refine TN ?_
  refine wp_seq ?_
  obtain ⟨o236, H235, H⟩ := Option.bind_eq_some_iff.1 H
  refine cutC (fun a w => ∃ (b225 : (List Int)) (x233 : sip_words) (v226 : Value), (b225, x233) = o236 ∧ (RoV F (Pl.int .u8) w0 v226 b225) ∧ Mem F w0 w [.box g151 80 (psip_words.enc x233)] ∧ Has 57 [(1, v226), (5, (.pointer (some (⟨g151, 0, none⟩)))), (6, (.int .u64 (ishl .u64 (IntKind.u64.wrap ((b_1.length : Nat) : Int)) 56)))] a) ?_ ?_
  · refine wp_block ?_
    refine wp_loop_ghost (fun m a w => ∃ (b214 : (List Int)) (x222 : sip_words) (v215 : Value), sip_Sum.l0 m b214 x222 = some o236 ∧ (RoV F (Pl.int .u8) w0 v215 b214) ∧ Mem F w0 w [.box g151 80 (psip_words.enc x222)] ∧ Has 57 [(1, v215), (5, (.pointer (some (⟨g151, 0, none⟩)))), (6, (.int .u64 (ishl .u64 (IntKind.u64.wrap ((b_1.length : Nat) : Int)) 56)))] a) k ⟨b_1, (sip_words.mk (ixor .u64 (vg k_0 (0 : Int)) 8317987319222330741) (ixor .u64 (vg k_0 (1 : Int)) 7237128888997146477) (ixor .u64 (vg k_0 (0 : Int)) 7816392313619706465) (ixor .u64 (vg k_0 (1 : Int)) 8387220255154660723)), (.slice A1 b_1.length c1), H235, (RoV.mk hr1 (Eq.refl b_1.length) hc1), (hM.sel [0] rfl (by decide)), (((hA.nil.cons (hA.get 6 _ rfl)).cons (hA.get 5 _ rfl)).cons (hA.get 1 _ rfl))⟩ ?_
    clear hM hA; rintro m237 a w238 ⟨b214, x222, v215, H235, h220, hM, hA⟩
    cases m237 with
    | zero => exact absurd H235 (by simp [sip_Sum.l0])
    | succ m237 =>
    rw [sip_Sum.l0] at H235
    obtain ⟨A216, c217, rfl, hr218, hc219⟩ := h220
    refine wp_seq ?_
    refine wp_seq ?_
    refine wp_region_lit ?_
    refine L1 (stv hA (by decide) (run_move (hA.ev rfl)) ?_)
    clear hA; intro a hA
    refine L1 (stv hA (by decide) (run_len_slice Try.underlying25 (hA.ev rfl)) ?_)
    clear hA; intro a hA
    refine L1 (stv hA (by decide) (run_bin (hA.ev rfl) (hA.ev rfl) (bin_geq _ _ _ _)) ?_)
    clear hA; intro a hA
    refine LQ ?_
    refine TN ?_
    refine tcond (b := (decide (((b214.length : Nat) : Int) ≥ 8))) hA rfl (fun hb239 => ?_) (fun hb239 => ?_)
    · replace H235 := ite_t hb239 H235
      refine wp_skip ?_
      refine TN ?_
      refine wp_seq ?_
      refine wp_block ?_
      refine wp_region_lit ?_
      refine L1 (stv hA (by decide) (run_move (hA.ev rfl)) ?_)
      clear hA; intro a hA
      obtain ⟨⟨hi240, hj241⟩, H235⟩ := ite_some H235
      refine L1 (stv hA (by decide) (run_hi Try.underlying25 Try.sizeOf5 hc219 hi240 hj241 (hA.ev rfl) (hA.ev rfl)) ?_)
      clear hA; intro a hA
      obtain ⟨r242, H243, H235⟩ := Option.bind_eq_some_iff.1 H235
      refine L1 (st_call Try.call39 hA [(.slice A216 ((8 : Int).toNat) c217)] rfl (by decide) (sip_word.calls _ _ _ _ _ _ ((RoV.mk (Ro.take (hM.roC (Ms := []) hr218) ((8 : Int).toNat)) (len_take (Eq.refl b214.length) (by omega)) (by have hh1 := hc219; omega))) (hM.front (Ms := [])) H243) ?_)
      clear hA; rintro _ w244 ⟨rfl, hMc⟩ a hA
      have hE := hMc.below; have hM := hM.call (Ms := []) hMc
      clear hMc; simp only [List.cons_append, List.nil_append] at hM
      obtain ⟨r245, H246, H235⟩ := Option.bind_eq_some_iff.1 H235
      refine L1 (st_call Try.call38 hA [(.pointer (some (⟨g151, 0, none⟩))), (.int .u64 r242)] rfl (by decide) (sip_words_take.calls _ _ _ _ _ _ _ (hM.front (Ms := [_])) H246) ?_)
      clear hA; rintro _ w247 ⟨rfl, hMc⟩ a hA
      have hM := hM.call (Ms := [_]) hMc
      clear hMc; simp only [List.cons_append, List.nil_append] at hM
      refine LQ ?_
      refine BN ?_
      refine TN ?_
      refine wp_region_lit ?_
      refine L1 (stv hA (by decide) (run_move (hA.ev rfl)) ?_)
      clear hA; intro a hA
      obtain ⟨⟨hi248, hj249⟩, H235⟩ := ite_some H235
      refine L1 (stv hA (by decide) (run_lo Try.underlying25 Try.sizeOf5 hc219 hi248 hj249 (hA.ev rfl) (hA.ev rfl)) ?_)
      clear hA; intro a hA
      refine L1 (stv hA (by decide) (run_assign (hA.ev rfl)) ?_)
      clear hA; intro a hA
      refine LQ ?_
      exact ⟨_, Nat.lt_succ_self m237, (b214.drop ((8 : Int).toNat)), r245, (.slice (adrop A216 c217 ((8 : Int).toNat) 1) (b214.length - (8 : Int).toNat) (c217 - (8 : Int).toNat)), H235, (RoV.mk (Ro.drop (c := c217) hr218 (by have hh1 := (Eq.refl b214.length); omega) (by have hh1 := (Eq.refl b214.length); have hh2 := hc219; omega)) (len_drop (Eq.refl b214.length)) (by have hh1 := hc219; omega)), hM, (((hA.nil.cons (hA.get 6 _ rfl)).cons (hA.get 5 _ rfl)).cons (hA.get 1 _ rfl))⟩
    · replace H235 := ite_f hb239 H235
      refine wp_exit ?_
      refine TX ?_
      refine TX ?_
      refine BX ?_
      exact ⟨b214, x222, (.slice A216 b214.length c217), Option.some.inj H235, (RoV.mk hr218 (Eq.refl b214.length) hc219), hM, (((hA.nil.cons (hA.get 6 _ rfl)).cons (hA.get 5 _ rfl)).cons (hA.get 1 _ rfl))⟩
  clear hM hA
  rintro a w250 ⟨b225, x233, v226, rfl, h231, hM, hA⟩
  try dsimp only at H
  obtain ⟨A227, c228, rfl, hr229, hc230⟩ := h231
  refine TN ?_
  refine wp_seq ?_
  refine wp_region_lit ?_
  refine L1 (stv hA (by decide) (run_move (hA.ev rfl)) ?_)
  clear hA; intro a hA
  obtain ⟨r251, H252, H⟩ := Option.bind_eq_some_iff.1 H
  refine L1 (st_call Try.call39 hA [(.slice A227 b225.length c228)] rfl (by decide) (sip_word.calls _ _ _ _ _ _ ((RoV.mk (hM.roC (Ms := []) hr229) (Eq.refl b225.length) hc230)) (hM.front (Ms := [])) H252) ?_)
  clear hA; rintro _ w253 ⟨rfl, hMc⟩ a hA
  have hE := hMc.below; have hM := hM.call (Ms := []) hMc
  clear hMc; simp only [List.cons_append, List.nil_append] at hM
  refine L1 (stv hA (by decide) (run_move (hA.ev rfl)) ?_)
  clear hA; intro a hA
  refine L1 (stv hA (by decide) (run_bin (hA.ev rfl) (hA.ev rfl) (bin_or _ _ _ _)) ?_)
  clear hA; intro a hA
  obtain ⟨r254, H255, H⟩ := Option.bind_eq_some_iff.1 H
  refine L1 (st_call Try.call38 hA [(.pointer (some (⟨g151, 0, none⟩))), (.int .u64 (ior .u64 r251 (ishl .u64 (IntKind.u64.wrap ((b_1.length : Nat) : Int)) 56)))] rfl (by decide) (sip_words_take.calls _ _ _ _ _ _ _ (hM.front (Ms := [_])) H255) ?_)
  clear hA; rintro _ w256 ⟨rfl, hMc⟩ a hA
  have hM := hM.call (Ms := [_]) hMc
  clear hMc; simp only [List.cons_append, List.nil_append] at hM
  refine LQ ?_
  refine TN ?_
  refine wp_seq ?_
  refine wp_region_lit ?_
  refine L1 (stv hA (by decide) (run_field' Try.underlying80 rfl rfl Try.sizeOf22 (by decide) (hA.ev rfl)) ?_)
  clear hA; intro a hA
  refine L1 (stv hA (by decide) (run_ld (hA.ev rfl) (run_loadS Try.isAgg22 (sip_words.at_v2 (hM.box .z)))) ?_)
  clear hA; intro a hA
  refine L1 (stv hA (by decide) (run_bin (hA.ev rfl) (hA.ev rfl) (bin_xor _ _ _ _)) ?_)
  clear hA; intro a hA
  refine L1 (stv hA (by decide) (run_field' Try.underlying80 rfl rfl Try.sizeOf22 (by decide) (hA.ev rfl)) ?_)
  clear hA; intro a hA
  refine L1 (e_store (g := g151) (off := 2) (cur := (psip_words.enc r254)) (cs' := (psip_words.enc (sip_words.mk r254.v0 r254.v1 (ixor .u64 r254.v2 255) r254.v3))) hM .z Try.sizeOf22 hA rfl (by simp [add_mk]) rfl (by first | rfl | (simp [Value.cells, Pl.len]; done) | (simp [Value.cells, Pl.len]; rfl)) (one_val rfl) (Nat.le_of_ble_eq_true (enc_fitL _ _ rfl)) (sip_words.spl_v2 _ _) ?_)
  clear hM hA; intro w257  hM hE  a hA
  refine LQ ?_
  refine TN ?_
  refine wp_seq ?_
  refine wp_seq ?_
  refine wp_region_lit ?_
  refine L1 (stv hA (by decide) (run_move (hA.ev rfl)) ?_)
  clear hA; intro a hA
  refine LQ ?_
  refine TN ?_
  obtain ⟨o287, H286, H⟩ := Option.bind_eq_some_iff.1 H
  refine cutC (fun a w => ∃ (x285 : sip_words), x285 = o287 ∧ Mem F w0 w [.box g151 80 (psip_words.enc x285)] ∧ Has 57 [(5, (.pointer (some (⟨g151, 0, none⟩))))] a) ?_ ?_
  · refine wp_block ?_
    refine wp_loop_ghost (fun m a w => ∃ (x281 : sip_words) (t283 : Int), sip_Sum.l1 m x281 t283 = some o287 ∧ Mem F w0 w [.box g151 80 (psip_words.enc x281)] ∧ Has 57 [(5, (.pointer (some (⟨g151, 0, none⟩)))), (42, (.int .i64 t283))] a) k ⟨(sip_words.mk r254.v0 r254.v1 (ixor .u64 r254.v2 255) r254.v3), 0, H286, hM, ((hA.nil.cons (hA.get 42 _ rfl)).cons (hA.get 5 _ rfl))⟩ ?_
    clear hM hA; rintro m288 a w289 ⟨x281, t283, H286, hM, hA⟩
    cases m288 with
    | zero => exact absurd H286 (by simp [sip_Sum.l1])
    | succ m288 =>
    rw [sip_Sum.l1] at H286
    refine wp_seq ?_
    refine wp_region_lit ?_
    refine L1 (stv hA (by decide) (run_bin (hA.ev rfl) (hA.ev rfl) (bin_lss _ _ _ _)) ?_)
    clear hA; intro a hA
    refine LQ ?_
    refine TN ?_
    refine wp_seq ?_
    refine tcond (b := (decide (t283 < 4))) hA rfl (fun hb290 => ?_) (fun hb290 => ?_)
    · replace H286 := ite_t hb290 H286
      refine wp_skip ?_
      refine TN ?_
      refine wp_seq ?_
      refine wp_block ?_
      refine wp_region_lit ?_
      obtain ⟨r291, H292, H286⟩ := Option.bind_eq_some_iff.1 H286
      refine L1 (st_call Try.call40 hA [(.pointer (some (⟨g151, 0, none⟩)))] rfl (by decide) (sip_words_round.calls _ _ _ _ _ _ (hM.front (Ms := [_])) H292) ?_)
      clear hA; rintro _ w293 ⟨rfl, hMc⟩ a hA
      have hM := hM.call (Ms := [_]) hMc
      clear hMc; simp only [List.cons_append, List.nil_append] at hM
      refine LQ ?_
      refine BN ?_
      refine TN ?_
      refine wp_region_lit ?_
      refine L1 (stv hA (by decide) (run_bin (hA.ev rfl) (hA.ev rfl) (bin_add _ _ _ _)) ?_)
      clear hA; intro a hA
      refine L1 (stv hA (by decide) (run_move (hA.ev rfl)) ?_)
      clear hA; intro a hA
      refine LQ ?_
      exact ⟨_, Nat.lt_succ_self m288, r291, IntKind.i64.wrap (t283 + 1), H286, hM, ((hA.nil.cons (hA.get 42 _ rfl)).cons (hA.get 5 _ rfl))⟩
    · replace H286 := ite_f hb290 H286
      refine wp_exit ?_
      refine TX ?_
      refine TX ?_
      refine BX ?_
      exact ⟨x281, Option.some.inj H286, hM, (hA.nil.cons (hA.get 5 _ rfl))⟩
  clear hM hA
  rintro a w294 ⟨x285, rfl, hM, hA⟩
  try dsimp only at H
  refine TN ?_
  refine wp_seq ?_
  refine wp_region_lit ?_
  refine L1 (stv hA (by decide) (run_field' Try.underlying80 rfl rfl Try.sizeOf22 (by decide) (hA.ev rfl)) ?_)
  clear hA; intro a hA
  refine L1 (stv hA (by decide) (run_ld (hA.ev rfl) (run_loadS Try.isAgg22 (sip_words.at_v0 (hM.box .z)))) ?_)
  clear hA; intro a hA
  refine L1 (stv hA (by decide) (run_field' Try.underlying80 rfl rfl Try.sizeOf22 (by decide) (hA.ev rfl)) ?_)
  clear hA; intro a hA
  refine L1 (stv hA (by decide) (run_ld (hA.ev rfl) (run_loadS Try.isAgg22 (sip_words.at_v1 (hM.box .z)))) ?_)
  clear hA; intro a hA
  refine L1 (stv hA (by decide) (run_bin (hA.ev rfl) (hA.ev rfl) (bin_xor _ _ _ _)) ?_)
  clear hA; intro a hA
  refine L1 (stv hA (by decide) (run_field' Try.underlying80 rfl rfl Try.sizeOf22 (by decide) (hA.ev rfl)) ?_)
  clear hA; intro a hA
  refine L1 (stv hA (by decide) (run_ld (hA.ev rfl) (run_loadS Try.isAgg22 (sip_words.at_v2 (hM.box .z)))) ?_)
  clear hA; intro a hA
  refine L1 (stv hA (by decide) (run_bin (hA.ev rfl) (hA.ev rfl) (bin_xor _ _ _ _)) ?_)
  clear hA; intro a hA
  refine L1 (stv hA (by decide) (run_field' Try.underlying80 rfl rfl Try.sizeOf22 (by decide) (hA.ev rfl)) ?_)
  clear hA; intro a hA
  refine L1 (stv hA (by decide) (run_ld (hA.ev rfl) (run_loadS Try.isAgg22 (sip_words.at_v3 (hM.box .z)))) ?_)
  clear hA; intro a hA
  refine L1 (stv hA (by decide) (run_bin (hA.ev rfl) (hA.ev rfl) (bin_xor _ _ _ _)) ?_)
  clear hA; intro a hA
  refine L1 (stv hA (by decide) (run_assign (hA.ev rfl)) ?_)
  clear hA; intro a hA
  refine LQ ?_
  refine TN ?_
  refine wp_ret ?_
  obtain rfl := Option.some.inj H
  exact ret_post1 (fn := Try.f13) hA rfl rfl ⟨_, rfl, rfl, (hM.sel [] rfl (by decide))⟩

def sip_Key.f (k : Nat) (h_0 : (Vector Int 32)) : Option (Vector Int 2) := ((sip_word.f k (h_0.toList.take 8)).bind fun r24 => ((sip_word.f k ((h_0.toList.take 16).drop 8)).bind fun r27 => (some ((((Vector.replicate 2 0 : Vector Int 2).setIfInBounds 0 r24).setIfInBounds 1 r27)))))
set_option maxHeartbeats 2000000 in
set_option maxRecDepth 100000 in
theorem sip_Key.calls (k : Nat) (h_0 : (Vector Int 32)) (F : List (Option Nat)) (r : (Vector Int 2)) (w0 : World) (hM : Mem F w0 w0 []) (H : sip_Key.f k h_0 = some r) :
    Calls Try.prog 17 #[(.agg (pHash.enc h_0).toArray)] w0 fun e w' => ∃ v, e = .returned v ∧ v = (.agg (pSipKey.enc r).toArray) ∧ Mem F w0 w' [] := by
  unfold sip_Key.f at H
  refine enterL (n := 8) [(.agg (pHash.enc h_0).toArray)] Try.func17 rfl rfl rfl ?_
  intro a hA
  refine wp_seq ?_
  refine wp_region_lit ?_
  refine L1 (e_box (cs := (pHash.enc h_0)) hM hA rfl rfl (by decide) ?_)
  clear hM hA; intro w17 g16 hM hE  a hA
  refine L1 (e_alloc (cs := (pSipKey.enc (Vector.replicate 2 0 : Vector Int 2))) hM zero24 rfl hA (by decide) ?_)
  clear hM hA; intro w20 g19 hM hE  a hA
  refine LQ ?_
  refine TN ?_
  refine wp_seq ?_
  refine draw (fun w' => Below w20.heap.size w20 w') [5] rfl ?_
  intro w22 hw hS; replace hM := hM.ext hS; clear hw
  refine d_takef (i := 0) (L' := #[tT,fF,fF,fF,fF,fF]) rfl (by kernel_rfl) rfl (fun _ _ _ h => h) hA (by decide) (fun _ => hS) (fun a w' hA => run_arr0 Try.underlying33 Try.sizeOf5 8 (fun z hz => by cases hz) (fun _ => rfl) (fun z hz => by cases hz; exact ⟨_, hA.ev rfl⟩) (fun h => by cases h) (hA.ev rfl) (by decide)) ?_; clear hA; intro a hA
  refine d_takef (i := 2) (L' := #[tT,fF,tT,fF,fF,fF]) rfl (by kernel_rfl) rfl (fun _ _ _ h => h) hA (by decide) (fun _ => hS) (fun a w' hA => run_arr Try.underlying33 Try.sizeOf5 8 16 (fun z hz => by cases hz; exact ⟨_, hA.ev rfl⟩) (fun h => by cases h) (fun z hz => by cases hz; exact ⟨_, hA.ev rfl⟩) (fun h => by cases h) (hA.ev rfl) (by decide) (by decide)) ?_; clear hA; intro a hA
  obtain ⟨r24, H25, H⟩ := Option.bind_eq_some_iff.1 H
  refine d_one (i := 1) (L' := #[tT,tT,tT,fF,fF,fF]) (by kernel_rfl) rfl rfl (st_call Try.call39 hA [(.slice (some (⟨g16, 0, none⟩)) 8 32)] rfl (by decide) (sip_word.calls _ _ _ _ _ _ ((RoV.mk (Ro.take (hM.arrC (Ms := []) (.s .z) rfl (Row.arr (hM.box (.s .z)))) 8) (len_take (vlen h_0) (by omega)) (by have hh1 := (Nat.le_refl 32); omega))) (hM.front (Ms := [])) H25) ?_)
  clear hA; rintro _ w26 ⟨rfl, hMc⟩ a hA
  have hE := hMc.below; have hM := hM.call (Ms := []) hMc
  clear hMc; simp only [List.cons_append, List.nil_append] at hM
  replace hS := hS.trans (hE.mono hS.size)
  refine ⟨fun _ => hS, ?_⟩
  obtain ⟨r27, H28, H⟩ := Option.bind_eq_some_iff.1 H
  refine d_one (i := 3) (L' := #[tT,tT,tT,tT,fF,fF]) (by kernel_rfl) rfl rfl (st_call Try.call39 hA [(.slice (adrop (some (⟨g16, 0, none⟩)) 32 8 1) (16 - 8) (32 - 8))] rfl (by decide) (sip_word.calls _ _ _ _ _ _ ((RoV.mk (Ro.drop (c := 32) (Ro.take (hM.arrC (Ms := []) (.s .z) rfl (Row.arr (hM.box (.s .z)))) 16) (by have hh1 := (vlen h_0); rw [List.length_take]; omega) (by have hh1 := (vlen h_0); have hh2 := (Nat.le_refl 32); rw [List.length_take]; omega)) (len_td (vlen h_0) (by omega)) (by have hh1 := (Nat.le_refl 32); omega))) (hM.front (Ms := [])) H28) ?_)
  clear hA; rintro _ w29 ⟨rfl, hMc⟩ a hA
  have hE := hMc.below; have hM := hM.call (Ms := []) hMc
  clear hMc; simp only [List.cons_append, List.nil_append] at hM
  replace hS := hS.trans (hE.mono hS.size)
  refine ⟨fun _ => hS, ?_⟩
  refine d_takef (i := 4) (L' := #[tT,tT,tT,tT,tT,fF]) rfl (by kernel_rfl) rfl (fun _ _ _ h => h) hA (by decide) (fun _ => hS) (fun a w' hA => run_build_arr [(0, (.int .u64 r24)), (1, (.int .u64 r27))] zero24 Try.underlying24 Try.sizeOf22 hA rfl (fill_step rfl rfl (enc_fit _ _ rfl) (arr_eq (vec_spl' _ _ _ (by decide))) (fill_step rfl rfl (enc_fit _ _ rfl) (arr_eq (vec_spl' _ _ _ (by decide))) (fill_nil)))) ?_; clear hA; intro a hA
  refine d_one (i := 5) (L' := #[tT,tT,tT,tT,tT,tT]) (by kernel_rfl) rfl rfl (e_store (g := g19) (off := 0) (cur := (pSipKey.enc (Vector.replicate 2 0 : Vector Int 2))) (cs' := (pSipKey.enc ((((Vector.replicate 2 0 : Vector Int 2).setIfInBounds 0 r24).setIfInBounds 1 r27)))) hM .z Try.sizeOf24 hA rfl (by simp [add_mk]) rfl (agg_size _ _) (agg_one _ _) (Nat.le_of_ble_eq_true (enc_fitL _ _ rfl)) (spl_all (by first | rfl | (simp [Value.cells, Pl.len]; done) | (simp [Value.cells, Pl.len]; rfl))) ?_)
  clear hM hA; intro w30  hM hE  a hA
  refine ⟨fun h => absurd h (by decide), ?_⟩
  refine d_done (by kernel_rfl) ?_
  refine TN ?_
  refine wp_ret ?_
  obtain rfl := Option.some.inj H
  exact ret_cell (fn := Try.f17) hA rfl rfl (run_loadP Try.isAgg24 Try.sizeOf24 (hM.box .z)) ⟨_, rfl, rfl, (hM.sel [] rfl (by decide))⟩

def codec_put_uint32.l0 (n_1 : Int) (size_2 : Int) : Nat → (List Int) → Int → Option ((List Int))
  | 0, _, _ => none
  | k + 1, xs150, t153 => (if (decide (t153 < size_2)) = true then (if 0 ≤ (IntKind.i64.wrap (8 * t153)) then (if (xs150.length + 1) * 1 ≤ 140737488355328 then (codec_put_uint32.l0 n_1 size_2 k (xs150 ++ [IntKind.u8.wrap (ishr .u64 (IntKind.u64.wrap n_1) (IntKind.i64.wrap (8 * t153)))]) (IntKind.i64.wrap (t153 + 1))) else none) else none) else (some xs150))
def codec_put_uint32.f (k : Nat) (b_0 : (List Int)) (n_1 : Int) (size_2 : Int) : Option (List Int) := (if 0 ≤ (0 : Int) ∧ (0 : Int) ≤ (IntKind.i64.wrap (((b_0.length : Nat) : Int) + size_2)) ∧ (IntKind.i64.wrap (((b_0.length : Nat) : Int) + size_2)) * 1 ≤ 140737488355328 then (if ((0 : Int).toNat + b_0.length) * 1 ≤ 140737488355328 then (Option.bind (α := (List Int)) (codec_put_uint32.l0 n_1 size_2 k ((List.replicate ((0 : Int).toNat) (0 : Int)) ++ b_0) 0) (fun xs158 => (some xs158))) else none) else none)
set_option maxHeartbeats 2000000 in
set_option maxRecDepth 100000 in
theorem codec_put_uint32.calls (k : Nat) (b_0 : (List Int)) (n_1 : Int) (size_2 : Int) (F : List (Option Nat)) (v0 : Value) (r : (List Int)) (w0 : World) (h0 : RoV F (Pl.int .u8) w0 v0 b_0) (hM : Mem F w0 w0 []) (H : codec_put_uint32.f k b_0 n_1 size_2 = some r) :
    Calls Try.prog 98 #[v0, (.int .u32 n_1), (.int .i64 size_2)] w0 fun e w' => ∃ v, e = .returned v ∧ ∃ (ur_0 : Value), v = ur_0 ∧ Mem F w0 w' [.row 5 (Pl.int .u8).sz ur_0 ((Pl.int .u8).flat r)] := by
  unfold codec_put_uint32.f at H
  obtain ⟨A0, c0, rfl, hr0, hc0⟩ := h0
  refine enterL (n := 31) [(.slice A0 b_0.length c0), (.int .u32 n_1), (.int .i64 size_2)] Try.func98 rfl rfl rfl ?_
  intro a hA
  refine wp_seq ?_
  refine wp_region_lit ?_
  refine L1 (stv hA (by decide) (run_assign (hA.ev rfl)) ?_)
  clear hA; intro a hA
  refine LQ ?_
  refine TN ?_
  refine wp_seq ?_
  refine wp_region_lit ?_
  refine L1 (stv hA (by decide) (run_move (hA.ev rfl)) ?_)
  clear hA; intro a hA
  refine L1 (stv hA (by decide) (run_len_slice Try.underlying25 (hA.ev rfl)) ?_)
  clear hA; intro a hA
  refine L1 (stv hA (by decide) (run_move (hA.ev rfl)) ?_)
  clear hA; intro a hA
  refine L1 (stv hA (by decide) (run_bin (hA.ev rfl) (hA.ev rfl) (bin_add _ _ _ _)) ?_)
  clear hA; intro a hA
  obtain ⟨⟨hi88, hk89, hj90⟩, H⟩ := ite_some H
  refine L1 (e_makeR elt25 rfl hM hA rfl rfl hi88 hk89 hj90 (by decide) ?_)
  clear hM hA; intro w91 g87 hM hE  a hA
  refine L1 (stv hA (by decide) (run_move (hA.ev rfl)) ?_)
  clear hA; intro a hA
  obtain ⟨hl95, H⟩ := ite_some H
  refine L1 (e_append elt25 hM (fun _ => .z) (Src.row Try.underlying25 (hM.ro hr0) (Eq.refl b_0.length)) hl95 hA rfl rfl (by decide) ?_)
  clear hM hA; intro w96 A93 c94 hM hE  a hA
  refine L1 (stv hA (by decide) (run_assign (hA.ev rfl)) ?_)
  clear hA; intro a hA
  refine LQ ?_
  refine TN ?_
  refine wp_seq ?_
  refine wp_seq ?_
  refine wp_region_lit ?_
  refine L1 (stv hA (by decide) (run_move (hA.ev rfl)) ?_)
  clear hA; intro a hA
  refine L1 (stv hA (by decide) (run_move (hA.ev rfl)) ?_)
  clear hA; intro a hA
  refine LQ ?_
  refine TN ?_
  obtain ⟨o160, H159, H⟩ := Option.bind_eq_some_iff.1 H
  refine cutC (fun a w => ∃ (xs158 : (List Int)) (v155 : Value), xs158 = o160 ∧ Mem F w0 w [.row 5 (Pl.int .u8).sz v155 ((Pl.int .u8).flat xs158)] ∧ Has 31 [(7, v155)] a) ?_ ?_
  · refine wp_block ?_
    refine wp_loop_ghost (fun m a w => ∃ (xs150 : (List Int)) (t153 : Int) (v147 : Value), codec_put_uint32.l0 n_1 size_2 m xs150 t153 = some o160 ∧ Mem F w0 w [.row 5 (Pl.int .u8).sz v147 ((Pl.int .u8).flat xs150)] ∧ Has 31 [(1, (.int .u32 n_1)), (7, v147), (16, (.int .i64 size_2)), (17, (.int .i64 t153))] a) k ⟨((List.replicate ((0 : Int).toNat) (0 : Int)) ++ b_0), 0, (.slice A93 ((0 : Int).toNat + b_0.length) c94), H159, hM, ((((hA.nil.cons (hA.get 17 _ rfl)).cons (hA.get 16 _ rfl)).cons (hA.get 7 _ rfl)).cons (hA.get 1 _ rfl))⟩ ?_
    clear hM hA; rintro m161 a w162 ⟨xs150, t153, v147, H159, hM, hA⟩
    cases m161 with
    | zero => exact absurd H159 (by simp [codec_put_uint32.l0])
    | succ m161 =>
    rw [codec_put_uint32.l0] at H159
    obtain ⟨A148, c149, rfl⟩ := RowOk.form (hM.row (p := (Pl.int .u8)) .z)
    refine wp_seq ?_
    refine wp_region_lit ?_
    refine L1 (stv hA (by decide) (run_bin (hA.ev rfl) (hA.ev rfl) (bin_lss _ _ _ _)) ?_)
    clear hA; intro a hA
    refine LQ ?_
    refine TN ?_
    refine wp_seq ?_
    refine tcond (b := (decide (t153 < size_2))) hA rfl (fun hb163 => ?_) (fun hb163 => ?_)
    · replace H159 := ite_t hb163 H159
      refine wp_skip ?_
      refine TN ?_
      refine wp_seq ?_
      refine wp_block ?_
      refine wp_seq ?_
      refine wp_region_lit ?_
      refine L1 (stv hA (by decide) (run_move (hA.ev rfl)) ?_)
      clear hA; intro a hA
      refine L1 (stv hA (by decide) (run_assign (hA.ev rfl)) ?_)
      clear hA; intro a hA
      refine LQ ?_
      refine TN ?_
      refine wp_region_lit ?_
      refine L1 (stv hA (by decide) (run_move (hA.ev rfl)) ?_)
      clear hA; intro a hA
      refine L1 (stv hA (by decide) (run_move (hA.ev rfl)) ?_)
      clear hA; intro a hA
      refine L1 (stv hA (by decide) (run_conv Try.underlying43 Try.underlying22 (hA.ev rfl)) ?_)
      clear hA; intro a hA
      refine L1 (stv hA (by decide) (run_move (hA.ev rfl)) ?_)
      clear hA; intro a hA
      refine L1 (stv hA (by decide) (run_bin (hA.ev rfl) (hA.ev rfl) (bin_mul _ _ _ _)) ?_)
      clear hA; intro a hA
      obtain ⟨hs164, H159⟩ := ite_some H159
      refine L1 (stv hA (by decide) (run_shr (hA.ev rfl) (hA.ev rfl) hs164) ?_)
      clear hA; intro a hA
      refine L1 (stv hA (by decide) (run_conv Try.underlying22 Try.underlying5 (hA.ev rfl)) ?_)
      clear hA; intro a hA
      refine L1 (e_litN [IntKind.u8.wrap (ishr .u64 (IntKind.u64.wrap n_1) (IntKind.i64.wrap (8 * t153)))] [(.int .u8 (IntKind.u8.wrap (ishr .u64 (IntKind.u64.wrap n_1) (IntKind.i64.wrap (8 * t153)))))] elt25 hM rfl (by decide) hA rfl rfl (List.cons_ne_nil _ _) (by decide) ?_)
      clear hM hA; intro w166 g165 hM hE  a hA
      obtain ⟨hl170, H159⟩ := ite_some H159
      refine L1 (e_append elt25 hM (fun _ => (.s .z)) (Src.row Try.underlying25 (RowOk.row (hM.row (p := (Pl.int .u8)) .z)) (RowOk.len (hM.row (p := (Pl.int .u8)) .z))) hl170 hA rfl rfl (by decide) ?_)
      clear hM hA; intro w171 A168 c169 hM hE  a hA
      refine L1 (stv hA (by decide) (run_assign (hA.ev rfl)) ?_)
      clear hA; intro a hA
      refine LQ ?_
      refine BN ?_
      refine TN ?_
      refine wp_region_lit ?_
      refine L1 (stv hA (by decide) (run_bin (hA.ev rfl) (hA.ev rfl) (bin_add _ _ _ _)) ?_)
      clear hA; intro a hA
      refine L1 (stv hA (by decide) (run_move (hA.ev rfl)) ?_)
      clear hA; intro a hA
      refine LQ ?_
      exact ⟨_, Nat.lt_succ_self m161, (xs150 ++ [IntKind.u8.wrap (ishr .u64 (IntKind.u64.wrap n_1) (IntKind.i64.wrap (8 * t153)))]), IntKind.i64.wrap (t153 + 1), (.slice A168 (xs150.length + 1) c169), H159, (hM.sel [1] rfl (by decide)), ((((hA.nil.cons (hA.get 17 _ rfl)).cons (hA.get 16 _ rfl)).cons (hA.get 7 _ rfl)).cons (hA.get 1 _ rfl))⟩
    · replace H159 := ite_f hb163 H159
      refine wp_exit ?_
      refine TX ?_
      refine TX ?_
      refine BX ?_
      exact ⟨xs150, (.slice A148 xs150.length c149), Option.some.inj H159, hM, (hA.nil.cons (hA.get 7 _ rfl))⟩
  clear hM hA
  rintro a w172 ⟨xs158, v155, rfl, hM, hA⟩
  try dsimp only at H
  obtain ⟨A156, c157, rfl⟩ := RowOk.form (hM.row (p := (Pl.int .u8)) .z)
  refine TN ?_
  refine wp_seq ?_
  refine wp_region_lit ?_
  refine L1 (stv hA (by decide) (run_move (hA.ev rfl)) ?_)
  clear hA; intro a hA
  refine L1 (stv hA (by decide) (run_assign (hA.ev rfl)) ?_)
  clear hA; intro a hA
  refine LQ ?_
  refine TN ?_
  refine wp_ret ?_
  obtain rfl := Option.some.inj H
  exact ret_post1 (fn := Try.f98) hA rfl rfl ⟨_, rfl, (.slice A156 xs158.length c157), rfl, hM⟩

def codec_AppendU32.f (k : Nat) (b_0 : (List Int)) (n_1 : Int) : Option (List Int) := ((codec_put_uint32.f k b_0 n_1 4).bind fun r8 => (some r8))
set_option maxHeartbeats 2000000 in
set_option maxRecDepth 100000 in
theorem codec_AppendU32.calls (k : Nat) (b_0 : (List Int)) (n_1 : Int) (F : List (Option Nat)) (v0 : Value) (r : (List Int)) (w0 : World) (h0 : RoV F (Pl.int .u8) w0 v0 b_0) (hM : Mem F w0 w0 []) (H : codec_AppendU32.f k b_0 n_1 = some r) :
    Calls Try.prog 84 #[v0, (.int .u32 n_1)] w0 fun e w' => ∃ v, e = .returned v ∧ ∃ (ur_0 : Value), v = ur_0 ∧ Mem F w0 w' [.row 5 (Pl.int .u8).sz ur_0 ((Pl.int .u8).flat r)] := by
  unfold codec_AppendU32.f at H
  obtain ⟨A0, c0, rfl, hr0, hc0⟩ := h0
  refine enterL (n := 8) [(.slice A0 b_0.length c0), (.int .u32 n_1)] Try.func84 rfl rfl rfl ?_
  intro a hA
  refine wp_seq ?_
  refine wp_region_lit ?_
  refine L1 (stv hA (by decide) (run_assign (hA.ev rfl)) ?_)
  clear hA; intro a hA
  refine LQ ?_
  refine TN ?_
  refine wp_seq ?_
  refine wp_region_lit ?_
  refine L1 (stv hA (by decide) (run_move (hA.ev rfl)) ?_)
  clear hA; intro a hA
  refine L1 (stv hA (by decide) (run_move (hA.ev rfl)) ?_)
  clear hA; intro a hA
  obtain ⟨r8, H9, H⟩ := Option.bind_eq_some_iff.1 H
  refine L1 (st_call Try.call98 hA [(.slice A0 b_0.length c0), (.int .u32 n_1), (.int .i64 4)] rfl (by decide) (codec_put_uint32.calls _ _ _ _ _ _ _ _ ((RoV.mk (hM.roC (Ms := []) hr0) (Eq.refl b_0.length) hc0)) (hM.front (Ms := [])) H9) ?_)
  clear hA; rintro _ w10 ⟨v11, rfl, hMc⟩ a hA
  have hE := hMc.below; have hM := hM.call (Ms := []) hMc
  clear hMc; simp only [List.cons_append, List.nil_append] at hM
  obtain ⟨A13, c14, rfl⟩ := RowOk.form (hM.row (p := (Pl.int .u8)) .z)
  refine L1 (stv hA (by decide) (run_assign (hA.ev rfl)) ?_)
  clear hA; intro a hA
  refine LQ ?_
  refine TN ?_
  refine wp_ret ?_
  obtain rfl := Option.some.inj H
  exact ret_post1 (fn := Try.f84) hA rfl rfl ⟨_, rfl, (.slice A13 r8.length c14), rfl, hM⟩

def addrbook_hash.f (k : Nat) (salt_0 : (Vector Int 32)) (kind_1 : Int) (a_2 : Int) (b_3 : Int) : Option Int := ((sip_Key.f k salt_0).bind fun r30 => ((codec_AppendU32.f k [kind_1] a_2).bind fun r36 => ((codec_AppendU32.f k r36 b_3).bind fun r43 => ((sip_Sum.f k r30 r43).bind fun r50 => (some r50)))))
set_option maxHeartbeats 2000000 in
set_option maxRecDepth 100000 in
theorem addrbook_hash.calls (k : Nat) (salt_0 : (Vector Int 32)) (kind_1 : Int) (a_2 : Int) (b_3 : Int) (F : List (Option Nat)) (r : Int) (w0 : World) (hM : Mem F w0 w0 []) (H : addrbook_hash.f k salt_0 kind_1 a_2 b_3 = some r) :
    Calls Try.prog 82 #[(.agg (pHash.enc salt_0).toArray), (.int .u8 kind_1), (.int .u32 a_2), (.int .u32 b_3)] w0 fun e w' => ∃ v, e = .returned v ∧ v = (.int .u64 r) ∧ Mem F w0 w' [] := by
  unfold addrbook_hash.f at H
  refine enterL (n := 18) [(.agg (pHash.enc salt_0).toArray), (.int .u8 kind_1), (.int .u32 a_2), (.int .u32 b_3)] Try.func82 rfl rfl rfl ?_
  intro a hA
  refine wp_seq ?_
  refine wp_region_lit ?_
  refine L1 (e_box (cs := (pHash.enc salt_0)) hM hA rfl rfl (by decide) ?_)
  clear hM hA; intro w28 g27 hM hE  a hA
  refine L1 (stv hA (by decide) (run_assign (hA.ev rfl)) ?_)
  clear hA; intro a hA
  refine LQ ?_
  refine TN ?_
  refine wp_seq ?_
  refine wp_region_lit ?_
  refine L1 (stv hA (by decide) (run_ld (hA.ev rfl) (run_loadP Try.isAgg33 Try.sizeOf33 (hM.box .z))) ?_)
  clear hA; intro a hA
  obtain ⟨r30, H31, H⟩ := Option.bind_eq_some_iff.1 H
  refine L1 (st_call Try.call17 hA [(.agg (pHash.enc salt_0).toArray)] rfl (by decide) (sip_Key.calls _ _ _ _ _ (hM.front (Ms := [])) H31) ?_)
  clear hA; rintro _ w32 ⟨rfl, hMc⟩ a hA
  have hE := hMc.below; have hM := hM.call (Ms := []) hMc
  clear hMc; simp only [List.cons_append, List.nil_append] at hM
  refine L1 (stv hA (by decide) (run_move (hA.ev rfl)) ?_)
  clear hA; intro a hA
  refine L1 (e_litN [kind_1] [(.int .u8 kind_1)] elt25 hM rfl (by decide) hA rfl rfl (List.cons_ne_nil _ _) (by decide) ?_)
  clear hM hA; intro w34 g33 hM hE  a hA
  refine L1 (stv hA (by decide) (run_move (hA.ev rfl)) ?_)
  clear hA; intro a hA
  obtain ⟨r36, H37, H⟩ := Option.bind_eq_some_iff.1 H
  refine L1 (st_call Try.call84 hA [(.slice (some ⟨g33, 0, none⟩) 1 1), (.int .u32 a_2)] rfl (by decide) (codec_AppendU32.calls _ _ _ _ _ _ _ ((hM.roV (p := (Pl.int .u8)) (Ms := []) .z)) (hM.front (Ms := [])) H37) ?_)
  clear hA; rintro _ w38 ⟨v39, rfl, hMc⟩ a hA
  have hE := hMc.below; have hM := hM.call (Ms := []) hMc
  clear hMc; simp only [List.cons_append, List.nil_append] at hM
  obtain ⟨A41, c42, rfl⟩ := RowOk.form (hM.row (p := (Pl.int .u8)) .z)
  refine L1 (stv hA (by decide) (run_move (hA.ev rfl)) ?_)
  clear hA; intro a hA
  obtain ⟨r43, H44, H⟩ := Option.bind_eq_some_iff.1 H
  refine L1 (st_call Try.call84 hA [(.slice A41 r36.length c42), (.int .u32 b_3)] rfl (by decide) (codec_AppendU32.calls _ _ _ _ _ _ _ ((hM.roV (p := (Pl.int .u8)) (Ms := []) .z)) (hM.front (Ms := [])) H44) ?_)
  clear hA; rintro _ w45 ⟨v46, rfl, hMc⟩ a hA
  have hE := hMc.below; have hM := hM.call (Ms := []) hMc
  clear hMc; simp only [List.cons_append, List.nil_append] at hM
  obtain ⟨A48, c49, rfl⟩ := RowOk.form (hM.row (p := (Pl.int .u8)) .z)
  obtain ⟨r50, H51, H⟩ := Option.bind_eq_some_iff.1 H
  refine L1 (st_call Try.call13 hA [(.agg (pSipKey.enc r30).toArray), (.slice A48 r43.length c49)] rfl (by decide) (sip_Sum.calls _ _ _ _ _ _ _ ((hM.roV (p := (Pl.int .u8)) (Ms := []) .z)) (hM.front (Ms := [])) H51) ?_)
  clear hA; rintro _ w52 ⟨rfl, hMc⟩ a hA
  have hE := hMc.below; have hM := hM.call (Ms := []) hMc
  clear hMc; simp only [List.cons_append, List.nil_append] at hM
  refine L1 (stv hA (by decide) (run_assign (hA.ev rfl)) ?_)
  clear hA; intro a hA
  refine LQ ?_
  refine TN ?_
  refine wp_ret ?_
  obtain rfl := Option.some.inj H
  exact ret_post1 (fn := Try.f82) hA rfl rfl ⟨_, rfl, rfl, (hM.sel [] rfl (by decide))⟩

def addrbook_HeardBucket.f (k : Nat) (salt_0 : (Vector Int 32)) (a_1 : NAddr) (source_2 : Int) : Option Int := ((addrbook_Group.f k a_1).bind fun r26 => ((addrbook_hash.f k salt_0 2 r26 source_2).bind fun r29 => ((addrbook_hash.f k salt_0 1 source_2 (IntKind.u32.wrap (r29.tmod 4))).bind fun r32 => (some (IntKind.i64.wrap (r32.tmod 64))))))
set_option maxHeartbeats 2000000 in
set_option maxRecDepth 100000 in
theorem addrbook_HeardBucket.calls (k : Nat) (salt_0 : (Vector Int 32)) (a_1 : NAddr) (source_2 : Int) (F : List (Option Nat)) (r : Int) (w0 : World) (hM : Mem F w0 w0 []) (H : addrbook_HeardBucket.f k salt_0 a_1 source_2 = some r) :
    Calls Try.prog 56 #[(.agg (pHash.enc salt_0).toArray), (.agg (pNAddr.enc a_1).toArray), (.int .u32 source_2)] w0 fun e w' => ∃ v, e = .returned v ∧ v = (.int .i64 r) ∧ Mem F w0 w' [] := by
  unfold addrbook_HeardBucket.f at H
  refine enterL (n := 21) [(.agg (pHash.enc salt_0).toArray), (.agg (pNAddr.enc a_1).toArray), (.int .u32 source_2)] Try.func56 rfl rfl rfl ?_
  intro a hA
  refine wp_seq ?_
  refine wp_region_lit ?_
  refine L1 (e_box (cs := (pHash.enc salt_0)) hM hA rfl rfl (by decide) ?_)
  clear hM hA; intro w19 g18 hM hE  a hA
  refine L1 (e_box (cs := (pNAddr.enc a_1)) hM hA rfl rfl (by decide) ?_)
  clear hM hA; intro w22 g21 hM hE  a hA
  refine L1 (stv hA (by decide) (run_assign (hA.ev rfl)) ?_)
  clear hA; intro a hA
  refine LQ ?_
  refine TN ?_
  refine wp_seq ?_
  refine draw (fun w' => Below w22.heap.size w22 w') [] rfl ?_
  intro w24 hw hS; replace hM := hM.ext hS; clear hw
  refine rebase hS ?_; clear hS; intro hS
  refine d_take (i := 0) (L' := #[tT,fF,fF,fF,fF,fF,fF]) rfl (by kernel_rfl) rfl (fun _ _ _ h => h) hA (by decide) rfl hS (fun a w' hA hS' => run_ld (hA.ev rfl) (run_loadP Try.isAgg33 Try.sizeOf33 ((hM.box (.s .z)).extB hS'))) ?_; clear hA; intro a hA
  refine d_take (i := 1) (L' := #[tT,tT,fF,fF,fF,fF,fF]) rfl (by kernel_rfl) rfl (fun _ _ _ h => h) hA (by decide) rfl hS (fun a w' hA hS' => run_ld (hA.ev rfl) (run_loadP Try.isAgg46 Try.sizeOf46 ((hM.box .z).extB hS'))) ?_; clear hA; intro a hA
  refine d_takef (i := 3) (L' := #[tT,tT,fF,tT,fF,fF,fF]) rfl (by kernel_rfl) rfl (fun _ _ _ h => h) hA (by decide) (fun _ => hS) (fun a w' hA => run_move (hA.ev rfl)) ?_; clear hA; intro a hA
  obtain ⟨r26, H27, H⟩ := Option.bind_eq_some_iff.1 H
  refine d_one (i := 2) (L' := #[tT,tT,tT,tT,fF,fF,fF]) (by kernel_rfl) rfl rfl (st_call Try.call24 hA [(.agg (pNAddr.enc a_1).toArray)] rfl (by decide) (addrbook_Group.calls _ _ _ _ _ (hM.front (Ms := [])) H27) ?_)
  clear hA; rintro _ w28 ⟨rfl, hMc⟩ a hA
  have hE := hMc.below; have hM := hM.call (Ms := []) hMc
  clear hMc; simp only [List.cons_append, List.nil_append] at hM
  replace hS := hS.trans (hE.mono hS.size)
  refine ⟨fun _ => hS, ?_⟩
  obtain ⟨r29, H30, H⟩ := Option.bind_eq_some_iff.1 H
  refine d_one (i := 4) (L' := #[tT,tT,tT,tT,tT,fF,fF]) (by kernel_rfl) rfl rfl (st_call Try.call82 hA [(.agg (pHash.enc salt_0).toArray), (.int .u8 2), (.int .u32 r26), (.int .u32 source_2)] rfl (by decide) (addrbook_hash.calls _ _ _ _ _ _ _ _ (hM.front (Ms := [])) H30) ?_)
  clear hA; rintro _ w31 ⟨rfl, hMc⟩ a hA
  have hE := hMc.below; have hM := hM.call (Ms := []) hMc
  clear hMc; simp only [List.cons_append, List.nil_append] at hM
  replace hS := hS.trans (hE.mono hS.size)
  refine ⟨fun _ => hS, ?_⟩
  refine d_takef (i := 5) (L' := #[tT,tT,tT,tT,tT,tT,fF]) rfl (by kernel_rfl) rfl (fun _ _ _ h => h) hA (by decide) (fun _ => hS) (fun a w' hA => run_bin (hA.ev rfl) (hA.ev rfl) (bin_rem _ _ _ _ (by decide))) ?_; clear hA; intro a hA
  refine d_takef (i := 6) (L' := #[tT,tT,tT,tT,tT,tT,tT]) rfl (by kernel_rfl) rfl (fun _ _ _ h => h) hA (by decide) (fun _ => hS) (fun a w' hA => run_assign (hA.ev rfl)) ?_; clear hA; intro a hA
  refine d_done (by kernel_rfl) ?_
  refine TN ?_
  refine wp_seq ?_
  refine wp_region_lit ?_
  refine L1 (stv hA (by decide) (run_ld (hA.ev rfl) (run_loadP Try.isAgg33 Try.sizeOf33 (hM.box (.s .z)))) ?_)
  clear hA; intro a hA
  refine L1 (stv hA (by decide) (run_move (hA.ev rfl)) ?_)
  clear hA; intro a hA
  refine L1 (stv hA (by decide) (run_move (hA.ev rfl)) ?_)
  clear hA; intro a hA
  refine L1 (stv hA (by decide) (run_conv Try.underlying22 Try.underlying43 (hA.ev rfl)) ?_)
  clear hA; intro a hA
  obtain ⟨r32, H33, H⟩ := Option.bind_eq_some_iff.1 H
  refine L1 (st_call Try.call82 hA [(.agg (pHash.enc salt_0).toArray), (.int .u8 1), (.int .u32 source_2), (.int .u32 (IntKind.u32.wrap (r29.tmod 4)))] rfl (by decide) (addrbook_hash.calls _ _ _ _ _ _ _ _ (hM.front (Ms := [])) H33) ?_)
  clear hA; rintro _ w34 ⟨rfl, hMc⟩ a hA
  have hE := hMc.below; have hM := hM.call (Ms := []) hMc
  clear hMc; simp only [List.cons_append, List.nil_append] at hM
  refine L1 (stv hA (by decide) (run_bin (hA.ev rfl) (hA.ev rfl) (bin_rem _ _ _ _ (by decide))) ?_)
  clear hA; intro a hA
  refine L1 (stv hA (by decide) (run_conv Try.underlying22 Try.underlying3 (hA.ev rfl)) ?_)
  clear hA; intro a hA
  refine L1 (stv hA (by decide) (run_assign (hA.ev rfl)) ?_)
  clear hA; intro a hA
  refine LQ ?_
  refine TN ?_
  refine wp_ret ?_
  obtain rfl := Option.some.inj H
  exact ret_post1 (fn := Try.f56) hA rfl rfl ⟨_, rfl, rfl, (hM.sel [] rfl (by decide))⟩

def codec_put_uint16.l0 (n_1 : Int) (size_2 : Int) : Nat → (List Int) → Int → Option ((List Int))
  | 0, _, _ => none
  | k + 1, xs150, t153 => (if (decide (t153 < size_2)) = true then (if 0 ≤ (IntKind.i64.wrap (8 * t153)) then (if (xs150.length + 1) * 1 ≤ 140737488355328 then (codec_put_uint16.l0 n_1 size_2 k (xs150 ++ [IntKind.u8.wrap (ishr .u64 (IntKind.u64.wrap n_1) (IntKind.i64.wrap (8 * t153)))]) (IntKind.i64.wrap (t153 + 1))) else none) else none) else (some xs150))
def codec_put_uint16.f (k : Nat) (b_0 : (List Int)) (n_1 : Int) (size_2 : Int) : Option (List Int) := (if 0 ≤ (0 : Int) ∧ (0 : Int) ≤ (IntKind.i64.wrap (((b_0.length : Nat) : Int) + size_2)) ∧ (IntKind.i64.wrap (((b_0.length : Nat) : Int) + size_2)) * 1 ≤ 140737488355328 then (if ((0 : Int).toNat + b_0.length) * 1 ≤ 140737488355328 then (Option.bind (α := (List Int)) (codec_put_uint16.l0 n_1 size_2 k ((List.replicate ((0 : Int).toNat) (0 : Int)) ++ b_0) 0) (fun xs158 => (some xs158))) else none) else none)
set_option maxHeartbeats 2000000 in
set_option maxRecDepth 100000 in
theorem codec_put_uint16.calls (k : Nat) (b_0 : (List Int)) (n_1 : Int) (size_2 : Int) (F : List (Option Nat)) (v0 : Value) (r : (List Int)) (w0 : World) (h0 : RoV F (Pl.int .u8) w0 v0 b_0) (hM : Mem F w0 w0 []) (H : codec_put_uint16.f k b_0 n_1 size_2 = some r) :
    Calls Try.prog 97 #[v0, (.int .u16 n_1), (.int .i64 size_2)] w0 fun e w' => ∃ v, e = .returned v ∧ ∃ (ur_0 : Value), v = ur_0 ∧ Mem F w0 w' [.row 5 (Pl.int .u8).sz ur_0 ((Pl.int .u8).flat r)] := by
  unfold codec_put_uint16.f at H
  obtain ⟨A0, c0, rfl, hr0, hc0⟩ := h0
  refine enterL (n := 31) [(.slice A0 b_0.length c0), (.int .u16 n_1), (.int .i64 size_2)] Try.func97 rfl rfl rfl ?_
  intro a hA
  refine wp_seq ?_
  refine wp_region_lit ?_
  refine L1 (stv hA (by decide) (run_assign (hA.ev rfl)) ?_)
  clear hA; intro a hA
  refine LQ ?_
  refine TN ?_
  refine wp_seq ?_
  refine wp_region_lit ?_
  refine L1 (stv hA (by decide) (run_move (hA.ev rfl)) ?_)
  clear hA; intro a hA
  refine L1 (stv hA (by decide) (run_len_slice Try.underlying25 (hA.ev rfl)) ?_)
  clear hA; intro a hA
  refine L1 (stv hA (by decide) (run_move (hA.ev rfl)) ?_)
  clear hA; intro a hA
  refine L1 (stv hA (by decide) (run_bin (hA.ev rfl) (hA.ev rfl) (bin_add _ _ _ _)) ?_)
  clear hA; intro a hA
  obtain ⟨⟨hi88, hk89, hj90⟩, H⟩ := ite_some H
  refine L1 (e_makeR elt25 rfl hM hA rfl rfl hi88 hk89 hj90 (by decide) ?_)
  clear hM hA; intro w91 g87 hM hE  a hA
  refine L1 (stv hA (by decide) (run_move (hA.ev rfl)) ?_)
  clear hA; intro a hA
  obtain ⟨hl95, H⟩ := ite_some H
  refine L1 (e_append elt25 hM (fun _ => .z) (Src.row Try.underlying25 (hM.ro hr0) (Eq.refl b_0.length)) hl95 hA rfl rfl (by decide) ?_)
  clear hM hA; intro w96 A93 c94 hM hE  a hA
  refine L1 (stv hA (by decide) (run_assign (hA.ev rfl)) ?_)
  clear hA; intro a hA
  refine LQ ?_
  refine TN ?_
  refine wp_seq ?_
  refine wp_seq ?_
  refine wp_region_lit ?_
  refine L1 (stv hA (by decide) (run_move (hA.ev rfl)) ?_)
  clear hA; intro a hA
  refine L1 (stv hA (by decide) (run_move (hA.ev rfl)) ?_)
  clear hA; intro a hA
  refine LQ ?_
  refine TN ?_
  obtain ⟨o160, H159, H⟩ := Option.bind_eq_some_iff.1 H
  refine cutC (fun a w => ∃ (xs158 : (List Int)) (v155 : Value), xs158 = o160 ∧ Mem F w0 w [.row 5 (Pl.int .u8).sz v155 ((Pl.int .u8).flat xs158)] ∧ Has 31 [(7, v155)] a) ?_ ?_
  · refine wp_block ?_
    refine wp_loop_ghost (fun m a w => ∃ (xs150 : (List Int)) (t153 : Int) (v147 : Value), codec_put_uint16.l0 n_1 size_2 m xs150 t153 = some o160 ∧ Mem F w0 w [.row 5 (Pl.int .u8).sz v147 ((Pl.int .u8).flat xs150)] ∧ Has 31 [(1, (.int .u16 n_1)), (7, v147), (16, (.int .i64 size_2)), (17, (.int .i64 t153))] a) k ⟨((List.replicate ((0 : Int).toNat) (0 : Int)) ++ b_0), 0, (.slice A93 ((0 : Int).toNat + b_0.length) c94), H159, hM, ((((hA.nil.cons (hA.get 17 _ rfl)).cons (hA.get 16 _ rfl)).cons (hA.get 7 _ rfl)).cons (hA.get 1 _ rfl))⟩ ?_
    clear hM hA; rintro m161 a w162 ⟨xs150, t153, v147, H159, hM, hA⟩
    cases m161 with
    | zero => exact absurd H159 (by simp [codec_put_uint16.l0])
    | succ m161 =>
    rw [codec_put_uint16.l0] at H159
    obtain ⟨A148, c149, rfl⟩ := RowOk.form (hM.row (p := (Pl.int .u8)) .z)
    refine wp_seq ?_
    refine wp_region_lit ?_
    refine L1 (stv hA (by decide) (run_bin (hA.ev rfl) (hA.ev rfl) (bin_lss _ _ _ _)) ?_)
    clear hA; intro a hA
    refine LQ ?_
    refine TN ?_
    refine wp_seq ?_
    refine tcond (b := (decide (t153 < size_2))) hA rfl (fun hb163 => ?_) (fun hb163 => ?_)
    · replace H159 := ite_t hb163 H159
      refine wp_skip ?_
      refine TN ?_
      refine wp_seq ?_
      refine wp_block ?_
      refine wp_seq ?_
      refine wp_region_lit ?_
      refine L1 (stv hA (by decide) (run_move (hA.ev rfl)) ?_)
      clear hA; intro a hA
      refine L1 (stv hA (by decide) (run_assign (hA.ev rfl)) ?_)
      clear hA; intro a hA
      refine LQ ?_
      refine TN ?_
      refine wp_region_lit ?_
      refine L1 (stv hA (by decide) (run_move (hA.ev rfl)) ?_)
      clear hA; intro a hA
      refine L1 (stv hA (by decide) (run_move (hA.ev rfl)) ?_)
      clear hA; intro a hA
      refine L1 (stv hA (by decide) (run_conv Try.underlying44 Try.underlying22 (hA.ev rfl)) ?_)
      clear hA; intro a hA
      refine L1 (stv hA (by decide) (run_move (hA.ev rfl)) ?_)
      clear hA; intro a hA
      refine L1 (stv hA (by decide) (run_bin (hA.ev rfl) (hA.ev rfl) (bin_mul _ _ _ _)) ?_)
      clear hA; intro a hA
      obtain ⟨hs164, H159⟩ := ite_some H159
      refine L1 (stv hA (by decide) (run_shr (hA.ev rfl) (hA.ev rfl) hs164) ?_)
      clear hA; intro a hA
      refine L1 (stv hA (by decide) (run_conv Try.underlying22 Try.underlying5 (hA.ev rfl)) ?_)
      clear hA; intro a hA
      refine L1 (e_litN [IntKind.u8.wrap (ishr .u64 (IntKind.u64.wrap n_1) (IntKind.i64.wrap (8 * t153)))] [(.int .u8 (IntKind.u8.wrap (ishr .u64 (IntKind.u64.wrap n_1) (IntKind.i64.wrap (8 * t153)))))] elt25 hM rfl (by decide) hA rfl rfl (List.cons_ne_nil _ _) (by decide) ?_)
      clear hM hA; intro w166 g165 hM hE  a hA
      obtain ⟨hl170, H159⟩ := ite_some H159
      refine L1 (e_append elt25 hM (fun _ => (.s .z)) (Src.row Try.underlying25 (RowOk.row (hM.row (p := (Pl.int .u8)) .z)) (RowOk.len (hM.row (p := (Pl.int .u8)) .z))) hl170 hA rfl rfl (by decide) ?_)
      clear hM hA; intro w171 A168 c169 hM hE  a hA
      refine L1 (stv hA (by decide) (run_assign (hA.ev rfl)) ?_)
      clear hA; intro a hA
      refine LQ ?_
      refine BN ?_
      refine TN ?_
      refine wp_region_lit ?_
      refine L1 (stv hA (by decide) (run_bin (hA.ev rfl) (hA.ev rfl) (bin_add _ _ _ _)) ?_)
      clear hA; intro a hA
      refine L1 (stv hA (by decide) (run_move (hA.ev rfl)) ?_)
      clear hA; intro a hA
      refine LQ ?_
      exact ⟨_, Nat.lt_succ_self m161, (xs150 ++ [IntKind.u8.wrap (ishr .u64 (IntKind.u64.wrap n_1) (IntKind.i64.wrap (8 * t153)))]), IntKind.i64.wrap (t153 + 1), (.slice A168 (xs150.length + 1) c169), H159, (hM.sel [1] rfl (by decide)), ((((hA.nil.cons (hA.get 17 _ rfl)).cons (hA.get 16 _ rfl)).cons (hA.get 7 _ rfl)).cons (hA.get 1 _ rfl))⟩
    · replace H159 := ite_f hb163 H159
      refine wp_exit ?_
      refine TX ?_
      refine TX ?_
      refine BX ?_
      exact ⟨xs150, (.slice A148 xs150.length c149), Option.some.inj H159, hM, (hA.nil.cons (hA.get 7 _ rfl))⟩
  clear hM hA
  rintro a w172 ⟨xs158, v155, rfl, hM, hA⟩
  try dsimp only at H
  obtain ⟨A156, c157, rfl⟩ := RowOk.form (hM.row (p := (Pl.int .u8)) .z)
  refine TN ?_
  refine wp_seq ?_
  refine wp_region_lit ?_
  refine L1 (stv hA (by decide) (run_move (hA.ev rfl)) ?_)
  clear hA; intro a hA
  refine L1 (stv hA (by decide) (run_assign (hA.ev rfl)) ?_)
  clear hA; intro a hA
  refine LQ ?_
  refine TN ?_
  refine wp_ret ?_
  obtain rfl := Option.some.inj H
  exact ret_post1 (fn := Try.f97) hA rfl rfl ⟨_, rfl, (.slice A156 xs158.length c157), rfl, hM⟩

def codec_AppendU16.f (k : Nat) (b_0 : (List Int)) (n_1 : Int) : Option (List Int) := ((codec_put_uint16.f k b_0 n_1 2).bind fun r8 => (some r8))
set_option maxHeartbeats 2000000 in
set_option maxRecDepth 100000 in
theorem codec_AppendU16.calls (k : Nat) (b_0 : (List Int)) (n_1 : Int) (F : List (Option Nat)) (v0 : Value) (r : (List Int)) (w0 : World) (h0 : RoV F (Pl.int .u8) w0 v0 b_0) (hM : Mem F w0 w0 []) (H : codec_AppendU16.f k b_0 n_1 = some r) :
    Calls Try.prog 83 #[v0, (.int .u16 n_1)] w0 fun e w' => ∃ v, e = .returned v ∧ ∃ (ur_0 : Value), v = ur_0 ∧ Mem F w0 w' [.row 5 (Pl.int .u8).sz ur_0 ((Pl.int .u8).flat r)] := by
  unfold codec_AppendU16.f at H
  obtain ⟨A0, c0, rfl, hr0, hc0⟩ := h0
  refine enterL (n := 8) [(.slice A0 b_0.length c0), (.int .u16 n_1)] Try.func83 rfl rfl rfl ?_
  intro a hA
  refine wp_seq ?_
  refine wp_region_lit ?_
  refine L1 (stv hA (by decide) (run_assign (hA.ev rfl)) ?_)
  clear hA; intro a hA
  refine LQ ?_
  refine TN ?_
  refine wp_seq ?_
  refine wp_region_lit ?_
  refine L1 (stv hA (by decide) (run_move (hA.ev rfl)) ?_)
  clear hA; intro a hA
  refine L1 (stv hA (by decide) (run_move (hA.ev rfl)) ?_)
  clear hA; intro a hA
  obtain ⟨r8, H9, H⟩ := Option.bind_eq_some_iff.1 H
  refine L1 (st_call Try.call97 hA [(.slice A0 b_0.length c0), (.int .u16 n_1), (.int .i64 2)] rfl (by decide) (codec_put_uint16.calls _ _ _ _ _ _ _ _ ((RoV.mk (hM.roC (Ms := []) hr0) (Eq.refl b_0.length) hc0)) (hM.front (Ms := [])) H9) ?_)
  clear hA; rintro _ w10 ⟨v11, rfl, hMc⟩ a hA
  have hE := hMc.below; have hM := hM.call (Ms := []) hMc
  clear hMc; simp only [List.cons_append, List.nil_append] at hM
  obtain ⟨A13, c14, rfl⟩ := RowOk.form (hM.row (p := (Pl.int .u8)) .z)
  refine L1 (stv hA (by decide) (run_assign (hA.ev rfl)) ?_)
  clear hA; intro a hA
  refine LQ ?_
  refine TN ?_
  refine wp_ret ?_
  obtain rfl := Option.some.inj H
  exact ret_post1 (fn := Try.f83) hA rfl rfl ⟨_, rfl, (.slice A13 r8.length c14), rfl, hM⟩

def addrbook_TriedBucket.f (k : Nat) (salt_0 : (Vector Int 32)) (a_1 : NAddr) : Option Int := (Option.bind (α := Int) ((sip_Key.f k salt_0).bind fun r209 => ((codec_AppendU32.f k [(4 : Int)] a_1.Host).bind fun r216 => ((codec_AppendU16.f k r216 a_1.Port).bind fun r223 => ((sip_Sum.f k r209 r223).bind fun r230 => (some (r230.tmod 4)))))) (fun y205 => ((addrbook_Group.f k a_1).bind fun r269 => ((addrbook_hash.f k salt_0 3 r269 (IntKind.u32.wrap y205)).bind fun r272 => (some (IntKind.i64.wrap (r272.tmod 64)))))))
set_option maxHeartbeats 2000000 in
set_option maxRecDepth 100000 in
theorem addrbook_TriedBucket.calls (k : Nat) (salt_0 : (Vector Int 32)) (a_1 : NAddr) (F : List (Option Nat)) (r : Int) (w0 : World) (hM : Mem F w0 w0 []) (H : addrbook_TriedBucket.f k salt_0 a_1 = some r) :
    Calls Try.prog 58 #[(.agg (pHash.enc salt_0).toArray), (.agg (pNAddr.enc a_1).toArray)] w0 fun e w' => ∃ v, e = .returned v ∧ v = (.int .i64 r) ∧ Mem F w0 w' [] := by
  unfold addrbook_TriedBucket.f at H
  refine enterL (n := 25) [(.agg (pHash.enc salt_0).toArray), (.agg (pNAddr.enc a_1).toArray)] Try.func58 rfl rfl rfl ?_
  intro a hA
  refine wp_seq ?_
  refine wp_region_lit ?_
  refine L1 (e_box (cs := (pHash.enc salt_0)) hM hA rfl rfl (by decide) ?_)
  clear hM hA; intro w139 g138 hM hE  a hA
  refine L1 (e_box (cs := (pNAddr.enc a_1)) hM hA rfl rfl (by decide) ?_)
  clear hM hA; intro w142 g141 hM hE  a hA
  refine L1 (stv hA (by decide) (run_assign (hA.ev rfl)) ?_)
  clear hA; intro a hA
  refine LQ ?_
  refine TN ?_
  refine wp_seq ?_
  obtain ⟨o207, H206, H⟩ := Option.bind_eq_some_iff.1 H
  refine cutC (fun a w => ∃ (y205 : Int), y205 = o207 ∧ Mem F w0 w [.box g138 33 (pHash.enc salt_0), .box g141 46 (pNAddr.enc a_1)] ∧ Has 25 [(2, (.pointer (some (⟨g138, 0, none⟩)))), (3, (.pointer (some (⟨g141, 0, none⟩)))), (5, (.int .u64 y205))] a) ?_ ?_
  · obtain ⟨r209, H210, H206⟩ := Option.bind_eq_some_iff.1 H206
    obtain ⟨r216, H217, H206⟩ := Option.bind_eq_some_iff.1 H206
    obtain ⟨r223, H224, H206⟩ := Option.bind_eq_some_iff.1 H206
    obtain ⟨r230, H231, H206⟩ := Option.bind_eq_some_iff.1 H206
    refine draw (fun w' => Below w142.heap.size w142 w') [] rfl ?_
    intro w233 hw hS; replace hM := hM.ext hS; clear hw
    refine rebase hS ?_; clear hS; intro hS
    refine d_take (i := 0) (L' := #[tT,fF,fF,fF,fF,fF,fF,fF,fF,fF,fF,fF]) rfl (by kernel_rfl) rfl (fun _ _ _ h => h) hA (by decide) rfl hS (fun a w' hA hS' => run_ld (hA.ev rfl) (run_loadP Try.isAgg33 Try.sizeOf33 ((hM.box (.s .z)).extB hS'))) ?_; clear hA; intro a hA
    refine d_takef (i := 3) (L' := #[tT,fF,fF,tT,fF,fF,fF,fF,fF,fF,fF,fF]) rfl (by kernel_rfl) rfl (fun _ _ _ h => h) hA (by decide) (fun _ => hS) (fun a w' hA => run_field' Try.underlying46 rfl rfl Try.sizeOf43 (by decide) (hA.ev rfl)) ?_; clear hA; intro a hA
    refine d_take (i := 4) (L' := #[tT,fF,fF,tT,tT,fF,fF,fF,fF,fF,fF,fF]) rfl (by kernel_rfl) rfl (fun _ _ _ h => h) hA (by decide) rfl hS (fun a w' hA hS' => run_ld (hA.ev rfl) (run_loadS Try.isAgg43 ((NAddr.at_Host (hM.box .z)).extB hS'))) ?_; clear hA; intro a hA
    refine d_takef (i := 6) (L' := #[tT,fF,fF,tT,tT,fF,tT,fF,fF,fF,fF,fF]) rfl (by kernel_rfl) rfl (fun _ _ _ h => h) hA (by decide) (fun _ => hS) (fun a w' hA => run_field' Try.underlying46 rfl rfl Try.sizeOf44 (by decide) (hA.ev rfl)) ?_; clear hA; intro a hA
    refine d_take (i := 7) (L' := #[tT,fF,fF,tT,tT,fF,tT,tT,fF,fF,fF,fF]) rfl (by kernel_rfl) rfl (fun _ _ _ h => h) hA (by decide) rfl hS (fun a w' hA hS' => run_ld (hA.ev rfl) (run_loadS Try.isAgg44 ((NAddr.at_Port (hM.box .z)).extB hS'))) ?_; clear hA; intro a hA
    refine d_many (is := [1, 2]) (by kernel_rfl) (by decide) ⟨?_, ?_, trivial⟩
    · refine d_op (i := 1) (L' := #[tT,tT,fF,tT,tT,fF,tT,tT,fF,fF,fF,fF]) rfl rfl (st_call Try.call17 hA [(.agg (pHash.enc salt_0).toArray)] rfl (by decide) (sip_Key.calls _ _ _ _ _ (hM.front (Ms := [])) H210) ?_)
      clear hA; rintro _ w234 ⟨rfl, hMc⟩ a hA
      have hE := hMc.below; have hM := hM.call (Ms := []) hMc
      clear hMc; simp only [List.cons_append, List.nil_append] at hM
      replace hS := hS.trans (hE.mono hS.size)
      refine ⟨fun _ => hS, ?_⟩
      refine d_one (i := 2) (L' := #[tT,tT,tT,tT,tT,fF,tT,tT,fF,fF,fF,fF]) (by kernel_rfl) rfl rfl (e_litNL [(4 : Int)] [(.int .u8 4)] elt25 hM rfl (by decide) hA rfl rfl (List.cons_ne_nil _ _) (by decide) ?_)
      clear hM hA; intro w236 g235 hM hE hlo237 a hA
      have hlw238 : ∀ k, Value.ownBlock (.slice (some ⟨g235, 0, none⟩) 1 1) = some k → w233.heap.size ≤ k := fun k hk => by cases hk; exact Nat.le_trans hS.size hlo237
      replace hS := hS.trans (hE.mono hS.size)
      refine ⟨fun _ => hS, ?_⟩
      refine d_one (i := 5) (L' := #[tT,tT,tT,tT,tT,tT,tT,tT,fF,fF,fF,fF]) (by kernel_rfl) rfl rfl (st_call Try.call84 hA [(.slice (some ⟨g235, 0, none⟩) 1 1), (.int .u32 a_1.Host)] rfl (by decide) (codec_AppendU32.calls _ _ _ _ _ _ _ ((hM.roV (p := (Pl.int .u8)) (Ms := []) .z)) (hM.front (Ms := [])) H217) ?_)
      clear hA; rintro _ w239 ⟨v240, rfl, hMc⟩ a hA
      have hE := hMc.below; have hM := hM.call (Ms := []) hMc
      have hlw241 : ∀ k, _ → w233.heap.size ≤ k := fun k hk => Nat.le_trans hS.size ((hMc.low _ (List.Mem.head _) k hk).resolve_right (by simp))
      clear hMc; simp only [List.cons_append, List.nil_append] at hM
      obtain ⟨A242, c243, rfl⟩ := RowOk.form (hM.row (p := (Pl.int .u8)) .z)
      replace hS := hS.trans (hE.mono hS.size)
      refine ⟨fun _ => hS, ?_⟩
      refine d_one (i := 8) (L' := #[tT,tT,tT,tT,tT,tT,tT,tT,tT,fF,fF,fF]) (by kernel_rfl) rfl rfl (st_call Try.call83 hA [(.slice A242 r216.length c243), (.int .u16 a_1.Port)] rfl (by decide) (codec_AppendU16.calls _ _ _ _ _ _ _ ((hM.roV (p := (Pl.int .u8)) (Ms := []) .z)) (hM.front (Ms := [])) H224) ?_)
      clear hA; rintro _ w244 ⟨v245, rfl, hMc⟩ a hA
      have hE := hMc.below; have hM := hM.call (Ms := []) hMc
      have hlw246 : ∀ k, _ → w233.heap.size ≤ k := fun k hk => Nat.le_trans hS.size ((hMc.low _ (List.Mem.head _) k hk).resolve_right (by simp))
      clear hMc; simp only [List.cons_append, List.nil_append] at hM
      obtain ⟨A247, c248, rfl⟩ := RowOk.form (hM.row (p := (Pl.int .u8)) .z)
      replace hS := hS.trans (hE.mono hS.size)
      refine ⟨fun _ => hS, ?_⟩
      refine d_one (i := 9) (L' := #[tT,tT,tT,tT,tT,tT,tT,tT,tT,tT,fF,fF]) (by kernel_rfl) rfl rfl (st_call Try.call13 hA [(.agg (pSipKey.enc r209).toArray), (.slice A247 r223.length c248)] rfl (by decide) (sip_Sum.calls _ _ _ _ _ _ _ ((hM.roV (p := (Pl.int .u8)) (Ms := []) .z)) (hM.front (Ms := [])) H231) ?_)
      clear hA; rintro _ w249 ⟨rfl, hMc⟩ a hA
      have hE := hMc.below; have hM := hM.call (Ms := []) hMc
      clear hMc; simp only [List.cons_append, List.nil_append] at hM
      replace hS := hS.trans (hE.mono hS.size)
      refine ⟨fun _ => hS, ?_⟩
      refine d_takef (i := 10) (L' := #[tT,tT,tT,tT,tT,tT,tT,tT,tT,tT,tT,fF]) rfl (by kernel_rfl) rfl (fun _ _ _ h => h) hA (by decide) (fun _ => hS) (fun a w' hA => run_bin (hA.ev rfl) (hA.ev rfl) (bin_rem _ _ _ _ (by decide))) ?_; clear hA; intro a hA
      refine d_takef (i := 11) (L' := #[tT,tT,tT,tT,tT,tT,tT,tT,tT,tT,tT,tT]) rfl (by kernel_rfl) rfl (fun _ _ _ h => h) hA (by decide) (fun _ => hS) (fun a w' hA => run_assign (hA.ev rfl)) ?_; clear hA; intro a hA
      refine d_done (by kernel_rfl) ?_
      exact ⟨r230.tmod 4, Option.some.inj H206, (hM.sel [4, 3] rfl (by decide)), (((hA.nil.cons (hA.get 5 _ rfl)).cons (hA.get 3 _ rfl)).cons (hA.get 2 _ rfl))⟩
    · refine d_op (i := 2) (L' := #[tT,fF,tT,tT,tT,fF,tT,tT,fF,fF,fF,fF]) rfl rfl (e_litNL [(4 : Int)] [(.int .u8 4)] elt25 hM rfl (by decide) hA rfl rfl (List.cons_ne_nil _ _) (by decide) ?_)
      clear hM hA; intro w251 g250 hM hE hlo252 a hA
      have hlw253 : ∀ k, Value.ownBlock (.slice (some ⟨g250, 0, none⟩) 1 1) = some k → w233.heap.size ≤ k := fun k hk => by cases hk; exact Nat.le_trans hS.size hlo252
      replace hS := hS.trans (hE.mono hS.size)
      refine ⟨fun _ => hS, ?_⟩
      refine d_one (i := 1) (L' := #[tT,tT,tT,tT,tT,fF,tT,tT,fF,fF,fF,fF]) (by kernel_rfl) rfl rfl (st_call Try.call17 hA [(.agg (pHash.enc salt_0).toArray)] rfl (by decide) (sip_Key.calls _ _ _ _ _ (hM.front (Ms := [])) H210) ?_)
      clear hA; rintro _ w254 ⟨rfl, hMc⟩ a hA
      have hE := hMc.below; have hM := hM.call (Ms := []) hMc
      clear hMc; simp only [List.cons_append, List.nil_append] at hM
      replace hS := hS.trans (hE.mono hS.size)
      refine ⟨fun _ => hS, ?_⟩
      refine d_one (i := 5) (L' := #[tT,tT,tT,tT,tT,tT,tT,tT,fF,fF,fF,fF]) (by kernel_rfl) rfl rfl (st_call Try.call84 hA [(.slice (some ⟨g250, 0, none⟩) 1 1), (.int .u32 a_1.Host)] rfl (by decide) (codec_AppendU32.calls _ _ _ _ _ _ _ ((hM.roV (p := (Pl.int .u8)) (Ms := []) .z)) (hM.front (Ms := [])) H217) ?_)
      clear hA; rintro _ w255 ⟨v256, rfl, hMc⟩ a hA
      have hE := hMc.below; have hM := hM.call (Ms := []) hMc
      have hlw257 : ∀ k, _ → w233.heap.size ≤ k := fun k hk => Nat.le_trans hS.size ((hMc.low _ (List.Mem.head _) k hk).resolve_right (by simp))
      clear hMc; simp only [List.cons_append, List.nil_append] at hM
      obtain ⟨A258, c259, rfl⟩ := RowOk.form (hM.row (p := (Pl.int .u8)) .z)
      replace hS := hS.trans (hE.mono hS.size)
      refine ⟨fun _ => hS, ?_⟩
      refine d_one (i := 8) (L' := #[tT,tT,tT,tT,tT,tT,tT,tT,tT,fF,fF,fF]) (by kernel_rfl) rfl rfl (st_call Try.call83 hA [(.slice A258 r216.length c259), (.int .u16 a_1.Port)] rfl (by decide) (codec_AppendU16.calls _ _ _ _ _ _ _ ((hM.roV (p := (Pl.int .u8)) (Ms := []) .z)) (hM.front (Ms := [])) H224) ?_)
      clear hA; rintro _ w260 ⟨v261, rfl, hMc⟩ a hA
      have hE := hMc.below; have hM := hM.call (Ms := []) hMc
      have hlw262 : ∀ k, _ → w233.heap.size ≤ k := fun k hk => Nat.le_trans hS.size ((hMc.low _ (List.Mem.head _) k hk).resolve_right (by simp))
      clear hMc; simp only [List.cons_append, List.nil_append] at hM
      obtain ⟨A263, c264, rfl⟩ := RowOk.form (hM.row (p := (Pl.int .u8)) .z)
      replace hS := hS.trans (hE.mono hS.size)
      refine ⟨fun _ => hS, ?_⟩
      refine d_one (i := 9) (L' := #[tT,tT,tT,tT,tT,tT,tT,tT,tT,tT,fF,fF]) (by kernel_rfl) rfl rfl (st_call Try.call13 hA [(.agg (pSipKey.enc r209).toArray), (.slice A263 r223.length c264)] rfl (by decide) (sip_Sum.calls _ _ _ _ _ _ _ ((hM.roV (p := (Pl.int .u8)) (Ms := []) .z)) (hM.front (Ms := [])) H231) ?_)
      clear hA; rintro _ w265 ⟨rfl, hMc⟩ a hA
      have hE := hMc.below; have hM := hM.call (Ms := []) hMc
      clear hMc; simp only [List.cons_append, List.nil_append] at hM
      replace hS := hS.trans (hE.mono hS.size)
      refine ⟨fun _ => hS, ?_⟩
      refine d_takef (i := 10) (L' := #[tT,tT,tT,tT,tT,tT,tT,tT,tT,tT,tT,fF]) rfl (by kernel_rfl) rfl (fun _ _ _ h => h) hA (by decide) (fun _ => hS) (fun a w' hA => run_bin (hA.ev rfl) (hA.ev rfl) (bin_rem _ _ _ _ (by decide))) ?_; clear hA; intro a hA
      refine d_takef (i := 11) (L' := #[tT,tT,tT,tT,tT,tT,tT,tT,tT,tT,tT,tT]) rfl (by kernel_rfl) rfl (fun _ _ _ h => h) hA (by decide) (fun _ => hS) (fun a w' hA => run_assign (hA.ev rfl)) ?_; clear hA; intro a hA
      refine d_done (by kernel_rfl) ?_
      exact ⟨r230.tmod 4, Option.some.inj H206, (hM.sel [4, 3] rfl (by decide)), (((hA.nil.cons (hA.get 5 _ rfl)).cons (hA.get 3 _ rfl)).cons (hA.get 2 _ rfl))⟩
  clear hM hA
  rintro a w266 ⟨y205, rfl, hM, hA⟩
  try dsimp only at H
  refine TN ?_
  refine wp_seq ?_
  refine draw (fun w' => Below w266.heap.size w266 w') [] rfl ?_
  intro w267 hw hS; replace hM := hM.ext hS; clear hw
  refine rebase hS ?_; clear hS; intro hS
  refine d_take (i := 0) (L' := #[tT,fF,fF,fF,fF,fF,fF,fF,fF]) rfl (by kernel_rfl) rfl (fun _ _ _ h => h) hA (by decide) rfl hS (fun a w' hA hS' => run_ld (hA.ev rfl) (run_loadP Try.isAgg33 Try.sizeOf33 ((hM.box .z).extB hS'))) ?_; clear hA; intro a hA
  refine d_take (i := 1) (L' := #[tT,tT,fF,fF,fF,fF,fF,fF,fF]) rfl (by kernel_rfl) rfl (fun _ _ _ h => h) hA (by decide) rfl hS (fun a w' hA hS' => run_ld (hA.ev rfl) (run_loadP Try.isAgg46 Try.sizeOf46 ((hM.box (.s .z)).extB hS'))) ?_; clear hA; intro a hA
  refine d_takef (i := 3) (L' := #[tT,tT,fF,tT,fF,fF,fF,fF,fF]) rfl (by kernel_rfl) rfl (fun _ _ _ h => h) hA (by decide) (fun _ => hS) (fun a w' hA => run_move (hA.ev rfl)) ?_; clear hA; intro a hA
  refine d_takef (i := 4) (L' := #[tT,tT,fF,tT,tT,fF,fF,fF,fF]) rfl (by kernel_rfl) rfl (fun _ _ _ h => h) hA (by decide) (fun _ => hS) (fun a w' hA => run_conv Try.underlying22 Try.underlying43 (hA.ev rfl)) ?_; clear hA; intro a hA
  obtain ⟨r269, H270, H⟩ := Option.bind_eq_some_iff.1 H
  refine d_one (i := 2) (L' := #[tT,tT,tT,tT,tT,fF,fF,fF,fF]) (by kernel_rfl) rfl rfl (st_call Try.call24 hA [(.agg (pNAddr.enc a_1).toArray)] rfl (by decide) (addrbook_Group.calls _ _ _ _ _ (hM.front (Ms := [])) H270) ?_)
  clear hA; rintro _ w271 ⟨rfl, hMc⟩ a hA
  have hE := hMc.below; have hM := hM.call (Ms := []) hMc
  clear hMc; simp only [List.cons_append, List.nil_append] at hM
  replace hS := hS.trans (hE.mono hS.size)
  refine ⟨fun _ => hS, ?_⟩
  obtain ⟨r272, H273, H⟩ := Option.bind_eq_some_iff.1 H
  refine d_one (i := 5) (L' := #[tT,tT,tT,tT,tT,tT,fF,fF,fF]) (by kernel_rfl) rfl rfl (st_call Try.call82 hA [(.agg (pHash.enc salt_0).toArray), (.int .u8 3), (.int .u32 r269), (.int .u32 (IntKind.u32.wrap y205))] rfl (by decide) (addrbook_hash.calls _ _ _ _ _ _ _ _ (hM.front (Ms := [])) H273) ?_)
  clear hA; rintro _ w274 ⟨rfl, hMc⟩ a hA
  have hE := hMc.below; have hM := hM.call (Ms := []) hMc
  clear hMc; simp only [List.cons_append, List.nil_append] at hM
  replace hS := hS.trans (hE.mono hS.size)
  refine ⟨fun _ => hS, ?_⟩
  refine d_takef (i := 6) (L' := #[tT,tT,tT,tT,tT,tT,tT,fF,fF]) rfl (by kernel_rfl) rfl (fun _ _ _ h => h) hA (by decide) (fun _ => hS) (fun a w' hA => run_bin (hA.ev rfl) (hA.ev rfl) (bin_rem _ _ _ _ (by decide))) ?_; clear hA; intro a hA
  refine d_takef (i := 7) (L' := #[tT,tT,tT,tT,tT,tT,tT,tT,fF]) rfl (by kernel_rfl) rfl (fun _ _ _ h => h) hA (by decide) (fun _ => hS) (fun a w' hA => run_conv Try.underlying22 Try.underlying3 (hA.ev rfl)) ?_; clear hA; intro a hA
  refine d_takef (i := 8) (L' := #[tT,tT,tT,tT,tT,tT,tT,tT,tT]) rfl (by kernel_rfl) rfl (fun _ _ _ h => h) hA (by decide) (fun _ => hS) (fun a w' hA => run_assign (hA.ev rfl)) ?_; clear hA; intro a hA
  refine d_done (by kernel_rfl) ?_
  refine TN ?_
  refine wp_ret ?_
  obtain rfl := Option.some.inj H
  exact ret_post1 (fn := Try.f58) hA rfl rfl ⟨_, rfl, rfl, (hM.sel [] rfl (by decide))⟩

def addrbook_same.f (k : Nat) (a_0 : NAddr) (b_1 : NAddr) : Option Bool := (Option.bind (α := Bool) (if (a_0.Host == b_1.Host) = true then (some (a_0.Port == b_1.Port)) else (some false)) (fun t22 => (some t22)))
set_option maxHeartbeats 2000000 in
set_option maxRecDepth 100000 in
theorem addrbook_same.calls (k : Nat) (a_0 : NAddr) (b_1 : NAddr) (F : List (Option Nat)) (r : Bool) (w0 : World) (hM : Mem F w0 w0 []) (H : addrbook_same.f k a_0 b_1 = some r) :
    Calls Try.prog 87 #[(.agg (pNAddr.enc a_0).toArray), (.agg (pNAddr.enc b_1).toArray)] w0 fun e w' => ∃ v, e = .returned v ∧ v = (.bool r) ∧ Mem F w0 w' [] := by
  unfold addrbook_same.f at H
  refine enterL (n := 17) [(.agg (pNAddr.enc a_0).toArray), (.agg (pNAddr.enc b_1).toArray)] Try.func87 rfl rfl rfl ?_
  intro a hA
  refine wp_seq ?_
  refine wp_region_lit ?_
  refine L1 (e_box (cs := (pNAddr.enc a_0)) hM hA rfl rfl (by decide) ?_)
  clear hM hA; intro w15 g14 hM hE  a hA
  refine L1 (e_box (cs := (pNAddr.enc b_1)) hM hA rfl rfl (by decide) ?_)
  clear hM hA; intro w18 g17 hM hE  a hA
  refine L1 (stv hA (by decide) (run_assign (hA.ev rfl)) ?_)
  clear hA; intro a hA
  refine LQ ?_
  refine TN ?_
  refine wp_seq ?_
  obtain ⟨o24, H23, H⟩ := Option.bind_eq_some_iff.1 H
  refine cutC (fun a w => ∃ (t22 : Bool), t22 = o24 ∧ Mem F w0 w [] ∧ Has 17 [(4, (.bool t22))] a) ?_ ?_
  · refine wp_region_lit ?_
    refine L1 (stv hA (by decide) (run_field' Try.underlying46 rfl rfl Try.sizeOf43 (by decide) (hA.ev rfl)) ?_)
    clear hA; intro a hA
    refine L1 (stv hA (by decide) (run_ld (hA.ev rfl) (run_loadS Try.isAgg43 (NAddr.at_Host (hM.box (.s .z))))) ?_)
    clear hA; intro a hA
    refine L1 (stv hA (by decide) (run_field' Try.underlying46 rfl rfl Try.sizeOf43 (by decide) (hA.ev rfl)) ?_)
    clear hA; intro a hA
    refine L1 (stv hA (by decide) (run_ld (hA.ev rfl) (run_loadS Try.isAgg43 (NAddr.at_Host (hM.box .z)))) ?_)
    clear hA; intro a hA
    refine L1 (stv hA (by decide) (run_bin (hA.ev rfl) (hA.ev rfl) (bin_eql _ _ _ _)) ?_)
    clear hA; intro a hA
    refine L1 (stv hA (by decide) (run_move (hA.ev rfl)) ?_)
    clear hA; intro a hA
    refine bsplit (b := (a_0.Host == b_1.Host)) (fun hb25 => ?_) (fun hb25 => ?_)
    · replace H23 := ite_t hb25 H23
      have hA := hA.re (t := 10) rfl (congrArg Value.bool hb25)
      refine L1 (gate_on rfl rfl hA (by decide) rfl (stv hA (by decide) (run_field' Try.underlying46 rfl rfl Try.sizeOf44 (by decide) (hA.ev rfl)) ?_))
      clear hA; intro a hA
      refine L1 (gate_on rfl rfl hA (by decide) rfl (stv hA (by decide) (run_ld (hA.ev rfl) (run_loadS Try.isAgg44 (NAddr.at_Port (hM.box (.s .z))))) ?_))
      clear hA; intro a hA
      refine L1 (gate_on rfl rfl hA (by decide) rfl (stv hA (by decide) (run_field' Try.underlying46 rfl rfl Try.sizeOf44 (by decide) (hA.ev rfl)) ?_))
      clear hA; intro a hA
      refine L1 (gate_on rfl rfl hA (by decide) rfl (stv hA (by decide) (run_ld (hA.ev rfl) (run_loadS Try.isAgg44 (NAddr.at_Port (hM.box .z)))) ?_))
      clear hA; intro a hA
      refine L1 (gate_on rfl rfl hA (by decide) rfl (stv hA (by decide) (run_bin (hA.ev rfl) (hA.ev rfl) (bin_eql _ _ _ _)) ?_))
      clear hA; intro a hA
      refine L1 (stv hA (by decide) (run_pick (hA.ev rfl) (fun _ => hA.ev rfl) (fun h => Bool.noConfusion h)) ?_)
      clear hA; intro a hA
      refine L1 (stv hA (by decide) (run_assign (hA.ev rfl)) ?_)
      clear hA; intro a hA
      refine LQ ?_
      exact ⟨(a_0.Port == b_1.Port), Option.some.inj H23, (hM.sel [] rfl (by decide)), (hA.nil.cons (hA.get 4 _ rfl))⟩
    · replace H23 := ite_f hb25 H23
      have hA := hA.re (t := 10) rfl (congrArg Value.bool hb25)
      refine L1 (gate_off rfl (by decide) rfl hA (by decide) rfl rfl ?_); clear hA; intro a hA
      refine L1 (gate_off rfl (by decide) rfl hA (by decide) rfl rfl ?_); clear hA; intro a hA
      refine L1 (gate_off rfl (by decide) rfl hA (by decide) rfl rfl ?_); clear hA; intro a hA
      refine L1 (gate_off rfl (by decide) rfl hA (by decide) rfl rfl ?_); clear hA; intro a hA
      refine L1 (gate_off rfl (by decide) rfl hA (by decide) rfl rfl ?_); clear hA; intro a hA
      refine L1 (stv hA (by decide) (run_pick (hA.ev rfl) (fun h => Bool.noConfusion h) (fun _ => hA.ev rfl)) ?_)
      clear hA; intro a hA
      refine L1 (stv hA (by decide) (run_assign (hA.ev rfl)) ?_)
      clear hA; intro a hA
      refine LQ ?_
      exact ⟨false, Option.some.inj H23, (hM.sel [] rfl (by decide)), (hA.nil.cons (hA.get 4 _ rfl))⟩
  clear hM hA
  rintro a w26 ⟨t22, rfl, hM, hA⟩
  try dsimp only at H
  refine TN ?_
  refine wp_ret ?_
  obtain rfl := Option.some.inj H
  exact ret_post1 (fn := Try.f87) hA rfl rfl ⟨_, rfl, rfl, hM⟩

def addrbook_find.l0 (l_0 : (List Place)) (a_1 : NAddr) : Nat → Int → Option (Out Int (Unit))
  | 0, _ => none
  | k + 1, t391 => (if (decide (t391 < ((l_0.length : Nat) : Int))) = true then (if 0 ≤ t391 ∧ t391 < ((l_0.length : Nat) : Int) then ((addrbook_same.f k ((l_0.getD t391.toNat Place.z).Addr_) a_1).bind fun r411 => (if r411 = true then (some (.ret t391)) else (addrbook_find.l0 l_0 a_1 k (IntKind.i64.wrap (t391 + 1))))) else none) else (some (.go ())))
def addrbook_find.f (k : Nat) (l_0 : (List Place)) (a_1 : NAddr) : Option Int := (Option.bind (α := Int) (Option.bind (α := Out Int (Unit)) (addrbook_find.l0 l_0 a_1 k 0) (fun o => match o with | .ret r => some r | .go _ => (some (-1)))) (fun t313 => (some t313)))
set_option maxHeartbeats 2000000 in
set_option maxRecDepth 100000 in
theorem addrbook_find.calls (k : Nat) (l_0 : (List Place)) (a_1 : NAddr) (F : List (Option Nat)) (v0 : Value) (r : Int) (w0 : World) (h0 : RoV F pPlace w0 v0 l_0) (hM : Mem F w0 w0 []) (H : addrbook_find.f k l_0 a_1 = some r) :
    Calls Try.prog 62 #[v0, (.agg (pNAddr.enc a_1).toArray)] w0 fun e w' => ∃ v, e = .returned v ∧ v = (.int .i64 r) ∧ Mem F w0 w' [] := by
  unfold addrbook_find.f at H
  obtain ⟨A0, c0, rfl, hr0, hc0⟩ := h0
  refine enterL (n := 8) [(.slice A0 l_0.length c0), (.agg (pNAddr.enc a_1).toArray)] Try.func62 rfl rfl rfl ?_
  intro a hA
  refine wp_seq ?_
  refine wp_region_lit ?_
  refine L1 (e_box (cs := (pNAddr.enc a_1)) hM hA rfl rfl (by decide) ?_)
  clear hM hA; intro w210 g209 hM hE  a hA
  refine L1 (stv hA (by decide) (run_assign (hA.ev rfl)) ?_)
  clear hA; intro a hA
  refine LQ ?_
  refine TN ?_
  refine wp_seq ?_
  refine wp_region_lit ?_
  refine L1 (stv hA (by decide) (run_move (hA.ev rfl)) ?_)
  clear hA; intro a hA
  refine L1 (stv hA (by decide) (run_fn2 hA [(.pointer (some (⟨g209, 0, none⟩)))] rfl) ?_)
  clear hA; intro a hA
  refine L1 (inl_call Try.call85 hA [(.slice A0 l_0.length c0), (.func (.func 86) #[] #[(.pointer (some (⟨g209, 0, none⟩)))])] rfl (by decide) ?_)
  obtain ⟨o315, H314, H⟩ := Option.bind_eq_some_iff.1 H
  refine (show Calls Try.prog 85 _ w210 (fun e w => ∃ v, e = .returned v ∧ ∃ (t313 : Int), t313 = o315 ∧ v = (.int .i64 t313) ∧ Mem F w0 w [.box g209 46 (pNAddr.enc a_1)]) from ?_).mono ?_
  · refine enterL (n := 19) [(.slice A0 l_0.length c0), (.func (.func 86) #[] #[(.pointer (some (⟨g209, 0, none⟩)))])] Try.func85 rfl rfl rfl ?_
    clear hA; intro a hA
    refine wp_seq ?_
    refine wp_region_lit ?_
    refine L1 (stv hA (by decide) (run_assign (hA.ev rfl)) ?_)
    clear hA; intro a hA
    refine LQ ?_
    refine TN ?_
    refine wp_seq ?_
    refine wp_seq ?_
    refine wp_region_lit ?_
    refine L1 (stv hA (by decide) (run_move (hA.ev rfl)) ?_)
    clear hA; intro a hA
    refine L1 (stv hA (by decide) (run_len_slice Try.underlying39 (hA.ev rfl)) ?_)
    clear hA; intro a hA
    refine L1 (stv hA (by decide) (run_move (hA.ev rfl)) ?_)
    clear hA; intro a hA
    refine LQ ?_
    refine TN ?_
    obtain ⟨o393, H392, H314⟩ := Option.bind_eq_some_iff.1 H314
    refine cutC (fun a w => (.go ()) = o393 ∧ Mem F w0 w [.box g209 46 (pNAddr.enc a_1)] ∧ Has 19 [] a) ?_ ?_
    · refine wp_block ?_
      refine wp_loop_ghost (fun m a w => ∃ (t391 : Int), addrbook_find.l0 l_0 a_1 m t391 = some o393 ∧ Mem F w0 w [.box g209 46 (pNAddr.enc a_1)] ∧ Has 19 [(0, (.slice A0 l_0.length c0)), (1, (.func (.func 86) #[] #[(.pointer (some (⟨g209, 0, none⟩)))])), (7, (.int .i64 ((l_0.length : Nat) : Int))), (8, (.int .i64 t391))] a) k ⟨0, H392, hM, ((((hA.nil.cons (hA.get 8 _ rfl)).cons (hA.get 7 _ rfl)).cons (hA.get 1 _ rfl)).cons (hA.get 0 _ rfl))⟩ ?_
      clear hM hA; rintro m394 a w395 ⟨t391, H392, hM, hA⟩
      cases m394 with
      | zero => exact absurd H392 (by simp [addrbook_find.l0])
      | succ m394 =>
      rw [addrbook_find.l0] at H392
      refine wp_seq ?_
      refine wp_region_lit ?_
      refine L1 (stv hA (by decide) (run_bin (hA.ev rfl) (hA.ev rfl) (bin_lss _ _ _ _)) ?_)
      clear hA; intro a hA
      refine LQ ?_
      refine TN ?_
      refine wp_seq ?_
      refine tcond (b := (decide (t391 < ((l_0.length : Nat) : Int)))) hA rfl (fun hb396 => ?_) (fun hb396 => ?_)
      · replace H392 := ite_t hb396 H392
        refine wp_skip ?_
        refine TN ?_
        refine wp_seq ?_
        refine wp_block ?_
        refine wp_seq ?_
        refine wp_region_lit ?_
        refine L1 (stv hA (by decide) (run_move (hA.ev rfl)) ?_)
        clear hA; intro a hA
        refine L1 (stv hA (by decide) (run_assign (hA.ev rfl)) ?_)
        clear hA; intro a hA
        refine LQ ?_
        refine TN ?_
        refine wp_seq ?_
        refine wp_region_lit ?_
        refine L1 (stv hA (by decide) (run_move (hA.ev rfl)) ?_)
        clear hA; intro a hA
        refine L1 (stv hA (by decide) (run_move (hA.ev rfl)) ?_)
        clear hA; intro a hA
        refine L1 (stv hA (by decide) (run_move (hA.ev rfl)) ?_)
        clear hA; intro a hA
        obtain ⟨⟨hi397, hj398⟩, H392⟩ := ite_some H392
        obtain ⟨ad399, hq400, hat401⟩ := Row.elem' (p := pPlace) (hM.ro hr0) (Eq.refl l_0.length) Place.z t391 hi397 hj398
        refine L1 (stv hA (by decide) (run_idx Try.underlying39 Try.sizeOf70 (hA.ev rfl) hq400 (hA.ev rfl) hi397 hj398) ?_)
        clear hA; intro a hA
        refine L1 (stv hA (by decide) (run_ld (hA.ev rfl) (run_loadP Try.isAgg70 Try.sizeOf70 hat401)) ?_)
        clear hA; intro a hA
        refine L1 (inl_callv (caps := [(.pointer (some (⟨g209, 0, none⟩)))]) Try.call86 hA rfl [(.agg (pPlace.enc (l_0.getD t391.toNat Place.z)).toArray)] rfl (by decide) ?_)
        refine enterL (n := 8) [(.agg (pPlace.enc (l_0.getD t391.toNat Place.z)).toArray), (.pointer (some (⟨g209, 0, none⟩)))] Try.func86 rfl rfl rfl ?_
        clear hA; intro a hA
        refine wp_seq ?_
        refine wp_region_lit ?_
        refine L1 (e_box (cs := (pPlace.enc (l_0.getD t391.toNat Place.z))) hM hA rfl rfl (by decide) ?_)
        clear hM hA; intro w409 g408 hM hE  a hA
        refine L1 (stv hA (by decide) (run_assign (hA.ev rfl)) ?_)
        clear hA; intro a hA
        refine LQ ?_
        refine TN ?_
        refine wp_seq ?_
        refine wp_region_lit ?_
        refine L1 (stv hA (by decide) (run_field' Try.underlying70 rfl rfl Try.sizeOf46 (by decide) (hA.ev rfl)) ?_)
        clear hA; intro a hA
        refine L1 (stv hA (by decide) (run_ld (hA.ev rfl) (run_loadP Try.isAgg46 Try.sizeOf46 (Place.at_Addr_ (hM.box .z)))) ?_)
        clear hA; intro a hA
        refine L1 (stv hA (by decide) (run_ld (hA.ev rfl) (run_loadP Try.isAgg46 Try.sizeOf46 (hM.box (.s .z)))) ?_)
        clear hA; intro a hA
        obtain ⟨r411, H412, H392⟩ := Option.bind_eq_some_iff.1 H392
        refine L1 (st_call Try.call87 hA [(.agg (pNAddr.enc ((l_0.getD t391.toNat Place.z).Addr_)).toArray), (.agg (pNAddr.enc a_1).toArray)] rfl (by decide) (addrbook_same.calls _ _ _ _ _ _ (hM.front (Ms := [])) H412) ?_)
        clear hA; rintro _ w413 ⟨rfl, hMc⟩ a hA
        have hE := hMc.below; have hM := hM.call (Ms := []) hMc
        clear hMc; simp only [List.cons_append, List.nil_append] at hM
        refine L1 (stv hA (by decide) (run_assign (hA.ev rfl)) ?_)
        clear hA; intro a hA
        refine LQ ?_
        refine TN ?_
        refine wp_ret ?_
        refine ret_post1 (fn := Try.f86) hA rfl rfl ⟨_, rfl, ?_⟩; clear hA; intro a hA
        refine LQ ?_
        refine TN ?_
        refine tcond (b := r411) hA rfl (fun hb414 => ?_) (fun hb414 => ?_)
        · replace H392 := ite_t hb414 H392
          refine wp_seq ?_
          refine wp_region_lit ?_
          refine L1 (stv hA (by decide) (run_move (hA.ev rfl)) ?_)
          clear hA; intro a hA
          refine L1 (stv hA (by decide) (run_assign (hA.ev rfl)) ?_)
          clear hA; intro a hA
          refine LQ ?_
          refine TN ?_
          refine wp_ret ?_
          obtain rfl := Option.some.inj H392
          dsimp only at H314
          obtain rfl := Option.some.inj H314
          refine BR ?_
          refine TR ?_
          refine TR ?_
          refine BR ?_
          refine TR ?_
          refine TR ?_
          exact ret_post1 (fn := Try.f85) hA rfl rfl ⟨_, rfl, t391, rfl, rfl, (hM.sel [1] rfl (by decide))⟩
        · replace H392 := ite_f hb414 H392
          refine wp_skip ?_
          refine BN ?_
          refine TN ?_
          refine wp_region_lit ?_
          refine L1 (stv hA (by decide) (run_bin (hA.ev rfl) (hA.ev rfl) (bin_add _ _ _ _)) ?_)
          clear hA; intro a hA
          refine L1 (stv hA (by decide) (run_move (hA.ev rfl)) ?_)
          clear hA; intro a hA
          refine LQ ?_
          exact ⟨_, Nat.lt_succ_self m394, IntKind.i64.wrap (t391 + 1), H392, (hM.sel [1] rfl (by decide)), ((((hA.nil.cons (hA.get 8 _ rfl)).cons (hA.get 7 _ rfl)).cons (hA.get 1 _ rfl)).cons (hA.get 0 _ rfl))⟩
      · replace H392 := ite_f hb396 H392
        refine wp_exit ?_
        refine TX ?_
        refine TX ?_
        refine BX ?_
        exact ⟨Option.some.inj H392, hM, hA.nil⟩
    clear hM hA
    rintro a w415 ⟨rfl, hM, hA⟩
    try dsimp only at H314
    refine TN ?_
    refine wp_seq ?_
    refine wp_region_lit ?_
    refine L1 (stv hA (by decide) (run_assign (hA.ev rfl)) ?_)
    clear hA; intro a hA
    refine LQ ?_
    refine TN ?_
    refine wp_ret ?_
    obtain rfl := Option.some.inj H314
    exact ret_post1 (fn := Try.f85) hA rfl rfl ⟨_, rfl, (-1), rfl, rfl, hM⟩
  rintro e w416 ⟨_, rfl, ⟨t313, rfl, rfl, hM⟩⟩
  refine ⟨_, rfl, ?_⟩; clear hA; intro a hA; try dsimp only at H
  refine L1 (stv hA (by decide) (run_assign (hA.ev rfl)) ?_)
  clear hA; intro a hA
  refine LQ ?_
  refine TN ?_
  refine wp_ret ?_
  obtain rfl := Option.some.inj H
  exact ret_post1 (fn := Try.f62) hA rfl rfl ⟨_, rfl, rfl, (hM.sel [] rfl (by decide))⟩

def addrbook_Sound_c1.f (k : Nat) (p_0 : Place) (p_1 : Book) : Option (Int × Book) := ((addrbook_HeardBucket.f k p_1.Salt p_0.Addr_ p_0.Source).bind fun r10 => (some (r10, (Book.mk p_1.Salt p_1.Heard p_1.Tried))))
set_option maxHeartbeats 2000000 in
set_option maxRecDepth 100000 in
theorem addrbook_Sound_c1.calls (k : Nat) (p_0 : Place) (p_1 : Book) (F : List (Option Nat)) (g1 : Nat) (v1_1 : Value) (v1_2 : Value) (r : (Int × Book)) (w0 : World) (h1_1 : RoV F pPlace w0 v1_1 p_1.Heard) (h1_2 : RoV F pPlace w0 v1_2 p_1.Tried) (hM : Mem F w0 w0 [.box g1 41 (List.flatten [pHash.enc p_1.Salt, [v1_1], [v1_2]])]) (H : addrbook_Sound_c1.f k p_0 p_1 = some r) :
    Calls Try.prog 55 #[(.agg (pPlace.enc p_0).toArray), (.pointer (some (⟨g1, 0, none⟩)))] w0 fun e w' => ∃ v, e = .returned v ∧ v = (.int .i64 r.1) ∧ Mem F w0 w' [.box g1 41 (List.flatten [pHash.enc r.2.Salt, [v1_1], [v1_2]])] := by
  unfold addrbook_Sound_c1.f at H
  obtain ⟨A1_1, c1_1, rfl, hr1_1, hc1_1⟩ := h1_1
  obtain ⟨A1_2, c1_2, rfl, hr1_2, hc1_2⟩ := h1_2
  refine enterL (n := 11) [(.agg (pPlace.enc p_0).toArray), (.pointer (some (⟨g1, 0, none⟩)))] Try.func55 rfl rfl rfl ?_
  intro a hA
  refine wp_seq ?_
  refine wp_region_lit ?_
  refine L1 (e_box (cs := (pPlace.enc p_0)) hM hA rfl rfl (by decide) ?_)
  clear hM hA; intro w8 g7 hM hE  a hA
  refine L1 (stv hA (by decide) (run_assign (hA.ev rfl)) ?_)
  clear hA; intro a hA
  refine LQ ?_
  refine TN ?_
  refine wp_seq ?_
  refine wp_region_lit ?_
  refine L1 (stv hA (by decide) (run_field' Try.underlying41 rfl rfl Try.sizeOf33 (by decide) (hA.ev rfl)) ?_)
  clear hA; intro a hA
  refine L1 (stv hA (by decide) (run_ld (hA.ev rfl) (run_loadP Try.isAgg33 Try.sizeOf33 (At.seg (segs := [pHash.enc p_1.Salt, [(.slice A1_1 p_1.Heard.length c1_1)], [(.slice A1_2 p_1.Tried.length c1_2)]]) (hM.box (.s .z)) 0 rfl (by simp [Pl.len]; try rfl)))) ?_)
  clear hA; intro a hA
  refine L1 (stv hA (by decide) (run_field' Try.underlying70 rfl rfl Try.sizeOf46 (by decide) (hA.ev rfl)) ?_)
  clear hA; intro a hA
  refine L1 (stv hA (by decide) (run_ld (hA.ev rfl) (run_loadP Try.isAgg46 Try.sizeOf46 (Place.at_Addr_ (hM.box .z)))) ?_)
  clear hA; intro a hA
  refine L1 (stv hA (by decide) (run_field' Try.underlying70 rfl rfl Try.sizeOf43 (by decide) (hA.ev rfl)) ?_)
  clear hA; intro a hA
  refine L1 (stv hA (by decide) (run_ld (hA.ev rfl) (run_loadS Try.isAgg43 (Place.at_Source (hM.box .z)))) ?_)
  clear hA; intro a hA
  obtain ⟨r10, H11, H⟩ := Option.bind_eq_some_iff.1 H
  refine L1 (st_call Try.call56 hA [(.agg (pHash.enc p_1.Salt).toArray), (.agg (pNAddr.enc p_0.Addr_).toArray), (.int .u32 p_0.Source)] rfl (by decide) (addrbook_HeardBucket.calls _ _ _ _ _ _ _ (hM.front (Ms := [])) H11) ?_)
  clear hA; rintro _ w12 ⟨rfl, hMc⟩ a hA
  have hE := hMc.below; have hM := hM.call (Ms := []) hMc
  clear hMc; simp only [List.cons_append, List.nil_append] at hM
  refine L1 (stv hA (by decide) (run_assign (hA.ev rfl)) ?_)
  clear hA; intro a hA
  refine LQ ?_
  refine TN ?_
  refine wp_ret ?_
  obtain rfl := Option.some.inj H
  exact ret_post1 (fn := Try.f55) hA rfl rfl ⟨_, rfl, rfl, (hM.sel [1] rfl (by decide))⟩

def addrbook_Sound_c2.f (k : Nat) (p_0 : Place) (p_1 : Book) : Option (Int × Book) := ((addrbook_TriedBucket.f k p_1.Salt p_0.Addr_).bind fun r10 => (some (r10, (Book.mk p_1.Salt p_1.Heard p_1.Tried))))
set_option maxHeartbeats 2000000 in
set_option maxRecDepth 100000 in
theorem addrbook_Sound_c2.calls (k : Nat) (p_0 : Place) (p_1 : Book) (F : List (Option Nat)) (g1 : Nat) (v1_1 : Value) (v1_2 : Value) (r : (Int × Book)) (w0 : World) (h1_1 : RoV F pPlace w0 v1_1 p_1.Heard) (h1_2 : RoV F pPlace w0 v1_2 p_1.Tried) (hM : Mem F w0 w0 [.box g1 41 (List.flatten [pHash.enc p_1.Salt, [v1_1], [v1_2]])]) (H : addrbook_Sound_c2.f k p_0 p_1 = some r) :
    Calls Try.prog 57 #[(.agg (pPlace.enc p_0).toArray), (.pointer (some (⟨g1, 0, none⟩)))] w0 fun e w' => ∃ v, e = .returned v ∧ v = (.int .i64 r.1) ∧ Mem F w0 w' [.box g1 41 (List.flatten [pHash.enc r.2.Salt, [v1_1], [v1_2]])] := by
  unfold addrbook_Sound_c2.f at H
  obtain ⟨A1_1, c1_1, rfl, hr1_1, hc1_1⟩ := h1_1
  obtain ⟨A1_2, c1_2, rfl, hr1_2, hc1_2⟩ := h1_2
  refine enterL (n := 9) [(.agg (pPlace.enc p_0).toArray), (.pointer (some (⟨g1, 0, none⟩)))] Try.func57 rfl rfl rfl ?_
  intro a hA
  refine wp_seq ?_
  refine wp_region_lit ?_
  refine L1 (e_box (cs := (pPlace.enc p_0)) hM hA rfl rfl (by decide) ?_)
  clear hM hA; intro w8 g7 hM hE  a hA
  refine L1 (stv hA (by decide) (run_assign (hA.ev rfl)) ?_)
  clear hA; intro a hA
  refine LQ ?_
  refine TN ?_
  refine wp_seq ?_
  refine wp_region_lit ?_
  refine L1 (stv hA (by decide) (run_field' Try.underlying41 rfl rfl Try.sizeOf33 (by decide) (hA.ev rfl)) ?_)
  clear hA; intro a hA
  refine L1 (stv hA (by decide) (run_ld (hA.ev rfl) (run_loadP Try.isAgg33 Try.sizeOf33 (At.seg (segs := [pHash.enc p_1.Salt, [(.slice A1_1 p_1.Heard.length c1_1)], [(.slice A1_2 p_1.Tried.length c1_2)]]) (hM.box (.s .z)) 0 rfl (by simp [Pl.len]; try rfl)))) ?_)
  clear hA; intro a hA
  refine L1 (stv hA (by decide) (run_field' Try.underlying70 rfl rfl Try.sizeOf46 (by decide) (hA.ev rfl)) ?_)
  clear hA; intro a hA
  refine L1 (stv hA (by decide) (run_ld (hA.ev rfl) (run_loadP Try.isAgg46 Try.sizeOf46 (Place.at_Addr_ (hM.box .z)))) ?_)
  clear hA; intro a hA
  obtain ⟨r10, H11, H⟩ := Option.bind_eq_some_iff.1 H
  refine L1 (st_call Try.call58 hA [(.agg (pHash.enc p_1.Salt).toArray), (.agg (pNAddr.enc p_0.Addr_).toArray)] rfl (by decide) (addrbook_TriedBucket.calls _ _ _ _ _ _ (hM.front (Ms := [])) H11) ?_)
  clear hA; rintro _ w12 ⟨rfl, hMc⟩ a hA
  have hE := hMc.below; have hM := hM.call (Ms := []) hMc
  clear hMc; simp only [List.cons_append, List.nil_append] at hM
  refine L1 (stv hA (by decide) (run_assign (hA.ev rfl)) ?_)
  clear hA; intro a hA
  refine LQ ?_
  refine TN ?_
  refine wp_ret ?_
  obtain rfl := Option.some.inj H
  exact ret_post1 (fn := Try.f57) hA rfl rfl ⟨_, rfl, rfl, (hM.sel [1] rfl (by decide))⟩

end Go.Proofs.Ytoogcdmdbogkeaa.G
