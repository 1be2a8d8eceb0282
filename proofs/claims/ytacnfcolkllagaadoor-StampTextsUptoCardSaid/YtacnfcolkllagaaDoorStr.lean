import Derived.Test.YtacnfcolkllagaaDoorKit
import Derived.Laws.BytesArg
import Derived.Lib.Bytes
import Derived.Laws.IdiomStrings
import Derived.Lib.ConvBytes
import Derived.Lib.BufferRead
/-! Strings and byte slices by lists of numbers. -/
namespace Go
open Go.RowKit Go.ChangeShapes Go.WideShapes Go.ChangeAt Go.Proofs
set_option linter.unusedVariables false
set_option linter.unusedSimpArgs false
theorem byte_of_lit {x : Int} (h : (Lit.int .u8 x).wf = true) : 0 ≤ x ∧ x < 256 := by
  have h1 : IntKind.u8.min = 0 := rfl
  have h2 : IntKind.u8.max = 255 := rfl
  simp only [Lit.wf, Bool.and_eq_true, decide_eq_true_eq] at h
  omega
def u8s (l : List Nat) : List Value := l.map fun (n : Nat) => Value.int .u8 (n : Int)
theorem u8s_append (l m : List Nat) : u8s (l ++ m) = u8s l ++ u8s m := by simp [u8s]
theorem u8s_length (l : List Nat) : (u8s l).length = l.length := by simp [u8s]
theorem u8s_get (l : List Nat) (i : Nat) : (u8s l)[i]? = l[i]?.map fun (n : Nat) => Value.int .u8 (n : Int) := by simp [u8s]
def strOf (l : List Nat) : ByteArray := strOfNums (l.map fun (n : Nat) => (n : Int))
theorem strOf_toList (l : List Nat) : (strOf l).toList = l.map UInt8.ofNat := by
  unfold strOf
  rw [Lib.strOfNums_toList]
  simp [Lib.bytesOf, Function.comp_def]
theorem strOf_size (l : List Nat) : (strOf l).size = l.length := by simp [strOf, strOfNums_size]
theorem strOf_inj {l m : List Nat} (hl : ∀ x ∈ l, x < 256) (hm : ∀ x ∈ m, x < 256) (h : (strOf l).toList = (strOf m).toList) : l = m := by
  rw [strOf_toList, strOf_toList] at h
  have : ∀ k : List Nat, (∀ x ∈ k, x < 256) → (k.map UInt8.ofNat).map UInt8.toNat = k := fun k hk => by
    rw [List.map_map]
    conv => rhs; rw [← List.map_id k]
    exact List.map_congr_left fun x hx => by simp [Nat.mod_eq_of_lt (hk x hx)]
  have h2 := congrArg (List.map UInt8.toNat) h
  rwa [this l hl, this m hm] at h2
theorem conv_bytes {P : Program} {w : World} {B n : Nat} {src dst e : TypeId} {A : Option Addr} {l : List Nat} (h : Reads w B 1 A n (u8s l)) (hs : P.underlying src = some (.slice e)) (he : P.underlying e = some (.int .u8)) (hd : P.underlying dst = some .string) (c : Nat) :
    (convert src dst (.slice A n c)).run P w = .ok (.string (strOf l)) w := by
  have hl : l.length = n := by have := h.1; rw [u8s_length] at this; omega
  by_cases hn : n = 0
  · subst hn
    obtain rfl : l = [] := List.length_eq_zero_iff.1 hl
    have e0 : strOf [] = ByteArray.empty := rfl
    rw [e0]
    cases A with
    | none => exact run_convert_bytes_nil w src e hs he 0 c dst hd
    | some a =>
      rw [run_convert_bytes_string w src dst e (some a) 0 c hs he hd]
      simp [Conv.bytesToString, loadCells]
      rfl
  · obtain ⟨b, o, rfl, _, hc⟩ := h.plain (by omega) (by omega)
    exact run_convert_bytes_arg w src e hs he b o n c (l.map fun (n : Nat) => (n : Int)) (by simp [hl]) (fun i hi => by
      have hi' : i < l.length := by omega
      rw [hc i _ (by rw [u8s_get, List.getElem?_eq_getElem hi']; rfl)]
      simp [List.getD, hi']) dst hd
theorem conv_of {P : Program} {w : World} {B n : Nat} {src dst e : TypeId} {A : Option Addr} {l : List Nat} (_ : Reads w B 1 A n (u8s l)) (hs : P.underlying src = some (.slice e)) (he : P.underlying e = some (.int .u8)) (hd : P.underlying dst = some .string) :
    ∀ (c : Nat) W, Reads W B 1 A n (u8s l) → (convert src dst (.slice A n c)).run P W = .ok (.string (strOf l)) W := fun c W h => conv_bytes h hs he hd c
theorem bytes_open {H : Type} {enc : TypeId × Value → H} {P : Program} {t e : TypeId} {base : Nat} {d : DataW H} {p : List MemPlace} (ht : P.underlying t = some (.slice e)) (he : P.underlying e = some (.int .u8)) (hc : P.cellsOf e = 1) {W : World} {v : Value}
    (hv : Value.okWide P W .any base t v) (h : DataW.Trod enc P W 0 (fun _ => true) true t v d p) (hp : ∀ x ∈ p, x.block < W.heap.size) :
    ∃ A n c l, v = .slice A n c ∧ n ≤ c ∧ Reads W W.heap.size 1 A n (u8s l) ∧ ∀ x ∈ l, x < 256 := by
  obtain ⟨A, n, c, rfl⟩ := okWide_slice ht hv
  obtain ⟨fuel, hf⟩ := h
  rcases open_ints ht he hc hf with ⟨hcs, hx⟩ | ⟨a, len', cap', zs, hcs, _, hl, hm, hz, hx, hcell, hwz⟩
  · simp [Value.cells] at hcs
    obtain ⟨rfl, rfl, rfl⟩ := hcs
    exact ⟨none, 0, 0, [], rfl, by omega, Reads.none_, fun _ h => by cases h⟩
  · simp [Value.cells] at hcs
    obtain ⟨rfl, rfl, rfl⟩ := hcs
    simp only [if_true] at hz
    have hb : ∀ x ∈ zs, 0 ≤ x ∧ x < 256 := fun x hx => byte_of_lit (hwz x hx)
    refine ⟨some a, n, c, (zs.take n).map Int.toNat, rfl, by omega, ⟨by simp [u8s]; omega, fun hn => ⟨a, rfl, ?_, fun j u hu => ?_⟩⟩, fun x hx => ?_⟩
    · have := World.block_lt_of_cell? _ _ (hcell 0 (by omega))
      rwa [block_of_add] at this
    · rw [u8s_get] at hu
      have hj : j < n := by
        rcases Nat.lt_or_ge j n with h | h
        · exact h
        · rw [List.getElem?_eq_none (by simp; omega)] at hu; cases hu
      have hjz : j < zs.length := by omega
      rw [hcell j hjz]
      simp [List.getElem?_take, hj, hjz] at hu
      rw [← hu]
      have := hb zs[j] (List.getElem_mem hjz)
      simp [List.getD, hjz]
      omega
    · obtain ⟨y, hy, rfl⟩ := List.mem_map.1 hx
      have := hb y (List.mem_of_mem_take hy)
      omega
/-- What is behind a string conversion reads as its bytes. -/
def numsOf (s : ByteArray) : List Nat := s.data.toList.map UInt8.toNat
theorem numsOf_strOf {l : List Nat} (hl : ∀ x ∈ l, x < 256) : numsOf (strOf l) = l := by
  unfold numsOf strOf strOfNums
  simp only [List.map_map]
  conv => rhs; rw [← List.map_id l]
  exact List.map_congr_left fun x hx => by
    have := hl x hx
    show (UInt8.ofNat (Int.toNat (x : Int))).toNat = x
    rw [Int.toNat_natCast, UInt8.toNat_ofNat']
    omega
theorem numsOf_length (s : ByteArray) : (numsOf s).length = s.size := by
  show (s.data.toList.map UInt8.toNat).length = s.data.size
  rw [List.length_map, Array.length_toList]
theorem numsOf_lt (s : ByteArray) : ∀ x ∈ numsOf s, x < 256 := fun x hx => by
  obtain ⟨y, _, rfl⟩ := List.mem_map.1 hx
  exact y.toNat_lt
theorem strOf_numsOf (s : ByteArray) : strOf (numsOf s) = s := by
  unfold strOf numsOf strOfNums
  apply ByteArray.ext
  apply Array.toList_inj.1
  simp only [List.map_map]
  conv => rhs; rw [← List.map_id s.data.toList]
  exact List.map_congr_left fun x _ => by simp
/-- '[]byte(s)'. -/
theorem bytesWorld_reads (w : World) (e : TypeId) (s : ByteArray) : Reads (Lib.bytesWorld w e s) (w.heap.size + 1) 1 (some ⟨w.heap.size, 0, none⟩) s.size (u8s (numsOf s)) := by
  refine ⟨by simp [u8s_length, numsOf_length], fun _ => ⟨_, rfl, by simp, fun j u hu => ?_⟩⟩
  have hj : j < s.size := by
    rcases Nat.lt_or_ge j s.size with h | h
    · exact h
    · rw [List.getElem?_eq_none (by simp [u8s_length, numsOf_length]; omega)] at hu; cases hu
  rw [add_plain, Nat.zero_add, Lib.bytesWorld_cell w e s j hj]
  rw [u8s_get] at hu
  have hj' : j < s.data.toList.length := by rw [Array.length_toList]; exact hj
  simp only [numsOf, List.getElem?_map, List.getElem?_eq_getElem hj', Option.map_some] at hu
  rw [← hu, List.getD_eq_getElem?_getD, List.getElem?_eq_getElem hj']
  rfl
theorem bytesWorld_below (w : World) (e : TypeId) (s : ByteArray) : Below w.heap.size w (Lib.bytesWorld w e s) :=
  ⟨rfl, rfl, rfl, by rw [Lib.bytesWorld_size]; omega, fun k hk => Lib.bytesWorld_at_old w e s k hk⟩
noncomputable def bytesExt (w : World) (e : TypeId) (s : ByteArray) : Ext := Classical.choose (World.ext_of_below (bytesWorld_below w e s))
theorem bytesExt_eq (w : World) (e : TypeId) (s : ByteArray) : Lib.bytesWorld w e s = w.ext (bytesExt w e s) := Classical.choose_spec (World.ext_of_below (bytesWorld_below w e s))
@[simp] theorem bytesExt_size (w : World) (e : TypeId) (s : ByteArray) : (bytesExt w e s).blocks.size = 1 := by
  have h := Lib.bytesWorld_size w e s
  rw [bytesExt_eq, World.size_ext] at h
  omega
theorem bytesExt_reads (w : World) (e : TypeId) (s : ByteArray) : Reads (w.ext (bytesExt w e s)) (w.ext (bytesExt w e s)).heap.size 1 (some ⟨w.heap.size, 0, none⟩) s.size (u8s (numsOf s)) := by
  have h := bytesWorld_reads w e s
  rw [bytesExt_eq] at h
  exact h.more (by simp [World.size_ext])
theorem conv_string {P : Program} {src dst e : TypeId} {u : TypeDesc} (hs : P.underlying src = some u) (hd : P.underlying dst = some (.slice e)) (he : P.underlying e = some (.int .u8)) (s : ByteArray) (w : World) :
    (convert src dst (.string s)).run P w = .ok (.slice (some ⟨w.heap.size, 0, none⟩) s.size (grownCap w s.size 0 e)) (w.ext (bytesExt w e s)) := by
  rw [Lib.run_convert_string_bytes w src dst e s hs hd he, bytesExt_eq]
end Go
