import Derived.Test.YtacnfcolkllagaaDoorRows
/-! What the second form's bound gives. -/
namespace Go.Proofs.YtacnfcolkllagaaDoor
section
variable {H : Type}
theorem bulk_one (d : DataW H) : 1 ≤ Rows.uptoBulk d := by
  cases d with
  | lit l => cases l <;> simp [Rows.uptoBulk]
  | _ => simp [Rows.uptoBulk]
theorem bulk_part {d : DataW H} {l : List (DataW H)} (h : d ∈ l) : Rows.uptoBulk d ≤ Rows.uptoBulkAll l := by
  induction l with
  | nil => cases h
  | cons a r ih =>
    simp only [Rows.uptoBulkAll]
    rcases List.mem_cons.1 h with rfl | h
    · exact Nat.le_add_right _ _
    · exact Nat.le_trans (ih h) (Nat.le_add_left _ _)
theorem bulk_length : ∀ l : List (DataW H), l.length ≤ Rows.uptoBulkAll l
  | [] => Nat.zero_le _
  | a :: r => by
    have := bulk_length r
    have := bulk_one a
    simp only [List.length_cons, Rows.uptoBulkAll]
    omega
theorem bulk_slice (es sp : List (DataW H)) : es.length + sp.length + 1 ≤ Rows.uptoBulk (.slice es sp) := by
  have := bulk_length es
  have := bulk_length sp
  simp only [Rows.uptoBulk]
  omega
theorem bulk_elems (es sp : List (DataW H)) : Rows.uptoBulkAll es + Rows.uptoBulkAll sp + 1 ≤ Rows.uptoBulk (.slice es sp) := by
  simp only [Rows.uptoBulk]
  omega
theorem bulk_parts (ds : List (DataW H)) : Rows.uptoBulkAll ds + 1 ≤ Rows.uptoBulk (.agg ds) := by
  simp only [Rows.uptoBulk]
  omega
theorem bulk_string (bs : List UInt8) : Rows.uptoBulk (DataW.lit (H := H) (.string bs)) = bs.length + 1 := by simp [Rows.uptoBulk]
theorem bulk_bound {l : List (DataW H)} (hk : Rows.uptoSmall H l = true) : Rows.uptoBulkAll l ≤ 1048576 := by simpa [Rows.uptoSmall] using hk
end
end Go.Proofs.YtacnfcolkllagaaDoor
