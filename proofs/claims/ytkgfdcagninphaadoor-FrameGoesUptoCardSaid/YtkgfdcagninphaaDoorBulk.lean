/- What the bound of the second form gives: how many values and letters there are. -/
import Derived.Test.YtkgfdcagninphaaDoorRows
import Derived.Test.YtkgfdcagninphaaDoorLaw
namespace Go.Proofs.YtkgfdcagninphaaDoor
theorem bulk_one {H : Type} (d : DataW H) : 1 ≤ Rows.uptoBulk d := by
  cases d with
  | lit l => cases l <;> simp [Rows.uptoBulk]
  | nil => simp [Rows.uptoBulk]
  | ptr d => simp [Rows.uptoBulk]
  | slice elems spare => simp [Rows.uptoBulk]
  | agg parts => simp [Rows.uptoBulk]
  | iface t d => simp [Rows.uptoBulk]
  | map entries => simp [Rows.uptoBulk]
  | held h => simp [Rows.uptoBulk]
theorem bulk_part {H : Type} {d : DataW H} {l : List (DataW H)} (h : d ∈ l) : Rows.uptoBulk d ≤ Rows.uptoBulkAll l := by
  induction l with
  | nil => cases h
  | cons x r ih =>
    simp only [Rows.uptoBulkAll]
    rcases List.mem_cons.1 h with rfl | e
    · omega
    · have := ih e; omega
theorem bulk_len {H : Type} (l : List (DataW H)) : l.length ≤ Rows.uptoBulkAll l := by
  induction l with
  | nil => simp [Rows.uptoBulkAll]
  | cons x r ih => have := bulk_one x; simp only [Rows.uptoBulkAll, List.length_cons]; omega
theorem bulk_dlen {H : Type} (d : DataW H) : dlen d + 1 ≤ Rows.uptoBulk d := by
  cases d with
  | slice elems spare =>
    have := bulk_len elems
    simp only [Rows.uptoBulk, dlen]
    omega
  | lit l => simpa [dlen] using bulk_one (.lit l : DataW H)
  | nil => simpa [dlen] using bulk_one (.nil : DataW H)
  | ptr d => simpa [dlen] using bulk_one (.ptr d : DataW H)
  | agg parts => simpa [dlen] using bulk_one (.agg parts : DataW H)
  | iface t d => simpa [dlen] using bulk_one (.iface t d : DataW H)
  | map entries => simpa [dlen] using bulk_one (.map entries : DataW H)
  | held h => simpa [dlen] using bulk_one (.held h : DataW H)
theorem bulk_bound {H : Type} {l : List (DataW H)} (hk : Rows.uptoSmall H l = true) : Rows.uptoBulkAll l ≤ 1048576 := of_decide_eq_true hk
theorem bulk_arg {H : Type} {l : List (DataW H)} (hk : Rows.uptoSmall H l = true) {d : DataW H} (h : d ∈ l) : dlen d ≤ 1048576 := by
  have h1 := bulk_bound hk
  have h2 := bulk_part h
  have h3 := bulk_dlen d
  omega
end Go.Proofs.YtkgfdcagninphaaDoor
