/- FieldNumbers: what the row's listed variables give; a number as an argument. -/
import Derived.Test.YtnohmhemniopoaaGreatDoorNumbers
import Derived.Test.YtnohmhemniopoaaGreatDoorOpen
import Derived.Stop.LaidErr
namespace Go.Proofs.YtnohmhemniopoaaGreatDoor
open Go Go.RowKit Go.Sup Go.Lib Go.ChangeShapes Go.WideShapes
set_option maxRecDepth 100000
theorem open_i64 {H : Type} {enc : TypeId × Value → H} {w : World} {base : Nat} {held : Bool} {n : Int} {d : DataW H} {p : List MemPlace} (h : DataW.Trod enc Tryz.prog w base (fun _ => true) held 2 (.int .i64 n) d p) :
    -9223372036854775808 ≤ n ∧ n ≤ 9223372036854775807 := by
  obtain ⟨m, hm⟩ := h
  obtain ⟨k, hc, _, hw⟩ := DataW.trod_int Tryz.underlying2 hm
  obtain rfl : n = k := by simpa [Value.cells] using hc
  have : IntKind.i64.min ≤ n ∧ n ≤ IntKind.i64.max := by simpa [Lit.wf] using hw
  exact this
theorem errRow (u : TypeId) (h : Tryz.prog.typeName? 3 u = some "*errors.errorString") : u = 111 :=
  typeName_ptr_named (nm := "errors.errorString") (by rw [show "*" ++ "errors.errorString" = "*errors.errorString" by decide]; kernel_rfl) (by kernel_rfl) (by decide) u (by rw [show "*" ++ "errors.errorString" = "*errors.errorString" by decide]; exact h)
theorem numW_of_laid {W : World} (hL : laidMet Tryz.prog Rows.fieldNumbersRow.laid W) : NumW W := by
  have h2 : laidMet Tryz.prog [("internal/strconv.uint64pow10", Rows.laid_internal_strconv_uint64pow10), ("strconv.ErrRange", Rows.laid_strconv_ErrRange), ("strconv.ErrSyntax", Rows.laid_strconv_ErrSyntax)] W := laidMet.tail (laidMet.tail hL)
  have h3 : laidMet Tryz.prog [("strconv.ErrRange", Rows.laid_strconv_ErrRange), ("strconv.ErrSyntax", Rows.laid_strconv_ErrSyntax)] W := h2.tail
  have h4 : laidMet Tryz.prog [("strconv.ErrSyntax", Rows.laid_strconv_ErrSyntax)] W := h3.tail
  have e : (Rows.laid_internal_strconv_uint64pow10 : DataW Unit) = Lib.tabData .u64 Lib.pow10Tab := by kernel_rfl
  rw [e] at h2
  obtain ⟨a3, s3, v3, -⟩ := laid_sentinel h3 (g := 1) (by kernel_rfl) (by kernel_rfl) Tryz.underlying36 errRow Tryz.underlying111 Tryz.underlying113 rfl rfl Tryz.underlying9 (by kernel_rfl) (by kernel_rfl)
  obtain ⟨a4, s4, v4, -⟩ := laid_sentinel h4 (g := 0) (by kernel_rfl) (by kernel_rfl) Tryz.underlying36 errRow Tryz.underlying111 Tryz.underlying113 rfl rfl Tryz.underlying9 (by kernel_rfl) (by kernel_rfl)
  exact ⟨Lib.tabIs_of_head (g := 2) (t := 103) (e := 62) (n := 20) (by kernel_rfl) (by kernel_rfl) (by kernel_rfl) (by kernel_rfl) (by kernel_rfl) (by kernel_rfl) h2, ⟨_, _, v4⟩, ⟨_, _, v3⟩⟩
end Go.Proofs.YtnohmhemniopoaaGreatDoor
