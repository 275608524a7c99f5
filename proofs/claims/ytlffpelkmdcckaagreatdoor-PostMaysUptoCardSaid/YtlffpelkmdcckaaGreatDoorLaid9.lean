/- 09: what the rows' listed variables give. -/
import Derived.Test.YtlffpelkmdcckaaGreatDoorAwake9
import Derived.Test.YtlffpelkmdcckaaGreatDoorOpen
import Derived.Stop.LaidErr
namespace Go.Proofs.YtlffpelkmdcckaaGreatDoor
open Go Go.RowKit Go.Sup Go.Lib Go.ChangeShapes Go.WideShapes
set_option maxRecDepth 100000
theorem pow_of_laid {W : World} {rest : List (String × DataW Unit)} (h : laidMet Tryz.prog (("internal/strconv.uint64pow10", Rows.laid_internal_strconv_uint64pow10) :: rest) W) : Lib.TabIs Tryz.prog W "internal/strconv.uint64pow10" .u64 Lib.pow10Tab := by
  have e : (Rows.laid_internal_strconv_uint64pow10 : DataW Unit) = Lib.tabData .u64 Lib.pow10Tab := by kernel_rfl
  rw [e] at h
  exact Lib.tabIs_of_head (g := 3) (t := 200) (e := 178) (n := 20) (by kernel_rfl) (by kernel_rfl) (by kernel_rfl) (by kernel_rfl) (by kernel_rfl) (by kernel_rfl) h
theorem spc_of_laid {W : World} {rest : List (String × DataW Unit)} (h : laidMet Tryz.prog (("strings.asciiSpace", Rows.laid_strings_asciiSpace) :: rest) W) : TabW W := by
  have e : (Rows.laid_strings_asciiSpace : DataW Unit) = Lib.tabData .u8 Lib.asciiSpaceTab := by kernel_rfl
  rw [e] at h
  exact Lib.tabIs_of_head (g := 0) (t := 123) (e := 5) (n := 256) (by kernel_rfl) (by kernel_rfl) (by kernel_rfl) (by kernel_rfl) (by kernel_rfl) (by kernel_rfl) h
theorem w9_of_laid {W : World} (hL : laidMet Tryz.prog Rows.postNamesRow.laid W) : W9 W :=
  ⟨spc_of_laid (laidMet.tail (laidMet.tail (laidMet.tail (laidMet.tail hL)))), pow_of_laid (laidMet.tail (laidMet.tail hL))⟩
theorem w9_of_laidS {W : World} (hL : laidMet Tryz.prog Rows.postSamesUptoRow.laid W) : W9 W :=
  ⟨spc_of_laid (laidMet.tail (laidMet.tail (laidMet.tail (laidMet.tail hL)))), pow_of_laid (laidMet.tail (laidMet.tail hL))⟩
end Go.Proofs.YtlffpelkmdcckaaGreatDoor
