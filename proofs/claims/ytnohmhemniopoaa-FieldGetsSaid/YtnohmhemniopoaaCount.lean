/- strings.Count at one byte. -/
import Derived.Test.YtnohmhemniopoaaRep33
import Derived.Lib.Bytealg
namespace Go.Proofs.Ytnohmhemniopoaa
open Go Go.RowKit Go.Sup
set_option maxRecDepth 100000
set_option maxHeartbeats 400000 in
theorem count_one (s : ByteArray) (c : UInt8) (w : World) : Calls Try.prog 115 #[.string s, .string ⟨#[c]⟩] w fun e w' => e = .returned (.int .i64 (Lib.countByte s.data.toList c)) ∧ w' = w := by
  go_enter Try.func115, Try.ntmps115
  go_wp2
  rw [run_callFunc_extern Try.func117 (by kernel_rfl) (by kernel_rfl) (by kernel_rfl) (e := Extern.BytealgCount.count) (by kernel_rfl), Lib.run_countString]
  simp only [Result.andThen]
  rw [Oper.upon_value]
  go_wp2
  go_ret
  exact ⟨rfl, rfl⟩
end Go.Proofs.Ytnohmhemniopoaa
