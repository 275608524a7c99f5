/- 09: small laws for PostSames: xor, rows of papers that are owned. -/
import Derived.Test.YtlffpelkmdcckaaGreatDoorShort9
import Derived.Test.YtlffpelkmdcckaaGreatDoorAwake9
namespace Go.Proofs.YtlffpelkmdcckaaGreatDoor
open Go Go.RowKit Go.Sup
set_option maxRecDepth 100000
theorem ofInt_wrap (r : BitVec 64) : BitVec.ofInt 64 (IntKind.i64.wrap (r.toNat : Int)) = r := by
  apply BitVec.eq_of_toNat_eq
  rw [BitVec.toNat_ofInt, IntKind.wrap_i64]
  have := r.isLt
  omega
theorem xor1_ne (a : Int) : bits .xor .i64 a 1 ≠ a := by
  intro h
  have h2 : BitVec.ofInt 64 (bits .xor .i64 a 1) = BitVec.ofInt 64 a := by rw [h]
  have h3 : bits .xor .i64 a 1 = IntKind.i64.wrap ((BitVec.ofInt 64 a ^^^ BitVec.ofInt 64 1).toNat : Int) := rfl
  rw [h3, ofInt_wrap] at h2
  have h4 := congrArg (BitVec.ofInt 64 a ^^^ ·) h2
  simp only [← BitVec.xor_assoc, BitVec.xor_self, BitVec.zero_xor] at h4
  exact absurd h4 (by decide)
theorem elDocs : ElTy Tryz.prog 31 38 4 64 := ElTy.mk' Tryz.underlying31 (z := .agg #[.int .i64 0, .string ByteArray.empty, .string ByteArray.empty, .slice none 0 0]) (by kernel_rfl) rfl (by omega)
theorem drow_one {ds : List DocD} {fvs : List Value} {w : World} {B : Nat} (h : All2 (fun d fv => SlC w B 2 (d.fields.map frow) fv) ds fvs) : ∀ r ∈ List.zipWith drow ds fvs, ∀ u ∈ r, u.oneCell' = true := by
  induction ds generalizing fvs with
  | nil => intro r hr; simp at hr
  | cons d ds ih =>
    cases fvs with
    | nil => intro r hr; simp at hr
    | cons f fvs =>
      intro r hr u hu
      rw [List.zipWith_cons_cons, List.mem_cons] at hr
      rcases hr with rfl | hr
      · obtain ⟨A, c, hf, -⟩ := h.1
        unfold drow at hu
        simp only [List.mem_cons, List.not_mem_nil, or_false] at hu
        rcases hu with rfl | rfl | rfl | rfl
        · rfl
        · rfl
        · rfl
        · rw [hf]; rfl
      · exact ih h.2 r hr u hu
def zeroDoc : DocD := ⟨0, ⟨#[]⟩, ⟨#[]⟩, []⟩
theorem zip_snoc {ds : List DocD} {fvs : List Value} (h : ds.length = fvs.length) (d : DocD) (f : Value) : List.zipWith drow (ds ++ [d]) (fvs ++ [f]) = List.zipWith drow ds fvs ++ [drow d f] := by
  rw [List.zipWith_append h]; rfl
theorem rem7 (n : Nat) (hn : n < 256) (W : World) : (binOp .rem 5 (.int .u8 (n : Int)) (.int .u8 7)).run Tryz.prog W = .ok (.int .u8 ((n % 7 : Nat) : Int)) W := by
  have u5 := Tryz.underlying5
  have h1 : ((n : Int)).tmod 7 = ((n % 7 : Nat) : Int) := by rw [Int.tmod_eq_emod_of_nonneg (by omega)]; omega
  go_simp
theorem rem7b (n r : Nat) (hn : n < 256) (hr : n % 7 = r) (W : World) : (binOp .rem 5 (.int .u8 (n : Int)) (.int .u8 7)).run Tryz.prog W = .ok (.int .u8 (r : Int)) W := by rw [← hr]; exact rem7 n hn W
theorem xorRun (a y : Int) (h : y = bits .xor .i64 a 1) (W : World) : (binOp .xor 3 (.int .i64 a) (.int .i64 1)).run Tryz.prog W = .ok (.int .i64 y) W := by
  have u3 := Tryz.underlying3
  rw [h]
  go_simp
theorem xorRun64 (a y : Int) (h : y = bits .xor .i64 a 1) (W : World) : (binOp .xor 2 (.int .i64 a) (.int .i64 1)).run Tryz.prog W = .ok (.int .i64 y) W := by
  have u3 := Tryz.underlying2
  rw [h]
  go_simp
end Go.Proofs.YtlffpelkmdcckaaGreatDoor
