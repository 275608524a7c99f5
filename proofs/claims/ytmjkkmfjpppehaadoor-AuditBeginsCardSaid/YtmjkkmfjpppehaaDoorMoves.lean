/- Moves as arguments. -/
import Derived.Test.YtmjkkmfjpppehaaDoorDoorA
import Derived.Test.YtmjkkmfjpppehaaDoorOpen
namespace Go.Proofs.YtmjkkmfjpppehaaDoor
open Go Go.RowKit Go.Sup Go.ChangeShapes Go.WideShapes
theorem int_lit {k : IntKind} {n : Int} (h : (Lit.int k n).wf = true) : k.min ≤ n ∧ n ≤ k.max := by simpa [Lit.wf] using h
theorem open_moves {H : Type} {enc : TypeId × Value → H} {w : World} {base : Nat} {held : Bool} {a : Option Addr} {len cap : Nat} {d : DataW H} {p : List MemPlace} (h : DataW.Trod enc Tryd.prog w base (fun _ => true) held 22 (.slice a len cap) d p) :
    ∃ ms : List MoveD, SlC w w.heap.size 3 (ms.map MoveD.row) (.slice a len cap) ∧ ∀ m ∈ ms, m.Ok := by
  obtain ⟨rows, hs, hr⟩ := open_rows Tryd.underlying22 (size := 3) (by kernel_rfl) (by omega) h
  obtain ⟨ms, rfl, hok⟩ := rows_map (row := MoveD.row) (Ok := MoveD.Ok) rows fun r hrr => by
    obtain ⟨hl, n, x, ht⟩ := hr r hrr
    have hf := row_fields Tryd.underlying37 (by kernel_rfl) hl ht
    obtain ⟨u0, y0, n0, e0, t0⟩ := hf 0 _ rfl
    obtain ⟨u1, y1, n1, e1, t1⟩ := hf 1 _ rfl
    obtain ⟨u2, y2, n2, e2, t2⟩ := hf 2 _ rfl
    obtain ⟨i0, c0, _, w0⟩ := DataW.trod_int Tryd.underlying35 t0
    obtain ⟨i2, c2, _, w2⟩ := DataW.trod_int Tryd.underlying5 t2
    obtain ⟨b1, c1, _⟩ := DataW.trod_bool Tryd.underlying4 t1
    simp at c0 c1 c2
    subst c0; subst c1; subst c2
    have g0 := int_lit w0
    have g2 := int_lit w2
    have m0 : IntKind.min .i16 = -32768 := by decide
    have m1 : IntKind.max .i16 = 32767 := by decide
    have m2 : IntKind.min .u8 = 0 := by decide
    have m3 : IntKind.max .u8 = 255 := by decide
    rw [m0, m1] at g0
    rw [m2, m3] at g2
    obtain ⟨k, rfl⟩ := Int.eq_ofNat_of_zero_le g2.1
    refine ⟨⟨i0, b1, k⟩, ?_, ⟨g0.1, g0.2, by show k < 256; omega⟩⟩
    have hl3 : r.length = 3 := hl
    match r, hl3, e0, e1, e2 with
    | [x0, x1, x2], _, e0, e1, e2 =>
      simp at e0 e1 e2
      subst e0; subst e1; subst e2
      rfl
  exact ⟨ms, hs, hok⟩
end Go.Proofs.YtmjkkmfjpppehaaDoor
