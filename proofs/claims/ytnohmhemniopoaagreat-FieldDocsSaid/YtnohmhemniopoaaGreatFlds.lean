/- Fields and papers as arguments. -/
import Derived.Test.YtnohmhemniopoaaGreatSame
import Derived.Test.YtnohmhemniopoaaGreatOpen
import Derived.Lib.SmallJoins
namespace Go.Proofs.YtnohmhemniopoaaGreat
open Go Go.RowKit Go.Sup Go.ChangeShapes Go.WideShapes
set_option maxRecDepth 100000
theorem int_lit {k : IntKind} {n : Int} (h : (Lit.int k n).wf = true) : k.min ≤ n ∧ n ≤ k.max := by simpa [Lit.wf] using h
theorem open_flds {H : Type} {enc : TypeId × Value → H} {w : World} {base : Nat} {held : Bool} {a : Option Addr} {len cap : Nat} {d : DataW H} {p : List MemPlace} (h : DataW.Trod enc Tryz.prog w base (fun _ => true) held 22 (.slice a len cap) d p) :
    ∃ l : List Fld, SlC w w.heap.size 2 (l.map frow) (.slice a len cap) := by
  obtain ⟨rows, hs, hr⟩ := open_rows Tryz.underlying22 (size := 2) (by kernel_rfl) (by omega) h
  obtain ⟨l, rfl, hok⟩ := rows_map (row := frow) (Ok := fun _ => True) rows fun r hrr => by
    obtain ⟨hl, n, x, ht⟩ := hr r hrr
    have hf := row_fields Tryz.underlying39 (by kernel_rfl) hl ht
    obtain ⟨u0, y0, n0, e0, t0⟩ := hf 0 _ rfl
    obtain ⟨u1, y1, n1, e1, t1⟩ := hf 1 _ rfl
    obtain ⟨s0, c0, _⟩ := DataW.trod_string Tryz.underlying9 t0
    obtain ⟨s1, c1, _⟩ := DataW.trod_string Tryz.underlying9 t1
    simp at c0 c1
    subst c0; subst c1
    refine ⟨(s0, s1), ?_, trivial⟩
    have hl2 : r.length = 2 := hl
    match r, hl2, e0, e1 with
    | [x0, x1], _, e0, e1 =>
      simp at e0 e1
      subst e0; subst e1
      rfl
  exact ⟨l, hs⟩
theorem open_doc {H : Type} {enc : TypeId × Value → H} {w : World} {base b0 : Nat} {held : Bool} {r : Reach} {v : Value} {d : DataW H} {p : List MemPlace} (hv : Value.okWide Tryz.prog w r b0 24 v) (h : DataW.Trod enc Tryz.prog w base (fun _ => true) held 24 v d p) :
    ∃ (D : DocD) (fv : Value), v = D.val fv ∧ SlC w w.heap.size 2 (D.fields.map frow) fv := by
  obtain ⟨v0, v1, v2, v3, y0, y1, y2, y3, n, rfl, -, -, h0, h1, h2, h3⟩ := Go.Joins.open_agg4 Tryz.underlying24 (by kernel_rfl) (by kernel_rfl) hv h
  obtain ⟨i0, c0, _, w0⟩ := DataW.trod_int Tryz.underlying3 h0
  obtain ⟨s1, c1, _⟩ := DataW.trod_string Tryz.underlying9 h1
  obtain ⟨s2, c2, _⟩ := DataW.trod_string Tryz.underlying9 h2
  obtain ⟨a, l, c, c3⟩ := Go.Joins.slice_form Tryz.underlying22 h3
  simp at c0 c1 c2 c3
  subst c0; subst c1; subst c2; subst c3
  obtain ⟨L, hL⟩ := open_flds (a := a) (len := l) (cap := c) (d := y3.1) (p := y3.2) ⟨n, by simpa [Value.cells] using h3⟩
  exact ⟨⟨i0, s1, s2, L⟩, _, rfl, hL⟩
end Go.Proofs.YtnohmhemniopoaaGreat
