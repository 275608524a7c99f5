/- 09: a letter as an argument, with its bulk. -/
import Derived.Test.YtlffpelkmdcckaaGreatDoorBulk
import Derived.Test.YtlffpelkmdcckaaGreatDoorShort9
import Derived.Lib.SmallJoins
namespace Go.Proofs.YtlffpelkmdcckaaGreatDoor
open Go Go.RowKit Go.ChangeShapes Go.WideShapes Go.Deep Go.Sup
set_option maxRecDepth 100000
section
variable {H : Type} {enc : TypeId × Value → H} {w : World} {base : Nat} {held : Bool}
theorem open_strsB {a : Option Addr} {len cap fuel : Nat} {d : DataW H} {p : List MemPlace} (h : DataW.trod enc Tryz.prog w base (fun _ => true) held fuel 23 [.slice a len cap] = some (d, p)) :
    ∃ l : List ByteArray, SlC w w.heap.size 1 (l.map srow) (.slice a len cap) ∧ strsBulk l + 1 ≤ Rows.uptoBulk d := by
  obtain ⟨rows, es, hs, hel, hbk, hr⟩ := open_rowsB Tryz.underlying23 (size := 1) (by kernel_rfl) (by omega) h
  obtain ⟨l, rfl, hb, -⟩ := rows_mapB (row := srow) (bulk := ByteArray.size) (Ok := fun _ => True) rows es hel fun i r y hri hyi => by
    obtain ⟨hl, n, q, ht⟩ := hr i r y hri hyi
    obtain ⟨s, hc, hx, _⟩ := DataW.trod_string Tryz.underlying9 ht
    obtain ⟨rfl, -⟩ := Prod.mk.inj hx
    exact ⟨s, hc, bulk_str s, trivial⟩
  exact ⟨l, hs, by unfold strsBulk; omega⟩
theorem open_fldsB {a : Option Addr} {len cap fuel : Nat} {d : DataW H} {p : List MemPlace} (h : DataW.trod enc Tryz.prog w base (fun _ => true) held fuel 36 [.slice a len cap] = some (d, p)) :
    ∃ l : List Fld, SlC w w.heap.size 2 (l.map frow) (.slice a len cap) ∧ fBulk l + 1 ≤ Rows.uptoBulk d := by
  obtain ⟨rows, es, hs, hel, hbk, hr⟩ := open_rowsB Tryz.underlying36 (size := 2) (by kernel_rfl) (by omega) h
  obtain ⟨l, rfl, hb, -⟩ := rows_mapB (row := frow) (bulk := fun f : Fld => f.1.size + f.2.size) (Ok := fun _ => True) rows es hel fun i r y hri hyi => by
    obtain ⟨hl, n, q, ht⟩ := hr i r y hri hyi
    obtain ⟨ys, hx, hyl, hf⟩ := row_fieldsB Tryz.underlying43 (by kernel_rfl) hl ht
    obtain ⟨u0, y0, n0, e0, g0, t0⟩ := hf 0 _ rfl
    obtain ⟨u1, y1, n1, e1, g1, t1⟩ := hf 1 _ rfl
    obtain ⟨s0, c0, z0, _⟩ := DataW.trod_string Tryz.underlying9 t0
    obtain ⟨s1, c1, z1, _⟩ := DataW.trod_string Tryz.underlying9 t1
    simp at c0 c1
    subst c0; subst c1
    have hl2 : r.length = 2 := hl
    have hy2 : ys.length = 2 := hyl
    match r, hl2, e0, e1 with
    | [x0, x1], _, e0, e1 =>
      match ys, hy2, g0, g1 with
      | [v0, v1], _, g0, g1 =>
        simp at e0 e1 g0 g1
        subst e0; subst e1; subst g0; subst g1
        refine ⟨(s0, s1), rfl, ?_, trivial⟩
        have b0 := bulk_str (H := H) s0
        have b1 := bulk_str (H := H) s1
        simp only at hx
        rw [hx, z0, z1]
        simp only [List.map_cons, List.map_nil, Rows.uptoBulk, Rows.uptoBulkAll] at b0 b1 ⊢
        omega
  exact ⟨l, hs, by unfold fBulk; omega⟩
/-- Papers. -/
theorem open_docsB {a : Option Addr} {len cap fuel : Nat} {d : DataW H} {p : List MemPlace} (h : DataW.trod enc Tryz.prog w base (fun _ => true) held fuel 31 [.slice a len cap] = some (d, p)) :
    ∃ l : List DocD, DocsC w w.heap.size l (.slice a len cap) ∧ docsBulk l + 1 ≤ Rows.uptoBulk d := by
  obtain ⟨rows, es, hs, hel, hbk, hr⟩ := open_rowsB Tryz.underlying31 (size := 4) (by kernel_rfl) (by omega) h
  obtain ⟨l, rfl, hb, hok⟩ := rows_mapB (row := fun m : DocD × Value => drow m.1 m.2) (bulk := fun m => dBulk m.1) (Ok := fun m => SlC w w.heap.size 2 (m.1.fields.map frow) m.2) rows es hel fun i r y hri hyi => by
    obtain ⟨hl, n, q, ht⟩ := hr i r y hri hyi
    obtain ⟨ys, hx, hyl, hf⟩ := row_fieldsB Tryz.underlying38 (by kernel_rfl) hl ht
    obtain ⟨u0, y0, n0, e0, g0, t0⟩ := hf 0 _ rfl
    obtain ⟨u1, y1, n1, e1, g1, t1⟩ := hf 1 _ rfl
    obtain ⟨u2, y2, n2, e2, g2, t2⟩ := hf 2 _ rfl
    obtain ⟨u3, y3, n3, e3, g3, t3⟩ := hf 3 _ rfl
    obtain ⟨i0, c0, z0, _⟩ := DataW.trod_int Tryz.underlying3 t0
    obtain ⟨s1, c1, z1, _⟩ := DataW.trod_string Tryz.underlying9 t1
    obtain ⟨s2, c2, z2, _⟩ := DataW.trod_string Tryz.underlying9 t2
    obtain ⟨a3, l3, k3, c3⟩ := Go.Joins.slice_form Tryz.underlying36 t3
    simp at c0 c1 c2 c3
    subst c0; subst c1; subst c2; subst c3
    obtain ⟨L, hL, hLb⟩ := open_fldsB (d := y3.1) (p := y3.2) t3
    have hl2 : r.length = 4 := hl
    have hy2 : ys.length = 4 := hyl
    match r, hl2, e0, e1, e2, e3 with
    | [x0, x1, x2, x3], _, e0, e1, e2, e3 =>
      match ys, hy2, g0, g1, g2, g3 with
      | [v0, v1, v2, v3], _, g0, g1, g2, g3 =>
        simp at e0 e1 e2 e3 g0 g1 g2 g3
        subst e0; subst e1; subst e2; subst e3; subst g0; subst g1; subst g2; subst g3
        refine ⟨(⟨i0, s1, s2, L⟩, .slice a3 l3 k3), rfl, ?_, hL⟩
        have b1 := bulk_str (H := H) s1
        have b2 := bulk_str (H := H) s2
        simp only at hx
        rw [hx]
        simp only [List.map_cons, List.map_nil]
        rw [z1, z2]
        simp only [Rows.uptoBulk, Rows.uptoBulkAll, dBulk] at b1 b2 ⊢
        omega
  refine ⟨l.map (·.1), ⟨l.map (·.2), ?_, ?_⟩, ?_⟩
  · clear hs hbk hr hb hel
    induction l with
    | nil => trivial
    | cons m l ih => exact ⟨hok m (by simp), ih fun x hx => hok x (by simp [hx])⟩
  · have e : List.zipWith drow (l.map (·.1)) (l.map (·.2)) = l.map fun m : DocD × Value => drow m.1 m.2 := by
      clear hs hbk hr hb hel hok
      induction l with
      | nil => rfl
      | cons m l ih => simp [ih]
    rw [e]; exact hs
  · unfold docsBulk
    rw [List.map_map]
    have : (l.map (dBulk ∘ fun x => x.1)).sum = (l.map fun m => dBulk m.1).sum := rfl
    omega
end
theorem array14 {α : Type} {cs : Array α} (h : cs.size = 14) : ∃ c0 c1 c2 c3 c4 c5 c6 c7 c8 c9 c10 c11 c12 c13, cs = #[c0, c1, c2, c3, c4, c5, c6, c7, c8, c9, c10, c11, c12, c13] := by
  obtain ⟨l⟩ := cs
  match l, h with
  | [c0, c1, c2, c3, c4, c5, c6, c7, c8, c9, c10, c11, c12, c13], _ => exact ⟨c0, c1, c2, c3, c4, c5, c6, c7, c8, c9, c10, c11, c12, c13, rfl⟩
theorem list13 {α : Type} {l : List α} (h : l.length = 13) : ∃ c0 c1 c2 c3 c4 c5 c6 c7 c8 c9 c10 c11 c12, l = [c0, c1, c2, c3, c4, c5, c6, c7, c8, c9, c10, c11, c12] := by
  match l, h with
  | [c0, c1, c2, c3, c4, c5, c6, c7, c8, c9, c10, c11, c12], _ => exact ⟨c0, c1, c2, c3, c4, c5, c6, c7, c8, c9, c10, c11, c12, rfl⟩
set_option maxHeartbeats 1000000 in
theorem open_letterB {H : Type} {enc : TypeId × Value → H} {w : World} {base b0 : Nat} {held : Bool} {r : Reach} {v : Value} {d : DataW H} {p : List MemPlace} (hv : Value.okWide Tryz.prog w r b0 33 v) (h : DataW.Trod enc Tryz.prog w base (fun _ => true) held 33 v d p) :
    ∃ l : LetD, LetC w w.heap.size l v ∧ lBulk l ≤ Rows.uptoBulk d := by
  obtain ⟨cs, rfl, hsz⟩ := okWide_struct Tryz.underlying33 hv
  have hsz' : cs.size = 14 := hsz.trans (by kernel_rfl)
  obtain ⟨c0, c1, c2, c3, c4, c5, c6, c7, c8, c9, c10, c11, c12, c13, rfl⟩ := array14 hsz'
  obtain ⟨fuel, hf⟩ := h
  have hf : DataW.trod enc Tryz.prog w base (fun _ => true) held fuel 33 [c0, c1, c2, c3, c4, c5, c6, c7, c8, c9, c10, c11, c12, c13] = some (d, p) := hf
  obtain ⟨xs, n, -, hx, -, hxl, hg⟩ := DataW.trod_struct Tryz.underlying33 hf
  obtain ⟨rfl, -⟩ := Prod.mk.inj hx
  obtain ⟨y0, y1, y2, y3, y4, y5, y6, y7, y8, y9, y10, y11, y12, rfl⟩ := list13 (show xs.length = 13 from hxl)
  have k0 : Tryz.prog.cellsOf 9 = 1 := by kernel_rfl
  have k1 : Tryz.prog.cellsOf 3 = 1 := by kernel_rfl
  have k2 : Tryz.prog.cellsOf 30 = 2 := by kernel_rfl
  have k3 : Tryz.prog.cellsOf 31 = 1 := by kernel_rfl
  have k4 : Tryz.prog.cellsOf 23 = 1 := by kernel_rfl
  have k5 : Tryz.prog.cellsOf 2 = 1 := by kernel_rfl
  have t0 := hg 0 _ rfl
  have t1 := hg 1 _ rfl
  have t2 := hg 2 _ rfl
  have t3 := hg 3 _ rfl
  have t4 := hg 4 _ rfl
  have t5 := hg 5 _ rfl
  have t6 := hg 6 _ rfl
  have t7 := hg 7 _ rfl
  have t8 := hg 8 _ rfl
  have t9 := hg 9 _ rfl
  have t10 := hg 10 _ rfl
  have t11 := hg 11 _ rfl
  have t12 := hg 12 _ rfl
  clear hg
  simp [k0, k1, k2, k3, k4] at t0 t1 t2 t3 t4 t5 t6 t7 t8 t9 t10 t11 t12
  obtain ⟨s0, e0, z0, _⟩ := DataW.trod_string Tryz.underlying9 t0
  obtain ⟨s1, e1, z1, _⟩ := DataW.trod_string Tryz.underlying9 t1
  obtain ⟨s2, e2, z2, _⟩ := DataW.trod_int Tryz.underlying3 t2
  obtain ⟨s3, e3, z3, _⟩ := DataW.trod_int Tryz.underlying3 t3
  obtain ⟨s4, e4, z4, _⟩ := DataW.trod_int Tryz.underlying3 t4
  obtain ⟨s5, e5, z5, _⟩ := DataW.trod_string Tryz.underlying9 t5
  obtain ⟨s6, e6, z6, _⟩ := DataW.trod_string Tryz.underlying9 t6
  obtain ⟨s7, e7, z7, _⟩ := DataW.trod_string Tryz.underlying9 t7
  obtain ⟨s8, e8, z8, _⟩ := DataW.trod_int Tryz.underlying3 t8
  obtain ⟨s9, e9, z9, _⟩ := DataW.trod_int Tryz.underlying3 t9
  obtain ⟨ys, m, -, hy, -, hyl, hgm⟩ := DataW.trod_struct Tryz.underlying30 t10
  have u0 := hgm 0 _ rfl
  have u1 := hgm 1 _ rfl
  simp [k0, k5] at u0 u1
  have hy2 : ys.length = 2 := hyl
  obtain ⟨a11, l11, q11, e11⟩ := Go.Joins.slice_form Tryz.underlying31 t11
  obtain ⟨a12, l12, q12, e12⟩ := Go.Joins.slice_form Tryz.underlying23 t12
  match ys, hy2, u0, u1 with
  | [v0, v1], _, u0, u1 =>
    obtain ⟨m0, f0, g0, _⟩ := DataW.trod_string Tryz.underlying9 u0
    obtain ⟨m1, f1, g1, _⟩ := DataW.trod_int Tryz.underlying2 u1
    simp at e0 e1 e2 e3 e4 e5 e6 e7 e8 e9 e11 e12 f0 f1
    subst e0; subst e1; subst e2; subst e3; subst e4; subst e5; subst e6; subst e7; subst e8; subst e9; subst e11; subst e12; subst f0; subst f1
    obtain ⟨D, hD, hDb⟩ := open_docsB (d := y11.1) (p := y11.2) t11
    obtain ⟨S, hS, hSb⟩ := open_strsB (d := y12.1) (p := y12.2) t12
    refine ⟨⟨s0, s1, s2, s3, s4, s5, s6, s7, s8, s9, m0, m1, D, S⟩, ⟨_, _, rfl, hD, hS⟩, ?_⟩
    have b0 := bulk_str (H := H) s0
    have b1 := bulk_str (H := H) s1
    have b5 := bulk_str (H := H) s5
    have b6 := bulk_str (H := H) s6
    have b7 := bulk_str (H := H) s7
    simp only [List.map_cons, List.map_nil, Rows.uptoBulk]
    rw [z0, z1, z5, z6, z7]
    simp only [Rows.uptoBulk, Rows.uptoBulkAll, lBulk, hBulk] at b0 b1 b5 b6 b7 ⊢
    omega
theorem open_u8 {H : Type} {enc : TypeId × Value → H} {w : World} {base b0 : Nat} {held : Bool} {r : Reach} {v : Value} {d : DataW H} {p : List MemPlace} (hv : Value.okWide Tryz.prog w r b0 5 v) (h : DataW.Trod enc Tryz.prog w base (fun _ => true) held 5 v d p) :
    ∃ n : Nat, v = .int .u8 n ∧ n < 256 := by
  obtain ⟨n, rfl⟩ := okWide_int Tryz.underlying5 hv
  obtain ⟨m, hm⟩ := h
  obtain ⟨k, hc, _, hw⟩ := DataW.trod_int Tryz.underlying5 hm
  obtain rfl : n = k := by simpa [Value.cells] using hc
  have hb : IntKind.u8.min ≤ n ∧ n ≤ IntKind.u8.max := by simpa [Lit.wf] using hw
  have h0 : (0 : Int) ≤ n := hb.1
  have h1 : n ≤ 255 := hb.2
  obtain ⟨j, rfl⟩ := Int.eq_ofNat_of_zero_le h0
  exact ⟨j, rfl, by omega⟩
end Go.Proofs.YtlffpelkmdcckaaGreatDoor
