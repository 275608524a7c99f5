/- strings.Builder's writers, at a builder that the call has made itself. -/
import Derived.Test.YtlffpelkmdcckaaGreatDoorMem
import Derived.Test.YtlffpelkmdcckaaGreatDoorProg
import Derived.Shelf.Strings.Builder1
import Derived.Laws.Externs
namespace Go.Proofs.YtlffpelkmdcckaaGreatDoor
open Go Go.RowKit Go.Sup
set_option maxRecDepth 100000
abbrev IsBld (B b : Nat) (l : List UInt8) (w : World) : Prop := Lib.IsBuilder 112 5 B b (Lib.byteCells l) w
abbrev BldAt (B b : Nat) (l : List UInt8) (w : World) : Prop := Lib.BuilderAt 112 5 B b (.pointer (some ⟨b, 0, none⟩)) (Lib.byteCells l) w
theorem bldSize : (Tryz.prog.info? 112).map (·.size) = some 2 := by kernel_rfl
theorem bldLies : liesAt Tryz.prog Tryz.prog.depth 112 (2 / Tryz.prog.cellsOf 112) 0 112 1 = true := by kernel_rfl
theorem infoByte : (Tryz.prog.info? 5).map (fun i => (i.zero, i.size, i.bytes)) = some (some (.int .u8 0), 1, 1) := by kernel_rfl
set_option maxHeartbeats 800000 in
theorem check_any (B b : Nat) (l : List UInt8) (w : World) (h : IsBld B b l w) :
    Calls Tryz.prog 109 #[.pointer (some ⟨b, 0, none⟩)] w fun e w' => e = .returned (.tuple #[]) ∧ BldAt B b l w' ∧ Below B w w' := by
  obtain ⟨j, hj, hjs⟩ := Option.map_eq_some_iff.1 bldSize
  have hne : ∀ W, (binOp .neq 109 (.pointer (some ⟨b, 0, none⟩)) (.pointer (some ⟨b, 0, none⟩))).run Tryz.prog W = .ok (.bool false) W := fun W => Lib.run_neq_ptr_same W _ Tryz.underlying109 hj
  rcases h with h | h
  · have h0 := h.cell0
    have hfz := h.frozen0
    have hsh := h.shape
    have c1 := Lib.run_to_unsafe (P := Tryz.prog) w ⟨b, 0, none⟩ Tryz.underlying109 Tryz.underlying148 hj (by rw [hjs]; decide) hsh (Nat.zero_lt_succ 1)
    have c2 : (callFunc 125 #[.pointer (some ⟨b, 0, none⟩)]).run Tryz.prog w = .ok (.value (.pointer (some ⟨b, 0, none⟩))) w := by
      rw [run_callFunc_extern Tryz.func125 (by kernel_rfl) (by kernel_rfl) (by kernel_rfl) (e := Extern.AbiNoEscape.same) (by kernel_rfl), Lib.run_noEscape]; rfl
    have c3 := Lib.run_from_unsafe (P := Tryz.prog) w ⟨b, 0, none⟩ Tryz.underlying148 Tryz.underlying109 hj hsh bldLies
    have H := Lib.hid h
    clear h hj hjs hsh
    go_enter Tryz.func109, Tryz.ntmps109
    go_wp2
    go_end0
    exact ⟨rfl, H.out.used _, (Below.refl B w).setCell (p := ⟨b, 0, none⟩) H.out.1 _⟩
  · have h0 := h.cell0
    have H := Lib.hid h
    clear h hj hjs
    go_enter Tryz.func109, Tryz.ntmps109
    go_wp2
    go_end0
    exact ⟨rfl, H.out, Below.refl B _⟩
theorem byteCells_app (l m : List UInt8) : Lib.byteCells (l ++ m) = Lib.byteCells l ++ Lib.byteCells m := by simp [Lib.byteCells]
theorem strCells_eq (s : ByteArray) : Lib.strCells s = Lib.byteCells s.data.toList := by simp [Lib.strCells, Lib.byteCells]
set_option maxHeartbeats 800000 in
/-- WriteString. -/
theorem wstr_any (B b : Nat) (l : List UInt8) (s : ByteArray) (w : World) (h : IsBld B b l w) (hlen : l.length + s.size ≤ 1000000000) (hBw : B ≤ w.heap.size) :
    Calls Tryz.prog 91 #[.pointer (some ⟨b, 0, none⟩), .string s] w fun e w' => e = .returned (.tuple #[.int .i64 s.size, .nilIface]) ∧ BldAt B b (l ++ s.data.toList) w' ∧ Below B w w' := by
  obtain ⟨i0, hi, hz0, hz1, hz2⟩ := info_parts infoByte
  have H := Lib.hid h
  clear h
  go_enter Tryz.func91, Tryz.ntmps91
  go_wp2_with fail
  refine (check_any B b l _ H.out).mono ?_
  rintro e w1 ⟨rfl, ⟨hB, v, hbk, hown, hne⟩, hb1⟩
  have c0 : w1.cell? ⟨b, 0, none⟩ = some (.pointer (some ⟨b, 0, none⟩)) := by rw [Lib.cell_of_heap hbk]; rfl
  have c1 : w1.cell? ⟨b, 1, none⟩ = some v := by rw [Lib.cell_of_heap hbk]; rfl
  have hlt : b < w1.heap.size := (Array.getElem?_eq_some_iff.1 hbk).1
  have hz1' := hb1.size
  go_wp2_with (at_builtin; refine Lib.wpList_append_own_string _ rfl _ _ 110 9 rfl B 5 i0 Tryz.underlying110 Tryz.underlying9 hi hz0 hz1 hz2 _ _ _ rfl hown s rfl ?c3 ?c4 ?c5 ?_)
  case c3 => rw [Lib.byteCells_length]; unfold maxLen; omega
  case c4 => rw [Lib.byteCells_length]; omega
  case c5 => omega
  intro v' w2 hown' hgrow _
  have hb2 : w2.heap[b]? = some (.cells #[.pointer (some ⟨b, 0, none⟩), v] 112 (0, 0)) := (hgrow.block b hlt (fun e => hne e.symm)).trans hbk
  have d0 : w2.cell? ⟨b, 0, none⟩ = some (.pointer (some ⟨b, 0, none⟩)) := by rw [Lib.cell_of_heap hb2]; rfl
  have d1 : w2.cell? ⟨b, 1, none⟩ = some v := by rw [Lib.cell_of_heap hb2]; rfl
  have f1 : w2.frozen? ⟨b, 1, none⟩ = false := Lib.frozen_of_heap hb2 1
  obtain ⟨ao, n', cap, rfl⟩ : ∃ ao n' cap, v' = .slice ao n' cap := by
    rcases hown'.2 with ⟨hv, _⟩ | ⟨g, cap, cur, hv, _⟩
    · exact ⟨_, _, _, hv⟩
    · exact ⟨_, _, _, hv⟩
  go_wp2
  go_ret2
  refine ⟨rfl, ?_, (hb1.grown hgrow (by omega) (fun k hk => (hown.lt k hk).1)).setCell (p := ⟨b, 1, none⟩) hB _⟩
  refine Lib.BuilderAt.put (T := 112) (e := 5) hB hb2 (bs' := Lib.byteCells (l ++ s.data.toList)) ?_ (by decide)
  rw [byteCells_app, ← strCells_eq, List.length_append, Lib.strCells_length]
  exact hown'
set_option maxHeartbeats 800000 in
/-- WriteByte. -/
theorem wbyte_any (B b : Nat) (l : List UInt8) (c : UInt8) (w : World) (h : IsBld B b l w) (hlen : l.length ≤ 1000000000) (hBw : B ≤ w.heap.size) :
    Calls Tryz.prog 96 #[.pointer (some ⟨b, 0, none⟩), .int .u8 (c.toNat : Int)] w fun e w' => e = .returned .nilIface ∧ BldAt B b (l ++ [c]) w' ∧ Below B w w' := by
  obtain ⟨i0, hi, hz0, hz1, hz2⟩ := info_parts infoByte
  have H := Lib.hid h
  clear h
  go_enter Tryz.func96, Tryz.ntmps96
  go_wp2_with fail
  refine (check_any B b l _ H.out).mono ?_
  rintro e w1 ⟨rfl, ⟨hB, v, hbk, hown, hne⟩, hb1⟩
  have c0 : w1.cell? ⟨b, 0, none⟩ = some (.pointer (some ⟨b, 0, none⟩)) := by rw [Lib.cell_of_heap hbk]; rfl
  have c1 : w1.cell? ⟨b, 1, none⟩ = some v := by rw [Lib.cell_of_heap hbk]; rfl
  have hlt : b < w1.heap.size := (Array.getElem?_eq_some_iff.1 hbk).1
  have hz1' := hb1.size
  go_wp2_with (at_builtin; refine wpList_append_own _ rfl _ _ 110 rfl B 5 i0 (.int .u8 0) 1 1 Tryz.underlying110 hi hz0 hz1 hz2 rfl (by decide) _ _ _ rfl (hown.alloc _) ⟨w1.heap.size, 0, none⟩ 1 1 [.int .u8 (c.toNat : Int)] rfl rfl ?c1 ?c2 ?c3 ?c4 ?c5 ?_)
  case c1 =>
    intro j u hj
    match j, hj with
    | 0, hj => simp at hj; subst hj; simp [Addr.add]
  case c2 => intro u hu; simp at hu; subst hu; rfl
  case c3 => rw [Lib.byteCells_length]; unfold maxLen; omega
  case c4 => rw [Lib.byteCells_length]; omega
  case c5 => simp; omega
  intro v' w2 hown' hgrow _
  have hb2 : w2.heap[b]? = some (.cells #[.pointer (some ⟨b, 0, none⟩), v] 112 (0, 0)) := by
    rw [hgrow.block b (by simp; omega) (fun e => hne e.symm), Lib.alloc_old w1 _ b hlt]
    exact hbk
  have d0 : w2.cell? ⟨b, 0, none⟩ = some (.pointer (some ⟨b, 0, none⟩)) := by rw [Lib.cell_of_heap hb2]; rfl
  have d1 : w2.cell? ⟨b, 1, none⟩ = some v := by rw [Lib.cell_of_heap hb2]; rfl
  have f1 : w2.frozen? ⟨b, 1, none⟩ = false := Lib.frozen_of_heap hb2 1
  obtain ⟨ao, n', cap, rfl⟩ : ∃ ao n' cap, v' = .slice ao n' cap := by
    rcases hown'.2 with ⟨hv, _⟩ | ⟨g, cap, cur, hv, _⟩
    · exact ⟨_, _, _, hv⟩
    · exact ⟨_, _, _, hv⟩
  go_wp2
  go_ret
  refine ⟨rfl, ?_, ((hb1.alloc (by omega) _).grown hgrow (by simp; omega) (fun k hk => (hown.lt k hk).1)).setCell (p := ⟨b, 1, none⟩) hB _⟩
  refine Lib.BuilderAt.put (T := 112) (e := 5) hB hb2 (bs' := Lib.byteCells (l ++ [c])) ?_ (by decide)
  rw [byteCells_app, List.length_append]
  exact hown'
/-- A builder under what was made or written above it. -/
theorem IsBld.below {B b : Nat} {l : List UInt8} {w w' : World} (h : IsBld B b l w) (hb : Below w.heap.size w w') : IsBld B b l w' := by
  have key : ∀ p, Lib.BuilderAt 112 5 B b p (Lib.byteCells l) w → Lib.BuilderAt 112 5 B b p (Lib.byteCells l) w' := by
    rintro p ⟨hB, v, hbk, hown, hne⟩
    have hlt : b < w.heap.size := (Array.getElem?_eq_some_iff.1 hbk).1
    refine ⟨hB, v, (hb.block b hlt).trans hbk, ⟨hown.1, ?_⟩, hne⟩
    rcases id hown.2 with h0 | ⟨g, cap, cur, hv, hbg, hg, r⟩
    · exact .inl h0
    · exact .inr ⟨g, cap, cur, hv, hbg, (hb.block g (hown.lt g (by rw [hv]; rfl)).2).trans hg, r⟩
  rcases h with h | h
  · exact .inl (key _ h)
  · exact .inr (key _ h)
theorem IsBld.drewN {B b : Nat} {l : List UInt8} {w : World} (h : IsBld B b l w) (n : Nat) : IsBld B b l (w.drewN n) := h
end Go.Proofs.YtlffpelkmdcckaaGreatDoor
