/- A string's bytes as a slice, and back (plain). -/
import Derived.Test.YtlffpelkmdcckaaGreatDoorMem
import Derived.Lib.ConvBytes
import Derived.Laws.IdiomStrings
namespace Go.Sup
open Go Go.RowKit
def byteRows (s : ByteArray) : List (List Value) := s.data.toList.map fun b => [.int .u8 (b.toNat : Int)]
theorem byteRows_len (s : ByteArray) : (byteRows s).length = s.size := by unfold byteRows; rw [List.length_map, Array.length_toList]; rfl
/-- '[]byte(s)': a new row of the string's bytes. -/
theorem run_str_bytes {P : Program} (w : World) (src dst e : TypeId) (s : ByteArray) {u : TypeDesc} (hs : P.underlying src = some u) (hd : P.underlying dst = some (.slice e)) (he : P.underlying e = some (.int .u8)) (hcap : s.size ≤ maxLen) :
    ∃ c w', (convert src dst (.string s)).run P w = .ok (.slice (some ⟨w.heap.size, 0, none⟩) s.size c) w' ∧ SlC w' w'.heap.size 1 (byteRows s) (.slice (some ⟨w.heap.size, 0, none⟩) s.size c) ∧ Below w.heap.size w w' ∧ w'.heap.size = w.heap.size + 1 := by
  refine ⟨_, _, Lib.run_convert_string_bytes w src dst e s hs hd he, ?_, ?_, Lib.bytesWorld_size w e s⟩
  · have h1 := grownCap_ge w s.size 0 e
    have h2 := grownCap_le_maxLen w s.size 0 e hcap
    refine ⟨some ⟨w.heap.size, 0, none⟩, _, by rw [byteRows_len], by rw [byteRows_len]; exact h1, h2, fun _ => ⟨w.heap.size, 0, rfl, by rw [Lib.bytesWorld_size]; omega, fun k r hr j u hu => ?_⟩⟩
    simp only [byteRows, List.getElem?_map, Option.map_eq_some_iff] at hr
    obtain ⟨b, hb, rfl⟩ := hr
    have hj : j = 0 := by
      have := (List.getElem?_eq_some_iff.1 hu).1
      simp at this; exact this
    subst hj
    simp at hu
    subst hu
    have hk : k < s.size := by have := (List.getElem?_eq_some_iff.1 hb).1; rw [Array.length_toList] at this; exact this
    have := Lib.bytesWorld_cell w e s k hk
    rw [List.getD_eq_getElem?_getD, hb] at this
    simpa using this
  · exact ⟨rfl, rfl, rfl, by rw [Lib.bytesWorld_size]; omega, fun i hi => Lib.bytesWorld_at_old w e s i hi⟩
end Go.Sup
