/- field.Read. -/
import Derived.Test.YtnohmhemniopoaaGreatDoc
import Derived.Deep.RegionHeld3
namespace Go.Sup
open Go Go.RowKit
theorem SlC.drop_ {w : World} {B size : Nat} {rows : List (List Value)} {g o n c : Nat} (k : Nat) (h : SlC w B size rows (.slice (some ⟨g, o, none⟩) n c)) (hk : k ≤ n) : SlC w B size (rows.drop k) (.slice (some ⟨g, o + k * size, none⟩) (n - k) (c - k)) := by
  obtain ⟨A, c', e, h1, h2, h3⟩ := h
  injection e with e1 e2 e3
  subst e3
  have hn : n = rows.length := e2
  subst hn
  refine ⟨some ⟨g, o + k * size, none⟩, c - k, by rw [List.length_drop], by rw [List.length_drop]; omega, by omega, fun hp => ?_⟩
  rw [List.length_drop] at hp
  obtain ⟨b, off, ea, hb, hc⟩ := h3 (by omega)
  rw [← e1] at ea
  injection ea with ea
  injection ea with ea1 ea2
  subst ea1; subst ea2
  refine ⟨g, o + k * size, rfl, hb, fun i r hr j u hu => ?_⟩
  rw [List.getElem?_drop] at hr
  have := hc (k + i) r hr j u hu
  rw [Nat.add_mul] at this
  rw [← this]
  congr 2
  omega
end Go.Sup
namespace Go.Proofs.YtnohmhemniopoaaGreat
open Go Go.RowKit Go.Sup
set_option maxRecDepth 100000
theorem bs_const_ne {s : ByteArray} {l : List UInt8} (h : ¬ s = ⟨l.toArray⟩) : (s.toList == l) = false := by
  have := bs_ne h
  rwa [show (⟨l.toArray⟩ : ByteArray).toList = l by rw [ByteArray.toList_eq]] at this
def zeroD : DocD := ⟨0, ⟨#[]⟩, ⟨#[]⟩, []⟩
def headN (i : Nat) : ByteArray := if i = 0 then nPaper else if i = 1 then nNumber else nIssuer
/-- Is field i of a record the paper's i-th head? -/
def headOk (l : List Fld) (i : Nat) : Bool := match l[i]? with
  | some f => decide (f.1 = headN i) && (decide (i ≠ 0) || decide (0 ≤ idxS kindL f.2))
  | none => false
def valAt (l : List Fld) (i : Nat) : ByteArray := match l[i]? with
  | some f => f.2
  | none => ⟨#[]⟩
/-- The paper of a record: the paper, the line, the error's number. -/
def readL (l : List Fld) : DocD × Nat × Nat :=
  if headOk l 0 then (if headOk l 1 then (if headOk l 2 then (⟨idxS kindL (valAt l 0), valAt l 1, valAt l 2, l.drop 3⟩, 0, 0) else (zeroD, 3, 2)) else (zeroD, 2, 2)) else (zeroD, 1, 2)
def readR (s : List UInt8) : DocD × Nat × Nat := if (parseR s).2.2 = 0 then readL (parseR s).1 else (zeroD, (parseR s).2.1, (parseR s).2.2)
/-- What Read hands back. -/
def ReadOut (w : World) (r : DocD × Nat × Nat) (e : Ending) (w' : World) : Prop :=
  ∃ fv, e = .returned (.tuple #[r.1.val fv, .int .i64 (r.2.1 : Int), .int .i64 (r.2.2 : Int)]) ∧ SlC w' w'.heap.size 2 (r.1.fields.map frow) fv ∧ Below w.heap.size w w'
theorem ReadOut.bad {w w' : World} {r : DocD × Nat × Nat} {n k : Nat} (h : r = (zeroD, n, k)) (hb : Below w.heap.size w w') : ReadOut w r (.returned (.tuple #[.agg #[.int .i64 0, .string ⟨#[]⟩, .string ⟨#[]⟩, .slice none 0 0], .int .i64 (n : Int), .int .i64 (k : Int)])) w' := by
  subst h
  exact ⟨_, rfl, SlC.nil_ _ _ _, hb⟩
set_option maxHeartbeats 4000000 in
theorem read_any (S : ByteArray) (hS : S.size ≤ 1000000000) (w : World) : Calls Tryz.prog 10 #[.string S] w (ReadOut w (readR S.data.toList)) := by
  obtain ⟨R, hR⟩ : ∃ R, R = readR S.data.toList := ⟨_, rfl⟩
  rw [← hR]
  have HR : Hid (R = if (parseR S.data.toList).2.2 = 0 then readL (parseR S.data.toList).1 else (zeroD, (parseR S.data.toList).2.1, (parseR S.data.toList).2.2)) := hR
  clear hR
  go_enter Tryz.func10, Tryz.ntmps10
  go_wp2_with fail
  refine (parse_any S hS _).mono ?_
  generalize parseR S.data.toList = pr at HR
  obtain ⟨l, n, er⟩ := pr
  simp only at HR
  rintro e w1 ⟨v, rfl, ho, hb1⟩
  simp only at ho ⊢
  have HB1 : Hid (Below w.heap.size w w1) := ((Below.refl _ _).alloc (Nat.le_refl _) _).trans (hb1.mono (by simp))
  have hsz : w.heap.size < w1.heap.size := by have := hb1.size; simp at this; omega
  obtain ⟨z0, z1⟩ := bcell hb1
  have k0 : w1.cell? ⟨w.heap.size, 0, none⟩ = some (.int .i64 0) := (z0 w.heap.size _ (by simp)).trans (by go_simp)
  have k1 : w1.cell? ⟨w.heap.size, 1, none⟩ = some (.string ⟨#[]⟩) := (z0 w.heap.size _ (by simp)).trans (by go_simp)
  have k2 : w1.cell? ⟨w.heap.size, 2, none⟩ = some (.string ⟨#[]⟩) := (z0 w.heap.size _ (by simp)).trans (by go_simp)
  have k3 : w1.cell? ⟨w.heap.size, 3, none⟩ = some (.slice none 0 0) := (z0 w.heap.size _ (by simp)).trans (by go_simp)
  have f0 : ∀ i, w1.frozen? ⟨w.heap.size, i, none⟩ = false := fun i => (z1 w.heap.size i (by simp)).trans (by go_simp)
  have HO : Hid (OwnC w1 (w.heap.size + 1) 39 2 (l.map frow) v) := by
    show OwnC w1 (w.heap.size + 1) 39 2 (l.map frow) v
    simpa using ho
  have Hf0 := Lib.hid f0
  clear z0 z1 hb1 ho f0
  have g0 := Hf0.out 0
  have g1 := Hf0.out 1
  have g2 := Hf0.out 2
  have g3 := Hf0.out 3
  rcases Nat.eq_zero_or_pos er with h0 | h0
  · subst h0
    rw [if_pos rfl] at HR
    obtain ⟨A, c, hv, hn, hc, -⟩ := id HO.out.sl
    rw [List.length_map] at hv hn
    subst hv
    unfold maxLen at hc
    have ix0 : ∀ W, (Instr.index 46 (.agg #[.string ⟨#[112, 97, 112, 101, 114]⟩, .string ⟨#[110, 117, 109, 98, 101, 114]⟩, .string ⟨#[105, 115, 115, 117, 101, 114]⟩]) (.int .i64 0)).run Tryz.prog W = .ok (.string ⟨#[112, 97, 112, 101, 114]⟩) W := fun W => by kernel_rfl
    have ix1 : ∀ W, (Instr.index 46 (.agg #[.string ⟨#[112, 97, 112, 101, 114]⟩, .string ⟨#[110, 117, 109, 98, 101, 114]⟩, .string ⟨#[105, 115, 115, 117, 101, 114]⟩]) (.int .i64 1)).run Tryz.prog W = .ok (.string ⟨#[110, 117, 109, 98, 101, 114]⟩) W := fun W => by kernel_rfl
    have ix2 : ∀ W, (Instr.index 46 (.agg #[.string ⟨#[112, 97, 112, 101, 114]⟩, .string ⟨#[110, 117, 109, 98, 101, 114]⟩, .string ⟨#[105, 115, 115, 117, 101, 114]⟩]) (.int .i64 2)).run Tryz.prog W = .ok (.string ⟨#[105, 115, 115, 117, 101, 114]⟩) W := fun W => by kernel_rfl
    rw [show ((0 : Nat) : Int) = 0 from rfl]
    go_wp2
    go_loopw [22] (fun i wr => ∃ k : Nat, k ≤ 3 ∧ i = .int .i64 k ∧ Hid (∀ j, j < k → headOk l j = true) ∧ Hid (Below w1.heap.size w1 wr)) (fun i _ => 3 - (intOf i).toNat)
    case atStart => exact ⟨0, by omega, rfl, (by intro j hj; omega), Below.refl _ _⟩
    case round =>
      obtain ⟨k, hk, rfl, HA, H⟩ := hrel
      have hszr := H.out.size
      have hszw : w.heap.size < wr.heap.size := by omega
      obtain ⟨z0, z1⟩ := bcell H.out
      have r0 := (z0 w.heap.size 0 hsz).trans k0
      have r1 := (z0 w.heap.size 1 hsz).trans k1
      have r2 := (z0 w.heap.size 2 hsz).trans k2
      have r3 := (z0 w.heap.size 3 hsz).trans k3
      have e0 := (z1 w.heap.size 0 hsz).trans g0
      have e1 := (z1 w.heap.size 1 hsz).trans g1
      have e2 := (z1 w.heap.size 2 hsz).trans g2
      have e3 := (z1 w.heap.size 3 hsz).trans g3
      have HOR : Hid (OwnC wr (w.heap.size + 1) 39 2 (l.map frow) (.slice A l.length c)) := HO.out.below H.out
      have HBR : Hid (Below w.heap.size w wr) := HB1.out.trans (H.out.mono (Nat.le_of_lt hsz))
      have HBAD : Hid (∀ m, Below w.heap.size w m → Below w.heap.size w ((((m.setCell ⟨w.heap.size, 0, none⟩ (.int .i64 0)).setCell ⟨w.heap.size, 1, none⟩ (.string ⟨#[]⟩)).setCell ⟨w.heap.size, 2, none⟩ (.string ⟨#[]⟩)).setCell ⟨w.heap.size, 3, none⟩ (.slice none 0 0))) := fun m hm => (((hm.setCell (p := ⟨w.heap.size, 0, none⟩) (Nat.le_refl _) _).setCell (p := ⟨w.heap.size, 1, none⟩) (Nat.le_refl _) _).setCell (p := ⟨w.heap.size, 2, none⟩) (Nat.le_refl _) _).setCell (p := ⟨w.heap.size, 3, none⟩) (Nat.le_refl _) _
      have HBAD2 : Hid (∀ m v0 v1 v2 v3, Below w.heap.size w m → Below w.heap.size w ((((m.setCell ⟨w.heap.size, 0, none⟩ v0).setCell ⟨w.heap.size, 1, none⟩ v1).setCell ⟨w.heap.size, 2, none⟩ v2).setCell ⟨w.heap.size, 3, none⟩ v3)) := fun m v0 v1 v2 v3 hm => (((hm.setCell (p := ⟨w.heap.size, 0, none⟩) (Nat.le_refl _) _).setCell (p := ⟨w.heap.size, 1, none⟩) (Nat.le_refl _) _).setCell (p := ⟨w.heap.size, 2, none⟩) (Nat.le_refl _) _).setCell (p := ⟨w.heap.size, 3, none⟩) (Nat.le_refl _) _
      clear z0 z1 k0 k1 k2 k3 g0 g1 g2 g3
      have hk4 : k = 0 ∨ k = 1 ∨ k = 2 ∨ k = 3 := by omega
      rcases hk4 with rfl | rfl | rfl | rfl
      · by_cases hl : 0 < l.length
        · have hb : ¬ l = [] := fun h => by rw [h] at hl; simp at hl
          have hlI : (0 : Int) < (l.length : Int) := by omega
          have hlk : l[0]? = some l[0] := List.getElem?_eq_getElem hl
          obtain ⟨b0, off, rfl, hb0, c0, c1⟩ := fld_at HOR.out.sl hlk
          obtain ⟨f, hf⟩ : ∃ f, f = l[0] := ⟨_, rfl⟩
          rw [← hf] at c0 c1 hlk
          simp only [Nat.zero_mul, Nat.add_zero] at c0 c1
          have HLK := Lib.hid hlk
          clear hlk hf
          by_cases hnm : f.1 = ⟨#[112, 97, 112, 101, 114]⟩
          · have s2 : f.1.toList = [112, 97, 112, 101, 114] := by rw [hnm, ByteArray.toList_eq]
            have HNM := Lib.hid hnm
            clear hnm
            obtain ⟨cb, hcb⟩ : ∃ cb, cb = decide (0 ≤ idxS kindL f.2) := ⟨_, rfl⟩
            have HCB := Lib.hid hcb
            clear hcb
            have HY : Hid (headOk l 0 = cb) := by
              show headOk l 0 = cb
              unfold headOk; rw [HLK.out]
              have : f.1 = headN 0 := HNM.out
              rw [HCB.out]
              simp [this]
            rw [show ((0 : Nat) : Int) = 0 from rfl]
            go_wp2
            go_region_held3 (fun W => W.cell? ⟨b0, off, none⟩ = some (.string f.1) ∧ W.cell? ⟨b0, off + 1, none⟩ = some (.string f.2)) (go_keep) (first | (go_at_call 16; refine (kinds_any _).mono ?_; rintro e w2 ⟨g, rfl, hg, hs2, hz2, hb2⟩; have d0 : w2.cell? ⟨b0, off, none⟩ = some (.string f.1) := ((bcell hb2).1 b0 _ hb0).trans c0; have d1 : w2.cell? ⟨b0, off + 1, none⟩ = some (.string f.2) := ((bcell hb2).1 b0 _ hb0).trans c1; have HS2 : Hid (SlC w2 w2.heap.size 1 (kindL.map srow) (.slice (some ⟨g, 0, none⟩) 6 6) ∧ Below wr.heap.size wr w2) := ⟨hs2, (below_drewN (Below.refl _ wr) 1).trans hb2⟩; clear hb2 hs2 hz2 hg) | (go_at_call 19; refine (contains_any kindL f.2 _ _ _ HS2.out.1).mono ?_; rintro e w3 ⟨rfl, rfl⟩; rw [← HCB.out]))
            all_goals
              have HBF : Hid (Below w1.heap.size w1 w3) := H.out.trans (HS2.out.2.mono hszr)
              obtain ⟨z0, z1⟩ := bcell HS2.out.2
              have q0 := (z0 w.heap.size 0 hszw).trans r0
              have q1 := (z0 w.heap.size 1 hszw).trans r1
              have q2 := (z0 w.heap.size 2 hszw).trans r2
              have q3 := (z0 w.heap.size 3 hszw).trans r3
              have p0 := (z1 w.heap.size 0 hszw).trans e0
              have p1 := (z1 w.heap.size 1 hszw).trans e1
              have p2 := (z1 w.heap.size 2 hszw).trans e2
              have p3 := (z1 w.heap.size 3 hszw).trans e3
              clear z0 z1
              cases cb
              · have HX : Hid (R = (zeroD, 1, 2)) := by
                  show _ = _
                  rw [HR.out]; unfold readL
                  rw [HY.out]; rfl
                go_wp2
                refine bodyPost_ret (v := .tuple #[.agg #[.int .i64 0, .string ⟨#[]⟩, .string ⟨#[]⟩, .slice none 0 0], .int .i64 1, .int .i64 2]) (by simp [results, Tryz.results10, go_sem, q0, q1, q2, q3]) rfl ?_
                exact ReadOut.bad (n := 1) (k := 2) HX.out (HBAD.out _ (HB1.out.trans (HBF.out.mono (Nat.le_of_lt hsz))))
              · go_wp2
                go_roundw
                case rel =>
                  refine ⟨1, by omega, by go_num, ?_, HBF.out⟩
                  intro j hj
                  obtain rfl : j = 0 := by omega
                  exact HY.out
                case measure => simp [intOf]
          · have s1 : (f.1.toList == [112, 97, 112, 101, 114]) = false := bs_const_ne hnm
            have HX : Hid (R = (zeroD, 1, 2)) := by
              show _ = _
              rw [HR.out]; unfold readL
              have : headOk l 0 = false := by
                unfold headOk; rw [HLK.out]
                have : ¬ f.1 = headN 0 := hnm
                simp [this]
              rw [this]; rfl
            clear hnm
            rw [show ((0 : Nat) : Int) = 0 from rfl]
            go_wp2
            go_quiet (fail)
            go_wp2
            refine bodyPost_ret (v := .tuple #[.agg #[.int .i64 0, .string ⟨#[]⟩, .string ⟨#[]⟩, .slice none 0 0], .int .i64 1, .int .i64 2]) (by simp [results, Tryz.results10, go_sem, r0, r1, r2, r3]) rfl ?_
            exact ReadOut.bad (n := 1) (k := 2) HX.out (HBAD.out _ (below_drewN HBR.out _))
        · have hb : l = [] := List.eq_nil_of_length_eq_zero (by omega)
          have HX : Hid (R = (zeroD, 1, 2)) := by
            show _ = _
            rw [HR.out]; unfold readL
            have : headOk l 0 = false := by unfold headOk; rw [List.getElem?_eq_none (by omega)]
            rw [this]; rfl
          rw [show ((0 : Nat) : Int) = 0 from rfl]
          go_wp2
          go_quiet (fail)
          go_wp2
          refine bodyPost_ret (v := .tuple #[.agg #[.int .i64 0, .string ⟨#[]⟩, .string ⟨#[]⟩, .slice none 0 0], .int .i64 1, .int .i64 2]) (by simp [results, Tryz.results10, go_sem, r0, r1, r2, r3]) rfl ?_
          exact ReadOut.bad (n := 1) (k := 2) HX.out (HBAD.out _ (below_drewN HBR.out _))
      · by_cases hl : 1 < l.length
        · have hb : decide ((l.length : Int) ≤ 1) = false := by simp; omega
          have hlI : (1 : Int) < (l.length : Int) := by omega
          have hlk : l[1]? = some l[1] := List.getElem?_eq_getElem hl
          obtain ⟨b0, off, rfl, hb0, c0, c1⟩ := fld_at HOR.out.sl hlk
          obtain ⟨f, hf⟩ : ∃ f, f = l[1] := ⟨_, rfl⟩
          rw [← hf] at c0 c1 hlk
          simp only [Nat.one_mul, Nat.reduceMul] at c0 c1
          have HLK := Lib.hid hlk
          clear hlk hf
          by_cases hnm : f.1 = ⟨#[110, 117, 109, 98, 101, 114]⟩
          · have s2 : f.1.toList = [110, 117, 109, 98, 101, 114] := by rw [hnm, ByteArray.toList_eq]
            have HY : Hid (headOk l 1 = true) := by
              show headOk l 1 = true
              unfold headOk; rw [HLK.out]
              have : f.1 = headN 1 := hnm
              simp [this]
            clear hnm
            go_wp2
            go_quiet (fail)
            go_wp2
            go_roundw
            case rel =>
              refine ⟨2, by omega, by go_num, ?_, below_drewN H.out _⟩
              intro j hj
              rcases Nat.lt_or_ge j 1 with h | h
              · exact HA.out j h
              · obtain rfl : j = 1 := by omega
                exact HY.out
            case measure => simp [intOf]
          · have s1 : (f.1.toList == [110, 117, 109, 98, 101, 114]) = false := bs_const_ne hnm
            have HX : Hid (R = (zeroD, 2, 2)) := by
              show _ = _
              rw [HR.out]; unfold readL
              rw [HA.out 0 (by omega)]
              have : headOk l 1 = false := by
                unfold headOk; rw [HLK.out]
                have : ¬ f.1 = headN 1 := hnm
                simp [this]
              rw [this]; rfl
            clear hnm
            go_wp2
            go_quiet (fail)
            go_wp2
            refine bodyPost_ret (v := .tuple #[.agg #[.int .i64 0, .string ⟨#[]⟩, .string ⟨#[]⟩, .slice none 0 0], .int .i64 2, .int .i64 2]) (by simp [results, Tryz.results10, go_sem, r0, r1, r2, r3]) rfl ?_
            exact ReadOut.bad (n := 2) (k := 2) HX.out (HBAD.out _ (below_drewN HBR.out _))
        · have hb : decide ((l.length : Int) ≤ 1) = true := by simp; omega
          have HX : Hid (R = (zeroD, 2, 2)) := by
            show _ = _
            rw [HR.out]; unfold readL
            rw [HA.out 0 (by omega)]
            have : headOk l 1 = false := by unfold headOk; rw [List.getElem?_eq_none (by omega)]
            rw [this]; rfl
          go_wp2
          go_quiet (fail)
          go_wp2
          refine bodyPost_ret (v := .tuple #[.agg #[.int .i64 0, .string ⟨#[]⟩, .string ⟨#[]⟩, .slice none 0 0], .int .i64 2, .int .i64 2]) (by simp [results, Tryz.results10, go_sem, r0, r1, r2, r3]) rfl ?_
          exact ReadOut.bad (n := 2) (k := 2) HX.out (HBAD.out _ (below_drewN HBR.out _))
      · by_cases hl : 2 < l.length
        · have hb : decide ((l.length : Int) ≤ 2) = false := by simp; omega
          have hlI : (2 : Int) < (l.length : Int) := by omega
          have hlk : l[2]? = some l[2] := List.getElem?_eq_getElem hl
          obtain ⟨b0, off, rfl, hb0, c0, c1⟩ := fld_at HOR.out.sl hlk
          obtain ⟨f, hf⟩ : ∃ f, f = l[2] := ⟨_, rfl⟩
          rw [← hf] at c0 c1 hlk
          simp only [Nat.one_mul, Nat.reduceMul] at c0 c1
          have HLK := Lib.hid hlk
          clear hlk hf
          by_cases hnm : f.1 = ⟨#[105, 115, 115, 117, 101, 114]⟩
          · have s2 : f.1.toList = [105, 115, 115, 117, 101, 114] := by rw [hnm, ByteArray.toList_eq]
            have HY : Hid (headOk l 2 = true) := by
              show headOk l 2 = true
              unfold headOk; rw [HLK.out]
              have : f.1 = headN 2 := hnm
              simp [this]
            clear hnm
            go_wp2
            go_quiet (fail)
            go_wp2
            go_roundw
            case rel =>
              refine ⟨3, by omega, by go_num, ?_, below_drewN H.out _⟩
              intro j hj
              rcases Nat.lt_or_ge j 2 with h | h
              · exact HA.out j h
              · obtain rfl : j = 2 := by omega
                exact HY.out
            case measure => simp [intOf]
          · have s1 : (f.1.toList == [105, 115, 115, 117, 101, 114]) = false := bs_const_ne hnm
            have HX : Hid (R = (zeroD, 3, 2)) := by
              show _ = _
              rw [HR.out]; unfold readL
              rw [HA.out 0 (by omega)]
              rw [HA.out 1 (by omega)]
              have : headOk l 2 = false := by
                unfold headOk; rw [HLK.out]
                have : ¬ f.1 = headN 2 := hnm
                simp [this]
              rw [this]; rfl
            clear hnm
            go_wp2
            go_quiet (fail)
            go_wp2
            refine bodyPost_ret (v := .tuple #[.agg #[.int .i64 0, .string ⟨#[]⟩, .string ⟨#[]⟩, .slice none 0 0], .int .i64 3, .int .i64 2]) (by simp [results, Tryz.results10, go_sem, r0, r1, r2, r3]) rfl ?_
            exact ReadOut.bad (n := 3) (k := 2) HX.out (HBAD.out _ (below_drewN HBR.out _))
        · have hb : decide ((l.length : Int) ≤ 2) = true := by simp; omega
          have HX : Hid (R = (zeroD, 3, 2)) := by
            show _ = _
            rw [HR.out]; unfold readL
            rw [HA.out 0 (by omega)]
            rw [HA.out 1 (by omega)]
            have : headOk l 2 = false := by unfold headOk; rw [List.getElem?_eq_none (by omega)]
            rw [this]; rfl
          go_wp2
          go_quiet (fail)
          go_wp2
          refine bodyPost_ret (v := .tuple #[.agg #[.int .i64 0, .string ⟨#[]⟩, .string ⟨#[]⟩, .slice none 0 0], .int .i64 3, .int .i64 2]) (by simp [results, Tryz.results10, go_sem, r0, r1, r2, r3]) rfl ?_
          exact ReadOut.bad (n := 3) (k := 2) HX.out (HBAD.out _ (below_drewN HBR.out _))
      · have hok0 := HA.out 0 (by omega)
        have hok1 := HA.out 1 (by omega)
        have hok2 := HA.out 2 (by omega)
        have hl3 : 3 ≤ l.length := by
          unfold headOk at hok2
          rcases Nat.lt_or_ge 2 l.length with h | h
          · exact h
          · rw [List.getElem?_eq_none h] at hok2; cases hok2
        have hm0 : l[0]? = some l[0] := List.getElem?_eq_getElem (by omega)
        have hm1 : l[1]? = some l[1] := List.getElem?_eq_getElem (by omega)
        have hm2 : l[2]? = some l[2] := List.getElem?_eq_getElem (by omega)
        obtain ⟨x0, hx0⟩ : ∃ x0, x0 = l[0] := ⟨_, rfl⟩
        obtain ⟨x1, hx1⟩ : ∃ x1, x1 = l[1] := ⟨_, rfl⟩
        obtain ⟨x2, hx2⟩ : ∃ x2, x2 = l[2] := ⟨_, rfl⟩
        rw [← hx0] at hm0
        rw [← hx1] at hm1
        rw [← hx2] at hm2
        have HX : Hid (R = (⟨idxS kindL x0.2, x1.2, x2.2, l.drop 3⟩, 0, 0)) := by
          show _ = _
          rw [HR.out]; unfold readL
          rw [hok0, hok1, hok2]
          simp [valAt, hm0, hm1, hm2]
        obtain ⟨g, cap, hv, hg1, hg2, hg3, hg4, _⟩ := HOR.out.form (by simp; omega)
        rw [List.length_map] at hv hg3
        injection hv with hv1 hv2 hv3
        subst hv1; subst hv3
        have c0 : wr.cell? ⟨g, 1, none⟩ = some (.string x0.2) := by simpa using HOR.out.cellAt (k := 0) (j := 1) (r := frow x0) (u := .string x0.2) (by simp [hm0]) rfl
        have c1 : wr.cell? ⟨g, 3, none⟩ = some (.string x1.2) := by simpa using HOR.out.cellAt (k := 1) (j := 1) (r := frow x1) (u := .string x1.2) (by simp [hm1]) rfl
        have c2 : wr.cell? ⟨g, 5, none⟩ = some (.string x2.2) := by simpa using HOR.out.cellAt (k := 2) (j := 1) (r := frow x2) (u := .string x2.2) (by simp [hm2]) rfl
        have HSL : Hid (∀ W, OwnC W (w.heap.size + 1) 39 2 (l.map frow) (.slice (some ⟨g, 0, none⟩) l.length c) → SlC W W.heap.size 2 ((l.drop 3).map frow) (.slice (some ⟨g, 6, none⟩) (l.length - 3) (c - 3))) := fun W h => by
          have := SlC.drop_ 3 h.sl hl3
          simpa using this
        have hnil : ¬ l = [] := fun h => by rw [h] at hl3; simp at hl3
        have hne1 : ¬ g = w.heap.size := by omega
        have hne2 : ¬ w.heap.size = g := by omega
        have hl3I : (3 : Int) ≤ (l.length : Int) := by omega
        have hl0I : (0 : Int) < (l.length : Int) := by omega
        have hl0N : 0 < l.length := by omega
        have hl1I : (1 : Int) < (l.length : Int) := by omega
        have hl2I : (2 : Int) < (l.length : Int) := by omega
        obtain ⟨ix, hix⟩ : ∃ ix, ix = idxS kindL x0.2 := ⟨_, rfl⟩
        have HIX := Lib.hid hix
        have HD := Lib.hid (List.length_drop (i := 3) (l := l))
        clear hok0 hok1 hok2 hm0 hm1 hm2 hx0 hx1 hx2 hix hv2
        rw [show ((3 : Nat) : Int) = 3 from rfl]
        by_cases hcap : c = 3
        · subst hcap
          have hle3 : l.length = 3 := by omega
          have HL3 := Lib.hid hle3
          clear hle3
          go_wp2
          go_region_held3 (fun W => W.cell? ⟨g, 1, none⟩ = some (.string x0.2) ∧ W.cell? ⟨g, 3, none⟩ = some (.string x1.2) ∧ W.cell? ⟨g, 5, none⟩ = some (.string x2.2)) (go_keep) (first | (go_at_call 16; refine (kinds_any _).mono ?_; rintro e w2 ⟨gk, rfl, hgk, hs2, hz2, hb2⟩; have d0 : w2.cell? ⟨g, 1, none⟩ = some (.string x0.2) := ((bcell hb2).1 g _ hg2).trans c0; have d1 : w2.cell? ⟨g, 3, none⟩ = some (.string x1.2) := ((bcell hb2).1 g _ hg2).trans c1; have d2 : w2.cell? ⟨g, 5, none⟩ = some (.string x2.2) := ((bcell hb2).1 g _ hg2).trans c2; have HS2 : Hid (SlC w2 w2.heap.size 1 (kindL.map srow) (.slice (some ⟨gk, 0, none⟩) 6 6) ∧ Below wr.heap.size wr w2) := ⟨hs2, (below_drewN (Below.refl _ wr) 1).trans hb2⟩; have q0 := ((bcell hb2).1 w.heap.size 0 hszw).trans r0; have q1 := ((bcell hb2).1 w.heap.size 1 hszw).trans r1; have q2 := ((bcell hb2).1 w.heap.size 2 hszw).trans r2; have q3 := ((bcell hb2).1 w.heap.size 3 hszw).trans r3; have p0 := ((bcell hb2).2 w.heap.size 0 hszw).trans e0; have p1 := ((bcell hb2).2 w.heap.size 1 hszw).trans e1; have p2 := ((bcell hb2).2 w.heap.size 2 hszw).trans e2; have p3 := ((bcell hb2).2 w.heap.size 3 hszw).trans e3; clear hb2 hs2 hz2 hgk) | (go_at_call 20; refine (index_any kindL x0.2 _ _ _ HS2.out.1).mono ?_; rintro e w3 ⟨rfl, rfl⟩; rw [← HIX.out]))
          all_goals
            have HBF : Hid (Below w.heap.size w w3) := HBR.out.trans (HS2.out.2.mono (by omega))
            go_wp2
            refine bodyPost_ret (v := .tuple #[.agg #[.int .i64 ix, .string x1.2, .string x2.2, .slice (some ⟨g, 0, none⟩) 0 0], .int .i64 0, .int .i64 0]) (by simp [results, Tryz.results10, go_sem, q0, q1, q2, q3]) rfl ?_
            rw [HX.out, HIX.out]
            refine ⟨.slice (some ⟨g, 0, none⟩) 0 0, rfl, ?_, HBAD2.out _ _ _ _ _ HBF.out⟩
            have hdr : l.drop 3 = [] := List.drop_eq_nil_of_le (by rw [HL3.out]; exact Nat.le_refl _)
            show SlC _ _ 2 ((l.drop 3).map frow) _
            rw [hdr]
            exact ⟨_, 0, rfl, Nat.le_refl _, Nat.zero_le _, fun h => absurd h (by simp)⟩
        · go_wp2
          go_region_held3 (fun W => W.cell? ⟨g, 1, none⟩ = some (.string x0.2) ∧ W.cell? ⟨g, 3, none⟩ = some (.string x1.2) ∧ W.cell? ⟨g, 5, none⟩ = some (.string x2.2)) (go_keep) (first | (go_at_call 16; refine (kinds_any _).mono ?_; rintro e w2 ⟨gk, rfl, hgk, hs2, hz2, hb2⟩; have d0 : w2.cell? ⟨g, 1, none⟩ = some (.string x0.2) := ((bcell hb2).1 g _ hg2).trans c0; have d1 : w2.cell? ⟨g, 3, none⟩ = some (.string x1.2) := ((bcell hb2).1 g _ hg2).trans c1; have d2 : w2.cell? ⟨g, 5, none⟩ = some (.string x2.2) := ((bcell hb2).1 g _ hg2).trans c2; have HS2 : Hid (SlC w2 w2.heap.size 1 (kindL.map srow) (.slice (some ⟨gk, 0, none⟩) 6 6) ∧ Below wr.heap.size wr w2) := ⟨hs2, (below_drewN (Below.refl _ wr) 1).trans hb2⟩; have q0 := ((bcell hb2).1 w.heap.size 0 hszw).trans r0; have q1 := ((bcell hb2).1 w.heap.size 1 hszw).trans r1; have q2 := ((bcell hb2).1 w.heap.size 2 hszw).trans r2; have q3 := ((bcell hb2).1 w.heap.size 3 hszw).trans r3; have p0 := ((bcell hb2).2 w.heap.size 0 hszw).trans e0; have p1 := ((bcell hb2).2 w.heap.size 1 hszw).trans e1; have p2 := ((bcell hb2).2 w.heap.size 2 hszw).trans e2; have p3 := ((bcell hb2).2 w.heap.size 3 hszw).trans e3; clear hb2 hs2 hz2 hgk) | (go_at_call 20; refine (index_any kindL x0.2 _ _ _ HS2.out.1).mono ?_; rintro e w3 ⟨rfl, rfl⟩; rw [← HIX.out]))
          all_goals
            have HBF : Hid (Below w.heap.size w w3) := HBR.out.trans (HS2.out.2.mono (by omega))
            have HOF : Hid (OwnC w3 (w.heap.size + 1) 39 2 (l.map frow) (.slice (some ⟨g, 0, none⟩) l.length c)) := HOR.out.below HS2.out.2
            go_wp2
            refine bodyPost_ret (v := .tuple #[.agg #[.int .i64 ix, .string x1.2, .string x2.2, .slice (some ⟨g, 6, none⟩) (l.length - 3) (c - 3)], .int .i64 0, .int .i64 0]) (by simp [results, Tryz.results10, go_sem, q0, q1, q2, q3]) rfl ?_
            rw [HX.out, HIX.out]
            refine ⟨.slice (some ⟨g, 6, none⟩) (l.length - 3) (c - 3), rfl, ?_, HBAD2.out _ _ _ _ _ HBF.out⟩
            exact HSL.out _ ((((HOF.out.setBelow (p := ⟨w.heap.size, 0, none⟩) (Nat.lt_succ_self _) _).setBelow (p := ⟨w.heap.size, 1, none⟩) (Nat.lt_succ_self _) _).setBelow (p := ⟨w.heap.size, 2, none⟩) (Nat.lt_succ_self _) _).setBelow (p := ⟨w.heap.size, 3, none⟩) (Nat.lt_succ_self _) _)
  · have he : ((er : Int) != 0) = true := by simp; omega
    have HR2 : Hid (R = (zeroD, n, er)) := by have := HR.out; rw [if_neg (by omega)] at this; exact this
    clear h0 HR
    go_wp2
    refine bodyPost_ret (v := .tuple #[.agg #[.int .i64 0, .string ⟨#[]⟩, .string ⟨#[]⟩, .slice none 0 0], .int .i64 (n : Int), .int .i64 (er : Int)]) (by simp [results, Tryz.results10, go_sem, k0, k1, k2, k3, g0]) rfl ?_
    exact ReadOut.bad HR2.out ((((HB1.out.setCell (p := ⟨w.heap.size, 0, none⟩) (Nat.le_refl _) _).setCell (p := ⟨w.heap.size, 1, none⟩) (Nat.le_refl _) _).setCell (p := ⟨w.heap.size, 2, none⟩) (Nat.le_refl _) _).setCell (p := ⟨w.heap.size, 3, none⟩) (Nat.le_refl _) _)
end Go.Proofs.YtnohmhemniopoaaGreat
