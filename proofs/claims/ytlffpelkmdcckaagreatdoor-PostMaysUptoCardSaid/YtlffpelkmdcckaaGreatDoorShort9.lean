/- 09: law09's short: what it tells where all is small. -/
import Derived.Test.YtlffpelkmdcckaaGreatDoorPlainL
namespace Go.Proofs.YtlffpelkmdcckaaGreatDoor
open Go Go.RowKit Go.Sup
set_option maxRecDepth 100000
def fBulk (fs : List Fld) : Nat := (fs.map fun f => f.1.size + f.2.size).sum
def dBulk (d : DocD) : Nat := d.number.size + d.issuer.size + fBulk d.fields
def hBulk (l : LetD) : Nat := l.src.size + l.dst.size + l.deal.size + l.party.size + l.text.size
def docsBulk (ds : List DocD) : Nat := (ds.map dBulk).sum
def strsBulk (bs : List ByteArray) : Nat := (bs.map ByteArray.size).sum
def lBulk (l : LetD) : Nat := hBulk l + docsBulk l.docs + strsBulk l.boxes
theorem sum_take_le (l : List Nat) (k : Nat) : (l.take k).sum ≤ l.sum := by
  induction l generalizing k with
  | nil => simp
  | cons a l ih =>
    cases k with
    | zero => simp
    | succ k => simp only [List.take_succ_cons, List.sum_cons]; have := ih k; omega
theorem sum_take_succ (l : List Nat) (k : Nat) (h : k < l.length) : (l.take (k + 1)).sum = (l.take k).sum + l[k] := by
  rw [List.take_succ_eq_append_getElem h, List.sum_append]; simp
theorem sum_take_add {α : Type} (f : α → Nat) (l : List α) (k : Nat) (h : k < l.length) : ((l.take k).map f).sum + f l[k] ≤ (l.map f).sum := by
  have h1 := sum_take_succ (l.map f) k (by simpa using h)
  have h2 := sum_take_le (l.map f) (k + 1)
  rw [List.map_take]
  simp only [List.getElem_map] at h1
  omega
theorem sum_snoc {α : Type} (f : α → Nat) (l : List α) (k : Nat) (h : k < l.length) : ((l.take (k + 1)).map f).sum = ((l.take k).map f).sum + f l[k] := by
  rw [List.take_succ_eq_append_getElem h, List.map_append, List.sum_append]; simp
/-- What short tells. -/
def ShortP (l : LetD) : Prop := lBulk l ≤ 9000 ∧ l.docs.length ≤ 12 ∧ l.boxes.length ≤ 60 ∧ ∀ d ∈ l.docs, d.fields.length ≤ 80
def ShortOut (w : World) (SP : Prop) (e : Ending) (w' : World) : Prop := ∃ b, e = .returned (.bool b) ∧ (b = true → SP) ∧ Below w.heap.size w w'
set_option maxHeartbeats 4000000 in
theorem short_any (l : LetD) (hl : lBulk l ≤ 1048576) (w : World) (B : Nat) (v : Value) (hv : LetC w B l v) (hB : B ≤ w.heap.size) :
    Calls Tryz.prog 13 #[v] w (ShortOut w (ShortP l)) := by
  obtain ⟨dv, bv, rfl, da, sa⟩ := hv
  obtain ⟨Ad, cd, rfl, hc1, hc2⟩ := da.form
  obtain ⟨Ab, cb, rfl, hb1, hb2, -⟩ := id sa
  rw [List.length_map] at sa hb1 ⊢
  have Hda := Lib.hid da
  have Hsa := Lib.hid sa
  unfold maxLen at hc2 hb2
  have HLB : Hid (lBulk l = hBulk l + docsBulk l.docs + strsBulk l.boxes) := rfl
  have hL : hBulk l + docsBulk l.docs + strsBulk l.boxes ≤ 1048576 := hl
  have HS : Hid (lBulk l ≤ 9000 → l.docs.length ≤ 12 → l.boxes.length ≤ 60 → (∀ d ∈ l.docs, d.fields.length ≤ 80) → ShortP l) := fun a b c d => ⟨a, b, c, d⟩
  obtain ⟨SP, hSP⟩ : ∃ P : Prop, P = ShortP l := ⟨_, rfl⟩
  rw [← hSP] at HS ⊢
  rw [HLB.out] at HS
  clear da sa hl hSP HLB
  obtain ⟨l0, l1, l2, l3, l4, l5, l6, l7, l8, l9, l10, l11, ld, lb⟩ := l
  simp only [LetD.val, hBulk] at *
  obtain ⟨hb, hhb⟩ : ∃ n : Nat, l0.size + l1.size + l5.size + l7.size + l6.size = n := ⟨_, rfl⟩
  rw [hhb] at HS hL
  obtain ⟨W0, hW0⟩ : ∃ W0, W0 = w.alloc (.cells #[.string l0, .string l1, .int .i64 l2, .int .i64 l3, .int .i64 l4, .string l5, .string l6, .string l7, .int .i64 l8, .int .i64 l9, .string l10, .int .i64 l11, .slice Ad ld.length cd, .slice Ab lb.length cb] 33) := ⟨_, rfl⟩
  have HF : Hid (∀ W, Below (w.heap.size + 1) W0 W → Below w.heap.size w W) := fun W h => by
    rw [hW0] at h; exact ((Below.refl _ _).alloc (Nat.le_refl _) _).trans (h.mono (by omega))
  have HK : Hid (∀ W, Below (w.heap.size + 1) W0 W → W.cell? ⟨w.heap.size, 0, none⟩ = some (.string l0) ∧ W.cell? ⟨w.heap.size, 1, none⟩ = some (.string l1) ∧ W.cell? ⟨w.heap.size, 5, none⟩ = some (.string l5) ∧ W.cell? ⟨w.heap.size, 6, none⟩ = some (.string l6) ∧ W.cell? ⟨w.heap.size, 7, none⟩ = some (.string l7) ∧ W.cell? ⟨w.heap.size, 12, none⟩ = some (.slice Ad ld.length cd) ∧ W.cell? ⟨w.heap.size, 13, none⟩ = some (.slice Ab lb.length cb)) := fun W h => by
    rw [hW0] at h
    obtain ⟨z0, z1⟩ := bcell h
    refine ⟨(z0 w.heap.size 0 (by omega)).trans (by go_simp), (z0 w.heap.size 1 (by omega)).trans (by go_simp), (z0 w.heap.size 5 (by omega)).trans (by go_simp), (z0 w.heap.size 6 (by omega)).trans (by go_simp), (z0 w.heap.size 7 (by omega)).trans (by go_simp), (z0 w.heap.size 12 (by omega)).trans (by go_simp), (z0 w.heap.size 13 (by omega)).trans (by go_simp)⟩
  have HY : Hid (w.heap.size + 1 ≤ W0.heap.size) := show w.heap.size + 1 ≤ W0.heap.size by rw [hW0]; simp
  obtain ⟨k0, k1, k5, k6, k7, k12, k13⟩ := HK.out _ (Below.refl _ _)
  have HW := Lib.hid hW0
  clear hW0
  have i0 : IntKind.i64.wrap ((l0.size : Int) + (l1.size : Int)) = (l0.size : Int) + (l1.size : Int) := by rw [IntKind.wrap_i64]; omega
  go_enter Tryz.func13, Tryz.ntmps13
  go_upto_region 1 with fail
  rw [← HW.out]
  go_cut [3] from 10 (fun s wx => s = .int .i64 (hb : Nat) ∧ wx = W0)
  case first =>
    go_wp2_with fail
    go_meet
    case rel => exact ⟨by go_num, rfl⟩
  case rest =>
  obtain ⟨hu, hwc⟩ := hcut
  subst hu
  replace hwc := hwc.symm
  subst hwc
  clear i0 hhb k0 k1 k5 k6 k7
  go_wp2_with fail
  go_loopw [3, 32] (fun s i wr => ∃ k n : Nat, k ≤ ld.length ∧ i = .int .i64 k ∧ s = .int .i64 (n : Nat) ∧ Hid (n = hb + ((ld.take k).map dBulk).sum) ∧ Hid (∀ d ∈ ld.take k, d.fields.length ≤ 80) ∧ Hid (Below (w.heap.size + 1) W0 wr)) (fun _ i _ => ld.length - (intOf i).toNat)
  case atStart => exact ⟨0, hb, Nat.zero_le _, rfl, rfl, by show hb = _; simp, fun d hd => by simp at hd, Below.refl _ _⟩
  case round =>
    clear k12 k13
    obtain ⟨k, n, hk, rfl, rfl, HN, HE, HB⟩ := hrel
    obtain ⟨k0, k1, k5, k6, k7, k12, k13⟩ := HK.out _ HB.out
    clear k0 k1 k5 k6 k7
    have hBw : w.heap.size + 1 ≤ wr.heap.size := Nat.le_trans HY.out HB.out.size
    by_cases hlt : k < ld.length
    · obtain ⟨b1, o1, fv1, rfl, hb1', hs1, p0, p1, p2, p3⟩ := doc_at (Hda.out.below ((HF.out _ HB.out).mono hB)) (List.getElem?_eq_getElem hlt)
      obtain ⟨d1, hd1⟩ : ∃ d, d = ld[k] := ⟨_, rfl⟩
      have HS1 : Hid (((ld.take (k + 1)).map dBulk).sum = ((ld.take k).map dBulk).sum + dBulk d1) := by rw [hd1]; exact sum_snoc dBulk ld k hlt
      have HE1 : Hid (d1.fields.length ≤ 80 → ∀ d ∈ ld.take (k + 1), d.fields.length ≤ 80) := fun h d hd => by
        rw [List.take_succ_eq_append_getElem hlt, List.mem_append] at hd
        rcases hd with hd | hd
        · exact HE.out d hd
        · simp only [List.mem_singleton] at hd
          rw [hd, ← hd1]; exact h
      have hq : n + dBulk d1 ≤ 1048576 := by
        have h1 := sum_take_add dBulk ld k hlt
        rw [← hd1] at h1
        have h2 : docsBulk ld = (ld.map dBulk).sum := rfl
        have h3 := HN.out
        omega
      rw [← hd1] at p0 p1 p2 hs1
      obtain ⟨F1, f1, rfl, hf1, hf2, -⟩ := id hs1
      rw [List.length_map] at hs1 p3 hf1
      unfold maxLen at hf2
      have HDB : Hid (dBulk d1 = d1.number.size + d1.issuer.size + fBulk d1.fields) := rfl
      have hq2 : n + (d1.number.size + d1.issuer.size + fBulk d1.fields) ≤ 1048576 := hq
      have HFS := Lib.hid (hs1.more (Nat.le_trans (Nat.le_trans hB (Nat.le_succ _)) hBw))
      obtain ⟨dk, dn, di, df⟩ := d1
      simp only at p0 p1 p2 p3 hf1 HDB hq2 HFS HE1
      have hlI : (k : Int) < (ld.length : Int) := by omega
      obtain ⟨w1, hw1⟩ : ∃ w1, w1 = wr := ⟨_, rfl⟩
      subst hw1
      clear hs1 hd1 hq hb1'
      go_wp2_with fail
      go_loopw [3, 48] (fun s i wx => ∃ j m : Nat, j ≤ df.length ∧ i = .int .i64 j ∧ s = .int .i64 (m : Nat) ∧ Hid (m = n + (dn.size + di.size) + ((df.take j).map fun f => f.1.size + f.2.size).sum) ∧ Hid (Below (w1.heap.size + 1) (w1.alloc (.cells #[.int .i64 dk, .string dn, .string di, .slice F1 df.length f1] 38)) wx)) (fun _ i _ => df.length - (intOf i).toNat)
      case atStart => exact ⟨0, n + (dn.size + di.size), Nat.zero_le _, rfl, by go_num, by show _ = _; simp, Below.refl _ _⟩
      case round =>
        obtain ⟨j, m, hj, rfl, rfl, HM, HX⟩ := hrel
        have hXs := HX.out.size
        rw [World.size_alloc] at hXs
        obtain ⟨z0, z1⟩ := bcell HX.out
        have q3 : wr.cell? ⟨w1.heap.size, 3, none⟩ = some (.slice F1 df.length f1) := (z0 w1.heap.size 3 (by omega)).trans (by go_simp)
        clear z0 z1
        by_cases hjl : j < df.length
        · obtain ⟨b2, o2, rfl, hb2', c0, c1⟩ := fld_at (HFS.out.keep fun p hp => (HX.out.cell (by omega)).trans (World.cell?_alloc_lt _ _ _ hp)) (List.getElem?_eq_getElem hjl)
          obtain ⟨f, hf⟩ : ∃ f, f = df[j] := ⟨_, rfl⟩
          have HS2 : Hid (((df.take (j + 1)).map fun f => f.1.size + f.2.size).sum = ((df.take j).map fun f => f.1.size + f.2.size).sum + (f.1.size + f.2.size)) := by rw [hf]; exact sum_snoc (fun f : Fld => f.1.size + f.2.size) df j hjl
          have hq3 : m + (f.1.size + f.2.size) ≤ 1048576 := by
            have h1 := sum_take_add (fun f : Fld => f.1.size + f.2.size) df j hjl
            rw [← hf] at h1
            have h2 : fBulk df = (df.map fun f => f.1.size + f.2.size).sum := rfl
            have h3 := HM.out
            omega
          rw [← hf] at c0 c1
          have hjI : (j : Int) < (df.length : Int) := by omega
          clear hf
          go_wp2_with fail
          go_roundw
          case rel => exact ⟨j + 1, m + (f.1.size + f.2.size), hjl, by go_num, by go_num, by show _ = _; rw [HS2.out, HM.out]; omega, HX.out.alloc (by omega) _⟩
          case measure => simp [intOf]; omega
        · obtain rfl : j = df.length := by omega
          have HMD : Hid (m = hb + ((ld.take (k + 1)).map dBulk).sum) := by
            show m = _
            have h3 := HM.out
            rw [List.take_length] at h3
            have h4 : fBulk df = (df.map fun f => f.1.size + f.2.size).sum := rfl
            rw [HS1.out, HDB.out, h3, HN.out]; omega
          have hm : m ≤ 1048576 := by
            have h3 := HM.out
            rw [List.take_length] at h3
            have h4 : fBulk df = (df.map fun f => f.1.size + f.2.size).sum := rfl
            omega
          have HBB : Hid (Below (w.heap.size + 1) W0 wr) := HB.out.trans (((Below.refl _ _).alloc (Nat.le_refl _) _ |>.trans (HX.out.mono (by omega))).mono hBw)
          clear hj hjl HM
          have e1 : (9000 : Int) < (m : Int) ∨ ¬ (9000 : Int) < (m : Int) := by omega
          have e2 : (80 : Int) < (df.length : Int) ∨ ¬ (80 : Int) < (df.length : Int) := by omega
          rcases e1 with e1 | e1
          · go_wp2_with fail
            go_ret
            exact ⟨_, rfl, fun h => by simp at h, HF.out _ HBB.out⟩
          · rcases e2 with e2 | e2
            · go_wp2_with fail
              go_ret
              exact ⟨_, rfl, fun h => by simp at h, HF.out _ HBB.out⟩
            · have HE2 := Lib.hid (HE1.out (by omega))
              go_wp2_with fail
              go_roundw
              case rel => exact ⟨k + 1, m, hlt, by go_num, rfl, HMD, HE2, HBB⟩
              case measure => simp [intOf]; omega
    · obtain rfl : k = ld.length := by omega
      have HE2 : Hid (∀ d ∈ ld, d.fields.length ≤ 80) := by
        have := HE.out
        rw [List.take_length] at this
        exact this
      have HN2 : Hid (n = hb + docsBulk ld) := by
        have := HN.out
        rw [List.take_length] at this
        exact this
      have hnn : n + strsBulk lb ≤ 1048576 := by have := HN2.out; omega
      clear hlt hk HN HE
      obtain ⟨w1, hw1⟩ : ∃ w1, w1 = wr := ⟨_, rfl⟩
      subst hw1
      go_wp2_with fail
      go_loop [3, 74] (fun s i => ∃ j m : Nat, j ≤ lb.length ∧ i = .int .i64 j ∧ s = .int .i64 (m : Nat) ∧ Hid (m = n + ((lb.take j).map ByteArray.size).sum)) (fun _ i => lb.length - (intOf i).toNat)
      case atStart => exact ⟨0, n, Nat.zero_le _, rfl, rfl, by show _ = _; simp⟩
      case round =>
        obtain ⟨j, m, hj, rfl, rfl, HM⟩ := hrel
        by_cases hjl : j < lb.length
        · obtain ⟨b2, o2, rfl, hb2', c0⟩ := str_at (Hsa.out.below ((HF.out _ HB.out).mono hB)) (List.getElem?_eq_getElem hjl)
          obtain ⟨f, hf⟩ : ∃ f, f = lb[j] := ⟨_, rfl⟩
          have HS2 : Hid (((lb.take (j + 1)).map ByteArray.size).sum = ((lb.take j).map ByteArray.size).sum + f.size) := by rw [hf]; exact sum_snoc ByteArray.size lb j hjl
          have hq3 : m + f.size ≤ 1048576 := by
            have h1 := sum_take_add ByteArray.size lb j hjl
            rw [← hf] at h1
            have h2 : strsBulk lb = (lb.map ByteArray.size).sum := rfl
            have h3 := HM.out
            omega
          rw [← hf] at c0
          have hjI : (j : Int) < (lb.length : Int) := by omega
          clear hf
          go_wp2_with fail
          go_round
          case rel => exact ⟨j + 1, m + f.size, hjl, by go_num, by go_num, by show _ = _; rw [HS2.out, HM.out]; omega⟩
          case measure => simp [intOf]; omega
        · obtain rfl : j = lb.length := by omega
          have HT : Hid (m ≤ 9000 → ld.length ≤ 12 → lb.length ≤ 60 → SP) := fun a b c => by
            have h3 := HM.out
            rw [List.take_length] at h3
            have h4 : strsBulk lb = (lb.map ByteArray.size).sum := rfl
            exact HS.out (by have := HN2.out; omega) b c HE2.out
          clear hj hjl HM
          have e1 : (m : Int) ≤ 9000 ∨ ¬ (m : Int) ≤ 9000 := by omega
          have e2 : (ld.length : Int) ≤ 12 ∨ ¬ (ld.length : Int) ≤ 12 := by omega
          have e3 : (lb.length : Int) ≤ 60 ∨ ¬ (lb.length : Int) ≤ 60 := by omega
          rcases e1 with e1 | e1
          · rcases e2 with e2 | e2
            · rcases e3 with e3 | e3
              · go_wp2_with fail
                go_ret
                exact ⟨_, rfl, fun _ => HT.out (by omega) (by omega) (by omega), HF.out _ HB.out⟩
              · go_wp2_with fail
                go_ret
                exact ⟨_, rfl, fun h => by first | (simp at h; done) | (simp at h; omega), HF.out _ HB.out⟩
            · go_wp2_with fail
              go_ret
              exact ⟨_, rfl, fun h => by simp at h, HF.out _ HB.out⟩
          · go_wp2_with fail
            go_ret
            exact ⟨_, rfl, fun h => by simp at h, HF.out _ HB.out⟩
end Go.Proofs.YtlffpelkmdcckaaGreatDoor
