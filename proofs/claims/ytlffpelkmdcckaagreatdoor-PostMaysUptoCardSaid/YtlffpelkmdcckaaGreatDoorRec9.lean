/- 09: post.record. Printed by wip/tools/gen_rec9.py. -/
import Derived.Test.YtlffpelkmdcckaaGreatDoorMay9
import Derived.Test.YtlffpelkmdcckaaGreatDoorNumb
namespace Go.Sup
open Go Go.RowKit
def n9from : ByteArray := ⟨#[102, 114, 111, 109]⟩
def n9to : ByteArray := ⟨#[116, 111]⟩
def n9number : ByteArray := ⟨#[110, 117, 109, 98, 101, 114]⟩
def n9kind : ByteArray := ⟨#[107, 105, 110, 100]⟩
def n9ack : ByteArray := ⟨#[97, 99, 107]⟩
def n9deal : ByteArray := ⟨#[100, 101, 97, 108]⟩
def n9text : ByteArray := ⟨#[116, 101, 120, 116]⟩
def n9party : ByteArray := ⟨#[112, 97, 114, 116, 121]⟩
def n9index : ByteArray := ⟨#[105, 110, 100, 101, 120]⟩
def n9day : ByteArray := ⟨#[100, 97, 121]⟩
def n9sum : ByteArray := ⟨#[115, 117, 109]⟩
def n9doc : ByteArray := ⟨#[100, 111, 99]⟩
def n9box : ByteArray := ⟨#[98, 111, 120]⟩
end Go.Sup
namespace Go.Proofs.YtlffpelkmdcckaaGreatDoor
open Go Go.RowKit Go.Sup
set_option maxRecDepth 100000
/-- The head of a letter's record; 'ms': the sum's text. -/
def head9 (l : LetD) (ms : ByteArray) : List Fld := [(n9from, l.src), (n9to, l.dst), (n9number, digS l.number), (n9kind, postN l.kind), (n9ack, digS l.ack), (n9deal, l.deal), (n9text, l.text), (n9party, l.party), (n9index, digS l.index), (n9day, digS l.day), (n9sum, ms)]
/-- A letter's record. -/
def rec9 (l : LetD) (ms : ByteArray) : List Fld := head9 l ms ++ l.docs.map (fun d => (n9doc, docS d)) ++ l.boxes.map (fun b => (n9box, b))
theorem itoa_any (n : Int) (h0 : -9223372036854775808 ≤ n) (h1 : n ≤ 9223372036854775807) (w : World) (hW : Lib.TabIs Tryz.prog w "internal/strconv.uint64pow10" .u64 Lib.pow10Tab) :
    Calls Tryz.prog 73 #[.int .i64 n] w fun e w' => e = .returned (.string (digS n)) ∧ Below w.heap.size w w' := by
  refine (Tryz.strconv_Itoa n h0 h1 w hW).mono ?_
  rintro e w' ⟨rfl, k, os, rfl⟩
  exact ⟨rfl, Lib.below_grow _ w (Nat.le_refl _) k os⟩
theorem inR_iff {n a b : Int} : inR n a b = true ↔ a ≤ n ∧ n ≤ b := by simp [inR]
theorem nB_in {l : LetD} (h : nB l = true) : (0 ≤ l.number ∧ l.number ≤ 1048576) ∧ (0 ≤ l.ack ∧ l.ack ≤ 1048576) ∧ (-1 ≤ l.index ∧ l.index ≤ 2) ∧ (0 ≤ l.day ∧ l.day ≤ 1048576) := by
  unfold nB at h
  simp only [Bool.and_eq_true, inR_iff] at h
  exact h
set_option maxHeartbeats 8000000 in
theorem rec9_any (l : LetD) (ms : ByteArray) (hl : SmallL l) (hn : nB l = true) (hd8 : l.docs.length ≤ 1000000) (hb8 : l.boxes.length ≤ 1000000) (w : World) (B : Nat) (v : Value) (hv : LetC w B l v) (hB : B ≤ w.heap.size) (hT : TabW w) (hP : Lib.TabIs Tryz.prog w "internal/strconv.uint64pow10" .u64 Lib.pow10Tab)
    (hms : ∀ W, Below w.heap.size w W → Calls Tryz.prog 74 #[.agg #[.string l.cur, .int .i64 l.amount]] W fun e w' => e = .returned (.string ms) ∧ Below W.heap.size W w') :
    Calls Tryz.prog 51 #[v] w fun e w' => ∃ v', e = .returned v' ∧ SlC w' w'.heap.size 2 ((rec9 l ms).map frow) v' ∧ Below w.heap.size w w' := by
  have HI : Hid (∀ n, -1 ≤ n → n ≤ 1048576 → ∀ W, Below w.heap.size w W → Calls Tryz.prog 73 #[.int .i64 n] W fun e w' => e = .returned (.string (digS n)) ∧ Below W.heap.size W w') := fun n h0 h1 W h => itoa_any n (by omega) (by omega) W (var_below hP h)
  have HM : Hid (∀ k W, Below w.heap.size w W → Calls Tryz.prog 12 #[.int .i64 k] W fun e w' => e = .returned (.string (postN k)) ∧ Below W.heap.size W w') := fun k W h => postName_any k W (hT.below h)
  have HMS := Lib.hid hms
  have HN := Lib.hid (nB_in hn)
  have HR : Hid (rec9 l ms = head9 l ms ++ l.docs.map (fun d => (n9doc, docS d)) ++ l.boxes.map (fun b => (n9box, b))) := rfl
  obtain ⟨dv, bv, rfl, da, sa⟩ := hv
  obtain ⟨Ad, cd, rfl, hcd1, hcd2⟩ := da.form
  obtain ⟨Ab, cb, rfl, hcb1, hcb2, -⟩ := id sa
  rw [List.length_map] at sa hcb1 ⊢
  have HDa : Hid (∀ d ∈ l.docs, SmallE d) := hl
  have Hda := Lib.hid da
  have Hsa := Lib.hid sa
  obtain ⟨H, hH⟩ : ∃ H, H = head9 l ms := ⟨_, rfl⟩
  have HH : Hid (H.length = 11) := by show H.length = 11; rw [hH]; rfl
  have HFl : Hid (∀ (W : World), W.heap.size ≥ w.heap.size + 1 → OwnC (W.alloc (.cells #[.string n9from, .string l.src, .string n9to, .string l.dst, .string n9number, .string (digS l.number), .string n9kind, .string (postN l.kind), .string n9ack, .string (digS l.ack), .string n9deal, .string l.deal, .string n9text, .string l.text, .string n9party, .string l.party, .string n9index, .string (digS l.index), .string n9day, .string (digS l.day), .string n9sum, .string ms] 43)) (w.heap.size + 1) 43 2 (H.map frow) (.slice (some ⟨W.heap.size, 0, none⟩) 11 11)) := fun W hW => OwnC.lit W (H.map frow) (frow_len H) (by rw [hH]; rfl) _ hW 11 (by rw [hH]; rfl) (by decide)
  rw [← hH] at HR
  clear hn hms hT hP hl da sa hH hcd1 hcb1
  unfold maxLen at hcd2 hcb2
  obtain ⟨R, hR⟩ : ∃ R, R = rec9 l ms := ⟨_, rfl⟩
  rw [← hR] at HR ⊢
  clear hR
  obtain ⟨l0, l1, l2, l3, l4, l5, l6, l7, l8, l9, l10, l11, ld, lb⟩ := l
  simp only [LetD.val] at *
  obtain ⟨W0, hW0⟩ : ∃ W0, W0 = w.alloc (.cells #[.string l0, .string l1, .int .i64 l2, .int .i64 l3, .int .i64 l4, .string l5, .string l6, .string l7, .int .i64 l8, .int .i64 l9, .string l10, .int .i64 l11, .slice Ad ld.length cd, .slice Ab lb.length cb] 33) := ⟨_, rfl⟩
  have HF : Hid (∀ W, Below (w.heap.size + 1) W0 W → Below w.heap.size w W) := fun W h => by
    rw [hW0] at h; exact ((Below.refl _ _).alloc (Nat.le_refl _) _).trans (h.mono (by omega))
  have HK : Hid (∀ W, Below (w.heap.size + 1) W0 W → W.cell? ⟨w.heap.size, 0, none⟩ = some (.string l0) ∧ W.cell? ⟨w.heap.size, 1, none⟩ = some (.string l1) ∧ W.cell? ⟨w.heap.size, 2, none⟩ = some (.int .i64 l2) ∧ W.cell? ⟨w.heap.size, 3, none⟩ = some (.int .i64 l3) ∧ W.cell? ⟨w.heap.size, 4, none⟩ = some (.int .i64 l4) ∧ W.cell? ⟨w.heap.size, 5, none⟩ = some (.string l5) ∧ W.cell? ⟨w.heap.size, 6, none⟩ = some (.string l6) ∧ W.cell? ⟨w.heap.size, 7, none⟩ = some (.string l7) ∧ W.cell? ⟨w.heap.size, 8, none⟩ = some (.int .i64 l8) ∧ W.cell? ⟨w.heap.size, 9, none⟩ = some (.int .i64 l9) ∧ W.cell? ⟨w.heap.size, 10, none⟩ = some (.string l10) ∧ W.cell? ⟨w.heap.size, 11, none⟩ = some (.int .i64 l11) ∧ W.cell? ⟨w.heap.size, 12, none⟩ = some (.slice Ad ld.length cd) ∧ W.cell? ⟨w.heap.size, 13, none⟩ = some (.slice Ab lb.length cb)) := fun W h => by
    rw [hW0] at h
    obtain ⟨z0, z1⟩ := bcell h
    refine ⟨(z0 w.heap.size 0 (by omega)).trans (by go_simp), (z0 w.heap.size 1 (by omega)).trans (by go_simp), (z0 w.heap.size 2 (by omega)).trans (by go_simp), (z0 w.heap.size 3 (by omega)).trans (by go_simp), (z0 w.heap.size 4 (by omega)).trans (by go_simp), (z0 w.heap.size 5 (by omega)).trans (by go_simp), (z0 w.heap.size 6 (by omega)).trans (by go_simp), (z0 w.heap.size 7 (by omega)).trans (by go_simp), (z0 w.heap.size 8 (by omega)).trans (by go_simp), (z0 w.heap.size 9 (by omega)).trans (by go_simp), (z0 w.heap.size 10 (by omega)).trans (by go_simp), (z0 w.heap.size 11 (by omega)).trans (by go_simp), (z0 w.heap.size 12 (by omega)).trans (by go_simp), (z0 w.heap.size 13 (by omega)).trans (by go_simp)⟩
  have HY : Hid (w.heap.size + 1 ≤ W0.heap.size) := show w.heap.size + 1 ≤ W0.heap.size by rw [hW0]; simp
  have HB : Hid (Below (w.heap.size + 1) W0 W0.drew) := Go.Sup.below_drewN (Below.refl _ _) 1
  obtain ⟨k0, k1, k2, k3, k4, k5, k6, k7, k8, k9, k10, k11, k12, k13⟩ := HK.out _ HB.out
  have HW := Lib.hid hW0
  clear hW0
  go_enter Tryz.func51, Tryz.ntmps51
  go_upto_region 2 with fail
  rw [← HW.out]
  go_cut [4] from 11 (fun s wx => ∃ wq : World, wx = wq ∧ Hid (OwnC wq (w.heap.size + 1) 43 2 (H.map frow) s ∧ Below (w.heap.size + 1) W0 wq))
  case first =>
    go_region_held3 (fun W => W.cell? ⟨w.heap.size, 0, none⟩ = some (.string l0) ∧ W.cell? ⟨w.heap.size, 1, none⟩ = some (.string l1) ∧ W.cell? ⟨w.heap.size, 2, none⟩ = some (.int .i64 l2) ∧ W.cell? ⟨w.heap.size, 3, none⟩ = some (.int .i64 l3) ∧ W.cell? ⟨w.heap.size, 4, none⟩ = some (.int .i64 l4) ∧ W.cell? ⟨w.heap.size, 5, none⟩ = some (.string l5) ∧ W.cell? ⟨w.heap.size, 6, none⟩ = some (.string l6) ∧ W.cell? ⟨w.heap.size, 7, none⟩ = some (.string l7) ∧ W.cell? ⟨w.heap.size, 8, none⟩ = some (.int .i64 l8) ∧ W.cell? ⟨w.heap.size, 9, none⟩ = some (.int .i64 l9) ∧ W.cell? ⟨w.heap.size, 10, none⟩ = some (.string l10) ∧ W.cell? ⟨w.heap.size, 11, none⟩ = some (.int .i64 l11) ∧ W.cell? ⟨w.heap.size, 12, none⟩ = some (.slice Ad ld.length cd) ∧ W.cell? ⟨w.heap.size, 13, none⟩ = some (.slice Ab lb.length cb)) (first | exact ⟨k0, k1, k2, k3, k4, k5, k6, k7, k8, k9, k10, k11, k12, k13⟩ | go_keep) (first | (go_at_call 73; refine (HI.out _ (by have := HN.out; omega) (by have := HN.out; omega) _ (HF.out _ HB.out)).mono ?_; rintro e w1 ⟨rfl, hb1⟩; have HB := Lib.hid (HB.out.trans (hb1.mono (Nat.le_trans HY.out HB.out.size))); clear hb1 k0 k1 k2 k3 k4 k5 k6 k7 k8 k9 k10 k11 k12 k13; obtain ⟨k0, k1, k2, k3, k4, k5, k6, k7, k8, k9, k10, k11, k12, k13⟩ := HK.out _ HB.out) | (go_at_call 12; refine (HM.out _ _ (HF.out _ HB.out)).mono ?_; rintro e w1 ⟨rfl, hb1⟩; have HB := Lib.hid (HB.out.trans (hb1.mono (Nat.le_trans HY.out HB.out.size))); clear hb1 k0 k1 k2 k3 k4 k5 k6 k7 k8 k9 k10 k11 k12 k13; obtain ⟨k0, k1, k2, k3, k4, k5, k6, k7, k8, k9, k10, k11, k12, k13⟩ := HK.out _ HB.out) | (go_at_call 74; refine (HMS.out _ (HF.out _ HB.out)).mono ?_; rintro e w1 ⟨rfl, hb1⟩; have HB := Lib.hid (HB.out.trans (hb1.mono (Nat.le_trans HY.out HB.out.size))); clear hb1 k0 k1 k2 k3 k4 k5 k6 k7 k8 k9 k10 k11 k12 k13; obtain ⟨k0, k1, k2, k3, k4, k5, k6, k7, k8, k9, k10, k11, k12, k13⟩ := HK.out _ HB.out))
    all_goals
      go_wp2_with fail
      go_meet
      case rel =>
        refine ⟨_, rfl, HFl.out _ (Nat.le_trans HY.out HB.out.size), HB.out.alloc (Nat.le_trans HY.out HB.out.size) _⟩
  case rest =>
  clear HB k0 k1 k2 k3 k4 k5 k6 k7 k8 k9 k10 k11 k12 k13 HI HM HMS HN HFl
  obtain ⟨wq, hwq, HO⟩ := hcut
  subst hwq
  obtain ⟨k0, k1, k2, k3, k4, k5, k6, k7, k8, k9, k10, k11, k12, k13⟩ := HK.out _ HO.out.2
  go_wp2
  go_loopw [4, 58] (fun s i wr => ∃ k : Nat, k ≤ ld.length ∧ i = .int .i64 k ∧ Hid (OwnC wr (w.heap.size + 1) 43 2 ((H ++ (ld.take k).map fun d => (n9doc, docS d)).map frow) s ∧ Below (w.heap.size + 1) W0 wr)) (fun _ i _ => ld.length - (intOf i).toNat)
  case atStart => exact ⟨0, Nat.zero_le _, rfl, by simpa using HO.out.1, HO.out.2⟩
  case round =>
    clear k0 k1 k2 k3 k4 k5 k6 k7 k8 k9 k10 k11 k12 k13 HO
    obtain ⟨k, hk, rfl, HO⟩ := hrel
    have hsz : w.heap.size + 1 ≤ wr.heap.size := Nat.le_trans HY.out HO.out.2.size
    have hal : ((H ++ (ld.take k).map fun d => (n9doc, docS d)).map frow).length ≤ 1100000 := by
      rw [List.length_map, List.length_append, HH.out, List.length_map, List.length_take]; omega
    by_cases hlt : k < ld.length
    · have hBr : B ≤ wr.heap.size := by omega
      obtain ⟨b1, o1, fv1, rfl, hb1', hs1, x0, x1, x2, x3⟩ := doc_at (Hda.out.below ((HF.out _ HO.out.2).mono hB)) (List.getElem?_eq_getElem hlt)
      obtain ⟨d1, hd1⟩ : ∃ d, d = ld[k] := ⟨_, rfl⟩
      rw [← hd1] at x0 x1 x2 hs1
      obtain ⟨F1, f1, rfl, -⟩ := id hs1
      rw [List.length_map] at hs1 x3
      have hde := HDa.out d1 (by rw [hd1]; exact List.getElem_mem hlt)
      obtain ⟨s1, hs⟩ : ∃ s, s = docS d1 := ⟨_, rfl⟩
      have HC : Hid (∀ W, Below wr.heap.size wr W → Calls Tryz.prog 68 #[.agg #[.int .i64 d1.kind, .string d1.number, .string d1.issuer, .slice F1 d1.fields.length f1]] W fun e w' => e = .returned (.tuple #[.string s1, .int .i64 (docE d1)]) ∧ Below W.heap.size W w') := fun W h => by
        rw [hs]; exact doc_any d1 hde.1 W B _ (hs1.below (h.mono hBr)) (Nat.le_trans hBr h.size) hde.2
      have HT : Hid ((H ++ (ld.take (k + 1)).map fun d => (n9doc, docS d)).map frow = (H ++ (ld.take k).map fun d => (n9doc, docS d)).map frow ++ [frow (n9doc, s1)]) := by
        show _ = _
        rw [List.take_succ_eq_append_getElem hlt, hs, hd1]; simp only [List.map_append, List.map_cons, List.map_nil, List.append_assoc]
      obtain ⟨Q, hQ⟩ : ∃ Q, Q = (H ++ (ld.take k).map fun d => (n9doc, docS d)).map frow := ⟨_, rfl⟩
      rw [← hQ] at HO HT hal
      have hlI : (k : Int) < (ld.length : Int) := by omega
      clear hs1 hs hd1 hde hQ
      go_wp2_with fail
      refine (HC.out _ ((Below.refl _ _).alloc (Nat.le_refl _) _)).mono ?_
      rintro e w1 ⟨rfl, hb1⟩
      have HB1 : Hid (Below wr.heap.size wr w1) := ((Below.refl _ _).alloc (Nat.le_refl _) _).trans (hb1.mono (by simp))
      clear hb1
      have HO1 : Hid (OwnC w1 (w.heap.size + 1) 43 2 Q u4) := HO.out.1.below HB1.out
      have hsz1 : w.heap.size + 1 ≤ w1.heap.size := Nat.le_trans hsz HB1.out.size
      go_wp2_with (at_builtin; go_must (refine wpList_appN _ rfl (.tmp 67) (.tmp 70) 36 rfl elFlds (w.heap.size + 1) _ u4 rfl (HO1.out.alloc _) _ [frow (n9doc, s1)] _ rfl (SlC.litN [frow (n9doc, s1)] (by simp [frow]) rfl 43 w1.heap.size 1 (w1.heap.size + 1) rfl (by simp) (by omega) (by unfold maxLen; omega)) (by simp [frow]) (by simp [frow, Value.oneCell']) (by simp at hal ⊢; omega) (by unfold maxLen; simp at hal ⊢; omega) (by simp; omega) ?_))
      intro v3 w3 ho3 hg3 hb3 _
      have HO3 : Hid (OwnC w3 (w.heap.size + 1) 43 2 ((H ++ (ld.take (k + 1)).map fun d => (n9doc, docS d)).map frow) v3 ∧ Below (w.heap.size + 1) W0 w3) := ⟨by rw [HT.out]; exact ho3, ((HO.out.2.trans (HB1.out.mono hsz)).alloc hsz1 _).trans hb3⟩
      clear ho3 hg3 hb3
      go_wp2
      go_roundw
      case rel => exact ⟨k + 1, hlt, by go_num, HO3⟩
      case measure => simp [intOf]; omega
    · obtain rfl : k = ld.length := by omega
      have HO2 : Hid (OwnC wr (w.heap.size + 1) 43 2 ((H ++ ld.map fun d => (n9doc, docS d)).map frow) u4 ∧ Below (w.heap.size + 1) W0 wr) := by
        have := HO.out
        rw [List.take_length] at this
        exact this
      obtain ⟨k0, k1, k2, k3, k4, k5, k6, k7, k8, k9, k10, k11, k12, k13⟩ := HK.out _ HO.out.2
      obtain ⟨G, hG⟩ : ∃ G, G = H ++ ld.map fun d => (n9doc, docS d) := ⟨_, rfl⟩
      have HG : Hid (G.length ≤ 1000011) := by show _ ≤ _; rw [hG, List.length_append, HH.out, List.length_map]; omega
      rw [← hG] at HO2 HR
      clear hlt hk HO hG hal
      go_wp2
      go_loopw [4, 76] (fun s i wx => ∃ k : Nat, k ≤ lb.length ∧ i = .int .i64 k ∧ Hid (OwnC wx (w.heap.size + 1) 43 2 ((G ++ (lb.take k).map fun b => (n9box, b)).map frow) s ∧ Below (w.heap.size + 1) W0 wx)) (fun _ i _ => lb.length - (intOf i).toNat)
      case atStart => exact ⟨0, Nat.zero_le _, rfl, by simpa using HO2.out.1, HO2.out.2⟩
      case round =>
        clear k0 k1 k2 k3 k4 k5 k6 k7 k8 k9 k10 k11 k12 k13
        obtain ⟨k, hk, rfl, HO⟩ := hrel
        have hsz2 : w.heap.size + 1 ≤ wr.heap.size := Nat.le_trans HY.out HO.out.2.size
        have hal : ((G ++ (lb.take k).map fun b => (n9box, b)).map frow).length ≤ 2100000 := by
          have := HG.out
          rw [List.length_map, List.length_append, List.length_map, List.length_take]; omega
        by_cases hlt : k < lb.length
        · obtain ⟨b1, o1, rfl, hb1', x0⟩ := str_at (Hsa.out.below ((HF.out _ HO.out.2).mono hB)) (List.getElem?_eq_getElem hlt)
          obtain ⟨s1, hd1⟩ : ∃ d, d = lb[k] := ⟨_, rfl⟩
          rw [← hd1] at x0
          have HT : Hid ((G ++ (lb.take (k + 1)).map fun b => (n9box, b)).map frow = (G ++ (lb.take k).map fun b => (n9box, b)).map frow ++ [frow (n9box, s1)]) := by
            show _ = _
            rw [List.take_succ_eq_append_getElem hlt, hd1]; simp only [List.map_append, List.map_cons, List.map_nil, List.append_assoc]
          obtain ⟨Q, hQ⟩ : ∃ Q, Q = (G ++ (lb.take k).map fun b => (n9box, b)).map frow := ⟨_, rfl⟩
          rw [← hQ] at HO HT hal
          have hlI : (k : Int) < (lb.length : Int) := by omega
          clear hd1 hQ
          go_wp2_with (at_builtin; go_must (refine wpList_appN _ rfl (.tmp 80) (.tmp 83) 36 rfl elFlds (w.heap.size + 1) _ u4 rfl (HO.out.1.alloc _) _ [frow (n9box, s1)] _ rfl (SlC.litN [frow (n9box, s1)] (by simp [frow]) rfl 43 wr.heap.size 1 (wr.heap.size + 1) rfl (by simp) (by omega) (by unfold maxLen; omega)) (by simp [frow]) (by simp [frow, Value.oneCell']) (by simp at hal ⊢; omega) (by unfold maxLen; simp at hal ⊢; omega) (by simp; omega) ?_))
          intro v3 w3 ho3 hg3 hb3 _
          have HO3 : Hid (OwnC w3 (w.heap.size + 1) 43 2 ((G ++ (lb.take (k + 1)).map fun b => (n9box, b)).map frow) v3 ∧ Below (w.heap.size + 1) W0 w3) := ⟨by rw [HT.out]; exact ho3, (HO.out.2.alloc hsz2 _).trans hb3⟩
          clear ho3 hg3 hb3
          go_wp2
          go_roundw
          case rel => exact ⟨k + 1, hlt, by go_num, HO3⟩
          case measure => simp [intOf]; omega
        · obtain rfl : k = lb.length := by omega
          have HO3 : Hid (SlC _ _ 2 (R.map frow) _ ∧ Below w.heap.size w _) := ⟨by
            have := HO.out.1.sl
            rw [List.take_length, ← HR.out] at this
            exact this, HF.out _ HO.out.2⟩
          clear hlt hk HO hal
          go_wp2
          go_ret
          exact ⟨_, rfl, HO3.out.1, HO3.out.2⟩
end Go.Proofs.YtlffpelkmdcckaaGreatDoor
