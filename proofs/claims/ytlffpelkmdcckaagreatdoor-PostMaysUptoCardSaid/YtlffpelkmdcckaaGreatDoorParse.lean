/- field.Parse. -/
import Derived.Test.YtlffpelkmdcckaaGreatDoorText
import Derived.Test.YtlffpelkmdcckaaGreatDoorCut
import Derived.Deep.LoopGhost
namespace Go.Sup
open Go Go.RowKit
theorem parseF_full {k n : Nat} {l : List UInt8} {acc : List Fld} (hl : l ≠ []) (hk : l.length ≤ k) (h : 64 < n) : parseF k n l acc = ([], n, 7) := by
  cases l with
  | nil => exact absurd rfl hl
  | cons b s =>
    obtain ⟨k, rfl⟩ : ∃ k', k = k' + 1 := ⟨k - 1, by simp at hk; omega⟩
    rw [parseF, if_pos h]
theorem parseF_cut0 {k n : Nat} {l : List UInt8} {acc : List Fld} (hl : l ≠ []) (hk : l.length ≤ k) (h : ¬ 64 < n) (hc : cutAt 10 l = none) : parseF k n l acc = ([], n, 2) := by
  cases l with
  | nil => exact absurd rfl hl
  | cons b s =>
    obtain ⟨k, rfl⟩ : ∃ k', k = k' + 1 := ⟨k - 1, by simp at hk; omega⟩
    rw [parseF, if_neg h, hc]
theorem parseF_bad {k n : Nat} {l row rest : List UInt8} {acc : List Fld} (hl : l ≠ []) (hk : l.length ≤ k) (h : ¬ 64 < n) (hc : cutAt 10 l = some (row, rest)) (hr : lineR row = none) : parseF k n l acc = ([], n, 2) := by
  cases l with
  | nil => exact absurd rfl hl
  | cons b s =>
    obtain ⟨k, rfl⟩ : ∃ k', k = k' + 1 := ⟨k - 1, by simp at hk; omega⟩
    rw [parseF, if_neg h, hc]
    simp only [hr]
theorem parseF_go {k n : Nat} {l row rest : List UInt8} {acc : List Fld} {f : Fld} (hl : l ≠ []) (hk : l.length ≤ k) (h : ¬ 64 < n) (hc : cutAt 10 l = some (row, rest)) (hr : lineR row = some f) : ∃ k', rest.length ≤ k' ∧ parseF k n l acc = parseF k' (n + 1) rest (acc ++ [f]) := by
  cases l with
  | nil => exact absurd rfl hl
  | cons b s =>
    obtain ⟨k, rfl⟩ : ∃ k', k = k' + 1 := ⟨k - 1, by simp at hk; omega⟩
    refine ⟨k, ?_, ?_⟩
    · have := (cutAt_some hc).1
      have h2 := congrArg List.length this
      simp at h2 hk
      omega
    · rw [parseF, if_neg h, hc]
      simp only [hr]
theorem data_len (s : ByteArray) : s.data.toList.length = s.size := Array.length_toList
theorem ba_list (l : List UInt8) : (⟨l.toArray⟩ : ByteArray).data.toList = l := by simp
theorem ba_size (l : List UInt8) : (⟨l.toArray⟩ : ByteArray).size = l.length := rfl
theorem lineR_no {row : List UInt8} (h : cutAt 61 row = none) : lineR row = none := by unfold lineR; rw [h]
theorem lineR_name {row h raw : List UInt8} (hc : cutAt 61 row = some (h, raw)) (hn : nameOk h = false) : lineR row = none := by unfold lineR; rw [hc]; simp [hn]
theorem lineR_esc {row h raw : List UInt8} (hc : cutAt 61 row = some (h, raw)) (hn : unesc raw = none) : lineR row = none := by unfold lineR; rw [hc]; simp [hn]
theorem lineR_long {row h raw v : List UInt8} (hc : cutAt 61 row = some (h, raw)) (hv : unesc raw = some v) (hl : ¬ v.length ≤ 4096) : lineR row = none := by unfold lineR; rw [hc]; simp [hv, hl]
theorem lineR_ok {row h raw v : List UInt8} (hc : cutAt 61 row = some (h, raw)) (hn : nameOk h = true) (hv : unesc raw = some v) (hl : v.length ≤ 4096) : lineR row = some (⟨h.toArray⟩, ⟨v.toArray⟩) := by unfold lineR; rw [hc]; simp [hn, hv, hl]
theorem drop_cons {l : List UInt8} {j : Nat} (h : j < l.length) : l.drop j = l[j] :: l.drop (j + 1) := List.drop_eq_getElem_cons h
/-- Unescaping on from sign j: what stands already is 'acc'. -/
def UnAt (raw : List UInt8) (j : Nat) (acc : List UInt8) : Prop := unesc raw = (unesc (raw.drop j)).map (acc ++ ·)
theorem UnAt.zero (raw : List UInt8) : UnAt raw 0 [] := by unfold UnAt; simp
theorem UnAt.plain {raw acc : List UInt8} {j : Nat} (h : UnAt raw j acc) (hj : j < raw.length) (hc : raw[j] ≠ 92) : UnAt raw (j + 1) (acc ++ [raw[j]]) := by
  unfold UnAt at h ⊢
  rw [h, drop_cons hj, unesc_cons hc, Option.map_map]
  congr 1
  funext x
  simp
theorem unesc_nl (l : List UInt8) : unesc (92 :: 110 :: l) = (unesc l).map (10 :: ·) := by simp [unesc]
theorem unesc_bs (l : List UInt8) : unesc (92 :: 92 :: l) = (unesc l).map (92 :: ·) := by simp [unesc]
theorem unesc_odd {c : UInt8} (h1 : c ≠ 110) (h2 : c ≠ 92) (l : List UInt8) : unesc (92 :: c :: l) = none := by simp [unesc, h1, h2]
theorem UnAt.nl {raw acc : List UInt8} {j : Nat} (h : UnAt raw j acc) (hj : j + 1 < raw.length) (h1 : raw[j] = 92) (h2 : raw[j + 1] = 110) : UnAt raw (j + 2) (acc ++ [10]) := by
  unfold UnAt at h ⊢
  rw [h, drop_cons (by omega : j < raw.length), drop_cons hj, h1, h2, unesc_nl, Option.map_map]
  congr 1
  funext x
  simp
theorem UnAt.bs {raw acc : List UInt8} {j : Nat} (h : UnAt raw j acc) (hj : j + 1 < raw.length) (h1 : raw[j] = 92) (h2 : raw[j + 1] = 92) : UnAt raw (j + 2) (acc ++ [92]) := by
  unfold UnAt at h ⊢
  rw [h, drop_cons (by omega : j < raw.length), drop_cons hj, h1, h2, unesc_bs, Option.map_map]
  congr 1
  funext x
  simp
theorem UnAt.odd {raw acc : List UInt8} {j : Nat} (h : UnAt raw j acc) (hj : j + 1 < raw.length) (h1 : raw[j] = 92) (h2 : raw[j + 1] ≠ 110) (h3 : raw[j + 1] ≠ 92) : unesc raw = none := by
  unfold UnAt at h
  rw [h, drop_cons (by omega : j < raw.length), drop_cons hj, h1, unesc_odd h2 h3]; rfl
theorem UnAt.cutoff {raw acc : List UInt8} {j : Nat} (h : UnAt raw j acc) (hj : j + 1 = raw.length) (h1 : raw[j]'(by omega) = 92) : unesc raw = none := by
  unfold UnAt at h
  rw [h, drop_cons (by omega : j < raw.length), h1, List.drop_of_length_le (by omega)]
  simp [unesc]
theorem UnAt.fin {raw acc : List UInt8} (h : UnAt raw raw.length acc) : unesc raw = some acc := by
  unfold UnAt at h
  rw [h, List.drop_of_length_le (Nat.le_refl _)]
  simp [unesc]
end Go.Sup
namespace Go.Proofs.YtlffpelkmdcckaaGreatDoor
open Go Go.RowKit Go.Sup
set_option maxRecDepth 100000
/-- What Parse hands back. -/
def Parsed (w : World) (r : List Fld × Nat × Nat) (e : Ending) (w' : World) : Prop :=
  ∃ v, e = .returned (.tuple #[v, .int .i64 (r.2.1 : Int), .int .i64 (r.2.2 : Int)]) ∧ OwnC w' w.heap.size 43 2 (r.1.map frow) v ∧ Below w.heap.size w w'
theorem Parsed.bad {w w' : World} {r : List Fld × Nat × Nat} {n k : Nat} (h : r = ([], n, k)) (hb : Below w.heap.size w w') : Parsed w r (.returned (.tuple #[.slice none 0 0, .int .i64 (n : Int), .int .i64 (k : Int)])) w' := by
  subst h
  exact ⟨_, rfl, OwnC.nil_ _ _ _ _, hb⟩
theorem elFlds : ElTy Tryz.prog 36 43 2 32 := ElTy.mk' Tryz.underlying36 (z := .agg #[.string ByteArray.empty, .string ByteArray.empty]) (by kernel_rfl) rfl (by omega)
set_option maxHeartbeats 4000000 in
theorem parse_any (S : ByteArray) (hS : S.size ≤ 1000000000) (w : World) : Calls Tryz.prog 61 #[.string S] w (Parsed w (parseR S.data.toList)) := by
  go_enter Tryz.func61, Tryz.ntmps61
  go_wp2
  go_step3
  go_wp2
  go_step3
  go_wp2
  go_loopg [0, 5, 6] S.size (fun g s0 s5 s6 wr => ∃ (t : ByteArray) (acc : List Fld) (n : Nat), t.size = g ∧ t.size ≤ 1000000000 ∧ s0 = .string t ∧ s6 = .int .i64 (n : Int) ∧ n ≤ 65 ∧ Hid (n = acc.length + 1) ∧ Hid (∃ k, t.data.toList.length ≤ k ∧ parseR S.data.toList = parseF k n t.data.toList acc) ∧ Hid (OwnC wr w.heap.size 43 2 (acc.map frow) s5 ∧ Below w.heap.size w wr))
  case atStart => exact ⟨S, [], 1, rfl, hS, rfl, rfl, by omega, rfl, ⟨_, Nat.le_refl _, rfl⟩, OwnC.nil_ _ _ _ _, Below.refl _ _⟩
  case round =>
    obtain ⟨t, acc, n, htg, htS, rfl, rfl, hn, HN, HP, HW⟩ := hrel
    have HG := Lib.hid htg
    clear htg
    have hsz := HW.out.2.size
    by_cases ht : t = ⟨#[]⟩
    · subst ht
      have HR : Hid (parseR S.data.toList = (acc, 0, 0)) := by
        obtain ⟨k, _, h⟩ := HP.out
        rw [show (parseR S.data.toList) = _ from h]
        cases k <;> rfl
      go_wp2
      go_ret3
      rw [HR.out]
      exact ⟨_, rfl, HW.out.1, HW.out.2⟩
    · have HL : Hid (t.data.toList ≠ []) := by
        intro h
        apply ht
        apply ByteArray.ext
        exact Array.toList_inj.1 h
      have ht1 : ¬ t.toList = [] := by rw [ByteArray.toList_eq]; exact HL.out
      have ht2 : t.toList.isEmpty = false := by cases h : t.toList with
        | nil => exact absurd h ht1
        | cons _ _ => rfl
      clear ht
      by_cases h64 : 64 < n
      · have h64' : (64 : Int) < (n : Int) := by omega
        have HR : Hid (parseR S.data.toList = ([], n, 7)) := by
          obtain ⟨k, hk, h⟩ := HP.out
          exact h.trans (parseF_full HL.out hk h64)
        go_wp2
        try rw [Exit.noGoto_ret]
        go_ret3
        exact Parsed.bad HR.out HW.out.2
      · have h64' : ¬ (64 : Int) < (n : Int) := by omega
        go_wp2_with fail
        rcases hc : cutAt 10 t.data.toList with _ | ⟨row, rest⟩
        · have HC := Lib.hid hc
          clear hc
          have HR : Hid (parseR S.data.toList = ([], n, 2)) := by
            obtain ⟨k, hk, h⟩ := HP.out
            exact h.trans (parseF_cut0 HL.out hk h64 HC.out)
          refine (cut_no t 10 _ HC.out).mono ?_
          rintro e w1 ⟨rfl, q, rfl⟩
          go_wp2_with fail
          rcases hc2 : cutAt 61 t.data.toList with _ | ⟨hd, raw⟩
          · have HC2 := Lib.hid hc2
            clear hc2
            refine (cut_no t 61 _ HC2.out).mono ?_
            rintro e w1 ⟨rfl, q, rfl⟩
            go_wp2
            try rw [Exit.noGoto_ret]
            go_ret3
            exact Parsed.bad HR.out (Go.Sup.below_drewN HW.out.2 _)
          · have HC2 := Lib.hid hc2
            clear hc2
            refine (cut_yes t 61 _ _ _ htS HC2.out).mono ?_
            rintro e w1 ⟨rfl, q, rfl⟩
            go_wp2
            try rw [Exit.noGoto_ret]
            go_ret3
            exact Parsed.bad HR.out (Go.Sup.below_drewN HW.out.2 _)
        · have HC := Lib.hid hc
          clear hc
          refine (cut_yes t 10 _ _ _ htS HC.out).mono ?_
          rintro e w1 ⟨rfl, q, rfl⟩
          obtain ⟨rb, hrb⟩ : ∃ rb : ByteArray, rb = ⟨row.toArray⟩ := ⟨_, rfl⟩
          obtain ⟨tb, htb⟩ : ∃ tb : ByteArray, tb = ⟨rest.toArray⟩ := ⟨_, rfl⟩
          rw [← hrb, ← htb]
          have HRB : Hid (rb.data.toList = row ∧ tb.data.toList = rest) := by rw [hrb, htb]; exact ⟨ba_list _, ba_list _⟩
          have hlen : rb.size + tb.size + 1 = t.size := by
            have h1 := (cutAt_some HC.out).1
            have h2 := congrArg List.length h1
            rw [Array.length_toList] at h2
            have h3 : t.data.size = t.size := rfl
            have h4 : rb.size = row.length := by rw [hrb]; exact ba_size _
            have h5 : tb.size = rest.length := by rw [htb]; exact ba_size _
            simp at h2
            omega
          have HLN : Hid (rb.size + tb.size < t.size) := by show _ < _; omega
          have hrs : rb.size ≤ 1000000000 := by omega
          clear hrb htb hlen
          go_wp2_with fail
          rcases hc2 : cutAt 61 row with _ | ⟨hd, raw⟩
          · have HC2 := Lib.hid hc2
            clear hc2
            have HR : Hid (parseR S.data.toList = ([], n, 2)) := by
              obtain ⟨k, hk, h⟩ := HP.out
              exact h.trans (parseF_bad HL.out hk h64 HC.out (lineR_no HC2.out))
            refine (cut_no rb 61 _ (by rw [HRB.out.1]; exact HC2.out)).mono ?_
            rintro e w1 ⟨rfl, q2, rfl⟩
            go_wp2
            try rw [Exit.noGoto_ret]
            go_ret3
            exact Parsed.bad HR.out (Go.Sup.below_drewN HW.out.2 _)
          · have HC2 := Lib.hid hc2
            clear hc2
            refine (cut_yes rb 61 hd raw _ hrs (by rw [HRB.out.1]; exact HC2.out)).mono ?_
            rintro e w1 ⟨rfl, q2, rfl⟩
            obtain ⟨hb, hhb⟩ : ∃ hb : ByteArray, hb = ⟨hd.toArray⟩ := ⟨_, rfl⟩
            obtain ⟨vb, hvb⟩ : ∃ vb : ByteArray, vb = ⟨raw.toArray⟩ := ⟨_, rfl⟩
            rw [← hhb, ← hvb]
            have HHB : Hid (hb = ⟨hd.toArray⟩ ∧ hb.data.toList = hd ∧ vb.data.toList = raw) := by rw [hhb, hvb]; exact ⟨rfl, ba_list _, ba_list _⟩
            have hvs : vb.size ≤ rb.size := by
              have h1 := (cutAt_some HC2.out).1
              have h2 := congrArg List.length h1
              rw [← HRB.out.1, Array.length_toList] at h2
              have h3 : rb.data.size = rb.size := rfl
              have h4 : vb.size = raw.length := by rw [hvb]; exact ba_size _
              simp at h2
              omega
            clear hhb hvb
            go_wp2_with fail
            refine (name_any hb _).mono ?_
            rintro e w2 ⟨rfl, hb2⟩
            rw [HHB.out.2.1]
            have HW2 : Hid (OwnC w2 w.heap.size 43 2 (acc.map frow) u5 ∧ Below w.heap.size w w2) := ⟨(HW.out.1.drewN _).below hb2, (Go.Sup.below_drewN HW.out.2 _).trans (hb2.mono (by exact hsz))⟩
            have hsz2 := HW2.out.2.size
            clear hb2
            cases hno : nameOk hd
            · have HNO := Lib.hid hno
              clear hno
              have HR : Hid (parseR S.data.toList = ([], n, 2)) := by
                obtain ⟨k, hk, h⟩ := HP.out
                exact h.trans (parseF_bad HL.out hk h64 HC.out (lineR_name HC2.out HNO.out))
              go_wp2
              try rw [Exit.noGoto_ret]
              go_ret3
              exact Parsed.bad HR.out HW2.out.2
            · have HNO := Lib.hid hno
              clear hno
              go_wp2
              have fr0 : Hid (IsBld w2.heap.size w2.heap.size [] (w2.alloc (.cells #[.pointer none, .slice none 0 0] 112))) := Lib.fresh_isBuilder _ _ _
              go_loopg [14] vb.size (fun g i wx => ∃ (j : Nat) (ac : List UInt8), j + g = vb.size ∧ i = .int .i64 j ∧ ac.length ≤ j ∧ Hid (UnAt vb.data.toList j ac) ∧ Hid (IsBld w2.heap.size w2.heap.size ac wx ∧ Below w2.heap.size w2 wx))
              case atStart => exact ⟨0, [], by omega, rfl, Nat.le_refl _, UnAt.zero _, fr0.out, (Below.refl _ _).alloc (Nat.le_refl _) _⟩
              case round =>
                obtain ⟨j, ac, hjg, rfl, hac, HU, HI⟩ := hrel
                have hszx := HI.out.2.size
                have hacl : ac.length ≤ 1000000000 := by omega
                by_cases hj : j < vb.size
                · have hj' : (j : Int) < (vb.size : Int) := by omega
                  have hu := UInt8.toNat_lt vb[j]
                  by_cases hc92 : vb[j] = 92
                  · have e1 : ((vb[j].toNat : Int) == 92) = true := by rw [hc92]; rfl
                    have HC92 : Hid (vb.data.toList[j]'(by rw [data_len]; exact hj) = 92) := hc92
                    clear hc92
                    by_cases hj1 : j + 1 < vb.size
                    · have hj1' : (j : Int) + 1 < (vb.size : Int) := by omega
                      have hj2' : ((j : Int) + 1 == (vb.size : Int)) = false := by simp; omega
                      have hu1 := UInt8.toNat_lt vb[j + 1]
                      by_cases hc110 : vb[j + 1] = 110
                      · have e2 : ((vb[j + 1].toNat : Int) == 110) = true := by rw [hc110]; rfl
                        have HUN := Lib.hid (UnAt.nl HU.out (by rw [data_len]; exact hj1) HC92.out hc110)
                        clear hc110
                        go_wp2_with fail
                        refine (wbyte_any _ _ ac 10 _ HI.out.1 hacl hszx).mono ?_
                        rintro e w3 ⟨rfl, hI3, hb3⟩
                        have HI3 : Hid (IsBld w2.heap.size w2.heap.size (ac ++ [10]) w3 ∧ Below w2.heap.size w2 w3) := ⟨.inr hI3, HI.out.2.trans hb3⟩
                        clear hI3 hb3
                        go_wp2
                        go_roundg (vb.size - (j + 2))
                        case measure => omega
                        case rel => exact ⟨j + 2, ac ++ [10], by omega, by go_num, by simp; omega, HUN.out, HI3.out⟩
                      · have e2 : ((vb[j + 1].toNat : Int) == 110) = false := by
                          have : ¬ vb[j + 1].toNat = 110 := fun h => hc110 (UInt8.toNat_inj.1 h)
                          simp; omega
                        by_cases hc92' : vb[j + 1] = 92
                        · have e3 : ((vb[j + 1].toNat : Int) != 92) = false := by rw [hc92']; rfl
                          have HUN := Lib.hid (UnAt.bs HU.out (by rw [data_len]; exact hj1) HC92.out hc92')
                          clear hc110 hc92'
                          go_wp2_with fail
                          refine (wbyte_any _ _ ac vb[j] _ HI.out.1 hacl hszx).mono ?_
                          rintro e w3 ⟨rfl, hI3, hb3⟩
                          have HI3 : Hid (IsBld w2.heap.size w2.heap.size (ac ++ [92]) w3 ∧ Below w2.heap.size w2 w3) := by
                            have := HC92.out
                            rw [show vb.data.toList[j]'(by rw [data_len]; exact hj) = vb[j] from rfl] at this
                            rw [this] at hI3
                            exact ⟨.inr hI3, HI.out.2.trans hb3⟩
                          clear hI3 hb3
                          go_wp2
                          go_roundg (vb.size - (j + 2))
                          case measure => omega
                          case rel => exact ⟨j + 2, ac ++ [92], by omega, by go_num, by simp; omega, HUN.out, HI3.out⟩
                        · have e3 : ((vb[j + 1].toNat : Int) != 92) = true := by
                            have : ¬ vb[j + 1].toNat = 92 := fun h => hc92' (UInt8.toNat_inj.1 h)
                            simp; omega
                          have HUN := Lib.hid (UnAt.odd HU.out (by rw [data_len]; exact hj1) HC92.out hc110 hc92')
                          have HR : Hid (parseR S.data.toList = ([], n, 2)) := by
                            obtain ⟨k, hk, h⟩ := HP.out
                            exact h.trans (parseF_bad HL.out hk h64 HC.out (lineR_esc HC2.out (by rw [← HHB.out.2.2]; exact HUN.out)))
                          clear hc110 hc92'
                          go_wp2
                          try rw [Exit.noGoto_ret]
                          go_ret3
                          exact Parsed.bad HR.out (HW2.out.2.trans (HI.out.2.mono hsz2))
                    · have hj2 : j + 1 = vb.size := by omega
                      have hj1' : ¬ (j : Int) + 1 < (vb.size : Int) := by omega
                      have hj2' : ((j : Int) + 1 == (vb.size : Int)) = true := by simp; omega
                      have HUN := Lib.hid (UnAt.cutoff HU.out (by rw [data_len]; exact hj2) HC92.out)
                      have HR : Hid (parseR S.data.toList = ([], n, 2)) := by
                        obtain ⟨k, hk, h⟩ := HP.out
                        exact h.trans (parseF_bad HL.out hk h64 HC.out (lineR_esc HC2.out (by rw [← HHB.out.2.2]; exact HUN.out)))
                      clear hj2
                      go_wp2
                      try rw [Exit.noGoto_ret]
                      go_ret3
                      exact Parsed.bad HR.out (HW2.out.2.trans (HI.out.2.mono hsz2))
                  · have e1 : ((vb[j].toNat : Int) == 92) = false := by
                      have : ¬ vb[j].toNat = 92 := fun h => hc92 (UInt8.toNat_inj.1 h)
                      simp; omega
                    have HUN := Lib.hid (UnAt.plain HU.out (by rw [data_len]; exact hj) hc92)
                    clear hc92
                    go_wp2_with fail
                    refine (wbyte_any _ _ ac vb[j] _ HI.out.1 hacl hszx).mono ?_
                    rintro e w3 ⟨rfl, hI3, hb3⟩
                    have HI3 : Hid (IsBld w2.heap.size w2.heap.size (ac ++ [vb[j]]) w3 ∧ Below w2.heap.size w2 w3) := ⟨.inr hI3, HI.out.2.trans hb3⟩
                    clear hI3 hb3
                    go_wp2
                    go_roundg (vb.size - (j + 1))
                    case measure => omega
                    case rel => exact ⟨j + 1, ac ++ [vb[j]], by omega, by go_num, by simp; omega, HUN.out, HI3.out⟩
                · obtain rfl : j = vb.size := by omega
                  clear hj hjg
                  have HV : Hid (unesc raw = some ac) := by
                    have h := HU.out
                    rw [← data_len, HHB.out.2.2] at h
                    exact h.fin
                  by_cases hbig : ac.length ≤ 4096
                  · have hbig' : ¬ (4096 : Int) < (ac.length : Int) := by omega
                    have HF : Hid (lineR row = some (hb, ⟨ac.toArray⟩)) := by
                      have := lineR_ok HC2.out HNO.out HV.out hbig
                      rw [← HHB.out.1] at this
                      exact this
                    go_wp2_with fail
                    refine (Tryz.Builder_Len _ _ _ _ HI.out.1).mono ?_
                    rintro e w3 ⟨rfl, rfl⟩
                    rw [Lib.byteCells_length]
                    go_wp2_with fail
                    refine (Tryz.Builder_String_any _ _ _ _ HI.out.1 hszx).mono ?_
                    rintro e w4 ⟨rfl, hb4⟩
                    have HB4 : Hid (Below w2.heap.size w2 w4) := HI.out.2.trans hb4
                    have hsz4 := HB4.out.size
                    clear hb4
                    have HO : Hid (OwnC w4 w.heap.size 43 2 (acc.map frow) u5) := HW2.out.1.below HB4.out
                    have hal : (acc.map frow).length ≤ 64 := by have := HN.out; rw [List.length_map]; omega
                    obtain ⟨vs, hvs'⟩ : ∃ vs : ByteArray, vs = ⟨ac.toArray⟩ := ⟨_, rfl⟩
                    rw [← hvs']
                    have HVS := Lib.hid hvs'
                    clear hvs'
                    go_wp2_with (at_builtin; go_must (refine wpList_appN _ rfl (.tmp 85) (.tmp 89) 36 rfl elFlds w.heap.size _ u5 rfl (HO.out.alloc _) _ [frow (hb, vs)] _ rfl (SlC.litN [frow (hb, vs)] (by simp [frow]) rfl 43 w4.heap.size 1 (w4.heap.size + 1) rfl rfl (by omega) (by unfold maxLen; omega)) (by simp [frow]) (by simp [frow, Value.oneCell']) (by simp at hal ⊢; omega) (by unfold maxLen; simp at hal ⊢; omega) (by simp; omega) ?_))
                    intro v5 w5 ho5 hg5 hb5 _
                    have H5 : Hid (OwnC w5 w.heap.size 43 2 ((acc ++ [(hb, vs)]).map frow) v5 ∧ Below w.heap.size w w5) := by
                      refine ⟨by simpa using ho5, ?_⟩
                      exact ((HW2.out.2.trans (HB4.out.mono hsz2)).alloc (by omega) _).trans hb5
                    have HPN : Hid (∃ k, tb.data.toList.length ≤ k ∧ parseR S.data.toList = parseF k (n + 1) tb.data.toList (acc ++ [(hb, vs)])) := by
                      obtain ⟨k, hk, h⟩ := HP.out
                      obtain ⟨k', hk', h'⟩ := parseF_go (acc := acc) HL.out hk h64 HC.out HF.out
                      rw [HRB.out.2, HVS.out]
                      exact ⟨k', hk', h.trans h'⟩
                    clear ho5 hg5 hb5
                    go_wp2
                    go_roundg tb.size
                    case measure => have := HLN.out; have := HG.out; omega
                    case rel =>
                      refine ⟨tb, acc ++ [(hb, vs)], n + 1, rfl, ?_, rfl, by go_num, by omega, ?_, HPN.out, H5.out⟩
                      · have := HLN.out; omega
                      · have := HN.out
                        show n + 1 = (acc ++ [(hb, vs)]).length + 1
                        simp; omega
                  · have hbig' : (4096 : Int) < (ac.length : Int) := by omega
                    have HR : Hid (parseR S.data.toList = ([], n, 2)) := by
                      obtain ⟨k, hk, h⟩ := HP.out
                      exact h.trans (parseF_bad HL.out hk h64 HC.out (lineR_long HC2.out HV.out hbig))
                    go_wp2_with fail
                    refine (Tryz.Builder_Len _ _ _ _ HI.out.1).mono ?_
                    rintro e w3 ⟨rfl, rfl⟩
                    rw [Lib.byteCells_length]
                    go_wp2
                    try rw [Exit.noGoto_ret]
                    go_ret3
                    exact Parsed.bad HR.out (HW2.out.2.trans (HI.out.2.mono hsz2))
end Go.Proofs.YtlffpelkmdcckaaGreatDoor
