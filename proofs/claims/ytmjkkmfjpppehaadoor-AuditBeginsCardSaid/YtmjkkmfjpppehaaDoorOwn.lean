/- A copy of posts: slices.Clone, own, Posts. -/
import Derived.Test.YtmjkkmfjpppehaaDoorRows
import Derived.Test.YtmjkkmfjpppehaaDoorTypes
namespace Go.Proofs.YtmjkkmfjpppehaaDoor
open Go.RowKit Go.Sup
set_option maxRecDepth 100000
theorem Tryd.el30 : ElTy Tryd.prog 30 89 3 48 := ElTy.mk' Tryd.underlying30 (z := .agg #[.int .i64 0, .string ByteArray.empty, .slice none 0 0]) (by kernel_rfl) rfl (by omega)
theorem Tryd.el82 : ElTy Tryd.prog 82 57 3 40 := ElTy.mk' Tryd.underlying82 (z := .agg #[.string ByteArray.empty, .string ByteArray.empty, .int .i64 0]) (by kernel_rfl) rfl (by omega)

set_option maxHeartbeats 400000 in
theorem cloneE_any (rows : List (List Value)) (v : Value) (w : World) (B : Nat) (hB : B ≤ w.heap.size) (hs : SlC w B 3 rows v) (hl : ∀ r ∈ rows, r.length = 3) (h1 : ∀ r ∈ rows, ∀ u ∈ r, u.oneCell' = true) (hb : rows.length * 40 ≤ 140737488355328) :
    Calls Tryd.prog 46 #[v] w fun e w' => ∃ v', e = .returned v' ∧ OwnC w' w.heap.size 57 3 rows v' ∧ Below w.heap.size w w' := by
  obtain ⟨A, c, rfl, hn, hc, hh⟩ := id hs
  have q22 : ∀ (w : World) (a : Option Addr) (n c n' c' : Nat), (binOp .eql 82 (.slice a n c) (.slice none n' c')).run Tryd.prog w = .ok (.bool a.isNone) w := fun w a n c n' c' => Lib.run_eql_slice_nil w _ _ a n c n' c' Tryd.underlying82
  have Hs := Lib.hid hs
  have Hl := Lib.hid hl
  have H1 := Lib.hid h1
  clear hs hl h1
  rcases A with _ | ad
  · have hr : rows = [] := by
      rcases rows with _ | ⟨r, rest⟩
      · rfl
      · obtain ⟨_, _, h, _⟩ := hh (by simp)
        cases h
    subst hr
    clear hh
    go_enter Tryd.func46, Tryd.ntmps46
    go_wp2
    go_ret
    exact ⟨_, rfl, OwnC.nil_ _ _ _ _, Below.refl _ _⟩
  · clear hh
    go_enter Tryd.func46, Tryd.ntmps46
    go_wp2_with (at_builtin; go_must (refine wpList_appN _ rfl (.tmp 5) (.tmp 6) 82 rfl Tryd.el82 w.heap.size [] _ rfl (OwnC.empty_ 57 3 (Nat.le_refl _)) w.heap.size rows _ rfl ((Hs.out.more hB).alloc (Nat.le_refl _) _) Hl.out H1.out ?_ ?_ ?_ ?_))
    · simpa using hb
    · have := Hs.out.len_le; simpa using this
    · simp
    · intro v' w' ho' hg' hb' _
      go_wp2
      go_ret
      exact ⟨_, rfl, ho', ((Below.refl _ _).alloc (Nat.le_refl _) _).trans hb'⟩

set_option maxHeartbeats 400000 in
theorem cloneP_any (rows : List (List Value)) (v : Value) (w : World) (B : Nat) (hB : B ≤ w.heap.size) (hs : SlC w B 3 rows v) (hl : ∀ r ∈ rows, r.length = 3) (h1 : ∀ r ∈ rows, ∀ u ∈ r, u.oneCell' = true) (hb : rows.length * 48 ≤ 140737488355328) :
    Calls Tryd.prog 45 #[v] w fun e w' => ∃ v', e = .returned v' ∧ OwnC w' w.heap.size 89 3 rows v' ∧ Below w.heap.size w w' := by
  obtain ⟨A, c, rfl, hn, hc, hh⟩ := id hs
  have q22 : ∀ (w : World) (a : Option Addr) (n c n' c' : Nat), (binOp .eql 30 (.slice a n c) (.slice none n' c')).run Tryd.prog w = .ok (.bool a.isNone) w := fun w a n c n' c' => Lib.run_eql_slice_nil w _ _ a n c n' c' Tryd.underlying30
  have Hs := Lib.hid hs
  have Hl := Lib.hid hl
  have H1 := Lib.hid h1
  clear hs hl h1
  rcases A with _ | ad
  · have hr : rows = [] := by
      rcases rows with _ | ⟨r, rest⟩
      · rfl
      · obtain ⟨_, _, h, _⟩ := hh (by simp)
        cases h
    subst hr
    clear hh
    go_enter Tryd.func45, Tryd.ntmps45
    go_wp2
    go_ret
    exact ⟨_, rfl, OwnC.nil_ _ _ _ _, Below.refl _ _⟩
  · clear hh
    go_enter Tryd.func45, Tryd.ntmps45
    go_wp2_with (at_builtin; go_must (refine wpList_appN _ rfl (.tmp 5) (.tmp 6) 30 rfl Tryd.el30 w.heap.size [] _ rfl (OwnC.empty_ 89 3 (Nat.le_refl _)) w.heap.size rows _ rfl ((Hs.out.more hB).alloc (Nat.le_refl _) _) Hl.out H1.out ?_ ?_ ?_ ?_))
    · simpa using hb
    · have := Hs.out.len_le; simpa using this
    · simp
    · intro v' w' ho' hg' hb' _
      go_wp2
      go_ret
      exact ⟨_, rfl, ho', ((Below.refl _ _).alloc (Nat.le_refl _) _).trans hb'⟩

/-- A post whose entries the call owns from 'base' on. -/
def PostD.Own (w : World) (base : Nat) (p : PostD) (r : List Value) : Prop := ∃ v, r = [.int .i64 p.number, .string p.text, v] ∧ OwnC w base 57 3 (p.entries.map EntryD.row) v

theorem PostD.Row.len {w : World} {B : Nat} {p : PostD} {r : List Value} (h : PostD.Row w B p r) : r.length = 3 := by
  obtain ⟨v, rfl, _⟩ := h; rfl
theorem PostD.Row.one {w : World} {B : Nat} {p : PostD} {r : List Value} (h : PostD.Row w B p r) : ∀ u ∈ r, u.oneCell' = true := by
  obtain ⟨v, rfl, A, c, rfl, _⟩ := h
  intro u hu
  simp at hu
  rcases hu with rfl | rfl | rfl <;> rfl

set_option maxHeartbeats 800000 in
theorem own_any (ps : List PostD) (v : Value) (w : World) (B : Nat) (hB : B ≤ w.heap.size) (ha : PostsAt w B ps v) (hb : ps.length * 48 ≤ 140737488355328) (hbe : ∀ p ∈ ps, p.entries.length * 40 ≤ 140737488355328) :
    Calls Tryd.prog 28 #[v] w fun e w' => ∃ v', e = .returned v' ∧ PostsAt w' w'.heap.size ps v' ∧ Below w.heap.size w w' := by
  obtain ⟨rows, hf, hs⟩ := ha
  have hll := hf.len
  have hl3 : ∀ r ∈ rows, r.length = 3 := fun r hr => by obtain ⟨p, _, h⟩ := hf.mem_right r hr; exact h.len
  have ho1 : ∀ r ∈ rows, ∀ u ∈ r, u.oneCell' = true := fun r hr => by obtain ⟨p, _, h⟩ := hf.mem_right r hr; exact h.one
  have C1 := cloneP_any rows v w B hB hs hl3 ho1 (by rw [← hll]; exact hb)
  have H1 := Lib.hid C1
  have Hf := Lib.hid hf
  have Hll := Lib.hid hll
  have Hbe := Lib.hid hbe
  clear C1 hf hll hl3 ho1 hs hbe
  go_enter Tryd.func28, Tryd.ntmps28
  go_wp2_with fail
  refine H1.out.mono ?_
  rintro e w1 ⟨v1, rfl, ho1, hb1⟩
  obtain ⟨A1, c1, rfl, hn1, hc1, -⟩ := id ho1.sl
  have Ho1 := Lib.hid ho1
  have Hb1 := Lib.hid hb1
  unfold maxLen at hc1
  clear ho1 hb1
  go_wp2
  go_loopw [9, 4] (fun i _ wr => ∃ k : Nat, k ≤ rows.length ∧ i = .int .i64 k ∧ Hid (Below w.heap.size w wr) ∧ w1.heap.size ≤ wr.heap.size ∧ Hid (∃ rows', rows'.length = rows.length ∧ OwnC wr w.heap.size 89 3 rows' (.slice A1 rows.length c1) ∧
      (∀ i p, i < k → ps[i]? = some p → ∃ r, rows'[i]? = some r ∧ PostD.Own wr w1.heap.size p r) ∧ (∀ i, k ≤ i → rows'[i]? = rows[i]?))) (fun i _ _ => rows.length - (intOf i).toNat)
  case atStart => exact ⟨0, by omega, rfl, Hb1.out, Nat.le_refl _, ⟨rows, rfl, Ho1.out, fun i p h => absurd h (by omega), fun _ _ => rfl⟩⟩
  case round =>
    obtain ⟨k, hk, rfl, hbel, hsz, hrows⟩ := hrel
    by_cases hlt : k < rows.length
    · obtain ⟨rows', hlen', hown, hdone, hrest⟩ := hrows.out
      obtain ⟨p, hp⟩ : ∃ p, ps[k]? = some p := ⟨_, List.getElem?_eq_getElem (by have := Hll.out; omega)⟩
      obtain ⟨r, hr, v2, hrow, hse⟩ := Hf.out.at_ hp
      have hr' : rows'[k]? = some r := (hrest k (Nat.le_refl _)).trans hr
      obtain ⟨g, cap, hv, hbg, hgl, _, _, hfz⟩ := hown.form (by omega)
      injection hv with hv1 hv2 hv3
      subst hv1; subst hv3
      have c2 : wr.cell? ⟨g, k * 3 + 2, none⟩ = some v2 := hown.cellAt hr' (by rw [hrow]; rfl)
      have f2 := hfz (k * 3 + 2)
      have hse' := hse.below (hbel.out.mono hB)
      have CE := cloneE_any _ v2 wr B (Nat.le_trans hB hbel.out.size) hse' (EntryD.rows_len _) (EntryD.rows_one _) (by simpa using Hbe.out p (List.mem_of_getElem? hp))
      have HE := Lib.hid CE
      have Hp := Lib.hid hp
      have Hrow := Lib.hid hrow
      have Hr' := Lib.hid hr'
      have Hdone := Lib.hid hdone
      have Hrest := Lib.hid hrest
      have Hown := Lib.hid hown
      have Hlen' := Lib.hid hlen'
      clear CE hp hr hrow hse hr' hown hfz hse' hdone hrest hlen' hrows hv2
      go_wp2_with fail
      refine HE.out.mono ?_
      rintro e w2 ⟨v3, rfl, ho3, hb3⟩
      have c2' := (hb3.cell (p := ⟨g, k * 3 + 2, none⟩) hgl).trans c2
      have f2' := (hb3.frozen (p := ⟨g, k * 3 + 2, none⟩) hgl).trans f2
      obtain ⟨A3, c3, hv3, -⟩ := id ho3.sl
      have Ho3 := Lib.hid ho3
      have Hb3 := Lib.hid hb3
      clear c2 f2 ho3 hb3
      subst hv3
      go_wp2
      go_roundw
      case rel =>
        refine ⟨k + 1, by omega, by go_num, ?_, ?_, ?_⟩
        · show Below _ _ _
          exact (hbel.out.trans (Hb3.out.mono hbel.out.size)).setCell hbg _
        · have := Hb3.out.size; simp [World.setCell]; omega
        · have hg1 := (Ho1.out.lt g rfl).2
          have hset := (Hown.out.below Hb3.out).set_ (k := k) (j := 2) Hr'.out (by omega) (.slice A3 p.entries.length c3)
          refine ⟨_, by rw [List.length_set]; exact Hlen'.out, hset, fun i q hi hq => ?_, fun i hi => ?_⟩
          · by_cases hik : i = k
            · subst hik
              rw [Hp.out] at hq
              injection hq with hq
              subst hq
              refine ⟨_, List.getElem?_set_self (by rw [Hlen'.out]; exact hlt), _, by rw [Hrow.out]; rfl, ?_⟩
              have h3 := (Ho3.out.lower hsz).setBelow (p := ⟨g, i * 3 + 2, none⟩) hg1 (.slice A3 p.entries.length c3)
              rw [List.length_map] at h3
              exact h3
            · obtain ⟨ri, hri, vi, hrow', hoi⟩ := Hdone.out i q (by omega) hq
              refine ⟨ri, by rw [List.getElem?_set_ne (by omega)]; exact hri, vi, hrow', ?_⟩
              exact (hoi.below Hb3.out).setBelow (p := ⟨g, k * 3 + 2, none⟩) hg1 _
          · rw [List.getElem?_set_ne (by omega)]; exact Hrest.out i (by omega)
      case measure => simp [intOf]; omega
    · go_wp2
      go_ret
      obtain ⟨rows', hlen', hown, hdone, -⟩ := hrows.out
      have hl := Hll.out
      refine ⟨_, rfl, ⟨rows', All2.of_at (by omega) fun i p hp => ?_, hown.sl⟩, hbel.out⟩
      have hi := (List.getElem?_eq_some_iff.1 hp).1
      obtain ⟨r, hr, v3, e3, ho3⟩ := hdone i p (by omega) hp
      exact ⟨r, hr, v3, e3, ho3.sl⟩
theorem posts_any (ps : List PostD) (v : Value) (w : World) (b B : Nat) (hB : B ≤ w.heap.size) (hc : w.cell? ⟨b, 2, none⟩ = some v) (ha : PostsAt w B ps v) (hb : ps.length * 48 ≤ 140737488355328) (hbe : ∀ p ∈ ps, p.entries.length * 40 ≤ 140737488355328) :
    Calls Tryd.prog 11 #[.pointer (some ⟨b, 0, none⟩)] w fun e w' => ∃ v', e = .returned v' ∧ PostsAt w' w'.heap.size ps v' ∧ Below w.heap.size w w' := by
  have H := Lib.hid (own_any ps v w B hB ha hb hbe)
  obtain ⟨rows, hf, A, c, rfl, -⟩ := ha
  clear hf hb hbe
  go_enter Tryd.func11, Tryd.ntmps11
  go_wp2_with fail
  refine H.out.mono ?_
  rintro e w1 ⟨v1, rfl, ho1, hb1⟩
  have H1 := Lib.hid ho1
  have H2 := Lib.hid hb1
  clear ho1 hb1
  go_wp2
  go_ret
  exact ⟨_, rfl, H1.out, H2.out⟩
end Go.Proofs.YtmjkkmfjpppehaaDoor
