/- What is wrong with entries by themselves: nothing, where all their accounts are there, each sum fits, and they sum to nothing. -/
import Derived.Test.YtmjkkmfjpppehaaDoorLed
namespace Go.Proofs.YtmjkkmfjpppehaaDoor
open Go.RowKit Go.Sup
set_option maxRecDepth 100000
def EntryD.key (e : EntryD) : KeyD := (e.account, e.currency)
def sumStep (l : List (ByteArray × Int)) (e : EntryD) : List (ByteArray × Int) := putL l e.currency ((getL l e.currency).getD 0 + e.amount)
def sumsL (x : List EntryD) : List (ByteArray × Int) := x.foldl sumStep []
/-- Entries that may be booked, as far as they go by themselves. -/
structure Fine (L : LG) (text : ByteArray) (x : List EntryD) : Prop where
  text : text.size ≤ 4096
  one : 1 ≤ x.length
  few : x.length ≤ 64
  room : L.posts.length < 4096
  known : ∀ e ∈ x, ∃ s, getL L.accts e.key = some s
  small : ∀ e ∈ x, okKey e.key ∧ -1099511627776 ≤ e.amount ∧ e.amount ≤ 1099511627776
  zero : ∀ p ∈ sumsL x, p.2 = 0

theorem sumsL_snoc {x : List EntryD} {k : Nat} {e : EntryD} (h : x[k]? = some e) : sumsL (x.take (k + 1)) = sumStep (sumsL (x.take k)) e := by
  unfold sumsL
  rw [List.take_add_one, h, List.foldl_append]; rfl
theorem sums_bound {x : List EntryD} (h : ∀ e ∈ x, -1099511627776 ≤ e.amount ∧ e.amount ≤ 1099511627776) : ∀ k : Nat, k ≤ x.length → ∀ p ∈ sumsL (x.take k), -(1099511627776 * (k : Int)) ≤ p.2 ∧ p.2 ≤ 1099511627776 * (k : Int)
  | 0, _, p, hp => by simp [sumsL] at hp
  | k + 1, hk, p, hp => by
    obtain ⟨e, he⟩ : ∃ e, x[k]? = some e := ⟨_, List.getElem?_eq_getElem hk⟩
    have hb := h e (List.mem_of_getElem? he)
    have ih := sums_bound h k (by omega)
    rw [sumsL_snoc he] at hp
    rcases putL_mem hp with hp | rfl
    · have := ih p hp; omega
    · show -(1099511627776 * ((k + 1 : Nat) : Int)) ≤ (getL (sumsL (x.take k)) e.currency).getD 0 + e.amount ∧ _
      cases hg : getL (sumsL (x.take k)) e.currency with
      | none => simp; omega
      | some v =>
        have := ih _ (getL_mem hg)
        simp at this ⊢; omega
theorem sums_ok {x : List EntryD} (h : ∀ e ∈ x, okKey e.key) (k : Nat) : ∀ p ∈ sumsL (x.take k), okStr p.1 := by
  induction k with
  | zero => simp [sumsL]
  | succ k ih =>
    intro p hp
    rcases Nat.lt_or_ge k x.length with hk | hk
    · obtain ⟨e, he⟩ : ∃ e, x[k]? = some e := ⟨_, List.getElem?_eq_getElem hk⟩
      rw [sumsL_snoc he] at hp
      rcases putL_mem hp with hp | rfl
      · exact ih p hp
      · exact (h e (List.mem_of_getElem? he)).2
    · rw [List.take_of_length_le (by omega)] at hp
      rw [List.take_of_length_le hk] at ih
      exact ih p hp

set_option maxHeartbeats 2000000 in
theorem wrong_any (w : World) (b m h : Nat) (pv : Value) (L : LG) (H : LedAt w b m h pv L) (text : ByteArray) (x : List EntryD) (v : Value) (hx : SlC w w.heap.size 3 (x.map EntryD.row) v) (hf : Fine L text x) :
    Calls Tryd.prog 43 #[.pointer (some ⟨b, 0, none⟩), .string text, v] w fun e w' => e = .returned (.int .i64 0) ∧ Below w.heap.size w w' := by
  obtain ⟨A, c, rfl, hn, hc, -⟩ := id hx
  rw [List.length_map] at hx hn ⊢
  have hft := hf.text
  have hf1 := hf.one
  have hf2 := hf.few
  have hf3 := hf.room
  have c1 := H.c1
  have c2 := H.c2
  have hb := H.blt
  obtain ⟨prows, hpa, hpo⟩ := H.posts
  have hpl := hpa.len
  obtain ⟨PA, pc, hpv, hpn, hpc, -⟩ := hpo.sl
  rw [← hpl] at hpv hpn
  subst hpv
  have H' := Lib.hid H
  have Hx := Lib.hid hx
  have Hf := Lib.hid hf
  have hf0 := Lib.hid hf.zero
  unfold maxLen at hc
  clear H hx hf hpa hpo hpl
  have hmm := @run_makeMap Tryd.prog
  go_enter Tryd.func43, Tryd.ntmps43
  go_wp2
  go_loopw [37, 8, 9, 10] (fun i _ _ _ wr => ∃ k : Nat, k ≤ x.length ∧ i = .int .i64 k ∧ Hid (Below w.heap.size w wr)) (fun i _ _ _ _ => x.length - (intOf i).toNat)
  case atStart => exact ⟨0, by omega, rfl, Below.refl _ _⟩
  case round =>
    obtain ⟨k, hk, rfl, hbel⟩ := hrel
    by_cases hlt : k < x.length
    · obtain ⟨e, he⟩ : ∃ e, x[k]? = some e := ⟨_, List.getElem?_eq_getElem hlt⟩
      have hem := List.mem_of_getElem? he
      obtain ⟨s, hs⟩ := Hf.out.known e hem
      obtain ⟨hok, -, -⟩ := Hf.out.small e hem
      obtain ⟨bx, ox, hA, hbx, hcell⟩ := (Hx.out.below hbel.out).at_ (k := k) (r := e.row) (by simp [he])
      subst hA
      have e0 : wr.cell? ⟨bx, ox + k * 3, none⟩ = some (.string e.account) := hcell 0 _ rfl
      have e1 := hcell 1 (.string e.currency) rfl
      have e2 := hcell 2 (.int .i64 e.amount) rfl
      have hL := H'.out.below hbel.out
      have d1 := hL.c1
      have hbr := hL.blt
      have hlk : ∀ W, MapOf encKey encAcct okKey W m L.accts → (Instr.lookup 67 (.map (some m)) (.agg #[.string e.account, .string e.currency]) true).run Tryd.prog W = .ok (.tuple #[.agg #[.int .i64 s.floor, .int .i64 s.bal, .int .i64 s.held], .bool true]) W := by
        intro W hW
        have := hW.lookup (P := Tryd.prog) encKey_key Tryd.underlying67 (z := .agg #[.int .i64 0, .int .i64 0, .int .i64 0]) (by kernel_rfl) e.key hok true
        rw [hs] at this
        exact this
      have l1 := hlk ((wr.alloc (.cells #[.string e.account, .string e.currency, .int .i64 e.amount] 57)).drew) (hL.accts.alloc _).drew
      have l2 := hlk (((wr.alloc (.cells #[.string e.account, .string e.currency, .int .i64 e.amount] 57)).alloc (.cells #[.int .i64 0, .int .i64 0, .int .i64 0] 74)).drew) ((hL.accts.alloc _).alloc _).drew
      clear hlk hL hs hok hem he hcell
      go_wp2
      go_region
      all_goals
        go_wp2
        go_roundw
        case rel => exact ⟨k + 1, by omega, by go_num, ((hbel.out.alloc hbel.out.size _).alloc (by have := hbel.out.size; simp; omega) _).drew⟩
        case measure => simp [intOf]; omega
    · obtain ⟨sb, hsb⟩ : ∃ sb, sb = wr.heap.size := ⟨_, rfl⟩
      have hmade : MapOf Value.string encInt okStr (wr.alloc (.map #[] 0)) sb ([] : List (ByteArray × Int)) := by rw [hsb]; exact MapOf.made wr
      have hsb1 : w.heap.size ≤ sb := by rw [hsb]; exact hbel.out.size
      have Hsb := Lib.hid hsb
      have Hmade := Lib.hid hmade
      clear c1 c2 hsb hmade
      go_wp2
      rw [← Hsb.out]
      go_loopw [60, 13] (fun i _ wr => ∃ k : Nat, k ≤ x.length ∧ i = .int .i64 k ∧ Hid (Below w.heap.size w wr) ∧ Hid (MapOf Value.string encInt okStr wr sb (sumsL (x.take k)))) (fun i _ _ => x.length - (intOf i).toNat)
      case atStart => exact ⟨0, by omega, rfl, hbel.out.alloc hbel.out.size _, Hmade.out⟩
      case round =>
        obtain ⟨k, hk, rfl, hbel, hmo⟩ := hrel
        by_cases hlt : k < x.length
        · obtain ⟨e, he⟩ : ∃ e, x[k]? = some e := ⟨_, List.getElem?_eq_getElem hlt⟩
          have hem := List.mem_of_getElem? he
          obtain ⟨hok, ha1, ha2⟩ := Hf.out.small e hem
          obtain ⟨bx, ox, hA, hbx, hcell⟩ := (Hx.out.below hbel.out).at_ (k := k) (r := e.row) (by simp [he])
          subst hA
          have e0 : wr.cell? ⟨bx, ox + k * 3, none⟩ = some (.string e.account) := hcell 0 _ rfl
          have e1 := hcell 1 (.string e.currency) rfl
          have e2 := hcell 2 (.int .i64 e.amount) rfl
          have hmo' := hmo.out.alloc (.cells #[.string e.account, .string e.currency, .int .i64 e.amount] 57)
          obtain ⟨cur, hcur⟩ : ∃ cur, cur = (getL (sumsL (x.take k)) e.currency).getD 0 := ⟨_, rfl⟩
          have hlk : (Instr.lookup 112 (.map (some sb)) (.string e.currency) false).run Tryd.prog (wr.alloc (.cells #[.string e.account, .string e.currency, .int .i64 e.amount] 57)) = .ok (.int .i64 cur) (wr.alloc (.cells #[.string e.account, .string e.currency, .int .i64 e.amount] 57)) := by
            have := hmo'.lookup (P := Tryd.prog) encStr_key Tryd.underlying112 (z := .int .i64 0) (by kernel_rfl) e.currency hok.2 false
            rw [this, hcur]
            cases getL (sumsL (x.take k)) e.currency <;> rfl
          have hcb : -(1099511627776 * (k : Int)) ≤ cur ∧ cur ≤ 1099511627776 * (k : Int) := by
            rw [hcur]
            cases hg : getL (sumsL (x.take k)) e.currency with
            | none => simp; omega
            | some v => exact sums_bound (fun e he => (Hf.out.small e he).2) k hk _ (getL_mem hg)
          obtain ⟨hc1, hc2⟩ := hcb
          have Hst := Lib.hid (sumsL_snoc he)
          have Hcur := Lib.hid hcur
          clear he hem hcell hcur
          go_wp2_with (at_mapUpdate; go_must (refine wpList_mapUpdate_at (encK := Value.string) (encV := encInt) (ok := okStr) (b := sb) (l := sumsL (x.take k)) rfl (.tmp 72) (.tmp 74) (.tmp 78) rfl encStr_key Tryd.underlying112 hmo' e.currency hok.2 (cur + e.amount) rfl rfl rfl ?_))
          intro w1 hm1 ho1
          go_wp2
          go_roundw
          case rel =>
            refine ⟨k + 1, by omega, by go_num, ?_, ?_⟩
            · show Below _ _ _
              exact (hbel.out.alloc hbel.out.size _).trans (ho1.below hsb1)
            · show MapOf _ _ _ _ _ _
              rw [Hst.out]
              unfold sumStep
              rw [← Hcur.out]
              exact hm1
          case measure => simp [intOf]; omega
        · have hall : sumsL (x.take k) = sumsL x := by rw [List.take_of_length_le (by omega)]
          have hmo2 := hmo.out
          rw [hall] at hmo2
          have Hz := Lib.hid hf0.out
          clear hall hmo
          go_wp2_with (at_range; go_must (refine wpList_range_at (encK := Value.string) (encV := encInt) (ok := okStr) (b := sb) (l := sumsL x) rfl (.tmp 80) rfl Tryd.underlying112 hmo2 rfl ?_))
          intro ob hrg
          have Hrg0 := Lib.hid hrg
          clear hrg
          go_wp2
          have hrg := Hrg0.out
          obtain ⟨rb, hrb⟩ : ∃ rb, rb = wr.heap.size := ⟨_, rfl⟩
          rw [← hrb] at hrg ⊢
          have hrb1 : w.heap.size ≤ rb := by rw [hrb]; exact hbel.out.size
          have Hrb := Lib.hid hrb
          have Hrg := Lib.hid hrg
          have Hb2 := Lib.hid (hbel.out.alloc hbel.out.size ob)
          clear hrb hrg hmo2
          go_loopg [15] (sumsL x).length (fun g _ wr => ∃ left : List (ByteArray × Int), left.length ≤ g ∧ Hid (RangeOf Value.string encInt okStr wr sb rb (sumsL x) left) ∧ Hid (∀ p ∈ left, p.2 = 0) ∧ Hid (Below w.heap.size w wr))
          case atStart => exact ⟨sumsL x, Nat.le_refl _, Hrg.out, Hz.out, Hb2.out⟩
          case round =>
            obtain ⟨left, hg, hrg, hzl, hbel3⟩ := hrel
            go_wp2_with (at_next; go_must (refine wpList_next_at (encK := Value.string) (encV := encInt) (ok := okStr) (b := sb) (l := sumsL x) (r := rb) rfl (.tmp 81) rfl hrg.out rfl ?_ ?_); intro _; rotate_left; intro p A B w1 hAB hr1 ho1 hen; have hp0 : p.2 = 0 := hzl.out p (by rw [hAB]; simp); simp only [encInt, hp0] at hen; have Hin : Hid (left = A ++ p :: B ∧ RangeOf Value.string encInt okStr w1 sb rb (sumsL x) (A ++ B) ∧ OnlyB wr w1 rb) := ⟨hAB, hr1, ho1⟩; clear hAB hr1 ho1 hp0; rotate_right)
            · go_ret
              exact ⟨rfl, hbel3.out⟩
            · obtain ⟨hAB, hr1, ho1⟩ := Hin.out
              have hgl : (A ++ B).length + 1 ≤ gk := by rw [hAB] at hg; simp at hg ⊢; omega
              have hz2 : ∀ q ∈ A ++ B, q.2 = 0 := fun q hq => hzl.out q (by rw [hAB]; simp at hq ⊢; rcases hq with h | h; exact .inl h; exact .inr (.inr h))
              go_roundg (A ++ B).length
              case rel => exact ⟨A ++ B, Nat.le_refl _, hr1, hz2, hbel3.out.trans (ho1.below hrb1)⟩
              case measure => omega
end Go.Proofs.YtmjkkmfjpppehaaDoor
