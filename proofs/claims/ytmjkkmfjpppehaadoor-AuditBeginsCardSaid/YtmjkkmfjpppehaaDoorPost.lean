/- A post that may be. -/
import Derived.Test.YtmjkkmfjpppehaaDoorBook
namespace Go.Proofs.YtmjkkmfjpppehaaDoor
open Go.RowKit Go.Sup
set_option maxRecDepth 100000
theorem free_any (w : World) (f b h : Int) (h1 : -4611686018427387904 ≤ b - h ∧ b - h ≤ 4611686018427387904) (h2 : -4611686018427387904 ≤ b - h - f ∧ b - h - f ≤ 4611686018427387904) :
    Calls Tryd.prog 34 #[.agg #[.int .i64 f, .int .i64 b, .int .i64 h]] w fun e w' => e = .returned (.int .i64 (b - h - f)) ∧ Below w.heap.size w w' := by
  obtain ⟨a1, a2⟩ := h1
  obtain ⟨a3, a4⟩ := h2
  have e1 : IntKind.i64.wrap (b - h) = b - h := IntWalk.i64_in _ (by omega)
  have e2 : IntKind.i64.wrap (b - h - f) = b - h - f := IntWalk.i64_in _ (by omega)
  go_enter Tryd.func34, Tryd.ntmps34
  go_wp2
  go_ret
  exact ⟨rfl, (Below.refl _ _).alloc (Nat.le_refl _) _⟩
def chStep (l : List (KeyD × Int)) (e : EntryD) : List (KeyD × Int) := putL l e.key ((getL l e.key).getD 0 + e.amount)
def chL (x : List EntryD) : List (KeyD × Int) := x.foldl chStep []
theorem chL_snoc {x : List EntryD} {k : Nat} {e : EntryD} (h : x[k]? = some e) : chL (x.take (k + 1)) = chStep (chL (x.take k)) e := by
  unfold chL
  rw [List.take_add_one, h, List.foldl_append]; rfl
theorem ch_bound {x : List EntryD} (h : ∀ e ∈ x, -1099511627776 ≤ e.amount ∧ e.amount ≤ 1099511627776) : ∀ k : Nat, k ≤ x.length → ∀ p ∈ chL (x.take k), -(1099511627776 * (k : Int)) ≤ p.2 ∧ p.2 ≤ 1099511627776 * (k : Int)
  | 0, _, p, hp => by simp [chL] at hp
  | k + 1, hk, p, hp => by
    obtain ⟨e, he⟩ : ∃ e, x[k]? = some e := ⟨_, List.getElem?_eq_getElem hk⟩
    have hb := h e (List.mem_of_getElem? he)
    have ih := ch_bound h k (by omega)
    rw [chL_snoc he] at hp
    rcases putL_mem hp with hp | rfl
    · have := ih p hp; omega
    · show -(1099511627776 * ((k + 1 : Nat) : Int)) ≤ (getL (chL (x.take k)) e.key).getD 0 + e.amount ∧ _
      cases hg : getL (chL (x.take k)) e.key with
      | none => simp; omega
      | some v =>
        have := ih _ (getL_mem hg)
        simp at this ⊢; omega
/-- The changes that the accounts bear. -/
def Bears (L : LG) (x : List EntryD) : Prop := ∀ p ∈ chL x, ∃ s, getL L.accts p.1 = some s ∧ -4398046511104 ≤ s.bal ∧ s.bal + p.2 ≤ 1099511627776 ∧ -4398046511104 ≤ s.floor ∧ s.floor ≤ 4398046511104 ∧ 0 ≤ s.held ∧ s.held ≤ 4398046511104 ∧ s.bal ≤ 4398046511104 ∧ (p.2 < 0 → -p.2 ≤ s.bal - s.held - s.floor)

set_option maxHeartbeats 2000000 in
theorem post_any (w : World) (b m h : Nat) (pv : Value) (L : LG) (H : LedAt w b m h pv L) (text : ByteArray) (x : List EntryD) (v : Value) (hx : SlC w w.heap.size 3 (x.map EntryD.row) v) (hf : Fine L text x) (hb : Bears L x) :
    Calls Tryd.prog 21 #[.pointer (some ⟨b, 0, none⟩), .string text, v] w fun e w' => e = .returned (.tuple #[.int .i64 ((L.posts.length + 1 : Nat) : Int), .int .i64 0]) ∧
      (∃ pv', LedAt w' b m h pv' ⟨L.owner, L.accts.map (upd (chL x)), L.posts ++ [⟨((L.posts.length + 1 : Nat) : Int), text, x⟩], L.holds⟩ ∧ (pv'.ownBlock = pv.ownBlock ∨ ∃ g, pv'.ownBlock = some g ∧ w.heap.size ≤ g)) ∧ Turns (b :: m :: pv.ownBlock.toList) w w' := by
  obtain ⟨A, c, rfl, hn, hc, -⟩ := id hx
  rw [List.length_map] at hx hn ⊢
  have hf2 := hf.few
  have c1 := H.c1
  have hbb := H.blt
  have H' := Lib.hid H
  have Hx := Lib.hid hx
  have Hf := Lib.hid hf
  have Hb := Lib.hid hb
  unfold maxLen at hc
  have hmm := @run_makeMap Tryd.prog
  clear H hx hf hb
  go_enter Tryd.func21, Tryd.ntmps21
  go_wp2_with fail
  refine (wrong_any w b m h pv L H'.out text x _ Hx.out Hf.out).mono ?_
  rintro e w0 ⟨rfl, hbw⟩
  obtain ⟨mb, hmb⟩ : ∃ mb, mb = w0.heap.size := ⟨_, rfl⟩
  have Hmade : Hid (MapOf encKey encInt okKey (w0.alloc (.map #[] 0)) mb ([] : List (KeyD × Int))) := by rw [hmb]; exact MapOf.made w0
  have hmb1 : w.heap.size ≤ mb := by rw [hmb]; exact hbw.size
  have Hmb := Lib.hid hmb
  have Hbw := Lib.hid hbw
  clear hmb hbw c1
  go_wp2
  rw [← Hmb.out]
  go_loopw [26, 11] (fun i _ wr => ∃ k : Nat, k ≤ x.length ∧ i = .int .i64 k ∧ Hid (Below w.heap.size w wr) ∧ Hid (MapOf encKey encInt okKey wr mb (chL (x.take k)))) (fun i _ _ => x.length - (intOf i).toNat)
  case atStart => exact ⟨0, by omega, rfl, Hbw.out.alloc Hbw.out.size _, Hmade.out⟩
  case round =>
    obtain ⟨k, hk, rfl, hbel, hmo⟩ := hrel
    by_cases hlt : k < x.length
    · obtain ⟨e, he⟩ : ∃ e, x[k]? = some e := ⟨_, List.getElem?_eq_getElem hlt⟩
      have hem := List.mem_of_getElem? he
      obtain ⟨hok, ha1, ha2⟩ := Hf.out.small e hem
      obtain ⟨bx, ox, hA, hbx, hcell⟩ := (Hx.out.below hbel.out).at_ (k := k) (r := e.row) (by simp [he])
      subst hA
      have e0 : wr.cell? ⟨bx, ox + k * 3, none⟩ = some (.string e.account) := hcell 0 _ rfl
      have e1 := hcell 1 (.string e.currency) rfl
      have e2 := hcell 2 (.int .i64 e.amount) rfl
      have hmo' := hmo.out.alloc (.cells #[.string e.account, .string e.currency, .int .i64 e.amount] 57)
      obtain ⟨cur, hcur⟩ : ∃ cur, cur = (getL (chL (x.take k)) e.key).getD 0 := ⟨_, rfl⟩
      have hlk : (Instr.lookup 84 (.map (some mb)) (.agg #[.string e.account, .string e.currency]) false).run Tryd.prog (wr.alloc (.cells #[.string e.account, .string e.currency, .int .i64 e.amount] 57)).drew = .ok (.int .i64 cur) (wr.alloc (.cells #[.string e.account, .string e.currency, .int .i64 e.amount] 57)).drew := by
        have := hmo'.drew.lookup (P := Tryd.prog) encKey_key Tryd.underlying84 (z := .int .i64 0) (by kernel_rfl) e.key hok false
        refine this.trans ?_
        rw [hcur]
        cases getL (chL (x.take k)) e.key <;> rfl
      have hcb : -(1099511627776 * (k : Int)) ≤ cur ∧ cur ≤ 1099511627776 * (k : Int) := by
        rw [hcur]
        cases hg : getL (chL (x.take k)) e.key with
        | none => simp; omega
        | some v => exact ch_bound (fun e he => (Hf.out.small e he).2) k hk _ (getL_mem hg)
      obtain ⟨hc1, hc2⟩ := hcb
      have hwr : IntKind.i64.wrap (cur + e.amount) = cur + e.amount := IntWalk.i64_in _ (by omega)
      have Hst := Lib.hid (chL_snoc he)
      have Hcur := Lib.hid hcur
      obtain ⟨p1, q1, w1, w2, l1, r1, m1, g1, on1, r2, m2, on2⟩ := MapOf.entryRun (P := Tryd.prog) (t := 84) (k := 72) (e := 2) hmo'.drew encKey_key Tryd.underlying84 0 (fun _ => by kernel_rfl) e.key hok (cur + e.amount)
      have hlk2 : (Instr.lookup 84 (.map (some mb)) (.agg #[.string e.account, .string e.currency]) false).run Tryd.prog w1 = .ok (.int .i64 cur) w1 := by
        have := m1.lookup (P := Tryd.prog) encKey_key Tryd.underlying84 (z := .int .i64 0) (by kernel_rfl) e.key hok false
        refine this.trans ?_
        rw [hcur, ← g1]
        cases getL l1 e.key <;> rfl
      simp only [encKey, encInt, EntryD.key] at r1 r2
      have Hin : Hid (MapOf encKey encInt okKey w2 mb (putL (chL (x.take k)) e.key (cur + e.amount)) ∧ OnlyB (wr.alloc (.cells #[.string e.account, .string e.currency, .int .i64 e.amount] 57)).drew w2 mb) := ⟨m2, on2⟩
      clear he hem hcell hcur hmo' m1 g1 on1 m2 on2
      go_wp2
      go_region
      go_wp2
      go_roundw
      case rel =>
        refine ⟨k + 1, by omega, by go_num, ?_, ?_⟩
        · show Below _ _ _
          exact ((hbel.out.alloc hbel.out.size _).drew).trans (Hin.out.2.below hmb1)
        · show MapOf _ _ _ _ _ _
          rw [Hst.out]
          unfold chStep
          rw [← Hcur.out]
          exact Hin.out.1
      case measure => simp [intOf]; omega
    · have hall : chL (x.take k) = chL x := by rw [List.take_of_length_le (by omega)]
      have hmo2 := hmo.out
      rw [hall] at hmo2
      obtain ⟨hcn, hcok⟩ : ((chL x).map (·.1)).Nodup ∧ ∀ p ∈ chL x, okKey p.1 := by obtain ⟨_, _, _, _, h, h', _⟩ := hmo2; exact ⟨h, h'⟩
      have Hcn := Lib.hid hcn
      have Hcok := Lib.hid hcok
      have Hmo2 := Lib.hid hmo2
      clear hall hmo hcn hcok
      go_wp2_with (at_range; go_must (refine wpList_range_at (encK := encKey) (encV := encInt) (ok := okKey) (b := mb) (l := chL x) rfl (.tmp 43) rfl Tryd.underlying84 hmo2 rfl ?_))
      intro ob hrg
      have Hrg0 := Lib.hid hrg
      clear hrg
      go_wp2
      have hrg := Hrg0.out
      obtain ⟨rb, hrb⟩ : ∃ rb, rb = wr.heap.size := ⟨_, rfl⟩
      rw [← hrb] at hrg ⊢
      have hrb1 : w.heap.size ≤ rb := by rw [hrb]; exact hbel.out.size
      have Hrb := Lib.hid hrb
      have Hrg := Lib.hid hrg
      have Hb2 := Lib.hid (hbel.out.alloc hbel.out.size ob)
      have Hm2 := Lib.hid (hmo2.alloc ob)
      have hmrb : mb ≠ rb := by rw [hrb]; have := hmo2.lt; omega
      clear hrb hrg hmo2
      go_loopg [12, 13, 14, 15] (chL x).length (fun g v12 _ _ _ wr => v12 = .bool false ∧ ∃ left : List (KeyD × Int), left.length ≤ g ∧ Hid (RangeOf encKey encInt okKey wr mb rb (chL x) left) ∧ Hid (∀ p ∈ left, p ∈ chL x) ∧ Hid (Below w.heap.size w wr) ∧ Hid (MapOf encKey encInt okKey wr mb (chL x)))
      case atStart => exact ⟨rfl, chL x, Nat.le_refl _, Hrg.out, fun _ h => h, Hb2.out, Hm2.out⟩
      case round =>
        obtain ⟨rfl, left, hg, hrg, hzl, hbel3, hmo3⟩ := hrel
        have hL := H'.out.below hbel3.out
        have d1 := hL.c1
        have hbr := hL.blt
        have HL := Lib.hid hL
        clear hL
        go_wp2_with (at_next; go_must (refine wpList_next_at (encK := encKey) (encV := encInt) (ok := okKey) (b := mb) (l := chL x) (r := rb) rfl (.tmp 44) rfl hrg.out rfl ?_ ?_); intro _; rotate_left; intro p A' B' w1 hAB hr1 ho1 hen; simp only [encInt, encKey] at hen; have Hin : Hid (left = A' ++ p :: B' ∧ RangeOf encKey encInt okKey w1 mb rb (chL x) (A' ++ B') ∧ OnlyB wr w1 rb) := ⟨hAB, hr1, ho1⟩; clear hAB hr1 ho1; rotate_right)
        · go_wp2_with fail
          refine (book_any wr b m h pv L HL.out text x _ ((Hx.out.below hbel3.out).more hbel3.out.size) (by omega) Hf.out.text mb (chL x) hmo3.out (by have := H'.out.accts.lt; omega) Hf.out.room (fun p hp => by
            obtain ⟨s, hs, q1, q2, q3, q4, q5, q6, q7, q8⟩ := Hb.out p hp
            have hn1 := ch_bound (fun e he => (Hf.out.small e he).2) x.length (Nat.le_refl _) p (by rw [List.take_of_length_le (Nat.le_refl _)]; exact hp)
            exact ⟨s, hs, by omega, by omega⟩)).mono ?_
          rintro e w2 ⟨rfl, ⟨pv', hpL, hpo⟩, hT⟩
          have Hend := Lib.hid (And.intro (And.intro hpL hpo) hT)
          clear hpL hpo hT d1
          go_wp2
          go_ret2
          refine ⟨rfl, ⟨pv', Hend.out.1.1, Hend.out.1.2.imp id fun ⟨g, h1, h2⟩ => ⟨g, h1, by have := hbel3.out.size; omega⟩⟩, ?_⟩
          exact ((Turns.of_below (S := []) hbel3.out).mono (by simp)).trans Hend.out.2
        · obtain ⟨hAB, hr1, ho1⟩ := Hin.out
          have hgl : (A' ++ B').length + 1 ≤ gk := by rw [hAB] at hg; simp at hg ⊢; omega
          have hpl : p ∈ left := by rw [hAB]; simp
          have hpc := hzl.out p hpl
          have hok := Hcok.out p hpc
          obtain ⟨s, hs, q1, q2, q3, q4, q5, q6, q7, q8⟩ := Hb.out p hpc
          have hn1 := ch_bound (fun e he => (Hf.out.small e he).2) x.length (Nat.le_refl _) p (by rw [List.take_of_length_le (Nat.le_refl _)]; exact hpc)
          have hL1 := HL.out.turns (S := [rb]) ((Turns.refl _ _).only ho1 (.inl (by simp))) (by simp; have := H'.out.blt; omega) (by simp; have := H'.out.accts.lt; omega) (by simp; have := H'.out.holds.lt; omega) (fun g hg => by simp; obtain ⟨rows, _, ho⟩ := H'.out.posts; have := (ho.lt g hg).2; omega) (fun i hi cur f hc => by
            simp at hi; subst hi
            obtain ⟨_, _, _, _, _, _, _, _, _, h1, _⟩ := hrg.out
            rw [h1] at hc; cases hc)
          have d1' := hL1.c1
          have hbr1 := hL1.blt
          have hlk : ∀ W, MapOf encKey encAcct okKey W m L.accts → (Instr.lookup 67 (.map (some m)) (.agg #[.string p.1.1, .string p.1.2]) false).run Tryd.prog W = .ok (.agg #[.int .i64 s.floor, .int .i64 s.bal, .int .i64 s.held]) W := by
            intro W hW
            have := hW.lookup (P := Tryd.prog) encKey_key Tryd.underlying67 (z := .agg #[.int .i64 0, .int .i64 0, .int .i64 0]) (by kernel_rfl) p.1 hok false
            rw [hs] at this
            exact this
          have l1 := hlk ((w1.alloc (.cells #[.string p.1.1, .string p.1.2] 72)).drew) (hL1.accts.alloc _).drew
          have l2 := hlk (((w1.alloc (.cells #[.string p.1.1, .string p.1.2] 72)).alloc (.cells #[.int .i64 0, .int .i64 0, .int .i64 0] 74)).drew) ((hL1.accts.alloc _).alloc _).drew
          have Hmo1 := Lib.hid (hmo3.out.only ho1 hmrb)
          have Hb1 := Lib.hid (hbel3.out.trans (ho1.below hrb1))
          have Hr1 := Lib.hid hr1
          have HAB := Lib.hid hAB
          have q1' : ∃ lo hi : Int, lo = s.bal ∧ hi = s.bal := ⟨_, _, rfl, rfl⟩
          have hw1 : IntKind.i64.wrap (s.bal + p.2) = s.bal + p.2 := IntWalk.i64_in _ (by omega)
          have hw2 : IntKind.i64.wrap (-p.2) = -p.2 := IntWalk.i64_in _ (by omega)
          have Hq8 := Lib.hid q8
          clear hlk hL1 hs hok hpc hpl hAB hr1 ho1 d1 q1' q8
          go_region
          all_goals
            have hw3 : IntKind.i64.wrap (-p.2) = -p.2 := IntWalk.i64_in _ (by omega)
            by_cases hneg : p.2 < 0
            · have h8 := Hq8.out hneg
              go_wp2_with (go_at_call 34; refine (free_any _ s.floor s.bal s.held ⟨by omega, by omega⟩ ⟨by omega, by omega⟩).mono ?_; rintro e w3 ⟨rfl, hb3⟩; have Hb3 := Lib.hid hb3; clear hb3)
              go_roundg (A' ++ B').length
              case rel =>
                have hsz : mb < w1.heap.size := Hmo1.out.lt
                have hsz2 : rb < w1.heap.size := Hr1.out.lt
                have hsz3 := Hb1.out.size
                refine ⟨by rw [decide_eq_false (by omega)], A' ++ B', Nat.le_refl _, ?_, ?_, ?_, ?_⟩
                · show RangeOf _ _ _ _ _ _ _ _
                  exact RangeOf.below (w := ((w1.alloc _).alloc _).drew) ((Hr1.out.alloc _).alloc _) Hb3.out (by show mb < ((w1.alloc _).alloc _).heap.size; simp; omega) (by show rb < ((w1.alloc _).alloc _).heap.size; simp; omega)
                · exact fun q hq => hzl.out q (by rw [HAB.out]; simp at hq ⊢; rcases hq with h | h; exact .inl h; exact .inr (.inr h))
                · show Below _ _ _
                  exact (((Hb1.out.alloc Hb1.out.size _).alloc (by simp; omega) _).drew).trans (Hb3.out.mono (by show w.heap.size ≤ ((w1.alloc _).alloc _).heap.size; simp; omega))
                · show MapOf _ _ _ _ _ _
                  exact MapOf.below (w := ((w1.alloc _).alloc _).drew) ((Hmo1.out.alloc _).alloc _) Hb3.out (by show mb < ((w1.alloc _).alloc _).heap.size; simp; omega)
              case measure => omega
            · go_wp2
              go_roundg (A' ++ B').length
              case rel =>
                refine ⟨rfl, A' ++ B', Nat.le_refl _, ?_, ?_, ?_, ?_⟩
                · show RangeOf _ _ _ _ _ _ _ _
                  exact (Hr1.out.alloc _).alloc _
                · exact fun q hq => hzl.out q (by rw [HAB.out]; simp at hq ⊢; rcases hq with h | h; exact .inl h; exact .inr (.inr h))
                · show Below _ _ _
                  exact ((Hb1.out.alloc Hb1.out.size _).alloc (by have := Hb1.out.size; simp; omega) _).drew
                · show MapOf _ _ _ _ _ _
                  exact (Hmo1.out.alloc _).alloc _
              case measure => omega
end Go.Proofs.YtmjkkmfjpppehaaDoor
