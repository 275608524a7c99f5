/- What Remits tells of two ledgers, the program's and the reference's: one line, or none. -/
import Derived.Test.YtmjkkmfjpppehaaDoorAudit
namespace Go.Proofs.YtmjkkmfjpppehaaDoor
open Go.RowKit Go.Sup
set_option maxRecDepth 100000
def sameM (a b : MoneyD) : Bool := decide (a.currency = b.currency) && decide (a.amount = b.amount)
def badAt (sent got : List MoneyD) (i : Nat) : Bool :=
  match sent[i]?, got[i]? with
  | some a, some b => !sameM a b
  | _, _ => true
def firstBad (sent got : List MoneyD) : Option Nat := (List.range got.length).find? (badAt sent got)
def vostro (s : ByteArray) : ByteArray := ⟨#[118, 111, 115, 116, 114, 111, 58]⟩ ++ s
def nostro (s : ByteArray) : ByteArray := ⟨#[110, 111, 115, 116, 114, 111, 58]⟩ ++ s
def remLine (fr to : ByteArray) (i : Nat) : ByteArray := fr ++ ⟨#[32]⟩ ++ to ++ ⟨#[32, 114, 101, 109, 105, 116, 115, 32]⟩ ++ dig i
def remitsS (fr to : ByteArray) (a b : List PostD) : List ByteArray :=
  match firstBad (mv (vostro to) 1 a) (mv (nostro fr) (-1) b) with
  | some i => [remLine fr to i]
  | none => []
theorem firstBad_some {sent got : List MoneyD} {k : Nat} (hk : k < got.length) (h : ∀ j, j < k → badAt sent got j = false) (hb : badAt sent got k = true) : firstBad sent got = some k := by
  unfold firstBad
  rw [List.find?_eq_some_iff_getElem]
  refine ⟨hb, k, by simpa using hk, by simp, fun j hj => ?_⟩
  simp [h j hj]
theorem firstBad_none {sent got : List MoneyD} (h : ∀ j, j < got.length → badAt sent got j = false) : firstBad sent got = none := by
  unfold firstBad
  rw [List.find?_eq_none]
  intro x hx
  simp [h x (by simpa using hx)]
def strRows (l : List ByteArray) : List (List Value) := l.map fun s => [.string s]
/-- What is asked of posts that are told about. -/
structure Fair (ps : List PostD) : Prop where
  am : ∀ p ∈ ps, ∀ e ∈ p.entries, -1099511627776 ≤ e.amount ∧ e.amount ≤ 1099511627776
  big : (ps.map fun p => p.entries.length).sum ≤ 100
  len : ps.length ≤ 100
theorem mv_len_all (acc : ByteArray) (sg : Int) (ps : List PostD) (h : Fair ps) : (mv acc sg ps).length ≤ 100 := by
  have := mv_len acc sg ps ps.length 0
  rw [List.take_length] at this
  have := h.big
  omega

theorem dig_size (k : Nat) : (dig k).size ≤ 2 := by unfold dig; split <;> simp [ByteArray.size]
theorem neqM (a b : MoneyD) (w : World) : (binOp .neq 62 (.agg #[.string a.currency, .int .i64 a.amount]) (.agg #[.string b.currency, .int .i64 b.amount])).run Tryd.prog w = .ok (.bool (!sameM a b)) w := by
  have hS : Tryd.prog.underlying 62 = some (.struct (Tryd.prog.fieldsOf 62)) := by kernel_rfl
  have hp : Tryd.prog.stoodInHeld 62 = false := by kernel_rfl
  rw [run_neq_struct, show (10000 : Nat) = 9999 + 1 from rfl, run_equalIn_agg w 9999 62 _ _ hS hp]
  simp only [Program.fieldsOf, Tryd.underlying62]
  go_simp
  unfold sameM
  by_cases h1 : a.currency = b.currency
  · by_cases h2 : a.amount = b.amount <;> simp [h1, h2]
  · have h3 : ¬ a.currency.toList = b.currency.toList := fun h => h1 (bs_ext h)
    simp [h1, h3]

set_option maxHeartbeats 1000000 in
theorem remits_any (fr to : ByteArray) (hfr : fr.size ≤ 1000) (hto : to.size ≤ 1000) (x y : Nat) (pa pb : List PostD) (va vb : Value) (w : World) (B : Nat) (hB : B ≤ w.heap.size) (_hx : x < w.heap.size) (hy : y < w.heap.size)
    (hcx : w.cell? ⟨x, 2, none⟩ = some va) (hcy : w.cell? ⟨y, 2, none⟩ = some vb) (ha : PostsAt w B pa va) (hb : PostsAt w B pb vb) (fa : Fair pa) (fb : Fair pb) :
    Calls Tryd.prog 9 #[.string fr, .string to, .pointer (some ⟨x, 0, none⟩), .pointer (some ⟨y, 0, none⟩)] w fun e w' => ∃ v', e = .returned v' ∧ SlC w' w'.heap.size 1 (strRows (remitsS fr to pa pb)) v' ∧ Below w.heap.size w w' := by
  have H1 := Lib.hid (movedP_any pa va x (vostro to) w B hB hcx ha fa.am (Nat.le_trans fa.big (by omega)) (Nat.le_trans fa.len (by omega)))
  have Hb := Lib.hid hb
  have Hfb := Lib.hid fb
  have Hfa := Lib.hid fa
  have Hcy := Lib.hid hcy
  clear hcx hcy ha hb fa fb
  go_enter Tryd.func9, Tryd.ntmps9
  go_wp2_with fail
  refine H1.out.mono ?_
  rintro e w1 ⟨v1, rfl, ho1, hb1⟩
  have H2 := Lib.hid (movedN_any pb vb y (nostro fr) w1 B (Nat.le_trans hB hb1.size) ((hb1.cell (p := ⟨y, 2, none⟩) hy).trans Hcy.out) (Hb.out.below (hb1.mono hB)) Hfb.out.am (Nat.le_trans Hfb.out.big (by omega)) (Nat.le_trans Hfb.out.len (by omega)))
  have Ho1 := Lib.hid ho1
  have Hb1 := Lib.hid hb1
  clear ho1 hb1
  go_wp2_with fail
  refine H2.out.mono ?_
  rintro e w2 ⟨v2, rfl, ho2, hb2⟩
  have hsz := hb2.size
  have hg : Tryd.prog.eqGuardType Tryd.prog.depth 62 = false := by kernel_rfl
  have ho1' := (Ho1.out.below hb2)
  obtain ⟨A1, c1, rfl, hn1, hc1, -⟩ := id ho1'
  obtain ⟨A2, c2, rfl, hn2, hc2, -⟩ := id ho2
  rw [List.length_map] at hn1 hn2
  have hl2 := mv_len_all (nostro fr) (-1) pb Hfb.out
  obtain ⟨sent, hsent⟩ : ∃ sent, sent = mv (vostro to) 1 pa := ⟨_, rfl⟩
  obtain ⟨got, hgot⟩ : ∃ got, got = mv (nostro fr) (-1) pb := ⟨_, rfl⟩
  have hrem : remitsS fr to pa pb = match firstBad sent got with | some i => [remLine fr to i] | none => [] := by rw [hsent, hgot]; rfl
  rw [← hsent] at hn1 ho1' ⊢
  rw [← hgot] at hn2 ho2 hl2 ⊢
  rw [List.length_map, List.length_map]
  rw [List.length_map] at ho1' ho2
  have Ho1' := Lib.hid ho1'
  have Ho2 := Lib.hid ho2
  have Hb2 := Lib.hid (Hb1.out.trans (hb2.mono Hb1.out.size))
  have Hrem := Lib.hid hrem
  unfold maxLen at hc1 hc2
  clear ho1' ho2 hb2 hsent hgot hrem H1 H2 Ho1 Hb1 Hcy Hb Hfa Hfb
  go_wp2
  go_loopw [23, 11, 12] (fun i _ _ wr => ∃ k : Nat, k ≤ got.length ∧ i = .int .i64 k ∧ Hid (Below w2.heap.size w2 wr) ∧ Hid (∀ j, j < k → badAt sent got j = false)) (fun i _ _ _ => got.length - (intOf i).toNat)
  case atStart => exact ⟨0, by omega, rfl, Below.refl _ _, fun j h => absurd h (by omega)⟩
  case round =>
    obtain ⟨k, hk, rfl, hbel, hok⟩ := hrel
    by_cases hlt : k < got.length
    · obtain ⟨m, hm⟩ : ∃ m, got[k]? = some m := ⟨_, List.getElem?_eq_getElem hlt⟩
      obtain ⟨b, off, hA, hb, hcell⟩ := (Ho2.out.below hbel.out).at_ (k := k) (r := m.row) (by simp [hm])
      subst hA
      have d0 : wr.cell? ⟨b, off + k * 2, none⟩ = some (.string m.currency) := hcell 0 _ rfl
      have d1 := hcell 1 (.int .i64 m.amount) rfl
      have Hm := Lib.hid hm
      clear hm hcell
      have hdg : (dig k).size ≤ 2 := dig_size k
      have hst : fr.size + 1 + to.size + 9 ≤ 10000 := by omega
      by_cases hks : k < sent.length
      · obtain ⟨s, hs⟩ : ∃ s, sent[k]? = some s := ⟨_, List.getElem?_eq_getElem hks⟩
        obtain ⟨b3, off3, hA3, hb3, hcell3⟩ := (Ho1'.out.below (hbel.out.mono hsz)).at_ (k := k) (r := s.row) (by simp [hs])
        subst hA3
        have q3 : b3 < wr.heap.size := by have := hbel.out.size; omega
        have s0 : wr.cell? ⟨b3, off3 + k * 2, none⟩ = some (.string s.currency) := hcell3 0 _ rfl
        have s1 := hcell3 1 (.int .i64 s.amount) rfl
        have Hs := Lib.hid hs
        have hne := fun W => neqM s m W
        clear hs hcell3
        have hge : decide (sent.length ≤ k) = false := by simp; omega
        go_wp2
        go_quiet (fail)
        go_wp2_with (go_at_call 25; refine (itoa_any k (by omega) _).mono ?_; rintro e w' ⟨rfl, rfl⟩)
        · go_ret
          have hbad : (!sameM s m) = true := by assumption
          have hf : firstBad sent got = some k := firstBad_some hlt hok.out (by unfold badAt; rw [Hs.out, Hm.out]; exact hbad)
          have hr := Hrem.out
          rw [hf] at hr
          refine ⟨_, rfl, ?_, ?_⟩
          · rw [hr]; exact SlC.lit1 _ [.string (remLine fr to k)] 9 _ (by simp) (by simp)
          · exact Hb2.out.trans ((below_drewN ((hbel.out.alloc hbel.out.size _)) nq |>.alloc (by simp; have := hbel.out.size; omega) _).mono Hb2.out.size)
        · go_roundw
          case rel =>
            have hbad : (!sameM s m) = false := by assumption
            refine ⟨k + 1, by omega, by go_num, below_drewN (hbel.out.alloc hbel.out.size _) nq, ?_⟩
            show ∀ j, j < k + 1 → badAt sent got j = false
            intro j hj
            by_cases h : j = k
            · subst h; unfold badAt; rw [Hs.out, Hm.out]; exact hbad
            · exact hok.out j (by omega)
          case measure => simp [intOf]; omega
      · have hge : decide (sent.length ≤ k) = true := by simp; omega
        go_wp2
        go_quiet (fail)
        go_wp2_with (go_at_call 25; refine (itoa_any k (by omega) _).mono ?_; rintro e w' ⟨rfl, rfl⟩)
        go_ret
        have hf : firstBad sent got = some k := firstBad_some hlt hok.out (by unfold badAt; rw [List.getElem?_eq_none (by omega)])
        have hr := Hrem.out
        rw [hf] at hr
        refine ⟨_, rfl, ?_, ?_⟩
        · rw [hr]; exact SlC.lit1 _ [.string (remLine fr to k)] 9 _ (by simp) (by simp)
        · exact Hb2.out.trans ((below_drewN ((hbel.out.alloc hbel.out.size _)) nq |>.alloc (by simp; have := hbel.out.size; omega) _).mono Hb2.out.size)
    · go_wp2
      go_ret
      have hk' : k = got.length := by omega
      have hf : firstBad sent got = none := firstBad_none (fun j hj => hok.out j (by omega))
      have hr := Hrem.out
      rw [hf] at hr
      refine ⟨_, rfl, ?_, Hb2.out.trans (hbel.out.mono Hb2.out.size)⟩
      rw [hr]; exact SlC.nil_ _ _ _
end Go.Proofs.YtmjkkmfjpppehaaDoor
