/- AuditBegins: the walk, and the plain law. -/
import Derived.Test.YtmjkkmfjpppehaaDoorDoorA
namespace Go.Proofs.YtmjkkmfjpppehaaDoor
open Go.RowKit Go.Sup
set_option maxRecDepth 100000
theorem Tryd.el22 : ElTy Tryd.prog 22 37 3 4 := ElTy.mk' Tryd.underlying22 (z := .agg #[.int .i16 0, .bool false, .int .u8 0]) (by kernel_rfl) rfl (by omega)
def sumM (x : Nat) : MoveD := ⟨((x % 30000 : Nat) : Int) + 1, false, 0⟩
def negM (x : Nat) : MoveD := ⟨-((x % 30000 : Nat) : Int) - 1, false, 0⟩
theorem sumM_ok (x : Nat) : (sumM x).Ok := ⟨by simp [sumM]; omega, by simp [sumM]; omega, by simp [sumM]⟩
theorem negM_ok (x : Nat) : (negM x).Ok := ⟨by simp [negM]; omega, by simp [negM]; omega, by simp [negM]⟩
theorem names3 : Names [vTo] := ⟨by
  intro n hn
  simp at hn
  subst hn
  exact ⟨by decide, by decide, by kernel_rfl⟩, by decide, by decide, by decide⟩
theorem names4 : Names [oFrom] := ⟨by
  intro n hn
  simp at hn
  subst hn
  exact ⟨by decide, by decide, by kernel_rfl⟩, by decide, by decide, by decide⟩
theorem mv_posts (acc : ByteArray) (sg : Int) (ns : List ByteArray) (ms : List MoveD) : mv acc sg (postsOf ns ms) = ms.flatMap fun m => mvEs acc sg (pair (m.who ns) nX m.cur m.amount) := by
  unfold mv
  rw [List.flatMap_def, List.flatMap_def]
  congr 1
  refine List.ext_getElem (by simp [postsOf]) fun i h1 h2 => ?_
  simp [postsOf]
theorem who1 (n : ByteArray) (m : MoveD) : m.who [n] = n := by
  unfold MoveD.who
  simp [Nat.mod_one]
theorem flat_one {α β : Type} (f : α → List β) (g : α → β) : ∀ l : List α, (∀ a ∈ l, f a = [g a]) → l.flatMap f = l.map g
  | [], _ => rfl
  | a :: l, h => by rw [List.flatMap_cons, List.map_cons, h a (by simp), flat_one f g l fun b hb => h b (by simp [hb])]; rfl
theorem vTo_ne : vTo ≠ nX := by decide
theorem oFrom_ne : oFrom ≠ nX := by decide
theorem mv_a (ms : List MoveD) (h : ∀ m ∈ ms, 0 < m.amount) : mv (vostro nTo) 1 (postsOf [vTo] ms) = ms.map fun m => ⟨m.cur, m.amount⟩ := by
  rw [show vostro nTo = vTo by kernel_rfl, mv_posts]
  refine flat_one _ _ ms fun m hm => ?_
  have h1 := h m hm
  simp only [who1, mvEs, pair, mvE, List.flatMap_cons, List.flatMap_nil, Int.mul_one]
  rw [if_pos ⟨trivial, h1⟩, if_neg (fun e => vTo_ne e.1.symm)]
  rfl
theorem mv_b (ms : List MoveD) (h : ∀ m ∈ ms, m.amount < 0) : mv (nostro nFrom) (-1) (postsOf [oFrom] ms) = ms.map fun m => ⟨m.cur, -m.amount⟩ := by
  rw [show nostro nFrom = oFrom by kernel_rfl, mv_posts]
  refine flat_one _ _ ms fun m hm => ?_
  have h1 := h m hm
  simp only [who1, mvEs, pair, mvE, List.flatMap_cons, List.flatMap_nil]
  rw [if_pos ⟨trivial, by omega⟩, if_neg (fun e => oFrom_ne e.1.symm)]
  simp
theorem same_self (a : MoneyD) : sameM a a = true := by simp [sameM]
/-- A beginning of what was sent: nothing is told. -/
theorem begins_none (xs : List Nat) (c : Nat) : remitsS nFrom nTo (postsOf [vTo] (xs.map sumM)) (postsOf [oFrom] ((xs.take c).map negM)) = [] := by
  unfold remitsS
  rw [mv_a _ (by intro m hm; obtain ⟨x, _, rfl⟩ := List.mem_map.1 hm; simp [sumM]; omega), mv_b _ (by intro m hm; obtain ⟨x, _, rfl⟩ := List.mem_map.1 hm; simp [negM]; omega)]
  rw [firstBad_none]
  intro j hj
  simp at hj
  have hjx : j < xs.length := by omega
  unfold badAt
  have h1 : xs[j]? = some xs[j] := List.getElem?_eq_getElem hjx
  have h2 : (xs.take c)[j]? = some xs[j] := by rw [List.getElem?_take, if_pos (by omega), h1]
  simp only [List.getElem?_map, h1, h2, Option.map_some]
  have : (⟨(negM xs[j]).cur, -(negM xs[j]).amount⟩ : MoneyD) = ⟨(sumM xs[j]).cur, (sumM xs[j]).amount⟩ := by
    simp [negM, sumM, MoveD.cur]; omega
  rw [this, same_self]; rfl
/-- A sum booked otherwise: one line is told. -/
theorem begins_one (xs : List Nat) (c k : Nat) (x : Nat) (hx : (xs.take c)[k]? = some x) : (remitsS nFrom nTo (postsOf [vTo] (xs.map sumM)) (postsOf [oFrom] (((xs.take c).map negM).set k ⟨(negM x).amount - 1, false, 0⟩))).length = 1 := by
  have hk : k < (xs.take c).length := (List.getElem?_eq_some_iff.1 hx).1
  have hxk : xs[k]? = some x := by
    rw [List.getElem?_take] at hx
    split at hx
    · exact hx
    · cases hx
  unfold remitsS
  rw [mv_a _ (by intro m hm; obtain ⟨x, _, rfl⟩ := List.mem_map.1 hm; simp [sumM]; omega), mv_b _ (by
    intro m hm
    rcases List.mem_or_eq_of_mem_set hm with hm | rfl
    · obtain ⟨x, _, rfl⟩ := List.mem_map.1 hm; simp [negM]; omega
    · simp [negM]; omega)]
  rw [firstBad_some (k := k) (by rw [List.length_map, List.length_set, List.length_map]; exact hk)]
  · rfl
  · intro j hj
    have hjx : j < xs.length := by simp at hk; omega
    unfold badAt
    have h1 : xs[j]? = some xs[j] := List.getElem?_eq_getElem hjx
    have h2 : (xs.take c)[j]? = some xs[j] := by rw [List.getElem?_take, if_pos (by simp at hk; omega), h1]
    simp only [List.getElem?_map, h1, h2, Option.map_some, List.getElem?_set, if_neg (show ¬ k = j by omega)]
    have : (⟨(negM xs[j]).cur, -(negM xs[j]).amount⟩ : MoneyD) = ⟨(sumM xs[j]).cur, (sumM xs[j]).amount⟩ := by
      simp [negM, sumM, MoveD.cur]; omega
    rw [this, same_self]; rfl
  · unfold badAt
    simp only [List.getElem?_map, hxk, Option.map_some, List.getElem?_set, if_true]
    rw [if_pos (by simpa using hk)]
    simp only [Option.map_some]
    have hne : (sumM x).amount ≠ -((negM x).amount - 1) := by unfold sumM negM; simp only; omega
    unfold sameM
    simp only
    rw [decide_eq_false hne, Bool.and_false]; rfl
/-- A store into a row of another kind leaves a ledger as it is. -/
theorem LedAt.setOther {w : World} {b m h : Nat} {pv : Value} {L : LG} (H : LedAt w b m h pv L) {g o : Nat} {cs : Array Value} {t : TypeId} {f : Nat × Nat} (hg : w.heap[g]? = some (.cells cs t f)) (h70 : t ≠ 70) (h89 : t ≠ 89) (h57 : t ≠ 57) (v : Value) : LedAt (w.setCell ⟨g, o, none⟩ v) b m h pv L := by
  have hn := H.notIn hg h70 h89
  simp only [List.mem_cons, Option.mem_toList, not_or] at hn
  have hh : h ≠ g := by
    obtain ⟨es, clock, h0, _⟩ := H.holds
    intro e; rw [e, hg] at h0; cases h0
  refine H.turns (S := [g]) ((Turns.refl _ _).set_ (.inl (by simp)) _) (by simpa using Ne.symm hn.1) (by simpa using Ne.symm hn.2.1) (by simpa using hh) (fun k hk => by simp; intro e; subst e; exact hn.2.2 hk) (fun i hi cur f' hc => ?_)
  simp at hi; subst hi
  rw [hg] at hc; injection hc with hc; injection hc with _ ht; exact h57 ht
def sumRow (x : Nat) : List Value := [.int .u16 x]

set_option maxHeartbeats 4000000 in
theorem auditBegins_any (w : World) (xs : List Nat) (hx : ∀ x ∈ xs, x < 65536) (vs : Value) (hs : SlC w w.heap.size 1 (xs.map sumRow) vs) (n m : Nat) (hn : n < 256) (hm : m < 256) :
    Calls Tryd.prog 4 #[vs, .int .u8 n, .int .u8 m] w fun e w' => e = .returned (.bool true) ∧ Below w.heap.size w w' := by
  obtain ⟨A, c, rfl, hl, hc, -⟩ := id hs
  rw [List.length_map] at hs hl ⊢
  have Hs := Lib.hid hs
  have Hx := Lib.hid hx
  unfold maxLen at hc
  clear hs hx
  by_cases h30 : xs.length ≤ 30
  · by_cases h0 : 0 < xs.length
    · have hz : ((xs.length : Int) == 0) = false := by rw [beq_eq_false_iff_ne]; omega
      go_enter Tryd.func4, Tryd.ntmps4
      go_wp2_with fail
      refine (awake_any _).mono ?_
      rintro e w1 ⟨rfl, hb1⟩
      have Hb1 := Lib.hid hb1
      have hs1 := hb1.size
      clear hb1
      have Oa : Hid (OwnC ((w1.alloc (.cells #[] 37)).alloc (.cells #[] 37)) w.heap.size 37 3 ([] : List (List Value)) (.slice (some ⟨w1.heap.size, 0, none⟩) 0 0)) := ((OwnC.empty_ 37 3 (Nat.le_refl _)).lower hs1).alloc _
      have Ob : Hid (OwnC ((w1.alloc (.cells #[] 37)).alloc (.cells #[] 37)) w.heap.size 37 3 ([] : List (List Value)) (.slice (some ⟨(w1.alloc (.cells #[] 37)).heap.size, 0, none⟩) 0 0)) := (OwnC.empty_ 37 3 (Nat.le_refl _)).lower (by simp; omega)
      obtain ⟨q, hq⟩ : ∃ q, q = n % (xs.length + 1) := ⟨_, rfl⟩
      have hq1 : q ≤ xs.length := by have := Nat.mod_lt n (show 0 < xs.length + 1 by omega); omega
      have Hq := Lib.hid hq
      clear hq
      go_wp2_with fail
      go_loopw [30, 7, 8, 9, 10] (fun i va vb _ _ wr => ∃ k : Nat, k ≤ xs.length ∧ i = .int .i64 k ∧ Hid (OwnC wr w.heap.size 37 3 (((xs.take k).map sumM).map MoveD.row) va) ∧ Hid (OwnC wr w.heap.size 37 3 (((xs.take (min q k)).map negM).map MoveD.row) vb) ∧ Hid (∀ g, va.ownBlock = some g → vb.ownBlock ≠ some g) ∧ Hid (Below w.heap.size w wr)) (fun i _ _ _ _ _ => xs.length - (intOf i).toNat)
      case atStart =>
        refine ⟨0, by omega, rfl, ?_, ?_, ?_, ((Hb1.out.alloc hs1 _).alloc (by simp; omega) _)⟩
        · simpa using Oa
        · have := Ob; simp only [World.alloc] at this ⊢; simpa using this
        · intro g hg hg2; simp [Value.ownBlock] at hg hg2; omega
      case round =>
        clear Oa Ob
        obtain ⟨k, hk, rfl, Oa, Ob, Hap, hbel⟩ := hrel
        have hla : (((xs.take k).map sumM).map MoveD.row).length = k := by simp; omega
        have hlb : (((xs.take (min q k)).map negM).map MoveD.row).length = min q k := by simp; omega
        obtain ⟨Aa, ca, hva, hna, hca, -⟩ := id Oa.out.sl
        obtain ⟨Ab, cb, hvb, hnb, hcb, -⟩ := id Ob.out.sl
        rw [hla] at hva hna
        rw [hlb] at hvb hnb
        subst hva; subst hvb
        unfold maxLen at hca hcb
        have Hla := Lib.hid hla
        have Hlb := Lib.hid hlb
        clear hla hlb
        by_cases hlt : k < xs.length
        · obtain ⟨x, hx⟩ : ∃ x, xs[k]? = some x := ⟨_, List.getElem?_eq_getElem hlt⟩
          have hx6 := Hx.out x (List.mem_of_getElem? hx)
          obtain ⟨bx, ox, hA, hbx, hcell⟩ := (Hs.out.below hbel.out).at_ (k := k) (r := sumRow x) (by simp [hx])
          subst hA
          have e0 : wr.cell? ⟨bx, ox + k, none⟩ = some (.int .u16 x) := by have := hcell 0 _ rfl; simpa using this
          obtain ⟨r, hr⟩ : ∃ r, r = x % 30000 := ⟨_, rfl⟩
          have hr3 : r < 30000 := by omega
          have z2 : (x : Int).tmod 30000 = (r : Int) := by rw [hr, Int.ofNat_tmod]; rfl
          have hsz := hbel.out.size
          have Hr := Lib.hid hr
          have HX := Lib.hid hx
          clear hr hx hcell
          have z7 : (n : Int).tmod ((xs.length : Int) + 1) = (q : Int) := by rw [Hq.out, Int.ofNat_tmod]; rfl
          have z8 : ¬ (xs.length : Int) + 1 = 0 := by omega
          go_wp2_with (at_builtin; go_must (refine wpList_appN _ rfl (.tmp 35) (.tmp 41) 22 rfl Tryd.el22 w.heap.size _ (.slice Aa k ca) rfl (Oa.out.alloc _) _ [(sumM x).row] _ rfl (SlC.litN [(sumM x).row] (by simp [MoveD.row]) (by simp [MoveD.row, sumM, ← Hr.out]) 37 wr.heap.size 1 (wr.heap.size + 1) rfl rfl (by omega) (by unfold maxLen; omega)) (by simp [MoveD.row]) (by simp [MoveD.row, Value.oneCell']) (by rw [Hla.out]; simp; omega) (by rw [Hla.out]; simp [maxLen]; omega) (by simp; omega) ?_))
          intro v1 w2 hov hgr hbl hob
          have Ho1 : Hid (OwnC w2 w.heap.size 37 3 (((xs.take k).map sumM).map MoveD.row ++ [(sumM x).row]) v1) := by
            show OwnC _ _ _ _ _ _
            simpa using hov
          have hpq : (Value.slice Ab (min q k) cb).ownBlock = none ∨ (Value.slice Ab (min q k) cb).ownBlock ≠ (Value.slice Aa k ca).ownBlock := by
            rcases hg : (Value.slice Ab (min q k) cb).ownBlock with _ | g
            · exact .inl rfl
            · exact .inr fun e => Hap.out g e.symm hg
          have Ob2 : Hid (OwnC w2 w.heap.size 37 3 (((xs.take (min q k)).map negM).map MoveD.row) (.slice Ab (min q k) cb)) := (Ob.out.alloc _).kept hgr hpq
          have hltb := Ob.out.lt
          have Hap2 : Hid (∀ g, v1.ownBlock = some g → (Value.slice Ab (min q k) cb).ownBlock ≠ some g) := by
            intro g hg hg2
            rcases hob with h | h
            · exact Hap.out g (h ▸ hg) hg2
            · rw [h] at hg; injection hg with hg; have := (hltb g hg2).2; omega
          have Hb2 : Hid (Below w.heap.size w w2) := (hbel.out.alloc hsz _).trans hbl
          have hsz2 := Hb2.out.size
          have HX2 : Hid (((xs.take (k + 1)).map sumM).map MoveD.row = ((xs.take k).map sumM).map MoveD.row ++ [(sumM x).row]) := by
            show _ = _
            rw [List.take_add_one, HX.out]; simp
          clear hov hgr hbl hob hpq hltb
          by_cases hkq : k < q
          · go_wp2_with (at_builtin; go_must (refine wpList_appN _ rfl (.tmp 51) (.tmp 58) 22 rfl Tryd.el22 w.heap.size _ (.slice Ab (min q k) cb) rfl (Ob2.out.alloc _) _ [(negM x).row] _ rfl (SlC.litN [(negM x).row] (by simp [MoveD.row]) (by simp [MoveD.row, negM, ← Hr.out]) 37 w2.heap.size 1 (w2.heap.size + 1) rfl rfl (by omega) (by unfold maxLen; omega)) (by simp [MoveD.row]) (by simp [MoveD.row, Value.oneCell']) (by have := Hlb.out; simp at this ⊢; omega) (by have := Hlb.out; simp [maxLen] at this ⊢; omega) (by simp; omega) ?_))
            intro v2 w3 hov hgr hbl hob
            have Ho2 := Lib.hid hov
            have hpq : (v1 : Value).ownBlock = none ∨ v1.ownBlock ≠ (Value.slice Ab (min q k) cb).ownBlock := by
              rcases hg : v1.ownBlock with _ | g
              · exact .inl rfl
              · exact .inr fun e => Hap2.out g hg e.symm
            have Oa3 : Hid (OwnC w3 w.heap.size 37 3 (((xs.take (k + 1)).map sumM).map MoveD.row) v1) := by
              show OwnC _ _ _ _ _ _
              rw [HX2.out]; exact (Ho1.out.alloc _).kept hgr hpq
            have hlta := Ho1.out.lt
            have Hap3 : Hid (∀ g, v1.ownBlock = some g → v2.ownBlock ≠ some g) := by
              intro g hg hg2
              rcases hob with h | h
              · exact Hap2.out g hg (h ▸ hg2)
              · rw [h] at hg2; injection hg2 with hg2; have := (hlta g hg).2; omega
            have Hb3 : Hid (Below w.heap.size w w3) := (Hb2.out.alloc hsz2 _).trans hbl
            have Ob3 : Hid (OwnC w3 w.heap.size 37 3 (((xs.take (min q (k + 1))).map negM).map MoveD.row) v2) := by
              show OwnC _ _ _ _ _ _
              rw [show min q (k + 1) = k + 1 by omega, List.take_add_one, HX.out]
              have := Ho2.out
              rw [show min q k = k by omega] at this
              simpa using this
            clear hov hgr hbl hob hpq hlta
            go_wp2
            go_roundw
            case rel => exact ⟨k + 1, by omega, by go_num, Oa3.out, Ob3.out, Hap3.out, Hb3.out⟩
            case measure => simp [intOf]; omega
          · have Ob3 : Hid (OwnC w2 w.heap.size 37 3 (((xs.take (min q (k + 1))).map negM).map MoveD.row) (.slice Ab (min q k) cb)) := by
              show OwnC _ _ _ _ _ _
              rw [show min q (k + 1) = min q k by omega]
              exact Ob2.out
            have Oa3 : Hid (OwnC w2 w.heap.size 37 3 (((xs.take (k + 1)).map sumM).map MoveD.row) v1) := by
              show OwnC _ _ _ _ _ _
              rw [HX2.out]; exact Ho1.out
            go_wp2
            go_roundw
            case rel => exact ⟨k + 1, by omega, by go_num, Oa3.out, Ob3.out, Hap2.out, Hb2.out⟩
            case measure => simp [intOf]; omega
        · have hmq : min q k = q := by omega
          have hk2 : k = xs.length := by omega
          rw [hmq] at Ob hnb Hap ⊢
          subst hk2
          have Oa2 : Hid (OwnC wr w.heap.size 37 3 ((xs.map sumM).map MoveD.row) (.slice Aa xs.length ca)) := by
            have := Oa.out; rw [List.take_of_length_le (by omega)] at this; exact this
          have Ob2 : Hid (OwnC wr w.heap.size 37 3 (((xs.take q).map negM).map MoveD.row) (.slice Ab q cb)) := Ob.out
          have oka : ∀ mm ∈ xs.map sumM, MoveD.Ok mm := by
            intro mm hm; obtain ⟨x, _, rfl⟩ := List.mem_map.1 hm; exact sumM_ok x
          have okb : ∀ mm ∈ (xs.take q).map negM, MoveD.Ok mm := by
            intro mm hm; obtain ⟨x, _, rfl⟩ := List.mem_map.1 hm; exact negM_ok x
          have Oka := Lib.hid oka
          have Okb := Lib.hid okb
          clear Oa Ob oka okb Hap Hla Hlb hmq
          have hsz := hbel.out.size
          go_wp2_with fail
          refine (booked_any _ (xs.map sumM) _ ((Oa2.out.sl.alloc (Nat.le_refl _) _).more (by simp)) Oka.out (by rw [List.length_map]; exact h30) [vTo] _ (SlC.litN (strRows [vTo]) (by simp [strRows]) rfl 9 wr.heap.size 1 _ rfl rfl (by simp) (by unfold maxLen; omega)) names3).mono ?_
          rintro e w2 ⟨b2, pv2, rfl, l2, cc2, pa2, hb2, m2, h2, L2, HL2, hp2⟩
          have Ob3 : Hid (OwnC w2 w.heap.size 37 3 (((xs.take q).map negM).map MoveD.row) (.slice Ab q cb)) := (Ob2.out.alloc _).below hb2
          have Hb2 : Hid (Below w.heap.size w w2) := (hbel.out.alloc hsz _).trans (hb2.mono (by simp; omega))
          have H2 := Lib.hid (And.intro HL2 hp2)
          have s2 := Hb2.out.size
          clear cc2 pa2 hb2 HL2 hp2 Ob2
          go_wp2_with fail
          refine (booked_any _ ((xs.take q).map negM) _ ((Ob3.out.sl.alloc (Nat.le_refl _) _).more (by simp)) Okb.out (by simp; omega) [oFrom] _ (SlC.litN (strRows [oFrom]) (by simp [strRows]) rfl 9 w2.heap.size 1 _ rfl rfl (by simp) (by unfold maxLen; omega)) names4).mono ?_
          rintro e w3 ⟨b3, pv3, rfl, l3, cc3, pa3, hb3, m3, h3, L3, HL3, hp3⟩
          have hb23 : Below w2.heap.size w2 w3 := ((Below.refl _ _).alloc (Nat.le_refl _) _).trans (hb3.mono (by simp))
          have Ob4 : Hid (OwnC w3 w.heap.size 37 3 (((xs.take q).map negM).map MoveD.row) (.slice Ab q cb)) := Ob3.out.below hb23
          have HL2b : Hid (LedAt w3 b2 m2 h2 pv2 L2 ∧ L2.posts = postsOf [vTo] (xs.map sumM)) := ⟨H2.out.1.below hb23, H2.out.2⟩
          have Hb3 : Hid (Below w.heap.size w w3) := Hb2.out.trans (hb23.mono s2)
          have H3 := Lib.hid (And.intro cc3 pa3)
          have s3 := hb23.size
          clear cc3 pa3 hb3 HL3 hp3 Ob3 H2 hb23
          go_wp2_with fail
          refine (remits_any nFrom nTo (by decide) (by decide) b2 b3 _ _ pv2 pv3 w3 w3.heap.size (Nat.le_refl _) (by omega) l3 HL2b.out.1.c2 H3.out.1 (by have := HL2b.out.1.postsAt; rw [HL2b.out.2] at this; exact this) H3.out.2 (fair_posts Oka.out (by rw [List.length_map]; exact h30)) (fair_posts Okb.out (by simp; omega))).mono ?_
          rintro e w4 ⟨v4, rfl, hs4, hb4⟩
          rw [begins_none] at hs4
          obtain ⟨A4, c4, rfl, -⟩ := hs4
          have Hb4 : Hid (Below w.heap.size w w4) := Hb3.out.trans (hb4.mono (by omega))
          have s4 := hb4.size
          have Ob5 : Hid (OwnC w4 w.heap.size 37 3 (((xs.take q).map negM).map MoveD.row) (.slice Ab q cb)) := Ob4.out.below hb4
          have HL4 : Hid (LedAt w4 b2 m2 h2 pv2 L2 ∧ L2.posts = postsOf [vTo] (xs.map sumM)) := ⟨HL2b.out.1.below hb4, HL2b.out.2⟩
          clear hb4 Ob4 HL2b H3
          by_cases q0 : q = 0
          · subst q0
            go_wp2_with fail
            go_ret
            exact ⟨rfl, Hb4.out⟩
          · have hq0 : ((q : Int) == 0) = false := by rw [beq_eq_false_iff_ne]; omega
            have hql : (((xs.take q).map negM).map MoveD.row).length = q := by simp; omega
            obtain ⟨g, cap, hv, hg1, hg2, hg3, hg4, hfz⟩ := Ob5.out.form (by rw [hql]; omega)
            injection hv with hv1 hv2 hv3
            subst hv1; subst hv3
            obtain ⟨k2, hk2⟩ : ∃ k2, k2 = m % q := ⟨_, rfl⟩
            have hk2q : k2 < q := by rw [hk2]; exact Nat.mod_lt _ (by omega)
            have y1 : (m : Int).tmod (q : Int) = (k2 : Int) := by rw [hk2, Int.ofNat_tmod]
            have y2 : ¬ (q : Int) = 0 := by omega
            obtain ⟨x, hx⟩ : ∃ x, (xs.take q)[k2]? = some x := ⟨_, List.getElem?_eq_getElem (by simp; omega)⟩
            have e0 : w4.cell? ⟨g, k2 * 3, none⟩ = some (.int .i16 (negM x).amount) := by
              have := Ob5.out.cellAt (k := k2) (j := 0) (r := (negM x).row) (u := .int .i16 (negM x).amount) (by rw [List.getElem?_map, List.getElem?_map, hx]; rfl) rfl
              simpa using this
            have f0 := hfz (k2 * 3)
            have am : -30000 ≤ (negM x).amount ∧ (negM x).amount ≤ -1 := by unfold negM; simp only; omega
            obtain ⟨am1, am2⟩ := am
            obtain ⟨amt, hamt⟩ : ∃ amt, amt = (negM x).amount := ⟨_, rfl⟩
            rw [← hamt] at e0 am1 am2
            have Hx2 := Lib.hid hx
            have Hamt := Lib.hid hamt
            have Hk2 := Lib.hid hk2
            have hrow : ((((xs.take q).map negM).map MoveD.row))[k2]? = some (negM x).row := by rw [List.getElem?_map, List.getElem?_map, hx]; rfl
            have OS : Hid (OwnC (w4.setCell ⟨g, k2 * 3, none⟩ (.int .i16 (amt - 1))) w.heap.size 37 3 ((((xs.take q).map negM).set k2 ⟨amt - 1, false, 0⟩).map MoveD.row) (.slice (some ⟨g, 0, none⟩) q cb)) := by
              show OwnC _ _ _ _ _ _
              rw [List.map_set]
              exact Ob5.out.set_ (k := k2) (j := 0) hrow (by omega) (.int .i16 (amt - 1))
            obtain ⟨cur, hcur⟩ := OwnC.typed Ob5.out (g := g) rfl
            have HLS : Hid (LedAt (w4.setCell ⟨g, k2 * 3, none⟩ (.int .i16 (amt - 1))) b2 m2 h2 pv2 L2 ∧ L2.posts = postsOf [vTo] (xs.map sumM)) := ⟨HL4.out.1.setOther hcur (by decide) (by decide) (by decide) _, HL4.out.2⟩
            have HbS : Hid (Below w.heap.size w (w4.setCell ⟨g, k2 * 3, none⟩ (.int .i16 (amt - 1)))) := Hb4.out.setCell hg1 _
            have hszS : (w4.setCell ⟨g, k2 * 3, none⟩ (.int .i16 (amt - 1))).heap.size = w4.heap.size := by simp [World.setCell]
            have okS : ∀ mm ∈ ((xs.take q).map negM).set k2 ⟨amt - 1, false, 0⟩, MoveD.Ok mm := by
              intro mm hm
              rcases List.mem_or_eq_of_mem_set hm with hm | rfl
              · exact Okb.out mm hm
              · exact ⟨by show _ ≤ amt - 1; omega, by show amt - 1 ≤ _; omega, by show (0 : Nat) < 256; omega⟩
            have OkS := Lib.hid okS
            have HszS := Lib.hid hszS
            clear hx hamt hk2 hfz hql hv2 hrow hcur okS hszS Ob5 HL4
            go_wp2_with fail
            refine (booked_any _ (((xs.take q).map negM).set k2 ⟨amt - 1, false, 0⟩) _ ((OS.out.sl.alloc (Nat.le_refl _) _).more (by simp)) OkS.out (by simp; omega) [oFrom] _ (SlC.litN (strRows [oFrom]) (by simp [strRows]) rfl 9 w4.heap.size 1 _ rfl HszS.out (by have := HszS.out; simp <;> omega) (by unfold maxLen; omega)) names4).mono ?_
            rintro e w5 ⟨b5, pv5, rfl, l5, cc5, pa5, hb5, m5, h5, L5, HL5, hp5⟩
            have hbS5 : Below (w4.setCell ⟨g, k2 * 3, none⟩ (.int .i16 (amt - 1))).heap.size (w4.setCell ⟨g, k2 * 3, none⟩ (.int .i16 (amt - 1))) w5 := ((Below.refl _ _).alloc (Nat.le_refl _) _).trans (hb5.mono (by simp))
            have HL6 : Hid (LedAt w5 b2 m2 h2 pv2 L2 ∧ L2.posts = postsOf [vTo] (xs.map sumM)) := ⟨HLS.out.1.below hbS5, HLS.out.2⟩
            have Hb5 : Hid (Below w.heap.size w w5) := HbS.out.trans (hbS5.mono HbS.out.size)
            have H5 := Lib.hid (And.intro cc5 pa5)
            have s5 := Hb5.out.size
            have l25 := HL6.out.1.blt
            clear cc5 pa5 hb5 HL5 hp5 hbS5 HLS HbS OS
            go_wp2_with fail
            refine (remits_any nFrom nTo (by decide) (by decide) b2 b5 _ _ pv2 pv5 w5 w5.heap.size (Nat.le_refl _) l25 l5 HL6.out.1.c2 H5.out.1 (by have := HL6.out.1.postsAt; rw [HL6.out.2] at this; exact this) H5.out.2 (fair_posts Oka.out (by rw [List.length_map]; exact h30)) (fair_posts OkS.out (by simp; omega))).mono ?_
            rintro e w6 ⟨v6, rfl, hs6, hb6⟩
            obtain ⟨A6, c6, rfl, -⟩ := hs6
            have hl1 : (strRows (remitsS nFrom nTo (postsOf [vTo] (xs.map sumM)) (postsOf [oFrom] (((xs.take q).map negM).set k2 ⟨amt - 1, false, 0⟩)))).length = 1 := by
              unfold strRows
              rw [List.length_map, Hamt.out]
              exact begins_one xs q k2 x Hx2.out
            rw [hl1]
            have Hb6 : Hid (Below w.heap.size w w6) := Hb5.out.trans (hb6.mono s5)
            clear hb6 hl1
            go_wp2_with fail
            go_ret
            exact ⟨rfl, Hb6.out⟩
    · have hz : xs.length = 0 := by omega
      go_enter Tryd.func4, Tryd.ntmps4
      go_wp2_with fail
      refine (awake_any _).mono ?_
      rintro e w1 ⟨rfl, hb1⟩
      have Hb1 := Lib.hid hb1
      clear hb1
      go_wp2_with fail
      refine (awake_any _).mono ?_
      rintro e w2 ⟨rfl, hb2⟩
      have Hb2 := Lib.hid hb2
      clear hb2
      go_wp2_with fail
      go_ret
      exact ⟨rfl, Hb1.out.trans (Hb2.out.mono Hb1.out.size)⟩
  · go_enter Tryd.func4, Tryd.ntmps4
    go_wp2_with fail
    refine (awake_any _).mono ?_
    rintro e w1 ⟨rfl, hb1⟩
    have Hb1 := Lib.hid hb1
    clear hb1
    go_wp2_with fail
    refine (awake_any _).mono ?_
    rintro e w2 ⟨rfl, hb2⟩
    have Hb2 := Lib.hid hb2
    clear hb2
    go_wp2_with fail
    go_ret
    exact ⟨rfl, Hb1.out.trans (Hb2.out.mono Hb1.out.size)⟩
end Go.Proofs.YtmjkkmfjpppehaaDoor
