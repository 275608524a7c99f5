/- Moves are booked: the posts of a ledger's. -/
import Derived.Test.YtmjkkmfjpppehaaDoorAwake
namespace Go.Proofs.YtmjkkmfjpppehaaDoor
open Go.RowKit Go.Sup
set_option maxRecDepth 100000
structure MoveD where
  amount : Int
  usd : Bool
  dest : Nat
def MoveD.row (m : MoveD) : List Value := [.int .i16 m.amount, .bool m.usd, .int .u8 m.dest]
structure MoveD.Ok (m : MoveD) : Prop where
  lo : -32768 ≤ m.amount
  hi : m.amount ≤ 32767
  small : m.dest < 256
def MoveD.cur (m : MoveD) : ByteArray := if m.usd then cUSD else cEUR
def MoveD.who (ns : List ByteArray) (m : MoveD) : ByteArray := ns.getD (m.dest % ns.length) ByteArray.empty
def tM : ByteArray := ⟨#[109]⟩
def postsOf (ns : List ByteArray) (ms : List MoveD) : List PostD := ms.mapIdx fun i m => ⟨((i + 1 : Nat) : Int), tM, pair (m.who ns) nX m.cur m.amount⟩
def acct0 (c n : ByteArray) : KeyD × AcctD := ((n, c), ⟨-1099511627776, 0, 0⟩)
def acctsOf (c : ByteArray) (ns : List ByteArray) : List (KeyD × AcctD) := acct0 c nX :: ns.map (acct0 c)
/-- What the names must be. -/
structure Names (ns : List ByteArray) : Prop where
  good : ∀ n ∈ ns, GoodN n
  nodup : (nX :: ns).Nodup
  pos : 0 < ns.length
  few : ns.length ≤ 3
/-- The accounts behind t moves. -/
def AccInv (ns : List ByteArray) (t : Nat) (l : List (KeyD × AcctD)) : Prop := ∀ n ∈ nX :: ns, ∀ c : ByteArray, c = cEUR ∨ c = cUSD → ∃ s, getL l (n, c) = some s ∧ s.floor = -1099511627776 ∧ s.held = 0 ∧ -(32768 * (t : Int)) ≤ s.bal ∧ s.bal ≤ 32768 * (t : Int)
theorem getL_acct {α : Type} (f : ByteArray → KeyD × α) (c : ByteArray) (hk : ∀ n, (f n).1 = (n, c)) : ∀ (l : List ByteArray) (n : ByteArray), n ∈ l → getL (l.map f) (n, c) = some (f n).2
  | [], _, h => by simp at h
  | a :: l, n, h => by
    rw [List.map_cons, getL_cons, hk]
    by_cases e : a = n
    · rw [if_pos (by rw [e]), e]
    · rw [if_neg (by intro h'; injection h' with h' _; exact e h')]
      exact getL_acct f c hk l n (by simp at h; rcases h with h | h; exact absurd h.symm e; exact h)
theorem getL_append {α : Type} (l l' : List (KeyD × α)) (k : KeyD) : getL (l ++ l') k = (getL l k).or (getL l' k) := by
  induction l with
  | nil => simp [getL_nil]
  | cons p l ih =>
    rw [List.cons_append, getL_cons, getL_cons, ih]
    by_cases h : p.1 = k <;> simp [h]
theorem eur_usd : cEUR ≠ cUSD := by decide
theorem accInv_zero (ns : List ByteArray) : AccInv ns 0 (acctsOf cEUR ns ++ acctsOf cUSD ns) := by
  intro n hn c hc
  refine ⟨⟨-1099511627776, 0, 0⟩, ?_, rfl, rfl, by simp, by simp⟩
  have h1 : ∀ c, acctsOf c ns = (nX :: ns).map (acct0 c) := fun c => rfl
  rw [getL_append, h1, h1]
  rcases hc with rfl | rfl
  · rw [getL_acct _ _ (fun _ => rfl) _ n hn]; rfl
  · have : getL ((nX :: ns).map (acct0 cEUR)) (n, cUSD) = none := getL_none fun p hp e => by
      obtain ⟨m, _, rfl⟩ := List.mem_map.1 hp
      injection e with _ e; exact eur_usd e
    rw [this, getL_acct _ _ (fun _ => rfl) _ n hn]; rfl
theorem accInv_step {ns : List ByteArray} {t : Nat} {l : List (KeyD × AcctD)} (h : AccInv ns t l) {k1 k2 c : ByteArray} {n : Int} (hk : k1 ≠ k2) (h1 : -32768 ≤ n) (h2 : n ≤ 32767) : AccInv ns (t + 1) (l.map (upd (chL (pair k1 k2 c n)))) := by
  intro m hm c' hc'
  obtain ⟨s, hs, a1, a2, a3, a4⟩ := h m hm c' hc'
  have hg := getL_cur (chL (pair k1 k2 c n)) [] l (m, c')
  rw [cur_end, hs] at hg
  simp [getL_nil] at hg
  refine ⟨_, hg, ?_⟩
  rw [pair_ch hk]
  unfold upd
  rw [getL_cons, getL_cons, getL_nil]
  by_cases e1 : (k1, c) = (m, c')
  · rw [if_pos e1]; simp [AcctD.plus]; omega
  · rw [if_neg e1]
    by_cases e2 : (k2, c) = (m, c')
    · rw [if_pos e2]; simp [AcctD.plus]; omega
    · rw [if_neg e2]; simp; omega
theorem who_mem {ns : List ByteArray} (h : 0 < ns.length) (m : MoveD) : m.who ns ∈ ns := by
  unfold MoveD.who
  have hl : m.dest % ns.length < ns.length := Nat.mod_lt _ h
  rw [List.getD_eq_getElem?_getD, List.getElem?_eq_getElem hl]
  exact List.getElem_mem hl
theorem cur_or (m : MoveD) : m.cur = cEUR ∨ m.cur = cUSD := by unfold MoveD.cur; split; exact .inr rfl; exact .inl rfl
theorem postsOf_len (ns : List ByteArray) (ms : List MoveD) : (postsOf ns ms).length = ms.length := by simp [postsOf]
theorem postsOf_snoc {ns : List ByteArray} {ms : List MoveD} {k : Nat} {m : MoveD} (h : ms[k]? = some m) : postsOf ns (ms.take (k + 1)) = postsOf ns (ms.take k) ++ [⟨((k + 1 : Nat) : Int), tM, pair (m.who ns) nX m.cur m.amount⟩] := by
  have hk : k < ms.length := (List.getElem?_eq_some_iff.1 h).1
  unfold postsOf
  rw [List.take_add_one, h]
  simp [List.mapIdx_append, Nat.min_eq_left (Nat.le_of_lt hk)]

/-- Cells of another kind that lay there before the last block stay as they are. -/
theorem LedAt.keepCells {w w' : World} {b m h : Nat} {pv : Value} {L : LG} (H : LedAt w b m h pv L) {c1 c2 : Array Value} {t1 t2 : TypeId} (hT : Turns (b :: m :: pv.ownBlock.toList) ((w.alloc (.cells c1 t1)).alloc (.cells c2 t2)).drew w') (h70 : t1 ≠ 70) (h89 : t1 ≠ 89) (o : Nat) {v : Value} (hv : c1[o]? = some v) : w'.cell? ⟨w.heap.size, o, none⟩ = some v := by
  have h1 : ((w.alloc (.cells c1 t1)).alloc (.cells c2 t2)).heap[w.heap.size]? = some (.cells c1 t1 (0, 0)) := (Below.heap_alloc (w.alloc (.cells c1 t1)) (.cells c2 t2) w.heap.size (by simp)).trans (heap_alloc_new w _)
  have HL : LedAt ((w.alloc (.cells c1 t1)).alloc (.cells c2 t2)) b m h pv L := H.below (((Below.refl _ _).alloc (Nat.le_refl _) _).alloc (by simp) _)
  have h2 := hT.block w.heap.size (by show _ < ((w.alloc (.cells c1 t1)).alloc (.cells c2 t2)).heap.size; simp; omega) (HL.notIn h1 h70 h89)
  have h3 : w'.heap[w.heap.size]? = some (.cells c1 t1 (0, 0)) := h2.trans h1
  simp [World.cell?, h3, hv]

set_option maxHeartbeats 4000000 in
theorem booked_any (w : World) (ms : List MoveD) (mv : Value) (hm : SlC w w.heap.size 3 (ms.map MoveD.row) mv) (hok : ∀ m ∈ ms, m.Ok) (hlen : ms.length ≤ 30) (ns : List ByteArray) (nv : Value) (hn : SlC w w.heap.size 1 (strRows ns) nv) (hns : Names ns) :
    Calls Tryd.prog 7 #[mv, nv] w fun e w' => ∃ b pv, e = .returned (.pointer (some ⟨b, 0, none⟩)) ∧ b < w'.heap.size ∧ w'.cell? ⟨b, 2, none⟩ = some pv ∧ PostsAt w' w'.heap.size (postsOf ns ms) pv ∧ Below w.heap.size w w' ∧ ∃ m h L, LedAt w' b m h pv L ∧ L.posts = postsOf ns ms := by
  obtain ⟨A, c, rfl, ha1, ha2, -⟩ := id hm
  obtain ⟨N, d, rfl, hd1, hd2, -⟩ := id hn
  rw [List.length_map] at hm ha1 ⊢
  have hsl : (strRows ns).length = ns.length := by simp [strRows]
  rw [hsl] at hn hd1 ⊢
  have p1 := hns.pos
  have p2 := hns.few
  have Hm := Lib.hid hm
  have Hn := Lib.hid hn
  have Hns := Lib.hid hns
  have Hok := Lib.hid hok
  unfold maxLen at ha2 hd2
  clear hm hn hns hok hsl
  go_enter Tryd.func7, Tryd.ntmps7
  go_wp2_with fail
  refine (new_any _ _).mono ?_
  rintro e w1 ⟨b, m, h, rfl, a1, a2, a3, HL, hb1⟩
  have H1 : Hid (LedHi w.heap.size w1 b m h (.slice none 0 0) ⟨⟨#[103]⟩, [], [], []⟩) := ⟨HL, a1, a2, a3, by simp [Value.ownBlock]⟩
  have Hb1 := Lib.hid hb1
  have hs1 := hb1.size
  clear HL hb1
  go_wp2_with fail
  go_loopw [16, 7, 25, 9] (fun i _ _ _ wr => ∃ k : Nat, k ≤ 2 ∧ i = .int .i64 k ∧ Hid (LedHi w.heap.size wr b m h (.slice none 0 0) ⟨⟨#[103]⟩, (([cEUR, cUSD].take k).map fun c => acctsOf c ns).flatten, [], []⟩) ∧ Hid (Below w.heap.size w wr) ∧ Hid (w1.heap.size < wr.heap.size ∧ wr.heap[w1.heap.size]? = some (.cells #[.string ⟨#[69, 85, 82]⟩, .string ⟨#[85, 83, 68]⟩] 9 (0, 0)))) (fun i _ _ _ _ => 2 - (intOf i).toNat)
  case atStart =>
    refine ⟨0, by omega, rfl, H1.out.below ((Below.refl _ _).alloc (Nat.le_refl _) _), Hb1.out.alloc Hb1.out.size _, by simp, heap_alloc_new w1 _⟩
  case round =>
    obtain ⟨k, hk, rfl, HL, hbel, hds⟩ := hrel
    by_cases hlt : k < 2
    · have q0 : wr.cell? ⟨w1.heap.size, 0, none⟩ = some (.string ⟨#[69, 85, 82]⟩) := by simp [World.cell?, hds.out.2]
      have q1 : wr.cell? ⟨w1.heap.size, 1, none⟩ = some (.string ⟨#[85, 83, 68]⟩) := by simp [World.cell?, hds.out.2]
      have hc : ∃ cc, GoodC cc ∧ [cEUR, cUSD][k]? = some cc ∧ wr.cell? ⟨w1.heap.size, k, none⟩ = some (.string cc) := by
        have hk2 : k = 0 ∨ k = 1 := by omega
        rcases hk2 with rfl | rfl
        · exact ⟨cEUR, goodEUR, rfl, q0⟩
        · exact ⟨cUSD, goodUSD, rfl, q1⟩
      obtain ⟨cc, hgc, hcc, qk⟩ := hc
      have hmem : ∀ p ∈ (([cEUR, cUSD].take k).map fun c => acctsOf c ns).flatten, p.1.2 ≠ cc := by
        have hk2 : k = 0 ∨ k = 1 := by omega
        rcases hk2 with rfl | rfl
        · simp
        · intro p hp
          simp at hcc
          subst hcc
          simp [acctsOf] at hp
          rcases hp with rfl | ⟨_, _, rfl⟩
          · exact eur_usd
          · exact eur_usd
      have Hgc := Lib.hid hgc
      have Hcc := Lib.hid hcc
      have Hmem := Lib.hid hmem
      clear hgc hcc hmem q0 q1
      have hbl : ((([cEUR, cUSD].take k).map fun c => acctsOf c ns).flatten).length ≤ 4 := by
        have hk2 : k = 0 ∨ k = 1 := by omega
        rcases hk2 with rfl | rfl
        · simp
        · simp [acctsOf]; omega
      obtain ⟨base, hbase⟩ : ∃ base, base = (([cEUR, cUSD].take k).map fun c => acctsOf c ns).flatten := ⟨_, rfl⟩
      rw [← hbase] at HL Hmem hbl
      have Hbase := Lib.hid hbase
      clear hbase
      go_wp2_with fail
      refine (open_hi HL.out hbel.out.size nX cc goodX Hgc.out (-1099511627776) (by omega) (by omega) (fun p hp e => Hmem.out p hp (by rw [e])) (by show base.length < 4096; omega)).mono ?_
      rintro e w2 ⟨rfl, hL, hT, hb⟩
      have HL2 : Hid (LedHi w.heap.size w2 b m h (.slice none 0 0) ⟨⟨#[103]⟩, base ++ acct0 cc nX :: ([] : List ByteArray).map (acct0 cc), [], []⟩) := hL
      have Hb2 : Hid (Below w.heap.size w w2) := hbel.out.trans hb
      have hds2 : Hid (w1.heap.size < w2.heap.size ∧ w2.heap[w1.heap.size]? = some (.cells #[.string ⟨#[69, 85, 82]⟩, .string ⟨#[85, 83, 68]⟩] 9 (0, 0))) := by
        refine ⟨Nat.lt_of_lt_of_le hds.out.1 hT.size, (hT.block _ hds.out.1 ?_).trans hds.out.2⟩
        intro hm
        exact HL.out.at_.notIn hds.out.2 (by decide) (by decide) (by simp at hm; simp [hm])
      clear hL hT hb
      go_wp2_with fail
      go_loopw [25, 9] (fun i _ wr => ∃ j : Nat, j ≤ ns.length ∧ i = .int .i64 j ∧ Hid (LedHi w.heap.size wr b m h (.slice none 0 0) ⟨⟨#[103]⟩, base ++ acct0 cc nX :: (ns.take j).map (acct0 cc), [], []⟩) ∧ Hid (Below w.heap.size w wr) ∧ Hid (w1.heap.size < wr.heap.size ∧ wr.heap[w1.heap.size]? = some (.cells #[.string ⟨#[69, 85, 82]⟩, .string ⟨#[85, 83, 68]⟩] 9 (0, 0)))) (fun i _ _ => ns.length - (intOf i).toNat)
      case atStart => exact ⟨0, by omega, rfl, HL2.out, Hb2.out, hds2.out⟩
      case round =>
        clear HL2 Hb2 hds2 qk HL hbel hds
        obtain ⟨j, hj, rfl, HL, hbel, hds⟩ := hrel
        by_cases hjl : j < ns.length
        · obtain ⟨nm, hnm⟩ : ∃ nm, ns[j]? = some nm := ⟨_, List.getElem?_eq_getElem hjl⟩
          obtain ⟨bx, ox, hA, hbx, hcell⟩ := (Hn.out.below hbel.out).at_ (k := j) (r := [.string nm]) (by simp [strRows, hnm])
          subst hA
          have e0 : wr.cell? ⟨bx, ox + j, none⟩ = some (.string nm) := by have := hcell 0 _ rfl; simpa using this
          have Hnm := Lib.hid hnm
          clear hnm hcell
          go_wp2_with fail
          have hmem := List.mem_of_getElem? Hnm.out
          refine (open_hi HL.out hbel.out.size nm cc (Hns.out.good nm hmem) Hgc.out (-1099511627776) (by omega) (by omega) (fun p hp e => ?_) (by simp; omega)).mono ?_
          · simp only [List.mem_append, List.mem_cons, List.mem_map] at hp
            have hnd := Hns.out.nodup
            rw [List.nodup_cons] at hnd
            rcases hp with hp | rfl | ⟨q, hq, rfl⟩
            · exact Hmem.out p hp (by rw [e])
            · injection e with e _
              exact hnd.1 (e ▸ hmem)
            · injection e with e _
              subst e
              obtain ⟨i, hi, hqi⟩ := List.mem_take_iff_getElem.1 hq
              have h2 := (List.getElem?_eq_some_iff.1 Hnm.out)
              exact List.pairwise_iff_getElem.1 hnd.2 i j (by omega) hjl (by omega) (hqi.trans h2.2.symm)
          rintro e w3 ⟨rfl, hL, hT, hb⟩
          have HL3 : Hid (LedHi w.heap.size w3 b m h (.slice none 0 0) ⟨⟨#[103]⟩, base ++ acct0 cc nX :: (ns.take (j + 1)).map (acct0 cc), [], []⟩) := by
            rw [List.take_add_one, Hnm.out]
            have h1 : (⟨⟨#[103]⟩, base ++ acct0 cc nX :: (ns.take j ++ [nm]).map (acct0 cc), [], []⟩ : LG) = opened ⟨⟨#[103]⟩, base ++ acct0 cc nX :: (ns.take j).map (acct0 cc), [], []⟩ nm cc (-1099511627776) := by
              simp [opened, acct0]
            simp only [Option.toList_some]
            rw [h1]; exact hL
          have Hb3 : Hid (Below w.heap.size w w3) := hbel.out.trans hb
          have hds3 : Hid (w1.heap.size < w3.heap.size ∧ w3.heap[w1.heap.size]? = some (.cells #[.string ⟨#[69, 85, 82]⟩, .string ⟨#[85, 83, 68]⟩] 9 (0, 0))) := by
            refine ⟨Nat.lt_of_lt_of_le hds.out.1 hT.size, (hT.block _ hds.out.1 ?_).trans hds.out.2⟩
            intro hm
            exact HL.out.at_.notIn hds.out.2 (by decide) (by decide) (by simp at hm; simp [hm])
          clear hL hT hb
          go_wp2
          go_roundw
          case rel => exact ⟨j + 1, by omega, by go_num, HL3.out, Hb3.out, hds3.out⟩
          case measure => simp [intOf]; omega
        · have hall : ns.take j = ns := List.take_of_length_le (by omega)
          have HL2 := HL.out
          rw [hall] at HL2
          have HL2 := Lib.hid HL2
          clear HL hall
          go_wp2
          go_roundw
          case rel =>
            refine ⟨k + 1, by omega, by go_num, ?_, hbel.out, hds.out⟩
            show LedHi _ _ _ _ _ _ _
            have h1 : (([cEUR, cUSD].take (k + 1)).map fun c => acctsOf c ns).flatten = base ++ acct0 cc nX :: ns.map (acct0 cc) := by
              rw [List.take_add_one, Hcc.out, Hbase.out]
              simp [acctsOf]
            rw [h1]; exact HL2.out
          case measure => simp [intOf]; omega
    · have hk2 : k = 2 := by omega
      subst hk2
      have HL0 := HL.out
      simp only [List.take_succ_cons, List.take_zero, List.map_cons, List.map_nil, List.flatten_cons, List.flatten_nil, List.append_nil] at HL0
      have HL0 := Lib.hid HL0
      clear HL hds H1 Hb1
      go_wp2
      rw [show ((2 : Nat) : Int) = 2 from rfl]
      go_loopw [37, 11, 12] (fun i _ _ wr => ∃ t : Nat, t ≤ ms.length ∧ i = .int .i64 t ∧ ∃ pv accts, Hid (LedHi w.heap.size wr b m h pv ⟨⟨#[103]⟩, accts, postsOf ns (ms.take t), []⟩) ∧ Hid (AccInv ns t accts) ∧ Hid (Below w.heap.size w wr)) (fun i _ _ _ => ms.length - (intOf i).toNat)
      case atStart => exact ⟨0, by omega, rfl, _, _, HL0.out, accInv_zero ns, hbel.out⟩
      case round =>
        clear HL0 hbel
        obtain ⟨t, ht, rfl, pv, accts, HL, Hinv, hbel⟩ := hrel
        by_cases htl : t < ms.length
        · obtain ⟨mo, hmo⟩ : ∃ mo, ms[t]? = some mo := ⟨_, List.getElem?_eq_getElem htl⟩
          have hmem := List.mem_of_getElem? hmo
          obtain ⟨o1, o2, o3⟩ := Hok.out mo hmem
          obtain ⟨bx, ox, hA, hbx, hcell⟩ := (Hm.out.below hbel.out).at_ (k := t) (r := mo.row) (by simp [hmo])
          subst hA
          have e0 : wr.cell? ⟨bx, ox + t * 3, none⟩ = some (.int .i16 mo.amount) := hcell 0 _ rfl
          have e1 := hcell 1 (.bool mo.usd) rfl
          have e2 := hcell 2 (.int .u8 mo.dest) rfl
          obtain ⟨ix, hix⟩ : ∃ ix, ix = mo.dest % ns.length := ⟨_, rfl⟩
          have hml : ix < ns.length := by rw [hix]; exact Nat.mod_lt _ p1
          obtain ⟨nm, hnm⟩ : ∃ nm, ns[ix]? = some nm := ⟨_, List.getElem?_eq_getElem hml⟩
          obtain ⟨by_, oy, hN, hby, hcelly⟩ := (Hn.out.below hbel.out).at_ (k := ix) (r := [.string nm]) (by simp [strRows, hnm])
          subst hN
          have f0 : wr.cell? ⟨by_, oy + ix, none⟩ = some (.string nm) := by have := hcelly 0 _ rfl; simpa using this
          have hwho : mo.who ns = nm := by unfold MoveD.who; rw [List.getD_eq_getElem?_getD, ← hix, hnm]; rfl
          have Hwho := Lib.hid hwho
          have Hmo := Lib.hid hmo
          clear hmo hcell hnm hcelly hwho
          have hsz := hbel.out.size
          have z0 : ¬ (ns.length : Int) = 0 := by omega
          have z1 : ¬ ns.length = 0 := by omega
          have z2 : (mo.dest : Int).tmod (ns.length : Int) = (ix : Int) := by rw [hix, Int.ofNat_tmod]
          have Hix := Lib.hid hix
          clear hix
          have z6 : IntKind.i64.wrap (ix : Int) = ix := IntWalk.i64_in _ (by omega)
          have z7 : (ix : Int) < ns.length := by omega
          have z8 : IntKind.i64.wrap (-mo.amount) = -mo.amount := IntWalk.i64_in _ (by omega)
          have z9 : IntKind.i64.wrap (mo.dest : Int) = mo.dest := IntWalk.i64_in _ (by omega)
          have z10 : IntKind.i64.wrap mo.amount = mo.amount := IntWalk.i64_in _ (by omega)
          have hby2 : by_ < wr.heap.size := by omega
          have Hmem := Lib.hid hmem
          have hnmem : nm ∈ ns := by have := who_mem (ns := ns) p1 mo; rw [Hwho.out] at this; exact this
          have hne : nm ≠ nX := by
            have hnd := Hns.out.nodup
            rw [List.nodup_cons] at hnd
            intro e; exact hnd.1 (e ▸ hnmem)
          obtain ⟨s1, hs1', s1a, s1b, s1c, s1d⟩ := Hinv.out nm (by simp [hnmem]) mo.cur (cur_or mo)
          obtain ⟨s2, hs2', s2a, s2b, s2c, s2d⟩ := Hinv.out nX (by simp) mo.cur (cur_or mo)
          have hpl : (postsOf ns (ms.take t)).length = t := by rw [postsOf_len, List.length_take]; omega
          have okk : ∀ n, GoodN n → okKey (n, mo.cur) := fun n hg => ⟨by show n.size ≤ _; have := hg.hi; unfold maxLen; omega, by show mo.cur.size ≤ _; rcases cur_or mo with h | h <;> rw [h] <;> decide⟩
          have Hf := Lib.hid (pair_fine (L := ⟨⟨#[103]⟩, accts, postsOf ns (ms.take t), []⟩) (text := tM) (n := mo.amount) (by decide) (by show (postsOf ns (ms.take t)).length < 4096; omega) hs1' hs2' (okk nm (Hns.out.good nm hnmem)) (okk nX goodX) (by omega) (by omega))
          have Hbe := Lib.hid (pair_bears (L := ⟨⟨#[103]⟩, accts, postsOf ns (ms.take t), []⟩) hne hs1' hs2' (n := mo.amount) (by unfold Bear; omega) (by unfold Bear; omega))
          have Hst := Lib.hid (accInv_step (c := mo.cur) Hinv.out hne o1 (by omega : mo.amount ≤ 32767))
          have Hpl := Lib.hid hpl
          clear hmem hnmem hs1' hs2' okk hpl s1a s1b s1c s1d s2a s2b s2c s2d
          cases hus : mo.usd with
          | true =>
            have hcur : mo.cur = cUSD := by unfold MoveD.cur; rw [hus]; rfl
            rw [hus] at e1
            rw [hcur] at Hf Hbe Hst
            have Hcur := Lib.hid hcur
            clear hus hcur
            go_wp2_with fail
            go_region_held3 (fun W => W.cell? ⟨wr.heap.size, 0, none⟩ = some (.int .i16 mo.amount) ∧ W.cell? ⟨wr.heap.size, 2, none⟩ = some (.int .u8 mo.dest) ∧ W.cell? ⟨by_, oy + ix, none⟩ = some (.string nm)) (go_keep) (first | (go_at_call 21; refine (post_hi (HL.out.below (((Below.refl _ _).alloc (Nat.le_refl _) _).alloc (by simp) _).drew) (by simp; omega) tM (pair nm nX cUSD mo.amount) _ (SlC.drew (SlC.litN ((pair nm nX cUSD mo.amount).map EntryD.row) (EntryD.rows_len _) rfl 57 (wr.heap.size + 1) 2 _ rfl (by simp) (by simp) (by unfold maxLen; omega))) Hf.out Hbe.out).mono ?_; rintro e w7 ⟨nn, rfl, pv', hL, hT, hb⟩; have s0 : w7.cell? ⟨wr.heap.size, 0, none⟩ = some (.int .i16 mo.amount) := HL.out.at_.keepCells hT (by decide) (by decide) 0 rfl; have s2 : w7.cell? ⟨wr.heap.size, 2, none⟩ = some (.int .u8 mo.dest) := HL.out.at_.keepCells hT (by decide) (by decide) 2 rfl; have s3 : w7.cell? ⟨by_, oy + ix, none⟩ = some (.string nm) := (hb.cell (p := ⟨by_, oy + ix, none⟩) hby).trans ((World.cell?_alloc_lt _ _ ⟨by_, oy + ix, none⟩ (by simp; omega)).trans ((World.cell?_alloc_lt wr _ ⟨by_, oy + ix, none⟩ hby2).trans f0)); have Hn : Hid (LedHi w.heap.size w7 b m h pv' (booked ⟨⟨#[103]⟩, accts, postsOf ns (ms.take t), []⟩ tM (pair nm nX cUSD mo.amount)) ∧ Below w.heap.size w w7) := ⟨hL, (((hbel.out.alloc hsz _).alloc (by simp; omega) _).drew).trans hb⟩; clear hL hT hb))
            all_goals
              go_wp2_with fail
              go_roundw
              case rel =>
                refine ⟨t + 1, by omega, by go_num, pv', _, ?_, Hst.out, Hn.out.2⟩
                show LedHi _ _ _ _ _ _ _
                rw [postsOf_snoc Hmo.out, Hwho.out, Hcur.out]
                have h1 := Hn.out.1
                unfold booked at h1
                rw [Hpl.out] at h1
                exact h1
              case measure => simp [intOf]; omega
          | false =>
            have hcur : mo.cur = cEUR := by unfold MoveD.cur; rw [hus]; rfl
            rw [hus] at e1
            rw [hcur] at Hf Hbe Hst
            have Hcur := Lib.hid hcur
            clear hus hcur
            go_wp2_with fail
            go_region_held3 (fun W => W.cell? ⟨wr.heap.size, 0, none⟩ = some (.int .i16 mo.amount) ∧ W.cell? ⟨wr.heap.size, 2, none⟩ = some (.int .u8 mo.dest) ∧ W.cell? ⟨by_, oy + ix, none⟩ = some (.string nm)) (go_keep) (first | (go_at_call 21; refine (post_hi (HL.out.below (((Below.refl _ _).alloc (Nat.le_refl _) _).alloc (by simp) _).drew) (by simp; omega) tM (pair nm nX cEUR mo.amount) _ (SlC.drew (SlC.litN ((pair nm nX cEUR mo.amount).map EntryD.row) (EntryD.rows_len _) rfl 57 (wr.heap.size + 1) 2 _ rfl (by simp) (by simp) (by unfold maxLen; omega))) Hf.out Hbe.out).mono ?_; rintro e w7 ⟨nn, rfl, pv', hL, hT, hb⟩; have s0 : w7.cell? ⟨wr.heap.size, 0, none⟩ = some (.int .i16 mo.amount) := HL.out.at_.keepCells hT (by decide) (by decide) 0 rfl; have s2 : w7.cell? ⟨wr.heap.size, 2, none⟩ = some (.int .u8 mo.dest) := HL.out.at_.keepCells hT (by decide) (by decide) 2 rfl; have s3 : w7.cell? ⟨by_, oy + ix, none⟩ = some (.string nm) := (hb.cell (p := ⟨by_, oy + ix, none⟩) hby).trans ((World.cell?_alloc_lt _ _ ⟨by_, oy + ix, none⟩ (by simp; omega)).trans ((World.cell?_alloc_lt wr _ ⟨by_, oy + ix, none⟩ hby2).trans f0)); have Hn : Hid (LedHi w.heap.size w7 b m h pv' (booked ⟨⟨#[103]⟩, accts, postsOf ns (ms.take t), []⟩ tM (pair nm nX cEUR mo.amount)) ∧ Below w.heap.size w w7) := ⟨hL, (((hbel.out.alloc hsz _).alloc (by simp; omega) _).drew).trans hb⟩; clear hL hT hb))
            all_goals
              go_wp2_with fail
              go_roundw
              case rel =>
                refine ⟨t + 1, by omega, by go_num, pv', _, ?_, Hst.out, Hn.out.2⟩
                show LedHi _ _ _ _ _ _ _
                rw [postsOf_snoc Hmo.out, Hwho.out, Hcur.out]
                have h1 := Hn.out.1
                unfold booked at h1
                rw [Hpl.out] at h1
                exact h1
              case measure => simp [intOf]; omega
        · have hall : ms.take t = ms := List.take_of_length_le (by omega)
          have HL2 := HL.out
          rw [hall] at HL2
          have HL3 := Lib.hid HL2
          clear HL hall HL2
          go_wp2
          go_ret
          exact ⟨b, pv, rfl, HL3.out.at_.blt, HL3.out.at_.c2, HL3.out.at_.postsAt, hbel.out, m, h, _, HL3.out.at_, rfl⟩
end Go.Proofs.YtmjkkmfjpppehaaDoor
