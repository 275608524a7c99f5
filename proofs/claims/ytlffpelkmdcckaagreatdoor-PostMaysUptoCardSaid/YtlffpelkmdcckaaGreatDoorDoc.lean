/- field.Doc: the text of a paper; the reference's Paper and Record. -/
import Derived.Test.YtlffpelkmdcckaaGreatDoorKinds
import Derived.Test.YtlffpelkmdcckaaGreatDoorRefText
import Derived.Test.YtlffpelkmdcckaaGreatDoorParse
import Derived.Deep.RegionHeld3
import Derived.Deep.DeepMust
namespace Go.Sup
open Go Go.RowKit
def nPaper : ByteArray := ⟨#[112, 97, 112, 101, 114]⟩
def nNumber : ByteArray := ⟨#[110, 117, 109, 98, 101, 114]⟩
def nIssuer : ByteArray := ⟨#[105, 115, 115, 117, 101, 114]⟩
end Go.Sup
namespace Go.Proofs.YtlffpelkmdcckaaGreatDoor
open Go Go.RowKit Go.Sup
set_option maxRecDepth 100000
def headF (d : DocD) : List Fld := [(nPaper, kindS d.kind), (nNumber, d.number), (nIssuer, d.issuer)]
/-- A paper's record. -/
def recordF (d : DocD) : List Fld := headF d ++ d.fields
/-- May a paper be? -/
def paperOk (d : DocD) : Bool := d.fields.all mayF && ((decide (0 ≤ d.kind) && decide (d.kind ≤ 5)) && (decide (d.number.size ≤ 4096) && (decide (d.issuer.size ≤ 4096) && decide (d.fields.length ≤ 61))))
def docE (d : DocD) : Nat := if paperOk d then 0 else 1
def docS (d : DocD) : ByteArray := if paperOk d then textS (recordF d) else ⟨#[]⟩
def SmallD (d : DocD) : Prop := (∀ f ∈ d.fields, SmallF f) ∧ d.number.size ≤ 1000000 ∧ d.issuer.size ≤ 1000000
theorem mayF_paper (k : Int) : mayF (nPaper, kindS k) = true := by
  have h := kindS_size k
  unfold mayF
  rw [show nameOk (nPaper, kindS k).1.data.toList = true by show nameOk nPaper.data.toList = true; decide]
  simp; omega
theorem mayF_number (s : ByteArray) : mayF (nNumber, s) = decide (s.size ≤ 4096) := by
  unfold mayF
  rw [show nameOk (nNumber, s).1.data.toList = true by show nameOk nNumber.data.toList = true; decide]
  simp
theorem mayF_issuer (s : ByteArray) : mayF (nIssuer, s) = decide (s.size ≤ 4096) := by
  unfold mayF
  rw [show nameOk (nIssuer, s).1.data.toList = true by show nameOk nIssuer.data.toList = true; decide]
  simp
theorem textE_record {d : DocD} (h0 : 0 ≤ d.kind) (h5 : d.kind ≤ 5) : (textE (recordF d) = 0) ↔ paperOk d = true := by
  rw [textE_zero]
  unfold paperOk recordF headF
  simp only [List.cons_append, List.nil_append, List.length_cons, List.forall_mem_cons, mayF_paper, mayF_number, mayF_issuer, decide_eq_true_eq, Bool.and_eq_true, List.all_eq_true]
  constructor
  · rintro ⟨a, -, b, c, d⟩
    exact ⟨d, ⟨h0, h5⟩, b, c, by omega⟩
  · rintro ⟨a, -, b, c, d⟩
    exact ⟨by omega, trivial, b, c, a⟩
theorem record_small {d : DocD} (h : SmallD d) : ∀ f ∈ recordF d, SmallF f := by
  obtain ⟨h1, h2, h3⟩ := h
  intro f hf
  unfold recordF headF at hf
  simp only [List.cons_append, List.nil_append, List.mem_cons] at hf
  rcases hf with rfl | rfl | rfl | hf
  · exact ⟨by show nPaper.size ≤ _; decide, by have := kindS_size d.kind; show (kindS d.kind).size ≤ _; omega⟩
  · exact ⟨by show nNumber.size ≤ _; decide, h2⟩
  · exact ⟨by show nIssuer.size ≤ _; decide, h3⟩
  · exact h1 f hf
theorem OwnC.lit (w : World) {size base : Nat} (rows : List (List Value)) (hl : ∀ r ∈ rows, r.length = size) {cs : Array Value} (hcs : cs = rows.flatten.toArray) (e : TypeId) (hb : base ≤ w.heap.size) (m : Nat) (hn : rows.length = m) (hm : m ≤ maxLen) : OwnC (w.alloc (.cells cs e)) base e size rows (.slice (some ⟨w.heap.size, 0, none⟩) m m) := by
  subst hn hcs
  refine ⟨?_, hl⟩
  have := World.ownsRow_lit (base := base) (e := e) (size := size) w rows.flatten.toArray rows.length hb hm (by simpa using flatten_len size rows hl)
  simpa using this
theorem docE_out {d : DocD} (h : d.kind < 0 ∨ 5 < d.kind) : docE d = 1 ∧ docS d = ⟨#[]⟩ := by
  have : paperOk d = false := by
    unfold paperOk
    rcases h with h | h
    · rw [show decide (0 ≤ d.kind) = false by simp; omega]; simp
    · rw [show decide (d.kind ≤ 5) = false by simp; omega]; simp
  unfold docE docS
  rw [this]; exact ⟨rfl, rfl⟩
theorem docE_in {d : DocD} (h0 : 0 ≤ d.kind) (h5 : d.kind ≤ 5) : (textE (recordF d) = 0 → docE d = 0 ∧ docS d = textS (recordF d)) ∧ (textE (recordF d) ≠ 0 → docE d = 1 ∧ docS d = ⟨#[]⟩) := by
  have h := textE_record h0 h5
  unfold docE docS
  constructor
  · intro he
    rw [h.1 he]; exact ⟨rfl, rfl⟩
  · intro he
    have : paperOk d = false := by
      cases hp : paperOk d
      · rfl
      · exact absurd (h.2 hp) he
    rw [this]; exact ⟨rfl, rfl⟩
set_option maxHeartbeats 2000000 in
theorem doc_any (d : DocD) (hd : SmallD d) (w : World) (B : Nat) (v : Value) (hv : SlC w B 2 (d.fields.map frow) v) (hB : B ≤ w.heap.size) (hlen : d.fields.length ≤ 1000000) :
    Calls Tryz.prog 68 #[d.val v] w fun e w' => e = .returned (.tuple #[.string (docS d), .int .i64 (docE d)]) ∧ Below w.heap.size w w' := by
  have HT : Hid (∀ W V C, SlC W C 2 ((recordF d).map frow) V → C ≤ W.heap.size → Calls Tryz.prog 59 #[V] W fun e w' => e = .returned (.tuple #[.string (textS (recordF d)), .int .i64 (textE (recordF d))]) ∧ Below W.heap.size W w') := fun W V C h hC => text_any (recordF d) (record_small hd) W C V h hC
  obtain ⟨ts, hts⟩ : ∃ ts, ts = textS (recordF d) := ⟨_, rfl⟩
  obtain ⟨te, hte⟩ : ∃ te, te = textE (recordF d) := ⟨_, rfl⟩
  rw [← hts, ← hte] at HT
  have HO : Hid (d.kind < 0 ∨ 5 < d.kind → docE d = 1 ∧ docS d = ⟨#[]⟩) := docE_out
  have HI : Hid (0 ≤ d.kind → d.kind ≤ 5 → (te = 0 → docE d = 0 ∧ docS d = ts) ∧ (te ≠ 0 → docE d = 1 ∧ docS d = ⟨#[]⟩)) := fun h0 h5 => by rw [hte, hts]; exact docE_in h0 h5
  have HR : Hid ((recordF d).map frow = [frow (nPaper, kindS d.kind), frow (nNumber, d.number), frow (nIssuer, d.issuer)] ++ d.fields.map frow) := rfl
  have Hd := Lib.hid hd
  clear hd hts hte
  obtain ⟨E, hE⟩ : ∃ E, E = docE d := ⟨_, rfl⟩
  obtain ⟨D, hD⟩ : ∃ D, D = docS d := ⟨_, rfl⟩
  rw [← hE, ← hD] at HO HI ⊢
  clear hE hD
  obtain ⟨L, hL⟩ : ∃ L, L = (recordF d).map frow := ⟨_, rfl⟩
  rw [← hL] at HT HR
  clear hL
  obtain ⟨kd, nu, is, fs⟩ := d
  simp only [DocD.val] at HO HI HR hv ⊢
  have Hv := Lib.hid hv
  obtain ⟨A, c, rfl, -⟩ := id hv
  rw [List.length_map] at Hv ⊢
  clear hv
  simp only at hlen
  by_cases hout : kd < 0 ∨ 5 < kd
  · obtain ⟨rfl, rfl⟩ := HO.out hout
    rcases hout with h | h
    · go_enter Tryz.func68, Tryz.ntmps68
      go_wp2_with fail
      refine (kinds_any _).mono ?_
      rintro e w1 ⟨g, rfl, hg, hs1, hz1, hb1⟩
      have HB1 : Hid (Below w.heap.size w w1) := ((Below.refl _ _).alloc (Nat.le_refl _) _).trans (hb1.mono (by simp))
      have k0 : w1.cell? ⟨w.heap.size, 0, none⟩ = some (.int .i64 kd) := ((bcell hb1).1 w.heap.size _ (by simp)).trans (by go_simp)
      clear hb1 hs1 hz1 hg
      go_wp2
      go_ret2
      exact ⟨rfl, HB1.out⟩
    · have h' : (6 : Int) ≤ kd := by omega
      go_enter Tryz.func68, Tryz.ntmps68
      go_wp2_with fail
      refine (kinds_any _).mono ?_
      rintro e w1 ⟨g, rfl, hg, hs1, hz1, hb1⟩
      have HB1 : Hid (Below w.heap.size w w1) := ((Below.refl _ _).alloc (Nat.le_refl _) _).trans (hb1.mono (by simp))
      have k0 : w1.cell? ⟨w.heap.size, 0, none⟩ = some (.int .i64 kd) := ((bcell hb1).1 w.heap.size _ (by simp)).trans (by go_simp)
      clear hb1 hs1 hz1 hg
      go_wp2
      go_ret2
      exact ⟨rfl, HB1.out⟩
  · obtain ⟨n, rfl⟩ := Int.eq_ofNat_of_zero_le (by omega : 0 ≤ kd)
    have hn5 : n < 6 := by omega
    have HI2 := Lib.hid (HI.out (by omega) (by omega))
    clear hout HI HO
    have hnI : (n : Int) < 6 := by omega
    have hn6 : ¬ (6 : Int) ≤ (n : Int) := by omega
    go_enter Tryz.func68, Tryz.ntmps68
    go_wp2_with fail
    refine (kinds_any _).mono ?_
    rintro e w1 ⟨g, rfl, hg, hs1, hz1, hb1⟩
    have HB1 : Hid (Below w.heap.size w w1) := ((Below.refl _ _).alloc (Nat.le_refl _) _).trans (hb1.mono (by simp))
    obtain ⟨z0, z1⟩ := bcell hb1
    have k0 : w1.cell? ⟨w.heap.size, 0, none⟩ = some (.int .i64 (n : Int)) := (z0 w.heap.size _ (by simp)).trans (by go_simp)
    have k1 : w1.cell? ⟨w.heap.size, 1, none⟩ = some (.string nu) := (z0 w.heap.size _ (by simp)).trans (by go_simp)
    have k2 : w1.cell? ⟨w.heap.size, 2, none⟩ = some (.string is) := (z0 w.heap.size _ (by simp)).trans (by go_simp)
    have k3 : w1.cell? ⟨w.heap.size, 3, none⟩ = some (.slice A fs.length c) := (z0 w.heap.size _ (by simp)).trans (by go_simp)
    have kk : w1.cell? ⟨g, n, none⟩ = some (.string (kindS (n : Int))) := by
      obtain ⟨b, off, ha, _, hc⟩ := str_at hs1 (k := n) (s := kindS (n : Int)) (by have := kindS_in (k := (n : Int)) (by omega) (by omega); simpa using this)
      injection ha with ha
      injection ha with ha1 ha2
      subst ha1; subst ha2
      simpa using hc
    have hgw : g = w.heap.size + 1 := by rw [hg]; simp
    have hz : w1.heap.size = w.heap.size + 2 := by rw [hz1]; simp
    have HZ := Lib.hid (And.intro hgw hz)
    have HV1 : Hid (SlC w1 w1.heap.size 2 (fs.map frow) (.slice A fs.length c)) := (Hv.out.below (HB1.out.mono hB)).more (by omega)
    clear hg hz1 hb1 hs1 z0 z1 hgw hz
    obtain ⟨heads, hheads⟩ : ∃ heads, heads = [frow (nPaper, kindS (n : Int)), frow (nNumber, nu), frow (nIssuer, is)] := ⟨_, rfl⟩
    have hlit : ∀ cs : Array Value, cs = heads.flatten.toArray → OwnC (w1.alloc (.cells cs 43)) w1.heap.size 43 2 heads (.slice (some ⟨w1.heap.size, 0, none⟩) 3 3) := fun cs hcs => OwnC.lit w1 heads (by rw [hheads]; simp [frow]) hcs _ (Nat.le_refl _) 3 (by rw [hheads]; rfl) (by decide)
    have hlit2 := hlit #[.string nPaper, .string (kindS (n : Int)), .string nNumber, .string nu, .string nIssuer, .string is] (by rw [hheads]; rfl)
    have h3 : heads.length = 3 := by rw [hheads]; rfl
    have hby : (heads.length + (fs.map frow).length) * 32 ≤ 140737488355328 := by rw [h3, List.length_map]; omega
    have h63 : heads.length + (fs.map frow).length ≤ maxLen := by rw [h3, List.length_map]; unfold maxLen; omega
    have HLit := Lib.hid (And.intro hlit2 (And.intro hby (And.intro h63 (And.intro (frow_len fs) (frow_one fs)))))
    have Hbs : Hid (∀ o, w1.heap.size ≤ (w1.alloc o).drew.heap.size) := fun o => by show _ ≤ (w1.alloc o).heap.size; simp
    have HHD := Lib.hid hheads
    clear hlit hlit2 h3 hby h63 hheads
    have hq0 : w.heap.size < w1.heap.size := by have := HZ.out.2; omega
    have hqg : g < w1.heap.size := by have := HZ.out; omega
    go_wp2
    go_region_held3 (fun W => (W.cell? ⟨w.heap.size, 0, none⟩ = some (.int .i64 (n : Int)) ∧ W.cell? ⟨w.heap.size, 1, none⟩ = some (.string nu) ∧ W.cell? ⟨w.heap.size, 2, none⟩ = some (.string is) ∧ W.cell? ⟨w.heap.size, 3, none⟩ = some (.slice A fs.length c)) ∧ W.cell? ⟨g, n, none⟩ = some (.string (kindS (n : Int)))) (go_keep) (first | (refine step_appN rfl (.tmp 31) (.tmp 33) 36 rfl elFlds w1.heap.size heads _ rfl HLit.out.1.drew w1.heap.size (fs.map frow) _ rfl (HV1.out.alloc (Nat.le_refl _) _).drew HLit.out.2.2.2.1 HLit.out.2.2.2.2 HLit.out.2.1 HLit.out.2.2.1 (Hbs.out _) ?_; intro v2 w2 ho2 hg2 hb2 _; have HB2 : Hid (Below w1.heap.size w1 w2) := (Go.Sup.below_drewN ((Below.refl _ _).alloc (Nat.le_refl _) _) 1).trans hb2; have j0 := ((bcell HB2.out).1 w.heap.size 0 hq0).trans k0; have j1 := ((bcell HB2.out).1 w.heap.size 1 hq0).trans k1; have j2 := ((bcell HB2.out).1 w.heap.size 2 hq0).trans k2; have j3 := ((bcell HB2.out).1 w.heap.size 3 hq0).trans k3; have jk := ((bcell HB2.out).1 g n hqg).trans kk; have HO2 : Hid (SlC w2 w2.heap.size 2 L v2) := (by have h := ho2.sl; rw [HHD.out, ← HR.out] at h; exact h); clear ho2 hg2 hb2) | (go_at_call 59; refine (HT.out _ _ _ HO2.out (Nat.le_refl _)).mono ?_; rintro e w3 ⟨rfl, hb3⟩; have HB3 : Hid (Below w1.heap.size w1 w3) := HB2.out.trans (hb3.mono HB2.out.size); have i0 := ((bcell HB3.out).1 w.heap.size 0 hq0).trans k0; have i1 := ((bcell HB3.out).1 w.heap.size 1 hq0).trans k1; have i2 := ((bcell HB3.out).1 w.heap.size 2 hq0).trans k2; have i3 := ((bcell HB3.out).1 w.heap.size 3 hq0).trans k3; have ik := ((bcell HB3.out).1 g n hqg).trans kk; clear hb3))
    all_goals
      have HBF : Hid (Below w.heap.size w w3) := HB1.out.trans (HB3.out.mono (Nat.le_of_lt hq0))
      rcases Nat.eq_zero_or_pos te with h0 | h0
      · obtain ⟨hE, hD⟩ := HI2.out.1 h0
        have HE := Lib.hid (And.intro hE hD)
        have hte : ((te : Int) != 0) = false := by rw [h0]; rfl
        clear h0 hE hD
        go_wp2
        go_ret2
        exact ⟨by rw [HE.out.1, HE.out.2]; rfl, HBF.out⟩
      · obtain ⟨hE, hD⟩ := HI2.out.2 (by omega)
        have HE := Lib.hid (And.intro hE hD)
        have hte : ((te : Int) != 0) = true := by simp; omega
        clear h0 hE hD
        go_wp2
        go_ret2
        exact ⟨by rw [HE.out.1, HE.out.2]; rfl, HBF.out⟩
set_option maxHeartbeats 2000000 in
theorem refRecord_any (d : DocD) (w : World) (B : Nat) (v : Value) (hv : SlC w B 2 (d.fields.map frow) v) (hB : B ≤ w.heap.size) (hlen : d.fields.length ≤ 1000000) :
    Calls Tryz.prog 50 #[d.val v] w fun e w' => ∃ v', e = .returned v' ∧ SlC w' w'.heap.size 2 ((recordF d).map frow) v' ∧ Below w.heap.size w w' := by
  have HR : Hid ((recordF d).map frow = [frow (nPaper, kindS d.kind), frow (nNumber, d.number), frow (nIssuer, d.issuer)] ++ d.fields.map frow) := rfl
  obtain ⟨L, hL⟩ : ∃ L, L = (recordF d).map frow := ⟨_, rfl⟩
  rw [← hL] at HR ⊢
  clear hL
  obtain ⟨kd, nu, is, fs⟩ := d
  simp only [DocD.val] at HR hv ⊢
  have Hv := Lib.hid hv
  obtain ⟨A, c, rfl, -⟩ := id hv
  rw [List.length_map] at Hv ⊢
  clear hv
  simp only at hlen
  obtain ⟨heads, hheads⟩ : ∃ heads, heads = [frow (nPaper, kindS kd), frow (nNumber, nu), frow (nIssuer, is)] := ⟨_, rfl⟩
  have hlit : ∀ (W : World) (cs : Array Value), cs = heads.flatten.toArray → OwnC (W.alloc (.cells cs 43)) W.heap.size 43 2 heads (.slice (some ⟨W.heap.size, 0, none⟩) 3 3) := fun W cs hcs => OwnC.lit W heads (by rw [hheads]; simp [frow]) hcs _ (Nat.le_refl _) 3 (by rw [hheads]; rfl) (by decide)
  have hlit2 := fun W => hlit W #[.string nPaper, .string (kindS kd), .string nNumber, .string nu, .string nIssuer, .string is] (by rw [hheads]; rfl)
  have h3 : heads.length = 3 := by rw [hheads]; rfl
  have hby : (heads.length + (fs.map frow).length) * 32 ≤ 140737488355328 := by rw [h3, List.length_map]; omega
  have h63 : heads.length + (fs.map frow).length ≤ maxLen := by rw [h3, List.length_map]; unfold maxLen; omega
  have HLit := Lib.hid (And.intro hlit2 (And.intro hby (And.intro h63 (And.intro (frow_len fs) (frow_one fs)))))
  have HHD := Lib.hid hheads
  clear hlit hlit2 h3 hby h63 hheads
  go_enter Tryz.func50, Tryz.ntmps50
  go_wp2
  go_region_held3 (fun W => W.cell? ⟨w.heap.size, 0, none⟩ = some (.int .i64 kd) ∧ W.cell? ⟨w.heap.size, 1, none⟩ = some (.string nu) ∧ W.cell? ⟨w.heap.size, 2, none⟩ = some (.string is) ∧ W.cell? ⟨w.heap.size, 3, none⟩ = some (.slice A fs.length c)) (go_keep) (first | (go_at_call 72; refine (refKind_any kd _).mono ?_; rintro e w1 ⟨rfl, hz1, hb1⟩; have hq0 : w.heap.size < w1.heap.size := (by rw [hz1]; simp [World.drew]; omega); have k0 : w1.cell? ⟨w.heap.size, 0, none⟩ = some (.int .i64 kd) := ((bcell hb1).1 w.heap.size 0 (by simp [World.drew])).trans (by go_simp); have k1 : w1.cell? ⟨w.heap.size, 1, none⟩ = some (.string nu) := ((bcell hb1).1 w.heap.size 1 (by simp [World.drew])).trans (by go_simp); have k2 : w1.cell? ⟨w.heap.size, 2, none⟩ = some (.string is) := ((bcell hb1).1 w.heap.size 2 (by simp [World.drew])).trans (by go_simp); have k3 : w1.cell? ⟨w.heap.size, 3, none⟩ = some (.slice A fs.length c) := ((bcell hb1).1 w.heap.size 3 (by simp [World.drew])).trans (by go_simp); have HB1 : Hid (Below w.heap.size w w1) := (Go.Sup.below_drewN ((Below.refl _ _).alloc (Nat.le_refl _) _) 1).trans (hb1.mono (by simp [World.drew])); clear hz1 hb1) | skip)
  all_goals
    have HV1 : Hid (SlC w1 w1.heap.size 2 (fs.map frow) (.slice A fs.length c)) := (Hv.out.below (HB1.out.mono hB)).more (Nat.le_trans hB (Nat.le_of_lt hq0))
    go_wp2_with (at_builtin; go_must (refine wpList_appN _ rfl (.tmp 15) (.tmp 17) 36 rfl elFlds w1.heap.size heads _ rfl (HLit.out.1 w1) w1.heap.size (fs.map frow) _ rfl (HV1.out.alloc (Nat.le_refl _) _) HLit.out.2.2.2.1 HLit.out.2.2.2.2 HLit.out.2.1 HLit.out.2.2.1 ?_ ?_))
    · simp
    · intro v2 w2 ho2 hg2 hb2 _
      have HO2 : Hid (SlC w2 w2.heap.size 2 L v2 ∧ Below w.heap.size w w2) := ⟨by have h := ho2.sl; rw [HHD.out, ← HR.out] at h; exact h, HB1.out.trans (((Below.refl w1.heap.size w1).alloc (Nat.le_refl _) _ |>.trans hb2).mono (Nat.le_of_lt hq0))⟩
      clear ho2 hg2 hb2
      go_wp2
      go_ret
      exact ⟨_, rfl, HO2.out.1, HO2.out.2⟩
end Go.Proofs.YtlffpelkmdcckaaGreatDoor
