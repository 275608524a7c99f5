/- 09: post.Same. -/
import Derived.Test.YtlffpelkmdcckaaGreatDoorEqDocs
import Derived.Lib.QuietBelow
import Derived.BigQuiet
import Derived.ChangeKeysEq
namespace Go.Proofs.YtlffpelkmdcckaaGreatDoor
open Go Go.RowKit Go.Sup
set_option maxRecDepth 100000
/-- A letter whose rows lie below block B. -/
def LetC (w : World) (B : Nat) (l : LetD) (v : Value) : Prop := ∃ dv bv, v = l.val dv bv ∧ DocsC w B l.docs dv ∧ SlC w B 1 (l.boxes.map srow) bv
theorem LetC.below {w w' : World} {B : Nat} {l : LetD} {v : Value} (h : LetC w B l v) (hb : Below B w w') : LetC w' B l v := by
  obtain ⟨dv, bv, e, h1, h2⟩ := h
  exact ⟨dv, bv, e, h1.below hb, h2.below hb⟩
theorem LetC.more {w : World} {B B' : Nat} {l : LetD} {v : Value} (h : LetC w B l v) (hB : B ≤ B') : LetC w B' l v := by
  obtain ⟨dv, bv, e, h1, h2⟩ := h
  exact ⟨dv, bv, e, h1.more hB, h2.more hB⟩
def hEq (a b : LetD) : Bool := decide (a.src = b.src) && (decide (a.dst = b.dst) && (decide (a.deal = b.deal) && (decide (a.text = b.text) && decide (a.party = b.party))))
def nEq (a b : LetD) : Bool := decide (a.number = b.number) && (decide (a.kind = b.kind) && (decide (a.ack = b.ack) && (decide (a.index = b.index) && decide (a.day = b.day))))
def mEq (a b : LetD) : Bool := decide (a.cur = b.cur) && decide (a.amount = b.amount)
def letEq (a b : LetD) : Bool := hEq a b && (nEq a b && (mEq a b && (docsEq a.docs b.docs && strsEq a.boxes b.boxes)))
theorem letEq_iff {a b : LetD} : letEq a b = true ↔ a = b := by
  obtain ⟨a0, a1, a2, a3, a4, a5, a6, a7, a8, a9, a10, a11, a12, a13⟩ := a
  obtain ⟨b0, b1, b2, b3, b4, b5, b6, b7, b8, b9, b10, b11, b12, b13⟩ := b
  unfold letEq hEq nEq mEq docsEq strsEq
  simp only [Bool.and_eq_true, decide_eq_true_eq, LetD.mk.injEq]
  constructor
  · rintro ⟨⟨h0, h1, h5, h6, h7⟩, ⟨h2, h3, h4, h8, h9⟩, ⟨h10, h11⟩, h12, h13⟩
    exact ⟨h0, h1, h2, h3, h4, h5, h6, h7, h8, h9, h10, h11, h12, h13⟩
  · rintro ⟨h0, h1, h2, h3, h4, h5, h6, h7, h8, h9, h10, h11, h12, h13⟩
    exact ⟨⟨h0, h1, h5, h6, h7⟩, ⟨h2, h3, h4, h8, h9⟩, ⟨h10, h11⟩, h12, h13⟩
theorem run_eqH (a0 a1 a2 a3 a4 b0 b1 b2 b3 b4 : ByteArray) (w : World) : (binOp .eql 61 (.agg #[.string a0, .string a1, .string a2, .string a3, .string a4]) (.agg #[.string b0, .string b1, .string b2, .string b3, .string b4])).run Tryz.prog w = .ok (.bool (decide (a0 = b0) && (decide (a1 = b1) && (decide (a2 = b2) && (decide (a3 = b3) && decide (a4 = b4)))))) w := by
  have u9 := Tryz.underlying9
  have a9 := Tryz.isAgg9
  have z9 := Tryz.sizeOf9
  have c9 : Tryz.prog.cellsOf 9 = 1 := by kernel_rfl
  obtain ⟨i9, hi9⟩ : ∃ i, Tryz.prog.info? 9 = some i := ⟨_, rfl⟩
  rw [run_eql_struct, show (10000 : Nat) = 9999 + 1 from rfl, run_equalIn_array w 9999 _ _ Tryz.underlying61 hi9, c9]
  clear hi9
  rw [show List.range 5 = [0, 1, 2, 3, 4] from rfl]
  simp only [Op.eqItems]
  go_simp
  have e0 : ∀ a b : ByteArray, (a.toList = b.toList) = (a = b) := fun a b => propext ⟨bs_ext, fun h => by rw [h]⟩
  by_cases h0 : a0 = b0 <;> by_cases h1 : a1 = b1 <;> by_cases h2 : a2 = b2 <;> by_cases h3 : a3 = b3 <;> by_cases h4 : a4 = b4 <;> simp [h0, h1, h2, h3, h4, e0]
theorem run_eqN (a0 a1 a2 a3 a4 b0 b1 b2 b3 b4 : Int) (w : World) : (binOp .eql 63 (.agg #[.int .i64 a0, .int .i64 a1, .int .i64 a2, .int .i64 a3, .int .i64 a4]) (.agg #[.int .i64 b0, .int .i64 b1, .int .i64 b2, .int .i64 b3, .int .i64 b4])).run Tryz.prog w = .ok (.bool (decide (a0 = b0) && (decide (a1 = b1) && (decide (a2 = b2) && (decide (a3 = b3) && decide (a4 = b4)))))) w := by
  have u9 := Tryz.underlying3
  have a9 := Tryz.isAgg3
  have z9 := Tryz.sizeOf3
  have c9 : Tryz.prog.cellsOf 3 = 1 := by kernel_rfl
  obtain ⟨i9, hi9⟩ : ∃ i, Tryz.prog.info? 3 = some i := ⟨_, rfl⟩
  rw [run_eql_struct, show (10000 : Nat) = 9999 + 1 from rfl, run_equalIn_array w 9999 _ _ Tryz.underlying63 hi9, c9]
  clear hi9
  rw [show List.range 5 = [0, 1, 2, 3, 4] from rfl]
  simp only [Op.eqItems]
  go_simp
  by_cases h0 : a0 = b0 <;> by_cases h1 : a1 = b1 <;> by_cases h2 : a2 = b2 <;> by_cases h3 : a3 = b3 <;> by_cases h4 : a4 = b4 <;> simp [h0, h1, h2, h3, h4]
theorem run_eqM (a b : ByteArray) (m n : Int) (w : World) : (binOp .eql 30 (.agg #[.string a, .int .i64 m]) (.agg #[.string b, .int .i64 n])).run Tryz.prog w = .ok (.bool (decide (a = b) && decide (m = n))) w := by
  have u9 := Tryz.underlying9
  have a9 := Tryz.isAgg9
  have z9 := Tryz.sizeOf9
  have u8 := Tryz.underlying2
  have a8 := Tryz.isAgg2
  have z8 := Tryz.sizeOf2
  have hS : Tryz.prog.underlying 30 = some (.struct (Tryz.prog.fieldsOf 30)) := by kernel_rfl
  have hp : Tryz.prog.stoodInHeld 30 = false := by kernel_rfl
  rw [run_eql_struct, show (10000 : Nat) = 9999 + 1 from rfl, run_equalIn_struct w 9999 30 _ _ hS hp]
  simp only [Program.fieldsOf, Tryz.underlying30]
  go_simp
  have e0 : ∀ a b : ByteArray, (a.toList = b.toList) = (a = b) := fun a b => propext ⟨bs_ext, fun h => by rw [h]⟩
  by_cases h0 : a = b <;> by_cases h1 : m = n <;> simp [h0, h1, e0]
theorem headsX (s0 s1 : ByteArray) (n2 n3 n4 : Int) (s5 s6 s7 : ByteArray) (n8 n9 : Int) (s10 : ByteArray) (n11 : Int) (A B : Option Addr) (n m c k : Nat) (w : World) : Calls Tryz.prog 30 #[.agg #[.string s0, .string s1, .int .i64 n2, .int .i64 n3, .int .i64 n4, .string s5, .string s6, .string s7, .int .i64 n8, .int .i64 n9, .string s10, .int .i64 n11, .slice A n c, .slice B m k]] w fun e w' => e = .returned (.agg #[.string s0, .string s1, .string s5, .string s6, .string s7]) ∧ Below w.heap.size w w' := heads_any ⟨s0, s1, n2, n3, n4, s5, s6, s7, n8, n9, s10, n11, [], []⟩ w A B n m c k
theorem numsX (s0 s1 : ByteArray) (n2 n3 n4 : Int) (s5 s6 s7 : ByteArray) (n8 n9 : Int) (s10 : ByteArray) (n11 : Int) (A B : Option Addr) (n m c k : Nat) (w : World) : Calls Tryz.prog 31 #[.agg #[.string s0, .string s1, .int .i64 n2, .int .i64 n3, .int .i64 n4, .string s5, .string s6, .string s7, .int .i64 n8, .int .i64 n9, .string s10, .int .i64 n11, .slice A n c, .slice B m k]] w fun e w' => e = .returned (.agg #[.int .i64 n2, .int .i64 n3, .int .i64 n4, .int .i64 n8, .int .i64 n9]) ∧ Below w.heap.size w w' := nums_any ⟨s0, s1, n2, n3, n4, s5, s6, s7, n8, n9, s10, n11, [], []⟩ w A B n m c k
set_option maxHeartbeats 8000000 in
theorem same9_0 (a0 a1 a5 a6 a7 a10 c0 c1 c5 c6 c7 c10 : ByteArray) (a2 a3 a4 a8 a9 a11 c2 c3 c4 c8 c9 c11 : Int) (Ad Ab Bd Bb : Option Addr) (nd cd nb cb md dd mb db : Nat) (w : World) (H1 : ∀ W, (binOp .eql 61 (.agg #[.string a0, .string a1, .string a5, .string a6, .string a7]) (.agg #[.string c0, .string c1, .string c5, .string c6, .string c7])).run Tryz.prog W = .ok (.bool false) W) : Calls Tryz.prog 14 #[.agg #[.string a0, .string a1, .int .i64 a2, .int .i64 a3, .int .i64 a4, .string a5, .string a6, .string a7, .int .i64 a8, .int .i64 a9, .string a10, .int .i64 a11, .slice Ad nd cd, .slice Ab nb cb], .agg #[.string c0, .string c1, .int .i64 c2, .int .i64 c3, .int .i64 c4, .string c5, .string c6, .string c7, .int .i64 c8, .int .i64 c9, .string c10, .int .i64 c11, .slice Bd md dd, .slice Bb mb db]] w fun e w' => e = .returned (.bool false) ∧ Below w.heap.size w w' := by
  obtain ⟨W0, hW0⟩ : ∃ W0, W0 = (w.alloc (.cells #[.string a0, .string a1, .int .i64 a2, .int .i64 a3, .int .i64 a4, .string a5, .string a6, .string a7, .int .i64 a8, .int .i64 a9, .string a10, .int .i64 a11, .slice Ad nd cd, .slice Ab nb cb] 33)).alloc (.cells #[.string c0, .string c1, .int .i64 c2, .int .i64 c3, .int .i64 c4, .string c5, .string c6, .string c7, .int .i64 c8, .int .i64 c9, .string c10, .int .i64 c11, .slice Bd md dd, .slice Bb mb db] 33) := ⟨_, rfl⟩
  have HF : Hid (Below w.heap.size w W0) := by rw [hW0]; exact ((Below.refl _ _).alloc (Nat.le_refl _) _).alloc (by simp) _
  have x0 := cell_regrown (show W0.cell? ⟨w.heap.size, 0, none⟩ = some (.string a0) by rw [hW0]; go_simp)
  have x1 := cell_regrown (show W0.cell? ⟨w.heap.size, 1, none⟩ = some (.string a1) by rw [hW0]; go_simp)
  have x2 := cell_regrown (show W0.cell? ⟨w.heap.size, 2, none⟩ = some (.int .i64 a2) by rw [hW0]; go_simp)
  have x3 := cell_regrown (show W0.cell? ⟨w.heap.size, 3, none⟩ = some (.int .i64 a3) by rw [hW0]; go_simp)
  have x4 := cell_regrown (show W0.cell? ⟨w.heap.size, 4, none⟩ = some (.int .i64 a4) by rw [hW0]; go_simp)
  have x5 := cell_regrown (show W0.cell? ⟨w.heap.size, 5, none⟩ = some (.string a5) by rw [hW0]; go_simp)
  have x6 := cell_regrown (show W0.cell? ⟨w.heap.size, 6, none⟩ = some (.string a6) by rw [hW0]; go_simp)
  have x7 := cell_regrown (show W0.cell? ⟨w.heap.size, 7, none⟩ = some (.string a7) by rw [hW0]; go_simp)
  have x8 := cell_regrown (show W0.cell? ⟨w.heap.size, 8, none⟩ = some (.int .i64 a8) by rw [hW0]; go_simp)
  have x9 := cell_regrown (show W0.cell? ⟨w.heap.size, 9, none⟩ = some (.int .i64 a9) by rw [hW0]; go_simp)
  have x10 := cell_regrown (show W0.cell? ⟨w.heap.size, 10, none⟩ = some (.string a10) by rw [hW0]; go_simp)
  have x11 := cell_regrown (show W0.cell? ⟨w.heap.size, 11, none⟩ = some (.int .i64 a11) by rw [hW0]; go_simp)
  have x12 := cell_regrown (show W0.cell? ⟨w.heap.size, 12, none⟩ = some (.slice Ad nd cd) by rw [hW0]; go_simp)
  have x13 := cell_regrown (show W0.cell? ⟨w.heap.size, 13, none⟩ = some (.slice Ab nb cb) by rw [hW0]; go_simp)
  have y0 := cell_regrown (show W0.cell? ⟨w.heap.size + 1, 0, none⟩ = some (.string c0) by rw [hW0]; go_simp)
  have y1 := cell_regrown (show W0.cell? ⟨w.heap.size + 1, 1, none⟩ = some (.string c1) by rw [hW0]; go_simp)
  have y2 := cell_regrown (show W0.cell? ⟨w.heap.size + 1, 2, none⟩ = some (.int .i64 c2) by rw [hW0]; go_simp)
  have y3 := cell_regrown (show W0.cell? ⟨w.heap.size + 1, 3, none⟩ = some (.int .i64 c3) by rw [hW0]; go_simp)
  have y4 := cell_regrown (show W0.cell? ⟨w.heap.size + 1, 4, none⟩ = some (.int .i64 c4) by rw [hW0]; go_simp)
  have y5 := cell_regrown (show W0.cell? ⟨w.heap.size + 1, 5, none⟩ = some (.string c5) by rw [hW0]; go_simp)
  have y6 := cell_regrown (show W0.cell? ⟨w.heap.size + 1, 6, none⟩ = some (.string c6) by rw [hW0]; go_simp)
  have y7 := cell_regrown (show W0.cell? ⟨w.heap.size + 1, 7, none⟩ = some (.string c7) by rw [hW0]; go_simp)
  have y8 := cell_regrown (show W0.cell? ⟨w.heap.size + 1, 8, none⟩ = some (.int .i64 c8) by rw [hW0]; go_simp)
  have y9 := cell_regrown (show W0.cell? ⟨w.heap.size + 1, 9, none⟩ = some (.int .i64 c9) by rw [hW0]; go_simp)
  have y10 := cell_regrown (show W0.cell? ⟨w.heap.size + 1, 10, none⟩ = some (.string c10) by rw [hW0]; go_simp)
  have y11 := cell_regrown (show W0.cell? ⟨w.heap.size + 1, 11, none⟩ = some (.int .i64 c11) by rw [hW0]; go_simp)
  have y12 := cell_regrown (show W0.cell? ⟨w.heap.size + 1, 12, none⟩ = some (.slice Bd md dd) by rw [hW0]; go_simp)
  have y13 := cell_regrown (show W0.cell? ⟨w.heap.size + 1, 13, none⟩ = some (.slice Bb mb db) by rw [hW0]; go_simp)
  have e61 : Tryz.prog.eqGuardType Tryz.prog.depth 61 = false := by kernel_rfl
  have HW := Lib.hid hW0
  clear hW0
  go_enter Tryz.func14, Tryz.ntmps14
  go_wp2
  rw [← HW.out]
  refine wp_region_quiet_below (by kernel_rfl) (by kernel_rfl) ?_
  repeat (quiet_step (first | (go_at_call 30; exact Calls.regrown_of (headsX _ _ _ _ _ _ _ _ _ _ _ _ _ _ _ _ _ _ _))))
  refine wpQuiet_nil ?_
  intro w1 hw'
  have HZ : Hid (Below w.heap.size w w1) := by
    obtain ⟨p, hw''⟩ := hw'
    rw [hw'']
    exact HF.out.trans ((below_regrown W0 _ _).mono HF.out.size)
  clear hw'
  go_wp2
  go_ret
  exact ⟨rfl, HZ.out⟩
set_option maxHeartbeats 8000000 in
theorem same9_1 (a0 a1 a5 a6 a7 a10 c0 c1 c5 c6 c7 c10 : ByteArray) (a2 a3 a4 a8 a9 a11 c2 c3 c4 c8 c9 c11 : Int) (Ad Ab Bd Bb : Option Addr) (nd cd nb cb md dd mb db : Nat) (w : World) (H1 : ∀ W, (binOp .eql 61 (.agg #[.string a0, .string a1, .string a5, .string a6, .string a7]) (.agg #[.string c0, .string c1, .string c5, .string c6, .string c7])).run Tryz.prog W = .ok (.bool true) W) (H2 : ∀ W, (binOp .eql 63 (.agg #[.int .i64 a2, .int .i64 a3, .int .i64 a4, .int .i64 a8, .int .i64 a9]) (.agg #[.int .i64 c2, .int .i64 c3, .int .i64 c4, .int .i64 c8, .int .i64 c9])).run Tryz.prog W = .ok (.bool false) W) : Calls Tryz.prog 14 #[.agg #[.string a0, .string a1, .int .i64 a2, .int .i64 a3, .int .i64 a4, .string a5, .string a6, .string a7, .int .i64 a8, .int .i64 a9, .string a10, .int .i64 a11, .slice Ad nd cd, .slice Ab nb cb], .agg #[.string c0, .string c1, .int .i64 c2, .int .i64 c3, .int .i64 c4, .string c5, .string c6, .string c7, .int .i64 c8, .int .i64 c9, .string c10, .int .i64 c11, .slice Bd md dd, .slice Bb mb db]] w fun e w' => e = .returned (.bool false) ∧ Below w.heap.size w w' := by
  obtain ⟨W0, hW0⟩ : ∃ W0, W0 = (w.alloc (.cells #[.string a0, .string a1, .int .i64 a2, .int .i64 a3, .int .i64 a4, .string a5, .string a6, .string a7, .int .i64 a8, .int .i64 a9, .string a10, .int .i64 a11, .slice Ad nd cd, .slice Ab nb cb] 33)).alloc (.cells #[.string c0, .string c1, .int .i64 c2, .int .i64 c3, .int .i64 c4, .string c5, .string c6, .string c7, .int .i64 c8, .int .i64 c9, .string c10, .int .i64 c11, .slice Bd md dd, .slice Bb mb db] 33) := ⟨_, rfl⟩
  have HF : Hid (Below w.heap.size w W0) := by rw [hW0]; exact ((Below.refl _ _).alloc (Nat.le_refl _) _).alloc (by simp) _
  have x0 := cell_regrown (show W0.cell? ⟨w.heap.size, 0, none⟩ = some (.string a0) by rw [hW0]; go_simp)
  have x1 := cell_regrown (show W0.cell? ⟨w.heap.size, 1, none⟩ = some (.string a1) by rw [hW0]; go_simp)
  have x2 := cell_regrown (show W0.cell? ⟨w.heap.size, 2, none⟩ = some (.int .i64 a2) by rw [hW0]; go_simp)
  have x3 := cell_regrown (show W0.cell? ⟨w.heap.size, 3, none⟩ = some (.int .i64 a3) by rw [hW0]; go_simp)
  have x4 := cell_regrown (show W0.cell? ⟨w.heap.size, 4, none⟩ = some (.int .i64 a4) by rw [hW0]; go_simp)
  have x5 := cell_regrown (show W0.cell? ⟨w.heap.size, 5, none⟩ = some (.string a5) by rw [hW0]; go_simp)
  have x6 := cell_regrown (show W0.cell? ⟨w.heap.size, 6, none⟩ = some (.string a6) by rw [hW0]; go_simp)
  have x7 := cell_regrown (show W0.cell? ⟨w.heap.size, 7, none⟩ = some (.string a7) by rw [hW0]; go_simp)
  have x8 := cell_regrown (show W0.cell? ⟨w.heap.size, 8, none⟩ = some (.int .i64 a8) by rw [hW0]; go_simp)
  have x9 := cell_regrown (show W0.cell? ⟨w.heap.size, 9, none⟩ = some (.int .i64 a9) by rw [hW0]; go_simp)
  have x10 := cell_regrown (show W0.cell? ⟨w.heap.size, 10, none⟩ = some (.string a10) by rw [hW0]; go_simp)
  have x11 := cell_regrown (show W0.cell? ⟨w.heap.size, 11, none⟩ = some (.int .i64 a11) by rw [hW0]; go_simp)
  have x12 := cell_regrown (show W0.cell? ⟨w.heap.size, 12, none⟩ = some (.slice Ad nd cd) by rw [hW0]; go_simp)
  have x13 := cell_regrown (show W0.cell? ⟨w.heap.size, 13, none⟩ = some (.slice Ab nb cb) by rw [hW0]; go_simp)
  have y0 := cell_regrown (show W0.cell? ⟨w.heap.size + 1, 0, none⟩ = some (.string c0) by rw [hW0]; go_simp)
  have y1 := cell_regrown (show W0.cell? ⟨w.heap.size + 1, 1, none⟩ = some (.string c1) by rw [hW0]; go_simp)
  have y2 := cell_regrown (show W0.cell? ⟨w.heap.size + 1, 2, none⟩ = some (.int .i64 c2) by rw [hW0]; go_simp)
  have y3 := cell_regrown (show W0.cell? ⟨w.heap.size + 1, 3, none⟩ = some (.int .i64 c3) by rw [hW0]; go_simp)
  have y4 := cell_regrown (show W0.cell? ⟨w.heap.size + 1, 4, none⟩ = some (.int .i64 c4) by rw [hW0]; go_simp)
  have y5 := cell_regrown (show W0.cell? ⟨w.heap.size + 1, 5, none⟩ = some (.string c5) by rw [hW0]; go_simp)
  have y6 := cell_regrown (show W0.cell? ⟨w.heap.size + 1, 6, none⟩ = some (.string c6) by rw [hW0]; go_simp)
  have y7 := cell_regrown (show W0.cell? ⟨w.heap.size + 1, 7, none⟩ = some (.string c7) by rw [hW0]; go_simp)
  have y8 := cell_regrown (show W0.cell? ⟨w.heap.size + 1, 8, none⟩ = some (.int .i64 c8) by rw [hW0]; go_simp)
  have y9 := cell_regrown (show W0.cell? ⟨w.heap.size + 1, 9, none⟩ = some (.int .i64 c9) by rw [hW0]; go_simp)
  have y10 := cell_regrown (show W0.cell? ⟨w.heap.size + 1, 10, none⟩ = some (.string c10) by rw [hW0]; go_simp)
  have y11 := cell_regrown (show W0.cell? ⟨w.heap.size + 1, 11, none⟩ = some (.int .i64 c11) by rw [hW0]; go_simp)
  have y12 := cell_regrown (show W0.cell? ⟨w.heap.size + 1, 12, none⟩ = some (.slice Bd md dd) by rw [hW0]; go_simp)
  have y13 := cell_regrown (show W0.cell? ⟨w.heap.size + 1, 13, none⟩ = some (.slice Bb mb db) by rw [hW0]; go_simp)
  have e61 : Tryz.prog.eqGuardType Tryz.prog.depth 61 = false := by kernel_rfl
  have e63 : Tryz.prog.eqGuardType Tryz.prog.depth 63 = false := by kernel_rfl
  have HW := Lib.hid hW0
  clear hW0
  go_enter Tryz.func14, Tryz.ntmps14
  go_wp2
  rw [← HW.out]
  refine wp_region_quiet_below (by kernel_rfl) (by kernel_rfl) ?_
  repeat (quiet_step (first | (go_at_call 30; exact Calls.regrown_of (headsX _ _ _ _ _ _ _ _ _ _ _ _ _ _ _ _ _ _ _)) | (go_at_call 31; exact Calls.regrown_of (numsX _ _ _ _ _ _ _ _ _ _ _ _ _ _ _ _ _ _ _))))
  refine wpQuiet_nil ?_
  intro w1 hw'
  have HZ : Hid (Below w.heap.size w w1) := by
    obtain ⟨p, hw''⟩ := hw'
    rw [hw'']
    exact HF.out.trans ((below_regrown W0 _ _).mono HF.out.size)
  clear hw'
  go_wp2
  go_ret
  exact ⟨rfl, HZ.out⟩
set_option maxHeartbeats 8000000 in
theorem same9_2 (a0 a1 a5 a6 a7 a10 c0 c1 c5 c6 c7 c10 : ByteArray) (a2 a3 a4 a8 a9 a11 c2 c3 c4 c8 c9 c11 : Int) (Ad Ab Bd Bb : Option Addr) (nd cd nb cb md dd mb db : Nat) (w : World) (H1 : ∀ W, (binOp .eql 61 (.agg #[.string a0, .string a1, .string a5, .string a6, .string a7]) (.agg #[.string c0, .string c1, .string c5, .string c6, .string c7])).run Tryz.prog W = .ok (.bool true) W) (H2 : ∀ W, (binOp .eql 63 (.agg #[.int .i64 a2, .int .i64 a3, .int .i64 a4, .int .i64 a8, .int .i64 a9]) (.agg #[.int .i64 c2, .int .i64 c3, .int .i64 c4, .int .i64 c8, .int .i64 c9])).run Tryz.prog W = .ok (.bool true) W) (H3 : ∀ W, (binOp .eql 30 (.agg #[.string a10, .int .i64 a11]) (.agg #[.string c10, .int .i64 c11])).run Tryz.prog W = .ok (.bool false) W) : Calls Tryz.prog 14 #[.agg #[.string a0, .string a1, .int .i64 a2, .int .i64 a3, .int .i64 a4, .string a5, .string a6, .string a7, .int .i64 a8, .int .i64 a9, .string a10, .int .i64 a11, .slice Ad nd cd, .slice Ab nb cb], .agg #[.string c0, .string c1, .int .i64 c2, .int .i64 c3, .int .i64 c4, .string c5, .string c6, .string c7, .int .i64 c8, .int .i64 c9, .string c10, .int .i64 c11, .slice Bd md dd, .slice Bb mb db]] w fun e w' => e = .returned (.bool false) ∧ Below w.heap.size w w' := by
  obtain ⟨W0, hW0⟩ : ∃ W0, W0 = (w.alloc (.cells #[.string a0, .string a1, .int .i64 a2, .int .i64 a3, .int .i64 a4, .string a5, .string a6, .string a7, .int .i64 a8, .int .i64 a9, .string a10, .int .i64 a11, .slice Ad nd cd, .slice Ab nb cb] 33)).alloc (.cells #[.string c0, .string c1, .int .i64 c2, .int .i64 c3, .int .i64 c4, .string c5, .string c6, .string c7, .int .i64 c8, .int .i64 c9, .string c10, .int .i64 c11, .slice Bd md dd, .slice Bb mb db] 33) := ⟨_, rfl⟩
  have HF : Hid (Below w.heap.size w W0) := by rw [hW0]; exact ((Below.refl _ _).alloc (Nat.le_refl _) _).alloc (by simp) _
  have x0 := cell_regrown (show W0.cell? ⟨w.heap.size, 0, none⟩ = some (.string a0) by rw [hW0]; go_simp)
  have x1 := cell_regrown (show W0.cell? ⟨w.heap.size, 1, none⟩ = some (.string a1) by rw [hW0]; go_simp)
  have x2 := cell_regrown (show W0.cell? ⟨w.heap.size, 2, none⟩ = some (.int .i64 a2) by rw [hW0]; go_simp)
  have x3 := cell_regrown (show W0.cell? ⟨w.heap.size, 3, none⟩ = some (.int .i64 a3) by rw [hW0]; go_simp)
  have x4 := cell_regrown (show W0.cell? ⟨w.heap.size, 4, none⟩ = some (.int .i64 a4) by rw [hW0]; go_simp)
  have x5 := cell_regrown (show W0.cell? ⟨w.heap.size, 5, none⟩ = some (.string a5) by rw [hW0]; go_simp)
  have x6 := cell_regrown (show W0.cell? ⟨w.heap.size, 6, none⟩ = some (.string a6) by rw [hW0]; go_simp)
  have x7 := cell_regrown (show W0.cell? ⟨w.heap.size, 7, none⟩ = some (.string a7) by rw [hW0]; go_simp)
  have x8 := cell_regrown (show W0.cell? ⟨w.heap.size, 8, none⟩ = some (.int .i64 a8) by rw [hW0]; go_simp)
  have x9 := cell_regrown (show W0.cell? ⟨w.heap.size, 9, none⟩ = some (.int .i64 a9) by rw [hW0]; go_simp)
  have x10 := cell_regrown (show W0.cell? ⟨w.heap.size, 10, none⟩ = some (.string a10) by rw [hW0]; go_simp)
  have x11 := cell_regrown (show W0.cell? ⟨w.heap.size, 11, none⟩ = some (.int .i64 a11) by rw [hW0]; go_simp)
  have x12 := cell_regrown (show W0.cell? ⟨w.heap.size, 12, none⟩ = some (.slice Ad nd cd) by rw [hW0]; go_simp)
  have x13 := cell_regrown (show W0.cell? ⟨w.heap.size, 13, none⟩ = some (.slice Ab nb cb) by rw [hW0]; go_simp)
  have y0 := cell_regrown (show W0.cell? ⟨w.heap.size + 1, 0, none⟩ = some (.string c0) by rw [hW0]; go_simp)
  have y1 := cell_regrown (show W0.cell? ⟨w.heap.size + 1, 1, none⟩ = some (.string c1) by rw [hW0]; go_simp)
  have y2 := cell_regrown (show W0.cell? ⟨w.heap.size + 1, 2, none⟩ = some (.int .i64 c2) by rw [hW0]; go_simp)
  have y3 := cell_regrown (show W0.cell? ⟨w.heap.size + 1, 3, none⟩ = some (.int .i64 c3) by rw [hW0]; go_simp)
  have y4 := cell_regrown (show W0.cell? ⟨w.heap.size + 1, 4, none⟩ = some (.int .i64 c4) by rw [hW0]; go_simp)
  have y5 := cell_regrown (show W0.cell? ⟨w.heap.size + 1, 5, none⟩ = some (.string c5) by rw [hW0]; go_simp)
  have y6 := cell_regrown (show W0.cell? ⟨w.heap.size + 1, 6, none⟩ = some (.string c6) by rw [hW0]; go_simp)
  have y7 := cell_regrown (show W0.cell? ⟨w.heap.size + 1, 7, none⟩ = some (.string c7) by rw [hW0]; go_simp)
  have y8 := cell_regrown (show W0.cell? ⟨w.heap.size + 1, 8, none⟩ = some (.int .i64 c8) by rw [hW0]; go_simp)
  have y9 := cell_regrown (show W0.cell? ⟨w.heap.size + 1, 9, none⟩ = some (.int .i64 c9) by rw [hW0]; go_simp)
  have y10 := cell_regrown (show W0.cell? ⟨w.heap.size + 1, 10, none⟩ = some (.string c10) by rw [hW0]; go_simp)
  have y11 := cell_regrown (show W0.cell? ⟨w.heap.size + 1, 11, none⟩ = some (.int .i64 c11) by rw [hW0]; go_simp)
  have y12 := cell_regrown (show W0.cell? ⟨w.heap.size + 1, 12, none⟩ = some (.slice Bd md dd) by rw [hW0]; go_simp)
  have y13 := cell_regrown (show W0.cell? ⟨w.heap.size + 1, 13, none⟩ = some (.slice Bb mb db) by rw [hW0]; go_simp)
  have e61 : Tryz.prog.eqGuardType Tryz.prog.depth 61 = false := by kernel_rfl
  have e63 : Tryz.prog.eqGuardType Tryz.prog.depth 63 = false := by kernel_rfl
  have e30 : Tryz.prog.eqGuardType Tryz.prog.depth 30 = false := by kernel_rfl
  have HW := Lib.hid hW0
  clear hW0
  go_enter Tryz.func14, Tryz.ntmps14
  go_wp2
  rw [← HW.out]
  refine wp_region_quiet_below (by kernel_rfl) (by kernel_rfl) ?_
  repeat (quiet_step (first | (go_at_call 30; exact Calls.regrown_of (headsX _ _ _ _ _ _ _ _ _ _ _ _ _ _ _ _ _ _ _)) | (go_at_call 31; exact Calls.regrown_of (numsX _ _ _ _ _ _ _ _ _ _ _ _ _ _ _ _ _ _ _))))
  refine wpQuiet_nil ?_
  intro w1 hw'
  have HZ : Hid (Below w.heap.size w w1) := by
    obtain ⟨p, hw''⟩ := hw'
    rw [hw'']
    exact HF.out.trans ((below_regrown W0 _ _).mono HF.out.size)
  clear hw'
  go_wp2
  go_ret
  exact ⟨rfl, HZ.out⟩
set_option maxHeartbeats 8000000 in
theorem same9_3 (a0 a1 a5 a6 a7 a10 c0 c1 c5 c6 c7 c10 : ByteArray) (a2 a3 a4 a8 a9 a11 c2 c3 c4 c8 c9 c11 : Int) (Ad Ab Bd Bb : Option Addr) (nd cd nb cb md dd mb db : Nat) (w : World) (H1 : ∀ W, (binOp .eql 61 (.agg #[.string a0, .string a1, .string a5, .string a6, .string a7]) (.agg #[.string c0, .string c1, .string c5, .string c6, .string c7])).run Tryz.prog W = .ok (.bool true) W) (H2 : ∀ W, (binOp .eql 63 (.agg #[.int .i64 a2, .int .i64 a3, .int .i64 a4, .int .i64 a8, .int .i64 a9]) (.agg #[.int .i64 c2, .int .i64 c3, .int .i64 c4, .int .i64 c8, .int .i64 c9])).run Tryz.prog W = .ok (.bool true) W) (H3 : ∀ W, (binOp .eql 30 (.agg #[.string a10, .int .i64 a11]) (.agg #[.string c10, .int .i64 c11])).run Tryz.prog W = .ok (.bool true) W) (HE : ∀ W, Below w.heap.size w W → Calls Tryz.prog 32 #[.slice Ad nd cd, .slice Bd md dd, .func (.func 33) #[] #[]] W fun e w' => e = .returned (.bool false) ∧ Below W.heap.size W w') : Calls Tryz.prog 14 #[.agg #[.string a0, .string a1, .int .i64 a2, .int .i64 a3, .int .i64 a4, .string a5, .string a6, .string a7, .int .i64 a8, .int .i64 a9, .string a10, .int .i64 a11, .slice Ad nd cd, .slice Ab nb cb], .agg #[.string c0, .string c1, .int .i64 c2, .int .i64 c3, .int .i64 c4, .string c5, .string c6, .string c7, .int .i64 c8, .int .i64 c9, .string c10, .int .i64 c11, .slice Bd md dd, .slice Bb mb db]] w fun e w' => e = .returned (.bool false) ∧ Below w.heap.size w w' := by
  have hE := Lib.hid HE
  clear HE
  obtain ⟨W0, hW0⟩ : ∃ W0, W0 = (w.alloc (.cells #[.string a0, .string a1, .int .i64 a2, .int .i64 a3, .int .i64 a4, .string a5, .string a6, .string a7, .int .i64 a8, .int .i64 a9, .string a10, .int .i64 a11, .slice Ad nd cd, .slice Ab nb cb] 33)).alloc (.cells #[.string c0, .string c1, .int .i64 c2, .int .i64 c3, .int .i64 c4, .string c5, .string c6, .string c7, .int .i64 c8, .int .i64 c9, .string c10, .int .i64 c11, .slice Bd md dd, .slice Bb mb db] 33) := ⟨_, rfl⟩
  have HF : Hid (Below w.heap.size w W0) := by rw [hW0]; exact ((Below.refl _ _).alloc (Nat.le_refl _) _).alloc (by simp) _
  have x0 := cell_regrown (show W0.cell? ⟨w.heap.size, 0, none⟩ = some (.string a0) by rw [hW0]; go_simp)
  have x1 := cell_regrown (show W0.cell? ⟨w.heap.size, 1, none⟩ = some (.string a1) by rw [hW0]; go_simp)
  have x2 := cell_regrown (show W0.cell? ⟨w.heap.size, 2, none⟩ = some (.int .i64 a2) by rw [hW0]; go_simp)
  have x3 := cell_regrown (show W0.cell? ⟨w.heap.size, 3, none⟩ = some (.int .i64 a3) by rw [hW0]; go_simp)
  have x4 := cell_regrown (show W0.cell? ⟨w.heap.size, 4, none⟩ = some (.int .i64 a4) by rw [hW0]; go_simp)
  have x5 := cell_regrown (show W0.cell? ⟨w.heap.size, 5, none⟩ = some (.string a5) by rw [hW0]; go_simp)
  have x6 := cell_regrown (show W0.cell? ⟨w.heap.size, 6, none⟩ = some (.string a6) by rw [hW0]; go_simp)
  have x7 := cell_regrown (show W0.cell? ⟨w.heap.size, 7, none⟩ = some (.string a7) by rw [hW0]; go_simp)
  have x8 := cell_regrown (show W0.cell? ⟨w.heap.size, 8, none⟩ = some (.int .i64 a8) by rw [hW0]; go_simp)
  have x9 := cell_regrown (show W0.cell? ⟨w.heap.size, 9, none⟩ = some (.int .i64 a9) by rw [hW0]; go_simp)
  have x10 := cell_regrown (show W0.cell? ⟨w.heap.size, 10, none⟩ = some (.string a10) by rw [hW0]; go_simp)
  have x11 := cell_regrown (show W0.cell? ⟨w.heap.size, 11, none⟩ = some (.int .i64 a11) by rw [hW0]; go_simp)
  have x12 := cell_regrown (show W0.cell? ⟨w.heap.size, 12, none⟩ = some (.slice Ad nd cd) by rw [hW0]; go_simp)
  have x13 := cell_regrown (show W0.cell? ⟨w.heap.size, 13, none⟩ = some (.slice Ab nb cb) by rw [hW0]; go_simp)
  have y0 := cell_regrown (show W0.cell? ⟨w.heap.size + 1, 0, none⟩ = some (.string c0) by rw [hW0]; go_simp)
  have y1 := cell_regrown (show W0.cell? ⟨w.heap.size + 1, 1, none⟩ = some (.string c1) by rw [hW0]; go_simp)
  have y2 := cell_regrown (show W0.cell? ⟨w.heap.size + 1, 2, none⟩ = some (.int .i64 c2) by rw [hW0]; go_simp)
  have y3 := cell_regrown (show W0.cell? ⟨w.heap.size + 1, 3, none⟩ = some (.int .i64 c3) by rw [hW0]; go_simp)
  have y4 := cell_regrown (show W0.cell? ⟨w.heap.size + 1, 4, none⟩ = some (.int .i64 c4) by rw [hW0]; go_simp)
  have y5 := cell_regrown (show W0.cell? ⟨w.heap.size + 1, 5, none⟩ = some (.string c5) by rw [hW0]; go_simp)
  have y6 := cell_regrown (show W0.cell? ⟨w.heap.size + 1, 6, none⟩ = some (.string c6) by rw [hW0]; go_simp)
  have y7 := cell_regrown (show W0.cell? ⟨w.heap.size + 1, 7, none⟩ = some (.string c7) by rw [hW0]; go_simp)
  have y8 := cell_regrown (show W0.cell? ⟨w.heap.size + 1, 8, none⟩ = some (.int .i64 c8) by rw [hW0]; go_simp)
  have y9 := cell_regrown (show W0.cell? ⟨w.heap.size + 1, 9, none⟩ = some (.int .i64 c9) by rw [hW0]; go_simp)
  have y10 := cell_regrown (show W0.cell? ⟨w.heap.size + 1, 10, none⟩ = some (.string c10) by rw [hW0]; go_simp)
  have y11 := cell_regrown (show W0.cell? ⟨w.heap.size + 1, 11, none⟩ = some (.int .i64 c11) by rw [hW0]; go_simp)
  have y12 := cell_regrown (show W0.cell? ⟨w.heap.size + 1, 12, none⟩ = some (.slice Bd md dd) by rw [hW0]; go_simp)
  have y13 := cell_regrown (show W0.cell? ⟨w.heap.size + 1, 13, none⟩ = some (.slice Bb mb db) by rw [hW0]; go_simp)
  have e61 : Tryz.prog.eqGuardType Tryz.prog.depth 61 = false := by kernel_rfl
  have e63 : Tryz.prog.eqGuardType Tryz.prog.depth 63 = false := by kernel_rfl
  have e30 : Tryz.prog.eqGuardType Tryz.prog.depth 30 = false := by kernel_rfl
  have HW := Lib.hid hW0
  clear hW0
  go_enter Tryz.func14, Tryz.ntmps14
  go_wp2
  rw [← HW.out]
  refine wp_region_quiet_below (by kernel_rfl) (by kernel_rfl) ?_
  repeat (quiet_step (first | (go_at_call 30; exact Calls.regrown_of (headsX _ _ _ _ _ _ _ _ _ _ _ _ _ _ _ _ _ _ _)) | (go_at_call 31; exact Calls.regrown_of (numsX _ _ _ _ _ _ _ _ _ _ _ _ _ _ _ _ _ _ _)) | (go_at_call 32; exact Calls.regrown_of (hE.out _ (HF.out.trans ((below_regrown W0 _ _).mono HF.out.size))))))
  refine wpQuiet_nil ?_
  intro w1 hw'
  have HZ : Hid (Below w.heap.size w w1) := by
    obtain ⟨p, hw''⟩ := hw'
    rw [hw'']
    exact HF.out.trans ((below_regrown W0 _ _).mono HF.out.size)
  clear hw'
  go_wp2
  go_ret
  exact ⟨rfl, HZ.out⟩
set_option maxHeartbeats 8000000 in
theorem same9_4 (a0 a1 a5 a6 a7 a10 c0 c1 c5 c6 c7 c10 : ByteArray) (a2 a3 a4 a8 a9 a11 c2 c3 c4 c8 c9 c11 : Int) (Ad Ab Bd Bb : Option Addr) (nd cd nb cb md dd mb db : Nat) (w : World) (H1 : ∀ W, (binOp .eql 61 (.agg #[.string a0, .string a1, .string a5, .string a6, .string a7]) (.agg #[.string c0, .string c1, .string c5, .string c6, .string c7])).run Tryz.prog W = .ok (.bool true) W) (H2 : ∀ W, (binOp .eql 63 (.agg #[.int .i64 a2, .int .i64 a3, .int .i64 a4, .int .i64 a8, .int .i64 a9]) (.agg #[.int .i64 c2, .int .i64 c3, .int .i64 c4, .int .i64 c8, .int .i64 c9])).run Tryz.prog W = .ok (.bool true) W) (H3 : ∀ W, (binOp .eql 30 (.agg #[.string a10, .int .i64 a11]) (.agg #[.string c10, .int .i64 c11])).run Tryz.prog W = .ok (.bool true) W) (HE : ∀ W, Below w.heap.size w W → Calls Tryz.prog 32 #[.slice Ad nd cd, .slice Bd md dd, .func (.func 33) #[] #[]] W fun e w' => e = .returned (.bool true) ∧ Below W.heap.size W w') (HQ : ∀ W, Below w.heap.size w W → Calls Tryz.prog 34 #[.slice Ab nb cb, .slice Bb mb db] W fun e w' => e = .returned (.bool false) ∧ Below W.heap.size W w') : Calls Tryz.prog 14 #[.agg #[.string a0, .string a1, .int .i64 a2, .int .i64 a3, .int .i64 a4, .string a5, .string a6, .string a7, .int .i64 a8, .int .i64 a9, .string a10, .int .i64 a11, .slice Ad nd cd, .slice Ab nb cb], .agg #[.string c0, .string c1, .int .i64 c2, .int .i64 c3, .int .i64 c4, .string c5, .string c6, .string c7, .int .i64 c8, .int .i64 c9, .string c10, .int .i64 c11, .slice Bd md dd, .slice Bb mb db]] w fun e w' => e = .returned (.bool false) ∧ Below w.heap.size w w' := by
  have hE := Lib.hid HE
  clear HE
  have hQ := Lib.hid HQ
  clear HQ
  obtain ⟨W0, hW0⟩ : ∃ W0, W0 = (w.alloc (.cells #[.string a0, .string a1, .int .i64 a2, .int .i64 a3, .int .i64 a4, .string a5, .string a6, .string a7, .int .i64 a8, .int .i64 a9, .string a10, .int .i64 a11, .slice Ad nd cd, .slice Ab nb cb] 33)).alloc (.cells #[.string c0, .string c1, .int .i64 c2, .int .i64 c3, .int .i64 c4, .string c5, .string c6, .string c7, .int .i64 c8, .int .i64 c9, .string c10, .int .i64 c11, .slice Bd md dd, .slice Bb mb db] 33) := ⟨_, rfl⟩
  have HF : Hid (Below w.heap.size w W0) := by rw [hW0]; exact ((Below.refl _ _).alloc (Nat.le_refl _) _).alloc (by simp) _
  have x0 := cell_regrown (show W0.cell? ⟨w.heap.size, 0, none⟩ = some (.string a0) by rw [hW0]; go_simp)
  have x1 := cell_regrown (show W0.cell? ⟨w.heap.size, 1, none⟩ = some (.string a1) by rw [hW0]; go_simp)
  have x2 := cell_regrown (show W0.cell? ⟨w.heap.size, 2, none⟩ = some (.int .i64 a2) by rw [hW0]; go_simp)
  have x3 := cell_regrown (show W0.cell? ⟨w.heap.size, 3, none⟩ = some (.int .i64 a3) by rw [hW0]; go_simp)
  have x4 := cell_regrown (show W0.cell? ⟨w.heap.size, 4, none⟩ = some (.int .i64 a4) by rw [hW0]; go_simp)
  have x5 := cell_regrown (show W0.cell? ⟨w.heap.size, 5, none⟩ = some (.string a5) by rw [hW0]; go_simp)
  have x6 := cell_regrown (show W0.cell? ⟨w.heap.size, 6, none⟩ = some (.string a6) by rw [hW0]; go_simp)
  have x7 := cell_regrown (show W0.cell? ⟨w.heap.size, 7, none⟩ = some (.string a7) by rw [hW0]; go_simp)
  have x8 := cell_regrown (show W0.cell? ⟨w.heap.size, 8, none⟩ = some (.int .i64 a8) by rw [hW0]; go_simp)
  have x9 := cell_regrown (show W0.cell? ⟨w.heap.size, 9, none⟩ = some (.int .i64 a9) by rw [hW0]; go_simp)
  have x10 := cell_regrown (show W0.cell? ⟨w.heap.size, 10, none⟩ = some (.string a10) by rw [hW0]; go_simp)
  have x11 := cell_regrown (show W0.cell? ⟨w.heap.size, 11, none⟩ = some (.int .i64 a11) by rw [hW0]; go_simp)
  have x12 := cell_regrown (show W0.cell? ⟨w.heap.size, 12, none⟩ = some (.slice Ad nd cd) by rw [hW0]; go_simp)
  have x13 := cell_regrown (show W0.cell? ⟨w.heap.size, 13, none⟩ = some (.slice Ab nb cb) by rw [hW0]; go_simp)
  have y0 := cell_regrown (show W0.cell? ⟨w.heap.size + 1, 0, none⟩ = some (.string c0) by rw [hW0]; go_simp)
  have y1 := cell_regrown (show W0.cell? ⟨w.heap.size + 1, 1, none⟩ = some (.string c1) by rw [hW0]; go_simp)
  have y2 := cell_regrown (show W0.cell? ⟨w.heap.size + 1, 2, none⟩ = some (.int .i64 c2) by rw [hW0]; go_simp)
  have y3 := cell_regrown (show W0.cell? ⟨w.heap.size + 1, 3, none⟩ = some (.int .i64 c3) by rw [hW0]; go_simp)
  have y4 := cell_regrown (show W0.cell? ⟨w.heap.size + 1, 4, none⟩ = some (.int .i64 c4) by rw [hW0]; go_simp)
  have y5 := cell_regrown (show W0.cell? ⟨w.heap.size + 1, 5, none⟩ = some (.string c5) by rw [hW0]; go_simp)
  have y6 := cell_regrown (show W0.cell? ⟨w.heap.size + 1, 6, none⟩ = some (.string c6) by rw [hW0]; go_simp)
  have y7 := cell_regrown (show W0.cell? ⟨w.heap.size + 1, 7, none⟩ = some (.string c7) by rw [hW0]; go_simp)
  have y8 := cell_regrown (show W0.cell? ⟨w.heap.size + 1, 8, none⟩ = some (.int .i64 c8) by rw [hW0]; go_simp)
  have y9 := cell_regrown (show W0.cell? ⟨w.heap.size + 1, 9, none⟩ = some (.int .i64 c9) by rw [hW0]; go_simp)
  have y10 := cell_regrown (show W0.cell? ⟨w.heap.size + 1, 10, none⟩ = some (.string c10) by rw [hW0]; go_simp)
  have y11 := cell_regrown (show W0.cell? ⟨w.heap.size + 1, 11, none⟩ = some (.int .i64 c11) by rw [hW0]; go_simp)
  have y12 := cell_regrown (show W0.cell? ⟨w.heap.size + 1, 12, none⟩ = some (.slice Bd md dd) by rw [hW0]; go_simp)
  have y13 := cell_regrown (show W0.cell? ⟨w.heap.size + 1, 13, none⟩ = some (.slice Bb mb db) by rw [hW0]; go_simp)
  have e61 : Tryz.prog.eqGuardType Tryz.prog.depth 61 = false := by kernel_rfl
  have e63 : Tryz.prog.eqGuardType Tryz.prog.depth 63 = false := by kernel_rfl
  have e30 : Tryz.prog.eqGuardType Tryz.prog.depth 30 = false := by kernel_rfl
  have HW := Lib.hid hW0
  clear hW0
  go_enter Tryz.func14, Tryz.ntmps14
  go_wp2
  rw [← HW.out]
  refine wp_region_quiet_below (by kernel_rfl) (by kernel_rfl) ?_
  repeat (quiet_step (first | (go_at_call 30; exact Calls.regrown_of (headsX _ _ _ _ _ _ _ _ _ _ _ _ _ _ _ _ _ _ _)) | (go_at_call 31; exact Calls.regrown_of (numsX _ _ _ _ _ _ _ _ _ _ _ _ _ _ _ _ _ _ _)) | (go_at_call 32; exact Calls.regrown_of (hE.out _ (HF.out.trans ((below_regrown W0 _ _).mono HF.out.size)))) | (go_at_call 34; exact Calls.regrown_of (hQ.out _ (HF.out.trans ((below_regrown W0 _ _).mono HF.out.size))))))
  refine wpQuiet_nil ?_
  intro w1 hw'
  have HZ : Hid (Below w.heap.size w w1) := by
    obtain ⟨p, hw''⟩ := hw'
    rw [hw'']
    exact HF.out.trans ((below_regrown W0 _ _).mono HF.out.size)
  clear hw'
  go_wp2
  go_ret
  exact ⟨rfl, HZ.out⟩
set_option maxHeartbeats 8000000 in
theorem same9_5 (a0 a1 a5 a6 a7 a10 c0 c1 c5 c6 c7 c10 : ByteArray) (a2 a3 a4 a8 a9 a11 c2 c3 c4 c8 c9 c11 : Int) (Ad Ab Bd Bb : Option Addr) (nd cd nb cb md dd mb db : Nat) (w : World) (H1 : ∀ W, (binOp .eql 61 (.agg #[.string a0, .string a1, .string a5, .string a6, .string a7]) (.agg #[.string c0, .string c1, .string c5, .string c6, .string c7])).run Tryz.prog W = .ok (.bool true) W) (H2 : ∀ W, (binOp .eql 63 (.agg #[.int .i64 a2, .int .i64 a3, .int .i64 a4, .int .i64 a8, .int .i64 a9]) (.agg #[.int .i64 c2, .int .i64 c3, .int .i64 c4, .int .i64 c8, .int .i64 c9])).run Tryz.prog W = .ok (.bool true) W) (H3 : ∀ W, (binOp .eql 30 (.agg #[.string a10, .int .i64 a11]) (.agg #[.string c10, .int .i64 c11])).run Tryz.prog W = .ok (.bool true) W) (HE : ∀ W, Below w.heap.size w W → Calls Tryz.prog 32 #[.slice Ad nd cd, .slice Bd md dd, .func (.func 33) #[] #[]] W fun e w' => e = .returned (.bool true) ∧ Below W.heap.size W w') (HQ : ∀ W, Below w.heap.size w W → Calls Tryz.prog 34 #[.slice Ab nb cb, .slice Bb mb db] W fun e w' => e = .returned (.bool true) ∧ Below W.heap.size W w') : Calls Tryz.prog 14 #[.agg #[.string a0, .string a1, .int .i64 a2, .int .i64 a3, .int .i64 a4, .string a5, .string a6, .string a7, .int .i64 a8, .int .i64 a9, .string a10, .int .i64 a11, .slice Ad nd cd, .slice Ab nb cb], .agg #[.string c0, .string c1, .int .i64 c2, .int .i64 c3, .int .i64 c4, .string c5, .string c6, .string c7, .int .i64 c8, .int .i64 c9, .string c10, .int .i64 c11, .slice Bd md dd, .slice Bb mb db]] w fun e w' => e = .returned (.bool true) ∧ Below w.heap.size w w' := by
  have hE := Lib.hid HE
  clear HE
  have hQ := Lib.hid HQ
  clear HQ
  obtain ⟨W0, hW0⟩ : ∃ W0, W0 = (w.alloc (.cells #[.string a0, .string a1, .int .i64 a2, .int .i64 a3, .int .i64 a4, .string a5, .string a6, .string a7, .int .i64 a8, .int .i64 a9, .string a10, .int .i64 a11, .slice Ad nd cd, .slice Ab nb cb] 33)).alloc (.cells #[.string c0, .string c1, .int .i64 c2, .int .i64 c3, .int .i64 c4, .string c5, .string c6, .string c7, .int .i64 c8, .int .i64 c9, .string c10, .int .i64 c11, .slice Bd md dd, .slice Bb mb db] 33) := ⟨_, rfl⟩
  have HF : Hid (Below w.heap.size w W0) := by rw [hW0]; exact ((Below.refl _ _).alloc (Nat.le_refl _) _).alloc (by simp) _
  have x0 := cell_regrown (show W0.cell? ⟨w.heap.size, 0, none⟩ = some (.string a0) by rw [hW0]; go_simp)
  have x1 := cell_regrown (show W0.cell? ⟨w.heap.size, 1, none⟩ = some (.string a1) by rw [hW0]; go_simp)
  have x2 := cell_regrown (show W0.cell? ⟨w.heap.size, 2, none⟩ = some (.int .i64 a2) by rw [hW0]; go_simp)
  have x3 := cell_regrown (show W0.cell? ⟨w.heap.size, 3, none⟩ = some (.int .i64 a3) by rw [hW0]; go_simp)
  have x4 := cell_regrown (show W0.cell? ⟨w.heap.size, 4, none⟩ = some (.int .i64 a4) by rw [hW0]; go_simp)
  have x5 := cell_regrown (show W0.cell? ⟨w.heap.size, 5, none⟩ = some (.string a5) by rw [hW0]; go_simp)
  have x6 := cell_regrown (show W0.cell? ⟨w.heap.size, 6, none⟩ = some (.string a6) by rw [hW0]; go_simp)
  have x7 := cell_regrown (show W0.cell? ⟨w.heap.size, 7, none⟩ = some (.string a7) by rw [hW0]; go_simp)
  have x8 := cell_regrown (show W0.cell? ⟨w.heap.size, 8, none⟩ = some (.int .i64 a8) by rw [hW0]; go_simp)
  have x9 := cell_regrown (show W0.cell? ⟨w.heap.size, 9, none⟩ = some (.int .i64 a9) by rw [hW0]; go_simp)
  have x10 := cell_regrown (show W0.cell? ⟨w.heap.size, 10, none⟩ = some (.string a10) by rw [hW0]; go_simp)
  have x11 := cell_regrown (show W0.cell? ⟨w.heap.size, 11, none⟩ = some (.int .i64 a11) by rw [hW0]; go_simp)
  have x12 := cell_regrown (show W0.cell? ⟨w.heap.size, 12, none⟩ = some (.slice Ad nd cd) by rw [hW0]; go_simp)
  have x13 := cell_regrown (show W0.cell? ⟨w.heap.size, 13, none⟩ = some (.slice Ab nb cb) by rw [hW0]; go_simp)
  have y0 := cell_regrown (show W0.cell? ⟨w.heap.size + 1, 0, none⟩ = some (.string c0) by rw [hW0]; go_simp)
  have y1 := cell_regrown (show W0.cell? ⟨w.heap.size + 1, 1, none⟩ = some (.string c1) by rw [hW0]; go_simp)
  have y2 := cell_regrown (show W0.cell? ⟨w.heap.size + 1, 2, none⟩ = some (.int .i64 c2) by rw [hW0]; go_simp)
  have y3 := cell_regrown (show W0.cell? ⟨w.heap.size + 1, 3, none⟩ = some (.int .i64 c3) by rw [hW0]; go_simp)
  have y4 := cell_regrown (show W0.cell? ⟨w.heap.size + 1, 4, none⟩ = some (.int .i64 c4) by rw [hW0]; go_simp)
  have y5 := cell_regrown (show W0.cell? ⟨w.heap.size + 1, 5, none⟩ = some (.string c5) by rw [hW0]; go_simp)
  have y6 := cell_regrown (show W0.cell? ⟨w.heap.size + 1, 6, none⟩ = some (.string c6) by rw [hW0]; go_simp)
  have y7 := cell_regrown (show W0.cell? ⟨w.heap.size + 1, 7, none⟩ = some (.string c7) by rw [hW0]; go_simp)
  have y8 := cell_regrown (show W0.cell? ⟨w.heap.size + 1, 8, none⟩ = some (.int .i64 c8) by rw [hW0]; go_simp)
  have y9 := cell_regrown (show W0.cell? ⟨w.heap.size + 1, 9, none⟩ = some (.int .i64 c9) by rw [hW0]; go_simp)
  have y10 := cell_regrown (show W0.cell? ⟨w.heap.size + 1, 10, none⟩ = some (.string c10) by rw [hW0]; go_simp)
  have y11 := cell_regrown (show W0.cell? ⟨w.heap.size + 1, 11, none⟩ = some (.int .i64 c11) by rw [hW0]; go_simp)
  have y12 := cell_regrown (show W0.cell? ⟨w.heap.size + 1, 12, none⟩ = some (.slice Bd md dd) by rw [hW0]; go_simp)
  have y13 := cell_regrown (show W0.cell? ⟨w.heap.size + 1, 13, none⟩ = some (.slice Bb mb db) by rw [hW0]; go_simp)
  have e61 : Tryz.prog.eqGuardType Tryz.prog.depth 61 = false := by kernel_rfl
  have e63 : Tryz.prog.eqGuardType Tryz.prog.depth 63 = false := by kernel_rfl
  have e30 : Tryz.prog.eqGuardType Tryz.prog.depth 30 = false := by kernel_rfl
  have HW := Lib.hid hW0
  clear hW0
  go_enter Tryz.func14, Tryz.ntmps14
  go_wp2
  rw [← HW.out]
  refine wp_region_quiet_below (by kernel_rfl) (by kernel_rfl) ?_
  repeat (quiet_step (first | (go_at_call 30; exact Calls.regrown_of (headsX _ _ _ _ _ _ _ _ _ _ _ _ _ _ _ _ _ _ _)) | (go_at_call 31; exact Calls.regrown_of (numsX _ _ _ _ _ _ _ _ _ _ _ _ _ _ _ _ _ _ _)) | (go_at_call 32; exact Calls.regrown_of (hE.out _ (HF.out.trans ((below_regrown W0 _ _).mono HF.out.size)))) | (go_at_call 34; exact Calls.regrown_of (hQ.out _ (HF.out.trans ((below_regrown W0 _ _).mono HF.out.size))))))
  refine wpQuiet_nil ?_
  intro w1 hw'
  have HZ : Hid (Below w.heap.size w w1) := by
    obtain ⟨p, hw''⟩ := hw'
    rw [hw'']
    exact HF.out.trans ((below_regrown W0 _ _).mono HF.out.size)
  clear hw'
  go_wp2
  go_ret
  exact ⟨rfl, HZ.out⟩
set_option maxHeartbeats 2000000 in
theorem same9_any (a b : LetD) (w : World) (B : Nat) (va vb : Value) (ha : LetC w B a va) (hb : LetC w B b vb) (hB : B ≤ w.heap.size) :
    Calls Tryz.prog 14 #[va, vb] w fun e w' => e = .returned (.bool (letEq a b)) ∧ Below w.heap.size w w' := by
  obtain ⟨dva, bva, rfl, da, sa⟩ := ha
  obtain ⟨dvb, bvb, rfl, db', sb⟩ := hb
  obtain ⟨Ad, cd, rfl, -⟩ := da.form
  obtain ⟨Bd, dd, rfl, -⟩ := db'.form
  obtain ⟨Ab, cb, rfl, -⟩ := id sa
  obtain ⟨Bb, db, rfl, -⟩ := id sb
  rw [List.length_map] at sa sb ⊢
  rw [List.length_map]
  have HE : ∀ W, Below w.heap.size w W → Calls Tryz.prog 32 #[.slice Ad a.docs.length cd, .slice Bd b.docs.length dd, .func (.func 33) #[] #[]] W fun e w' => e = .returned (.bool (docsEq a.docs b.docs)) ∧ Below W.heap.size W w' := fun W h => equalDocs_any _ _ W B _ _ (da.below (h.mono hB)) (db'.below (h.mono hB)) (Nat.le_trans hB h.size)
  have HQ : ∀ W, Below w.heap.size w W → Calls Tryz.prog 34 #[.slice Ab a.boxes.length cb, .slice Bb b.boxes.length db] W fun e w' => e = .returned (.bool (strsEq a.boxes b.boxes)) ∧ Below W.heap.size W w' := fun W h => (equalS_any _ _ W B _ _ (sa.below (h.mono hB)) (sb.below (h.mono hB))).mono (by rintro e w1 ⟨h1, n, rfl⟩; exact ⟨h1, Go.Sup.below_drewN (Below.refl _ _) n⟩)
  have HL : letEq a b = (hEq a b && (nEq a b && (mEq a b && (docsEq a.docs b.docs && strsEq a.boxes b.boxes)))) := rfl
  have H1 : ∀ W, (binOp .eql 61 a.heads b.heads).run Tryz.prog W = .ok (.bool (hEq a b)) W := fun W => run_eqH _ _ _ _ _ _ _ _ _ _ W
  have H2 : ∀ W, (binOp .eql 63 a.nums b.nums).run Tryz.prog W = .ok (.bool (nEq a b)) W := fun W => run_eqN _ _ _ _ _ _ _ _ _ _ W
  have H3 : ∀ W, (binOp .eql 30 (.agg #[.string a.cur, .int .i64 a.amount]) (.agg #[.string b.cur, .int .i64 b.amount])).run Tryz.prog W = .ok (.bool (mEq a b)) W := fun W => run_eqM _ _ _ _ W
  rw [HL]
  clear HL
  rcases h1 : hEq a b with _ | _ <;> rw [h1] at H1
  · exact same9_0 _ _ _ _ _ _ _ _ _ _ _ _ _ _ _ _ _ _ _ _ _ _ _ _ _ _ _ _ _ _ _ _ _ _ _ _ w H1
  rcases h2 : nEq a b with _ | _ <;> rw [h2] at H2
  · exact same9_1 _ _ _ _ _ _ _ _ _ _ _ _ _ _ _ _ _ _ _ _ _ _ _ _ _ _ _ _ _ _ _ _ _ _ _ _ w H1 H2
  rcases h3 : mEq a b with _ | _ <;> rw [h3] at H3
  · exact same9_2 _ _ _ _ _ _ _ _ _ _ _ _ _ _ _ _ _ _ _ _ _ _ _ _ _ _ _ _ _ _ _ _ _ _ _ _ w H1 H2 H3
  rcases h4 : docsEq a.docs b.docs with _ | _ <;> rw [h4] at HE
  · exact same9_3 _ _ _ _ _ _ _ _ _ _ _ _ _ _ _ _ _ _ _ _ _ _ _ _ _ _ _ _ _ _ _ _ _ _ _ _ w H1 H2 H3 HE
  rcases h5 : strsEq a.boxes b.boxes with _ | _ <;> rw [h5] at HQ
  · exact same9_4 _ _ _ _ _ _ _ _ _ _ _ _ _ _ _ _ _ _ _ _ _ _ _ _ _ _ _ _ _ _ _ _ _ _ _ _ w H1 H2 H3 HE HQ
  · exact same9_5 _ _ _ _ _ _ _ _ _ _ _ _ _ _ _ _ _ _ _ _ _ _ _ _ _ _ _ _ _ _ _ _ _ _ _ _ w H1 H2 H3 HE HQ
end Go.Proofs.YtlffpelkmdcckaaGreatDoor
