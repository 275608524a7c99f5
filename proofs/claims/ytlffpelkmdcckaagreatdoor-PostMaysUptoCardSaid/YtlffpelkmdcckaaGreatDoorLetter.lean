/- 09: a letter as data; the two heads that post.Same compares. -/
import Derived.Test.YtlffpelkmdcckaaGreatDoorKind9
import Derived.Test.YtlffpelkmdcckaaGreatDoorSame
import Derived.Laws.StructEq
namespace Go.Proofs.YtlffpelkmdcckaaGreatDoor
open Go Go.RowKit Go.Sup
set_option maxRecDepth 100000
/-- A letter. -/
structure LetD where
  src : ByteArray
  dst : ByteArray
  number : Int
  kind : Int
  ack : Int
  deal : ByteArray
  text : ByteArray
  party : ByteArray
  index : Int
  day : Int
  cur : ByteArray
  amount : Int
  docs : List DocD
  boxes : List ByteArray
def LetD.val (l : LetD) (dv bv : Value) : Value :=
  .agg #[.string l.src, .string l.dst, .int .i64 l.number, .int .i64 l.kind, .int .i64 l.ack, .string l.deal, .string l.text, .string l.party, .int .i64 l.index, .int .i64 l.day, .string l.cur, .int .i64 l.amount, dv, bv]
def LetD.cells (l : LetD) (dv bv : Value) : Array Value :=
  #[.string l.src, .string l.dst, .int .i64 l.number, .int .i64 l.kind, .int .i64 l.ack, .string l.deal, .string l.text, .string l.party, .int .i64 l.index, .int .i64 l.day, .string l.cur, .int .i64 l.amount, dv, bv]
def LetD.heads (l : LetD) : Value := .agg #[.string l.src, .string l.dst, .string l.deal, .string l.text, .string l.party]
def LetD.nums (l : LetD) : Value := .agg #[.int .i64 l.number, .int .i64 l.kind, .int .i64 l.ack, .int .i64 l.index, .int .i64 l.day]
theorem new_cell2 (w : World) (o : Obj) (cs : Array Value) (t : TypeId) (i : Nat) : ((w.alloc o).alloc (.cells cs t)).cell? ⟨w.heap.size + 1, i, none⟩ = cs[i]? := by
  have h := heap_alloc_new (w.alloc o) (.cells cs t)
  have e : (w.alloc o).heap.size = w.heap.size + 1 := by simp
  rw [e] at h
  simp only [World.cell?, h]
  rfl
set_option maxHeartbeats 1000000 in
theorem heads_any (l : LetD) (w : World) (A B : Option Addr) (n m c k : Nat) : Calls Tryz.prog 30 #[l.val (.slice A n c) (.slice B m k)] w fun e w' => e = .returned l.heads ∧ Below w.heap.size w w' := by
  obtain ⟨l0, l1, l2, l3, l4, l5, l6, l7, l8, l9, l10, l11, ld, l12⟩ := l
  simp only [LetD.val, LetD.heads]
  go_enter Tryz.func30, Tryz.ntmps30
  go_wp2
  refine bodyPost_ret (v := .agg #[.string l0, .string l1, .string l5, .string l6, .string l7]) (by simp [results, Tryz.results30, go_sem]) rfl ?_
  exact ⟨rfl, ((Below.refl _ _).alloc (Nat.le_refl _) _).alloc (by simp) _⟩
set_option maxHeartbeats 1000000 in
theorem nums_any (l : LetD) (w : World) (A B : Option Addr) (n m c k : Nat) : Calls Tryz.prog 31 #[l.val (.slice A n c) (.slice B m k)] w fun e w' => e = .returned l.nums ∧ Below w.heap.size w w' := by
  obtain ⟨l0, l1, l2, l3, l4, l5, l6, l7, l8, l9, l10, l11, ld, l12⟩ := l
  simp only [LetD.val, LetD.nums]
  go_enter Tryz.func31, Tryz.ntmps31
  go_wp2
  refine bodyPost_ret (v := .agg #[.int .i64 l2, .int .i64 l3, .int .i64 l4, .int .i64 l8, .int .i64 l9]) (by simp [results, Tryz.results31, go_sem]) rfl ?_
  exact ⟨rfl, ((Below.refl _ _).alloc (Nat.le_refl _) _).alloc (by simp) _⟩
end Go.Proofs.YtlffpelkmdcckaaGreatDoor
