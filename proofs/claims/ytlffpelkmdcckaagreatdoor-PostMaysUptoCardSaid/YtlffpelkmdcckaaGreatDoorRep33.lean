/- Replacer.Replace, given what the table's own Replace does. -/
import Derived.Test.YtlffpelkmdcckaaGreatDoorNewR
namespace Go.Proofs.YtlffpelkmdcckaaGreatDoor
open Go Go.RowKit Go.Sup
set_option maxRecDepth 100000
set_option maxHeartbeats 800000 in
theorem rep33_any (w : World) (b o c : Nat) (H : RepCells w b o c) (ho : OnceNew w b) (hob : o ≠ b) (s : ByteArray) (r : ByteArray)
    (hR : ∀ (W : World) t g10 c10 g92 c92 tv Z, TabAt w.heap.size t W g10 c10 g92 c92 tv Z → Calls Tryz.prog 225 #[.pointer (some ⟨t, 0, none⟩), .string s] W fun e w' => e = .returned (.string r) ∧ Below W.heap.size W w') :
    Calls Tryz.prog 111 #[.pointer (some ⟨b, 0, none⟩), .string s] w fun e w' => e = .returned (.string r) ∧ w.heap.size ≤ w'.heap.size ∧ (∀ j, j < w.heap.size → j ≠ b → w'.heap[j]? = w.heap[j]?) ∧ w'.os = w.os ∧ w'.tape = w.tape ∧ w'.output = w.output := by
  have HR := Lib.hid hR
  clear hR
  have hmf : ∀ (fn : Fn) (first cap : Array Value) (w : World), (Instr.makeFunc fn first cap).run Tryz.prog w = .ok (.func fn first cap) w := fun _ _ _ _ => rfl
  have hbl := lt_of_cell H.h4
  have hset : ∀ j, j ≠ b → (w.setCell ⟨b, 1, none⟩ (.int .i32 1)).heap[j]? = w.heap[j]? := fun j hj => heap_set_ne _ hj
  have ne : ∀ i j : Nat, i ≠ j → (⟨b, i, none⟩ : Addr) ≠ ⟨b, j, none⟩ := fun i j h e => by injection e; contradiction
  have cb : ∀ i, i ≠ 1 → (w.setCell ⟨b, 1, none⟩ (.int .i32 1)).cell? ⟨b, i, none⟩ = w.cell? ⟨b, i, none⟩ := fun i hi => World.cell?_setCell_other _ _ _ _ (ne 1 i (Ne.symm hi))
  have co : ∀ i, (w.setCell ⟨b, 1, none⟩ (.int .i32 1)).cell? ⟨o, i, none⟩ = w.cell? ⟨o, i, none⟩ := fun i => World.cell?_of_block (hset o hob)
  have HC : RepCells (w.setCell ⟨b, 1, none⟩ (.int .i32 1)) b o c := ⟨by obtain ⟨v, hv⟩ := H.h3; exact ⟨v, (cb 3 (by decide)).trans hv⟩, (cb 4 (by decide)).trans H.h4, fun i => by simp [H.fz i], H.lo, H.hi, (co 0).trans H.s0, (co 1).trans H.s1, (co 2).trans H.s2, (co 3).trans H.s3⟩
  have HD := Lib.hid (do_first b w ho (Built (w.setCell ⟨b, 1, none⟩ (.int .i32 1)) b) ((buildOnce_any _ b o c HC).mono (by
    rintro e w' ⟨rfl, hB, h3, hf⟩
    exact ⟨rfl, hB, (h3 0 (by decide)).trans ((cb 0 (by decide)).trans ho.h0), (h3 1 (by decide)).trans (World.cell?_setCell_same _ _ _ ho.h1), hf 0, hf 1⟩)))
  clear H ho HC hset ne cb co
  go_enter Tryz.func111, Tryz.ntmps111
  go_wp2_with fail
  refine HD.out.mono ?_
  rintro e w1 ⟨rfl, w2, ⟨t, g10, c10, g92, c92, tv, Z, hc3, hT, hsz, hold, h1, h2, h3⟩, rfl⟩
  have ne : ∀ i j : Nat, i ≠ j → (⟨b, i, none⟩ : Addr) ≠ ⟨b, j, none⟩ := fun i j h e => by injection e; contradiction
  have hs3 : ∀ j, j ≠ b → ((w2.drew.setCell ⟨b, 0, none⟩ (.int .u32 1)).setCell ⟨b, 1, none⟩ (.int .i32 0)).heap[j]? = w2.heap[j]? := fun j hj => (heap_set_ne _ hj).trans (heap_set_ne _ hj)
  have hz3 : ((w2.drew.setCell ⟨b, 0, none⟩ (.int .u32 1)).setCell ⟨b, 1, none⟩ (.int .i32 0)).heap.size = w2.heap.size := by simp [World.setCell]
  have hz1 : (w.setCell ⟨b, 1, none⟩ (.int .i32 1)).heap.size = w.heap.size := by simp [World.setCell]
  rw [hz1] at hT hsz hold
  have k3 : ((w2.drew.setCell ⟨b, 0, none⟩ (.int .u32 1)).setCell ⟨b, 1, none⟩ (.int .i32 0)).cell? ⟨b, 3, none⟩ = some (.iface 229 (.pointer (some ⟨t, 0, none⟩))) := by
    rw [World.cell?_setCell_other _ _ _ _ (ne 1 3 (by decide)), World.cell?_setCell_other _ _ _ _ (ne 0 3 (by decide))]
    exact hc3
  obtain ⟨w3, hw3⟩ : ∃ w3, w3 = (w2.drew.setCell ⟨b, 0, none⟩ (.int .u32 1)).setCell ⟨b, 1, none⟩ (.int .i32 0) := ⟨_, rfl⟩
  rw [← hw3] at hs3 hz3 k3 ⊢
  have HT : Hid (TabAt w.heap.size t w3 g10 c10 g92 c92 tv Z) := hT.keep (by rw [hz3]; exact Nat.le_refl _) (fun j hj _ => hs3 j (by omega))
  have HO : Hid ((∀ j, j < w.heap.size → j ≠ b → w3.heap[j]? = w.heap[j]?) ∧ w.heap.size ≤ w3.heap.size ∧ w3.os = w.os ∧ w3.tape = w.tape ∧ w3.output = w.output) := by
    refine ⟨fun j hj hjb => (hs3 j hjb).trans ((hold j hj hjb).trans (heap_set_ne _ hjb)), by rw [hz3]; exact hsz, ?_, ?_, ?_⟩
    · rw [hw3]; exact h1
    · rw [hw3]; exact h2
    · rw [hw3]; exact h3
  clear hs3 hz3 hw3 hT hold h1 h2 h3 hc3 hz1 hsz ne
  go_wp2_with fail
  refine (HR.out w3 t g10 c10 g92 c92 tv Z HT.out).mono ?_
  rintro e w4 ⟨rfl, hb4⟩
  have Hb4 := Lib.hid hb4
  clear hb4
  go_wp2
  go_ret
  obtain ⟨o1, o2, o3, o4, o5⟩ := HO.out
  exact ⟨rfl, Nat.le_trans o2 Hb4.out.size, fun j hj hjb => (Hb4.out.block j (by omega)).trans (o1 j hj hjb), Hb4.out.os.trans o3, Hb4.out.tape.trans o4, Hb4.out.output.trans o5⟩
end Go.Proofs.YtlffpelkmdcckaaGreatDoor
