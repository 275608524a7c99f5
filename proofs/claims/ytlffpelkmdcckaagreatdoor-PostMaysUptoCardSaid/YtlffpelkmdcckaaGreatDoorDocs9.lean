/- 09: rows of papers in memory; slices.EqualFunc at papers. -/
import Derived.Test.YtlffpelkmdcckaaGreatDoorEqualS
import Derived.Test.YtlffpelkmdcckaaGreatDoorSame
namespace Go.Proofs.YtlffpelkmdcckaaGreatDoor
open Go Go.RowKit Go.Sup
set_option maxRecDepth 100000
/-- A paper's four cells. -/
def drow (d : DocD) (fv : Value) : List Value := [.int .i64 d.kind, .string d.number, .string d.issuer, fv]
/-- A slice of papers. -/
def DocsC (w : World) (B : Nat) (ds : List DocD) (v : Value) : Prop :=
  ∃ fvs : List Value, All2 (fun d fv => SlC w B 2 (d.fields.map frow) fv) ds fvs ∧ SlC w B 4 (List.zipWith drow ds fvs) v
theorem drow_len {ds : List DocD} {fvs : List Value} : ∀ r ∈ List.zipWith drow ds fvs, r.length = 4 := by
  intro r hr
  rw [List.mem_iff_getElem?] at hr
  obtain ⟨k, hk⟩ := hr
  rw [List.getElem?_zipWith] at hk
  cases h1 : ds[k]? with
  | none => rw [h1] at hk; simp at hk
  | some d =>
    cases h2 : fvs[k]? with
    | none => rw [h1, h2] at hk; simp at hk
    | some f => rw [h1, h2] at hk; simp at hk; rw [← hk]; rfl
section
variable {w w' : World} {B B' : Nat} {ds : List DocD} {v : Value}
theorem DocsC.rows_len {fvs : List Value} {R : DocD → Value → Prop} (h : All2 R ds fvs) : (List.zipWith drow ds fvs).length = ds.length := by
  rw [List.length_zipWith, ← h.len, Nat.min_self]
theorem DocsC.form (h : DocsC w B ds v) : ∃ A c, v = .slice A ds.length c ∧ ds.length ≤ c ∧ c ≤ maxLen := by
  obtain ⟨fvs, ha, A, c, e, h1, h2, _⟩ := h
  rw [DocsC.rows_len ha] at e h1
  exact ⟨A, c, e, h1, h2⟩
theorem DocsC.keep (h : DocsC w B ds v) (hk : ∀ p : Addr, p.block < B → w'.cell? p = w.cell? p) : DocsC w' B ds v := by
  obtain ⟨fvs, ha, hs⟩ := h
  exact ⟨fvs, ha.imp fun d fv x => x.keep hk, hs.keep hk⟩
theorem DocsC.more (h : DocsC w B ds v) (hB : B ≤ B') : DocsC w B' ds v := by
  obtain ⟨fvs, ha, hs⟩ := h
  exact ⟨fvs, ha.imp fun d fv x => x.more hB, hs.more hB⟩
theorem DocsC.below (h : DocsC w B ds v) (hb : Below B w w') : DocsC w' B ds v := h.keep fun _ hp => hb.cell hp
theorem DocsC.drewN (h : DocsC w B ds v) (k : Nat) : DocsC (w.drewN k) B ds v := h
theorem DocsC.drew (h : DocsC w B ds v) : DocsC w.drew B ds v := h
theorem DocsC.alloc (h : DocsC w B ds v) (hB : B ≤ w.heap.size) (o : Obj) : DocsC (w.alloc o) B ds v := h.keep fun p hp => World.cell?_alloc_lt w o p (by omega)
theorem DocsC.nil_ (w : World) (B : Nat) : DocsC w B [] (.slice none 0 0) := ⟨[], trivial, SlC.nil_ _ _ _⟩
/-- Paper k: its cells. -/
theorem doc_at {A : Option Addr} {n c k : Nat} {d : DocD} (h : DocsC w B ds (.slice A n c)) (hk : ds[k]? = some d) :
    ∃ b off fv, A = some ⟨b, off, none⟩ ∧ b < B ∧ SlC w B 2 (d.fields.map frow) fv ∧ w.cell? ⟨b, off + k * 4, none⟩ = some (.int .i64 d.kind) ∧ w.cell? ⟨b, off + k * 4 + 1, none⟩ = some (.string d.number) ∧ w.cell? ⟨b, off + k * 4 + 2, none⟩ = some (.string d.issuer) ∧ w.cell? ⟨b, off + k * 4 + 3, none⟩ = some fv := by
  obtain ⟨fvs, ha, hs⟩ := h
  obtain ⟨fv, hf, hfs⟩ := ha.at_ hk
  obtain ⟨b, off, e, hb, hc⟩ := SlC.at_ hs (k := k) (r := drow d fv) (by rw [List.getElem?_zipWith, hk, hf])
  exact ⟨b, off, fv, e, hb, hfs, by simpa using hc 0 _ rfl, hc 1 _ rfl, hc 2 _ rfl, hc 3 _ rfl⟩
end
theorem docEq_iff {a b : DocD} : docEq a b = true ↔ a = b := by
  obtain ⟨k1, n1, i1, l1⟩ := a
  obtain ⟨k2, n2, i2, l2⟩ := b
  unfold docEq frowsEq
  simp
instance decDoc : DecidableEq DocD := fun a b => if h : docEq a b = true then .isTrue (docEq_iff.1 h) else .isFalse fun e => h (docEq_iff.2 e)
def docsEq (l m : List DocD) : Bool := decide (l = m)
theorem docsEq_len {l m : List DocD} (h : l.length ≠ m.length) : docsEq l m = false := by
  unfold docsEq; simp; intro e; exact h (by rw [e])
theorem docsEq_at {l m : List DocD} {k : Nat} (h1 : k < l.length) (h2 : k < m.length) (h : l[k] ≠ m[k]) : docsEq l m = false := by
  unfold docsEq; simp; intro e; subst e; exact h rfl
theorem docsEq_all {l m : List DocD} (hl : l.length = m.length) (h : l.take l.length = m.take l.length) : docsEq l m = true := by
  unfold docsEq
  rw [List.take_length, hl, List.take_length] at h
  simp [h]
end Go.Proofs.YtlffpelkmdcckaaGreatDoor
