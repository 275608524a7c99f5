/- The data of the ledger's posts, as rows of cells; what of them a bank moved (plain). -/
import Derived.Test.YtmjkkmfjpppehaaDoorMem
namespace Go.Proofs.YtmjkkmfjpppehaaDoor
open Go.RowKit Go.Sup
structure EntryD where
  account : ByteArray
  currency : ByteArray
  amount : Int
def EntryD.row (e : EntryD) : List Value := [.string e.account, .string e.currency, .int .i64 e.amount]
structure PostD where
  number : Int
  text : ByteArray
  entries : List EntryD
structure MoneyD where
  currency : ByteArray
  amount : Int
def MoneyD.row (m : MoneyD) : List Value := [.string m.currency, .int .i64 m.amount]
def PostD.Row (w : World) (B : Nat) (p : PostD) (r : List Value) : Prop := ∃ v, r = [.int .i64 p.number, .string p.text, v] ∧ SlC w B 3 (p.entries.map EntryD.row) v
def PostsAt (w : World) (B : Nat) (ps : List PostD) (v : Value) : Prop := ∃ rows, All2 (PostD.Row w B) ps rows ∧ SlC w B 3 rows v

/-- of one entry -/
def mvE (acc : ByteArray) (sg : Int) (e : EntryD) : List MoneyD := if e.account = acc ∧ 0 < e.amount * sg then [⟨e.currency, e.amount * sg⟩] else []
def mvEs (acc : ByteArray) (sg : Int) (l : List EntryD) : List MoneyD := l.flatMap (mvE acc sg)
def mv (acc : ByteArray) (sg : Int) (ps : List PostD) : List MoneyD := ps.flatMap fun p => mvEs acc sg p.entries
theorem mvEs_snoc (acc : ByteArray) (sg : Int) {l : List EntryD} {m : Nat} {e : EntryD} (h : l[m]? = some e) : mvEs acc sg (l.take (m + 1)) = mvEs acc sg (l.take m) ++ mvE acc sg e := by
  rw [List.take_add_one, h]; simp [mvEs]
theorem mv_snoc (acc : ByteArray) (sg : Int) {l : List PostD} {k : Nat} {p : PostD} (h : l[k]? = some p) : mv acc sg (l.take (k + 1)) = mv acc sg (l.take k) ++ mvEs acc sg p.entries := by
  rw [List.take_add_one, h]; simp [mv]
theorem mvE_len (acc : ByteArray) (sg : Int) (e : EntryD) : (mvE acc sg e).length ≤ 1 := by unfold mvE; split <;> simp
theorem mvEs_len (acc : ByteArray) (sg : Int) : ∀ l : List EntryD, (mvEs acc sg l).length ≤ l.length
  | [] => by simp [mvEs]
  | e :: l => by have h1 := mvEs_len acc sg l; have h2 := mvE_len acc sg e; simp only [mvEs, List.flatMap_cons, List.length_append, List.length_cons] at *; omega
theorem mv_len (acc : ByteArray) (sg : Int) : ∀ (ps : List PostD) (k m : Nat), (mv acc sg (ps.take k)).length + (mvEs acc sg ((ps[k]?.elim [] PostD.entries).take m)).length ≤ (ps.map fun p => p.entries.length).sum
  | [], k, m => by simp [mv, mvEs]
  | p :: ps, 0, m => by
    have h1 := mvEs_len acc sg (p.entries.take m)
    have h2 := List.length_take_le m p.entries
    simp [mv] at *; omega
  | p :: ps, k + 1, m => by
    have h1 := mv_len acc sg ps k m
    have h2 := mvEs_len acc sg p.entries
    simp [mv] at *; omega

theorem PostD.Row.below {w w' : World} {B : Nat} {p : PostD} {r : List Value} (h : PostD.Row w B p r) (hb : Below B w w') : PostD.Row w' B p r := by
  obtain ⟨v, e, hs⟩ := h
  exact ⟨v, e, hs.below hb⟩
theorem PostD.Row.more {w : World} {B B' : Nat} {p : PostD} {r : List Value} (h : PostD.Row w B p r) (hB : B ≤ B') : PostD.Row w B' p r := by
  obtain ⟨v, e, hs⟩ := h
  exact ⟨v, e, hs.more hB⟩
theorem PostsAt.below {w w' : World} {B : Nat} {ps : List PostD} {v : Value} (h : PostsAt w B ps v) (hb : Below B w w') : PostsAt w' B ps v := by
  obtain ⟨rows, h1, h2⟩ := h
  exact ⟨rows, h1.imp fun _ _ h => h.below hb, h2.below hb⟩
theorem PostsAt.more {w : World} {B B' : Nat} {ps : List PostD} {v : Value} (h : PostsAt w B ps v) (hB : B ≤ B') : PostsAt w B' ps v := by
  obtain ⟨rows, h1, h2⟩ := h
  exact ⟨rows, h1.imp fun _ _ h => h.more hB, h2.more hB⟩
theorem EntryD.rows_len (l : List EntryD) : ∀ r ∈ l.map EntryD.row, r.length = 3 := by
  intro r hr
  obtain ⟨e, _, rfl⟩ := List.mem_map.1 hr
  rfl
theorem EntryD.rows_one (l : List EntryD) : ∀ r ∈ l.map EntryD.row, ∀ u ∈ r, u.oneCell' = true := by
  intro r hr u hu
  obtain ⟨e, _, rfl⟩ := List.mem_map.1 hr
  simp [EntryD.row] at hu
  rcases hu with rfl | rfl | rfl <;> rfl
end Go.Proofs.YtmjkkmfjpppehaaDoor
