/- Posts of two entries, one against the other. -/
import Derived.Test.YtmjkkmfjpppehaaDoorPost
namespace Go.Proofs.YtmjkkmfjpppehaaDoor
open Go.RowKit Go.Sup
set_option maxRecDepth 100000
def pair (k1 k2 cur : ByteArray) (n : Int) : List EntryD := [⟨k1, cur, n⟩, ⟨k2, cur, -n⟩]
theorem pair_ch {k1 k2 cur : ByteArray} {n : Int} (h : k1 ≠ k2) : chL (pair k1 k2 cur n) = [((k1, cur), n), ((k2, cur), -n)] := by
  simp [chL, pair, chStep, EntryD.key, putL, getL, h]
theorem pair_sums {k1 k2 cur : ByteArray} {n : Int} : sumsL (pair k1 k2 cur n) = [(cur, 0)] := by
  simp [sumsL, pair, sumStep, putL, getL]; omega
theorem pair_fine {L : LG} {text k1 k2 cur : ByteArray} {n : Int} (ht : text.size ≤ 4096) (hr : L.posts.length < 4096) {s1 s2 : AcctD} (h1 : getL L.accts (k1, cur) = some s1) (h2 : getL L.accts (k2, cur) = some s2) (ok1 : okKey (k1, cur)) (ok2 : okKey (k2, cur))
    (a1 : -1099511627776 ≤ n) (a2 : n ≤ 1099511627776) : Fine L text (pair k1 k2 cur n) where
  text := ht
  one := by simp [pair]
  few := by simp [pair]
  room := hr
  known := by
    intro e he
    simp [pair] at he
    rcases he with rfl | rfl
    · exact ⟨_, h1⟩
    · exact ⟨_, h2⟩
  small := by
    intro e he
    simp [pair] at he
    rcases he with rfl | rfl
    · exact ⟨ok1, a1, a2⟩
    · exact ⟨ok2, by show _ ≤ -n; omega, by show -n ≤ _; omega⟩
  zero := by
    intro p hp
    rw [pair_sums] at hp
    simp at hp
    rw [hp]
/-- What an account bears, a change n. -/
def Bear (s : AcctD) (n : Int) : Prop := -4398046511104 ≤ s.bal ∧ s.bal + n ≤ 1099511627776 ∧ -4398046511104 ≤ s.floor ∧ s.floor ≤ 4398046511104 ∧ 0 ≤ s.held ∧ s.held ≤ 4398046511104 ∧ s.bal ≤ 4398046511104 ∧ (n < 0 → -n ≤ s.bal - s.held - s.floor)
theorem pair_bears {L : LG} {k1 k2 cur : ByteArray} {n : Int} (h : k1 ≠ k2) {s1 s2 : AcctD} (h1 : getL L.accts (k1, cur) = some s1) (h2 : getL L.accts (k2, cur) = some s2) (b1 : Bear s1 n) (b2 : Bear s2 (-n)) : Bears L (pair k1 k2 cur n) := by
  intro p hp
  rw [pair_ch h] at hp
  simp at hp
  rcases hp with rfl | rfl
  · exact ⟨s1, h1, b1⟩
  · exact ⟨s2, h2, b2⟩
end Go.Proofs.YtmjkkmfjpppehaaDoor
