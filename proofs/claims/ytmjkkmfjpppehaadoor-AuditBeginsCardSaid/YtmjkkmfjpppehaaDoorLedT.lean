/- The ledger's data: accounts by name and currency, as entries of a map. -/
import Derived.Test.YtmjkkmfjpppehaaDoorRows
import Derived.Test.YtmjkkmfjpppehaaDoorTypes
import Derived.Test.YtmjkkmfjpppehaaDoorMaps
import Derived.DeepKeys4
import Derived.StringKeys
namespace Go.Proofs.YtmjkkmfjpppehaaDoor
open Go.RowKit Go.Sup Go.WideMaps Go.ChangeMaps
set_option maxRecDepth 100000
abbrev KeyD := ByteArray × ByteArray
structure AcctD where
  floor : Int
  bal : Int
  held : Int
structure HoldD where
  id : ByteArray
  account : ByteArray
  currency : ByteArray
  amount : Int
def encKey (k : KeyD) : Value := .agg #[.string k.1, .string k.2]
def encAcct (a : AcctD) : Value := .agg #[.int .i64 a.floor, .int .i64 a.bal, .int .i64 a.held]
def encHold (h : HoldD) : Value := .agg #[.string h.id, .string h.account, .string h.currency, .int .i64 h.amount]
def encInt (n : Int) : Value := .int .i64 n
def okKey (k : KeyD) : Prop := k.1.size ≤ maxLen ∧ k.2.size ≤ maxLen
def okStr (s : ByteArray) : Prop := s.size ≤ maxLen
theorem Tryd.laidOut : laidOutB Tryd.prog = true := by kernel_rfl
theorem keyT72 : Tryd.prog.keyType 72 = true := by kernel_rfl
theorem cells72 : Tryd.prog.cellsOf 72 = 2 := by kernel_rfl
theorem cells9 : Tryd.prog.cellsOf 9 = 1 := by kernel_rfl
theorem tsize : Tryd.prog.types.size = 178 := by kernel_rfl
theorem keyLits72 (d : Nat) (a b : ByteArray) (ha : a.size ≤ maxLen) (hb : b.size ≤ maxLen) : Tryd.prog.keyLits (d + 2) 72 [.string a, .string b] = some [.string a.data.toList, .string b.data.toList] := by
  have h0 : ∀ (s : ByteArray), s.size ≤ maxLen → Tryd.prog.keyLits (d + 1) 9 [.string s] = some [.string s.data.toList] := by
    intro s hs
    unfold Program.keyLits
    simp only [Tryd.underlying9, hs, if_true]
  unfold Program.keyLits
  simp only [Tryd.underlying72, cells72]
  simp [cells9, h0 a ha, h0 b hb]
theorem encKey_key : KeyEnc Tryd.prog 72 encKey okKey where
  keyed := Maps.Keyed.of_law (deep_law_laid Tryd.laidOut (m := 2) (by omega) (of_decide_eq_true (by kernel_rfl)) (by kernel_rfl) (by kernel_rfl))
  key x hx := by
    refine ⟨.string (keyBytes [.string x.1.data.toList, .string x.2.data.toList]), ?_⟩
    have h1 := hx.1
    have h2 := hx.2
    have h3 := keyLits72 177 x.1 x.2 h1 h2
    unfold keyOf
    simp only [Tryd.underlying72, encKey, keyT72, Value.formed, cells72, Value.cells, tsize]
    simp only [h3, Bool.true_and]
    rfl
  inj x y h := by
    simp [encKey] at h
    exact Prod.ext h.1 h.2
theorem encStr_key : KeyEnc Tryd.prog 9 Value.string okStr where
  keyed := Maps.string_keyed Tryd.underlying9
  key x hx := ⟨_, keyOf_string_mk Tryd.underlying9 hx⟩
  inj x y h := by injection h
end Go.Proofs.YtmjkkmfjpppehaaDoor
