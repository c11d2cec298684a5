/- Strings as lists of bytes: the walk's words for a string that is written 'S l'. -/
import Derived.Test.YtnpkfhnhcadgeaaDoorBase
import Derived.Test.YtnpkfhnhcadgeaaDoorRows
namespace Go.Proofs.YtnpkfhnhcadgeaaDoor
open Go.RowKit
set_option linter.unusedVariables false

/-- The string of these bytes. -/
def S (l : List UInt8) : ByteArray := ⟨l.toArray⟩
theorem S_eta (s : ByteArray) : s = S s.data.toList := by cases s; simp [S]
@[go_sem] theorem S_size (l : List UInt8) : (S l).size = l.length := by simp [S, ByteArray.size]
@[go_sem] theorem S_data (l : List UInt8) : (S l).data.toList = l := by simp [S]
@[go_sem] theorem S_toList (l : List UInt8) : (S l).toList = l := by rw [ByteArray.toList_eq, S_data]
@[go_sem] theorem S_get (l : List UInt8) (i : Nat) (h : i < (S l).size) : (S l)[i]'h = l[i]'(by rwa [S_size] at h) := by
  show (S l).data[i]'_ = _
  simp [S]
@[go_sem] theorem S_extract (l : List UInt8) (a b : Nat) : (S l).extract a b = S ((l.take b).drop a) := by
  have h := ByteArray.extract_mk l a b
  unfold S
  rw [h, List.drop_take]
@[go_sem] theorem lit_extract (l : List UInt8) (a b : Nat) : (⟨l.toArray⟩ : ByteArray).extract a b = S ((l.take b).drop a) := S_extract l a b
@[go_sem] theorem S_append (a b : List UInt8) : S a ++ S b = S (a ++ b) := by
  have : (S a ++ S b).data.toList = a ++ b := by
    simp [S]
  rw [S_eta (S a ++ S b), this]
@[go_sem] theorem S_append_lit (a b : List UInt8) : S a ++ (⟨b.toArray⟩ : ByteArray) = S (a ++ b) := S_append a b
@[go_sem] theorem lit_append_S (a b : List UInt8) : (⟨a.toArray⟩ : ByteArray) ++ S b = S (a ++ b) := S_append a b
@[go_sem] theorem lit_get (l : List UInt8) (i : Nat) (h : i < (⟨l.toArray⟩ : ByteArray).size) : (⟨l.toArray⟩ : ByteArray)[i]'h = l[i]'(by simpa [ByteArray.size] using h) := S_get l i h
theorem u8_beq (x c : UInt8) : ((x.toNat : Int) == (c.toNat : Int)) = (x == c) := by
  rw [Bool.eq_iff_iff, beq_iff_eq, beq_iff_eq]
  exact ⟨fun h => UInt8.toNat_inj.1 (by omega), fun h => by rw [h]⟩
theorem u8_bne (x c : UInt8) : ((x.toNat : Int) != (c.toNat : Int)) = (x != c) := by
  unfold bne; rw [u8_beq]
theorem S_inj {a b : List UInt8} (h : S a = S b) : a = b := by rw [← S_data a, h, S_data]
end Go.Proofs.YtnpkfhnhcadgeaaDoor
