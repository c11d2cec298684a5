/- KernSends in plain words: what departs is what was written. -/
import Derived.Test.YtogipajanbgenaaKt
import Derived.Test.YtogipajanbgenaaKr
import Derived.Test.YtogipajanbgenaaGather2
namespace Go.Proofs.Ytogipajanbgenaa
open Go.RowKit Go.Shelf
set_option linter.unusedVariables false
set_option linter.unusedSimpArgs false
set_option maxRecDepth 100000

def fs1 : List Fr := [⟨1, 0, z256⟩, fz, fz, fz]
theorem tAlloc_first : tAlloc (List.replicate 4 fz) 1 = (0, 0, fs1) := by kernel_rfl
theorem tWrite_first {off n : Nat} {s : List UInt8} (hs : s.length = n) (h : off + n ≤ 256) : tWrite fs1 1 0 off s = (0, [⟨1, 0, putB z256 off s⟩, fz, fz, fz]) := by
  have h1 : ownE fs1 1 0 = 0 := by kernel_rfl
  have h2 : spanB off s.length = true := by simp [spanB, hs]; omega
  have h3 : fat fs1 0 = some ⟨1, 0, z256⟩ := by kernel_rfl
  unfold tWrite
  rw [if_pos h1, if_neg (by simp [h2]), h3]
  simp [fs1]
def pcS (off n : Nat) : Pc := ⟨0, off, n⟩
theorem send_check {P : List UInt8} {off n : Nat} (h1 : 1 ≤ n) (h : off + n ≤ 256) : checkE [⟨1, 0, P⟩, fz, fz, fz] 1 [pcS off n] = 0 := by
  have hk : kbad 4 (pcS off n) = false := by
    have a1 : ¬ ((n : Int) < 1) := by omega
    have a2 : (0 : Int) ≤ off ∧ (0 : Int) ≤ n ∧ (off : Int) + n ≤ 256 := by omega
    show (decide ((n : Int) < 1) || !decide ((0 : Int) ≤ off ∧ (0 : Int) ≤ n ∧ (off : Int) + n ≤ 256) || decide ((0 : Int) < 0 ∨ ((4 : Nat) : Int) ≤ 0)) = false
    rw [decide_eq_false a1, decide_eq_true a2]; rfl
  have hp : psz [pcS off n] = n := by simp [psz, pszF, pcS]; omega
  unfold checkE
  rw [if_neg (by simp [envB]), if_neg (by simp [hk]), if_neg (by rw [hp]; simp only [List.length_singleton]; omega), if_neg (by simp [tOwner, fat, pcS])]
theorem send_held {P : List UInt8} {off n : Nat} : heldAs (holdAll [⟨1, 0, P⟩, fz, fz, fz] 1 [pcS off n]) 0 1 P := by
  refine ⟨⟨1, 1, P⟩, ?_, rfl, by simp, rfl⟩
  simp [holdAll, tHold, ownE, envB, fat, pcS]
theorem cut_put {off n : Nat} {s : List UInt8} (hs : s.length = n) (h : off + n ≤ 256) : cutB (putB z256 off s) off n = s := by
  have hz := z256_len
  unfold cutB putB
  simp only [Int.toNat_natCast]
  rw [List.append_assoc, List.drop_append_of_le_length (by simp [hz]; omega), List.drop_of_length_le (by simp; omega), List.nil_append, List.take_append_of_le_length (by omega), List.take_of_length_le (by omega)]
theorem held_fetch {fs : List Fr} {off n : Nat} {s : List UInt8} (hh : heldAs fs 0 1 (putB z256 off s)) (hs : s.length = n) (h : off + n ≤ 256) : fetF fs [pcS off n] = (0, s) := by
  obtain ⟨x, hx, h1, h2, h3⟩ := hh
  have hf : fat fs 0 = some x := by simp [fat, hx]
  have he : heldE fs 0 = 0 := by unfold heldE; rw [hf]; simp; omega
  have hp : spanB off n = true := by simp [spanB]; omega
  have ht : tFetch fs 0 off n = (0, s) := by
    unfold tFetch
    rw [if_pos he, if_neg (by simp [hp]), hf]
    simp only
    rw [h3, cut_put hs h]
  simp [fetF, pcS, ht]
theorem held_drop {fs : List Fr} {off n : Nat} {P : List UInt8} (hh : heldAs fs 0 1 P) : dropOk fs [pcS off n] := by
  obtain ⟨x, hx, h1, h2, h3⟩ := hh
  have hf : fat fs 0 = some x := by simp [fat, hx]
  have he : heldE fs 0 = 0 := by unfold heldE; rw [hf]; simp; omega
  refine ⟨?_, trivial⟩
  unfold tDrop pcS
  rw [if_pos he, hf]
/-- What holds of the kernel all along. -/
structure SInv (m : Nat) (P : List UInt8) (off n : Nat) (k : KS) : Prop where
  h : heldAs k.fs 0 1 P
  q : ∃ y r, k.qo = y :: r ∧ y.env = 1 ∧ y.l = [pcS off n]
  c : k.cnt m
theorem SInv.step {m : Nat} {P : List UInt8} {off n : Nat} {k k' : KS} {x : Kc} {n1 e : Int} {l : List UInt8} (h : SInv m P off n k) (hs : kStep k x n1 l e k') (hq : k.qo.length ≤ 16) : SInv (m + 1) P off n k' := by
  obtain ⟨h1, r, hr⟩ := kStep_held hs h.h (by decide)
  obtain ⟨y, r0, hy, e1, e2⟩ := h.q
  exact ⟨h1, ⟨y, r0 ++ r, by rw [hr, hy]; rfl, e1, e2⟩, kStep_cnt hs h.c hq⟩
theorem SInv.tells {m : Nat} {P : List UInt8} {off n : Nat} {k : KS} (h : SInv m P off n k) : 1 ≤ tHolds k.fs 0 ∧ tOwner k.fs 0 = 1 := by
  obtain ⟨x, hx, h1, h2, h3⟩ := h.h
  have hf : fat k.fs 0 = some x := by simp [fat, hx]
  unfold tHolds tOwner
  rw [hf]
  exact ⟨h2, h1⟩
theorem kz0_cnt (F N : Nat) (hF : 1 ≤ F) : (kz0 F N).cnt 0 := ⟨by simp [kz0, dz], by simp [kz0], by simp [kz0], by simp [kz0], by simp [kz0], by simp [kz0], by simp [kz0], fun y hy => by
  simp only [kz0] at hy
  rw [List.eq_of_mem_replicate hy]; simp [fz]⟩
end Go.Proofs.Ytogipajanbgenaa
