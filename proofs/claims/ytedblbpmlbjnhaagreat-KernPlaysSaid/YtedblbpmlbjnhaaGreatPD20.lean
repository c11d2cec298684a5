/- pantlerlaw08: alive, GatherSizes. Package gather over a table: Check, Hold, Fetch. -/
import Derived.Test.YtedblbpmlbjnhaaGreatPD7
import Derived.Test.YtedblbpmlbjnhaaGreatPD12
import Derived.Deep.RegionHeld3
namespace Go.Proofs.YtedblbpmlbjnhaaGreat
/-! ### pantlerlaw08: alive, GatherSizes. -/
section
open Go.RowKit
set_option linter.unusedVariables false
set_option linter.unusedSimpArgs false
set_option maxRecDepth 100000

/-! ### sizes of cuts -/
def psum (l : List Pc) : Int := (l.map (·.n)).sum
/-- A piece of a piece. -/
def Sub (p q : Pc) : Prop := q.f = p.f ∧ 0 ≤ p.f ∧ p.f ≤ 256 ∧ p.o ≤ q.o ∧ q.o + q.n ≤ p.o + p.n ∧ 0 < q.n ∧ 0 ≤ p.o ∧ p.o + p.n ≤ 256
theorem Sub.ok {p q : Pc} (h : Sub p q) : q.ok := by
  obtain ⟨h1, h2, h3, h4, h5, h6, h7, h8⟩ := h
  unfold Pc.ok; omega
section
variable {R : Ending → World → Prop} {w : World}
end
end
/-! ### Package gather over a table: Check, Hold, Fetch. -/
section
open Go.RowKit
set_option linter.unusedVariables false
set_option linter.unusedSimpArgs false
set_option maxRecDepth 100000

/-- A piece that a table hasn't. -/
def kbad (m : Nat) (p : Pc) : Bool := decide (p.n < 1) || !wB p || decide (p.f < 0 ∨ (m : Int) ≤ p.f)
def checkE (fs : List Fr) (env : Int) (l : List Pc) : Int :=
  if envB env = false ∨ l = [] then 1 else if l.any (kbad fs.length) then 1 else if 16 < l.length ∨ 1024 < psz l then 2 else if l.any (fun p => tOwner fs p.f != env) then 20 else 0
def fetF (fs : List Fr) (l : List Pc) : Int × List UInt8 :=
  if l.any (fun p => (tFetch fs p.f p.o p.n).1 != 0) then (1, []) else (0, l.flatMap fun p => (tFetch fs p.f p.o p.n).2)
def holdAll (fs : List Fr) (env : Int) (l : List Pc) : List Fr := l.foldl (fun fs p => (tHold fs env p.f).2) fs

section
variable {R : Ending → World → Prop} {bT bL : Nat} {fs : List Fr} {w : World}

theorem tFetch_len (hp : ∀ x ∈ fs, x.bs.length = 256) (f o n : Int) : (tFetch fs f o n).2.length ≤ 256 := by
  unfold tFetch
  split
  · split
    · simp
    · split
      · simp
      · rename_i x hx
        simp only [cutB, List.length_take, List.length_drop]
        have := hp x (List.mem_of_getElem? (fat_some hx).2)
        omega
  · simp

set_option maxHeartbeats 1000000 in
theorem gfetch_any (hT : Tab w bT bL fs) {N : List Nat} {A : Option Addr} {n c : Nat} {l : List Pc} (hr : Rd w N A (l.flatMap Pc.vals)) (hl : l.length = n) (hn : n ≤ 1000000)
    (h : ∀ e o A' c' w', Hid (fetF fs l = (e, o)) → Kp [] w w' → Ow w' 5 1 A' o.length c' (bts o) → (∀ b ∈ bks A', w.heap.size ≤ b) → R (.returned (.tuple #[.slice A' o.length c', .int .i64 e])) w') :
    Calls Tryz.prog 63 #[.pointer (some ⟨bT, 0, none⟩), .slice A n c] w R := by
  have H := Lib.hid h
  have HL := Lib.hid hl
  clear h hl
  go_enter Tryz.func63, Tryz.ntmps63
  go_wp2
  go_loopw [6, 15] (fun v i wr => ∃ (k : Nat) (o : List UInt8) (A' : Option Addr) (c' : Nat), k ≤ n ∧ i = .int .i64 k ∧ v = .slice A' o.length c' ∧ Kp [] w wr ∧ Ow wr 5 1 A' o.length c' (bts o) ∧ (∀ b ∈ bks A', w.heap.size ≤ b) ∧ o.length ≤ 256 * k ∧
    Hid ((l.take k).any (fun p => (tFetch fs p.f p.o p.n).1 != 0) = false ∧ ((l.take k).flatMap fun p => (tFetch fs p.f p.o p.n).2) = o)) (fun _ i _ => n - (intOf i).toNat)
  case atStart => exact ⟨0, [], none, 0, Nat.zero_le _, rfl, rfl, Kp.refl _ _, Ow.nil, by simp [bks], by simp, ⟨rfl, rfl⟩⟩
  case round =>
    obtain ⟨k, o, A', c', hk, rfl, rfl, kr, ho, hA, hol, hq⟩ := hrel
    by_cases hlt : k < n
    · obtain ⟨x, hx, hm⟩ := get_lt (l := l) (k := k) (by rw [HL.out]; exact hlt)
      obtain ⟨b, off, rfl, _, _, hc⟩ := rd_at (hr.kp kr (by simp)) pvals_len (by omega) hx
      have c0 := hc 0 _ rfl
      have c1 := hc 1 _ rfl
      have c2 := hc 2 _ rfl
      rw [Nat.add_zero] at c0
      have HX := Lib.hid hx
      have tr := fun o => hT.kp (kr.alloc o) (by simp) (by simp)
      have ko := fun o => kr.alloc o
      clear hc hx
      go_wp2_with (first | (go_at_call 123; refine fetch_any (tr _) _ _ _ (fun e l7 A7 c7 w7 q7 k7 o7 b7 => ?_); have hl7 : l7.length ≤ 256 := (congrArg (fun r => r.2.length ≤ 256) q7.out).mp (tFetch_len hT.pg x.f x.o x.n)) | (at_builtin; refine wpList_app _ rfl (.tmp 32) (.tmp 33) _ rfl elt_u8 A' o.length c' _ rfl ((ho.alloc _).kp k7 (by simp)) [] A7 l7.length c7 (bts l7) rfl (o7.rd (by simp)) (by simp [bts_len]) (bts_one _) ?_ ?_; rotate_left; intro A8 c8 w8 ho8 hk8 hA8))
      · have he : e ≠ 0 := by have : (e != 0) = true := by assumption
                              simpa using this
        have hf : fetF fs l = (1, []) := by
          unfold fetF
          rw [if_pos (List.any_eq_true.2 ⟨x, hm, by rw [q7.out]; simpa using he⟩)]
        exact H.out 1 [] none 0 _ hf ((ko _).trans k7) Ow.nil (by simp [bks])
      · have he : (e != 0) = false := by assumption
        obtain ⟨g1, g2⟩ := hq.out
        have hq7 := q7.out
        refine ⟨⟨k + 1, o ++ l7, A8, c8, by omega, by go_num, by rw [List.length_append], ((ko _).trans k7).thn hk8 (fun s hs => .inr (hA s hs)), ho8.cast (by simp) (by rw [bts_append]), bks_app hA8 hA (by have := (ko (Obj.cells #[] 0)).size; have := k7.size; have := kr.size; simp at *; omega), by simp; omega, Lib.hid ⟨?_, ?_⟩⟩, by simp [intOf]; omega⟩
        · rw [any_snoc_pc HX.out, g1, hq7]; simpa using he
        · rw [List.take_succ_eq_append_getElem (by rw [HL.out]; exact hlt), List.flatMap_append, g2]
          have e2 : l[k]'(by rw [HL.out]; exact hlt) = x := (List.getElem?_eq_some_iff.1 HX.out).2
          simp [e2, hq7]
      · omega
    · have e : l.take k = l := List.take_of_length_le (by have := HL.out; omega)
      obtain rfl : n = k := by omega
      rw [e] at hq
      clear e
      go_wp2
      exact H.out 0 o A' c' _ (by have := hq.out; simp only [Hid, fetF, this.1, this.2]; simp) kr ho hA

theorem tOwner_range {p : Pc} (h : kbad fs.length p = false) : 1 ≤ p.n ∧ wB p = true ∧ 0 ≤ p.f ∧ p.f < fs.length := by
  simp only [kbad, Bool.or_eq_false_iff, decide_eq_false_iff_not, Bool.not_eq_false'] at h
  obtain ⟨⟨h1, h2⟩, h3⟩ := h
  exact ⟨by omega, h2, by omega, by omega⟩
end
end
end Go.Proofs.YtedblbpmlbjnhaaGreat
