/- Package gather over a table: Check, Hold, Fetch. gather.Check, met. gather.Hold over a table. -/
import Derived.Test.YtedblbpmlbjnhaaGreatPE13
import Derived.Test.YtedblbpmlbjnhaaGreatPE8
import Derived.Deep.RegionHeld3
namespace Go.Proofs.YtedblbpmlbjnhaaGreat
/-! ### Package gather over a table: Check, Hold, Fetch. -/
section
open Go.RowKit
set_option linter.unusedVariables false
set_option linter.unusedSimpArgs false
set_option maxRecDepth 100000

/-- A piece that a table hasn't. -/
def kbad (m : Nat) (p : Pc) : Bool := decide (p.n < 1) || !wB p || decide (p.f < 0 ∨ (m : Int) ≤ p.f)
def checkE (fs : List Fr) (env : Int) (l : List Pc) : Int :=
  if envB env = false ∨ l = [] then 1 else if l.any (kbad fs.length) then 1 else if 16 < l.length ∨ 1024 < psz l then 2 else if l.any (fun p => tOwner fs p.f != env) then 20 else 0
def fetF (fs : List Fr) (l : List Pc) : Int × List UInt8 :=
  if l.any (fun p => (tFetch fs p.f p.o p.n).1 != 0) then (1, []) else (0, l.flatMap fun p => (tFetch fs p.f p.o p.n).2)
def holdAll (fs : List Fr) (env : Int) (l : List Pc) : List Fr := l.foldl (fun fs p => (tHold fs env p.f).2) fs

section
variable {R : Ending → World → Prop} {bT bL : Nat} {fs : List Fr} {w : World}

theorem tFetch_len (hp : ∀ x ∈ fs, x.bs.length = 256) (f o n : Int) : (tFetch fs f o n).2.length ≤ 256 := by
  unfold tFetch
  split
  · split
    · simp
    · split
      · simp
      · rename_i x hx
        simp only [cutB, List.length_take, List.length_drop]
        have := hp x (List.mem_of_getElem? (fat_some hx).2)
        omega
  · simp

set_option maxHeartbeats 1000000 in
theorem gfetch_any (hT : Tab w bT bL fs) {N : List Nat} {A : Option Addr} {n c : Nat} {l : List Pc} (hr : Rd w N A (l.flatMap Pc.vals)) (hl : l.length = n) (hn : n ≤ 1000000)
    (h : ∀ e o A' c' w', Hid (fetF fs l = (e, o)) → Kp [] w w' → Ow w' 5 1 A' o.length c' (bts o) → (∀ b ∈ bks A', w.heap.size ≤ b) → R (.returned (.tuple #[.slice A' o.length c', .int .i64 e])) w') :
    Calls Tryz.prog 63 #[.pointer (some ⟨bT, 0, none⟩), .slice A n c] w R := by
  have H := Lib.hid h
  have HL := Lib.hid hl
  clear h hl
  go_enter Tryz.func63, Tryz.ntmps63
  go_wp2
  go_loopw [6, 15] (fun v i wr => ∃ (k : Nat) (o : List UInt8) (A' : Option Addr) (c' : Nat), k ≤ n ∧ i = .int .i64 k ∧ v = .slice A' o.length c' ∧ Kp [] w wr ∧ Ow wr 5 1 A' o.length c' (bts o) ∧ (∀ b ∈ bks A', w.heap.size ≤ b) ∧ o.length ≤ 256 * k ∧
    Hid ((l.take k).any (fun p => (tFetch fs p.f p.o p.n).1 != 0) = false ∧ ((l.take k).flatMap fun p => (tFetch fs p.f p.o p.n).2) = o)) (fun _ i _ => n - (intOf i).toNat)
  case atStart => exact ⟨0, [], none, 0, Nat.zero_le _, rfl, rfl, Kp.refl _ _, Ow.nil, by simp [bks], by simp, ⟨rfl, rfl⟩⟩
  case round =>
    obtain ⟨k, o, A', c', hk, rfl, rfl, kr, ho, hA, hol, hq⟩ := hrel
    by_cases hlt : k < n
    · obtain ⟨x, hx, hm⟩ := get_lt (l := l) (k := k) (by rw [HL.out]; exact hlt)
      obtain ⟨b, off, rfl, _, _, hc⟩ := rd_at (hr.kp kr (by simp)) pvals_len (by omega) hx
      have c0 := hc 0 _ rfl
      have c1 := hc 1 _ rfl
      have c2 := hc 2 _ rfl
      rw [Nat.add_zero] at c0
      have HX := Lib.hid hx
      have tr := fun o => hT.kp (kr.alloc o) (by simp) (by simp)
      have ko := fun o => kr.alloc o
      clear hc hx
      go_wp2_with (first | (go_at_call 123; refine fetch_any (tr _) _ _ _ (fun e l7 A7 c7 w7 q7 k7 o7 b7 => ?_); have hl7 : l7.length ≤ 256 := (congrArg (fun r => r.2.length ≤ 256) q7.out).mp (tFetch_len hT.pg x.f x.o x.n)) | (at_builtin; refine wpList_app _ rfl (.tmp 32) (.tmp 33) _ rfl elt_u8 A' o.length c' _ rfl ((ho.alloc _).kp k7 (by simp)) [] A7 l7.length c7 (bts l7) rfl (o7.rd (by simp)) (by simp [bts_len]) (bts_one _) ?_ ?_; rotate_left; intro A8 c8 w8 ho8 hk8 hA8))
      · have he : e ≠ 0 := by have : (e != 0) = true := by assumption
                              simpa using this
        have hf : fetF fs l = (1, []) := by
          unfold fetF
          rw [if_pos (List.any_eq_true.2 ⟨x, hm, by rw [q7.out]; simpa using he⟩)]
        exact H.out 1 [] none 0 _ hf ((ko _).trans k7) Ow.nil (by simp [bks])
      · have he : (e != 0) = false := by assumption
        obtain ⟨g1, g2⟩ := hq.out
        have hq7 := q7.out
        refine ⟨⟨k + 1, o ++ l7, A8, c8, by omega, by go_num, by rw [List.length_append], ((ko _).trans k7).thn hk8 (fun s hs => .inr (hA s hs)), ho8.cast (by simp) (by rw [bts_append]), bks_app hA8 hA (by have := (ko (Obj.cells #[] 0)).size; have := k7.size; have := kr.size; simp at *; omega), by simp; omega, Lib.hid ⟨?_, ?_⟩⟩, by simp [intOf]; omega⟩
        · rw [any_snoc_pc HX.out, g1, hq7]; simpa using he
        · rw [List.take_succ_eq_append_getElem (by rw [HL.out]; exact hlt), List.flatMap_append, g2]
          have e2 : l[k]'(by rw [HL.out]; exact hlt) = x := (List.getElem?_eq_some_iff.1 HX.out).2
          simp [e2, hq7]
      · omega
    · have e : l.take k = l := List.take_of_length_le (by have := HL.out; omega)
      obtain rfl : n = k := by omega
      rw [e] at hq
      clear e
      go_wp2
      exact H.out 0 o A' c' _ (by have := hq.out; simp only [Hid, fetF, this.1, this.2]; simp) kr ho hA

theorem tOwner_range {p : Pc} (h : kbad fs.length p = false) : 1 ≤ p.n ∧ wB p = true ∧ 0 ≤ p.f ∧ p.f < fs.length := by
  simp only [kbad, Bool.or_eq_false_iff, decide_eq_false_iff_not, Bool.not_eq_false'] at h
  obtain ⟨⟨h1, h2⟩, h3⟩ := h
  exact ⟨by omega, h2, by omega, by omega⟩
end
end
/-! ### gather.Check, met. -/
section
open Go.RowKit
set_option linter.unusedVariables false
set_option linter.unusedSimpArgs false
set_option maxRecDepth 100000
section
variable {R : Ending → World → Prop} {bT bL : Nat} {fs : List Fr} {w : World}

set_option maxHeartbeats 2000000 in
theorem check_any (hT : Tab w bT bL fs) (env : Int) {N : List Nat} {A : Option Addr} {n c : Nat} {l : List Pc} (hr : Rd w N A (l.flatMap Pc.vals)) (hl : l.length = n) (hn : n ≤ 1000000) (hok : ∀ p ∈ l, p.ok)
    (h : ∀ w', Kp [] w w' → R (.returned (.int .i64 (checkE fs env l))) w') :
    Calls Tryz.prog 145 #[.pointer (some ⟨bT, 0, none⟩), .int .i64 env, .slice A n c] w R := by
  have H := Lib.hid h
  have HL := Lib.hid hl
  clear h hl
  have hn1 := hT.n1
  by_cases h1 : envB env = false ∨ l = []
  · have e : checkE fs env l = 1 := by simp [checkE, h1]
    rw [e] at H
    have h2 : (¬ env = 1 ∧ ¬ env = 2) ∨ (env = 1 ∧ n = 0) ∨ (env = 2 ∧ n = 0) := by
      by_cases h3 : env = 1 ∨ env = 2
      · have h4 : n = 0 := by
          rcases h1 with h1 | h1
          · simp [envB] at h1; omega
          · have := HL.out; simp [h1] at this; omega
        omega
      · omega
    clear h1
    have h4 : ((env != 1) = true ∧ (env != 2) = true) ∨ ((env != 1) = false ∧ (env != 2) = true ∧ ((n : Int) == 0) = true) ∨ ((env != 1) = true ∧ (env != 2) = false ∧ ((n : Int) == 0) = true) := by
      rcases h2 with ⟨h2, h3⟩ | ⟨h2, h3⟩ | ⟨h2, h3⟩ <;> simp [h2, h3]
    clear h2
    rcases h4 with ⟨h2, h3⟩ | ⟨h2, h3, h4⟩ | ⟨h2, h3, h4⟩
    all_goals
      go_enter Tryz.func145, Tryz.ntmps145
      go_wp2
      exact H.out _ (Kp.refl _ _)
  · have h2 : env = 1 ∨ env = 2 := by
      have : envB env = true := by simpa using fun h => h1 (.inl h)
      simp [envB] at this; omega
    have h3 : 0 < n := by
      rcases Nat.eq_zero_or_pos n with h | h
      · exfalso; apply h1; right; apply List.eq_nil_of_length_eq_zero; rw [HL.out, h]
      · exact h
    have HE := Lib.hid (show checkE fs env l = if l.any (kbad fs.length) then 1 else if 16 < l.length ∨ 1024 < psz l then 2 else if l.any (fun p => tOwner fs p.f != env) then 20 else 0 by rw [checkE, if_neg h1])
    clear h1
    have h2b : ((env != 1) = false ∧ (env != 2) = true) ∨ ((env != 1) = true ∧ (env != 2) = false) := by
      rcases h2 with rfl | rfl <;> simp
    have h3b : ((n : Int) == 0) = false := by simp; omega
    clear h2
    rcases h2b with ⟨e1, e2⟩ | ⟨e1, e2⟩
    all_goals
      go_enter Tryz.func145, Tryz.ntmps145
      go_wp2
      go_loopw [26] (fun i wr => ∃ (k : Nat), k ≤ n ∧ i = .int .i64 k ∧ Kp [] w wr ∧ Hid ((l.take k).any (kbad fs.length) = false)) (fun i _ => n - (intOf i).toNat)
      case atStart => exact ⟨0, Nat.zero_le _, rfl, Kp.refl _ _, rfl⟩
      case round =>
        obtain ⟨k, hk, rfl, kr, hq⟩ := hrel
        by_cases hlt : k < n
        · obtain ⟨x, hx, hm⟩ := get_lt (l := l) (k := k) (by rw [HL.out]; exact hlt)
          obtain ⟨b, off, rfl, _, _, hc⟩ := rd_at (hr.kp kr (by simp)) pvals_len (by omega) hx
          have c0 := hc 0 _ rfl
          have c1 := hc 1 _ rfl
          have c2 := hc 2 _ rfl
          rw [Nat.add_zero] at c0
          have HX := Lib.hid hx
          have tr := fun o => hT.kp (kr.alloc o) (by simp) (by simp)
          have ko := fun o => kr.alloc o
          have hx1 := hok x hm
          have hbad : kbad fs.length x = true → checkE fs env l = 1 := fun hb => by rw [HE.out, if_pos (List.any_eq_true.2 ⟨x, hm, hb⟩)]
          have HB := Lib.hid hbad
          have hany := any_snoc_pc (p := kbad fs.length) HX.out
          rw [hq.out, Bool.false_or] at hany
          have HA := Lib.hid hany
          clear hc hx hbad hany
          have hcase : decide (x.n < 1) = true ∨ (decide (x.n < 1) = false ∧ wB x = false) ∨ (decide (x.n < 1) = false ∧ wB x = true ∧ decide (x.f < 0) = true) ∨ (decide (x.n < 1) = false ∧ wB x = true ∧ decide (x.f < 0) = false ∧ decide ((fs.length : Int) ≤ x.f) = true) ∨
              (decide (x.n < 1) = false ∧ wB x = true ∧ decide (x.f < 0) = false ∧ decide ((fs.length : Int) ≤ x.f) = false) := by
            cases decide (x.n < 1) <;> cases wB x <;> cases decide (x.f < 0) <;> cases decide ((fs.length : Int) ≤ x.f) <;> simp
          have e0 : (wr.alloc (Obj.cells #[Value.int .i64 x.f, .int .i64 x.o, .int .i64 x.n] 187)).cell? ⟨wr.heap.size, 0, none⟩ = some (.int .i64 x.f) := by simp
          have e1 : (wr.alloc (Obj.cells #[Value.int .i64 x.f, .int .i64 x.o, .int .i64 x.n] 187)).cell? ⟨wr.heap.size, 1, none⟩ = some (.int .i64 x.o) := by simp
          have e2 : (wr.alloc (Obj.cells #[Value.int .i64 x.f, .int .i64 x.o, .int .i64 x.n] 187)).cell? ⟨wr.heap.size, 2, none⟩ = some (.int .i64 x.n) := by simp
          have hlt2 : wr.heap.size < (wr.alloc (Obj.cells #[Value.int .i64 x.f, .int .i64 x.o, .int .i64 x.n] 187)).heap.size := by simp
          rcases hcase with d1 | ⟨d1, d2⟩ | ⟨d1, d2, d3⟩ | ⟨d1, d2, d3, d4⟩ | ⟨d1, d2, d3, d4⟩
          · go_wp2_with fail
            go_quiet (fail)
            go_wp2
            exact ricast (H.out _ ((ko _).drewN _)) (HB.out (by simp [kbad, d1]))
          · go_wp2_with fail
            have kw := ko (Obj.cells #[Value.int .i64 x.f, .int .i64 x.o, .int .i64 x.n] 187)
            generalize wr.alloc (Obj.cells #[Value.int .i64 x.f, .int .i64 x.o, .int .i64 x.n] 187) = wa at *
            refine wp_region_kp (by kernel_rfl) (by kernel_rfl) ?_
            repeat (quiet_step ((first | (go_at_call 152; refine within_any x hx1 (fun w3 k3 => ?_); rw [d2]; exact kpx_mk k3) | (go_at_call 67; refine size_any (hT.kp ((kw.thn (kpw_kp _ _) (by simp))) (by simp) (by simp)) ?_; exact ⟨rfl, _, rfl⟩))))
            refine wpQuiet_nil ?_
            intro w4 k4
            go_wp2
            exact ricast (H.out _ (kw.thn k4 (by simp))) (HB.out (by simp [kbad, d1, d2]))
          · go_wp2_with fail
            have kw := ko (Obj.cells #[Value.int .i64 x.f, .int .i64 x.o, .int .i64 x.n] 187)
            generalize wr.alloc (Obj.cells #[Value.int .i64 x.f, .int .i64 x.o, .int .i64 x.n] 187) = wa at *
            refine wp_region_kp (by kernel_rfl) (by kernel_rfl) ?_
            repeat (quiet_step ((first | (go_at_call 152; refine within_any x hx1 (fun w3 k3 => ?_); rw [d2]; exact kpx_mk k3) | (go_at_call 67; refine size_any (hT.kp ((kw.thn (kpw_kp _ _) (by simp))) (by simp) (by simp)) ?_; exact ⟨rfl, _, rfl⟩))))
            refine wpQuiet_nil ?_
            intro w4 k4
            go_wp2
            exact ricast (H.out _ (kw.thn k4 (by simp))) (HB.out (by simp [kbad, d1, d2]; simpa using Or.inl d3))
          · go_wp2_with fail
            have kw := ko (Obj.cells #[Value.int .i64 x.f, .int .i64 x.o, .int .i64 x.n] 187)
            generalize wr.alloc (Obj.cells #[Value.int .i64 x.f, .int .i64 x.o, .int .i64 x.n] 187) = wa at *
            refine wp_region_kp (by kernel_rfl) (by kernel_rfl) ?_
            repeat (quiet_step ((first | (go_at_call 152; refine within_any x hx1 (fun w3 k3 => ?_); rw [d2]; exact kpx_mk k3) | (go_at_call 67; refine size_any (hT.kp ((kw.thn (kpw_kp _ _) (by simp))) (by simp) (by simp)) ?_; exact ⟨rfl, _, rfl⟩))))
            refine wpQuiet_nil ?_
            intro w4 k4
            go_wp2
            exact ricast (H.out _ (kw.thn k4 (by simp))) (HB.out (by simp [kbad, d1, d2]; simpa using Or.inr d4))
          · go_wp2_with fail
            have kw := ko (Obj.cells #[Value.int .i64 x.f, .int .i64 x.o, .int .i64 x.n] 187)
            generalize wr.alloc (Obj.cells #[Value.int .i64 x.f, .int .i64 x.o, .int .i64 x.n] 187) = wa at *
            refine wp_region_kp (by kernel_rfl) (by kernel_rfl) ?_
            repeat (quiet_step ((first | (go_at_call 152; refine within_any x hx1 (fun w3 k3 => ?_); rw [d2]; exact kpx_mk k3) | (go_at_call 67; refine size_any (hT.kp ((kw.thn (kpw_kp _ _) (by simp))) (by simp) (by simp)) ?_; exact ⟨rfl, _, rfl⟩))))
            refine wpQuiet_nil ?_
            intro w4 k4
            go_wp2
            exact ⟨⟨k + 1, by omega, by go_num, kw.thn k4 (by simp), by have := HA.out; simp only [Hid]; rw [this]; simp [kbad, d1, d2]; simp at d3 d4; omega⟩, by simp [intOf]; omega⟩
        · have e : l.take k = l := List.take_of_length_le (by have := HL.out; omega)
          obtain rfl : n = k := by omega
          rw [e] at hq
          have HE2 := HE.out
          rw [hq.out] at HE2
          simp only [Bool.false_eq_true, if_false] at HE2
          have HE3 := Lib.hid HE2
          clear e HE2
          have hz := psz_bd l
          have hcase : decide ((16 : Int) < n) = true ∨ (decide ((16 : Int) < n) = false ∧ decide (1024 < psz l) = true) ∨ (decide ((16 : Int) < n) = false ∧ decide (1024 < psz l) = false) := by
            cases decide ((16 : Int) < n) <;> cases decide (1024 < psz l) <;> simp
          rcases hcase with d1 | ⟨d1, d2⟩ | ⟨d1, d2⟩
          · go_wp2
            exact ricast (H.out _ kr) (by rw [HE3.out, if_pos]; left; have := HL.out; simp at d1; omega)
          · go_wp2_with (go_at_call 153; refine gsize_any (hr.kp kr (by simp)) HL.out hn hok (fun w5 k5 => ?_))
            exact ricast (H.out _ (kr.thn k5 (by simp))) (by rw [HE3.out, if_pos]; right; simpa using d2)
          · have HE4 : checkE fs env l = if l.any (fun p => tOwner fs p.f != env) then 20 else 0 := by
              rw [HE3.out, if_neg]; have := HL.out; simp at d1 d2; omega
            have HE5 := Lib.hid HE4
            clear HE4
            go_wp2_with (go_at_call 153; refine gsize_any (hr.kp kr (by simp)) HL.out hn hok (fun w5 k5 => ?_))
            have kr5 := kr.thn k5 (by simp)
            clear k5 kr hq
            go_loopw [61] (fun i wr => ∃ (k : Nat), k ≤ n ∧ i = .int .i64 k ∧ Kp [] w wr ∧ Hid ((l.take k).any (fun p => tOwner fs p.f != env) = false)) (fun i _ => n - (intOf i).toNat)
            case atStart => exact ⟨0, Nat.zero_le _, rfl, kr5, rfl⟩
            case round =>
              obtain ⟨k, hk, rfl, kr, hq⟩ := hrel
              by_cases hlt : k < n
              · obtain ⟨x, hx, hm⟩ := get_lt (l := l) (k := k) (by rw [HL.out]; exact hlt)
                obtain ⟨b, off, rfl, _, _, hc⟩ := rd_at (hr.kp kr (by simp)) pvals_len (by omega) hx
                have c0 := hc 0 _ rfl
                have c1 := hc 1 _ rfl
                have c2 := hc 2 _ rfl
                rw [Nat.add_zero] at c0
                have HX := Lib.hid hx
                have tr := fun o => hT.kp (kr.alloc o) (by simp) (by simp)
                have ko := fun o => kr.alloc o
                have hany := any_snoc_pc (p := fun p : Pc => tOwner fs p.f != env) HX.out
                rw [hq.out, Bool.false_or] at hany
                have HA := Lib.hid hany
                clear hc hx hany
                go_wp2_with (go_at_call 70; refine owner_any (tr _) _ (fun n7 q7 => ?_))
                · have he : (n7 != env) = true := by assumption
                  exact ricast (H.out _ (ko _)) (by rw [HE5.out, if_pos]; exact List.any_eq_true.2 ⟨x, hm, by show (tOwner fs x.f != env) = true; rw [q7.out]; exact he⟩)
                · have he : (n7 != env) = false := by assumption
                  exact ⟨⟨k + 1, by omega, by go_num, ko _, by have := HA.out; simp only [Hid]; rw [this, q7.out]; exact he⟩, by simp [intOf]; omega⟩
              · have e : l.take k = l := List.take_of_length_le (by have := HL.out; omega)
                obtain rfl : n = k := by omega
                rw [e] at hq
                clear e
                go_wp2
                exact ricast (H.out _ kr) (by rw [HE5.out, hq.out]; rfl)
end
end
/-! ### gather.Hold over a table. -/
section
open Go.RowKit
set_option linter.unusedVariables false
set_option linter.unusedSimpArgs false
set_option maxRecDepth 100000
section
variable {R : Ending → World → Prop} {bT bL : Nat} {fs : List Fr} {w : World}

def hoB (fs : List Fr) (hi : Int) : Prop := ∀ y ∈ fs, -1000000 ≤ y.ho ∧ y.ho ≤ hi
theorem tHold_hoB {hi : Int} (h : hoB fs hi) (who f : Int) : hoB (tHold fs who f).2 (hi + 1) := by
  unfold tHold
  split
  · split
    · intro y hy; have := h y hy; omega
    · rename_i x hx
      intro y hy
      rcases mem_set hy with rfl | hy
      · have := h x (List.mem_of_getElem? (fat_some hx).2); simp only; omega
      · have := h y hy; omega
  · intro y hy; have := h y hy; omega
theorem hoB_at {hi : Int} (h : hoB fs hi) (hh : hi ≤ 1000000000) (f : Int) : ∀ x, fat fs f = some x → -1000000000 ≤ x.ho ∧ x.ho ≤ 1000000000 := fun x hx => by
  have := h x (List.mem_of_getElem? (fat_some hx).2); omega

set_option maxHeartbeats 1000000 in
theorem ghold_any (hT : Tab w bT bL fs) (env : Int) {N : List Nat} {A : Option Addr} {n c : Nat} {l : List Pc} (hr : Rd w N A (l.flatMap Pc.vals)) (hN : ∀ s ∈ [bL], s ∈ N ∨ w.heap.size ≤ s) (hl : l.length = n) (hn : n ≤ 1000000) (hok : ∀ p ∈ l, p.ok) (hb : hoB fs 1000000)
    (h : ∀ fs' w', Hid ((checkE fs env l, fs') = (checkE fs env l, if checkE fs env l = 0 then holdAll fs env l else fs)) → Kp [bL] w w' → Tab w' bT bL fs' → R (.returned (.int .i64 (checkE fs env l))) w') :
    Calls Tryz.prog 103 #[.pointer (some ⟨bT, 0, none⟩), .int .i64 env, .slice A n c] w R := by
  have H := Lib.hid h
  have HL := Lib.hid hl
  have HO := Lib.hid hok
  have HN := Lib.hid hN
  have HB := Lib.hid hb
  clear h hl hok hN hb
  generalize hce : checkE fs env l = ce at H
  have HCE := Lib.hid hce
  clear hce
  have hcase : (ce != 0) = true ∨ (ce != 0) = false := by cases (ce != 0) <;> simp
  rcases hcase with d1 | d1
  · go_enter Tryz.func103, Tryz.ntmps103
    go_wp2_with (go_at_call 145; refine check_any hT env hr HL.out hn HO.out (fun w1 k1 => ?_); rw [HCE.out])
    exact H.out fs _ (by simp only [Hid]; rw [if_neg (by simpa using d1)]) (k1.mono (by simp)) (hT.kp k1 (by simp) (by simp))
  · go_enter Tryz.func103, Tryz.ntmps103
    go_wp2_with (go_at_call 145; refine check_any hT env hr HL.out hn HO.out (fun w1 k1 => ?_); rw [HCE.out])
    obtain rfl : ce = 0 := by simpa using d1
    clear d1
    have t1 := hT.kp k1 (by simp) (by simp)
    have kk1 : Kp [bL] w w1 := k1.mono (by simp)
    clear k1
    go_loopw [19] (fun i wr => ∃ (k : Nat) (fr : List Fr), k ≤ n ∧ i = .int .i64 k ∧ Kp [bL] w wr ∧ Tab wr bT bL fr ∧ Hid (fr = holdAll fs env (l.take k) ∧ hoB fr (1000000 + k))) (fun i _ => n - (intOf i).toNat)
    case atStart => exact ⟨0, fs, Nat.zero_le _, rfl, kk1, t1, rfl, by simpa using HB.out⟩
    case round =>
      obtain ⟨k, fr, hk, rfl, kr, tr, hq⟩ := hrel
      by_cases hlt : k < n
      · obtain ⟨x, hx, hm⟩ := get_lt (l := l) (k := k) (by rw [HL.out]; exact hlt)
        obtain ⟨b, off, rfl, _, _, hc⟩ := rd_at (hr.kp kr HN.out) pvals_len (by omega) hx
        have c0 := hc 0 _ rfl
        have c1 := hc 1 _ rfl
        have c2 := hc 2 _ rfl
        rw [Nat.add_zero] at c0
        have HX := Lib.hid hx
        have ta := fun o => tr.kp ((Kp.refl [] wr).alloc o) (by simp) (by simp)
        have ko := fun o => kr.alloc o
        clear hc hx
        go_wp2_with (go_at_call 125; refine hold_any (ta _) _ _ (hoB_at hq.out.2 (by omega) _) (fun e7 f7 w7 q7 k7 t7 => ?_))
        refine ⟨⟨k + 1, f7, by omega, by go_num, (ko _).thn k7 (fun s hs => .inl hs), t7, Lib.hid ⟨?_, ?_⟩⟩, by simp [intOf]; omega⟩
        · have := foldl_snoc (f := fun fs (p : Pc) => (tHold fs env p.f).2) (b := fs) HX.out
          unfold holdAll
          rw [this]
          show f7 = (tHold (holdAll fs env (l.take k)) env x.f).2
          rw [← hq.out.1, q7.out]
        · have := tHold_hoB hq.out.2 env x.f
          rw [q7.out] at this
          have e : (1000000 : Int) + k + 1 = 1000000 + ((k + 1 : Nat) : Int) := by omega
          rw [← e]; exact this
      · have e : l.take k = l := List.take_of_length_le (by have := HL.out; omega)
        obtain rfl : n = k := by omega
        rw [e] at hq
        clear e
        go_wp2
        exact H.out fr _ (by simp only [Hid]; rw [hq.out.1]; simp) kr tr
end
end
end Go.Proofs.YtedblbpmlbjnhaaGreat
