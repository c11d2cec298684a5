/- Clones, and a kernel's filters: found, taken out. -/
import Derived.Test.YthlmfjfkkndboaaKd
import Derived.Test.YthlmfjfkkndboaaKe
import Derived.Test.YthlmfjfkkndboaaKf
import Derived.Test.YthlmfjfkkndboaaKg
namespace Go.Proofs.Ythlmfjfkkndboaa
open Go.RowKit Go.Shelf
set_option linter.unusedVariables false
set_option linter.unusedSimpArgs false
set_option maxRecDepth 100000

/-- A filter that is bound. -/
structure Bnd where
  id : Int
  env : Int
  A : Option Addr
  n : Nat
  c : Nat
  p : List FOp
def Bnd.vals (x : Bnd) : List Value := [.int .i64 x.id, .int .i64 x.env, .slice x.A x.n x.c]
theorem bvals_len (x : Bnd) : x.vals.length = 3 := rfl
theorem bvals_one (x : Bnd) : ∀ u ∈ x.vals, u.oneCell' = true := by intro u hu; simp [Bnd.vals] at hu; rcases hu with rfl | rfl | rfl <;> rfl
def bhit (a e : Int) (x : Bnd) : Bool := x.id == a && x.env == e
def bidx (fl : List Bnd) (a e : Int) : Int := match fl.findIdx? (bhit a e) with | none => -1 | some i => i
section
variable {R : Ending → World → Prop} {w : World}
set_option maxHeartbeats 1000000 in
theorem cloneop_any {A : Option Addr} {n c : Nat} {xs : List Value} (hr : Rd w [] A xs) (h1 : ∀ u ∈ xs, u.oneCell' = true) (hl : xs.length = n * 4) (hn : n ≤ 1000000) (hnil : A = none → n = 0 ∧ c = 0)
    (h : ∀ A' c' w', Kp [] w w' → Ow w' 172 4 A' n c' xs → Fresh w.heap.size A' → R (.returned (.slice A' n c')) w') :
    Calls Try.prog 101 #[.slice A n c] w R := by
  have H := Lib.hid h
  have HL := Lib.hid hl
  clear h hl
  cases A with
  | none =>
    obtain ⟨rfl, rfl⟩ := hnil rfl
    have hx : xs = [] := List.eq_nil_of_length_eq_zero (by simpa using HL.out)
    subst hx
    have hq := fun W => Lib.run_eql_slice_nil (P := Try.prog) W 76 172 none 0 0 0 0 Try.underlying76
    go_enter Try.func101, Try.ntmps101
    go_wp2
    exact H.out none 0 _ (Kp.refl _ _) Ow.nil (by simp [Fresh, bks])
  | some ad =>
    have hq := fun W => Lib.run_eql_slice_nil (P := Try.prog) W 76 172 (some ad) n c 0 0 Try.underlying76
    clear hnil
    go_enter Try.func101, Try.ntmps101
    go_wp2_with (at_builtin; refine wpList_app _ rfl (.tmp 5) (.tmp 6) _ rfl elt_op _ 0 0 [] rfl (Ow.lit w _ 4 #[] 0 (by decide) rfl) [] (some ad) n c xs rfl (hr.below (Kp.below_nil ((Kp.refl _ _).alloc _))) HL.out h1 (by omega) ?_; intro A' c' w' ho hk hA)
    have hz := hk.size
    simp at hz
    rcases hA with rfl | rfl
    · have hh := H.out _ c' w' (((Kp.refl [] w).alloc _).thn hk (by simp [bks])) (ho.cast (Nat.zero_add n) (List.nil_append xs)) (by simp [Fresh, bks])
      exact rcast hh (by simp)
    · have hh := H.out _ c' w' (((Kp.refl [] w).alloc _).thn hk (by simp [bks])) (ho.cast (Nat.zero_add n) (List.nil_append xs)) (by simp [Fresh, bks])
      exact rcast hh (by simp)
set_option maxHeartbeats 1000000 in
theorem clonepc_any {A : Option Addr} {n c : Nat} {xs : List Value} (hr : Rd w [] A xs) (h1 : ∀ u ∈ xs, u.oneCell' = true) (hl : xs.length = n * 3) (hn : n ≤ 1000000) (hnil : A = none → n = 0 ∧ c = 0)
    (h : ∀ A' c' w', Kp [] w w' → Ow w' 98 3 A' n c' xs → Fresh w.heap.size A' → R (.returned (.slice A' n c')) w') :
    Calls Try.prog 108 #[.slice A n c] w R := by
  have H := Lib.hid h
  have HL := Lib.hid hl
  clear h hl
  cases A with
  | none =>
    obtain ⟨rfl, rfl⟩ := hnil rfl
    have hx : xs = [] := List.eq_nil_of_length_eq_zero (by simpa using HL.out)
    subst hx
    have hq := fun W => Lib.run_eql_slice_nil (P := Try.prog) W 39 98 none 0 0 0 0 Try.underlying39
    go_enter Try.func108, Try.ntmps108
    go_wp2
    exact H.out none 0 _ (Kp.refl _ _) Ow.nil (by simp [Fresh, bks])
  | some ad =>
    have hq := fun W => Lib.run_eql_slice_nil (P := Try.prog) W 39 98 (some ad) n c 0 0 Try.underlying39
    clear hnil
    go_enter Try.func108, Try.ntmps108
    go_wp2_with (at_builtin; refine wpList_app _ rfl (.tmp 5) (.tmp 6) _ rfl elt_pc _ 0 0 [] rfl (Ow.lit w _ 3 #[] 0 (by decide) rfl) [] (some ad) n c xs rfl (hr.below (Kp.below_nil ((Kp.refl _ _).alloc _))) HL.out h1 (by omega) ?_; intro A' c' w' ho hk hA)
    have hz := hk.size
    simp at hz
    rcases hA with rfl | rfl
    · have hh := H.out _ c' w' (((Kp.refl [] w).alloc _).thn hk (by simp [bks])) (ho.cast (Nat.zero_add n) (List.nil_append xs)) (by simp [Fresh, bks])
      exact rcast hh (by simp)
    · have hh := H.out _ c' w' (((Kp.refl [] w).alloc _).thn hk (by simp [bks])) (ho.cast (Nat.zero_add n) (List.nil_append xs)) (by simp [Fresh, bks])
      exact rcast hh (by simp)
set_option maxHeartbeats 1000000 in
theorem unb1_any (id env a e : Int) (A : Option Addr) (n c cb : Nat) (c1 : w.cell? ⟨cb, 1, none⟩ = some (.int .i64 e)) (c2 : w.cell? ⟨cb, 2, none⟩ = some (.int .i64 a)) (h : ∀ w', Kp [] w w' → R (.returned (.bool (id == a && env == e))) w') :
    Calls Try.prog 103 #[.agg #[.int .i64 id, .int .i64 env, .slice A n c], .pointer (some ⟨cb, 0, none⟩)] w R := by
  have H := Lib.hid h
  have k1 := fun o => (Kp.refl [] w).alloc o
  have hlt := World.block_lt_of_cell? w _ c1
  have d1 : ∀ o, (w.alloc o).cell? ⟨cb, 1, none⟩ = some (.int .i64 e) := fun o => ((k1 o).cell hlt (by simp)).trans c1
  have d2 : ∀ o, (w.alloc o).cell? ⟨cb, 2, none⟩ = some (.int .i64 a) := fun o => ((k1 o).cell (p := ⟨cb, 2, none⟩) hlt (by simp)).trans c2
  clear h c1 c2
  cases hq : (id == a) with
  | false =>
    go_enter Try.func103, Try.ntmps103
    go_wp2
    exact rcast (H.out _ (k1 _)) (by simp [hq])
  | true =>
    go_enter Try.func103, Try.ntmps103
    go_wp2
    exact rcast (H.out _ (k1 _)) (by simp [hq])
set_option maxHeartbeats 1000000 in
theorem bidx_any {A : Option Addr} {n c cb : Nat} {fl : List Bnd} (hr : Rd w [] A (fl.flatMap Bnd.vals)) (hl : fl.length = n) (hn : n ≤ 1000000) (a e : Int) (c1 : w.cell? ⟨cb, 1, none⟩ = some (.int .i64 e)) (c2 : w.cell? ⟨cb, 2, none⟩ = some (.int .i64 a))
    (h : ∀ w', Kp [] w w' → R (.returned (.int .i64 (bidx fl a e))) w') :
    Calls Try.prog 102 #[.slice A n c, .func (.func 103) #[] #[.pointer (some ⟨cb, 0, none⟩)]] w R := by
  have H := Lib.hid h
  have HL := Lib.hid hl
  have HR := Lib.hid hr
  have hlt := World.block_lt_of_cell? w _ c1
  have HC : Hid (∀ w', Kp [] w w' → w'.cell? ⟨cb, 1, none⟩ = some (.int .i64 e) ∧ w'.cell? ⟨cb, 2, none⟩ = some (.int .i64 a)) := Lib.hid (fun w' k' => ⟨(k'.cell hlt (by simp)).trans c1, (k'.cell (p := ⟨cb, 2, none⟩) hlt (by simp)).trans c2⟩)
  have he : ∀ (args : Array Value) (w : World), (callFunc 103 args).run Try.prog w = .ok (.enter 103 args) w := enters_of Try.func103 (by kernel_rfl) rfl
  clear h hl hr c1 c2
  go_enter Try.func102, Try.ntmps102
  go_wp2
  go_loopw [8] (fun iv wr => ∃ k : Nat, k ≤ n ∧ iv = .int .i64 k ∧ Hid (Kp [] w wr) ∧ Hid (∀ j x, j < k → fl[j]? = some x → bhit a e x = false)) (fun iv _ => n - (intOf iv).toNat)
  case atStart => exact ⟨0, Nat.zero_le _, rfl, Lib.hid (Kp.refl _ _), Lib.hid (by omega)⟩
  case round =>
    obtain ⟨k, hk, rfl, kr, hgd⟩ := hrel
    by_cases hltk : k < n
    · obtain ⟨x, hx, hm⟩ := get_lt (l := fl) (k := k) (by have := HL.out; omega)
      obtain ⟨b, off, rfl, _, _, hc⟩ := rd_at (HR.out.kp kr.out (by simp)) bvals_len (by omega) hx
      have g0 := hc 0 _ rfl
      have g1 := hc 1 _ rfl
      have g2 := hc 2 _ rfl
      rw [Nat.add_zero] at g0
      have HX := Lib.hid hx
      clear hc hx
      cases hb : (x.id == a && x.env == e) with
      | false =>
        go_wp2_with (refine unb1_any x.id x.env a e x.A x.n x.c cb (HC.out _ kr.out).1 (HC.out _ kr.out).2 ?_; rw [hb]; intro w2 k2)
        exact ⟨⟨k + 1, by omega, by go_num, Lib.hid (kr.out.trans k2), Lib.hid (fun j y hj hy => by
          rcases Nat.lt_or_ge j k with h | h
          · exact hgd.out j y h hy
          · obtain rfl : j = k := by omega
            rw [HX.out] at hy; injection hy with hy; subst hy; exact hb)⟩, by simp [intOf]; omega⟩
      | true =>
        have hfi : fl.findIdx? (bhit a e) = some k := by
          rw [List.findIdx?_eq_some_iff_getElem]
          obtain ⟨hk', hxe⟩ := List.getElem?_eq_some_iff.1 HX.out
          refine ⟨hk', by rw [hxe]; exact hb, fun j hj => by
            have := hgd.out j (fl[j]'(by omega)) hj (List.getElem?_eq_getElem (by omega))
            simp [this]⟩
        have HH := Lib.hid (fun w' k' => rcast (H.out w' k') (congrArg (Value.int .i64) (show bidx fl a e = k by unfold bidx; rw [hfi])))
        clear H hfi
        go_wp2_with (refine unb1_any x.id x.env a e x.A x.n x.c cb (HC.out _ kr.out).1 (HC.out _ kr.out).2 ?_; rw [hb]; intro w2 k2)
        exact HH.out _ (kr.out.trans k2)
    · obtain rfl : k = n := by omega
      have hfi : fl.findIdx? (bhit a e) = none := by
        rw [List.findIdx?_eq_none_iff]
        intro x hx
        obtain ⟨j, hj⟩ := List.getElem?_of_mem hx
        exact hgd.out j x (by rw [← HL.out]; exact (List.getElem?_eq_some_iff.1 hj).1) hj
      have HH := Lib.hid (fun w' k' => rcast (H.out w' k') (congrArg (Value.int .i64) (show bidx fl a e = -1 by unfold bidx; rw [hfi])))
      clear H hfi
      go_wp2
      exact HH.out _ kr.out
end
end Go.Proofs.Ythlmfjfkkndboaa
