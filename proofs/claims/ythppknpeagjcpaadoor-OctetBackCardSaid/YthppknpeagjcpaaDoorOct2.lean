/- Addresses: how they are told, and read. -/
import Derived.Test.YthppknpeagjcpaaDoorOct1
import Derived.Test.YthppknpeagjcpaaDoorShelfI
import Derived.Lib.SmallJoins
import Derived.Laws.BitsAllLaws
namespace Go.Proofs.YthppknpeagjcpaaDoor
open Go.RowKit Go.Shelf
set_option linter.unusedVariables false
set_option linter.unusedSimpArgs false
set_option maxRecDepth 100000

/-- strconv's table lies as its text lays it. -/
def Pw (w : World) : Prop := Lib.TabIs Tryd.prog w "internal/strconv.uint64pow10" .u64 Lib.pow10Tab
theorem Pw.kp {w w' : World} (h : Pw w) (hk : Kp [] w w') : Pw w' :=
  Go.Joins.tab_stays (g := 3) (by kernel_rfl) h hk.below_nil (Nat.le_refl _)
structure Lw (w : World) : Prop where
  ml : Ml w
  pw : Pw w
theorem Lw.kp {w w' : World} (h : Lw w) (hk : Kp [] w w') : Lw w' := ⟨h.ml.kp hk, h.pw.kp hk⟩
theorem Kp.grow {S : List Nat} {a w : World} (h : Kp S a w) (os : Array Obj) : Kp S a (Go.Sort.grow w os) :=
  ⟨h.os, h.tape, h.output, by show a.heap.size ≤ (w.heap ++ os).size; rw [Array.size_append]; have := h.size; omega, fun k hk hn => by
    show (w.heap ++ os)[k]? = _
    rw [Array.getElem?_append_left (by have := h.size; omega)]; exact h.block k hk hn⟩
def chD (k : Nat) : UInt8 := UInt8.ofNat (48 + k)
/-- The digits of a number below 1000. -/
def d3 (n : Nat) : List UInt8 := if n < 10 then [chD n] else if n < 100 then [chD (n / 10), chD (n % 10)] else [chD (n / 100), chD (n / 10 % 10), chD (n % 10)]
theorem dec_d3 (n : Nat) (h : n < 1000) : Lib.decDigits n = d3 n := by
  unfold d3 chD
  by_cases h1 : n < 10
  · rw [if_pos h1, Lib.decDigits, dif_pos h1]
  · rw [if_neg h1, Lib.decDigits, dif_neg h1]
    by_cases h2 : n < 100
    · rw [if_pos h2, Lib.decDigits, dif_pos (by omega)]; rfl
    · rw [if_neg h2, Lib.decDigits, dif_neg (by omega), Lib.decDigits, dif_pos (by omega)]
      simp only [List.cons_append, List.nil_append]
      rw [show n / 10 / 10 = n / 100 by omega]
theorem itoa_any {R : Ending → World → Prop} (n : Nat) (w : World) (hn : n < 256) (hw : Lw w) (h : ∀ w', Kp [] w w' → R (.returned (.string (S (d3 n)))) w') : Calls Tryd.prog 66 #[.int .i64 n] w R := by
  refine (Tryd.strconv_Itoa n (by omega) (by omega) w hw.pw).mono fun e w' ⟨he, k, os, hw'⟩ => ?_
  have e1 : Lib.itoa (n : Int) = d3 n := by
    unfold Lib.itoa
    rw [if_neg (by omega), Int.toNat_natCast, dec_d3 n (by omega)]
  rw [e1] at he
  subst he; subst hw'
  exact h _ (((Kp.refl _ _).drewN _).grow _)
theorem itoa_int {R : Ending → World → Prop} (v : Int) (n : Nat) (w : World) (hv : v = n) (hn : n < 256) (hw : Lw w) (h : ∀ w', Kp [] w w' → R (.returned (.string (S (d3 n)))) w') : Calls Tryd.prog 66 #[.int .i64 v] w R := by
  subst hv; exact itoa_any n w hn hw h
theorem and255 (x : Nat) (hx : x < 4294967296) : bits .and .u32 (x : Int) 255 = ((x % 256 : Nat) : Int) := by
  have h := u32_and_nat x 255 hx (by decide)
  have e : x &&& 255 = x % 256 := Nat.and_two_pow_sub_one_eq_mod x 8
  rw [← e]; exact h
theorem ipv (x : Nat) (y : Int) (hy : y = x) (hx : x < 4294967296) : wrap64 (bits .and .u32 y 255) = ((x % 256 : Nat) : Int) := by
  subst hy
  rw [and255 x hx]
  simp only [wrap64]; omega
theorem elt_str : Elt Tryd.prog 71 9 (.string ByteArray.empty) 1 16 := ⟨Tryd.underlying71, by kernel_rfl, rfl, by decide, by decide⟩
theorem strs_one (ps : List (List UInt8)) : ∀ u ∈ strs ps, u.oneCell' = true := by
  intro u hu; simp only [strs, List.mem_map] at hu; obtain ⟨c, _, rfl⟩ := hu; rfl
theorem strs_append (a b : List (List UInt8)) : strs (a ++ b) = strs a ++ strs b := by simp [strs]
theorem join_any {R : Ending → World → Prop} {w : World} {A : Option Addr} {n c : Nat} (ps : List (List UInt8)) (x : UInt8) (ho : Ow w 9 1 A n c (strs ps)) (hn : 0 < n) (hc : n ≤ 1000) (hlen : (Lib.join ps [x]).length ≤ 1000000)
    (h : ∀ w', Kp [] w w' → R (.returned (.string (S (Lib.join ps [x])))) w') : Calls Tryd.prog 67 #[.slice A n c, .string ⟨#[x]⟩] w R := by
  have hl := ho.len
  simp only [strs, List.length_map, Nat.mul_one] at hl
  obtain ⟨g, rfl, hg⟩ := ho.form hn
  have hcap : n ≤ c := by
    rcases ho.2 with ⟨hv, h0⟩ | ⟨g', cap, cur, hv, _, _, hnc, _⟩
    · omega
    · injection hv with _ _ hc'; omega
  have hcells : ∀ (j : Nat) y, (ps.map S)[j]? = some y → w.cell? ⟨g, 0 + j, none⟩ = some (.string y) := by
    intro j y hy
    obtain ⟨b, off, hb, _, _, hcc⟩ := ho.rd (N := []) (by simp) (by intro e; simp [strs] at e; subst e; simp at hl; omega)
    cases hb
    refine hcc j _ ?_
    simp only [strs, List.getElem?_map] at hy ⊢
    cases hp : ps[j]? with
    | none => rw [hp] at hy; cases hy
    | some p => rw [hp] at hy; simp at hy; subst hy; simp
  have e1 : (ps.map S).map (·.data.toList) = ps := by
    rw [List.map_map]; conv => rhs; rw [← List.map_id ps]
    exact List.map_congr_left (fun s _ => S_data s)
  have hcon := Tryd.strings_Join g 0 c (ps.map S) ⟨#[x]⟩ w hcells hg (by rw [List.length_map]; omega) (by rw [List.length_map]; omega) (by rw [e1]; show (Lib.join ps [x]).length ≤ _; omega)
  rw [List.length_map, hl, e1] at hcon
  refine hcon.mono fun e w' ⟨he, hw⟩ => ?_
  subst he
  exact h w' (Kp.of_below hw)
def ipP (a : Nat) : List (List UInt8) := [d3 (a / 16777216 % 256), d3 (a / 65536 % 256), d3 (a / 256 % 256), d3 (a % 256)]
def ipL (a : Nat) : List UInt8 := Lib.join (ipP a) [46]
set_option maxHeartbeats 1000000 in
theorem ip_any {R : Ending → World → Prop} (a : Nat) (w : World) (ha : a < 4294967296) (hw : Lw w) (h : ∀ w', Kp [] w w' → R (.returned (.string (S (ipL a)))) w') : Calls Tryd.prog 45 #[.int .u32 a] w R := by
  have H := Lib.hid h
  clear h
  have hd3 : ∀ n, (d3 n).length ≤ 3 := fun n => by unfold d3; (repeat' split) <;> simp
  have hil : (Lib.join (ipP a) [46]).length ≤ 1000000 := by
    unfold ipP Lib.join
    have h1 := hd3 (a / 16777216 % 256)
    have h2 := hd3 (a / 65536 % 256)
    have h3 := hd3 (a / 256 % 256)
    have h4 := hd3 (a % 256)
    simp [List.intercalate]
    omega
  have HIL := Lib.hid hil
  clear hd3 hil
  go_enter Tryd.func45, Tryd.ntmps45
  go_wp2
  go_loopw [3, 4] (fun lv sv wr => ∃ (k : Nat) (q : Int) (A : Option Addr) (c : Nat), q = 24 - 8 * (k : Int) ∧ sv = .int .i64 q ∧ k ≤ 4 ∧ lv = .slice A k c ∧ Kp [] w wr ∧ Ow wr 9 1 A k c (strs ((ipP a).take k)) ∧ (∀ x ∈ bks A, w.heap.size ≤ x)) (fun _ sv _ => (intOf sv + 8).toNat)
  case atStart => exact ⟨0, 24, none, 0, rfl, rfl, by omega, rfl, Kp.refl _ _, Ow.nil, by simp [bks]⟩
  case round =>
    obtain ⟨k, q, A, c, hq, rfl, hk, rfl, kr, ho, hA⟩ := hrel
    by_cases h4 : k = 4
    · subst h4
      obtain rfl : q = -8 := by omega
      have ho' : Ow wr 9 1 A 4 c (strs (ipP a)) := ho
      go_wp2_with (go_at_call 67; ((with_reducible refine join_any (ipP a) 46 ho' (by omega) (by omega) HIL.out ?_); intro w2 k2))
      exact H.out _ (kr.trans k2)
    · have hk3 : k = 0 ∨ k = 1 ∨ k = 2 ∨ k = 3 := by omega
      clear h4
      rcases hk3 with rfl | rfl | rfl | rfl
      · obtain rfl : q = 24 := by omega
        clear hq
        go_wp2_with (first | (go_at_call 66; ((refine itoa_int _ (a / 16777216 % 256) _ (ipv (a / 16777216) _ (by omega) (by omega)) (by omega) (hw.kp kr) ?_); intro w2 k2; have ho2 := ho.kp k2 (by simp); have kr2 := kr.trans k2)) | (at_builtin; refine wpList_app _ rfl (.tmp 9) (.tmp 16) _ rfl elt_str A 0 c _ rfl (ho2.alloc _) [] (some ⟨w2.heap.size, 0, none⟩) 1 1 (strs [d3 (a / 16777216 % 256)]) rfl (Rd.of_bk (Bk.newAt rfl _ _) (by simp)) rfl (strs_one _) (by omega) ?_; intro A2 c2 w3 ho3 hk3 hA3))
        exact ⟨⟨1, 16, A2, c2, by omega, rfl, by omega, rfl, (kr2.alloc _).thn hk3 (fun s hs => .inr (hA s hs)), ho3.cast rfl (strs_append _ _).symm, bks_app hA3 hA (by have := kr2.size; simp; omega)⟩, by simp [intOf]⟩
      · obtain rfl : q = 16 := by omega
        clear hq
        go_wp2_with (first | (go_at_call 66; ((refine itoa_int _ (a / 65536 % 256) _ (ipv (a / 65536) _ (by omega) (by omega)) (by omega) (hw.kp kr) ?_); intro w2 k2; have ho2 := ho.kp k2 (by simp); have kr2 := kr.trans k2)) | (at_builtin; refine wpList_app _ rfl (.tmp 9) (.tmp 16) _ rfl elt_str A 1 c _ rfl (ho2.alloc _) [] (some ⟨w2.heap.size, 0, none⟩) 1 1 (strs [d3 (a / 65536 % 256)]) rfl (Rd.of_bk (Bk.newAt rfl _ _) (by simp)) rfl (strs_one _) (by omega) ?_; intro A2 c2 w3 ho3 hk3 hA3))
        exact ⟨⟨2, 8, A2, c2, by omega, rfl, by omega, rfl, (kr2.alloc _).thn hk3 (fun s hs => .inr (hA s hs)), ho3.cast rfl (strs_append _ _).symm, bks_app hA3 hA (by have := kr2.size; simp; omega)⟩, by simp [intOf]⟩
      · obtain rfl : q = 8 := by omega
        clear hq
        go_wp2_with (first | (go_at_call 66; ((refine itoa_int _ (a / 256 % 256) _ (ipv (a / 256) _ (by omega) (by omega)) (by omega) (hw.kp kr) ?_); intro w2 k2; have ho2 := ho.kp k2 (by simp); have kr2 := kr.trans k2)) | (at_builtin; refine wpList_app _ rfl (.tmp 9) (.tmp 16) _ rfl elt_str A 2 c _ rfl (ho2.alloc _) [] (some ⟨w2.heap.size, 0, none⟩) 1 1 (strs [d3 (a / 256 % 256)]) rfl (Rd.of_bk (Bk.newAt rfl _ _) (by simp)) rfl (strs_one _) (by omega) ?_; intro A2 c2 w3 ho3 hk3 hA3))
        exact ⟨⟨3, 0, A2, c2, by omega, rfl, by omega, rfl, (kr2.alloc _).thn hk3 (fun s hs => .inr (hA s hs)), ho3.cast rfl (strs_append _ _).symm, bks_app hA3 hA (by have := kr2.size; simp; omega)⟩, by simp [intOf]⟩
      · obtain rfl : q = 0 := by omega
        clear hq
        go_wp2_with (first | (go_at_call 66; ((refine itoa_int _ (a % 256) _ (ipv (a) _ (by omega) (by omega)) (by omega) (hw.kp kr) ?_); intro w2 k2; have ho2 := ho.kp k2 (by simp); have kr2 := kr.trans k2)) | (at_builtin; refine wpList_app _ rfl (.tmp 9) (.tmp 16) _ rfl elt_str A 3 c _ rfl (ho2.alloc _) [] (some ⟨w2.heap.size, 0, none⟩) 1 1 (strs [d3 (a % 256)]) rfl (Rd.of_bk (Bk.newAt rfl _ _) (by simp)) rfl (strs_one _) (by omega) ?_; intro A2 c2 w3 ho3 hk3 hA3))
        exact ⟨⟨4, -8, A2, c2, by omega, rfl, by omega, rfl, (kr2.alloc _).thn hk3 (fun s hs => .inr (hA s hs)), ho3.cast rfl (strs_append _ _).symm, bks_app hA3 hA (by have := kr2.size; simp; omega)⟩, by simp [intOf]⟩
end Go.Proofs.YthppknpeagjcpaaDoor
