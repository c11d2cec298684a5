/- MAC; the law's examples. -/
import Derived.Test.YthppknpeagjcpaaDoorOct3
namespace Go.Proofs.YthppknpeagjcpaaDoor
open Go.RowKit Go.Shelf
set_option linter.unusedVariables false
set_option linter.unusedSimpArgs false
set_option maxRecDepth 100000

def macP (n : Nat) : List (List UInt8) := (putL n 6).map hexL
def macL (n : Nat) : List UInt8 := Lib.join (macP n) [58]
theorem hex_int {R : Ending → World → Prop} (v : Int) (c : UInt8) (w : World) (hv : v = c.toNat) (h : ∀ n, R (.returned (.string (S (hexL c)))) (w.drewN n)) : Calls Tryd.prog 68 #[.int .u8 v] w R := by
  subst hv; exact hex_any c w h
set_option maxHeartbeats 2000000 in
theorem mac_good {R : Ending → World → Prop} (n : Nat) (w : World) (hn : n < 281474976710656) (h : ∀ w', Kp [] w w' → R (.returned (.tuple #[.string (S (macL n)), .int .i64 0])) w') : Calls Tryd.prog 46 #[.int .u64 n] w R := by
  have H := Lib.hid h
  clear h
  have hput : ∀ R : Ending → World → Prop, (∀ A' c' w', (∀ x ∈ bks A', w.heap.size ≤ x) → Ow w' 5 1 A' 6 c' (bts (putL n 6)) → Kp [] w w' → R (.returned (.tuple #[.slice A' 6 c', .int .i64 0])) w') → Calls Tryd.prog 34 #[.slice none 0 0, .int .u64 n, .int .i64 6] w R := fun R h =>
    put_good (A := none) (n := 0) (c := 0) (b := []) n 6 Rd.nil rfl (by decide) (by omega) (by decide) (by decide) (.inr (by show n < 281474976710656; exact hn)) (fun A' c' w' h1 h2 h3 => h A' c' w' h1 (h2.cast (by rfl) rfl) h3)
  have HPut := Lib.hid hput
  clear hput
  have hlen : (Lib.join (macP n) [58]).length ≤ 1000000 := by
    unfold macP Lib.join
    simp [putL, hexL, List.intercalate]
  have HLen := Lib.hid hlen
  clear hlen
  have hp6 : (putL n 6).length = 6 := putL_len n 6
  go_enter Tryd.func46, Tryd.ntmps46
  go_wp2_with (go_at_call 34; ((with_reducible refine HPut.out _ ?_); intro A1 c1 w1 hA1 ho1 hk1))
  have HM : Hid (macP n = (putL n 6).map hexL) := Lib.hid rfl
  have HML : Hid (macL n = Lib.join (macP n) [58]) := Lib.hid rfl
  generalize macL n = ml at *
  generalize macP n = mp at *
  generalize putL n 6 = pl at *
  have HK1 := Lib.hid hk1
  have hz := hk1.size
  clear hk1
  have hrd := ho1.rd (N := []) (by simp)
  obtain ⟨g, rfl, hg⟩ := ho1.form (by omega)
  go_loopw [6, 19] (fun lv iv wr => ∃ (k : Nat) (A : Option Addr) (c : Nat), k ≤ 6 ∧ iv = .int .i64 k ∧ lv = .slice A k c ∧ Kp [] w1 wr ∧ Ow wr 9 1 A k c (strs (mp.take k)) ∧ (∀ x ∈ bks A, w1.heap.size ≤ x)) (fun _ iv _ => 6 - (intOf iv).toNat)
  case atStart => exact ⟨0, none, 0, by omega, rfl, rfl, Kp.refl _ _, Ow.nil, by simp [bks]⟩
  case round =>
    obtain ⟨k, A, c, hk, rfl, rfl, kr, ho, hA⟩ := hrel
    by_cases hlt : k < 6
    · obtain ⟨x, hx⟩ : ∃ x, pl[k]? = some x := ⟨_, List.getElem?_eq_getElem (by omega)⟩
      have hc : wr.cell? ⟨g, k, none⟩ = some (.int .u8 x.toNat) := by
        obtain ⟨b', off, hb, _, _, hcc⟩ := hrd.kp kr (by simp) (by intro e; have := congrArg List.length e; simp [bts, hp6] at this)
        cases hb
        have := hcc k (.int .u8 x.toNat) (by rw [bts_get, hx]; rfl)
        rwa [Nat.zero_add] at this
      have HT : Hid (mp.take (k + 1) = mp.take k ++ [hexL x]) := by
        refine Lib.hid ?_
        have hk' : k < mp.length := by rw [HM.out, List.length_map]; omega
        have he : mp[k]? = some (hexL x) := by rw [HM.out, List.getElem?_map, hx]; rfl
        rw [List.take_succ_eq_append_getElem hk', (List.getElem?_eq_some_iff.1 he).2]
      clear hx
      go_wp2_with (first | (go_at_call 68; ((with_reducible refine hex_any x _ ?_); intro nq)) | (at_builtin; refine wpList_app _ rfl (.tmp 23) (.tmp 26) _ rfl elt_str A k c _ rfl (ho.alloc _) [] (some ⟨wr.heap.size, 0, none⟩) 1 1 (strs [hexL x]) rfl (Rd.of_bk (Bk.newAt rfl _ _) (by simp)) rfl (strs_one _) (by omega) ?_; intro A2 c2 w3 ho3 hk3 hA3))
      exact ⟨⟨k + 1, A2, c2, by omega, by go_num, rfl, ((kr.alloc _).drewN nq).thn hk3 (fun s hs => .inr (hA s hs)), ho3.cast rfl (by rw [HT.out, strs_append]), bks_app hA3 hA (by have := kr.size; simp; omega)⟩, by simp [intOf]; omega⟩
    · obtain rfl : k = 6 := by omega
      have e : mp.take 6 = mp := List.take_of_length_le (by rw [HM.out, List.length_map]; omega)
      rw [e] at ho
      clear e
      go_wp2_with (go_at_call 67; ((with_reducible refine join_any mp 58 ho (by omega) (by omega) HLen.out ?_); intro w2 k2))
      exact rcast (H.out _ ((HK1.out.trans kr).trans k2)) (by rw [HML.out]; rfl)
set_option maxHeartbeats 1000000 in
theorem mac_bad {R : Ending → World → Prop} (n : Nat) (w : World) (hn : 281474976710656 ≤ n) (hn2 : n < 18446744073709551616) (h : R (.returned (.tuple #[.string (S []), .int .i64 1])) w) : Calls Tryd.prog 46 #[.int .u64 n] w R := by
  have H := Lib.hid h
  clear h
  have hp : putOk n 6 = false := by
    unfold putOk
    rw [show decide ((6 : Int) = 8) = false by decide, Bool.false_or, show (6 : Int).toNat = 6 from rfl, decide_eq_false (by show ¬ n < 281474976710656; omega), Bool.and_false]
  have HP := Lib.hid hp
  clear hp
  go_enter Tryd.func46, Tryd.ntmps46
  go_wp2_with (go_at_call 34; (refine put_bad n 6 hn2 HP.out ?_))
  exact H.out
theorem pip1 : pipV [49, 57, 50, 46, 49, 54, 56, 46, 49, 46, 49] = (3232235777, 0) := by decide +kernel
theorem pip2 : pipV [49, 46, 50, 46, 51] = (0, 50) := by decide +kernel
theorem ip1 : ipL 3232235777 = [49, 57, 50, 46, 49, 54, 56, 46, 49, 46, 49] := by decide +kernel
theorem mac1 : macL 1 = [48, 48, 58, 48, 48, 58, 48, 48, 58, 48, 48, 58, 48, 48, 58, 48, 49] := by decide +kernel
theorem pip_lit {R : Ending → World → Prop} (l : List UInt8) (v : Nat × Int) (w : World) (e : pipV l = v) (hl : l.length ≤ 1000000) (hw : Lw w)
    (h : ∀ w', Kp [] w w' → R (.returned (.tuple #[.int .u32 v.1, .int .i64 v.2])) w') : Calls Tryd.prog 44 #[.string ⟨l.toArray⟩] w R :=
  pip_any l w hl hw fun w' k => by rw [e]; exact h w' k
theorem mac_lit {R : Ending → World → Prop} (w : World) (h : ∀ w', Kp [] w w' → R (.returned (.tuple #[.string (S [48, 48, 58, 48, 48, 58, 48, 48, 58, 48, 48, 58, 48, 48, 58, 48, 49]), .int .i64 0])) w') : Calls Tryd.prog 46 #[.int .u64 1] w R :=
  mac_good 1 w (by decide) fun w' k => by rw [mac1]; exact h w' k
theorem ip_lit {R : Ending → World → Prop} (w : World) (hw : Lw w) (h : ∀ w', Kp [] w w' → R (.returned (.string (S [49, 57, 50, 46, 49, 54, 56, 46, 49, 46, 49]))) w') : Calls Tryd.prog 45 #[.int .u32 3232235777] w R :=
  ip_any 3232235777 w (by decide) hw fun w' k => by rw [ip1]; exact h w' k
set_option maxHeartbeats 1000000 in
theorem alive02_any {R : Ending → World → Prop} (w : World) (hw : Lw w) (h : ∀ w', Kp [] w w' → R (.returned (.bool true)) w') : Calls Tryd.prog 33 #[] w R := by
  have H := Lib.hid h
  clear h
  go_enter Tryd.func33, Tryd.ntmps33
  go_wp2_with (first | (go_at_call 46; ((with_reducible refine mac_lit _ ?_); intro w1 k1; have hw1 := hw.kp k1)) | (go_at_call 44; first | ((with_reducible refine pip_lit [49, 57, 50, 46, 49, 54, 56, 46, 49, 46, 49] _ w1 pip1 (by decide) hw1 ?_); intro w2 k2; have hw2 := hw1.kp k2; have k2' := k1.trans k2) | ((with_reducible refine pip_lit [49, 46, 50, 46, 51] _ w2 pip2 (by decide) hw2 ?_); intro w3 k3; have hw3 := hw2.kp k3; have k3' := k2'.trans k3)) | (go_at_call 45; ((with_reducible refine ip_lit _ hw3 ?_); intro w4 k4; have k4' := k3'.trans k4)))
  exact H.out _ k4'
end Go.Proofs.YthppknpeagjcpaaDoor
