/- The walks of package request: is a text among texts; does the connection end. -/
import Derived.Test.YtjjigngighneeaaDoorReqA
import Derived.BigQuiet
namespace Go.Proofs.YtjjigngighneeaaDoor
open Go.RowKit Go.Shelf
set_option linter.unusedVariables false
set_option linter.unusedSimpArgs false
set_option maxRecDepth 100000

theorem cont_take {ps : List (List UInt8)} {k : Nat} {y : List UInt8} (hy : ps[k]? = some y) (x : List UInt8) : (ps.take (k + 1)).contains x = ((ps.take k).contains x || x == y) := by
  have hk : k < ps.length := (List.getElem?_eq_some_iff.1 hy).1
  have e : ps[k] = y := (List.getElem?_eq_some_iff.1 hy).2
  rw [List.take_succ_eq_append_getElem hk, e]
  rw [List.contains_eq_any_beq, List.any_append, ← List.contains_eq_any_beq]; simp
theorem cont_mem {ps : List (List UInt8)} {k : Nat} {x : List UInt8} (hy : ps[k]? = some x) : ps.contains x = true := by
  rw [List.contains_iff_mem]; exact List.mem_of_getElem? hy
set_option maxHeartbeats 2000000 in
theorem sindex_any {R : Ending → World → Prop} (ps : List (List UInt8)) (x : List UInt8) {A : Option Addr} {c : Nat} (w : World) (hr : Rd w [] A (strs ps)) (hn : ps.length ≤ 1000000)
    (h : ∀ v : Int, decide (0 ≤ v) = ps.contains x → R (.returned (.int .i64 v)) w) :
    Calls Tryd.prog 126 #[.slice A ps.length c, .string (S x)] w R := by
  have H := Lib.hid h
  have HR := Lib.hid hr
  clear h hr
  go_enter Tryd.func126, Tryd.ntmps126
  go_wp2
  go_loop [5, 8] (fun _ iv => ∃ k : Nat, k ≤ ps.length ∧ iv = .int .i64 k ∧ Hid ((ps.take k).contains x = false)) (fun _ iv => ps.length - (intOf iv).toNat)
  case atStart => exact ⟨0, Nat.zero_le _, rfl, Lib.hid (by simp)⟩
  case round =>
    obtain ⟨k, hk, rfl, hv⟩ := hrel
    by_cases hlt : k < ps.length
    · obtain ⟨y, hy⟩ : ∃ y, ps[k]? = some y := ⟨_, List.getElem?_eq_getElem hlt⟩
      obtain ⟨g, off, rfl, _, hgl, hc⟩ := HR.out (by intro e; have := congrArg List.length e; rw [strs_len] at this; simp at this; rw [this] at hlt; simp at hlt)
      have hc0 : w.cell? ⟨g, off + k, none⟩ = some (.string (S y)) := hc k _ (by rw [strs_get, hy]; rfl)
      clear hc
      cases hq : (x == y)
      · have HV2 : Hid ((ps.take (k + 1)).contains x = false) := Lib.hid (by rw [cont_take hy, hv.out, hq]; rfl)
        clear hy
        go_wp2
        go_round
        case rel => exact ⟨k + 1, by omega, by go_num, HV2⟩
        case measure => simp [intOf]; omega
      · have HC : Hid (ps.contains x = true) := Lib.hid (by rw [beq_iff_eq.1 hq]; exact cont_mem hy)
        clear hy
        go_wp2
        refine H.out k ?_
        rw [HC.out]; simp
    · have e : ps.take k = ps := List.take_of_length_le (by omega)
      rw [e] at hv
      clear e
      go_wp2
      refine H.out (-1) ?_
      rw [hv.out]; rfl
theorem scont_any {R : Ending → World → Prop} (ps : List (List UInt8)) (x : List UInt8) {A : Option Addr} {c : Nat} (w : World) (hr : Rd w [] A (strs ps)) (hn : ps.length ≤ 1000000)
    (h : R (.returned (.bool (ps.contains x))) w) :
    Calls Tryd.prog 100 #[.slice A ps.length c, .string (S x)] w R := by
  have H := Lib.hid h
  have HR := Lib.hid hr
  clear h hr
  go_enter Tryd.func100, Tryd.ntmps100
  go_wp2_with (go_at_call 126; (refine sindex_any ps x _ HR.out hn ?_); intro v hv; have HV := Lib.hid hv; clear hv)
  all_goals (refine rcast H.out (congrArg Value.bool ?_); rw [← HV.out])
theorem scont_true {R : Ending → World → Prop} (ps : List (List UInt8)) (x : List UInt8) {A : Option Addr} {c : Nat} (w : World) (hr : Rd w [] A (strs ps)) (hn : ps.length ≤ 1000000) {b : Bool} (hb : ps.contains x = b)
    (h : R (.returned (.bool b)) w) : Calls Tryd.prog 100 #[.slice A ps.length c, .string (S x)] w R := scont_any ps x w hr hn (by rw [hb]; exact h)
theorem closes_lit {R : Ending → World → Prop} (ps : List (List UInt8)) {A : Option Addr} {c : Nat} (w : World) (hr : Rd w [] A (strs ps)) (hn : ps.length ≤ 1000000) {b : Bool} (hb : ps.contains closeL = b)
    (h : R (.returned (.bool b)) w) : Calls Tryd.prog 100 #[.slice A ps.length c, .string ⟨#[99, 108, 111, 115, 101]⟩] w R := scont_any ps closeL w hr hn (by rw [hb]; exact h)
theorem keep_lit {R : Ending → World → Prop} (ps : List (List UInt8)) {A : Option Addr} {c : Nat} (w : World) (hr : Rd w [] A (strs ps)) (hn : ps.length ≤ 1000000) {b : Bool} (hb : ps.contains keepL = b)
    (h : R (.returned (.bool b)) w) : Calls Tryd.prog 100 #[.slice A ps.length c, .string ⟨#[107, 101, 101, 112, 45, 97, 108, 105, 118, 101]⟩] w R := scont_any ps keepL w hr hn (by rw [hb]; exact h)
theorem conn_lit {R : Ending → World → Prop} (fs : List Fd) (m t : List UInt8) (minor : Int) (cl : Bool) {A : Option Addr} {c : Nat} (w : World) (hr : Rd w [] A (fs.flatMap fldC)) (hn : fs.length ≤ 100000) (hlen : (allF fs connL).length ≤ 100000000)
    (h : ∀ w', Kp [] w w' → R (.returned (.string (S (allF fs connL)))) w') :
    Calls Tryd.prog 17 #[.agg #[.string (S m), .string (S t), .int .i64 minor, .slice A fs.length c, .bool cl], .string ⟨#[99, 111, 110, 110, 101, 99, 116, 105, 111, 110]⟩] w R := all_any' fs connL m t minor cl w hr hn hlen h
set_option maxHeartbeats 2000000 in
theorem rcloses_any {R : Ending → World → Prop} (fs : List Fd) (m t : List UInt8) (minor : Int) (cl : Bool) {A : Option Addr} {c : Nat} (w : World) (hm : Ml w) (hr : Rd w [] A (fs.flatMap fldC)) (hn : fs.length ≤ 100000) (hlen : (allF fs connL).length ≤ 900000)
    (h : ∀ w', Kp [] w w' → R (.returned (.bool (closesF fs minor))) w') :
    Calls Tryd.prog 77 #[.agg #[.string (S m), .string (S t), .int .i64 minor, .slice A fs.length c, .bool cl]] w R := by
  have H := Lib.hid h
  have HR := Lib.hid hr
  have HLn := Lib.hid hlen
  obtain ⟨its, hits⟩ : ∃ its, itemsL (lowL (allF fs connL)) = its := ⟨_, rfl⟩
  have hil : its.length ≤ 900001 := by
    have := itemsL_len (lowL (allF fs connL)); rw [hits] at this
    have e : (lowL (allF fs connL)).length = (allF fs connL).length := by simp [lowL]
    omega
  have HI : Hid (∀ (R : Ending → World → Prop) (w1 : World), Ml w1 → (∀ A c w', Ow w' 9 1 A its.length c (strs its) → (∀ b ∈ bks A, w1.heap.size ≤ b) → Kp [] w1 w' → R (.returned (.slice A its.length c)) w') → Calls Tryd.prog 54 #[.string (S (lowL (allF fs connL)))] w1 R) := Lib.hid (by
    intro R w1 hm1 h
    refine items_any _ w1 (by simp [lowL]; omega) hm1 ?_
    rw [hits]; exact h)
  have HCF : Hid (closesF fs minor = (its.contains closeL || (decide (minor = 0) && !its.contains keepL))) := Lib.hid (by unfold closesF; rw [hits])
  clear h hr hlen hits
  obtain ⟨b1, hb1⟩ : ∃ b, its.contains closeL = b := ⟨_, rfl⟩
  obtain ⟨b2, hb2⟩ : ∃ b, its.contains keepL = b := ⟨_, rfl⟩
  rw [hb1, hb2] at HCF
  have HB1 := Lib.hid hb1
  have HB2 := Lib.hid hb2
  clear hb1 hb2
  by_cases hm0 : minor = 0
  · subst hm0
    cases b1 <;> cases b2
    all_goals
      go_enter Tryd.func77, Tryd.ntmps77
      go_wp2_with (first | (go_at_call 17; ((refine conn_lit fs m t 0 cl _ (HR.out.kp ((Kp.refl [] w).alloc _) (by simp)) hn (by have := HLn.out; omega) ?_); intro w1 k1)) | (go_at_call 99; ((refine lower_any _ _ (by have := HLn.out; omega) ?_); intro w2 k2)) | (go_at_call 54; ((refine HI.out _ _ (hm.kp ((((Kp.refl _ _).alloc _).trans k1).trans k2)) ?_); intro A2 c2 w3 ho3 hA3 k3; have HR3 := Lib.hid (ho3.rd (N := []) (by simp)); have kk := Lib.hid (((((Kp.refl [] w).alloc _).trans k1).trans k2).trans k3); have hc2 := (((k1.trans k2).trans k3).cell (p := ⟨w.heap.size, 2, none⟩) (by simp) (by simp)).trans (show _ = some (Value.int .i64 0) by simp); clear ho3 hA3)) | (go_at_call 100; (with_reducible refine closes_lit its _ HR3.out (by omega) HB1.out ?_)) | (go_at_call 100; (with_reducible refine keep_lit its _ HR3.out (by omega) HB2.out ?_)))
      exact rcast (H.out _ kk.out) (congrArg Value.bool (by rw [HCF.out]; first | done | rfl | simp))
  · have em : (minor == 0) = false := by simpa using hm0
    cases b1
    all_goals
      go_enter Tryd.func77, Tryd.ntmps77
      go_wp2_with (first | (go_at_call 17; ((refine conn_lit fs m t minor cl _ (HR.out.kp ((Kp.refl [] w).alloc _) (by simp)) hn (by have := HLn.out; omega) ?_); intro w1 k1)) | (go_at_call 99; ((refine lower_any _ _ (by have := HLn.out; omega) ?_); intro w2 k2)) | (go_at_call 54; ((refine HI.out _ _ (hm.kp ((((Kp.refl _ _).alloc _).trans k1).trans k2)) ?_); intro A2 c2 w3 ho3 hA3 k3; have HR3 := Lib.hid (ho3.rd (N := []) (by simp)); have kk := Lib.hid (((((Kp.refl [] w).alloc _).trans k1).trans k2).trans k3); have hc2 := (((k1.trans k2).trans k3).cell (p := ⟨w.heap.size, 2, none⟩) (by simp) (by simp)).trans (show _ = some (Value.int .i64 minor) by simp); clear ho3 hA3)) | (go_at_call 100; (with_reducible refine closes_lit its _ HR3.out (by omega) HB1.out ?_)))
      exact rcast (H.out _ kk.out) (congrArg Value.bool (by rw [HCF.out]; first | done | rfl | simp [hm0]))
end Go.Proofs.YtjjigngighneeaaDoor
