/- The walks of package request: its fields by name. -/
import Derived.Test.YtjjigngighneeaaDoorReqP
import Derived.Test.YtjjigngighneeaaDoorDec
import Derived.Test.YtjjigngighneeaaDoorQuiet
import Derived.Lib.SmallJoins
namespace Go.Proofs.YtjjigngighneeaaDoor
open Go.RowKit Go.Shelf
set_option linter.unusedVariables false
set_option linter.unusedSimpArgs false
set_option maxRecDepth 100000

abbrev Fd := List UInt8 × List UInt8
theorem fldC_len (x : Fd) : (fldC x).length = 2 := rfl
theorem valsF_take {fs : List Fd} {k : Nat} {x : Fd} (hx : fs[k]? = some x) (name : List UInt8) : valsF (fs.take (k + 1)) name = valsF (fs.take k) name ++ (if (x.1 == name) = true then [x.2] else []) := by
  have hk : k < fs.length := (List.getElem?_eq_some_iff.1 hx).1
  have e : fs[k] = x := (List.getElem?_eq_some_iff.1 hx).2
  unfold valsF
  rw [List.take_succ_eq_append_getElem hk, e, List.filter_append, List.map_append]
  congr 1
  cases h : (x.1 == name) <;> simp [List.filter_cons, h]
theorem valsF_len (fs : List Fd) (name : List UInt8) : (valsF fs name).length ≤ fs.length := by
  unfold valsF; rw [List.length_map]; exact List.length_filter_le _ _
theorem app_at {w : World} {g : Nat} (hg : g = w.heap.size) {x : List UInt8} : Rd (w.alloc (.cells #[.string (S x)] 9)) [] (some ⟨g, 0, none⟩) (strs [x]) := Rd.of_bk (Bk.newAt hg _ _) (by simp)
set_option maxHeartbeats 2000000 in
theorem values_any {R : Ending → World → Prop} (fs : List Fd) (name m t : List UInt8) (minor : Int) (cl : Bool) {A : Option Addr} {c : Nat} (w : World) (hr : Rd w [] A (fs.flatMap fldC)) (hn : fs.length ≤ 100000)
    (h : ∀ A' c' w', Ow w' 9 1 A' (valsF fs name).length c' (strs (valsF fs name)) → (∀ b ∈ bks A', w.heap.size ≤ b) → Kp [] w w' → R (.returned (.slice A' (valsF fs name).length c')) w') :
    Calls Tryd.prog 33 #[.agg #[.string (S m), .string (S t), .int .i64 minor, .slice A fs.length c, .bool cl], .string (S name)] w R := by
  have H := Lib.hid h
  have HR := Lib.hid hr
  clear h hr
  go_enter Tryd.func33, Tryd.ntmps33
  go_wp2
  go_loopw [5, 11] (fun sv iv wr => ∃ (k mm : Nat) (A' : Option Addr) (c' : Nat), k ≤ fs.length ∧ iv = .int .i64 k ∧ sv = .slice A' mm c' ∧ mm ≤ k ∧ Hid (mm = (valsF (fs.take k) name).length) ∧ Ow wr 9 1 A' mm c' (strs (valsF (fs.take k) name)) ∧ (∀ b ∈ bks A', w.heap.size ≤ b) ∧ Kp [] w wr) (fun _ iv _ => fs.length - (intOf iv).toNat)
  case atStart => exact ⟨0, 0, none, 0, Nat.zero_le _, rfl, rfl, Nat.zero_le _, Lib.hid rfl, Ow.nil, by simp [bks], (Kp.refl _ _).alloc _⟩
  case round =>
    obtain ⟨k, mm, A', c', hk, rfl, rfl, hmk, hmm, ho, hA, kr⟩ := hrel
    by_cases hlt : k < fs.length
    · obtain ⟨x, hx⟩ : ∃ x, fs[k]? = some x := ⟨_, List.getElem?_eq_getElem hlt⟩
      have HV := Lib.hid (valsF_take hx name)
      obtain ⟨b, off, rfl, _, hbl, hc⟩ := rd_at HR.out fldC_len (by decide) hx
      have hc0 : wr.cell? ⟨b, off + k * 2, none⟩ = some (.string (S x.1)) := (kr.cell (p := ⟨b, off + k * 2, none⟩) hbl (by simp)).trans (hc 0 _ rfl)
      have hc1 : wr.cell? ⟨b, off + k * 2 + 1, none⟩ = some (.string (S x.2)) := (kr.cell (p := ⟨b, off + k * 2 + 1, none⟩) hbl (by simp)).trans (hc 1 _ rfl)
      clear hc hx
      cases hq : (x.1 == name)
      · have HV2 : Hid (valsF (fs.take (k + 1)) name = valsF (fs.take k) name) := Lib.hid (by rw [HV.out, hq]; simp)
        clear HV
        go_wp2
        refine ⟨⟨k + 1, mm, A', c', by omega, by go_num, rfl, by omega, Lib.hid ?_, ?_, hA, kr.alloc _⟩, by simp [intOf]; omega⟩
        · rw [HV2.out]; exact hmm.out
        · rw [HV2.out]; exact ho.alloc _
      · have HV2 : Hid (valsF (fs.take (k + 1)) name = valsF (fs.take k) name ++ [x.2]) := Lib.hid (by rw [HV.out, hq]; simp)
        clear HV
        go_wp2_with (at_builtin; refine wpList_app _ rfl (.tmp 19) (.tmp 22) _ rfl elt_str A' mm c' _ rfl ((ho.alloc _).alloc _) [] _ 1 1 (strs [x.2]) rfl (app_at (by simp)) rfl (strs_one _) (by omega) ?_; intro A2 c2 w3 ho3 hk3 hA3)
        refine ⟨⟨k + 1, mm + 1, A2, c2, by omega, by go_num, rfl, by omega, Lib.hid ?_, ho3.cast rfl ?_, bks_app hA3 hA (by have := kr.size; simp; omega), ((kr.alloc _).alloc _).thn hk3 (fun s hs => .inr (hA s hs))⟩, by simp [intOf]; omega⟩
        · rw [HV2.out, List.length_append, ← hmm.out]; rfl
        · rw [HV2.out, strs_append]
    · have e : fs.take k = fs := List.take_of_length_le (by omega)
      rw [e] at hmm ho
      have HM := hmm.out
      clear e
      subst HM
      go_wp2
      exact H.out A' c' _ ho hA kr

theorem join_gen {R : Ending → World → Prop} {w : World} {A : Option Addr} {n c : Nat} (ps : List (List UInt8)) (x : List UInt8) (ho : Ow w 9 1 A n c (strs ps)) (hc : n ≤ 1000000) (hlen : (Lib.join ps x).length ≤ 100000000)
    (h : ∀ w', Kp [] w w' → R (.returned (.string (S (Lib.join ps x)))) w') : Calls Tryd.prog 32 #[.slice A n c, .string ⟨x.toArray⟩] w R := by
  have hl := ho.len
  simp only [strs, List.length_map, Nat.mul_one] at hl
  by_cases hn : 0 < n
  · obtain ⟨g, rfl, hg⟩ := ho.form hn
    have hcap : n ≤ c := by
      rcases ho.2 with ⟨hv, h0⟩ | ⟨g', cap, cur, hv, _, _, hnc, _⟩
      · omega
      · injection hv with _ _ hc'; omega
    have hcells : ∀ (j : Nat) y, (ps.map S)[j]? = some y → w.cell? ⟨g, 0 + j, none⟩ = some (.string y) := by
      intro j y hy
      obtain ⟨b, off, hb, _, _, hcc⟩ := ho.rd (N := []) (by simp) (by intro e; simp [strs] at e; subst e; simp at hl; omega)
      cases hb
      refine hcc j _ ?_
      simp only [strs, List.getElem?_map] at hy ⊢
      cases hp : ps[j]? with
      | none => rw [hp] at hy; cases hy
      | some p => rw [hp] at hy; simp at hy; subst hy; simp
    have e1 : (ps.map S).map (·.data.toList) = ps := by
      rw [List.map_map]; conv => rhs; rw [← List.map_id ps]
      exact List.map_congr_left (fun s _ => S_data s)
    have e2 : ((⟨x.toArray⟩ : ByteArray)).data.toList = x := by simp
    have hcon := Tryd.strings_Join g 0 c (ps.map S) ⟨x.toArray⟩ w hcells hg (by rw [List.length_map]; omega) (by rw [List.length_map]; omega) (by rw [e1, e2]; omega)
    rw [List.length_map, hl, e1, e2] at hcon
    refine hcon.mono fun e w' ⟨he, hw⟩ => ?_
    subst he
    exact h w' (Kp.of_below hw)
  · have h0 : n = 0 := by omega
    subst h0
    have hp : ps = [] := List.eq_nil_of_length_eq_zero hl
    subst hp
    refine (Tryd.strings_Join_none A c ⟨x.toArray⟩ w).mono fun e w' ⟨he, hw⟩ => ?_
    subst he; subst hw
    exact h _ (Kp.refl _ _)
set_option maxHeartbeats 2000000 in
theorem all_any' {R : Ending → World → Prop} (fs : List Fd) (name m t : List UInt8) (minor : Int) (cl : Bool) {A : Option Addr} {c : Nat} (w : World) (hr : Rd w [] A (fs.flatMap fldC)) (hn : fs.length ≤ 100000) (hlen : (allF fs name).length ≤ 100000000)
    (h : ∀ w', Kp [] w w' → R (.returned (.string (S (allF fs name)))) w') :
    Calls Tryd.prog 17 #[.agg #[.string (S m), .string (S t), .int .i64 minor, .slice A fs.length c, .bool cl], .string (S name)] w R := by
  have H := Lib.hid h
  have HR := Lib.hid hr
  have HL := Lib.hid hlen
  have hv := valsF_len fs name
  clear h hr hlen
  have HJ : Hid (∀ (R : Ending → World → Prop) (w1 : World) (A' : Option Addr) (c' : Nat), Ow w1 9 1 A' (valsF fs name).length c' (strs (valsF fs name)) → (∀ w', Kp [] w1 w' → R (.returned (.string (S (allF fs name)))) w') → Calls Tryd.prog 32 #[.slice A' (valsF fs name).length c', .string ⟨#[44, 32]⟩] w1 R) := Lib.hid (fun R w1 A' c' ho h => join_gen (valsF fs name) [44, 32] ho (by omega) HL.out h)
  go_enter Tryd.func17, Tryd.ntmps17
  go_wp2_with (first | (go_at_call 33; ((refine values_any fs name m t minor cl _ (HR.out.kp ((Kp.refl [] w).alloc _) (by simp)) hn ?_); intro A' c' w1 ho hA k1)) | (go_at_call 32; ((refine HJ.out _ _ _ _ ho ?_); intro w2 k2)))
  exact H.out _ ((((Kp.refl _ _).alloc _).trans k1).trans k2)
theorem valsF_app (a b : List Fd) (name : List UInt8) : valsF (a ++ b) name = valsF a name ++ valsF b name := by simp [valsF]
theorem getF_at {fs : List Fd} {k : Nat} {x : Fd} {name : List UInt8} (hx : fs[k]? = some x) (h0 : valsF (fs.take k) name = []) (hq : (x.1 == name) = true) : getF fs name = (x.2, true) := by
  have hk : k < fs.length := (List.getElem?_eq_some_iff.1 hx).1
  have e : fs[k] = x := (List.getElem?_eq_some_iff.1 hx).2
  have e2 : fs = fs.take k ++ x :: fs.drop (k + 1) := by rw [← e, ← List.drop_eq_getElem_cons hk, List.take_append_drop]
  have e3 : valsF fs name = x.2 :: valsF (fs.drop (k + 1)) name := by
    conv => lhs; rw [e2]
    rw [valsF_app, h0, List.nil_append]
    simp [valsF, List.filter_cons, hq]
  unfold getF; rw [e3]
theorem getF_no {fs : List Fd} {name : List UInt8} (h : valsF fs name = []) : getF fs name = ([], false) := by unfold getF; rw [h]
theorem getf_any {R : Ending → World → Prop} (x : Fd) (name : List UInt8) (b o : Nat) (w : World) (hq : w.cell? ⟨b, o, none⟩ = some (.string (S name))) (h : ∀ w', Kp [] w w' → R (.returned (.bool (x.1 == name))) w') :
    Calls Tryd.prog 31 #[.agg #[.string (S x.1), .string (S x.2)], .pointer (some ⟨b, o, none⟩)] w R := by
  have H := Lib.hid h
  have hb := World.block_lt_of_cell? w _ hq
  clear h
  go_enter Tryd.func31, Tryd.ntmps31
  go_wp2
  exact H.out _ ((Kp.refl _ _).alloc _)
set_option maxHeartbeats 2000000 in
theorem idxf_any {R : Ending → World → Prop} (fs : List Fd) (name : List UInt8) {A : Option Addr} {c : Nat} (b o : Nat) (w : World) (hq : w.cell? ⟨b, o, none⟩ = some (.string (S name))) (hr : Rd w [] A (fs.flatMap fldC)) (hn : fs.length ≤ 100000)
    (hno : getF fs name = ([], false) → ∀ w', Kp [] w w' → R (.returned (.int .i64 (-1))) w') (hyes : ∀ k x, fs[k]? = some x → getF fs name = (x.2, true) → ∀ w', Kp [] w w' → R (.returned (.int .i64 (k : Nat))) w') :
    Calls Tryd.prog 30 #[.slice A fs.length c, .func (.func 31) #[] #[.pointer (some ⟨b, o, none⟩)]] w R := by
  have HN := Lib.hid hno
  have HY := Lib.hid hyes
  have HR := Lib.hid hr
  have HQ := Lib.hid hq
  have hb := World.block_lt_of_cell? w _ hq
  have he : ∀ (args : Array Value) (w : World), (callFunc 31 args).run Tryd.prog w = .ok (.enter 31 args) w := enters_of Tryd.func31 (by kernel_rfl) rfl
  clear hno hyes hr hq
  go_enter Tryd.func30, Tryd.ntmps30
  go_wp2
  go_loopw [5, 8] (fun _ iv wr => ∃ k : Nat, k ≤ fs.length ∧ iv = .int .i64 k ∧ Hid (valsF (fs.take k) name = []) ∧ Kp [] w wr) (fun _ iv _ => fs.length - (intOf iv).toNat)
  case atStart => exact ⟨0, Nat.zero_le _, rfl, Lib.hid rfl, Kp.refl _ _⟩
  case round =>
    obtain ⟨k, hk, rfl, hv, kr⟩ := hrel
    by_cases hlt : k < fs.length
    · obtain ⟨x, hx⟩ : ∃ x, fs[k]? = some x := ⟨_, List.getElem?_eq_getElem hlt⟩
      have HV := Lib.hid (valsF_take hx name)
      obtain ⟨g, off, rfl, _, hgl, hc⟩ := rd_at HR.out fldC_len (by decide) hx
      have hc0 : wr.cell? ⟨g, off + k * 2, none⟩ = some (.string (S x.1)) := (kr.cell (p := ⟨g, off + k * 2, none⟩) hgl (by simp)).trans (hc 0 _ rfl)
      have hc1 : wr.cell? ⟨g, off + k * 2 + 1, none⟩ = some (.string (S x.2)) := (kr.cell (p := ⟨g, off + k * 2 + 1, none⟩) hgl (by simp)).trans (hc 1 _ rfl)
      have HC := Lib.hid ((kr.cell (p := ⟨b, o, none⟩) hb (by simp)).trans HQ.out)
      have HX := Lib.hid hx
      clear hc hx
      cases hq : (x.1 == name)
      · have HV2 : Hid (valsF (fs.take (k + 1)) name = []) := Lib.hid (by rw [HV.out, hv.out, hq]; rfl)
        have HB := Lib.hid hq
        clear HV hq
        go_wp2_with ((refine getf_any x name b o _ HC.out ?_); intro w2 k2; rw [HB.out])
        exact ⟨⟨k + 1, by omega, by go_num, HV2, kr.trans k2⟩, by simp [intOf]; omega⟩
      · have HB := Lib.hid hq
        clear HV hq
        go_wp2_with ((refine getf_any x name b o _ HC.out ?_); intro w2 k2; rw [HB.out])
        exact HY.out k x HX.out (getF_at HX.out hv.out HB.out) _ (kr.trans k2)
    · have e : fs.take k = fs := List.take_of_length_le (by omega)
      rw [e] at hv
      clear e
      go_wp2
      exact HN.out (getF_no hv.out) _ kr
set_option maxHeartbeats 2000000 in
theorem get_any {R : Ending → World → Prop} (fs : List Fd) (name m t : List UInt8) (minor : Int) (cl : Bool) {A : Option Addr} {c : Nat} (w : World) (hr : Rd w [] A (fs.flatMap fldC)) (hn : fs.length ≤ 100000) (hcap : fs.length ≤ c)
    (h : ∀ w', Kp [] w w' → R (.returned (.tuple #[.string (S (getF fs name).1), .bool (getF fs name).2])) w') :
    Calls Tryd.prog 15 #[.agg #[.string (S m), .string (S t), .int .i64 minor, .slice A fs.length c, .bool cl], .string (S name)] w R := by
  have H := Lib.hid h
  have HR := Lib.hid hr
  clear h hr
  by_cases hv : valsF fs name = []
  · have HG := Lib.hid (getF_no hv)
    clear hv
    go_enter Tryd.func15, Tryd.ntmps15
    go_wp2_with (go_at_call 30; (refine idxf_any fs name (w.heap.size + 1) 0 _ (by simp) (HR.out.kp (((Kp.refl [] w).alloc _).alloc _) (by simp)) hn ?_ (fun k x _ hg => by rw [HG.out] at hg; simp at hg)); intro _ w1 k1)
    rw [HG.out] at H
    exact H.out _ ((((Kp.refl _ _).alloc _).alloc _).trans k1)
  · have HG : Hid (getF fs name ≠ ([], false)) := Lib.hid (by
      unfold getF
      cases he : valsF fs name with
      | nil => exact absurd he hv
      | cons v r => simp)
    clear hv
    go_enter Tryd.func15, Tryd.ntmps15
    go_wp2_with (go_at_call 30; (refine idxf_any fs name (w.heap.size + 1) 0 _ (by simp) (HR.out.kp (((Kp.refl [] w).alloc _).alloc _) (by simp)) hn (fun hg => absurd hg HG.out) ?_); intro k x hx hg w1 k1; have HX := Lib.hid hx; have HY := Lib.hid hg; have hk := (List.getElem?_eq_some_iff.1 hx).1; clear hx hg; have hc3 : w1.cell? ⟨w.heap.size, 3, none⟩ = some (.slice A fs.length c) := (k1.cell (p := ⟨w.heap.size, 3, none⟩) (by simp; omega) (by simp)).trans (by simp); obtain ⟨b, off, rfl, _, hgl, hc⟩ := rd_at (HR.out.kp ((((Kp.refl [] w).alloc _).alloc _).trans k1) (by simp)) fldC_len (by decide) HX.out; have hc1 := hc 1 _ rfl; clear hc)
    rw [HY.out] at H
    exact H.out _ ((((Kp.refl _ _).alloc _).alloc _).trans k1)
end Go.Proofs.YtjjigngighneeaaDoor
