/- The walks of package request: its fields by name. lex.Line: a scope with a label behind and one ahead. The walks of package request: a head. The walks of package request: is a text among texts; does the connection end. -/
import Derived.Test.YtnmafahbdfilcaaGreatDoorPC15
import Derived.Test.YtnmafahbdfilcaaGreatDoorPC2
import Derived.Test.YtnmafahbdfilcaaGreatDoorPC1
import Derived.Lib.SmallJoins
import Derived.BigQuiet
import Derived.IntWalk
namespace Go.Proofs.YtnmafahbdfilcaaGreatDoor
/-! ### The walks of package request: its fields by name. -/
section
open Go.RowKit Go.Shelf
set_option linter.unusedVariables false
set_option linter.unusedSimpArgs false
set_option maxRecDepth 100000

abbrev Fd := List UInt8 × List UInt8
theorem fldC_len (x : Fd) : (fldC x).length = 2 := rfl
theorem valsF_take {fs : List Fd} {k : Nat} {x : Fd} (hx : fs[k]? = some x) (name : List UInt8) : valsF (fs.take (k + 1)) name = valsF (fs.take k) name ++ (if (x.1 == name) = true then [x.2] else []) := by
  have hk : k < fs.length := (List.getElem?_eq_some_iff.1 hx).1
  have e : fs[k] = x := (List.getElem?_eq_some_iff.1 hx).2
  unfold valsF
  rw [List.take_succ_eq_append_getElem hk, e, List.filter_append, List.map_append]
  congr 1
  cases h : (x.1 == name) <;> simp [List.filter_cons, h]
theorem valsF_len (fs : List Fd) (name : List UInt8) : (valsF fs name).length ≤ fs.length := by
  unfold valsF; rw [List.length_map]; exact List.length_filter_le _ _
theorem app_at {w : World} {g : Nat} (hg : g = w.heap.size) {x : List UInt8} : Rd (w.alloc (.cells #[.string (S x)] 9)) [] (some ⟨g, 0, none⟩) (strs [x]) := Rd.of_bk (Bk.newAt hg _ _) (by simp)
set_option maxHeartbeats 2000000 in
theorem values_any {R : Ending → World → Prop} (fs : List Fd) (name m t : List UInt8) (minor : Int) (cl : Bool) {A : Option Addr} {c : Nat} (w : World) (hr : Rd w [] A (fs.flatMap fldC)) (hn : fs.length ≤ 100000)
    (h : ∀ A' c' w', Ow w' 9 1 A' (valsF fs name).length c' (strs (valsF fs name)) → (∀ b ∈ bks A', w.heap.size ≤ b) → Kp [] w w' → R (.returned (.slice A' (valsF fs name).length c')) w') :
    Calls Tryz.prog 74 #[.agg #[.string (S m), .string (S t), .int .i64 minor, .slice A fs.length c, .bool cl], .string (S name)] w R := by
  have H := Lib.hid h
  have HR := Lib.hid hr
  clear h hr
  go_enter Tryz.func74, Tryz.ntmps74
  go_wp2
  go_loopw [5, 11] (fun sv iv wr => ∃ (k mm : Nat) (A' : Option Addr) (c' : Nat), k ≤ fs.length ∧ iv = .int .i64 k ∧ sv = .slice A' mm c' ∧ mm ≤ k ∧ Hid (mm = (valsF (fs.take k) name).length) ∧ Ow wr 9 1 A' mm c' (strs (valsF (fs.take k) name)) ∧ (∀ b ∈ bks A', w.heap.size ≤ b) ∧ Kp [] w wr) (fun _ iv _ => fs.length - (intOf iv).toNat)
  case atStart => exact ⟨0, 0, none, 0, Nat.zero_le _, rfl, rfl, Nat.zero_le _, Lib.hid rfl, Ow.nil, by simp [bks], (Kp.refl _ _).alloc _⟩
  case round =>
    obtain ⟨k, mm, A', c', hk, rfl, rfl, hmk, hmm, ho, hA, kr⟩ := hrel
    by_cases hlt : k < fs.length
    · obtain ⟨x, hx⟩ : ∃ x, fs[k]? = some x := ⟨_, List.getElem?_eq_getElem hlt⟩
      have HV := Lib.hid (valsF_take hx name)
      obtain ⟨b, off, rfl, _, hbl, hc⟩ := rd_at HR.out fldC_len (by decide) hx
      have hc0 : wr.cell? ⟨b, off + k * 2, none⟩ = some (.string (S x.1)) := (kr.cell (p := ⟨b, off + k * 2, none⟩) hbl (by simp)).trans (hc 0 _ rfl)
      have hc1 : wr.cell? ⟨b, off + k * 2 + 1, none⟩ = some (.string (S x.2)) := (kr.cell (p := ⟨b, off + k * 2 + 1, none⟩) hbl (by simp)).trans (hc 1 _ rfl)
      clear hc hx
      cases hq : (x.1 == name)
      · have HV2 : Hid (valsF (fs.take (k + 1)) name = valsF (fs.take k) name) := Lib.hid (by rw [HV.out, hq]; simp)
        clear HV
        go_wp2
        refine ⟨⟨k + 1, mm, A', c', by omega, by go_num, rfl, by omega, Lib.hid ?_, ?_, hA, kr.alloc _⟩, by simp [intOf]; omega⟩
        · rw [HV2.out]; exact hmm.out
        · rw [HV2.out]; exact ho.alloc _
      · have HV2 : Hid (valsF (fs.take (k + 1)) name = valsF (fs.take k) name ++ [x.2]) := Lib.hid (by rw [HV.out, hq]; simp)
        clear HV
        go_wp2_with (at_builtin; refine wpList_app _ rfl (.tmp 19) (.tmp 22) _ rfl elt_str A' mm c' _ rfl ((ho.alloc _).alloc _) [] _ 1 1 (strs [x.2]) rfl (app_at (by simp)) rfl (strs_one _) (by omega) ?_; intro A2 c2 w3 ho3 hk3 hA3)
        refine ⟨⟨k + 1, mm + 1, A2, c2, by omega, by go_num, rfl, by omega, Lib.hid ?_, ho3.cast rfl ?_, bks_app hA3 hA (by have := kr.size; simp; omega), ((kr.alloc _).alloc _).thn hk3 (fun s hs => .inr (hA s hs))⟩, by simp [intOf]; omega⟩
        · rw [HV2.out, List.length_append, ← hmm.out]; rfl
        · rw [HV2.out, strs_append]
    · have e : fs.take k = fs := List.take_of_length_le (by omega)
      rw [e] at hmm ho
      have HM := hmm.out
      clear e
      subst HM
      go_wp2
      exact H.out A' c' _ ho hA kr

theorem join_gen {R : Ending → World → Prop} {w : World} {A : Option Addr} {n c : Nat} (ps : List (List UInt8)) (x : List UInt8) (ho : Ow w 9 1 A n c (strs ps)) (hc : n ≤ 2000000) (hlen : (Lib.join ps x).length ≤ 100000000)
    (h : ∀ w', Kp [] w w' → R (.returned (.string (S (Lib.join ps x)))) w') : Calls Tryz.prog 73 #[.slice A n c, .string ⟨x.toArray⟩] w R := by
  have hl := ho.len
  simp only [strs, List.length_map, Nat.mul_one] at hl
  by_cases hn : 0 < n
  · obtain ⟨g, rfl, hg⟩ := ho.form hn
    have hcap : n ≤ c := by
      rcases ho.2 with ⟨hv, h0⟩ | ⟨g', cap, cur, hv, _, _, hnc, _⟩
      · omega
      · injection hv with _ _ hc'; omega
    have hcells : ∀ (j : Nat) y, (ps.map S)[j]? = some y → w.cell? ⟨g, 0 + j, none⟩ = some (.string y) := by
      intro j y hy
      obtain ⟨b, off, hb, _, _, hcc⟩ := ho.rd (N := []) (by simp) (by intro e; simp [strs] at e; subst e; simp at hl; omega)
      cases hb
      refine hcc j _ ?_
      simp only [strs, List.getElem?_map] at hy ⊢
      cases hp : ps[j]? with
      | none => rw [hp] at hy; cases hy
      | some p => rw [hp] at hy; simp at hy; subst hy; simp
    have e1 : (ps.map S).map (·.data.toList) = ps := by
      rw [List.map_map]; conv => rhs; rw [← List.map_id ps]
      exact List.map_congr_left (fun s _ => S_data s)
    have e2 : ((⟨x.toArray⟩ : ByteArray)).data.toList = x := by simp
    have hcon := Tryz.strings_Join g 0 c (ps.map S) ⟨x.toArray⟩ w hcells hg (by rw [List.length_map]; omega) (by rw [List.length_map]; omega) (by rw [e1, e2]; omega)
    rw [List.length_map, hl, e1, e2] at hcon
    refine hcon.mono fun e w' ⟨he, hw⟩ => ?_
    subst he
    exact h w' (Kp.of_below hw)
  · have h0 : n = 0 := by omega
    subst h0
    have hp : ps = [] := List.eq_nil_of_length_eq_zero hl
    subst hp
    refine (Tryz.strings_Join_none A c ⟨x.toArray⟩ w).mono fun e w' ⟨he, hw⟩ => ?_
    subst he; subst hw
    exact h _ (Kp.refl _ _)
set_option maxHeartbeats 2000000 in
theorem all_any' {R : Ending → World → Prop} (fs : List Fd) (name m t : List UInt8) (minor : Int) (cl : Bool) {A : Option Addr} {c : Nat} (w : World) (hr : Rd w [] A (fs.flatMap fldC)) (hn : fs.length ≤ 100000) (hlen : (allF fs name).length ≤ 100000000)
    (h : ∀ w', Kp [] w w' → R (.returned (.string (S (allF fs name)))) w') :
    Calls Tryz.prog 46 #[.agg #[.string (S m), .string (S t), .int .i64 minor, .slice A fs.length c, .bool cl], .string (S name)] w R := by
  have H := Lib.hid h
  have HR := Lib.hid hr
  have HL := Lib.hid hlen
  have hv := valsF_len fs name
  clear h hr hlen
  have HJ : Hid (∀ (R : Ending → World → Prop) (w1 : World) (A' : Option Addr) (c' : Nat), Ow w1 9 1 A' (valsF fs name).length c' (strs (valsF fs name)) → (∀ w', Kp [] w1 w' → R (.returned (.string (S (allF fs name)))) w') → Calls Tryz.prog 73 #[.slice A' (valsF fs name).length c', .string ⟨#[44, 32]⟩] w1 R) := Lib.hid (fun R w1 A' c' ho h => join_gen (valsF fs name) [44, 32] ho (by omega) HL.out h)
  go_enter Tryz.func46, Tryz.ntmps46
  go_wp2_with (first | (go_at_call 74; ((refine values_any fs name m t minor cl _ (HR.out.kp ((Kp.refl [] w).alloc _) (by simp)) hn ?_); intro A' c' w1 ho hA k1)) | (go_at_call 73; ((refine HJ.out _ _ _ _ ho ?_); intro w2 k2)))
  exact H.out _ ((((Kp.refl _ _).alloc _).trans k1).trans k2)
theorem valsF_app (a b : List Fd) (name : List UInt8) : valsF (a ++ b) name = valsF a name ++ valsF b name := by simp [valsF]
theorem getF_at {fs : List Fd} {k : Nat} {x : Fd} {name : List UInt8} (hx : fs[k]? = some x) (h0 : valsF (fs.take k) name = []) (hq : (x.1 == name) = true) : getF fs name = (x.2, true) := by
  have hk : k < fs.length := (List.getElem?_eq_some_iff.1 hx).1
  have e : fs[k] = x := (List.getElem?_eq_some_iff.1 hx).2
  have e2 : fs = fs.take k ++ x :: fs.drop (k + 1) := by rw [← e, ← List.drop_eq_getElem_cons hk, List.take_append_drop]
  have e3 : valsF fs name = x.2 :: valsF (fs.drop (k + 1)) name := by
    conv => lhs; rw [e2]
    rw [valsF_app, h0, List.nil_append]
    simp [valsF, List.filter_cons, hq]
  unfold getF; rw [e3]
theorem getF_no {fs : List Fd} {name : List UInt8} (h : valsF fs name = []) : getF fs name = ([], false) := by unfold getF; rw [h]
theorem getf_any {R : Ending → World → Prop} (x : Fd) (name : List UInt8) (b o : Nat) (w : World) (hq : w.cell? ⟨b, o, none⟩ = some (.string (S name))) (h : ∀ w', Kp [] w w' → R (.returned (.bool (x.1 == name))) w') :
    Calls Tryz.prog 111 #[.agg #[.string (S x.1), .string (S x.2)], .pointer (some ⟨b, o, none⟩)] w R := by
  have H := Lib.hid h
  have hb := World.block_lt_of_cell? w _ hq
  clear h
  go_enter Tryz.func111, Tryz.ntmps111
  go_wp2
  exact H.out _ ((Kp.refl _ _).alloc _)
set_option maxHeartbeats 2000000 in
theorem idxf_any {R : Ending → World → Prop} (fs : List Fd) (name : List UInt8) {A : Option Addr} {c : Nat} (b o : Nat) (w : World) (hq : w.cell? ⟨b, o, none⟩ = some (.string (S name))) (hr : Rd w [] A (fs.flatMap fldC)) (hn : fs.length ≤ 100000)
    (hno : getF fs name = ([], false) → ∀ w', Kp [] w w' → R (.returned (.int .i64 (-1))) w') (hyes : ∀ k x, fs[k]? = some x → getF fs name = (x.2, true) → ∀ w', Kp [] w w' → R (.returned (.int .i64 (k : Nat))) w') :
    Calls Tryz.prog 110 #[.slice A fs.length c, .func (.func 111) #[] #[.pointer (some ⟨b, o, none⟩)]] w R := by
  have HN := Lib.hid hno
  have HY := Lib.hid hyes
  have HR := Lib.hid hr
  have HQ := Lib.hid hq
  have hb := World.block_lt_of_cell? w _ hq
  have he : ∀ (args : Array Value) (w : World), (callFunc 111 args).run Tryz.prog w = .ok (.enter 111 args) w := enters_of Tryz.func111 (by kernel_rfl) rfl
  clear hno hyes hr hq
  go_enter Tryz.func110, Tryz.ntmps110
  go_wp2
  go_loopw [5, 8] (fun _ iv wr => ∃ k : Nat, k ≤ fs.length ∧ iv = .int .i64 k ∧ Hid (valsF (fs.take k) name = []) ∧ Kp [] w wr) (fun _ iv _ => fs.length - (intOf iv).toNat)
  case atStart => exact ⟨0, Nat.zero_le _, rfl, Lib.hid rfl, Kp.refl _ _⟩
  case round =>
    obtain ⟨k, hk, rfl, hv, kr⟩ := hrel
    by_cases hlt : k < fs.length
    · obtain ⟨x, hx⟩ : ∃ x, fs[k]? = some x := ⟨_, List.getElem?_eq_getElem hlt⟩
      have HV := Lib.hid (valsF_take hx name)
      obtain ⟨g, off, rfl, _, hgl, hc⟩ := rd_at HR.out fldC_len (by decide) hx
      have hc0 : wr.cell? ⟨g, off + k * 2, none⟩ = some (.string (S x.1)) := (kr.cell (p := ⟨g, off + k * 2, none⟩) hgl (by simp)).trans (hc 0 _ rfl)
      have hc1 : wr.cell? ⟨g, off + k * 2 + 1, none⟩ = some (.string (S x.2)) := (kr.cell (p := ⟨g, off + k * 2 + 1, none⟩) hgl (by simp)).trans (hc 1 _ rfl)
      have HC := Lib.hid ((kr.cell (p := ⟨b, o, none⟩) hb (by simp)).trans HQ.out)
      have HX := Lib.hid hx
      clear hc hx
      cases hq : (x.1 == name)
      · have HV2 : Hid (valsF (fs.take (k + 1)) name = []) := Lib.hid (by rw [HV.out, hv.out, hq]; rfl)
        have HB := Lib.hid hq
        clear HV hq
        go_wp2_with ((refine getf_any x name b o _ HC.out ?_); intro w2 k2; rw [HB.out])
        exact ⟨⟨k + 1, by omega, by go_num, HV2, kr.trans k2⟩, by simp [intOf]; omega⟩
      · have HB := Lib.hid hq
        clear HV hq
        go_wp2_with ((refine getf_any x name b o _ HC.out ?_); intro w2 k2; rw [HB.out])
        exact HY.out k x HX.out (getF_at HX.out hv.out HB.out) _ (kr.trans k2)
    · have e : fs.take k = fs := List.take_of_length_le (by omega)
      rw [e] at hv
      clear e
      go_wp2
      exact HN.out (getF_no hv.out) _ kr
set_option maxHeartbeats 2000000 in
theorem get_any {R : Ending → World → Prop} (fs : List Fd) (name m t : List UInt8) (minor : Int) (cl : Bool) {A : Option Addr} {c : Nat} (w : World) (hr : Rd w [] A (fs.flatMap fldC)) (hn : fs.length ≤ 100000) (hcap : fs.length ≤ c)
    (h : ∀ w', Kp [] w w' → R (.returned (.tuple #[.string (S (getF fs name).1), .bool (getF fs name).2])) w') :
    Calls Tryz.prog 64 #[.agg #[.string (S m), .string (S t), .int .i64 minor, .slice A fs.length c, .bool cl], .string (S name)] w R := by
  have H := Lib.hid h
  have HR := Lib.hid hr
  clear h hr
  by_cases hv : valsF fs name = []
  · have HG := Lib.hid (getF_no hv)
    clear hv
    go_enter Tryz.func64, Tryz.ntmps64
    go_wp2_with (go_at_call 110; (refine idxf_any fs name (w.heap.size + 1) 0 _ (by simp) (HR.out.kp (((Kp.refl [] w).alloc _).alloc _) (by simp)) hn ?_ (fun k x _ hg => by rw [HG.out] at hg; simp at hg)); intro _ w1 k1)
    rw [HG.out] at H
    exact H.out _ ((((Kp.refl _ _).alloc _).alloc _).trans k1)
  · have HG : Hid (getF fs name ≠ ([], false)) := Lib.hid (by
      unfold getF
      cases he : valsF fs name with
      | nil => exact absurd he hv
      | cons v r => simp)
    clear hv
    go_enter Tryz.func64, Tryz.ntmps64
    go_wp2_with (go_at_call 110; (refine idxf_any fs name (w.heap.size + 1) 0 _ (by simp) (HR.out.kp (((Kp.refl [] w).alloc _).alloc _) (by simp)) hn (fun hg => absurd hg HG.out) ?_); intro k x hx hg w1 k1; have HX := Lib.hid hx; have HY := Lib.hid hg; have hk := (List.getElem?_eq_some_iff.1 hx).1; clear hx hg; have hc3 : w1.cell? ⟨w.heap.size, 3, none⟩ = some (.slice A fs.length c) := (k1.cell (p := ⟨w.heap.size, 3, none⟩) (by simp; omega) (by simp)).trans (by simp); obtain ⟨b, off, rfl, _, hgl, hc⟩ := rd_at (HR.out.kp ((((Kp.refl [] w).alloc _).alloc _).trans k1) (by simp)) fldC_len (by decide) HX.out; have hc1 := hc 1 _ rfl; clear hc)
    rw [HY.out] at H
    exact H.out _ ((((Kp.refl _ _).alloc _).alloc _).trans k1)
end
/-! ### lex.Line: a scope with a label behind and one ahead. -/
section
open Go.RowKit
set_option linter.unusedVariables false
set_option linter.unusedSimpArgs false
set_option maxRecDepth 100000

/-- As Q; by a goto to l0: J; by a goto to l1: K. -/
def Exit.jump2 (l0 l1 : Nat) (J K : Act → World → Prop) (Q : Exit → Act → World → Prop) : Exit → Act → World → Prop
  | .goto l', a, w => (l' = l0 ∧ J a w) ∨ (l' = l1 ∧ K a w)
  | e, a, w => Q e a w
theorem wp_scope_two {P : Program} {a : Act} {w : World} {Q : Exit → Act → World → Prop} {c r0 r1 : Code} (l0 l1 : Nat) (J : Act → World → Prop) (μ : Act → World → Nat)
    (hf0 : findLabel c l0 = some (Code.skip.seq r0)) (hf1 : findLabel c l1 = some r1) (hQ : ∀ l a w, ¬ Q (.goto l) a w)
    (first0 : Hid (∀ a w, J a w → r0.wp P (Exit.jump2 l0 l1 J (fun a w => r1.wp P Q a w) Q) a w) → c.wp P (Exit.jump2 l0 l1 J (fun a w => r1.wp P Q a w) Q) a w)
    (pass0 : ∀ a w, J a w → r0.wp P (Exit.jump2 l0 l1 (fun a' w' => J a' w' ∧ μ a' w' < μ a w) (fun a w => r1.wp P Q a w) Q) a w) : (Code.scope c).wp P Q a w := by
  have first := first0 (Lib.hid fun a w hJ => wp_mono (pass0 a w hJ) (fun e a' w' hq => by
    cases e with
    | goto l' => exact hq.imp (fun h => ⟨h.1, h.2.1⟩) id
    | normal => exact hq
    | exit id => exact hq
    | ret => exact hq
    | panic ch => exact hq
    | outgrown => exact hq))
  have pass : ∀ a w, J a w → (Code.skip.seq r0).wp P (Exit.jump2 l0 l1 (fun a' w' => J a' w' ∧ μ a' w' < μ a w) (fun a w => r1.wp P Q a w) Q) a w := fun a w hJ => wp_seq (wp_skip (pass0 a w hJ))
  intro b k cs
  have hg0 : gotoIn l0 (.inScope c :: k) = some (.code (Code.skip.seq r0) :: .inScope c :: k) := by simp [gotoIn, hf0]
  have hg1 : gotoIn l1 (.inScope c :: k) = some (.code r1 :: .inScope c :: k) := by simp [gotoIn, hf1]
  have fin : ∀ a w, r1.wp P Q a w → ∃ e a' w', Q e a' w' ∧ Arrives P (lone (b.at a (.code r1 :: .inScope c :: k)) cs w) b k cs e a' w' := by
    intro a w h
    obtain ⟨e, a₁, w₁, hq, harr⟩ := h b (.inScope c :: k) cs
    cases e with
    | normal => exact ⟨.normal, a₁, w₁, hq, Steps.trans harr (.one step_inScope)⟩
    | exit id => exact ⟨.exit id, a₁, w₁, hq, fun k' hk => harr k' (by simp [exitTo, hk])⟩
    | goto l' => exact absurd hq (hQ _ _ _)
    | ret => exact ⟨_, a₁, w₁, hq, harr⟩
    | panic ch => exact ⟨_, a₁, w₁, hq, harr⟩
    | outgrown => exact ⟨_, a₁, w₁, hq, harr⟩
  have key : ∀ n a w, μ a w = n → J a w → ∃ e a' w', Q e a' w' ∧ Arrives P (lone (b.at a (.code (Code.skip.seq r0) :: .inScope c :: k)) cs w) b k cs e a' w' := by
    intro n
    induction n using Nat.strongRecOn with
    | _ n ih =>
      intro a w hn hJ
      obtain ⟨e, a₁, w₁, hq, harr⟩ := pass a w hJ b (.inScope c :: k) cs
      cases e with
      | normal => exact ⟨.normal, a₁, w₁, hq, Steps.trans harr (.one step_inScope)⟩
      | exit id => exact ⟨.exit id, a₁, w₁, hq, fun k' hk => harr k' (by simp [exitTo, hk])⟩
      | goto l' =>
        rcases hq with ⟨rfl, hJ', hlt⟩ | ⟨rfl, hK⟩
        · obtain ⟨e₂, a₂, w₂, hq₂, harr₂⟩ := ih _ (by omega) a₁ w₁ rfl hJ'
          exact ⟨e₂, a₂, w₂, hq₂, .of_steps (harr _ hg0) harr₂⟩
        · obtain ⟨e₂, a₂, w₂, hq₂, harr₂⟩ := fin a₁ w₁ hK
          exact ⟨e₂, a₂, w₂, hq₂, .of_steps (harr _ hg1) harr₂⟩
      | ret => exact ⟨_, a₁, w₁, hq, harr⟩
      | panic ch => exact ⟨_, a₁, w₁, hq, harr⟩
      | outgrown => exact ⟨_, a₁, w₁, hq, harr⟩
  obtain ⟨e, a₁, w₁, hq, harr⟩ := first b (.inScope c :: k) cs
  cases e with
  | normal => exact ⟨.normal, a₁, w₁, hq, .head step_scope (Steps.trans harr (.one step_inScope))⟩
  | exit id => exact ⟨.exit id, a₁, w₁, hq, fun k' hk => .head step_scope (harr k' (by simp [exitTo, hk]))⟩
  | goto l' =>
    rcases hq with ⟨rfl, hJ'⟩ | ⟨rfl, hK⟩
    · obtain ⟨e₂, a₂, w₂, hq₂, harr₂⟩ := key _ a₁ w₁ rfl hJ'
      exact ⟨e₂, a₂, w₂, hq₂, .of_steps (.head step_scope (harr _ hg0)) harr₂⟩
    · obtain ⟨e₂, a₂, w₂, hq₂, harr₂⟩ := fin a₁ w₁ hK
      exact ⟨e₂, a₂, w₂, hq₂, .of_steps (.head step_scope (harr _ hg1)) harr₂⟩
  | ret => exact ⟨_, a₁, w₁, hq, .of_steps (.one step_scope) harr⟩
  | panic ch => exact ⟨_, a₁, w₁, hq, .of_steps (.one step_scope) harr⟩
  | outgrown => exact ⟨_, a₁, w₁, hq, .of_steps (.one step_scope) harr⟩
/-- The frame at the label: the place k, ahead of which neither byte stands. -/
def LineJ (s : List UInt8) (w : World) (a : Act) (w' : World) : Prop :=
  w' = w ∧ ∃ k : Nat, k ≤ s.length ∧ (∀ c ∈ s.take k, c ≠ 10 ∧ c ≠ 13) ∧ ∃ (u7 u8 u9 u10 u11 u12 u13 u14 u15 u16 u17 u18 u19 u20 u21 u22 u23 u24 u25 u26 u27 u28 u29 u30 u31 u32 u33 u34 u35 u36 u37 u38 : Value), a = { tmps := #[.string (S s), undef, .string ⟨#[]⟩, .string ⟨#[]⟩, .bool false, .int .i64 0, .int .i64 k, u7, u8, u9, u10, u11, u12, u13, u14, u15, u16, u17, u18, u19, u20, u21, u22, u23, u24, u25, u26, u27, u28, u29, u30, u31, u32, u33, u34, u35, u36, u37, u38], defers := [] }
theorem line_at {s : List UInt8} {k : Nat} (h : ∀ c ∈ s.take k, c ≠ 10 ∧ c ≠ 13) : lineL s = preR (s.take k) (lineL (s.drop k)) := by
  conv => lhs; rw [← List.take_append_drop k s]
  exact lineL_pre _ _ h
theorem pre_nil {p : List UInt8} {s : List UInt8} {k : Nat} (hp : p = s.take k) (hk : k ≤ s.length) : True := trivial
theorem u8_ne {x : UInt8} {n : Nat} (hn : n < 256) (h : x.toNat ≠ n) : x ≠ UInt8.ofNat n := by
  rintro rfl; simp at h; omega
set_option maxHeartbeats 4000000 in
theorem line_any {R : Ending → World → Prop} (s : List UInt8) (w : World) (hs : s.length ≤ 2000000) (h : ∀ w', Kp [] w w' → R (.returned (lineV s (lineL s))) w') : Calls Tryz.prog 103 #[.string (S s)] w R := by
  have H := Lib.hid h
  clear h
  go_enter Tryz.func103, Tryz.ntmps103
  go_wp2
  refine wp_scope_two 0 1 (LineJ s w) (fun a' _ => s.length - (intOf (a'.tmps.getD 6 undef)).toNat) rfl rfl (fun _ _ _ h => h) ?_ ?_
  · intro core
    go_wp2
    go_step3
    rename_i Q1 K1 hK
    refine hK _ _ (core.out _ _ ⟨rfl, 0, Nat.zero_le _, by simp, ⟨_, _, _, _, _, _, _, _, _, _, _, _, _, _, _, _, _, _, _, _, _, _, _, _, _, _, _, _, _, _, _, _, rfl⟩⟩)
  · rintro a' w' ⟨rfl, k, hk, hq, u7, u8, u9, u10, u11, u12, u13, u14, u15, u16, u17, u18, u19, u20, u21, u22, u23, u24, u25, u26, u27, u28, u29, u30, u31, u32, u33, u34, u35, u36, u37, u38, rfl⟩
    have HQ := Lib.hid hq
    clear hq
    have hsz : (S s).size = s.length := S_size s
    clear hsz
    by_cases hlt : k < s.length
    · obtain ⟨x, hx⟩ : ∃ x, s[k]'hlt = x := ⟨_, rfl⟩
      have hxl := x.toNat_lt
      have hd : s.drop k = x :: s.drop (k + 1) := by rw [List.drop_eq_getElem_cons hlt, hx]
      have HD := Lib.hid hd
      clear hd
      by_cases h10 : x.toNat = 10
      · have e10 : ((x.toNat : Int) == 10) = true := by simp [h10]
        have HL : Hid (lineL s = .wrong) := Lib.hid (by
          rw [line_at HQ.out, HD.out, lineL, if_pos (UInt8.toNat_inj.1 h10)]; rfl)
        clear h10
        go_wp2
        go_step3
        refine .inr ⟨rfl, ?_⟩
        go_wp2
        exact bodyPost_ret (v := lineV s .wrong) (by simp [results, Tryz.results103, go_sem]; rfl) rfl (HL.out ▸ H.out _ (Kp.refl _ _))
      · have e10 : ((x.toNat : Int) == 10) = false := by simp; omega
        by_cases h13 : x.toNat = 13
        · have e13 : ((x.toNat : Int) == 13) = true := by simp [h13]
          have HL0 : Hid (lineL s = preR (s.take k) (crR (s.drop (k + 1)))) := Lib.hid (by
            rw [line_at HQ.out, HD.out, lineL, if_neg (fun h => by subst h; exact h10 rfl), if_pos (UInt8.toNat_inj.1 h13)])
          clear h13 h10
          by_cases hl2 : k + 1 = s.length
          · have HL : Hid (lineL s = .more) := Lib.hid (by
              rw [HL0.out, List.drop_eq_nil_of_le (by omega)]; rfl)
            have e2 : ((k : Int) + 1 == (s.length : Int)) = true := by simp; omega
            clear hl2
            go_wp2
            exact bodyPost_ret (v := lineV s .more) (by simp [results, Tryz.results103, go_sem]; rfl) rfl (HL.out ▸ H.out _ (Kp.refl _ _))
          · have hlt2 : k + 1 < s.length := by omega
            have e2 : ((k : Int) + 1 == (s.length : Int)) = false := by simp; omega
            obtain ⟨y, hy⟩ : ∃ y, s[k + 1]'hlt2 = y := ⟨_, rfl⟩
            have hyl := y.toNat_lt
            have HD2 := Lib.hid (show s.drop (k + 1) = y :: s.drop (k + 2) by rw [List.drop_eq_getElem_cons hlt2, hy])
            have et : ((k : Int) + 1).toNat = k + 1 := by omega
            by_cases hy10 : y.toNat = 10
            · have ey : ((y.toNat : Int) == 10) = true := by simp [hy10]
              have HL : Hid (lineL s = .got (s.take k) (s.drop (k + 2))) := Lib.hid (by
                rw [HL0.out, HD2.out, crR, if_pos (UInt8.toNat_inj.1 hy10), preR, List.append_nil])
              clear hy10 hl2
              have hw2 : IntKind.i64.wrap ((k : Int) + 2) = (k : Int) + 2 := IntWalk.i64_in _ (by omega)
              have ht2 : ((k : Int) + 2).toNat = k + 2 := by omega
              have htk : (s.drop (k + 2)).take (s.length - (k + 2)) = s.drop (k + 2) := List.take_of_length_le (by simp)
              go_wp2
              go_quiet (fail)
              go_wp2
              exact bodyPost_ret (v := lineV s (.got (s.take k) (s.drop (k + 2)))) (by simp [results, Tryz.results103, go_sem, lineV]) rfl (HL.out ▸ H.out _ ((Kp.refl _ _).drewN _))
            · have ey : ((y.toNat : Int) == 10) = false := by simp; omega
              have HL : Hid (lineL s = .wrong) := Lib.hid (by
                rw [HL0.out, HD2.out, crR, if_neg (fun h => by subst h; exact hy10 rfl), preR])
              clear hy10 hl2
              go_wp2
              go_step3
              refine .inr ⟨rfl, ?_⟩
              go_wp2
              exact bodyPost_ret (v := lineV s .wrong) (by simp [results, Tryz.results103, go_sem]; rfl) rfl (HL.out ▸ H.out _ (Kp.refl _ _))
        · have e13 : ((x.toNat : Int) == 13) = false := by simp; omega
          have HQ2 : Hid (∀ c ∈ s.take (k + 1), c ≠ 10 ∧ c ≠ 13) := Lib.hid (fun c hc => by
            rw [List.take_succ_eq_append_getElem hlt, hx] at hc
            rcases List.mem_append.1 hc with hc | hc
            · exact HQ.out c hc
            · simp at hc; subst hc
              exact ⟨fun h => by subst h; exact h10 rfl, fun h => by subst h; exact h13 rfl⟩)
          clear h10 h13
          go_wp2
          go_step3
          exact .inl ⟨rfl, ⟨rfl, k + 1, by omega, HQ2.out, ⟨_, _, _, _, _, _, _, _, _, _, _, _, _, _, _, _, _, _, _, _, _, _, _, _, _, _, _, _, _, _, _, _, rfl⟩⟩, by simp [intOf]; omega⟩
    · have HL : Hid (lineL s = .more) := Lib.hid (by
        rw [line_at HQ.out, List.drop_eq_nil_of_le (by omega)]; rfl)
      have e2 : ((k : Int) == (s.length : Int)) = true := by simp; omega
      go_wp2
      exact bodyPost_ret (v := lineV s .more) (by simp [results, Tryz.results103, go_sem]; rfl) rfl (HL.out ▸ H.out _ (Kp.refl _ _))
end
/-! ### The walks of package request: a head. -/
section
open Go.RowKit Go.Shelf
set_option linter.unusedVariables false
set_option linter.unusedSimpArgs false
set_option maxRecDepth 100000

def sLen : Value → Nat | .string b => b.size | _ => 0
theorem headF_wrong {f n : Nat} {ls : List (List UInt8)} {s : List UInt8} (h : lineL s = .wrong) : headF (f + 1) n ls s = ([], [], 400) := by rw [headF, h]
theorem headF_more {f n : Nat} {ls : List (List UInt8)} {s : List UInt8} (h : lineL s = .more) : headF (f + 1) n ls s = if 1024 ≤ n then ([], [], 431) else ([], [], -1) := by rw [headF, h]
theorem headF_got {f n : Nat} {ls : List (List UInt8)} {s l a : List UInt8} (h : lineL s = .got l a) : headF (f + 1) n ls s = if 1024 < n - a.length then ([], [], 431) else if l ≠ [] then headF f n (ls ++ [l]) a else if ls ≠ [] then (ls, a, 0) else headF f n ls a := by rw [headF, h]
def headV (A : Option Addr) (c : Nat) (p : List (List UInt8) × List UInt8 × Int) : Value := .tuple #[.slice A p.1.length c, .string (S p.2.1), .int .i64 p.2.2]
set_option maxHeartbeats 4000000 in
theorem head_any {R : Ending → World → Prop} (s : List UInt8) (w : World) (hs : s.length ≤ 100000)
    (h : ∀ A c w', Ow w' 9 1 A (headF (s.length + 1) s.length [] s).1.length c (strs (headF (s.length + 1) s.length [] s).1) → (∀ b ∈ bks A, w.heap.size ≤ b) → Kp [] w w' → R (.returned (headV A c (headF (s.length + 1) s.length [] s))) w') :
    Calls Tryz.prog 60 #[.string (S s)] w R := by
  obtain ⟨p, hp⟩ : ∃ p, headF (s.length + 1) s.length [] s = p := ⟨_, rfl⟩
  rw [hp] at h
  have H := Lib.hid h
  have HP := Lib.hid hp
  clear h hp
  go_enter Tryz.func60, Tryz.ntmps60
  go_wp2
  go_loopw [2, 3] (fun lv rv wr => ∃ (ls : List (List UInt8)) (rest : List UInt8) (n : Nat) (A : Option Addr) (c : Nat), lv = .slice A n c ∧ rv = .string (S rest) ∧ n + rest.length ≤ s.length ∧ Hid (ls.length = n) ∧ Hid (headF (rest.length + 1) s.length ls rest = p) ∧ Ow wr 9 1 A n c (strs ls) ∧ (∀ b ∈ bks A, w.heap.size ≤ b) ∧ Kp [] w wr) (fun _ rv _ => sLen rv)
  case atStart => exact ⟨[], s, 0, none, 0, rfl, rfl, by omega, Lib.hid rfl, HP, Ow.nil, by simp [bks], Kp.refl _ _⟩
  case round =>
    obtain ⟨ls, rest, n, A, c, rfl, rfl, hn, hl, hh, ho, hA, kr⟩ := hrel
    cases hL : lineL rest with
    | wrong =>
      have HE : Hid (p = ([], [], 400)) := Lib.hid (by rw [← hh.out, headF_wrong hL])
      have HLi : Hid (∀ (R : Ending → World → Prop) (w : World), (∀ w', Kp [] w w' → R (.returned (.tuple #[.string (S []), .string (S []), .bool false, .int .i64 50])) w') → Calls Tryz.prog 103 #[.string (S rest)] w R) := Lib.hid (fun R w h => line_any rest w (by omega) (by rw [hL]; exact h))
      clear hL hh
      go_wp2_with (go_at_call 103; ((refine HLi.out _ _ ?_); intro w1 k1))
      have := H.out none 0 w1 (by rw [HE.out]; exact Ow.nil) (by simp [bks]) (kr.trans k1)
      exact bodyPost_ret (v := headV none 0 p) (by rw [HE.out]; simp [results, Tryz.results60, go_sem, headV] <;> rfl) rfl this
    | more =>
      have HLi : Hid (∀ (R : Ending → World → Prop) (w : World), (∀ w', Kp [] w w' → R (.returned (.tuple #[.string (S []), .string (S rest), .bool false, .int .i64 0])) w') → Calls Tryz.prog 103 #[.string (S rest)] w R) := Lib.hid (fun R w h => line_any rest w (by omega) (by rw [hL]; exact h))
      by_cases h1 : 1024 ≤ s.length
      · have HE : Hid (p = ([], [], 431)) := Lib.hid (by rw [← hh.out, headF_more hL, if_pos h1])
        clear hL hh
        go_wp2_with (go_at_call 103; ((refine HLi.out _ _ ?_); intro w1 k1))
        have := H.out none 0 w1 (by rw [HE.out]; exact Ow.nil) (by simp [bks]) (kr.trans k1)
        exact bodyPost_ret (v := headV none 0 p) (by rw [HE.out]; simp [results, Tryz.results60, go_sem, headV] <;> rfl) rfl this
      · have HE : Hid (p = ([], [], -1)) := Lib.hid (by rw [← hh.out, headF_more hL, if_neg h1])
        clear hL hh
        go_wp2_with (go_at_call 103; ((refine HLi.out _ _ ?_); intro w1 k1))
        have := H.out none 0 w1 (by rw [HE.out]; exact Ow.nil) (by simp [bks]) (kr.trans k1)
        exact bodyPost_ret (v := headV none 0 p) (by rw [HE.out]; simp [results, Tryz.results60, go_sem, headV] <;> rfl) rfl this
    | got l a =>
      have hal := lineL_len hL
      have HG : Hid (p = if 1024 < s.length - a.length then ([], [], 431) else if l ≠ [] then headF rest.length s.length (ls ++ [l]) a else if ls ≠ [] then (ls, a, 0) else headF rest.length s.length ls a) := Lib.hid (by rw [← hh.out, headF_got hL])
      have HLi : Hid (∀ (R : Ending → World → Prop) (w : World), (∀ w', Kp [] w w' → R (.returned (.tuple #[.string (S l), .string (S a), .bool true, .int .i64 0])) w') → Calls Tryz.prog 103 #[.string (S rest)] w R) := Lib.hid (fun R w h => line_any rest w (by omega) (by rw [hL]; exact h))
      clear hL hh
      by_cases h1 : 1024 < s.length - a.length
      · have HE : Hid (p = ([], [], 431)) := Lib.hid (by rw [HG.out, if_pos h1])
        have h2 : 1024 < (s.length : Int) - (a.length : Int) := by omega
        clear HG
        go_wp2_with (go_at_call 103; ((refine HLi.out _ _ ?_); intro w1 k1))
        have := H.out none 0 w1 (by rw [HE.out]; exact Ow.nil) (by simp [bks]) (kr.trans k1)
        exact bodyPost_ret (v := headV none 0 p) (by rw [HE.out]; simp [results, Tryz.results60, go_sem, headV] <;> rfl) rfl this
      · have h2 : ¬ 1024 < (s.length : Int) - (a.length : Int) := by omega
        have HG2 : Hid (p = if l ≠ [] then headF rest.length s.length (ls ++ [l]) a else if ls ≠ [] then (ls, a, 0) else headF rest.length s.length ls a) := Lib.hid (by rw [HG.out, if_neg h1])
        clear HG h1
        by_cases h3 : l = []
        · subst h3
          by_cases h4 : n = 0
          · subst h4
            have h5 : ls = [] := List.eq_nil_of_length_eq_zero hl.out
            have HE : Hid (headF (a.length + 1) s.length ls a = p) := Lib.hid (by rw [HG2.out, if_neg (by simp), if_neg (by simp [h5])]; exact headF_fuel _ _ _ _ _ (by omega) (by omega))
            clear HG2 h5
            go_wp2_with (go_at_call 103; ((refine HLi.out _ _ ?_); intro w1 k1))
            have hal2 : a.length + 2 = rest.length := by simpa using hal
            exact ⟨⟨ls, a, 0, A, c, rfl, rfl, by omega, hl, HE, ho.kp k1 (by simp), hA, kr.trans k1⟩, by simp [sLen, S_size] <;> omega⟩
          · have HE : Hid (p = (ls, a, 0)) := Lib.hid (by rw [HG2.out, if_neg (by simp), if_pos (by intro e; subst e; exact h4 hl.out.symm)])
            have h5 : 0 < n := by omega
            clear HG2 h4
            go_wp2_with (go_at_call 103; ((refine HLi.out _ _ ?_); intro w1 k1))
            have e := hl.out
            subst e
            have := H.out A c w1 (by rw [HE.out]; exact ho.kp k1 (by simp)) hA (kr.trans k1)
            exact bodyPost_ret (v := headV A c p) (by rw [HE.out]; simp [results, Tryz.results60, go_sem, headV]) rfl this
        · have bl : l.isEmpty = false := by simpa using h3
          have HE : Hid (headF (a.length + 1) s.length (ls ++ [l]) a = p) := Lib.hid (by rw [HG2.out, if_pos h3]; exact headF_fuel _ _ _ _ _ (by omega) (by omega))
          clear HG2 h3
          go_wp2_with (first | (go_at_call 103; ((refine HLi.out _ _ ?_); intro w1 k1; have ho2 := ho.kp k1 (by simp); have k12 := kr.trans k1)) | (at_builtin; refine wpList_app _ rfl (.tmp 45) (.tmp 47) _ rfl elt_str A n c _ rfl (ho2.alloc _) [] _ 1 1 (strs [l]) rfl (app_at rfl) rfl (strs_one _) (by omega) ?_; intro A2 c2 w3 ho3 hk3 hA3))
          exact ⟨⟨ls ++ [l], a, n + 1, A2, c2, rfl, rfl, by omega, Lib.hid (by simp [hl.out]), HE, ho3.cast rfl (strs_append _ _).symm, bks_app hA3 hA (by have := k12.size; simp; omega), (k12.alloc _).thn hk3 (fun s hs => .inr (hA s hs))⟩, by simp [sLen, S_size] <;> omega⟩
end
/-! ### The walks of package request: is a text among texts; does the connection end. -/
section
open Go.RowKit Go.Shelf
set_option linter.unusedVariables false
set_option linter.unusedSimpArgs false
set_option maxRecDepth 100000

theorem cont_take {ps : List (List UInt8)} {k : Nat} {y : List UInt8} (hy : ps[k]? = some y) (x : List UInt8) : (ps.take (k + 1)).contains x = ((ps.take k).contains x || x == y) := by
  have hk : k < ps.length := (List.getElem?_eq_some_iff.1 hy).1
  have e : ps[k] = y := (List.getElem?_eq_some_iff.1 hy).2
  rw [List.take_succ_eq_append_getElem hk, e]
  rw [List.contains_eq_any_beq, List.any_append, ← List.contains_eq_any_beq]; simp
theorem cont_mem {ps : List (List UInt8)} {k : Nat} {x : List UInt8} (hy : ps[k]? = some x) : ps.contains x = true := by
  rw [List.contains_iff_mem]; exact List.mem_of_getElem? hy
set_option maxHeartbeats 2000000 in
theorem sindex_any {R : Ending → World → Prop} (ps : List (List UInt8)) (x : List UInt8) {A : Option Addr} {c : Nat} (w : World) (hr : Rd w [] A (strs ps)) (hn : ps.length ≤ 2000000)
    (h : ∀ v : Int, decide (0 ≤ v) = ps.contains x → R (.returned (.int .i64 v)) w) :
    Calls Tryz.prog 157 #[.slice A ps.length c, .string (S x)] w R := by
  have H := Lib.hid h
  have HR := Lib.hid hr
  clear h hr
  go_enter Tryz.func157, Tryz.ntmps157
  go_wp2
  go_loop [5, 8] (fun _ iv => ∃ k : Nat, k ≤ ps.length ∧ iv = .int .i64 k ∧ Hid ((ps.take k).contains x = false)) (fun _ iv => ps.length - (intOf iv).toNat)
  case atStart => exact ⟨0, Nat.zero_le _, rfl, Lib.hid (by simp)⟩
  case round =>
    obtain ⟨k, hk, rfl, hv⟩ := hrel
    by_cases hlt : k < ps.length
    · obtain ⟨y, hy⟩ : ∃ y, ps[k]? = some y := ⟨_, List.getElem?_eq_getElem hlt⟩
      obtain ⟨g, off, rfl, _, hgl, hc⟩ := HR.out (by intro e; have := congrArg List.length e; rw [strs_len] at this; simp at this; rw [this] at hlt; simp at hlt)
      have hc0 : w.cell? ⟨g, off + k, none⟩ = some (.string (S y)) := hc k _ (by rw [strs_get, hy]; rfl)
      clear hc
      cases hq : (x == y)
      · have HV2 : Hid ((ps.take (k + 1)).contains x = false) := Lib.hid (by rw [cont_take hy, hv.out, hq]; rfl)
        clear hy
        go_wp2
        go_round
        case rel => exact ⟨k + 1, by omega, by go_num, HV2⟩
        case measure => simp [intOf]; omega
      · have HC : Hid (ps.contains x = true) := Lib.hid (by rw [beq_iff_eq.1 hq]; exact cont_mem hy)
        clear hy
        go_wp2
        refine H.out k ?_
        rw [HC.out]; simp
    · have e : ps.take k = ps := List.take_of_length_le (by omega)
      rw [e] at hv
      clear e
      go_wp2
      refine H.out (-1) ?_
      rw [hv.out]; rfl
theorem scont_any {R : Ending → World → Prop} (ps : List (List UInt8)) (x : List UInt8) {A : Option Addr} {c : Nat} (w : World) (hr : Rd w [] A (strs ps)) (hn : ps.length ≤ 2000000)
    (h : R (.returned (.bool (ps.contains x))) w) :
    Calls Tryz.prog 136 #[.slice A ps.length c, .string (S x)] w R := by
  have H := Lib.hid h
  have HR := Lib.hid hr
  clear h hr
  go_enter Tryz.func136, Tryz.ntmps136
  go_wp2_with (go_at_call 157; (refine sindex_any ps x _ HR.out hn ?_); intro v hv; have HV := Lib.hid hv; clear hv)
  all_goals (refine rcast H.out (congrArg Value.bool ?_); rw [← HV.out])
theorem scont_true {R : Ending → World → Prop} (ps : List (List UInt8)) (x : List UInt8) {A : Option Addr} {c : Nat} (w : World) (hr : Rd w [] A (strs ps)) (hn : ps.length ≤ 2000000) {b : Bool} (hb : ps.contains x = b)
    (h : R (.returned (.bool b)) w) : Calls Tryz.prog 136 #[.slice A ps.length c, .string (S x)] w R := scont_any ps x w hr hn (by rw [hb]; exact h)
theorem closes_lit {R : Ending → World → Prop} (ps : List (List UInt8)) {A : Option Addr} {c : Nat} (w : World) (hr : Rd w [] A (strs ps)) (hn : ps.length ≤ 2000000) {b : Bool} (hb : ps.contains closeL = b)
    (h : R (.returned (.bool b)) w) : Calls Tryz.prog 136 #[.slice A ps.length c, .string ⟨#[99, 108, 111, 115, 101]⟩] w R := scont_any ps closeL w hr hn (by rw [hb]; exact h)
theorem keep_lit {R : Ending → World → Prop} (ps : List (List UInt8)) {A : Option Addr} {c : Nat} (w : World) (hr : Rd w [] A (strs ps)) (hn : ps.length ≤ 2000000) {b : Bool} (hb : ps.contains keepL = b)
    (h : R (.returned (.bool b)) w) : Calls Tryz.prog 136 #[.slice A ps.length c, .string ⟨#[107, 101, 101, 112, 45, 97, 108, 105, 118, 101]⟩] w R := scont_any ps keepL w hr hn (by rw [hb]; exact h)
theorem conn_lit {R : Ending → World → Prop} (fs : List Fd) (m t : List UInt8) (minor : Int) (cl : Bool) {A : Option Addr} {c : Nat} (w : World) (hr : Rd w [] A (fs.flatMap fldC)) (hn : fs.length ≤ 100000) (hlen : (allF fs connL).length ≤ 100000000)
    (h : ∀ w', Kp [] w w' → R (.returned (.string (S (allF fs connL)))) w') :
    Calls Tryz.prog 46 #[.agg #[.string (S m), .string (S t), .int .i64 minor, .slice A fs.length c, .bool cl], .string ⟨#[99, 111, 110, 110, 101, 99, 116, 105, 111, 110]⟩] w R := all_any' fs connL m t minor cl w hr hn hlen h
set_option maxHeartbeats 2000000 in
theorem rcloses_any {R : Ending → World → Prop} (fs : List Fd) (m t : List UInt8) (minor : Int) (cl : Bool) {A : Option Addr} {c : Nat} (w : World) (hm : Ml w) (hr : Rd w [] A (fs.flatMap fldC)) (hn : fs.length ≤ 100000) (hlen : (allF fs connL).length ≤ 900000)
    (h : ∀ w', Kp [] w w' → R (.returned (.bool (closesF fs minor))) w') :
    Calls Tryz.prog 108 #[.agg #[.string (S m), .string (S t), .int .i64 minor, .slice A fs.length c, .bool cl]] w R := by
  have H := Lib.hid h
  have HR := Lib.hid hr
  have HLn := Lib.hid hlen
  obtain ⟨its, hits⟩ : ∃ its, itemsL (lowL (allF fs connL)) = its := ⟨_, rfl⟩
  have hil : its.length ≤ 900001 := by
    have := itemsL_len (lowL (allF fs connL)); rw [hits] at this
    have e : (lowL (allF fs connL)).length = (allF fs connL).length := by simp [lowL]
    omega
  have HI : Hid (∀ (R : Ending → World → Prop) (w1 : World), Ml w1 → (∀ A c w', Ow w' 9 1 A its.length c (strs its) → (∀ b ∈ bks A, w1.heap.size ≤ b) → Kp [] w1 w' → R (.returned (.slice A its.length c)) w') → Calls Tryz.prog 69 #[.string (S (lowL (allF fs connL)))] w1 R) := Lib.hid (by
    intro R w1 hm1 h
    refine items_any _ w1 (by simp [lowL]; omega) hm1 ?_
    rw [hits]; exact h)
  have HCF : Hid (closesF fs minor = (its.contains closeL || (decide (minor = 0) && !its.contains keepL))) := Lib.hid (by unfold closesF; rw [hits])
  clear h hr hlen hits
  obtain ⟨b1, hb1⟩ : ∃ b, its.contains closeL = b := ⟨_, rfl⟩
  obtain ⟨b2, hb2⟩ : ∃ b, its.contains keepL = b := ⟨_, rfl⟩
  rw [hb1, hb2] at HCF
  have HB1 := Lib.hid hb1
  have HB2 := Lib.hid hb2
  clear hb1 hb2
  by_cases hm0 : minor = 0
  · subst hm0
    cases b1 <;> cases b2
    all_goals
      go_enter Tryz.func108, Tryz.ntmps108
      go_wp2_with (first | (go_at_call 46; ((refine conn_lit fs m t 0 cl _ (HR.out.kp ((Kp.refl [] w).alloc _) (by simp)) hn (by have := HLn.out; omega) ?_); intro w1 k1)) | (go_at_call 70; ((refine lower_any _ _ (by have := HLn.out; omega) ?_); intro w2 k2)) | (go_at_call 69; ((refine HI.out _ _ (hm.kp ((((Kp.refl _ _).alloc _).trans k1).trans k2)) ?_); intro A2 c2 w3 ho3 hA3 k3; have HR3 := Lib.hid (ho3.rd (N := []) (by simp)); have kk := Lib.hid (((((Kp.refl [] w).alloc _).trans k1).trans k2).trans k3); have hc2 := (((k1.trans k2).trans k3).cell (p := ⟨w.heap.size, 2, none⟩) (by simp) (by simp)).trans (show _ = some (Value.int .i64 0) by simp); clear ho3 hA3)) | (go_at_call 136; (with_reducible refine closes_lit its _ HR3.out (by omega) HB1.out ?_)) | (go_at_call 136; (with_reducible refine keep_lit its _ HR3.out (by omega) HB2.out ?_)))
      exact rcast (H.out _ kk.out) (congrArg Value.bool (by rw [HCF.out]; first | done | rfl | simp))
  · have em : (minor == 0) = false := by simpa using hm0
    cases b1
    all_goals
      go_enter Tryz.func108, Tryz.ntmps108
      go_wp2_with (first | (go_at_call 46; ((refine conn_lit fs m t minor cl _ (HR.out.kp ((Kp.refl [] w).alloc _) (by simp)) hn (by have := HLn.out; omega) ?_); intro w1 k1)) | (go_at_call 70; ((refine lower_any _ _ (by have := HLn.out; omega) ?_); intro w2 k2)) | (go_at_call 69; ((refine HI.out _ _ (hm.kp ((((Kp.refl _ _).alloc _).trans k1).trans k2)) ?_); intro A2 c2 w3 ho3 hA3 k3; have HR3 := Lib.hid (ho3.rd (N := []) (by simp)); have kk := Lib.hid (((((Kp.refl [] w).alloc _).trans k1).trans k2).trans k3); have hc2 := (((k1.trans k2).trans k3).cell (p := ⟨w.heap.size, 2, none⟩) (by simp) (by simp)).trans (show _ = some (Value.int .i64 minor) by simp); clear ho3 hA3)) | (go_at_call 136; (with_reducible refine closes_lit its _ HR3.out (by omega) HB1.out ?_)))
      exact rcast (H.out _ kk.out) (congrArg Value.bool (by rw [HCF.out]; first | done | rfl | simp [hm0]))
end
end Go.Proofs.YtnmafahbdfilcaaGreatDoor
