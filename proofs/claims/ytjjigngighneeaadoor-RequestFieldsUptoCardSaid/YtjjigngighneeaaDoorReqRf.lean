/- The document's answers on fields: Get, All, Same. -/
import Derived.Test.YtjjigngighneeaaDoorReqOf
namespace Go.Proofs.YtjjigngighneeaaDoor
open Go.RowKit Go.Shelf
set_option linter.unusedVariables false
set_option linter.unusedSimpArgs false
set_option maxRecDepth 100000

def noneYet (fs : List Fd) (name : List UInt8) (k : Nat) : Prop := valsF (fs.take k) name = []
set_option maxHeartbeats 2000000 in
theorem rget24_any {R : Ending → World → Prop} (r : Req) (name : List UInt8) {A : Option Addr} {c : Nat} (w : World) (hr : Rd w [] A (r.fs.flatMap fldC)) (hn : r.fs.length ≤ 100000)
    (h : ∀ w', Kp [] w w' → R (.returned (.tuple #[.string (S (getF r.fs name).1), .bool (getF r.fs name).2])) w') :
    Calls Tryd.prog 16 #[.agg #[.string (S r.m), .string (S r.t), .int .i64 r.minor, .slice A r.fs.length c, .bool r.close], .string (S name)] w R := by
  have H := Lib.hid h
  have HR := Lib.hid hr
  clear h hr
  go_enter Tryd.func16, Tryd.ntmps16
  go_upto_region 1 with (fail)
  refine gen_world (fun W => Kp [] w W ∧ Bk W w.heap.size 37 (reqC r A c)) ⟨(Kp.refl _ _).alloc _, (Bk.new' _ _ _).cast rfl⟩ ?_
  rintro W ⟨kW, bW⟩
  obtain ⟨g, hg⟩ : ∃ g, w.heap.size = g := ⟨_, rfl⟩
  rw [hg] at bW ⊢
  have q3 := bW.cell 3
  simp only [reqC, List.getElem?_cons_zero, List.getElem?_cons_succ] at q3
  have KW := Lib.hid kW
  have RW := Lib.hid (HR.out.kp kW (by simp))
  clear kW bW hg
  go_wp2
  go_loop [6] (fun iv => ∃ k : Nat, k ≤ r.fs.length ∧ iv = .int .i64 k ∧ Hid (noneYet r.fs name k)) (fun iv => r.fs.length - (intOf iv).toNat)
  case atStart => exact ⟨0, Nat.zero_le _, rfl, Lib.hid rfl⟩
  case round =>
    obtain ⟨k, hk, rfl, hv⟩ := hrel
    by_cases hlt : k < r.fs.length
    · obtain ⟨x, hx⟩ : ∃ x, r.fs[k]? = some x := ⟨_, List.getElem?_eq_getElem hlt⟩
      have HV := Lib.hid (valsF_take hx name)
      obtain ⟨b, off, rfl, _, hgl, hc⟩ := rd_at RW.out fldC_len (by decide) hx
      have hc0 := hc 0 _ rfl
      have hc1 := hc 1 _ rfl
      rw [Nat.add_zero] at hc0
      have HX := Lib.hid hx
      clear hc hx
      cases hq : (x.1 == name)
      · have HV2 : Hid (noneYet r.fs name (k + 1)) := Lib.hid (by unfold noneYet; rw [HV.out, show valsF (r.fs.take k) name = [] from hv.out, hq]; rfl)
        clear HV
        go_wp2
        go_round
        case rel => exact ⟨k + 1, by omega, by go_num, HV2⟩
        case measure => simp [intOf]; omega
      · have HG := Lib.hid (getF_at HX.out hv.out hq)
        clear HV
        go_wp2
        rw [HG.out] at H
        first | exact H.out _ KW.out | exact bodyPost_ret (v := .tuple #[.string (S x.2), .bool true]) (by simp [results, Tryd.results16, go_sem]) rfl (H.out _ KW.out)
    · have hv2 := hv.out
      unfold noneYet at hv2
      rw [List.take_of_length_le (by omega)] at hv2
      have HG := Lib.hid (getF_no hv2)
      clear hv2
      go_wp2
      rw [HG.out] at H
      first | exact H.out _ KW.out | exact bodyPost_ret (v := .tuple #[.string (S []), .bool false]) (by simp [results, Tryd.results16, go_sem]; rfl) rfl (H.out _ KW.out)
theorem join_app_le (a b : List (List UInt8)) (s : List UInt8) : (Lib.join a s).length ≤ (Lib.join (a ++ b) s).length := by
  cases a with
  | nil => simp [Lib.join_nil]
  | cons p r =>
    rw [List.cons_append, Lib.join_length, Lib.join_length]
    have e1 : Lib.lens (p :: r) = ((p :: r).map List.length).sum := rfl
    have e2 : Lib.lens (p :: (r ++ b)) = ((p :: (r ++ b)).map List.length).sum := rfl
    rw [e1, e2]
    simp only [List.map_cons, List.map_append, List.sum_cons, List.sum_append, List.length_append, Nat.mul_add]
    omega
theorem allF_le (fs : List Fd) (name : List UInt8) (k : Nat) : (allF (fs.take k) name).length ≤ (allF fs name).length := by
  have e : valsF fs name = valsF (fs.take k) name ++ valsF (fs.drop k) name := by rw [← valsF_app, List.take_append_drop]
  unfold allF
  rw [e]
  exact join_app_le _ _ _
theorem join_snoc (a : List (List UInt8)) (v s : List UInt8) : Lib.join (a ++ [v]) s = if a = [] then v else Lib.join a s ++ s ++ v := by
  cases a with
  | nil => rw [if_pos rfl, List.nil_append, Lib.join_one]
  | cons p r =>
    rw [if_neg (by simp), List.cons_append, Lib.join_cons, Lib.join_cons]
    have := Lib.joinTail_take_succ s (r ++ [v]) r.length v (by simp)
    rw [show (r ++ [v]).take (r.length + 1) = r ++ [v] from List.take_of_length_le (by simp), show (r ++ [v]).take r.length = r from List.take_left] at this
    rw [this]; simp
theorem allF_snoc {fs : List Fd} {k : Nat} {x : Fd} {name : List UInt8} (hx : fs[k]? = some x) : allF (fs.take (k + 1)) name = if (x.1 == name) = true then (if (valsF (fs.take k) name).isEmpty = true then x.2 else allF (fs.take k) name ++ [44, 32] ++ x.2) else allF (fs.take k) name := by
  unfold allF
  rw [valsF_take hx]
  split
  · rw [join_snoc]
    by_cases h : valsF (fs.take k) name = []
    · rw [if_pos h, if_pos (by simpa using h)]
    · rw [if_neg h, if_neg (by simpa using h)]
  · rw [List.append_nil]
theorem emp_snoc {fs : List Fd} {k : Nat} {x : Fd} {name : List UInt8} (hx : fs[k]? = some x) : (valsF (fs.take (k + 1)) name).isEmpty = ((valsF (fs.take k) name).isEmpty && !(x.1 == name)) := by
  rw [valsF_take hx]
  cases h : (x.1 == name) <;> simp
set_option maxHeartbeats 2000000 in
theorem rall24_any {R : Ending → World → Prop} (r : Req) (name : List UInt8) {A : Option Addr} {c : Nat} (w : World) (hr : Rd w [] A (r.fs.flatMap fldC)) (hn : r.fs.length ≤ 100000) (hlen : (allF r.fs name).length ≤ 100000000) (hvl : ∀ x ∈ r.fs, x.2.length ≤ 100000000)
    (h : ∀ w', Kp [] w w' → R (.returned (.string (S (allF r.fs name)))) w') :
    Calls Tryd.prog 18 #[.agg #[.string (S r.m), .string (S r.t), .int .i64 r.minor, .slice A r.fs.length c, .bool r.close], .string (S name)] w R := by
  have H := Lib.hid h
  have HR := Lib.hid hr
  have HL := Lib.hid (fun k => Nat.le_trans (allF_le r.fs name k) hlen)
  have HVL := Lib.hid hvl
  clear h hr hlen hvl
  go_enter Tryd.func18, Tryd.ntmps18
  go_upto_region 1 with (fail)
  refine gen_world (fun W => Kp [] w W ∧ Bk W w.heap.size 37 (reqC r A c)) ⟨(Kp.refl _ _).alloc _, (Bk.new' _ _ _).cast rfl⟩ ?_
  rintro W ⟨kW, bW⟩
  obtain ⟨g, hg⟩ : ∃ g, w.heap.size = g := ⟨_, rfl⟩
  rw [hg] at bW ⊢
  have q3 := bW.cell 3
  simp only [reqC, List.getElem?_cons_zero, List.getElem?_cons_succ] at q3
  have KW := Lib.hid kW
  have RW := Lib.hid (HR.out.kp kW (by simp))
  clear kW bW hg
  go_wp2
  go_loop [5, 6, 7] (fun sv bv iv => ∃ (k : Nat) (s : List UInt8) (e : Bool), k ≤ r.fs.length ∧ iv = .int .i64 k ∧ sv = .string (S s) ∧ bv = .bool e ∧ s.length ≤ 100000000 ∧ Hid (allF (r.fs.take k) name = s) ∧ Hid ((valsF (r.fs.take k) name).isEmpty = e)) (fun _ _ iv => r.fs.length - (intOf iv).toNat)
  case atStart => exact ⟨0, [], true, Nat.zero_le _, rfl, rfl, rfl, by simp, Lib.hid rfl, Lib.hid rfl⟩
  case round =>
    obtain ⟨k, s, e, hk, rfl, rfl, rfl, hsl, hs, he⟩ := hrel
    by_cases hlt : k < r.fs.length
    · obtain ⟨x, hx⟩ : ∃ x, r.fs[k]? = some x := ⟨_, List.getElem?_eq_getElem hlt⟩
      have HV := Lib.hid (allF_snoc (name := name) hx)
      have HE := Lib.hid (emp_snoc (name := name) hx)
      have hxl := HVL.out x (List.mem_of_getElem? hx)
      have hl1 := HL.out (k + 1)
      obtain ⟨b, off, rfl, _, hgl, hc⟩ := rd_at RW.out fldC_len (by decide) hx
      have hc0 := hc 0 _ rfl
      have hc1 := hc 1 _ rfl
      rw [Nat.add_zero] at hc0
      clear hc hx
      rw [hs.out, he.out] at HV
      rw [he.out] at HE
      cases hq : (x.1 == name)
      · rw [hq] at HV HE
        have HV2 : Hid (allF (r.fs.take (k + 1)) name = s) := Lib.hid (by rw [HV.out]; rfl)
        have HE2 : Hid ((valsF (r.fs.take (k + 1)) name).isEmpty = e) := Lib.hid (by rw [HE.out]; simp)
        clear HV HE hl1
        go_wp2
        go_round
        case rel => exact ⟨k + 1, s, e, by omega, by go_num, rfl, rfl, hsl, HV2, HE2⟩
        case measure => simp [intOf]; omega
      · rw [hq] at HV HE
        cases e
        · have HV2 : Hid (allF (r.fs.take (k + 1)) name = s ++ [44, 32] ++ x.2) := Lib.hid (by rw [HV.out]; rfl)
          have HE2 : Hid ((valsF (r.fs.take (k + 1)) name).isEmpty = false) := Lib.hid (by rw [HE.out]; rfl)
          rw [HV2.out] at hl1
          have HL1 := Lib.hid hl1
          clear HV HE hl1
          go_wp2
          go_round
          case rel => exact ⟨k + 1, _, _, by omega, by go_num, rfl, rfl, by have := HL1.out; simpa [Nat.add_assoc, Nat.add_comm, Nat.add_left_comm] using this, by first | exact HV2 | (refine Lib.hid ?_; rw [HV2.out]; simp), HE2⟩
          case measure => simp [intOf]; omega
        · have HV2 : Hid (allF (r.fs.take (k + 1)) name = x.2) := Lib.hid (by rw [HV.out]; rfl)
          have HE2 : Hid ((valsF (r.fs.take (k + 1)) name).isEmpty = false) := Lib.hid (by rw [HE.out]; rfl)
          have hs0 : s = [] := by
            have h1 := he.out
            have h2 := hs.out
            rw [← h2]; unfold allF; rw [List.isEmpty_iff.1 h1]; rfl
          subst hs0
          clear HV HE hl1
          go_wp2
          go_round
          case rel => exact ⟨k + 1, x.2, false, by omega, by go_num, by simp, rfl, hxl, HV2, HE2⟩
          case measure => simp [intOf]; omega
    · have HF : Hid (allF r.fs name = s) := Lib.hid (by
        have := hs.out
        rwa [List.take_of_length_le (by omega)] at this)
      go_wp2
      exact rcast (H.out _ KW.out) (by rw [HF.out])
end Go.Proofs.YtjjigngighneeaaDoor
