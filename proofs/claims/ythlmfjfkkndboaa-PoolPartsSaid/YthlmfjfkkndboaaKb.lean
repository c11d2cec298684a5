/- The walks of a disk's calls. -/
import Derived.Test.YthlmfjfkkndboaaKa
import Derived.Test.YthlmfjfkkndboaaKn7
import Derived.Deep.MidRow
import Derived.Deep.WholeRow
namespace Go.Proofs.Ythlmfjfkkndboaa
open Go.RowKit Go.Shelf
set_option linter.unusedVariables false
set_option linter.unusedSimpArgs false
set_option maxRecDepth 100000
section
variable {R : Ending → World → Prop} {w : World} {bD bL bO c : Nat} {A : Option Addr} {d : DkS}

set_option maxHeartbeats 1000000 in
theorem may_any (hd : Dsk w bD bL bO A c d) (env b : Int) (h : R (.returned (.int .i64 (dMay d env b))) w) :
    Calls Try.prog 115 #[.pointer (some ⟨bD, 0, none⟩), .int .i64 env, .int .i64 b] w R := by
  have c0 := hd.dd.cell 0
  have c1 := hd.dd.cell 1
  have c3 := hd.dd.cell 3
  simp only [List.getElem?_cons_zero, List.getElem?_cons_succ] at c0 c1 c3
  have hn := hd.ok.n1
  have ho := hd.ok.ow
  by_cases h0 : b < 0
  · have hm : dMay d env b = 31 := by simp [dMay, h0]
    rw [hm] at h
    clear hm hd
    go_enter Try.func115, Try.ntmps115
    go_wp2
    exact h
  · by_cases h1 : (d.bl.length : Int) ≤ b
    · have hm : dMay d env b = 31 := by simp [dMay, h1]
      rw [hm] at h
      clear hm hd ho
      go_enter Try.func115, Try.ntmps115
      go_wp2
      exact h
    · obtain ⟨k, rfl⟩ : ∃ k : Nat, b = k := ⟨b.toNat, by omega⟩
      have hk : k < d.ow.length := by omega
      have e := List.getElem?_eq_getElem hk
      obtain ⟨o, hoe⟩ : ∃ o, d.ow[k] = o := ⟨_, rfl⟩
      rw [hoe] at e
      have ce : w.cell? ⟨bO, k, none⟩ = some (.int .i64 o) := by rw [hd.o.cell]; exact ints_at e
      have hm : dMay d env k = if o = 0 ∨ o ≠ env then 20 else 0 := by
        unfold dMay
        rw [if_neg (by omega), Int.toNat_natCast, e]
      rw [hm] at h
      have H := Lib.hid h
      clear hm hd ho hoe e h
      by_cases h2 : o = 0
      · have b2 : (o == 0) = true := by simp [h2]
        have HH := rcast H.out (congrArg (Value.int .i64) (if_pos (Or.inl h2)))
        clear h2 H
        go_enter Try.func115, Try.ntmps115
        go_wp2
        exact HH
      · have b2 : (o == 0) = false := by simp [h2]
        by_cases h3 : o = env
        · have b3 : (o != env) = false := by simp [h3]
          have HH := rcast H.out (congrArg (Value.int .i64) (if_neg (fun h => h.elim h2 (fun h => h h3))))
          clear h2 h3 H
          go_enter Try.func115, Try.ntmps115
          go_wp2
          exact HH
        · have b3 : (o != env) = true := by simp [h3]
          have HH := rcast H.out (congrArg (Value.int .i64) (if_pos (Or.inr h3)))
          clear h2 h3 H
          go_enter Try.func115, Try.ntmps115
          go_wp2
          exact HH
theorem Rd.sub' {N : List Nat} {A : Option Addr} {xs ys : List Value} (h : Rd w N A xs) (e : xs = ys) : Rd w N A ys := e ▸ h
theorem lastOf_nil (b : Int) : lastOf [] b = none := rfl
theorem lastOf_snoc {l : List Wr} {k : Nat} {x : Wr} (hx : l[k]? = some x) (b : Int) : lastOf (l.take (k + 1)) b = if x.b = b then some x.s else lastOf (l.take k) b := by
  have hk : k < l.length := (List.getElem?_eq_some_iff.1 hx).1
  have e : l[k] = x := (List.getElem?_eq_some_iff.1 hx).2
  unfold lastOf
  rw [List.take_succ_eq_append_getElem hk, e, List.reverse_append]
  by_cases h : x.b = b <;> simp [h]
theorem wcells_at {x : Wr} (h : x.s.length = 256) : wcells x = .int .i64 x.b :: bts x.s := wcells_eq h
theorem Dsk.wr (hd : Dsk w bD bL bO A c d) {k : Nat} {x : Wr} (hx : d.ln[k]? = some x) : ∃ g, A = some ⟨g, 0, none⟩ ∧ w.rangeAt g (k * 257) (wcells x) := by
  have hk : k < d.ln.length := (List.getElem?_eq_some_iff.1 hx).1
  obtain ⟨b, off, hA, _, _, hc⟩ := rd_at (hd.ln.rd (N := []) (by simp)) wcells_len (by omega) hx
  obtain ⟨g, hg, _⟩ := hd.ln.form (by omega)
  rw [hg] at hA
  injection hA with hA
  injection hA with h1 h2
  subst h1; subst h2
  exact ⟨g, hg, fun j v hv => by have := hc j v hv; rwa [Nat.zero_add] at this⟩
theorem info_wr : (Try.prog.info? 189).map (·.size) = some 257 := by kernel_rfl
theorem wcells_one {x : Wr} (h : x.s.length = 256) : ∀ v ∈ wcells x, v.oneCell' = true := by
  intro v hv
  rw [wcells_eq h] at hv
  simp only [List.mem_cons] at hv
  rcases hv with rfl | hv
  · rfl
  · exact bts_one _ v hv
theorem zc_wr : Try.zeroCells189.size = 257 := by kernel_rfl
/-- A write into the box that was just made. -/
theorem box_write (W : World) {x : Wr} (h : x.s.length = 256) : (storeCells ⟨W.heap.size, 0, none⟩ (wcells x)).run Try.prog (W.alloc (.cells Try.zeroCells189 189)) = .ok () (W.alloc (.cells (wcells x).toArray 189)) := by
  have := run_storeCells_new (P := Try.prog) W 189 Try.zeroCells189 (wcells x).toArray (by rw [List.size_toArray, wcells_len]; exact info_wr) (by rw [zc_wr]; simp [wcells_len]) (all_oneCell_toArray (wcells_one h))
  simpa using this
set_option maxHeartbeats 1000000 in
theorem dread_any (hd : Dsk w bD bL bO A c d) (hlm : d.ln.length ≤ 1000000) (env b : Int)
    (h : ∀ e l A' c' w', Hid (dRead d env b = (e, l)) → Kp [] w w' → Ow w' 5 1 A' l.length c' (bts l) → (∀ b ∈ bks A', w.heap.size ≤ b) → R (.returned (.tuple #[.slice A' l.length c', .int .i64 e])) w') :
    Calls Try.prog 97 #[.pointer (some ⟨bD, 0, none⟩), .int .i64 env, .int .i64 b] w R := by
  have H := Lib.hid h
  clear h
  by_cases hm : dMay d env b = 0
  · have HM : Hid (∀ (R : Ending → World → Prop), R (.returned (.int .i64 0)) w → Calls Try.prog 115 #[.pointer (some ⟨bD, 0, none⟩), .int .i64 env, .int .i64 b] w R) := Lib.hid (fun R h => may_any hd env b (by rw [hm]; exact h))
    obtain ⟨hb0, hb1, _, _⟩ := dMay_ok hm
    obtain ⟨bb, rfl⟩ : ∃ k : Nat, b = k := ⟨b.toNat, by omega⟩
    have c0 := hd.dd.cell 0
    have c2 := hd.dd.cell 2
    simp only [List.getElem?_cons_zero, List.getElem?_cons_succ] at c0 c2
    have HD := Lib.hid hd
    have HMM := Lib.hid hm
    clear hd hm
    go_enter Try.func97, Try.ntmps97
    go_wp2_with (go_at_call 115; refine HM.out _ ?_)
    go_loopw [9] (fun iv wr => ∃ k : Nat, k ≤ d.ln.length ∧ iv = .int .i64 ((k : Int) - 1) ∧ Hid (Kp [] w wr) ∧ Hid (lastOf d.ln bb = lastOf (d.ln.take k) bb)) (fun iv _ => (intOf iv + 1).toNat)
    case atStart => exact ⟨d.ln.length, Nat.le_refl _, by go_num, Lib.hid (Kp.refl _ _), Lib.hid (by rw [List.take_length])⟩
    case round =>
      obtain ⟨k, hk, rfl, kr, hlast⟩ := hrel
      have c0' := (kr.out.cell HD.out.dd.lt (by simp)).trans c0
      have c2' := (kr.out.cell HD.out.dd.lt (by simp)).trans c2
      clear c0 c2
      cases k with
      | zero =>
        have hse : dSee d bb = (d.bl[bb]?).getD [] := by have := hlast.out; rw [List.take_zero, lastOf_nil] at this; simp [dSee, this]
        have hp : (dSee d bb).length = 256 := HD.out.ok.see hb0 hb1
        have hrd : ∀ W, Kp [] wr W → Rd W [] (some ⟨bL, bb * 256, none⟩) (bts (dSee d bb)) := fun W kW _ => by
          have hdr := HD.out.off (kr.out.trans kW) (Off.nil _ _) (Off.nil _ _) (Off.nil _ _) (Off.nil _ _)
          refine ⟨bL, bb * 256, rfl, by simp, hdr.l.lt, fun j u hu => ?_⟩
          have hbl : bb < d.bl.length := by omega
          have e := List.getElem?_eq_getElem hbl
          rw [hse, e] at hu hp
          simp only [Option.getD_some] at hu hp
          rw [hdr.l.cell, flat_get pcells_len e (by rw [bts_get] at hu; rcases Nat.lt_or_ge j 256 with h | h; exact h; rw [List.getElem?_eq_none (by omega)] at hu; cases hu), pcells_eq hp]
          exact hu
        have HR := Lib.hid hrd
        have HP := Lib.hid hp
        clear hse hp hrd
        go_wp2_with (go_at_call 76; ((refine clone_some (N := []) (xs := bts (dSee d bb)) (HR.out _ (Kp.refl _ _)) (bts_one _) (by rw [bts_len]; exact HP.out) (by omega) ?_); intro g c' w1 g11 g12 g13))
        exact rcast (H.out 0 (dSee d bb) (some ⟨g, 0, none⟩) c' w1 (by simp [Hid, dRead, HMM.out]) (kr.out.trans g13) (by rw [HP.out]; exact g12) (by have := kr.out.size; simp [bks]; omega)) (by rw [HP.out]; rfl)
      | succ j =>
        obtain ⟨x, hx, hxm⟩ := get_lt (l := d.ln) (k := j) (by omega)
        have hdr := HD.out.off kr.out (Off.nil _ _) (Off.nil _ _) (Off.nil _ _) (Off.nil _ _)
        obtain ⟨g, hg, hrg⟩ := hdr.wr hx
        rw [hg] at c2'
        obtain ⟨hx0, hx1, hx2⟩ := HD.out.ok.ln x hxm
        have hls := lastOf_snoc hx bb
        have hst := box_write wr hx2
        have hwl := wcells_len x
        have hw0 : ∀ h : 0 < (wcells x).length, (wcells x)[0]'h = .int .i64 x.b := fun h => by simp [wcells_eq hx2]
        have HBX : Hid (Bk (wr.alloc (.cells (wcells x).toArray 189)) wr.heap.size 189 (wcells x)) := Lib.hid ((Bk.newAt rfl _ _).cast rfl)
        have HW := Lib.hid (wcells_eq hx2)
        have HX2 := Lib.hid hx2
        have HLS := Lib.hid hls
        clear hx hg hdr hls hx2
        by_cases hbx : x.b = bb
        · have hq : (x.b == (bb : Int)) = true := by simp [hbx]
          have HBB := Lib.hid hbx
          clear hbx
          go_wp2
          refine wp_load_mid 189 (.tmp 33) rfl g (j * 257) rfl (wcells x) _ hrg Try.underlying189 rfl (by rw [wcells_len]; exact info_wr) ?_
          clear hrg
          go_wp2_with (go_at_call 76; ((refine clone_some (N := []) (xs := bts x.s) ?_ (bts_one _) ?_ ?_ (fun g c' w1 g11 g12 g13 => ?_))))
          · exact (Rd.of_bk_at (o := 1) HBX.out (by simp)).sub' (by rw [HW.out]; rfl)
          · rw [bts_len]; exact HX2.out
          · omega
          · have hse : dSee d bb = x.s := by have := hlast.out; rw [HLS.out, if_pos HBB.out] at this; simp [dSee, this]
            have hx2 := HX2.out
            exact rcast (H.out 0 x.s (some ⟨g, 0, none⟩) c' w1 (by simp [Hid, dRead, HMM.out, hse]) ((kr.out.alloc _).trans g13) (by rw [hx2]; exact g12) (by have := kr.out.size; simp at g11; simp [bks]; omega)) (by rw [hx2]; rfl)
        · have hq : (x.b == (bb : Int)) = false := by simp [hbx]
          have HBB := Lib.hid hbx
          clear hbx
          go_wp2
          refine wp_load_mid 189 (.tmp 33) rfl g (j * 257) rfl (wcells x) _ hrg Try.underlying189 rfl (by rw [wcells_len]; exact info_wr) ?_
          clear hrg
          go_wp2
          exact ⟨⟨j, by omega, by go_num, Lib.hid (kr.out.alloc _), Lib.hid (by rw [hlast.out, HLS.out, if_neg HBB.out])⟩, by simp [intOf] <;> omega⟩
  · have HM : Hid (∀ (R : Ending → World → Prop), R (.returned (.int .i64 (dMay d env b))) w → Calls Try.prog 115 #[.pointer (some ⟨bD, 0, none⟩), .int .i64 env, .int .i64 b] w R) := Lib.hid (fun R h => may_any hd env b h)
    have HH := H.out (dMay d env b) [] none 0 w (by simp [Hid, dRead, hm]) (Kp.refl _ _) Ow.nil (by simp [bks])
    clear hd
    go_enter Try.func97, Try.ntmps97
    go_wp2_with (go_at_call 115; refine HM.out _ ?_)
    exact HH
end
end Go.Proofs.Ythlmfjfkkndboaa
