/- A pool writes to a slot's frame; it forgets blocks. -/
import Derived.Test.YthlmfjfkkndboaaPo3
import Derived.Deep.RegionHeldLaw
namespace Go.Proofs.Ythlmfjfkkndboaa
open Go.RowKit Go.Shelf
set_option linter.unusedVariables false
set_option linter.unusedSimpArgs false
set_option maxRecDepth 100000
section
variable {R : Ending → World → Prop} {w w' : World} {B m : Nat} {ka ka' : KA} {k k' : KS} {pa : PA} {p : PS}
theorem KPl.kcall (h : KPl w B ka k pa p) (q : Kq B w w') (n9 : Kn w' B ka' k' ∧ ka'.g = ka.g ∧ ka'.bT = ka.bT) : KPl w' B ka' k' pa p := ⟨n9.1, by rw [n9.2.1]; exact h.pl.kq q, h.gB, h.lB⟩
set_option maxHeartbeats 2000000 in
theorem pwrite_any (h0 : KPl w B ka k pa p) (hm : k.cnt m) (hm2 : m ≤ 10000) {i : Nat} {x : PSl} (hx : p.sl[i]? = some x) {A : Option Addr} {n c : Nat} {l : List UInt8} (hr : Tb w 5 A (bts l)) (hl : l.length = n) (hn : n ≤ 1000000) (hA : A = none → n = 0 ∧ c = 0)
    (h : ∀ ka' w', Kq B w w' → KPl w' B ka' { k with fs := (tWrite k.fs 1 x.f 0 l).2 } pa p → ka'.g = ka.g → ka'.bT = ka.bT → R (.returned (.tuple #[])) w') :
    Calls Try.prog 70 #[.pointer (some ⟨pa.g, 0, none⟩), .pointer (some ⟨pa.l, i * 7, none⟩), .slice A n c] w R := by
  have H := Lib.hid h
  obtain ⟨c0, _, _, _, _, _, _⟩ := h0.pl.cells hx
  have g0 : w.cell? ⟨pa.g, 0, none⟩ = some (.pointer (some ⟨ka.g, 0, none⟩)) := h0.pl.g.cell 0
  have HC : Hid (∀ (R : Ending → World → Prop) (w1 : World), Kp [] w w1 → (∀ v w', Hid (∃ ka', Kq B w w' ∧ KPl w' B ka' { k with fs := (tWrite k.fs 1 x.f 0 l).2 } pa p ∧ ka'.g = ka.g ∧ ka'.bT = ka.bT) → R (.returned v) w') → Calls Try.prog 35 #[.pointer (some ⟨ka.g, 0, none⟩), .agg #[.int .i64 5, .int .i64 1, .int .i64 x.f, .int .i64 0, .int .i64 0, .slice A n c, .slice none 0 0, .slice none 0 0]] w1 R) := Lib.hid (fun R w1 k1 h => by
    refine kcall_any (x := ⟨5, 1, x.f, 0, 0, A, n, c, l, none, 0, 0, [], none, 0, 0, []⟩) (h0.kn.off0 k1) hm hm2 ⟨hr.kp k1 (Off.nil _ _), hl, hn, hA, Tb.nil, rfl, by show 0 ≤ _; omega, fun _ => ⟨rfl, rfl⟩, by simp, Tb.nil, rfl, by show 0 ≤ _; omega, fun _ => ⟨rfl, rfl⟩, by simp⟩ (fun nn AA len c2 l' e k' a' w2 hst q n9 hl ht => ?_)
    have h1 := hst.out
    unfold kStep at h1
    rw [if_neg (by simp), if_pos (by simp)] at h1
    unfold kFB at h1
    rw [if_neg (by simp), if_neg (by simp), if_neg (by simp), if_neg (by simp), if_pos rfl] at h1
    injection h1 with e1 e2 e3 e4
    subst e1; subst e2; subst e3; subst e4
    exact h _ w2 (Lib.hid ⟨a', (Kq.of0 k1).trans q, (h0.off0 k1).kcall q n9, n9.2.1, n9.2.2⟩))
  clear h h0 hx hr hl hn hA hm
  go_enter Try.func70, Try.ntmps70
  go_region_law (first | (go_simp; go_at_call 35; ((refine HC.out _ _ (Kp.refl [] w).drew ?_); intro v w5 h5)))
  all_goals
    go_wp2
    obtain ⟨ka', z1, z2, z3, z4⟩ := h5.out
    exact bodyPost_end (v := .tuple #[]) (by simp [results, Try.results70, go_sem]) rfl (H.out ka' _ z1 z2 z3 z4)
set_option maxHeartbeats 1000000 in
theorem sidx_any {A : Option Addr} {n c : Nat} {bl : List Int} (hr : Rd w [] A (ints bl)) (hl : bl.length = n) (hn : n ≤ 1000000) (v : Int) (h : ∀ r w', Kp [] w w' → (decide (r ≥ 0)) = bl.contains v → R (.returned (.int .i64 r)) w') : Calls Try.prog 112 #[.slice A n c, .int .i64 v] w R := by
  have H := Lib.hid h
  have HR := Lib.hid hr
  have HL := Lib.hid hl
  clear h hr hl
  go_enter Try.func112, Try.ntmps112
  go_wp2
  go_loopw [5, 8] (fun _ iv wr => ∃ k : Nat, k ≤ n ∧ iv = .int .i64 k ∧ Hid (Kp [] w wr) ∧ Hid (∀ j x, j < k → bl[j]? = some x → v ≠ x)) (fun _ iv _ => n - (intOf iv).toNat)
  case atStart => exact ⟨0, Nat.zero_le _, rfl, Lib.hid (Kp.refl _ _), Lib.hid (by omega)⟩
  case round =>
    obtain ⟨k, hk, rfl, kr, hgd⟩ := hrel
    by_cases hlt : k < n
    · obtain ⟨x, hx⟩ : ∃ x, bl[k]? = some x := ⟨_, List.getElem?_eq_getElem (by have := HL.out; omega)⟩
      have hne : bl ≠ [] := by intro e; rw [e] at hx; simp at hx
      obtain ⟨b, off, rfl, _, _, hc⟩ := HR.out.kp kr.out (S := []) (by simp) (by intro e; unfold ints at e; simp at e; exact hne e)
      have g0 := hc k _ (ints_at hx)
      have HX := Lib.hid hx
      clear hc hx hne
      cases hb : (v == x) with
      | true =>
        have hcon : bl.contains v = true := by
          rw [List.contains_iff_mem]; rw [show v = x by simpa using hb]; exact List.mem_of_getElem? HX.out
        have HH := Lib.hid (fun w' k' => H.out (k : Int) w' k' (by rw [hcon]; simp))
        clear H hcon
        go_wp2
        exact HH.out _ kr.out
      | false =>
        go_wp2
        exact ⟨⟨k + 1, by omega, by go_num, kr, Lib.hid (fun j y hj hy => by
          rcases Nat.lt_or_ge j k with h | h
          · exact hgd.out j y h hy
          · obtain rfl : j = k := by omega
            rw [HX.out] at hy; injection hy with hy; subst hy; simpa using hb)⟩, by simp [intOf]; omega⟩
    · obtain rfl : k = n := by omega
      have hcon : bl.contains v = false := by
        rw [Bool.eq_false_iff]; intro hc
        rw [List.contains_iff_mem] at hc
        obtain ⟨j, hj⟩ := List.getElem?_of_mem hc
        exact hgd.out j v (by rw [← HL.out]; exact (List.getElem?_eq_some_iff.1 hj).1) hj rfl
      have HH := Lib.hid (fun w' k' => H.out (-1) w' k' (by rw [hcon]; simp))
      clear H hcon
      go_wp2
      exact HH.out _ kr.out
theorem scon_any {A : Option Addr} {n c : Nat} {bl : List Int} (hr : Rd w [] A (ints bl)) (hl : bl.length = n) (hn : n ≤ 1000000) (v : Int) (h : ∀ w', Kp [] w w' → R (.returned (.bool (bl.contains v))) w') : Calls Try.prog 85 #[.slice A n c, .int .i64 v] w R := by
  have H := Lib.hid h
  have HR := Lib.hid hr
  clear h hr
  go_enter Try.func85, Try.ntmps85
  go_wp2_with (go_at_call 112; ((refine sidx_any HR.out hl hn v ?_); intro r w2 k2 hd0; have hd := Lib.hid hd0; clear hd0))
  exact rcast (H.out _ k2) (by rw [← hd.out]; first | rfl | simp)
end
def fgt (bl : List Int) (x : PSl) : PSl := if x.kd = 1 ∧ bl.contains x.bl = true then (if 0 < x.pi then { x with kd := 3 } else PSl.e x.f) else x
def pForget (p : PS) (bl : List Int) : PS := { p with sl := p.sl.map (fgt bl) }
/-- After j rounds of Forget. -/
structure FgI (p p1 : PS) (bl : List Int) (j : Nat) : Prop where
  len : p1.sl.length = p.sl.length
  at_ : ∀ i x, p.sl[i]? = some x → p1.sl[i]? = some (if i < j then fgt bl x else x)
  hand : p1.hand = p.hand
  fills : p1.fills = p.fills
theorem FgI.fin {p p1 : PS} {bl : List Int} {j : Nat} (h : FgI p p1 bl j) (hj : p.sl.length ≤ j) : p1 = pForget p bl := by
  obtain ⟨sl, hand, fills⟩ := p1
  obtain ⟨h1, h2, h3, h4⟩ := h
  simp only at h1 h2 h3 h4
  subst h3; subst h4
  unfold pForget
  congr 1
  apply List.ext_getElem?
  intro i
  rw [List.getElem?_map]
  cases hx : p.sl[i]? with
  | none =>
    have hx2 := List.getElem?_eq_none_iff.1 hx
    exact List.getElem?_eq_none (by omega)
  | some x =>
    have hi := (List.getElem?_eq_some_iff.1 hx).1
    rw [h2 i x hx, if_pos (by omega)]; rfl
theorem FgI.set {p p1 : PS} {bl : List Int} {j : Nat} {x y : PSl} (h : FgI p p1 bl j) (hx : p.sl[j]? = some x) (hy : fgt bl x = y) : FgI p { p1 with sl := p1.sl.set j y } bl (j + 1) := by
  have hj := (List.getElem?_eq_some_iff.1 hx).1
  refine ⟨by simpa using h.len, fun i z hz => ?_, h.hand, h.fills⟩
  show (p1.sl.set j y)[i]? = _
  by_cases hij : j = i
  · subst hij
    rw [hx] at hz; injection hz with hz; subst hz
    rw [List.getElem?_set_self (by rw [h.len]; exact hj), if_pos (by omega), hy]
  · rw [List.getElem?_set_ne hij, h.at_ i z hz]
    by_cases hlt : i < j
    · rw [if_pos hlt, if_pos (by omega)]
    · rw [if_neg hlt, if_neg (by omega)]
theorem FgI.stay {p p1 : PS} {bl : List Int} {j : Nat} {x : PSl} (h : FgI p p1 bl j) (hx : p.sl[j]? = some x) (hy : fgt bl x = x) : FgI p p1 bl (j + 1) := by
  refine ⟨h.len, fun i z hz => ?_, h.hand, h.fills⟩
  rw [h.at_ i z hz]
  by_cases hij : j = i
  · subst hij
    rw [hx] at hz; injection hz with hz; subst hz
    rw [if_neg (by omega), if_pos (by omega), hy]
  · by_cases hlt : i < j
    · rw [if_pos hlt, if_pos (by omega)]
    · rw [if_neg hlt, if_neg (by omega)]
section
variable {R : Ending → World → Prop} {w w' : World} {B m : Nat} {ka ka' : KA} {k k' : KS} {pa : PA} {p : PS}
set_option maxHeartbeats 2000000 in
theorem pfgt_any (h0 : KPl w B ka k pa p) {A : Option Addr} {n c : Nat} {bl : List Int} (hr : Tb w 3 A (ints bl)) (hl : bl.length = n) (hn : n ≤ 1000000)
    (h : ∀ w', Pq B w w' → KPl w' B ka k pa (pForget p bl) → R (.returned (.tuple #[])) w') : Calls Try.prog 39 #[.pointer (some ⟨pa.g, 0, none⟩), .slice A n c] w R := by
  have H := Lib.hid h
  have HT := Lib.hid hr
  have HL := Lib.hid hl
  have HK := Lib.hid h0
  have hn0 := h0.pl.hn
  obtain ⟨N, hN⟩ : ∃ N, p.sl.length = N := ⟨_, rfl⟩
  have g1 : w.cell? ⟨pa.g, 1, none⟩ = some (.slice (some ⟨pa.l, 0, none⟩) p.sl.length pa.lc) := h0.pl.g.cell 1
  rw [hN] at g1 hn0
  have HN := Lib.hid hN
  clear h h0 hr hl hN
  go_enter Try.func39, Try.ntmps39
  go_wp2
  go_loopw [4, 5, 13] (fun _ _ iv wr => ∃ (j : Nat) (p1 : PS), j ≤ N ∧ iv = .int .i64 j ∧ Hid (KPl wr B ka k pa p1 ∧ Pq B w wr) ∧ Hid (FgI p p1 bl j)) (fun _ _ iv _ => N - (intOf iv).toNat)
  case atStart => exact ⟨0, p, Nat.zero_le _, rfl, Lib.hid ⟨HK.out, Pq.refl _ _⟩, Lib.hid ⟨rfl, fun i x hx => by rw [if_neg (by omega)]; exact hx, rfl, rfl⟩⟩
  case round =>
    obtain ⟨j, p1, hj, rfl, hw, hp⟩ := hrel
    by_cases hlt : j < N
    · obtain ⟨x, hx⟩ : ∃ x, p.sl[j]? = some x := ⟨_, List.getElem?_eq_getElem (by have := HN.out; omega)⟩
      have HX := Lib.hid hx
      have HX1 := Lib.hid (show p1.sl[j]? = some x by rw [hp.out.at_ j x hx, if_neg (by omega)])
      clear hx g1
      have g1' : wr.cell? ⟨pa.g, 1, none⟩ = some (.slice (some ⟨pa.l, 0, none⟩) p1.sl.length pa.lc) := hw.out.1.pl.g.cell 1
      rw [hp.out.len, HN.out] at g1'
      obtain ⟨c0, c1, c2, c3, _, _, _⟩ := hw.out.1.pl.cells HX1.out
      by_cases hkd : x.kd = 1
      · have b1 : (x.kd != 1) = false := by simp [hkd]
        have HCon : Hid (∀ (R : Ending → World → Prop), (∀ w', Kp [] wr w' → R (.returned (.bool (bl.contains x.bl))) w') → Calls Try.prog 85 #[.slice A n c, .int .i64 x.bl] wr R) := Lib.hid (fun R h => scon_any (hw.out.2.tb HT.out (by decide)).rd0 HL.out hn x.bl h)
        cases hcon : bl.contains x.bl with
        | false =>
          have hf : fgt bl x = x := by unfold fgt; rw [hcon, if_neg (by simp)]
          rw [hcon] at HCon
          have HS := Lib.hid (hp.out.stay HX.out hf)
          clear hf hcon hkd
          go_wp2_with (go_at_call 85; ((refine HCon.out _ ?_); intro w2 k2))
          exact ⟨⟨j + 1, p1, by omega, by go_num, Lib.hid ⟨hw.out.1.off0 k2, hw.out.2.trans (Pq.of0 k2)⟩, HS⟩, by simp [intOf]; omega⟩
        | true =>
          rw [hcon] at HCon
          by_cases hpi : 0 < x.pi
          · have hf : fgt bl x = { x with kd := 3 } := by unfold fgt; rw [if_pos ⟨hkd, hcon⟩, if_pos hpi]
            have HS := Lib.hid (hp.out.set HX.out hf)
            clear hf hcon hkd
            go_wp2_with (go_at_call 85; ((refine HCon.out _ ?_); intro w2 k2; obtain ⟨d0, d1, d2, d3, _, _, _⟩ := (hw.out.1.off0 k2).pl.cells HX1.out; have f2 := (hw.out.1.off0 k2).pl.free))
            obtain ⟨z1, z2⟩ := (hw.out.1.off0 k2).put HX1.out (x' := { x with kd := 3 }) (j := 1) (v := .int .i64 3) (by omega) rfl
            exact ⟨⟨j + 1, _, by omega, by go_num, Lib.hid ⟨z1, (hw.out.2.trans (Pq.of0 k2)).trans z2⟩, HS⟩, by simp [intOf]; omega⟩
          · have hf : fgt bl x = PSl.e x.f := by unfold fgt; rw [if_pos ⟨hkd, hcon⟩, if_neg hpi]
            have HS := Lib.hid (hp.out.set HX.out hf)
            clear hf hcon hkd
            go_wp2_with (go_at_call 85; ((refine HCon.out _ ?_); intro w2 k2; obtain ⟨d0, d1, d2, d3, _, _, _⟩ := (hw.out.1.off0 k2).pl.cells HX1.out; have f2 := (hw.out.1.off0 k2).pl.free; have Y := Lib.hid ((hw.out.1.off0 k2).clr7 HX1.out)))
            exact ⟨⟨j + 1, _, by omega, by go_num, Lib.hid ⟨Y.out.1, (hw.out.2.trans (Pq.of0 k2)).trans Y.out.2⟩, HS⟩, by simp [intOf]; omega⟩
      · have b1 : (x.kd != 1) = true := by simp [hkd]
        have hf : fgt bl x = x := by unfold fgt; rw [if_neg (by simp [hkd])]
        have HS := Lib.hid (hp.out.stay HX.out hf)
        clear hf hkd
        go_wp2
        exact ⟨⟨j + 1, p1, by omega, by go_num, hw, HS⟩, by simp [intOf]; omega⟩
    · obtain rfl : j = N := by omega
      have hfin := hp.out.fin (by rw [HN.out]; exact Nat.le_refl _)
      subst hfin
      go_wp2
      exact bodyPost_end (v := .tuple #[]) (by simp [results, Try.results39, go_sem]) rfl (H.out _ hw.out.2 hw.out.1)
end
end Go.Proofs.Ythlmfjfkkndboaa
