/- pantlerref09: Arrive. pantlerref09: Depart. -/
import Derived.Test.YtedblbpmlbjnhaaGreatPD39
import Derived.Test.YtedblbpmlbjnhaaGreatPD45
import Derived.Test.YtedblbpmlbjnhaaGreatPD42
import Derived.BigQuiet
import Derived.Deep.RegionHeldLaw
namespace Go.Proofs.YtedblbpmlbjnhaaGreat
/-! ### pantlerref09: Arrive. -/
section
open Go.RowKit Go.Shelf
set_option linter.unusedVariables false
set_option linter.unusedSimpArgs false
set_option maxRecDepth 100000
/-- What Arrive keeps and answers. -/
def RaP (R : Ending → World → Prop) (w0 : World) (B : Nat) (w : World) (q : QA) (k' : KS) (n : Int) (e : Int) : Prop :=
  ∀ q' w', Kp q.own w w' → Qn w0 B w' q' k' → q'.own = q.own → q'.bM = q.bM ∧ q'.bD = q.bD → R (.returned (.tuple #[.int .i64 n, .int .i64 e])) w'
section
variable {R : Ending → World → Prop} {w0 w : World} {B m : Nat} {q : QA} {k : KS}
theorem key_at {fl ys : List Bnd} (h : ys.map bkey = fl.map bkey) {i : Nat} {y z : Bnd} (hz : ys[i]? = some z) (hy : fl[i]? = some y) : z.id = y.id ∧ z.env = y.env ∧ z.p = y.p := by
  have := congrArg (·[i]?) h
  simp only [List.getElem?_map, hz, hy, Option.map_some, Option.some.injEq] at this
  exact ⟨congrArg (·.1) this, congrArg (·.2.1) this, congrArg (·.2.2) this⟩
set_option maxHeartbeats 8000000 in
theorem rarr_any (hQ : Qn w0 B w q k) (hf8 : k.fl.length ≤ 8) (hf : FInv k) (hr1 : k.q1.length ≤ 16) (hr2 : k.q2.length ≤ 16) (s : List UInt8) (hs2 : s.length ≤ 100000)
    (h0 : 1024 < s.length → RaP R w0 B w q k 0 2) (h1 : s.length ≤ 1024 → taker k s = none → RaP R w0 B w q k 0 11)
    (h2 : s.length ≤ 1024 → ∀ b, taker k s = some b → b.env = 1 → k.q1.length = 16 → RaP R w0 B w q k 0 10)
    (h3 : s.length ≤ 1024 → ∀ b, taker k s = some b → b.env = 1 → k.q1.length < 16 → ∀ y : Sl, y.l = s → RaP R w0 B w q { k with q1 := k.q1 ++ [y] } 1 0)
    (h4 : s.length ≤ 1024 → ∀ b, taker k s = some b → b.env = 2 → k.q2.length = 16 → RaP R w0 B w q k 0 10)
    (h5 : s.length ≤ 1024 → ∀ b, taker k s = some b → b.env = 2 → k.q2.length < 16 → ∀ y : Sl, y.l = s → RaP R w0 B w q { k with q2 := k.q2 ++ [y] } 2 0) :
    Calls Tryz.prog 13 #[.pointer (some ⟨q.g, 0, none⟩), .string (S s)] w R := by
  have H0 := Lib.hid h0
  have H1 := Lib.hid h1
  have H2 := Lib.hid h2
  have H3 := Lib.hid h3
  have H4 := Lib.hid h4
  have H5 := Lib.hid h5
  have HQ := Lib.hid hQ
  have HF := Lib.hid hf
  clear h0 h1 h2 h3 h4 h5 hf
  by_cases hl : 1024 < s.length
  · have HX := Lib.hid (H0.out hl)
    clear hQ H0 H1 H2 H3 H4 H5
    go_enter Tryz.func13, Tryz.ntmps13
    go_wp2
    exact HX.out q _ (Kp.refl _ _) HQ.out rfl ⟨rfl, rfl⟩
  · have hl2 : s.length ≤ 1024 := by omega
    obtain ⟨ys, hys⟩ := hQ.f
    have HYS := Lib.hid hys
    have hyl := hys.len
    clear hQ hys H0
    go_enter Tryz.func13, Tryz.ntmps13
    go_wp2
    go_loopw [6] (fun iv wr => ∃ i : Nat, i ≤ k.fl.length ∧ iv = .int .i64 i ∧ Hid (Kp [] w wr) ∧ Hid (∀ j y, j < i → k.fl[j]? = some y → (frunP s y.p != 0) = false)) (fun iv _ => k.fl.length - (intOf iv).toNat)
    case atStart => exact ⟨0, Nat.zero_le _, rfl, Lib.hid (Kp.refl _ _), Lib.hid (by intro j y hj; omega)⟩
    case round =>
      obtain ⟨i, hi, rfl, kr, hno⟩ := hrel
      have QW := Lib.hid (HQ.out.kp kr.out)
      have c2 : wr.cell? ⟨q.g, 2, none⟩ = some (.slice q.fA k.fl.length q.fc) := QW.out.g.cell 2
      by_cases hlt : i < k.fl.length
      · obtain ⟨y, hy, hym⟩ := get_lt (l := k.fl) (k := i) hlt
        obtain ⟨z, hz, hzm⟩ := get_lt (l := ys) (k := i) (by omega)
        obtain ⟨_, ke, kp⟩ := key_at HYS.out.key hz hy
        have hrd : Nb wr q.own 139 q.fA (ys.flatMap Bnd.vals) := HYS.out.rd.kp kr.out (by simp)
        obtain ⟨bb, off, hA, hbn, hbl, hcc⟩ := rd_at hrd.rd bvals_len (by omega) hz
        have d1 := hcc 1 _ rfl
        have d2 := hcc 2 _ rfl
        obtain ⟨p1, p2, p3, p4⟩ := HYS.out.p z hzm
        have HR : Hid (∀ (R : Ending → World → Prop) (w1 : World), Kp [] wr w1 → (∀ w' st, Kp [] w1 w' → R (.returned (.tuple #[.int .u32 (frunP s y.p), .int .i64 st])) w') → Calls Tryz.prog 61 #[.slice z.A z.n z.c, .string (S s)] w1 R) := Lib.hid (fun R w1 k1 h => rfrun_any ((p4.kp (HQ.out.old.trans kr.out) (by simp)).kp k1 (by simp)) p1 p3 (by rw [kp]; exact HF.out.chk y hym) hl2 (by rw [kp]; exact h))
        have HE := HF.out.env y hym
        rw [ke] at d1
        have HY := Lib.hid hy
        have HD : Hid (∀ W', Kp [] wr W' → W'.cell? ⟨q.g, 2, none⟩ = some (.slice (some ⟨bb, off, none⟩) k.fl.length q.fc) ∧ W'.cell? ⟨bb, off + i * 3 + 1, none⟩ = some (.int .i64 y.env)) := Lib.hid (fun W' k' => ⟨by rw [← hA]; exact (QW.out.g.kp k' (by simp)).cell 2, (k'.cell (p := ⟨bb, off + i * 3 + 1, none⟩) hbl (by simp)).trans d1⟩)
        rw [hA] at c2
        clear hcc hy hrd hA hz kp p1 p2 p3 p4 ke d1
        obtain ⟨fr, hfr⟩ : ∃ fr : Nat, frunP s y.p = fr := ⟨_, rfl⟩
        rw [hfr] at HR
        by_cases h0 : fr = 0
        · have e0 : ((fr : Int) == 0) = true := by simp [h0]
          have HF0 := Lib.hid (hfr.trans h0)
          clear hfr h0
          go_wp2_with (go_at_call 61; ((refine HR.out _ _ (Kp.refl _ _) ?_); intro w3 st3 k3))
          exact ⟨⟨i + 1, by omega, by go_num, Lib.hid (kr.out.trans k3), Lib.hid (by
            intro j x hj hx
            rcases Nat.lt_or_ge j i with h | h
            · exact hno.out j x h hx
            · obtain rfl : j = i := by omega
              have := HY.out.symm.trans hx
              injection this with this
              subst this
              rw [HF0.out]; rfl)⟩, by simp [intOf]; omega⟩
        · have e0 : ((fr : Int) == 0) = false := by simp [h0]
          have HT : Hid (taker k s = some y) := Lib.hid (find_at HY.out hno.out (by rw [hfr]; simp [h0]))
          clear hfr h0
          rcases HE with he | he
          · rw [he] at HD
            have HD9 : Hid (∀ W', Kp [] wr W' → W'.cell? ⟨q.g, 5, none⟩ = some (.slice q.i1 k.q1.length q.c1)) := Lib.hid (fun W' k' => (QW.out.g.kp k' (by simp)).cell 5)
            by_cases h16 : k.q1.length = 16
            · have g1 : decide ((16 : Int) ≤ (k.q1.length : Int)) = true := by simp; omega
              have g2 : decide (16 ≤ k.q1.length) = true := by simp; omega
              have HX := Lib.hid (H2.out hl2 y HT.out he h16)
              clear H1 H2 H3 H4 H5 h16
              go_wp2_with (go_at_call 61; ((refine HR.out _ _ (Kp.refl _ _) ?_); intro w3 st3 k3; obtain ⟨x0, x1⟩ := HD.out w3 k3; have x2 := HD9.out w3 k3))
              exact HX.out q _ ((kr.out.trans k3).mono (by simp)) (QW.out.kp k3) rfl ⟨rfl, rfl⟩
            · have h17 : k.q1.length < 16 := by omega
              have g1 : decide ((16 : Int) ≤ (k.q1.length : Int)) = false := by simp; omega
              have g2 : decide (16 ≤ k.q1.length) = false := by simp; omega
              have HX := Lib.hid (H3.out hl2 y HT.out he h17 ⟨none, 0, 0, s⟩ rfl)
              clear H1 H2 H3 H4 H5 h16
              go_upto_region 11 with (go_at_call 61; ((refine HR.out _ _ (Kp.refl _ _) ?_); intro W0 st3 k3; obtain ⟨x0, x1⟩ := HD.out W0 k3; have x2 := HD9.out W0 k3))
              have QZ := Lib.hid (QW.out.kp k3)
              have KZ : Hid (Kp [] w W0) := Lib.hid (kr.out.trans k3)
              have hin := QZ.out.in1
              have HRd : Hid (∀ W, Kp [] W0 W → Rd W [] q.i1 (k.q1.map slV)) := Lib.hid (fun W k' => (hin.kp k' (by simp)).rd.sub (by simp))
              have HLN : Hid ((k.q1.map slV).length = k.q1.length * 1) := Lib.hid (by simp)
              have HMW : Hid (∀ u ∈ k.q1.map slV, u.oneCell' = true) := Lib.hid (by intro u hu; obtain ⟨x, _, rfl⟩ := List.mem_map.1 hu; rfl)
              have HNW : Hid (∀ u ∈ [Value.string (S s)], u.oneCell' = true) := Lib.hid (by intro u hu; simp at hu; subst hu; rfl)
              have HW0 : Hid (∀ W, Kp [] W0 W → Bk W q.g 67 [.pointer (some ⟨q.bM, 0, none⟩), .pointer (some ⟨q.bD, 0, none⟩), .slice q.fA k.fl.length q.fc, .int .i64 k.nx, .slice none 0 0, .slice q.i1 k.q1.length q.c1, .slice q.i2 k.q2.length q.c2, .slice q.oA k.qo.length q.oc, .int .i64 (k.fo + k.qo.length : Nat), .int .i64 k.dn]) := Lib.hid (fun W k' => QZ.out.g.kp k' (by simp))
              have Fin : Hid (∀ (A' : Option Addr) (c' : Nat) (W9 : World), Kp [] W0 W9 → Ow W9 9 1 A' (k.q1.length + 1) c' (k.q1.map slV ++ [.string (S s)]) → Fresh W0.heap.size A' →
                  R (.returned (.tuple #[.int .i64 1, .int .i64 0])) (W9.setCell ⟨q.g, 5, none⟩ (.slice A' (k.q1.length + 1) c'))) := Lib.hid (fun A' c' W9 k9 ho hfr => by
                have Q9 := QZ.out.kp k9
                have kg : Kp [q.g] W9 (W9.setCell ⟨q.g, 5, none⟩ (.slice A' (k.q1.length + 1) c')) := (Kp.refl [q.g] W9).setCell (p := ⟨q.g, 5, none⟩) (.inl (by simp)) _
                have hs : ∀ s ∈ [q.g], s ∈ q.own ∨ W9.heap.size ≤ s := fun s hm => .inl (Qn.own3 q s hm)
                obtain ⟨xs, hxs⟩ := Q9.f
                obtain ⟨zs, hzs⟩ := Q9.o
                have hfn : ∀ b ∈ bks A', b ∉ q.own := fun b hb hm => by
                  have h1 := hfr b hb
                  have h2 := QZ.out.lt _ hm
                  omega
                have hnb := (ho.nb (N := q.own) hfn).kp kg hs
                obtain ⟨r1, r2⟩ := Q9.setG (k' := { k with q1 := k.q1 ++ [⟨none, 0, 0, s⟩] }) (fA' := q.fA) (fc' := q.fc) (i1' := A') (c1' := c') (i2' := q.i2) (c2' := q.c2) (oA' := q.oA) (oc' := q.oc) kg rfl rfl ((Q9.g.set_ 5 _).cast (by simp [QA.cells]))
                  ⟨xs, hxs.kp kg hs⟩ (by simpa [slV] using hnb) (Q9.in2.kp kg hs) ⟨zs, hzs.kp kg hs⟩ ⟨Q9.cp.1, by have := Ow.capn ho; simpa using this, Q9.cp.2.2⟩
                exact HX.out _ _ (((KZ.out.mono (by simp)).thn (k9.mono (S' := q.own) (by simp)) (fun s hs => .inl hs)).thn r2 (fun s hs => .inl hs)) r1 rfl ⟨rfl, rfl⟩)
              have hnn : k.q1.length ≤ 1000000 := by omega
              clear d2 c2 x0 x1 x2 HD HD9 HR HX HQ QW QZ KZ hin HT kr k3 HYS HY HF hno hzm hym g1 g2
              refine nameA (fun A00 hA00 => ?_)
              have sl0 : A00.tmps.getD 0 undef = .pointer (some ⟨q.g, 0, none⟩) := by rw [hA00]; rfl
              have sl1 : A00.tmps.getD 1 undef = .string (S s) := by rw [hA00]; rfl
              have sl9 : A00.tmps.getD 9 undef = .int .i64 1 := by rw [hA00]; rfl
              have sz00 : A00.tmps.size = 70 := by rw [hA00]; rfl
              have HA00 := Lib.hid hA00
              clear hA00
              refine wp_region_inv (fun bP a' W => ∃ (g1 : Nat) (A1 : Option Addr) (c1 : Nat) (A2 : Option Addr) (c2 : Nat) (g2 : Nat), Hid (a'.defers = A00.defers) ∧ Hid (a'.tmps.size = A00.tmps.size) ∧ Hid (∀ k, k ∉ [53, 54, 55, 56, 57, 58, 59, 60, 61, 62, 63, 64, 65, 66, 67, 68] → a'.tmps.getD k undef = A00.tmps.getD k undef) ∧ (bP 0 → a'.tmps.getD 53 undef = .pointer (some ⟨q.g, 0, none⟩)) ∧ (bP 1 → a'.tmps.getD 54 undef = .int .i64 1) ∧ (bP 2 → a'.tmps.getD 55 undef = .slice (some ⟨g1, 0, none⟩) 0 0) ∧ (bP 3 → a'.tmps.getD 56 undef = .pointer (some ⟨q.g, 0, none⟩)) ∧ (bP 4 → a'.tmps.getD 57 undef = .int .i64 1) ∧ (bP 5 → a'.tmps.getD 58 undef = .pointer (some ⟨q.g, 0, none⟩)) ∧ (bP 6 → a'.tmps.getD 59 undef = .pointer (some ⟨q.g, 4, none⟩)) ∧ (bP 7 → a'.tmps.getD 60 undef = .pointer (some ⟨q.g, 5, none⟩)) ∧ (bP 8 → a'.tmps.getD 61 undef = .slice q.i1 k.q1.length q.c1) ∧ (bP 9 → a'.tmps.getD 62 undef = .slice A1 k.q1.length c1) ∧ (bP 10 → a'.tmps.getD 63 undef = .string (S s)) ∧ (bP 11 → a'.tmps.getD 64 undef = .slice (some ⟨g2, 0, none⟩) 1 1) ∧ (bP 12 → a'.tmps.getD 65 undef = .slice A2 (k.q1.length + 1) c2) ∧ (bP 13 → a'.tmps.getD 66 undef = .pointer (some ⟨q.g, 0, none⟩)) ∧ (bP 14 → a'.tmps.getD 67 undef = .pointer (some ⟨q.g, 4, none⟩)) ∧ (bP 15 → a'.tmps.getD 68 undef = .pointer (some ⟨q.g, 5, none⟩)) ∧ (bP 5 → bP 3) ∧ (bP 6 → bP 5) ∧ (bP 7 → bP 4) ∧ (bP 7 → bP 6) ∧ (bP 8 → bP 7) ∧ (bP 9 → bP 2) ∧ (bP 9 → bP 8) ∧ (bP 11 → bP 10) ∧ (bP 12 → bP 9) ∧ (bP 12 → bP 11) ∧ (bP 13 → bP 0) ∧ (bP 14 → bP 13) ∧ (bP 15 → bP 1) ∧ (bP 15 → bP 14) ∧ (bP 16 → bP 12) ∧ (bP 16 → bP 15) ∧ (¬ bP 16 → Hid (Kp [] W0 W)) ∧ (bP 2 → ¬ bP 9 → ¬ bP 16 → Hid (W0.heap.size ≤ g1 ∧ Ow W 9 1 (some ⟨g1, 0, none⟩) 0 0 [])) ∧ (bP 11 → ¬ bP 16 → Hid (W0.heap.size ≤ g2 ∧ Bk W g2 9 [.string (S s)])) ∧ (bP 2 → bP 11 → ¬ bP 9 → ¬ bP 16 → Hid (g1 ≠ g2)) ∧ (bP 9 → bP 11 → ¬ bP 12 → ¬ bP 16 → Hid (g2 ∉ bks A1)) ∧ (bP 9 → ¬ bP 12 → ¬ bP 16 → Hid (Fresh W0.heap.size A1 ∧ Ow W 9 1 A1 k.q1.length c1 (k.q1.map slV))) ∧ (bP 12 → ¬ bP 16 → Hid (Fresh W0.heap.size A2 ∧ Ow W 9 1 A2 (k.q1.length + 1) c2 ((k.q1.map slV) ++ [.string (S s)]))) ∧ (bP 16 → Hid (∃ W9, Kp [] W0 W9 ∧ Ow W9 9 1 A2 (k.q1.length + 1) c2 ((k.q1.map slV) ++ [.string (S s)]) ∧ Fresh W0.heap.size A2 ∧ W = W9.setCell ⟨q.g, 5, none⟩ (.slice A2 (k.q1.length + 1) c2)))) (by kernel_rfl) (by kernel_rfl) 17 rfl ?_ ?_ ?_
              · exact ⟨0, none, 0, none, 0, 0, Lib.hid rfl, Lib.hid rfl, Lib.hid (fun _ _ => rfl), fun h => absurd h id, fun h => absurd h id, fun h => absurd h id, fun h => absurd h id, fun h => absurd h id, fun h => absurd h id, fun h => absurd h id, fun h => absurd h id, fun h => absurd h id, fun h => absurd h id, fun h => absurd h id, fun h => absurd h id, fun h => absurd h id, fun h => absurd h id, fun h => absurd h id, fun h => absurd h id, fun h => absurd h id, fun h => absurd h id, fun h => absurd h id, fun h => absurd h id, fun h => absurd h id, fun h => absurd h id, fun h => absurd h id, fun h => absurd h id, fun h => absurd h id, fun h => absurd h id, fun h => absurd h id, fun h => absurd h id, fun h => absurd h id, fun h => absurd h id, fun h => absurd h id, fun h => absurd h id, fun _ => Lib.hid ((Kp.refl _ _).drew), fun h => absurd h id, fun h => absurd h id, fun h => absurd h id, fun h => absurd h id, fun h => absurd h id, fun h => absurd h id, fun h => absurd h id⟩
              · intro bP a' W iP oP hoP hn hdP hI KP hK
                obtain ⟨g1, A1, c1, A2, c2, g2, ad, az, af, h0, h1, h2, h3, h4, h5, h6, h7, h8, h9, h10, h11, h12, h13, h14, h15, c5_3, c6_5, c7_4, c7_6, c8_7, c9_2, c9_8, c11_10, c12_9, c12_11, c13_0, c14_13, c15_1, c15_14, c16_12, c16_15, hK1, hg1, hg3, hne, hne2, hg2, hgF, hFin⟩ := hI
                have s0 := (af.out 0 (by decide)).trans sl0
                have s1 := (af.out 1 (by decide)).trans sl1
                have s9 := (af.out 9 (by decide)).trans sl9
                match iP, hoP with
                | 0, hoP =>
                  injection hoP with hoP; subst hoP
                  have nb16 : ¬ bP 16 := fun h => hn (c13_0 (c14_13 (c15_14 (c16_15 h))))
                  have HK := Lib.hid hK
                  obtain ⟨sv0, sw0⟩ := ev_of s0
                  clear hK hdP
                  rw [if_pos (by rfl)]
                  go_simp
                  exact HK.out _ _ ⟨g1, A1, c1, A2, c2, g2, Lib.hid ad.out, Lib.hid (gd_size.trans az.out), Lib.hid (fun k hk => (gd_ne (by rintro rfl; exact hk (by decide))).trans (af.out k hk)), fun _ => gd_eq (by rw [az.out, sz00]; decide), gdI h1, gdI h2, gdI h3, gdI h4, gdI h5, gdI h6, gdI h7, gdI h8, gdI h9, gdI h10, gdI h11, gdI h12, gdI h13, gdI h14, gdI h15, giI c5_3, giI c6_5, giI c7_4, giI c7_6, giI c8_7, giI c9_2, giI c9_8, giI c11_10, giI c12_9, giI c12_11, giI c13_0, giI c14_13, giI c15_1, giI c15_14, giI c16_12, giI c16_15, fun n16 => (hK1 (fun z => n16 (.inr z))), fun p2 n9 n16 => (hg1 (rlI p2) (fun z => n9 (.inr z)) (fun z => n16 (.inr z))), fun p11 n16 => (hg3 (rlI p11) (fun z => n16 (.inr z))), fun p2 p11 n9 n16 => (hne (rlI p2) (rlI p11) (fun z => n9 (.inr z)) (fun z => n16 (.inr z))), fun p9 p11 n12 n16 => (hne2 (rlI p9) (rlI p11) (fun z => n12 (.inr z)) (fun z => n16 (.inr z))), fun p9 n12 n16 => (hg2 (rlI p9) (fun z => n12 (.inr z)) (fun z => n16 (.inr z))), fun p12 n16 => (hgF (rlI p12) (fun z => n16 (.inr z))), fun p16 => absurd (c13_0 (c14_13 (c15_14 (c16_15 (rlI p16))))) hn⟩
                | 1, hoP =>
                  injection hoP with hoP; subst hoP
                  have nb16 : ¬ bP 16 := fun h => hn (c15_1 (c16_15 h))
                  have HK := Lib.hid hK
                  obtain ⟨sv9, sw9⟩ := ev_of s9
                  clear hK hdP
                  rw [if_pos (by rfl)]
                  go_simp
                  exact HK.out _ _ ⟨g1, A1, c1, A2, c2, g2, Lib.hid ad.out, Lib.hid (gd_size.trans az.out), Lib.hid (fun k hk => (gd_ne (by rintro rfl; exact hk (by decide))).trans (af.out k hk)), gdI h0, fun _ => gd_eq (by rw [az.out, sz00]; decide), gdI h2, gdI h3, gdI h4, gdI h5, gdI h6, gdI h7, gdI h8, gdI h9, gdI h10, gdI h11, gdI h12, gdI h13, gdI h14, gdI h15, giI c5_3, giI c6_5, giI c7_4, giI c7_6, giI c8_7, giI c9_2, giI c9_8, giI c11_10, giI c12_9, giI c12_11, giI c13_0, giI c14_13, giI c15_1, giI c15_14, giI c16_12, giI c16_15, fun n16 => (hK1 (fun z => n16 (.inr z))), fun p2 n9 n16 => (hg1 (rlI p2) (fun z => n9 (.inr z)) (fun z => n16 (.inr z))), fun p11 n16 => (hg3 (rlI p11) (fun z => n16 (.inr z))), fun p2 p11 n9 n16 => (hne (rlI p2) (rlI p11) (fun z => n9 (.inr z)) (fun z => n16 (.inr z))), fun p9 p11 n12 n16 => (hne2 (rlI p9) (rlI p11) (fun z => n12 (.inr z)) (fun z => n16 (.inr z))), fun p9 n12 n16 => (hg2 (rlI p9) (fun z => n12 (.inr z)) (fun z => n16 (.inr z))), fun p12 n16 => (hgF (rlI p12) (fun z => n16 (.inr z))), fun p16 => absurd (c15_1 (c16_15 (rlI p16))) hn⟩
                | 2, hoP =>
                  injection hoP with hoP; subst hoP
                  have nb9 : ¬ bP 9 := fun h => hn (c9_2 h)
                  have nb12 : ¬ bP 12 := fun h => hn (c9_2 (c12_9 h))
                  have nb16 : ¬ bP 16 := fun h => hn (c9_2 (c12_9 (c16_12 h)))
                  have HK := Lib.hid hK
                  clear hK hdP
                  rw [if_pos (by rfl)]
                  go_simp
                  exact HK.out _ _ ⟨W.heap.size, A1, c1, A2, c2, g2, Lib.hid ad.out, Lib.hid (gd_size.trans az.out), Lib.hid (fun k hk => (gd_ne (by rintro rfl; exact hk (by decide))).trans (af.out k hk)), gdI h0, gdI h1, fun _ => gd_eq (by rw [az.out, sz00]; decide), gdI h3, gdI h4, gdI h5, gdI h6, gdI h7, gdI h8, gdI h9, gdI h10, gdI h11, gdI h12, gdI h13, gdI h14, gdI h15, giI c5_3, giI c6_5, giI c7_4, giI c7_6, giI c8_7, giI c9_2, giI c9_8, giI c11_10, giI c12_9, giI c12_11, giI c13_0, giI c14_13, giI c15_1, giI c15_14, giI c16_12, giI c16_15, fun n16 => Lib.hid (((hK1 (fun z => n16 (.inr z))).out).trans ((Kp.refl [] W).alloc _)), fun p2 n9 n16 => Lib.hid (⟨(hK1 nb16).out.size, Ow.lit W _ 1 #[] 0 (by decide) rfl⟩), fun p11 n16 => Lib.hid (⟨((hg3 (rlI p11) (fun z => n16 (.inr z))).out).1, ((hg3 (rlI p11) (fun z => n16 (.inr z))).out).2.kp ((Kp.refl [] W).alloc _) (by simp)⟩), fun p2 p11 n9 n16 => Lib.hid (fun e => by have := (hg3 (rlI p11) nb16).out.2.lt; omega), fun p9 p11 n12 n16 => absurd (c9_2 (rlI p9)) hn, fun p9 n12 n16 => absurd (c9_2 (rlI p9)) hn, fun p12 n16 => absurd (c9_2 (c12_9 (rlI p12))) hn, fun p16 => absurd (c9_2 (c12_9 (c16_12 (rlI p16)))) hn⟩
                | 3, hoP =>
                  injection hoP with hoP; subst hoP
                  have nb9 : ¬ bP 9 := fun h => hn (c5_3 (c6_5 (c7_6 (c8_7 (c9_8 h)))))
                  have nb12 : ¬ bP 12 := fun h => hn (c5_3 (c6_5 (c7_6 (c8_7 (c9_8 (c12_9 h))))))
                  have nb16 : ¬ bP 16 := fun h => hn (c5_3 (c6_5 (c7_6 (c8_7 (c9_8 (c12_9 (c16_12 h)))))))
                  have HK := Lib.hid hK
                  obtain ⟨sv0, sw0⟩ := ev_of s0
                  clear hK hdP
                  rw [if_pos (by rfl)]
                  go_simp
                  exact HK.out _ _ ⟨g1, A1, c1, A2, c2, g2, Lib.hid ad.out, Lib.hid (gd_size.trans az.out), Lib.hid (fun k hk => (gd_ne (by rintro rfl; exact hk (by decide))).trans (af.out k hk)), gdI h0, gdI h1, gdI h2, fun _ => gd_eq (by rw [az.out, sz00]; decide), gdI h4, gdI h5, gdI h6, gdI h7, gdI h8, gdI h9, gdI h10, gdI h11, gdI h12, gdI h13, gdI h14, gdI h15, giI c5_3, giI c6_5, giI c7_4, giI c7_6, giI c8_7, giI c9_2, giI c9_8, giI c11_10, giI c12_9, giI c12_11, giI c13_0, giI c14_13, giI c15_1, giI c15_14, giI c16_12, giI c16_15, fun n16 => (hK1 (fun z => n16 (.inr z))), fun p2 n9 n16 => (hg1 (rlI p2) (fun z => n9 (.inr z)) (fun z => n16 (.inr z))), fun p11 n16 => (hg3 (rlI p11) (fun z => n16 (.inr z))), fun p2 p11 n9 n16 => (hne (rlI p2) (rlI p11) (fun z => n9 (.inr z)) (fun z => n16 (.inr z))), fun p9 p11 n12 n16 => absurd (c5_3 (c6_5 (c7_6 (c8_7 (c9_8 (rlI p9)))))) hn, fun p9 n12 n16 => absurd (c5_3 (c6_5 (c7_6 (c8_7 (c9_8 (rlI p9)))))) hn, fun p12 n16 => absurd (c5_3 (c6_5 (c7_6 (c8_7 (c9_8 (c12_9 (rlI p12))))))) hn, fun p16 => absurd (c5_3 (c6_5 (c7_6 (c8_7 (c9_8 (c12_9 (c16_12 (rlI p16)))))))) hn⟩
                | 4, hoP =>
                  injection hoP with hoP; subst hoP
                  have nb9 : ¬ bP 9 := fun h => hn (c7_4 (c8_7 (c9_8 h)))
                  have nb12 : ¬ bP 12 := fun h => hn (c7_4 (c8_7 (c9_8 (c12_9 h))))
                  have nb16 : ¬ bP 16 := fun h => hn (c7_4 (c8_7 (c9_8 (c12_9 (c16_12 h)))))
                  have HK := Lib.hid hK
                  obtain ⟨sv9, sw9⟩ := ev_of s9
                  clear hK hdP
                  rw [if_pos (by rfl)]
                  go_simp
                  exact HK.out _ _ ⟨g1, A1, c1, A2, c2, g2, Lib.hid ad.out, Lib.hid (gd_size.trans az.out), Lib.hid (fun k hk => (gd_ne (by rintro rfl; exact hk (by decide))).trans (af.out k hk)), gdI h0, gdI h1, gdI h2, gdI h3, fun _ => gd_eq (by rw [az.out, sz00]; decide), gdI h5, gdI h6, gdI h7, gdI h8, gdI h9, gdI h10, gdI h11, gdI h12, gdI h13, gdI h14, gdI h15, giI c5_3, giI c6_5, giI c7_4, giI c7_6, giI c8_7, giI c9_2, giI c9_8, giI c11_10, giI c12_9, giI c12_11, giI c13_0, giI c14_13, giI c15_1, giI c15_14, giI c16_12, giI c16_15, fun n16 => (hK1 (fun z => n16 (.inr z))), fun p2 n9 n16 => (hg1 (rlI p2) (fun z => n9 (.inr z)) (fun z => n16 (.inr z))), fun p11 n16 => (hg3 (rlI p11) (fun z => n16 (.inr z))), fun p2 p11 n9 n16 => (hne (rlI p2) (rlI p11) (fun z => n9 (.inr z)) (fun z => n16 (.inr z))), fun p9 p11 n12 n16 => absurd (c7_4 (c8_7 (c9_8 (rlI p9)))) hn, fun p9 n12 n16 => absurd (c7_4 (c8_7 (c9_8 (rlI p9)))) hn, fun p12 n16 => absurd (c7_4 (c8_7 (c9_8 (c12_9 (rlI p12))))) hn, fun p16 => absurd (c7_4 (c8_7 (c9_8 (c12_9 (c16_12 (rlI p16)))))) hn⟩
                | 5, hoP =>
                  injection hoP with hoP; subst hoP
                  have nb9 : ¬ bP 9 := fun h => hn (c6_5 (c7_6 (c8_7 (c9_8 h))))
                  have nb12 : ¬ bP 12 := fun h => hn (c6_5 (c7_6 (c8_7 (c9_8 (c12_9 h)))))
                  have nb16 : ¬ bP 16 := fun h => hn (c6_5 (c7_6 (c8_7 (c9_8 (c12_9 (c16_12 h))))))
                  have d3 : bP 3 := hdP ⟨3, .data⟩ (by simp) rfl
                  have HK := Lib.hid hK
                  have e3 := h3 d3
                  obtain ⟨ev3, ew3⟩ := ev_of e3
                  clear hK hdP
                  rw [if_pos (by rfl)]
                  go_simp
                  exact HK.out _ _ ⟨g1, A1, c1, A2, c2, g2, Lib.hid ad.out, Lib.hid (gd_size.trans az.out), Lib.hid (fun k hk => (gd_ne (by rintro rfl; exact hk (by decide))).trans (af.out k hk)), gdI h0, gdI h1, gdI h2, gdI h3, gdI h4, fun _ => gd_eq (by rw [az.out, sz00]; decide), gdI h6, gdI h7, gdI h8, gdI h9, gdI h10, gdI h11, gdI h12, gdI h13, gdI h14, gdI h15, fun _ => .inr d3, giI c6_5, giI c7_4, giI c7_6, giI c8_7, giI c9_2, giI c9_8, giI c11_10, giI c12_9, giI c12_11, giI c13_0, giI c14_13, giI c15_1, giI c15_14, giI c16_12, giI c16_15, fun n16 => (hK1 (fun z => n16 (.inr z))), fun p2 n9 n16 => (hg1 (rlI p2) (fun z => n9 (.inr z)) (fun z => n16 (.inr z))), fun p11 n16 => (hg3 (rlI p11) (fun z => n16 (.inr z))), fun p2 p11 n9 n16 => (hne (rlI p2) (rlI p11) (fun z => n9 (.inr z)) (fun z => n16 (.inr z))), fun p9 p11 n12 n16 => absurd (c6_5 (c7_6 (c8_7 (c9_8 (rlI p9))))) hn, fun p9 n12 n16 => absurd (c6_5 (c7_6 (c8_7 (c9_8 (rlI p9))))) hn, fun p12 n16 => absurd (c6_5 (c7_6 (c8_7 (c9_8 (c12_9 (rlI p12)))))) hn, fun p16 => absurd (c6_5 (c7_6 (c8_7 (c9_8 (c12_9 (c16_12 (rlI p16))))))) hn⟩
                | 6, hoP =>
                  injection hoP with hoP; subst hoP
                  have nb9 : ¬ bP 9 := fun h => hn (c7_6 (c8_7 (c9_8 h)))
                  have nb12 : ¬ bP 12 := fun h => hn (c7_6 (c8_7 (c9_8 (c12_9 h))))
                  have nb16 : ¬ bP 16 := fun h => hn (c7_6 (c8_7 (c9_8 (c12_9 (c16_12 h)))))
                  have d5 : bP 5 := hdP ⟨5, .data⟩ (by simp) rfl
                  have HK := Lib.hid hK
                  have e5 := h5 d5
                  obtain ⟨ev5, ew5⟩ := ev_of e5
                  clear hK hdP
                  rw [if_pos (by rfl)]
                  go_simp
                  exact HK.out _ _ ⟨g1, A1, c1, A2, c2, g2, Lib.hid ad.out, Lib.hid (gd_size.trans az.out), Lib.hid (fun k hk => (gd_ne (by rintro rfl; exact hk (by decide))).trans (af.out k hk)), gdI h0, gdI h1, gdI h2, gdI h3, gdI h4, gdI h5, fun _ => gd_eq (by rw [az.out, sz00]; decide), gdI h7, gdI h8, gdI h9, gdI h10, gdI h11, gdI h12, gdI h13, gdI h14, gdI h15, giI c5_3, fun _ => .inr d5, giI c7_4, giI c7_6, giI c8_7, giI c9_2, giI c9_8, giI c11_10, giI c12_9, giI c12_11, giI c13_0, giI c14_13, giI c15_1, giI c15_14, giI c16_12, giI c16_15, fun n16 => (hK1 (fun z => n16 (.inr z))), fun p2 n9 n16 => (hg1 (rlI p2) (fun z => n9 (.inr z)) (fun z => n16 (.inr z))), fun p11 n16 => (hg3 (rlI p11) (fun z => n16 (.inr z))), fun p2 p11 n9 n16 => (hne (rlI p2) (rlI p11) (fun z => n9 (.inr z)) (fun z => n16 (.inr z))), fun p9 p11 n12 n16 => absurd (c7_6 (c8_7 (c9_8 (rlI p9)))) hn, fun p9 n12 n16 => absurd (c7_6 (c8_7 (c9_8 (rlI p9)))) hn, fun p12 n16 => absurd (c7_6 (c8_7 (c9_8 (c12_9 (rlI p12))))) hn, fun p16 => absurd (c7_6 (c8_7 (c9_8 (c12_9 (c16_12 (rlI p16)))))) hn⟩
                | 7, hoP =>
                  injection hoP with hoP; subst hoP
                  have nb9 : ¬ bP 9 := fun h => hn (c8_7 (c9_8 h))
                  have nb12 : ¬ bP 12 := fun h => hn (c8_7 (c9_8 (c12_9 h)))
                  have nb16 : ¬ bP 16 := fun h => hn (c8_7 (c9_8 (c12_9 (c16_12 h))))
                  have d4 : bP 4 := hdP ⟨4, .data⟩ (by simp) rfl
                  have d6 : bP 6 := hdP ⟨6, .data⟩ (by simp) rfl
                  have HK := Lib.hid hK
                  have e4 := h4 d4
                  obtain ⟨ev4, ew4⟩ := ev_of e4
                  have e6 := h6 d6
                  obtain ⟨ev6, ew6⟩ := ev_of e6
                  clear hK hdP
                  rw [if_pos (by rfl)]
                  go_simp
                  exact HK.out _ _ ⟨g1, A1, c1, A2, c2, g2, Lib.hid ad.out, Lib.hid (gd_size.trans az.out), Lib.hid (fun k hk => (gd_ne (by rintro rfl; exact hk (by decide))).trans (af.out k hk)), gdI h0, gdI h1, gdI h2, gdI h3, gdI h4, gdI h5, gdI h6, fun _ => gd_eq (by rw [az.out, sz00]; decide), gdI h8, gdI h9, gdI h10, gdI h11, gdI h12, gdI h13, gdI h14, gdI h15, giI c5_3, giI c6_5, fun _ => .inr d4, fun _ => .inr d6, giI c8_7, giI c9_2, giI c9_8, giI c11_10, giI c12_9, giI c12_11, giI c13_0, giI c14_13, giI c15_1, giI c15_14, giI c16_12, giI c16_15, fun n16 => (hK1 (fun z => n16 (.inr z))), fun p2 n9 n16 => (hg1 (rlI p2) (fun z => n9 (.inr z)) (fun z => n16 (.inr z))), fun p11 n16 => (hg3 (rlI p11) (fun z => n16 (.inr z))), fun p2 p11 n9 n16 => (hne (rlI p2) (rlI p11) (fun z => n9 (.inr z)) (fun z => n16 (.inr z))), fun p9 p11 n12 n16 => absurd (c8_7 (c9_8 (rlI p9))) hn, fun p9 n12 n16 => absurd (c8_7 (c9_8 (rlI p9))) hn, fun p12 n16 => absurd (c8_7 (c9_8 (c12_9 (rlI p12)))) hn, fun p16 => absurd (c8_7 (c9_8 (c12_9 (c16_12 (rlI p16))))) hn⟩
                | 8, hoP =>
                  injection hoP with hoP; subst hoP
                  have nb9 : ¬ bP 9 := fun h => hn (c9_8 h)
                  have nb12 : ¬ bP 12 := fun h => hn (c9_8 (c12_9 h))
                  have nb16 : ¬ bP 16 := fun h => hn (c9_8 (c12_9 (c16_12 h)))
                  have d7 : bP 7 := hdP ⟨7, .data⟩ (by simp) rfl
                  have HK := Lib.hid hK
                  have e7 := h7 d7
                  obtain ⟨ev7, ew7⟩ := ev_of e7
                  have q := (HW0.out W (hK1 nb16).out).cell 5
                  simp only [List.getElem?_cons_zero, List.getElem?_cons_succ] at q
                  clear hK hdP
                  rw [if_pos (by rfl)]
                  go_simp
                  exact HK.out _ _ ⟨g1, A1, c1, A2, c2, g2, Lib.hid ad.out, Lib.hid (gd_size.trans az.out), Lib.hid (fun k hk => (gd_ne (by rintro rfl; exact hk (by decide))).trans (af.out k hk)), gdI h0, gdI h1, gdI h2, gdI h3, gdI h4, gdI h5, gdI h6, gdI h7, fun _ => gd_eq (by rw [az.out, sz00]; decide), gdI h9, gdI h10, gdI h11, gdI h12, gdI h13, gdI h14, gdI h15, giI c5_3, giI c6_5, giI c7_4, giI c7_6, fun _ => .inr d7, giI c9_2, giI c9_8, giI c11_10, giI c12_9, giI c12_11, giI c13_0, giI c14_13, giI c15_1, giI c15_14, giI c16_12, giI c16_15, fun n16 => (hK1 (fun z => n16 (.inr z))), fun p2 n9 n16 => (hg1 (rlI p2) (fun z => n9 (.inr z)) (fun z => n16 (.inr z))), fun p11 n16 => (hg3 (rlI p11) (fun z => n16 (.inr z))), fun p2 p11 n9 n16 => (hne (rlI p2) (rlI p11) (fun z => n9 (.inr z)) (fun z => n16 (.inr z))), fun p9 p11 n12 n16 => absurd (c9_8 (rlI p9)) hn, fun p9 n12 n16 => absurd (c9_8 (rlI p9)) hn, fun p12 n16 => absurd (c9_8 (c12_9 (rlI p12))) hn, fun p16 => absurd (c9_8 (c12_9 (c16_12 (rlI p16)))) hn⟩
                | 9, hoP =>
                  injection hoP with hoP; subst hoP
                  have nb9 := hn
                  have nb12 : ¬ bP 12 := fun h => hn (c12_9 h)
                  have nb16 : ¬ bP 16 := fun h => hn (c12_9 (c16_12 h))
                  have d2 : bP 2 := hdP ⟨2, .data⟩ (by simp) rfl
                  have d8 : bP 8 := hdP ⟨8, .data⟩ (by simp) rfl
                  have HK := Lib.hid hK
                  have e2 := h2 d2
                  obtain ⟨ev2, ew2⟩ := ev_of e2
                  have e8 := h8 d8
                  obtain ⟨ev8, ew8⟩ := ev_of e8
                  clear hK hdP
                  rw [if_pos (by rfl)]
                  refine wp_app _ (.tmp 55) (.tmp 61) 63 rfl elt_str (some ⟨g1, 0, none⟩) 0 0 [] ev2 (hg1 d2 nb9 nb16).out.2 [] q.i1 k.q1.length q.c1 (k.q1.map slV) ev8 (HRd.out W (hK1 nb16).out) HLN.out HMW.out (by omega) (fun A1' c1' w1' ho1 hk1 hA1 => ?_)
                  rw [Nat.zero_add] at ho1 ⊢
                  simp only [List.nil_append] at ho1
                  have ho1 := Lib.hid ho1
                  exact HK.out _ _ ⟨g1, A1', c1', A2, c2, g2, Lib.hid ad.out, Lib.hid (gd_size.trans az.out), Lib.hid (fun k hk => (gd_ne (by rintro rfl; exact hk (by decide))).trans (af.out k hk)), gdI h0, gdI h1, gdI h2, gdI h3, gdI h4, gdI h5, gdI h6, gdI h7, gdI h8, fun _ => gd_eq (by rw [az.out, sz00]; decide), gdI h10, gdI h11, gdI h12, gdI h13, gdI h14, gdI h15, giI c5_3, giI c6_5, giI c7_4, giI c7_6, giI c8_7, fun _ => .inr d2, fun _ => .inr d8, giI c11_10, giI c12_9, giI c12_11, giI c13_0, giI c14_13, giI c15_1, giI c15_14, giI c16_12, giI c16_15, fun n16 => Lib.hid ((hK1 nb16).out.thn hk1 (fun s hs => .inr (by simp [bks] at hs; have := (hg1 d2 nb9 nb16).out.1; omega))), fun _ z _ => absurd (.inl rfl) z, fun p11 n16 => Lib.hid (⟨(hg3 (rlI p11) nb16).out.1, (hg3 (rlI p11) nb16).out.2.kp hk1 (by have := (hne d2 (rlI p11) nb9 nb16).out; simp [bks]; omega)⟩), fun _ _ z _ => absurd (.inl rfl) z, fun p9 p11 n12 n16 => Lib.hid (by have h9 := (hne d2 (rlI p11) nb9 nb16).out; have h8 := (hg3 (rlI p11) nb16).out.2.lt; rcases hA1 with rfl | rfl <;> simp [bks] <;> omega), fun p9 n12 n16 => Lib.hid (⟨by rcases hA1 with rfl | rfl <;> intro s hs <;> simp [bks] at hs <;> (have := (hg1 d2 nb9 nb16).out.1; have := (hK1 nb16).out.size; omega), ho1.out⟩), fun p12 n16 => absurd (c12_9 (rlI p12)) hn, fun p16 => absurd (c12_9 (c16_12 (rlI p16))) hn⟩
                | 10, hoP =>
                  injection hoP with hoP; subst hoP
                  have nb12 : ¬ bP 12 := fun h => hn (c11_10 (c12_11 h))
                  have nb16 : ¬ bP 16 := fun h => hn (c11_10 (c12_11 (c16_12 h)))
                  have HK := Lib.hid hK
                  obtain ⟨sv1, sw1⟩ := ev_of s1
                  clear hK hdP
                  rw [if_pos (by rfl)]
                  go_simp
                  exact HK.out _ _ ⟨g1, A1, c1, A2, c2, g2, Lib.hid ad.out, Lib.hid (gd_size.trans az.out), Lib.hid (fun k hk => (gd_ne (by rintro rfl; exact hk (by decide))).trans (af.out k hk)), gdI h0, gdI h1, gdI h2, gdI h3, gdI h4, gdI h5, gdI h6, gdI h7, gdI h8, gdI h9, fun _ => gd_eq (by rw [az.out, sz00]; decide), gdI h11, gdI h12, gdI h13, gdI h14, gdI h15, giI c5_3, giI c6_5, giI c7_4, giI c7_6, giI c8_7, giI c9_2, giI c9_8, giI c11_10, giI c12_9, giI c12_11, giI c13_0, giI c14_13, giI c15_1, giI c15_14, giI c16_12, giI c16_15, fun n16 => (hK1 (fun z => n16 (.inr z))), fun p2 n9 n16 => (hg1 (rlI p2) (fun z => n9 (.inr z)) (fun z => n16 (.inr z))), fun p11 n16 => absurd (c11_10 (rlI p11)) hn, fun p2 p11 n9 n16 => absurd (c11_10 (rlI p11)) hn, fun p9 p11 n12 n16 => absurd (c11_10 (rlI p11)) hn, fun p9 n12 n16 => (hg2 (rlI p9) (fun z => n12 (.inr z)) (fun z => n16 (.inr z))), fun p12 n16 => absurd (c11_10 (c12_11 (rlI p12))) hn, fun p16 => absurd (c11_10 (c12_11 (c16_12 (rlI p16)))) hn⟩
                | 11, hoP =>
                  injection hoP with hoP; subst hoP
                  have nb12 : ¬ bP 12 := fun h => hn (c12_11 h)
                  have nb16 : ¬ bP 16 := fun h => hn (c12_11 (c16_12 h))
                  have d10 : bP 10 := hdP ⟨10, .data⟩ (by simp) rfl
                  have HK := Lib.hid hK
                  have e10 := h10 d10
                  obtain ⟨ev10, ew10⟩ := ev_of e10
                  clear hK hdP
                  rw [if_pos (by rfl)]
                  go_simp
                  exact HK.out _ _ ⟨g1, A1, c1, A2, c2, W.heap.size, Lib.hid ad.out, Lib.hid (gd_size.trans az.out), Lib.hid (fun k hk => (gd_ne (by rintro rfl; exact hk (by decide))).trans (af.out k hk)), gdI h0, gdI h1, gdI h2, gdI h3, gdI h4, gdI h5, gdI h6, gdI h7, gdI h8, gdI h9, gdI h10, fun _ => gd_eq (by rw [az.out, sz00]; decide), gdI h12, gdI h13, gdI h14, gdI h15, giI c5_3, giI c6_5, giI c7_4, giI c7_6, giI c8_7, giI c9_2, giI c9_8, fun _ => .inr d10, giI c12_9, giI c12_11, giI c13_0, giI c14_13, giI c15_1, giI c15_14, giI c16_12, giI c16_15, fun n16 => Lib.hid (((hK1 (fun z => n16 (.inr z))).out).trans ((Kp.refl [] W).alloc _)), fun p2 n9 n16 => Lib.hid (⟨((hg1 (rlI p2) (fun z => n9 (.inr z)) (fun z => n16 (.inr z))).out).1, ((hg1 (rlI p2) (fun z => n9 (.inr z)) (fun z => n16 (.inr z))).out).2.kp ((Kp.refl [] W).alloc _) (by simp)⟩), fun p11 n16 => Lib.hid (⟨(hK1 nb16).out.size, (Bk.newAt rfl _ _).cast rfl⟩), fun p2 p11 n9 n16 => Lib.hid (fun e => by have := (hg1 (rlI p2) (fun z => n9 (.inr z)) nb16).out.2.lt g1 (by simp [bks]); omega), fun p9 p11 n12 n16 => Lib.hid (fun hm => by have := (hg2 (rlI p9) (fun z => n12 (.inr z)) nb16).out.2.lt _ hm; omega), fun p9 n12 n16 => Lib.hid (⟨((hg2 (rlI p9) (fun z => n12 (.inr z)) (fun z => n16 (.inr z))).out).1, ((hg2 (rlI p9) (fun z => n12 (.inr z)) (fun z => n16 (.inr z))).out).2.kp ((Kp.refl [] W).alloc _) (by simp)⟩), fun p12 n16 => absurd (c12_11 (rlI p12)) hn, fun p16 => absurd (c12_11 (c16_12 (rlI p16))) hn⟩
                | 12, hoP =>
                  injection hoP with hoP; subst hoP
                  have nb12 := hn
                  have nb16 : ¬ bP 16 := fun h => hn (c16_12 h)
                  have d9 : bP 9 := hdP ⟨9, .data⟩ (by simp) rfl
                  have d11 : bP 11 := hdP ⟨11, .data⟩ (by simp) rfl
                  have HK := Lib.hid hK
                  have e9 := h9 d9
                  obtain ⟨ev9, ew9⟩ := ev_of e9
                  have e11 := h11 d11
                  obtain ⟨ev11, ew11⟩ := ev_of e11
                  clear hK hdP
                  rw [if_pos (by rfl)]
                  refine wp_app _ (.tmp 62) (.tmp 64) 63 rfl elt_str A1 k.q1.length c1 _ ev9 (hg2 d9 nb12 nb16).out.2 [] (some ⟨g2, 0, none⟩) 1 1 [.string (S s)] ev11 (Rd.of_bk (hg3 d11 nb16).out.2 (by simp)) rfl HNW.out (by omega) (fun A2' c2' w2' ho2 hk2 hA2 => ?_)
                  have ho2 := Lib.hid ho2
                  exact HK.out _ _ ⟨g1, A1, c1, A2', c2', g2, Lib.hid ad.out, Lib.hid (gd_size.trans az.out), Lib.hid (fun k hk => (gd_ne (by rintro rfl; exact hk (by decide))).trans (af.out k hk)), gdI h0, gdI h1, gdI h2, gdI h3, gdI h4, gdI h5, gdI h6, gdI h7, gdI h8, gdI h9, gdI h10, gdI h11, fun _ => gd_eq (by rw [az.out, sz00]; decide), gdI h13, gdI h14, gdI h15, giI c5_3, giI c6_5, giI c7_4, giI c7_6, giI c8_7, giI c9_2, giI c9_8, giI c11_10, fun _ => .inr d9, fun _ => .inr d11, giI c13_0, giI c14_13, giI c15_1, giI c15_14, giI c16_12, giI c16_15, fun n16 => Lib.hid ((hK1 nb16).out.thn hk2 (fun s hs => .inr ((hg2 d9 nb12 nb16).out.1 s hs))), fun p2 n9 n16 => Lib.hid (absurd d9 (fun z => n9 (.inr z))), fun p11 n16 => Lib.hid (⟨(hg3 (rlI p11) nb16).out.1, (hg3 (rlI p11) nb16).out.2.kp hk2 (hne2 d9 d11 nb12 nb16).out⟩), fun p2 p11 n9 n16 => Lib.hid (absurd d9 (fun z => n9 (.inr z))), fun _ _ z _ => absurd (.inl rfl) z, fun _ z _ => absurd (.inl rfl) z, fun p12 n16 => Lib.hid (⟨by rcases hA2 with rfl | rfl; exact (hg2 d9 nb12 nb16).out.1; (intro s hs; simp [bks] at hs; have := (hK1 nb16).out.size; omega), ho2.out⟩), fun p16 => absurd (c16_12 (rlI p16)) hn⟩
                | 13, hoP =>
                  injection hoP with hoP; subst hoP
                  have nb16 : ¬ bP 16 := fun h => hn (c14_13 (c15_14 (c16_15 h)))
                  have d0 : bP 0 := hdP ⟨0, .data⟩ (by simp) rfl
                  have HK := Lib.hid hK
                  have e0 := h0 d0
                  obtain ⟨ev0, ew0⟩ := ev_of e0
                  clear hK hdP
                  rw [if_pos (by rfl)]
                  go_simp
                  exact HK.out _ _ ⟨g1, A1, c1, A2, c2, g2, Lib.hid ad.out, Lib.hid (gd_size.trans az.out), Lib.hid (fun k hk => (gd_ne (by rintro rfl; exact hk (by decide))).trans (af.out k hk)), gdI h0, gdI h1, gdI h2, gdI h3, gdI h4, gdI h5, gdI h6, gdI h7, gdI h8, gdI h9, gdI h10, gdI h11, gdI h12, fun _ => gd_eq (by rw [az.out, sz00]; decide), gdI h14, gdI h15, giI c5_3, giI c6_5, giI c7_4, giI c7_6, giI c8_7, giI c9_2, giI c9_8, giI c11_10, giI c12_9, giI c12_11, fun _ => .inr d0, giI c14_13, giI c15_1, giI c15_14, giI c16_12, giI c16_15, fun n16 => (hK1 (fun z => n16 (.inr z))), fun p2 n9 n16 => (hg1 (rlI p2) (fun z => n9 (.inr z)) (fun z => n16 (.inr z))), fun p11 n16 => (hg3 (rlI p11) (fun z => n16 (.inr z))), fun p2 p11 n9 n16 => (hne (rlI p2) (rlI p11) (fun z => n9 (.inr z)) (fun z => n16 (.inr z))), fun p9 p11 n12 n16 => (hne2 (rlI p9) (rlI p11) (fun z => n12 (.inr z)) (fun z => n16 (.inr z))), fun p9 n12 n16 => (hg2 (rlI p9) (fun z => n12 (.inr z)) (fun z => n16 (.inr z))), fun p12 n16 => (hgF (rlI p12) (fun z => n16 (.inr z))), fun p16 => absurd (c14_13 (c15_14 (c16_15 (rlI p16)))) hn⟩
                | 14, hoP =>
                  injection hoP with hoP; subst hoP
                  have nb16 : ¬ bP 16 := fun h => hn (c15_14 (c16_15 h))
                  have d13 : bP 13 := hdP ⟨13, .data⟩ (by simp) rfl
                  have HK := Lib.hid hK
                  have e13 := h13 d13
                  obtain ⟨ev13, ew13⟩ := ev_of e13
                  clear hK hdP
                  rw [if_pos (by rfl)]
                  go_simp
                  exact HK.out _ _ ⟨g1, A1, c1, A2, c2, g2, Lib.hid ad.out, Lib.hid (gd_size.trans az.out), Lib.hid (fun k hk => (gd_ne (by rintro rfl; exact hk (by decide))).trans (af.out k hk)), gdI h0, gdI h1, gdI h2, gdI h3, gdI h4, gdI h5, gdI h6, gdI h7, gdI h8, gdI h9, gdI h10, gdI h11, gdI h12, gdI h13, fun _ => gd_eq (by rw [az.out, sz00]; decide), gdI h15, giI c5_3, giI c6_5, giI c7_4, giI c7_6, giI c8_7, giI c9_2, giI c9_8, giI c11_10, giI c12_9, giI c12_11, giI c13_0, fun _ => .inr d13, giI c15_1, giI c15_14, giI c16_12, giI c16_15, fun n16 => (hK1 (fun z => n16 (.inr z))), fun p2 n9 n16 => (hg1 (rlI p2) (fun z => n9 (.inr z)) (fun z => n16 (.inr z))), fun p11 n16 => (hg3 (rlI p11) (fun z => n16 (.inr z))), fun p2 p11 n9 n16 => (hne (rlI p2) (rlI p11) (fun z => n9 (.inr z)) (fun z => n16 (.inr z))), fun p9 p11 n12 n16 => (hne2 (rlI p9) (rlI p11) (fun z => n12 (.inr z)) (fun z => n16 (.inr z))), fun p9 n12 n16 => (hg2 (rlI p9) (fun z => n12 (.inr z)) (fun z => n16 (.inr z))), fun p12 n16 => (hgF (rlI p12) (fun z => n16 (.inr z))), fun p16 => absurd (c15_14 (c16_15 (rlI p16))) hn⟩
                | 15, hoP =>
                  injection hoP with hoP; subst hoP
                  have nb16 : ¬ bP 16 := fun h => hn (c16_15 h)
                  have d1 : bP 1 := hdP ⟨1, .data⟩ (by simp) rfl
                  have d14 : bP 14 := hdP ⟨14, .data⟩ (by simp) rfl
                  have HK := Lib.hid hK
                  have e1 := h1 d1
                  obtain ⟨ev1, ew1⟩ := ev_of e1
                  have e14 := h14 d14
                  obtain ⟨ev14, ew14⟩ := ev_of e14
                  clear hK hdP
                  rw [if_pos (by rfl)]
                  go_simp
                  exact HK.out _ _ ⟨g1, A1, c1, A2, c2, g2, Lib.hid ad.out, Lib.hid (gd_size.trans az.out), Lib.hid (fun k hk => (gd_ne (by rintro rfl; exact hk (by decide))).trans (af.out k hk)), gdI h0, gdI h1, gdI h2, gdI h3, gdI h4, gdI h5, gdI h6, gdI h7, gdI h8, gdI h9, gdI h10, gdI h11, gdI h12, gdI h13, gdI h14, fun _ => gd_eq (by rw [az.out, sz00]; decide), giI c5_3, giI c6_5, giI c7_4, giI c7_6, giI c8_7, giI c9_2, giI c9_8, giI c11_10, giI c12_9, giI c12_11, giI c13_0, giI c14_13, fun _ => .inr d1, fun _ => .inr d14, giI c16_12, giI c16_15, fun n16 => (hK1 (fun z => n16 (.inr z))), fun p2 n9 n16 => (hg1 (rlI p2) (fun z => n9 (.inr z)) (fun z => n16 (.inr z))), fun p11 n16 => (hg3 (rlI p11) (fun z => n16 (.inr z))), fun p2 p11 n9 n16 => (hne (rlI p2) (rlI p11) (fun z => n9 (.inr z)) (fun z => n16 (.inr z))), fun p9 p11 n12 n16 => (hne2 (rlI p9) (rlI p11) (fun z => n12 (.inr z)) (fun z => n16 (.inr z))), fun p9 n12 n16 => (hg2 (rlI p9) (fun z => n12 (.inr z)) (fun z => n16 (.inr z))), fun p12 n16 => (hgF (rlI p12) (fun z => n16 (.inr z))), fun p16 => absurd (c16_15 (rlI p16)) hn⟩
                | 16, hoP =>
                  injection hoP with hoP; subst hoP
                  have nb16 := hn
                  have d12 : bP 12 := hdP ⟨12, .data⟩ (by simp) rfl
                  have d15 : bP 15 := hdP ⟨15, .data⟩ (by simp) rfl
                  have HK := Lib.hid hK
                  have e12 := h12 d12
                  obtain ⟨ev12, ew12⟩ := ev_of e12
                  have e15 := h15 d15
                  obtain ⟨ev15, ew15⟩ := ev_of e15
                  have zk := (hK1 nb16).out
                  have zb := HW0.out W zk
                  have zl := zb.lt
                  have zf := zb.frozen 5
                  have zc := zb.cell 5
                  simp only [List.getElem?_cons_zero, List.getElem?_cons_succ] at zc
                  clear hK hdP
                  rw [if_pos (by rfl)]
                  go_simp
                  exact HK.out _ _ ⟨g1, A1, c1, A2, c2, g2, ad, az, af, fun h => h0 (rlI h), fun h => h1 (rlI h), fun h => h2 (rlI h), fun h => h3 (rlI h), fun h => h4 (rlI h), fun h => h5 (rlI h), fun h => h6 (rlI h), fun h => h7 (rlI h), fun h => h8 (rlI h), fun h => h9 (rlI h), fun h => h10 (rlI h), fun h => h11 (rlI h), fun h => h12 (rlI h), fun h => h13 (rlI h), fun h => h14 (rlI h), fun h => h15 (rlI h), giI c5_3, giI c6_5, giI c7_4, giI c7_6, giI c8_7, giI c9_2, giI c9_8, giI c11_10, giI c12_9, giI c12_11, giI c13_0, giI c14_13, giI c15_1, giI c15_14, fun _ => .inr d12, fun _ => .inr d15, fun  z => absurd (.inl rfl) z, fun _ _ z => absurd (.inl rfl) z, fun _ z => absurd (.inl rfl) z, fun _ _ _ z => absurd (.inl rfl) z, fun _ _ _ z => absurd (.inl rfl) z, fun _ _ z => absurd (.inl rfl) z, fun _ z => absurd (.inl rfl) z, fun p16 => Lib.hid (⟨W, (hK1 nb16).out, (hgF d12 nb16).out.2, (hgF d12 nb16).out.1, rfl⟩)⟩
                | (nP + 17), hoP => exact absurd hoP (by simp)
              · intro bP a' W hb hI
                obtain ⟨g1, A1, c1, A2, c2, g2, ad, az, af, h0, h1, h2, h3, h4, h5, h6, h7, h8, h9, h10, h11, h12, h13, h14, h15, c5_3, c6_5, c7_4, c7_6, c8_7, c9_2, c9_8, c11_10, c12_9, c12_11, c13_0, c14_13, c15_1, c15_14, c16_12, c16_15, hK1, hg1, hg3, hne, hne2, hg2, hgF, hFin⟩ := hI
                clear hK1
                clear hg1
                clear hg3
                clear hne
                clear hne2
                clear hg2
                clear hgF
                have hFin := hFin (hb 16 (by decide))
                have ha := act_of (L := [(53, .pointer (some ⟨q.g, 0, none⟩)), (54, .int .i64 1), (55, .slice (some ⟨g1, 0, none⟩) 0 0), (56, .pointer (some ⟨q.g, 0, none⟩)), (57, .int .i64 1), (58, .pointer (some ⟨q.g, 0, none⟩)), (59, .pointer (some ⟨q.g, 4, none⟩)), (60, .pointer (some ⟨q.g, 5, none⟩)), (61, .slice q.i1 k.q1.length q.c1), (62, .slice A1 k.q1.length c1), (63, .string (S s)), (64, .slice (some ⟨g2, 0, none⟩) 1 1), (65, .slice A2 (k.q1.length + 1) c2), (66, .pointer (some ⟨q.g, 0, none⟩)), (67, .pointer (some ⟨q.g, 4, none⟩)), (68, .pointer (some ⟨q.g, 5, none⟩))]) (show ([53, 54, 55, 56, 57, 58, 59, 60, 61, 62, 63, 64, 65, 66, 67, 68] : List Nat).Nodup by decide) ad.out az.out af.out (by
                  intro p hp
                  rw [sz00]
                  simp only [List.mem_cons, List.not_mem_nil, or_false] at hp
                  rcases hp with rfl | rfl | rfl | rfl | rfl | rfl | rfl | rfl | rfl | rfl | rfl | rfl | rfl | rfl | rfl | rfl
                  · exact ⟨show 53 < 70 by decide, h0 (hb 0 (by decide))⟩
                  · exact ⟨show 54 < 70 by decide, h1 (hb 1 (by decide))⟩
                  · exact ⟨show 55 < 70 by decide, h2 (hb 2 (by decide))⟩
                  · exact ⟨show 56 < 70 by decide, h3 (hb 3 (by decide))⟩
                  · exact ⟨show 57 < 70 by decide, h4 (hb 4 (by decide))⟩
                  · exact ⟨show 58 < 70 by decide, h5 (hb 5 (by decide))⟩
                  · exact ⟨show 59 < 70 by decide, h6 (hb 6 (by decide))⟩
                  · exact ⟨show 60 < 70 by decide, h7 (hb 7 (by decide))⟩
                  · exact ⟨show 61 < 70 by decide, h8 (hb 8 (by decide))⟩
                  · exact ⟨show 62 < 70 by decide, h9 (hb 9 (by decide))⟩
                  · exact ⟨show 63 < 70 by decide, h10 (hb 10 (by decide))⟩
                  · exact ⟨show 64 < 70 by decide, h11 (hb 11 (by decide))⟩
                  · exact ⟨show 65 < 70 by decide, h12 (hb 12 (by decide))⟩
                  · exact ⟨show 66 < 70 by decide, h13 (hb 13 (by decide))⟩
                  · exact ⟨show 67 < 70 by decide, h14 (hb 14 (by decide))⟩
                  · exact ⟨show 68 < 70 by decide, h15 (hb 15 (by decide))⟩
                  )
                rw [HA00.out] at ha
                simp only [List.foldl_cons, List.foldl_nil, Act.put, List.setIfInBounds_toArray, List.set_cons_zero, List.set_cons_succ] at ha
                clear h0 h1 h2 h3 h4 h5 h6 h7 h8 h9 h10 h11 h12 h13 h14 h15 c5_3 c6_5 c7_4 c7_6 c8_7 c9_2 c9_8 c11_10 c12_9 c12_11 c13_0 c14_13 c15_1 c15_14 c16_12 c16_15 hb ad az af HA00 sz00 sl0 sl1 sl9
                subst ha
                obtain ⟨W9, z1, z2, z3, rfl⟩ := hFin.out
                have Y2 := Lib.hid (Fin.out _ _ _ z1 z2 z3)
                clear hFin z1 z2 z3 Fin HRd HLN HMW HNW HW0
                go_wp2
                exact Y2.out
          · rw [he] at HD
            have HD9 : Hid (∀ W', Kp [] wr W' → W'.cell? ⟨q.g, 6, none⟩ = some (.slice q.i2 k.q2.length q.c2)) := Lib.hid (fun W' k' => (QW.out.g.kp k' (by simp)).cell 6)
            by_cases h16 : k.q2.length = 16
            · have g1 : decide ((16 : Int) ≤ (k.q2.length : Int)) = true := by simp; omega
              have g2 : decide (16 ≤ k.q2.length) = true := by simp; omega
              have HX := Lib.hid (H4.out hl2 y HT.out he h16)
              clear H1 H2 H3 H4 H5 h16
              go_wp2_with (go_at_call 61; ((refine HR.out _ _ (Kp.refl _ _) ?_); intro w3 st3 k3; obtain ⟨x0, x1⟩ := HD.out w3 k3; have x2 := HD9.out w3 k3))
              exact HX.out q _ ((kr.out.trans k3).mono (by simp)) (QW.out.kp k3) rfl ⟨rfl, rfl⟩
            · have h17 : k.q2.length < 16 := by omega
              have g1 : decide ((16 : Int) ≤ (k.q2.length : Int)) = false := by simp; omega
              have g2 : decide (16 ≤ k.q2.length) = false := by simp; omega
              have HX := Lib.hid (H5.out hl2 y HT.out he h17 ⟨none, 0, 0, s⟩ rfl)
              clear H1 H2 H3 H4 H5 h16
              go_upto_region 11 with (go_at_call 61; ((refine HR.out _ _ (Kp.refl _ _) ?_); intro W0 st3 k3; obtain ⟨x0, x1⟩ := HD.out W0 k3; have x2 := HD9.out W0 k3))
              have QZ := Lib.hid (QW.out.kp k3)
              have KZ : Hid (Kp [] w W0) := Lib.hid (kr.out.trans k3)
              have hin := QZ.out.in2
              have HRd : Hid (∀ W, Kp [] W0 W → Rd W [] q.i2 (k.q2.map slV)) := Lib.hid (fun W k' => (hin.kp k' (by simp)).rd.sub (by simp))
              have HLN : Hid ((k.q2.map slV).length = k.q2.length * 1) := Lib.hid (by simp)
              have HMW : Hid (∀ u ∈ k.q2.map slV, u.oneCell' = true) := Lib.hid (by intro u hu; obtain ⟨x, _, rfl⟩ := List.mem_map.1 hu; rfl)
              have HNW : Hid (∀ u ∈ [Value.string (S s)], u.oneCell' = true) := Lib.hid (by intro u hu; simp at hu; subst hu; rfl)
              have HW0 : Hid (∀ W, Kp [] W0 W → Bk W q.g 67 [.pointer (some ⟨q.bM, 0, none⟩), .pointer (some ⟨q.bD, 0, none⟩), .slice q.fA k.fl.length q.fc, .int .i64 k.nx, .slice none 0 0, .slice q.i1 k.q1.length q.c1, .slice q.i2 k.q2.length q.c2, .slice q.oA k.qo.length q.oc, .int .i64 (k.fo + k.qo.length : Nat), .int .i64 k.dn]) := Lib.hid (fun W k' => QZ.out.g.kp k' (by simp))
              have Fin : Hid (∀ (A' : Option Addr) (c' : Nat) (W9 : World), Kp [] W0 W9 → Ow W9 9 1 A' (k.q2.length + 1) c' (k.q2.map slV ++ [.string (S s)]) → Fresh W0.heap.size A' →
                  R (.returned (.tuple #[.int .i64 2, .int .i64 0])) (W9.setCell ⟨q.g, 6, none⟩ (.slice A' (k.q2.length + 1) c'))) := Lib.hid (fun A' c' W9 k9 ho hfr => by
                have Q9 := QZ.out.kp k9
                have kg : Kp [q.g] W9 (W9.setCell ⟨q.g, 6, none⟩ (.slice A' (k.q2.length + 1) c')) := (Kp.refl [q.g] W9).setCell (p := ⟨q.g, 6, none⟩) (.inl (by simp)) _
                have hs : ∀ s ∈ [q.g], s ∈ q.own ∨ W9.heap.size ≤ s := fun s hm => .inl (Qn.own3 q s hm)
                obtain ⟨xs, hxs⟩ := Q9.f
                obtain ⟨zs, hzs⟩ := Q9.o
                have hfn : ∀ b ∈ bks A', b ∉ q.own := fun b hb hm => by
                  have h1 := hfr b hb
                  have h2 := QZ.out.lt _ hm
                  omega
                have hnb := (ho.nb (N := q.own) hfn).kp kg hs
                obtain ⟨r1, r2⟩ := Q9.setG (k' := { k with q2 := k.q2 ++ [⟨none, 0, 0, s⟩] }) (fA' := q.fA) (fc' := q.fc) (i1' := q.i1) (c1' := q.c1) (i2' := A') (c2' := c') (oA' := q.oA) (oc' := q.oc) kg rfl rfl ((Q9.g.set_ 6 _).cast (by simp [QA.cells]))
                  ⟨xs, hxs.kp kg hs⟩ (Q9.in1.kp kg hs) (by simpa [slV] using hnb) ⟨zs, hzs.kp kg hs⟩ ⟨Q9.cp.1, Q9.cp.2.1, by have := Ow.capn ho; simpa using this, Q9.cp.2.2.2⟩
                exact HX.out _ _ (((KZ.out.mono (by simp)).thn (k9.mono (S' := q.own) (by simp)) (fun s hs => .inl hs)).thn r2 (fun s hs => .inl hs)) r1 rfl ⟨rfl, rfl⟩)
              have hnn : k.q2.length ≤ 1000000 := by omega
              clear d2 c2 x0 x1 x2 HD HD9 HR HX HQ QW QZ KZ hin HT kr k3 HYS HY HF hno hzm hym g1 g2
              refine nameA (fun A00 hA00 => ?_)
              have sl0 : A00.tmps.getD 0 undef = .pointer (some ⟨q.g, 0, none⟩) := by rw [hA00]; rfl
              have sl1 : A00.tmps.getD 1 undef = .string (S s) := by rw [hA00]; rfl
              have sl9 : A00.tmps.getD 9 undef = .int .i64 2 := by rw [hA00]; rfl
              have sz00 : A00.tmps.size = 70 := by rw [hA00]; rfl
              have HA00 := Lib.hid hA00
              clear hA00
              refine wp_region_inv (fun bP a' W => ∃ (g1 : Nat) (A1 : Option Addr) (c1 : Nat) (A2 : Option Addr) (c2 : Nat) (g2 : Nat), Hid (a'.defers = A00.defers) ∧ Hid (a'.tmps.size = A00.tmps.size) ∧ Hid (∀ k, k ∉ [53, 54, 55, 56, 57, 58, 59, 60, 61, 62, 63, 64, 65, 66, 67, 68] → a'.tmps.getD k undef = A00.tmps.getD k undef) ∧ (bP 0 → a'.tmps.getD 53 undef = .pointer (some ⟨q.g, 0, none⟩)) ∧ (bP 1 → a'.tmps.getD 54 undef = .int .i64 2) ∧ (bP 2 → a'.tmps.getD 55 undef = .slice (some ⟨g1, 0, none⟩) 0 0) ∧ (bP 3 → a'.tmps.getD 56 undef = .pointer (some ⟨q.g, 0, none⟩)) ∧ (bP 4 → a'.tmps.getD 57 undef = .int .i64 2) ∧ (bP 5 → a'.tmps.getD 58 undef = .pointer (some ⟨q.g, 0, none⟩)) ∧ (bP 6 → a'.tmps.getD 59 undef = .pointer (some ⟨q.g, 4, none⟩)) ∧ (bP 7 → a'.tmps.getD 60 undef = .pointer (some ⟨q.g, 6, none⟩)) ∧ (bP 8 → a'.tmps.getD 61 undef = .slice q.i2 k.q2.length q.c2) ∧ (bP 9 → a'.tmps.getD 62 undef = .slice A1 k.q2.length c1) ∧ (bP 10 → a'.tmps.getD 63 undef = .string (S s)) ∧ (bP 11 → a'.tmps.getD 64 undef = .slice (some ⟨g2, 0, none⟩) 1 1) ∧ (bP 12 → a'.tmps.getD 65 undef = .slice A2 (k.q2.length + 1) c2) ∧ (bP 13 → a'.tmps.getD 66 undef = .pointer (some ⟨q.g, 0, none⟩)) ∧ (bP 14 → a'.tmps.getD 67 undef = .pointer (some ⟨q.g, 4, none⟩)) ∧ (bP 15 → a'.tmps.getD 68 undef = .pointer (some ⟨q.g, 6, none⟩)) ∧ (bP 5 → bP 3) ∧ (bP 6 → bP 5) ∧ (bP 7 → bP 4) ∧ (bP 7 → bP 6) ∧ (bP 8 → bP 7) ∧ (bP 9 → bP 2) ∧ (bP 9 → bP 8) ∧ (bP 11 → bP 10) ∧ (bP 12 → bP 9) ∧ (bP 12 → bP 11) ∧ (bP 13 → bP 0) ∧ (bP 14 → bP 13) ∧ (bP 15 → bP 1) ∧ (bP 15 → bP 14) ∧ (bP 16 → bP 12) ∧ (bP 16 → bP 15) ∧ (¬ bP 16 → Hid (Kp [] W0 W)) ∧ (bP 2 → ¬ bP 9 → ¬ bP 16 → Hid (W0.heap.size ≤ g1 ∧ Ow W 9 1 (some ⟨g1, 0, none⟩) 0 0 [])) ∧ (bP 11 → ¬ bP 16 → Hid (W0.heap.size ≤ g2 ∧ Bk W g2 9 [.string (S s)])) ∧ (bP 2 → bP 11 → ¬ bP 9 → ¬ bP 16 → Hid (g1 ≠ g2)) ∧ (bP 9 → bP 11 → ¬ bP 12 → ¬ bP 16 → Hid (g2 ∉ bks A1)) ∧ (bP 9 → ¬ bP 12 → ¬ bP 16 → Hid (Fresh W0.heap.size A1 ∧ Ow W 9 1 A1 k.q2.length c1 (k.q2.map slV))) ∧ (bP 12 → ¬ bP 16 → Hid (Fresh W0.heap.size A2 ∧ Ow W 9 1 A2 (k.q2.length + 1) c2 ((k.q2.map slV) ++ [.string (S s)]))) ∧ (bP 16 → Hid (∃ W9, Kp [] W0 W9 ∧ Ow W9 9 1 A2 (k.q2.length + 1) c2 ((k.q2.map slV) ++ [.string (S s)]) ∧ Fresh W0.heap.size A2 ∧ W = W9.setCell ⟨q.g, 6, none⟩ (.slice A2 (k.q2.length + 1) c2)))) (by kernel_rfl) (by kernel_rfl) 17 rfl ?_ ?_ ?_
              · exact ⟨0, none, 0, none, 0, 0, Lib.hid rfl, Lib.hid rfl, Lib.hid (fun _ _ => rfl), fun h => absurd h id, fun h => absurd h id, fun h => absurd h id, fun h => absurd h id, fun h => absurd h id, fun h => absurd h id, fun h => absurd h id, fun h => absurd h id, fun h => absurd h id, fun h => absurd h id, fun h => absurd h id, fun h => absurd h id, fun h => absurd h id, fun h => absurd h id, fun h => absurd h id, fun h => absurd h id, fun h => absurd h id, fun h => absurd h id, fun h => absurd h id, fun h => absurd h id, fun h => absurd h id, fun h => absurd h id, fun h => absurd h id, fun h => absurd h id, fun h => absurd h id, fun h => absurd h id, fun h => absurd h id, fun h => absurd h id, fun h => absurd h id, fun h => absurd h id, fun h => absurd h id, fun h => absurd h id, fun _ => Lib.hid ((Kp.refl _ _).drew), fun h => absurd h id, fun h => absurd h id, fun h => absurd h id, fun h => absurd h id, fun h => absurd h id, fun h => absurd h id, fun h => absurd h id⟩
              · intro bP a' W iP oP hoP hn hdP hI KP hK
                obtain ⟨g1, A1, c1, A2, c2, g2, ad, az, af, h0, h1, h2, h3, h4, h5, h6, h7, h8, h9, h10, h11, h12, h13, h14, h15, c5_3, c6_5, c7_4, c7_6, c8_7, c9_2, c9_8, c11_10, c12_9, c12_11, c13_0, c14_13, c15_1, c15_14, c16_12, c16_15, hK1, hg1, hg3, hne, hne2, hg2, hgF, hFin⟩ := hI
                have s0 := (af.out 0 (by decide)).trans sl0
                have s1 := (af.out 1 (by decide)).trans sl1
                have s9 := (af.out 9 (by decide)).trans sl9
                match iP, hoP with
                | 0, hoP =>
                  injection hoP with hoP; subst hoP
                  have nb16 : ¬ bP 16 := fun h => hn (c13_0 (c14_13 (c15_14 (c16_15 h))))
                  have HK := Lib.hid hK
                  obtain ⟨sv0, sw0⟩ := ev_of s0
                  clear hK hdP
                  rw [if_pos (by rfl)]
                  go_simp
                  exact HK.out _ _ ⟨g1, A1, c1, A2, c2, g2, Lib.hid ad.out, Lib.hid (gd_size.trans az.out), Lib.hid (fun k hk => (gd_ne (by rintro rfl; exact hk (by decide))).trans (af.out k hk)), fun _ => gd_eq (by rw [az.out, sz00]; decide), gdI h1, gdI h2, gdI h3, gdI h4, gdI h5, gdI h6, gdI h7, gdI h8, gdI h9, gdI h10, gdI h11, gdI h12, gdI h13, gdI h14, gdI h15, giI c5_3, giI c6_5, giI c7_4, giI c7_6, giI c8_7, giI c9_2, giI c9_8, giI c11_10, giI c12_9, giI c12_11, giI c13_0, giI c14_13, giI c15_1, giI c15_14, giI c16_12, giI c16_15, fun n16 => (hK1 (fun z => n16 (.inr z))), fun p2 n9 n16 => (hg1 (rlI p2) (fun z => n9 (.inr z)) (fun z => n16 (.inr z))), fun p11 n16 => (hg3 (rlI p11) (fun z => n16 (.inr z))), fun p2 p11 n9 n16 => (hne (rlI p2) (rlI p11) (fun z => n9 (.inr z)) (fun z => n16 (.inr z))), fun p9 p11 n12 n16 => (hne2 (rlI p9) (rlI p11) (fun z => n12 (.inr z)) (fun z => n16 (.inr z))), fun p9 n12 n16 => (hg2 (rlI p9) (fun z => n12 (.inr z)) (fun z => n16 (.inr z))), fun p12 n16 => (hgF (rlI p12) (fun z => n16 (.inr z))), fun p16 => absurd (c13_0 (c14_13 (c15_14 (c16_15 (rlI p16))))) hn⟩
                | 1, hoP =>
                  injection hoP with hoP; subst hoP
                  have nb16 : ¬ bP 16 := fun h => hn (c15_1 (c16_15 h))
                  have HK := Lib.hid hK
                  obtain ⟨sv9, sw9⟩ := ev_of s9
                  clear hK hdP
                  rw [if_pos (by rfl)]
                  go_simp
                  exact HK.out _ _ ⟨g1, A1, c1, A2, c2, g2, Lib.hid ad.out, Lib.hid (gd_size.trans az.out), Lib.hid (fun k hk => (gd_ne (by rintro rfl; exact hk (by decide))).trans (af.out k hk)), gdI h0, fun _ => gd_eq (by rw [az.out, sz00]; decide), gdI h2, gdI h3, gdI h4, gdI h5, gdI h6, gdI h7, gdI h8, gdI h9, gdI h10, gdI h11, gdI h12, gdI h13, gdI h14, gdI h15, giI c5_3, giI c6_5, giI c7_4, giI c7_6, giI c8_7, giI c9_2, giI c9_8, giI c11_10, giI c12_9, giI c12_11, giI c13_0, giI c14_13, giI c15_1, giI c15_14, giI c16_12, giI c16_15, fun n16 => (hK1 (fun z => n16 (.inr z))), fun p2 n9 n16 => (hg1 (rlI p2) (fun z => n9 (.inr z)) (fun z => n16 (.inr z))), fun p11 n16 => (hg3 (rlI p11) (fun z => n16 (.inr z))), fun p2 p11 n9 n16 => (hne (rlI p2) (rlI p11) (fun z => n9 (.inr z)) (fun z => n16 (.inr z))), fun p9 p11 n12 n16 => (hne2 (rlI p9) (rlI p11) (fun z => n12 (.inr z)) (fun z => n16 (.inr z))), fun p9 n12 n16 => (hg2 (rlI p9) (fun z => n12 (.inr z)) (fun z => n16 (.inr z))), fun p12 n16 => (hgF (rlI p12) (fun z => n16 (.inr z))), fun p16 => absurd (c15_1 (c16_15 (rlI p16))) hn⟩
                | 2, hoP =>
                  injection hoP with hoP; subst hoP
                  have nb9 : ¬ bP 9 := fun h => hn (c9_2 h)
                  have nb12 : ¬ bP 12 := fun h => hn (c9_2 (c12_9 h))
                  have nb16 : ¬ bP 16 := fun h => hn (c9_2 (c12_9 (c16_12 h)))
                  have HK := Lib.hid hK
                  clear hK hdP
                  rw [if_pos (by rfl)]
                  go_simp
                  exact HK.out _ _ ⟨W.heap.size, A1, c1, A2, c2, g2, Lib.hid ad.out, Lib.hid (gd_size.trans az.out), Lib.hid (fun k hk => (gd_ne (by rintro rfl; exact hk (by decide))).trans (af.out k hk)), gdI h0, gdI h1, fun _ => gd_eq (by rw [az.out, sz00]; decide), gdI h3, gdI h4, gdI h5, gdI h6, gdI h7, gdI h8, gdI h9, gdI h10, gdI h11, gdI h12, gdI h13, gdI h14, gdI h15, giI c5_3, giI c6_5, giI c7_4, giI c7_6, giI c8_7, giI c9_2, giI c9_8, giI c11_10, giI c12_9, giI c12_11, giI c13_0, giI c14_13, giI c15_1, giI c15_14, giI c16_12, giI c16_15, fun n16 => Lib.hid (((hK1 (fun z => n16 (.inr z))).out).trans ((Kp.refl [] W).alloc _)), fun p2 n9 n16 => Lib.hid (⟨(hK1 nb16).out.size, Ow.lit W _ 1 #[] 0 (by decide) rfl⟩), fun p11 n16 => Lib.hid (⟨((hg3 (rlI p11) (fun z => n16 (.inr z))).out).1, ((hg3 (rlI p11) (fun z => n16 (.inr z))).out).2.kp ((Kp.refl [] W).alloc _) (by simp)⟩), fun p2 p11 n9 n16 => Lib.hid (fun e => by have := (hg3 (rlI p11) nb16).out.2.lt; omega), fun p9 p11 n12 n16 => absurd (c9_2 (rlI p9)) hn, fun p9 n12 n16 => absurd (c9_2 (rlI p9)) hn, fun p12 n16 => absurd (c9_2 (c12_9 (rlI p12))) hn, fun p16 => absurd (c9_2 (c12_9 (c16_12 (rlI p16)))) hn⟩
                | 3, hoP =>
                  injection hoP with hoP; subst hoP
                  have nb9 : ¬ bP 9 := fun h => hn (c5_3 (c6_5 (c7_6 (c8_7 (c9_8 h)))))
                  have nb12 : ¬ bP 12 := fun h => hn (c5_3 (c6_5 (c7_6 (c8_7 (c9_8 (c12_9 h))))))
                  have nb16 : ¬ bP 16 := fun h => hn (c5_3 (c6_5 (c7_6 (c8_7 (c9_8 (c12_9 (c16_12 h)))))))
                  have HK := Lib.hid hK
                  obtain ⟨sv0, sw0⟩ := ev_of s0
                  clear hK hdP
                  rw [if_pos (by rfl)]
                  go_simp
                  exact HK.out _ _ ⟨g1, A1, c1, A2, c2, g2, Lib.hid ad.out, Lib.hid (gd_size.trans az.out), Lib.hid (fun k hk => (gd_ne (by rintro rfl; exact hk (by decide))).trans (af.out k hk)), gdI h0, gdI h1, gdI h2, fun _ => gd_eq (by rw [az.out, sz00]; decide), gdI h4, gdI h5, gdI h6, gdI h7, gdI h8, gdI h9, gdI h10, gdI h11, gdI h12, gdI h13, gdI h14, gdI h15, giI c5_3, giI c6_5, giI c7_4, giI c7_6, giI c8_7, giI c9_2, giI c9_8, giI c11_10, giI c12_9, giI c12_11, giI c13_0, giI c14_13, giI c15_1, giI c15_14, giI c16_12, giI c16_15, fun n16 => (hK1 (fun z => n16 (.inr z))), fun p2 n9 n16 => (hg1 (rlI p2) (fun z => n9 (.inr z)) (fun z => n16 (.inr z))), fun p11 n16 => (hg3 (rlI p11) (fun z => n16 (.inr z))), fun p2 p11 n9 n16 => (hne (rlI p2) (rlI p11) (fun z => n9 (.inr z)) (fun z => n16 (.inr z))), fun p9 p11 n12 n16 => absurd (c5_3 (c6_5 (c7_6 (c8_7 (c9_8 (rlI p9)))))) hn, fun p9 n12 n16 => absurd (c5_3 (c6_5 (c7_6 (c8_7 (c9_8 (rlI p9)))))) hn, fun p12 n16 => absurd (c5_3 (c6_5 (c7_6 (c8_7 (c9_8 (c12_9 (rlI p12))))))) hn, fun p16 => absurd (c5_3 (c6_5 (c7_6 (c8_7 (c9_8 (c12_9 (c16_12 (rlI p16)))))))) hn⟩
                | 4, hoP =>
                  injection hoP with hoP; subst hoP
                  have nb9 : ¬ bP 9 := fun h => hn (c7_4 (c8_7 (c9_8 h)))
                  have nb12 : ¬ bP 12 := fun h => hn (c7_4 (c8_7 (c9_8 (c12_9 h))))
                  have nb16 : ¬ bP 16 := fun h => hn (c7_4 (c8_7 (c9_8 (c12_9 (c16_12 h)))))
                  have HK := Lib.hid hK
                  obtain ⟨sv9, sw9⟩ := ev_of s9
                  clear hK hdP
                  rw [if_pos (by rfl)]
                  go_simp
                  exact HK.out _ _ ⟨g1, A1, c1, A2, c2, g2, Lib.hid ad.out, Lib.hid (gd_size.trans az.out), Lib.hid (fun k hk => (gd_ne (by rintro rfl; exact hk (by decide))).trans (af.out k hk)), gdI h0, gdI h1, gdI h2, gdI h3, fun _ => gd_eq (by rw [az.out, sz00]; decide), gdI h5, gdI h6, gdI h7, gdI h8, gdI h9, gdI h10, gdI h11, gdI h12, gdI h13, gdI h14, gdI h15, giI c5_3, giI c6_5, giI c7_4, giI c7_6, giI c8_7, giI c9_2, giI c9_8, giI c11_10, giI c12_9, giI c12_11, giI c13_0, giI c14_13, giI c15_1, giI c15_14, giI c16_12, giI c16_15, fun n16 => (hK1 (fun z => n16 (.inr z))), fun p2 n9 n16 => (hg1 (rlI p2) (fun z => n9 (.inr z)) (fun z => n16 (.inr z))), fun p11 n16 => (hg3 (rlI p11) (fun z => n16 (.inr z))), fun p2 p11 n9 n16 => (hne (rlI p2) (rlI p11) (fun z => n9 (.inr z)) (fun z => n16 (.inr z))), fun p9 p11 n12 n16 => absurd (c7_4 (c8_7 (c9_8 (rlI p9)))) hn, fun p9 n12 n16 => absurd (c7_4 (c8_7 (c9_8 (rlI p9)))) hn, fun p12 n16 => absurd (c7_4 (c8_7 (c9_8 (c12_9 (rlI p12))))) hn, fun p16 => absurd (c7_4 (c8_7 (c9_8 (c12_9 (c16_12 (rlI p16)))))) hn⟩
                | 5, hoP =>
                  injection hoP with hoP; subst hoP
                  have nb9 : ¬ bP 9 := fun h => hn (c6_5 (c7_6 (c8_7 (c9_8 h))))
                  have nb12 : ¬ bP 12 := fun h => hn (c6_5 (c7_6 (c8_7 (c9_8 (c12_9 h)))))
                  have nb16 : ¬ bP 16 := fun h => hn (c6_5 (c7_6 (c8_7 (c9_8 (c12_9 (c16_12 h))))))
                  have d3 : bP 3 := hdP ⟨3, .data⟩ (by simp) rfl
                  have HK := Lib.hid hK
                  have e3 := h3 d3
                  obtain ⟨ev3, ew3⟩ := ev_of e3
                  clear hK hdP
                  rw [if_pos (by rfl)]
                  go_simp
                  exact HK.out _ _ ⟨g1, A1, c1, A2, c2, g2, Lib.hid ad.out, Lib.hid (gd_size.trans az.out), Lib.hid (fun k hk => (gd_ne (by rintro rfl; exact hk (by decide))).trans (af.out k hk)), gdI h0, gdI h1, gdI h2, gdI h3, gdI h4, fun _ => gd_eq (by rw [az.out, sz00]; decide), gdI h6, gdI h7, gdI h8, gdI h9, gdI h10, gdI h11, gdI h12, gdI h13, gdI h14, gdI h15, fun _ => .inr d3, giI c6_5, giI c7_4, giI c7_6, giI c8_7, giI c9_2, giI c9_8, giI c11_10, giI c12_9, giI c12_11, giI c13_0, giI c14_13, giI c15_1, giI c15_14, giI c16_12, giI c16_15, fun n16 => (hK1 (fun z => n16 (.inr z))), fun p2 n9 n16 => (hg1 (rlI p2) (fun z => n9 (.inr z)) (fun z => n16 (.inr z))), fun p11 n16 => (hg3 (rlI p11) (fun z => n16 (.inr z))), fun p2 p11 n9 n16 => (hne (rlI p2) (rlI p11) (fun z => n9 (.inr z)) (fun z => n16 (.inr z))), fun p9 p11 n12 n16 => absurd (c6_5 (c7_6 (c8_7 (c9_8 (rlI p9))))) hn, fun p9 n12 n16 => absurd (c6_5 (c7_6 (c8_7 (c9_8 (rlI p9))))) hn, fun p12 n16 => absurd (c6_5 (c7_6 (c8_7 (c9_8 (c12_9 (rlI p12)))))) hn, fun p16 => absurd (c6_5 (c7_6 (c8_7 (c9_8 (c12_9 (c16_12 (rlI p16))))))) hn⟩
                | 6, hoP =>
                  injection hoP with hoP; subst hoP
                  have nb9 : ¬ bP 9 := fun h => hn (c7_6 (c8_7 (c9_8 h)))
                  have nb12 : ¬ bP 12 := fun h => hn (c7_6 (c8_7 (c9_8 (c12_9 h))))
                  have nb16 : ¬ bP 16 := fun h => hn (c7_6 (c8_7 (c9_8 (c12_9 (c16_12 h)))))
                  have d5 : bP 5 := hdP ⟨5, .data⟩ (by simp) rfl
                  have HK := Lib.hid hK
                  have e5 := h5 d5
                  obtain ⟨ev5, ew5⟩ := ev_of e5
                  clear hK hdP
                  rw [if_pos (by rfl)]
                  go_simp
                  exact HK.out _ _ ⟨g1, A1, c1, A2, c2, g2, Lib.hid ad.out, Lib.hid (gd_size.trans az.out), Lib.hid (fun k hk => (gd_ne (by rintro rfl; exact hk (by decide))).trans (af.out k hk)), gdI h0, gdI h1, gdI h2, gdI h3, gdI h4, gdI h5, fun _ => gd_eq (by rw [az.out, sz00]; decide), gdI h7, gdI h8, gdI h9, gdI h10, gdI h11, gdI h12, gdI h13, gdI h14, gdI h15, giI c5_3, fun _ => .inr d5, giI c7_4, giI c7_6, giI c8_7, giI c9_2, giI c9_8, giI c11_10, giI c12_9, giI c12_11, giI c13_0, giI c14_13, giI c15_1, giI c15_14, giI c16_12, giI c16_15, fun n16 => (hK1 (fun z => n16 (.inr z))), fun p2 n9 n16 => (hg1 (rlI p2) (fun z => n9 (.inr z)) (fun z => n16 (.inr z))), fun p11 n16 => (hg3 (rlI p11) (fun z => n16 (.inr z))), fun p2 p11 n9 n16 => (hne (rlI p2) (rlI p11) (fun z => n9 (.inr z)) (fun z => n16 (.inr z))), fun p9 p11 n12 n16 => absurd (c7_6 (c8_7 (c9_8 (rlI p9)))) hn, fun p9 n12 n16 => absurd (c7_6 (c8_7 (c9_8 (rlI p9)))) hn, fun p12 n16 => absurd (c7_6 (c8_7 (c9_8 (c12_9 (rlI p12))))) hn, fun p16 => absurd (c7_6 (c8_7 (c9_8 (c12_9 (c16_12 (rlI p16)))))) hn⟩
                | 7, hoP =>
                  injection hoP with hoP; subst hoP
                  have nb9 : ¬ bP 9 := fun h => hn (c8_7 (c9_8 h))
                  have nb12 : ¬ bP 12 := fun h => hn (c8_7 (c9_8 (c12_9 h)))
                  have nb16 : ¬ bP 16 := fun h => hn (c8_7 (c9_8 (c12_9 (c16_12 h))))
                  have d4 : bP 4 := hdP ⟨4, .data⟩ (by simp) rfl
                  have d6 : bP 6 := hdP ⟨6, .data⟩ (by simp) rfl
                  have HK := Lib.hid hK
                  have e4 := h4 d4
                  obtain ⟨ev4, ew4⟩ := ev_of e4
                  have e6 := h6 d6
                  obtain ⟨ev6, ew6⟩ := ev_of e6
                  clear hK hdP
                  rw [if_pos (by rfl)]
                  go_simp
                  exact HK.out _ _ ⟨g1, A1, c1, A2, c2, g2, Lib.hid ad.out, Lib.hid (gd_size.trans az.out), Lib.hid (fun k hk => (gd_ne (by rintro rfl; exact hk (by decide))).trans (af.out k hk)), gdI h0, gdI h1, gdI h2, gdI h3, gdI h4, gdI h5, gdI h6, fun _ => gd_eq (by rw [az.out, sz00]; decide), gdI h8, gdI h9, gdI h10, gdI h11, gdI h12, gdI h13, gdI h14, gdI h15, giI c5_3, giI c6_5, fun _ => .inr d4, fun _ => .inr d6, giI c8_7, giI c9_2, giI c9_8, giI c11_10, giI c12_9, giI c12_11, giI c13_0, giI c14_13, giI c15_1, giI c15_14, giI c16_12, giI c16_15, fun n16 => (hK1 (fun z => n16 (.inr z))), fun p2 n9 n16 => (hg1 (rlI p2) (fun z => n9 (.inr z)) (fun z => n16 (.inr z))), fun p11 n16 => (hg3 (rlI p11) (fun z => n16 (.inr z))), fun p2 p11 n9 n16 => (hne (rlI p2) (rlI p11) (fun z => n9 (.inr z)) (fun z => n16 (.inr z))), fun p9 p11 n12 n16 => absurd (c8_7 (c9_8 (rlI p9))) hn, fun p9 n12 n16 => absurd (c8_7 (c9_8 (rlI p9))) hn, fun p12 n16 => absurd (c8_7 (c9_8 (c12_9 (rlI p12)))) hn, fun p16 => absurd (c8_7 (c9_8 (c12_9 (c16_12 (rlI p16))))) hn⟩
                | 8, hoP =>
                  injection hoP with hoP; subst hoP
                  have nb9 : ¬ bP 9 := fun h => hn (c9_8 h)
                  have nb12 : ¬ bP 12 := fun h => hn (c9_8 (c12_9 h))
                  have nb16 : ¬ bP 16 := fun h => hn (c9_8 (c12_9 (c16_12 h)))
                  have d7 : bP 7 := hdP ⟨7, .data⟩ (by simp) rfl
                  have HK := Lib.hid hK
                  have e7 := h7 d7
                  obtain ⟨ev7, ew7⟩ := ev_of e7
                  have q := (HW0.out W (hK1 nb16).out).cell 6
                  simp only [List.getElem?_cons_zero, List.getElem?_cons_succ] at q
                  clear hK hdP
                  rw [if_pos (by rfl)]
                  go_simp
                  exact HK.out _ _ ⟨g1, A1, c1, A2, c2, g2, Lib.hid ad.out, Lib.hid (gd_size.trans az.out), Lib.hid (fun k hk => (gd_ne (by rintro rfl; exact hk (by decide))).trans (af.out k hk)), gdI h0, gdI h1, gdI h2, gdI h3, gdI h4, gdI h5, gdI h6, gdI h7, fun _ => gd_eq (by rw [az.out, sz00]; decide), gdI h9, gdI h10, gdI h11, gdI h12, gdI h13, gdI h14, gdI h15, giI c5_3, giI c6_5, giI c7_4, giI c7_6, fun _ => .inr d7, giI c9_2, giI c9_8, giI c11_10, giI c12_9, giI c12_11, giI c13_0, giI c14_13, giI c15_1, giI c15_14, giI c16_12, giI c16_15, fun n16 => (hK1 (fun z => n16 (.inr z))), fun p2 n9 n16 => (hg1 (rlI p2) (fun z => n9 (.inr z)) (fun z => n16 (.inr z))), fun p11 n16 => (hg3 (rlI p11) (fun z => n16 (.inr z))), fun p2 p11 n9 n16 => (hne (rlI p2) (rlI p11) (fun z => n9 (.inr z)) (fun z => n16 (.inr z))), fun p9 p11 n12 n16 => absurd (c9_8 (rlI p9)) hn, fun p9 n12 n16 => absurd (c9_8 (rlI p9)) hn, fun p12 n16 => absurd (c9_8 (c12_9 (rlI p12))) hn, fun p16 => absurd (c9_8 (c12_9 (c16_12 (rlI p16)))) hn⟩
                | 9, hoP =>
                  injection hoP with hoP; subst hoP
                  have nb9 := hn
                  have nb12 : ¬ bP 12 := fun h => hn (c12_9 h)
                  have nb16 : ¬ bP 16 := fun h => hn (c12_9 (c16_12 h))
                  have d2 : bP 2 := hdP ⟨2, .data⟩ (by simp) rfl
                  have d8 : bP 8 := hdP ⟨8, .data⟩ (by simp) rfl
                  have HK := Lib.hid hK
                  have e2 := h2 d2
                  obtain ⟨ev2, ew2⟩ := ev_of e2
                  have e8 := h8 d8
                  obtain ⟨ev8, ew8⟩ := ev_of e8
                  clear hK hdP
                  rw [if_pos (by rfl)]
                  refine wp_app _ (.tmp 55) (.tmp 61) 63 rfl elt_str (some ⟨g1, 0, none⟩) 0 0 [] ev2 (hg1 d2 nb9 nb16).out.2 [] q.i2 k.q2.length q.c2 (k.q2.map slV) ev8 (HRd.out W (hK1 nb16).out) HLN.out HMW.out (by omega) (fun A1' c1' w1' ho1 hk1 hA1 => ?_)
                  rw [Nat.zero_add] at ho1 ⊢
                  simp only [List.nil_append] at ho1
                  have ho1 := Lib.hid ho1
                  exact HK.out _ _ ⟨g1, A1', c1', A2, c2, g2, Lib.hid ad.out, Lib.hid (gd_size.trans az.out), Lib.hid (fun k hk => (gd_ne (by rintro rfl; exact hk (by decide))).trans (af.out k hk)), gdI h0, gdI h1, gdI h2, gdI h3, gdI h4, gdI h5, gdI h6, gdI h7, gdI h8, fun _ => gd_eq (by rw [az.out, sz00]; decide), gdI h10, gdI h11, gdI h12, gdI h13, gdI h14, gdI h15, giI c5_3, giI c6_5, giI c7_4, giI c7_6, giI c8_7, fun _ => .inr d2, fun _ => .inr d8, giI c11_10, giI c12_9, giI c12_11, giI c13_0, giI c14_13, giI c15_1, giI c15_14, giI c16_12, giI c16_15, fun n16 => Lib.hid ((hK1 nb16).out.thn hk1 (fun s hs => .inr (by simp [bks] at hs; have := (hg1 d2 nb9 nb16).out.1; omega))), fun _ z _ => absurd (.inl rfl) z, fun p11 n16 => Lib.hid (⟨(hg3 (rlI p11) nb16).out.1, (hg3 (rlI p11) nb16).out.2.kp hk1 (by have := (hne d2 (rlI p11) nb9 nb16).out; simp [bks]; omega)⟩), fun _ _ z _ => absurd (.inl rfl) z, fun p9 p11 n12 n16 => Lib.hid (by have h9 := (hne d2 (rlI p11) nb9 nb16).out; have h8 := (hg3 (rlI p11) nb16).out.2.lt; rcases hA1 with rfl | rfl <;> simp [bks] <;> omega), fun p9 n12 n16 => Lib.hid (⟨by rcases hA1 with rfl | rfl <;> intro s hs <;> simp [bks] at hs <;> (have := (hg1 d2 nb9 nb16).out.1; have := (hK1 nb16).out.size; omega), ho1.out⟩), fun p12 n16 => absurd (c12_9 (rlI p12)) hn, fun p16 => absurd (c12_9 (c16_12 (rlI p16))) hn⟩
                | 10, hoP =>
                  injection hoP with hoP; subst hoP
                  have nb12 : ¬ bP 12 := fun h => hn (c11_10 (c12_11 h))
                  have nb16 : ¬ bP 16 := fun h => hn (c11_10 (c12_11 (c16_12 h)))
                  have HK := Lib.hid hK
                  obtain ⟨sv1, sw1⟩ := ev_of s1
                  clear hK hdP
                  rw [if_pos (by rfl)]
                  go_simp
                  exact HK.out _ _ ⟨g1, A1, c1, A2, c2, g2, Lib.hid ad.out, Lib.hid (gd_size.trans az.out), Lib.hid (fun k hk => (gd_ne (by rintro rfl; exact hk (by decide))).trans (af.out k hk)), gdI h0, gdI h1, gdI h2, gdI h3, gdI h4, gdI h5, gdI h6, gdI h7, gdI h8, gdI h9, fun _ => gd_eq (by rw [az.out, sz00]; decide), gdI h11, gdI h12, gdI h13, gdI h14, gdI h15, giI c5_3, giI c6_5, giI c7_4, giI c7_6, giI c8_7, giI c9_2, giI c9_8, giI c11_10, giI c12_9, giI c12_11, giI c13_0, giI c14_13, giI c15_1, giI c15_14, giI c16_12, giI c16_15, fun n16 => (hK1 (fun z => n16 (.inr z))), fun p2 n9 n16 => (hg1 (rlI p2) (fun z => n9 (.inr z)) (fun z => n16 (.inr z))), fun p11 n16 => absurd (c11_10 (rlI p11)) hn, fun p2 p11 n9 n16 => absurd (c11_10 (rlI p11)) hn, fun p9 p11 n12 n16 => absurd (c11_10 (rlI p11)) hn, fun p9 n12 n16 => (hg2 (rlI p9) (fun z => n12 (.inr z)) (fun z => n16 (.inr z))), fun p12 n16 => absurd (c11_10 (c12_11 (rlI p12))) hn, fun p16 => absurd (c11_10 (c12_11 (c16_12 (rlI p16)))) hn⟩
                | 11, hoP =>
                  injection hoP with hoP; subst hoP
                  have nb12 : ¬ bP 12 := fun h => hn (c12_11 h)
                  have nb16 : ¬ bP 16 := fun h => hn (c12_11 (c16_12 h))
                  have d10 : bP 10 := hdP ⟨10, .data⟩ (by simp) rfl
                  have HK := Lib.hid hK
                  have e10 := h10 d10
                  obtain ⟨ev10, ew10⟩ := ev_of e10
                  clear hK hdP
                  rw [if_pos (by rfl)]
                  go_simp
                  exact HK.out _ _ ⟨g1, A1, c1, A2, c2, W.heap.size, Lib.hid ad.out, Lib.hid (gd_size.trans az.out), Lib.hid (fun k hk => (gd_ne (by rintro rfl; exact hk (by decide))).trans (af.out k hk)), gdI h0, gdI h1, gdI h2, gdI h3, gdI h4, gdI h5, gdI h6, gdI h7, gdI h8, gdI h9, gdI h10, fun _ => gd_eq (by rw [az.out, sz00]; decide), gdI h12, gdI h13, gdI h14, gdI h15, giI c5_3, giI c6_5, giI c7_4, giI c7_6, giI c8_7, giI c9_2, giI c9_8, fun _ => .inr d10, giI c12_9, giI c12_11, giI c13_0, giI c14_13, giI c15_1, giI c15_14, giI c16_12, giI c16_15, fun n16 => Lib.hid (((hK1 (fun z => n16 (.inr z))).out).trans ((Kp.refl [] W).alloc _)), fun p2 n9 n16 => Lib.hid (⟨((hg1 (rlI p2) (fun z => n9 (.inr z)) (fun z => n16 (.inr z))).out).1, ((hg1 (rlI p2) (fun z => n9 (.inr z)) (fun z => n16 (.inr z))).out).2.kp ((Kp.refl [] W).alloc _) (by simp)⟩), fun p11 n16 => Lib.hid (⟨(hK1 nb16).out.size, (Bk.newAt rfl _ _).cast rfl⟩), fun p2 p11 n9 n16 => Lib.hid (fun e => by have := (hg1 (rlI p2) (fun z => n9 (.inr z)) nb16).out.2.lt g1 (by simp [bks]); omega), fun p9 p11 n12 n16 => Lib.hid (fun hm => by have := (hg2 (rlI p9) (fun z => n12 (.inr z)) nb16).out.2.lt _ hm; omega), fun p9 n12 n16 => Lib.hid (⟨((hg2 (rlI p9) (fun z => n12 (.inr z)) (fun z => n16 (.inr z))).out).1, ((hg2 (rlI p9) (fun z => n12 (.inr z)) (fun z => n16 (.inr z))).out).2.kp ((Kp.refl [] W).alloc _) (by simp)⟩), fun p12 n16 => absurd (c12_11 (rlI p12)) hn, fun p16 => absurd (c12_11 (c16_12 (rlI p16))) hn⟩
                | 12, hoP =>
                  injection hoP with hoP; subst hoP
                  have nb12 := hn
                  have nb16 : ¬ bP 16 := fun h => hn (c16_12 h)
                  have d9 : bP 9 := hdP ⟨9, .data⟩ (by simp) rfl
                  have d11 : bP 11 := hdP ⟨11, .data⟩ (by simp) rfl
                  have HK := Lib.hid hK
                  have e9 := h9 d9
                  obtain ⟨ev9, ew9⟩ := ev_of e9
                  have e11 := h11 d11
                  obtain ⟨ev11, ew11⟩ := ev_of e11
                  clear hK hdP
                  rw [if_pos (by rfl)]
                  refine wp_app _ (.tmp 62) (.tmp 64) 63 rfl elt_str A1 k.q2.length c1 _ ev9 (hg2 d9 nb12 nb16).out.2 [] (some ⟨g2, 0, none⟩) 1 1 [.string (S s)] ev11 (Rd.of_bk (hg3 d11 nb16).out.2 (by simp)) rfl HNW.out (by omega) (fun A2' c2' w2' ho2 hk2 hA2 => ?_)
                  have ho2 := Lib.hid ho2
                  exact HK.out _ _ ⟨g1, A1, c1, A2', c2', g2, Lib.hid ad.out, Lib.hid (gd_size.trans az.out), Lib.hid (fun k hk => (gd_ne (by rintro rfl; exact hk (by decide))).trans (af.out k hk)), gdI h0, gdI h1, gdI h2, gdI h3, gdI h4, gdI h5, gdI h6, gdI h7, gdI h8, gdI h9, gdI h10, gdI h11, fun _ => gd_eq (by rw [az.out, sz00]; decide), gdI h13, gdI h14, gdI h15, giI c5_3, giI c6_5, giI c7_4, giI c7_6, giI c8_7, giI c9_2, giI c9_8, giI c11_10, fun _ => .inr d9, fun _ => .inr d11, giI c13_0, giI c14_13, giI c15_1, giI c15_14, giI c16_12, giI c16_15, fun n16 => Lib.hid ((hK1 nb16).out.thn hk2 (fun s hs => .inr ((hg2 d9 nb12 nb16).out.1 s hs))), fun p2 n9 n16 => Lib.hid (absurd d9 (fun z => n9 (.inr z))), fun p11 n16 => Lib.hid (⟨(hg3 (rlI p11) nb16).out.1, (hg3 (rlI p11) nb16).out.2.kp hk2 (hne2 d9 d11 nb12 nb16).out⟩), fun p2 p11 n9 n16 => Lib.hid (absurd d9 (fun z => n9 (.inr z))), fun _ _ z _ => absurd (.inl rfl) z, fun _ z _ => absurd (.inl rfl) z, fun p12 n16 => Lib.hid (⟨by rcases hA2 with rfl | rfl; exact (hg2 d9 nb12 nb16).out.1; (intro s hs; simp [bks] at hs; have := (hK1 nb16).out.size; omega), ho2.out⟩), fun p16 => absurd (c16_12 (rlI p16)) hn⟩
                | 13, hoP =>
                  injection hoP with hoP; subst hoP
                  have nb16 : ¬ bP 16 := fun h => hn (c14_13 (c15_14 (c16_15 h)))
                  have d0 : bP 0 := hdP ⟨0, .data⟩ (by simp) rfl
                  have HK := Lib.hid hK
                  have e0 := h0 d0
                  obtain ⟨ev0, ew0⟩ := ev_of e0
                  clear hK hdP
                  rw [if_pos (by rfl)]
                  go_simp
                  exact HK.out _ _ ⟨g1, A1, c1, A2, c2, g2, Lib.hid ad.out, Lib.hid (gd_size.trans az.out), Lib.hid (fun k hk => (gd_ne (by rintro rfl; exact hk (by decide))).trans (af.out k hk)), gdI h0, gdI h1, gdI h2, gdI h3, gdI h4, gdI h5, gdI h6, gdI h7, gdI h8, gdI h9, gdI h10, gdI h11, gdI h12, fun _ => gd_eq (by rw [az.out, sz00]; decide), gdI h14, gdI h15, giI c5_3, giI c6_5, giI c7_4, giI c7_6, giI c8_7, giI c9_2, giI c9_8, giI c11_10, giI c12_9, giI c12_11, fun _ => .inr d0, giI c14_13, giI c15_1, giI c15_14, giI c16_12, giI c16_15, fun n16 => (hK1 (fun z => n16 (.inr z))), fun p2 n9 n16 => (hg1 (rlI p2) (fun z => n9 (.inr z)) (fun z => n16 (.inr z))), fun p11 n16 => (hg3 (rlI p11) (fun z => n16 (.inr z))), fun p2 p11 n9 n16 => (hne (rlI p2) (rlI p11) (fun z => n9 (.inr z)) (fun z => n16 (.inr z))), fun p9 p11 n12 n16 => (hne2 (rlI p9) (rlI p11) (fun z => n12 (.inr z)) (fun z => n16 (.inr z))), fun p9 n12 n16 => (hg2 (rlI p9) (fun z => n12 (.inr z)) (fun z => n16 (.inr z))), fun p12 n16 => (hgF (rlI p12) (fun z => n16 (.inr z))), fun p16 => absurd (c14_13 (c15_14 (c16_15 (rlI p16)))) hn⟩
                | 14, hoP =>
                  injection hoP with hoP; subst hoP
                  have nb16 : ¬ bP 16 := fun h => hn (c15_14 (c16_15 h))
                  have d13 : bP 13 := hdP ⟨13, .data⟩ (by simp) rfl
                  have HK := Lib.hid hK
                  have e13 := h13 d13
                  obtain ⟨ev13, ew13⟩ := ev_of e13
                  clear hK hdP
                  rw [if_pos (by rfl)]
                  go_simp
                  exact HK.out _ _ ⟨g1, A1, c1, A2, c2, g2, Lib.hid ad.out, Lib.hid (gd_size.trans az.out), Lib.hid (fun k hk => (gd_ne (by rintro rfl; exact hk (by decide))).trans (af.out k hk)), gdI h0, gdI h1, gdI h2, gdI h3, gdI h4, gdI h5, gdI h6, gdI h7, gdI h8, gdI h9, gdI h10, gdI h11, gdI h12, gdI h13, fun _ => gd_eq (by rw [az.out, sz00]; decide), gdI h15, giI c5_3, giI c6_5, giI c7_4, giI c7_6, giI c8_7, giI c9_2, giI c9_8, giI c11_10, giI c12_9, giI c12_11, giI c13_0, fun _ => .inr d13, giI c15_1, giI c15_14, giI c16_12, giI c16_15, fun n16 => (hK1 (fun z => n16 (.inr z))), fun p2 n9 n16 => (hg1 (rlI p2) (fun z => n9 (.inr z)) (fun z => n16 (.inr z))), fun p11 n16 => (hg3 (rlI p11) (fun z => n16 (.inr z))), fun p2 p11 n9 n16 => (hne (rlI p2) (rlI p11) (fun z => n9 (.inr z)) (fun z => n16 (.inr z))), fun p9 p11 n12 n16 => (hne2 (rlI p9) (rlI p11) (fun z => n12 (.inr z)) (fun z => n16 (.inr z))), fun p9 n12 n16 => (hg2 (rlI p9) (fun z => n12 (.inr z)) (fun z => n16 (.inr z))), fun p12 n16 => (hgF (rlI p12) (fun z => n16 (.inr z))), fun p16 => absurd (c15_14 (c16_15 (rlI p16))) hn⟩
                | 15, hoP =>
                  injection hoP with hoP; subst hoP
                  have nb16 : ¬ bP 16 := fun h => hn (c16_15 h)
                  have d1 : bP 1 := hdP ⟨1, .data⟩ (by simp) rfl
                  have d14 : bP 14 := hdP ⟨14, .data⟩ (by simp) rfl
                  have HK := Lib.hid hK
                  have e1 := h1 d1
                  obtain ⟨ev1, ew1⟩ := ev_of e1
                  have e14 := h14 d14
                  obtain ⟨ev14, ew14⟩ := ev_of e14
                  clear hK hdP
                  rw [if_pos (by rfl)]
                  go_simp
                  exact HK.out _ _ ⟨g1, A1, c1, A2, c2, g2, Lib.hid ad.out, Lib.hid (gd_size.trans az.out), Lib.hid (fun k hk => (gd_ne (by rintro rfl; exact hk (by decide))).trans (af.out k hk)), gdI h0, gdI h1, gdI h2, gdI h3, gdI h4, gdI h5, gdI h6, gdI h7, gdI h8, gdI h9, gdI h10, gdI h11, gdI h12, gdI h13, gdI h14, fun _ => gd_eq (by rw [az.out, sz00]; decide), giI c5_3, giI c6_5, giI c7_4, giI c7_6, giI c8_7, giI c9_2, giI c9_8, giI c11_10, giI c12_9, giI c12_11, giI c13_0, giI c14_13, fun _ => .inr d1, fun _ => .inr d14, giI c16_12, giI c16_15, fun n16 => (hK1 (fun z => n16 (.inr z))), fun p2 n9 n16 => (hg1 (rlI p2) (fun z => n9 (.inr z)) (fun z => n16 (.inr z))), fun p11 n16 => (hg3 (rlI p11) (fun z => n16 (.inr z))), fun p2 p11 n9 n16 => (hne (rlI p2) (rlI p11) (fun z => n9 (.inr z)) (fun z => n16 (.inr z))), fun p9 p11 n12 n16 => (hne2 (rlI p9) (rlI p11) (fun z => n12 (.inr z)) (fun z => n16 (.inr z))), fun p9 n12 n16 => (hg2 (rlI p9) (fun z => n12 (.inr z)) (fun z => n16 (.inr z))), fun p12 n16 => (hgF (rlI p12) (fun z => n16 (.inr z))), fun p16 => absurd (c16_15 (rlI p16)) hn⟩
                | 16, hoP =>
                  injection hoP with hoP; subst hoP
                  have nb16 := hn
                  have d12 : bP 12 := hdP ⟨12, .data⟩ (by simp) rfl
                  have d15 : bP 15 := hdP ⟨15, .data⟩ (by simp) rfl
                  have HK := Lib.hid hK
                  have e12 := h12 d12
                  obtain ⟨ev12, ew12⟩ := ev_of e12
                  have e15 := h15 d15
                  obtain ⟨ev15, ew15⟩ := ev_of e15
                  have zk := (hK1 nb16).out
                  have zb := HW0.out W zk
                  have zl := zb.lt
                  have zf := zb.frozen 6
                  have zc := zb.cell 6
                  simp only [List.getElem?_cons_zero, List.getElem?_cons_succ] at zc
                  clear hK hdP
                  rw [if_pos (by rfl)]
                  go_simp
                  exact HK.out _ _ ⟨g1, A1, c1, A2, c2, g2, ad, az, af, fun h => h0 (rlI h), fun h => h1 (rlI h), fun h => h2 (rlI h), fun h => h3 (rlI h), fun h => h4 (rlI h), fun h => h5 (rlI h), fun h => h6 (rlI h), fun h => h7 (rlI h), fun h => h8 (rlI h), fun h => h9 (rlI h), fun h => h10 (rlI h), fun h => h11 (rlI h), fun h => h12 (rlI h), fun h => h13 (rlI h), fun h => h14 (rlI h), fun h => h15 (rlI h), giI c5_3, giI c6_5, giI c7_4, giI c7_6, giI c8_7, giI c9_2, giI c9_8, giI c11_10, giI c12_9, giI c12_11, giI c13_0, giI c14_13, giI c15_1, giI c15_14, fun _ => .inr d12, fun _ => .inr d15, fun  z => absurd (.inl rfl) z, fun _ _ z => absurd (.inl rfl) z, fun _ z => absurd (.inl rfl) z, fun _ _ _ z => absurd (.inl rfl) z, fun _ _ _ z => absurd (.inl rfl) z, fun _ _ z => absurd (.inl rfl) z, fun _ z => absurd (.inl rfl) z, fun p16 => Lib.hid (⟨W, (hK1 nb16).out, (hgF d12 nb16).out.2, (hgF d12 nb16).out.1, rfl⟩)⟩
                | (nP + 17), hoP => exact absurd hoP (by simp)
              · intro bP a' W hb hI
                obtain ⟨g1, A1, c1, A2, c2, g2, ad, az, af, h0, h1, h2, h3, h4, h5, h6, h7, h8, h9, h10, h11, h12, h13, h14, h15, c5_3, c6_5, c7_4, c7_6, c8_7, c9_2, c9_8, c11_10, c12_9, c12_11, c13_0, c14_13, c15_1, c15_14, c16_12, c16_15, hK1, hg1, hg3, hne, hne2, hg2, hgF, hFin⟩ := hI
                clear hK1
                clear hg1
                clear hg3
                clear hne
                clear hne2
                clear hg2
                clear hgF
                have hFin := hFin (hb 16 (by decide))
                have ha := act_of (L := [(53, .pointer (some ⟨q.g, 0, none⟩)), (54, .int .i64 2), (55, .slice (some ⟨g1, 0, none⟩) 0 0), (56, .pointer (some ⟨q.g, 0, none⟩)), (57, .int .i64 2), (58, .pointer (some ⟨q.g, 0, none⟩)), (59, .pointer (some ⟨q.g, 4, none⟩)), (60, .pointer (some ⟨q.g, 6, none⟩)), (61, .slice q.i2 k.q2.length q.c2), (62, .slice A1 k.q2.length c1), (63, .string (S s)), (64, .slice (some ⟨g2, 0, none⟩) 1 1), (65, .slice A2 (k.q2.length + 1) c2), (66, .pointer (some ⟨q.g, 0, none⟩)), (67, .pointer (some ⟨q.g, 4, none⟩)), (68, .pointer (some ⟨q.g, 6, none⟩))]) (show ([53, 54, 55, 56, 57, 58, 59, 60, 61, 62, 63, 64, 65, 66, 67, 68] : List Nat).Nodup by decide) ad.out az.out af.out (by
                  intro p hp
                  rw [sz00]
                  simp only [List.mem_cons, List.not_mem_nil, or_false] at hp
                  rcases hp with rfl | rfl | rfl | rfl | rfl | rfl | rfl | rfl | rfl | rfl | rfl | rfl | rfl | rfl | rfl | rfl
                  · exact ⟨show 53 < 70 by decide, h0 (hb 0 (by decide))⟩
                  · exact ⟨show 54 < 70 by decide, h1 (hb 1 (by decide))⟩
                  · exact ⟨show 55 < 70 by decide, h2 (hb 2 (by decide))⟩
                  · exact ⟨show 56 < 70 by decide, h3 (hb 3 (by decide))⟩
                  · exact ⟨show 57 < 70 by decide, h4 (hb 4 (by decide))⟩
                  · exact ⟨show 58 < 70 by decide, h5 (hb 5 (by decide))⟩
                  · exact ⟨show 59 < 70 by decide, h6 (hb 6 (by decide))⟩
                  · exact ⟨show 60 < 70 by decide, h7 (hb 7 (by decide))⟩
                  · exact ⟨show 61 < 70 by decide, h8 (hb 8 (by decide))⟩
                  · exact ⟨show 62 < 70 by decide, h9 (hb 9 (by decide))⟩
                  · exact ⟨show 63 < 70 by decide, h10 (hb 10 (by decide))⟩
                  · exact ⟨show 64 < 70 by decide, h11 (hb 11 (by decide))⟩
                  · exact ⟨show 65 < 70 by decide, h12 (hb 12 (by decide))⟩
                  · exact ⟨show 66 < 70 by decide, h13 (hb 13 (by decide))⟩
                  · exact ⟨show 67 < 70 by decide, h14 (hb 14 (by decide))⟩
                  · exact ⟨show 68 < 70 by decide, h15 (hb 15 (by decide))⟩
                  )
                rw [HA00.out] at ha
                simp only [List.foldl_cons, List.foldl_nil, Act.put, List.setIfInBounds_toArray, List.set_cons_zero, List.set_cons_succ] at ha
                clear h0 h1 h2 h3 h4 h5 h6 h7 h8 h9 h10 h11 h12 h13 h14 h15 c5_3 c6_5 c7_4 c7_6 c8_7 c9_2 c9_8 c11_10 c12_9 c12_11 c13_0 c14_13 c15_1 c15_14 c16_12 c16_15 hb ad az af HA00 sz00 sl0 sl1 sl9
                subst ha
                obtain ⟨W9, z1, z2, z3, rfl⟩ := hFin.out
                have Y2 := Lib.hid (Fin.out _ _ _ z1 z2 z3)
                clear hFin z1 z2 z3 Fin HRd HLN HMW HNW HW0
                go_wp2
                exact Y2.out
      · obtain rfl : i = k.fl.length := by omega
        have HX := Lib.hid (H1.out hl2 (find_no hno.out))
        clear H1 H2 H3 H4 H5
        go_wp2
        exact HX.out q _ (kr.out.mono (by simp)) QW.out rfl ⟨rfl, rfl⟩
end
end
/-! ### pantlerref09: Depart. -/
section
open Go.RowKit Go.Shelf
set_option linter.unusedVariables false
set_option linter.unusedSimpArgs false
set_option maxRecDepth 100000
/-- What Depart keeps and answers. -/
def RdP (R : Ending → World → Prop) (w0 : World) (B : Nat) (w : World) (q : QA) (k' : KS) (l : List UInt8) (env e : Int) : Prop :=
  ∀ q' w', Kp q.own w w' → Qn w0 B w' q' k' → q'.own = q.own → q'.bM = q.bM ∧ q'.bD = q.bD → R (.returned (.tuple #[.string (S l), .int .i64 env, .int .i64 e])) w'
section
variable {R : Ending → World → Prop} {w0 w : World} {B m : Nat} {q : QA} {k : KS}
/-- The transfers were cut in front. -/
theorem Qn.cutO (h : Qn w0 B w q k) {y : Tq} {q' : List Tq} (hq : k.qo = y :: q') {b off : Nat} (hA : q.oA = some ⟨b, off, none⟩) {A9 : Option Addr} {D9 : Nat} (hA9 : q.oc = 1 ∧ A9 = some ⟨b, off, none⟩ ∨ q.oc ≠ 1 ∧ A9 = some ⟨b, off + 2, none⟩) (hD9 : D9 = q.oc - 1) :
    Qn w0 B (w.setCell ⟨q.g, 7, none⟩ (.slice A9 q'.length D9)) { q with oA := A9, oc := D9 } { k with fo := k.fo + 1, qo := q' } ∧ Kp q.own w (w.setCell ⟨q.g, 7, none⟩ (.slice A9 q'.length D9)) := by
  have kg : Kp [q.g] w (w.setCell ⟨q.g, 7, none⟩ (.slice A9 q'.length D9)) := (Kp.refl [q.g] _).setCell (p := ⟨q.g, 7, none⟩) (.inl (by simp)) _
  have hs : ∀ s ∈ [q.g], s ∈ q.own ∨ w.heap.size ≤ s := fun s hm => .inl (Qn.own3 q s hm)
  obtain ⟨ys, hys⟩ := h.f
  obtain ⟨zs, hzs⟩ := h.o
  have hcp := h.cp.2.2.2
  rw [hq] at hcp
  simp only [List.length_cons] at hcp
  have hk := hzs.key
  obtain ⟨z, zs', rfl⟩ : ∃ z zs', zs = z :: zs' := by
    cases zs with
    | nil => rw [hq] at hk; simp at hk
    | cons z zs' => exact ⟨z, zs', rfl⟩
  rw [hq, List.map_cons, List.map_cons, List.cons.injEq] at hk
  have ht : Nb w q.own 142 A9 (zs'.flatMap tvals) := by
    rcases hA9 with ⟨hc1, rfl⟩ | ⟨hc1, rfl⟩
    · have hl := congrArg List.length hk.2
      simp only [List.length_map] at hl
      have : zs' = [] := List.length_eq_zero_iff.1 (by omega)
      subst this
      exact Nb.nil
    · have h1 := hzs.rd
      rw [hA, List.flatMap_cons] at h1
      intro hx
      obtain ⟨b', off', cs, e, hb, hz, hc⟩ := h1 (by simp [tvals])
      injection e with e
      injection e with e1 e2
      subst e1; subst e2
      exact ⟨b, off + 2, cs, rfl, hb, hz, fun j u hu => by
        have := hc (j + 2) u (by show ([_, _] ++ _)[j + 2]? = _; simpa using hu)
        rwa [show off + (j + 2) = off + 2 + j by omega] at this⟩
  exact h.setG (k' := { k with fo := k.fo + 1, qo := q' }) (fA' := q.fA) (fc' := q.fc) (i1' := q.i1) (c1' := q.c1) (i2' := q.i2) (c2' := q.c2) (oA' := A9) (oc' := D9) kg rfl rfl ((h.g.set_ 7 _).cast (by simp [QA.cells, hq]; omega))
    ⟨ys, hys.kp kg hs⟩ (h.in1.kp kg hs) (h.in2.kp kg hs) ⟨zs', hk.2, ht.kp kg hs, fun x hx => hzs.p x (by simp [hx])⟩ ⟨h.cp.1, h.cp.2.1, h.cp.2.2.1, by show q'.length ≤ D9; omega⟩
theorem Qn.done (h : Qn w0 B w q k) : Qn w0 B (w.setCell ⟨q.g, 9, none⟩ (.int .i64 (k.dn + 1 : Nat))) q { k with dn := k.dn + 1 } ∧ Kp q.own w (w.setCell ⟨q.g, 9, none⟩ (.int .i64 (k.dn + 1 : Nat))) := by
  have kg : Kp [q.g] w (w.setCell ⟨q.g, 9, none⟩ (.int .i64 (k.dn + 1 : Nat))) := (Kp.refl [q.g] _).setCell (p := ⟨q.g, 9, none⟩) (.inl (by simp)) _
  have hs : ∀ s ∈ [q.g], s ∈ q.own ∨ w.heap.size ≤ s := fun s hm => .inl (Qn.own3 q s hm)
  obtain ⟨ys, hys⟩ := h.f
  obtain ⟨zs, hzs⟩ := h.o
  exact h.setG (k' := { k with dn := k.dn + 1 }) (fA' := q.fA) (fc' := q.fc) (i1' := q.i1) (c1' := q.c1) (i2' := q.i2) (c2' := q.c2) (oA' := q.oA) (oc' := q.oc) kg rfl rfl ((h.g.set_ 9 _).cast (by simp [QA.cells]))
    ⟨ys, hys.kp kg hs⟩ (h.in1.kp kg hs) (h.in2.kp kg hs) ⟨zs, hzs.kp kg hs⟩ h.cp
set_option maxHeartbeats 8000000 in
theorem rdep_any (hQ : Qn w0 B w q k) (hpg : ∀ x ∈ k.fs, x.bs.length = 256) (hB : ∀ y ∈ k.fs, 0 ≤ y.ho ∧ y.ho ≤ 1000000) (hdn : k.dn ≤ 1000000) (hd : ∀ y q, k.qo = y :: q → dropOk k.fs y.l)
    (h0 : k.qo = [] → RdP R w0 B w q k [] 0 11)
    (h1 : ∀ y q', k.qo = y :: q' → RdP R w0 B w q { k with fs := dropAll k.fs y.l, fo := k.fo + 1, qo := q', dn := k.dn + 1 } (fetF k.fs y.l).2 y.env 0) :
    Calls Tryz.prog 15 #[.pointer (some ⟨q.g, 0, none⟩)] w R := by
  have H0 := Lib.hid h0
  have H1 := Lib.hid h1
  have HQ := Lib.hid hQ
  clear h0 h1
  cases hq : k.qo with
  | nil =>
    have HX := Lib.hid (H0.out hq)
    have c7 : w.cell? ⟨q.g, 7, none⟩ = some (.slice q.oA 0 q.oc) := by have := hQ.g.cell 7; rw [this]; simp [QA.cells, hq]
    clear hq hQ H0 H1
    go_enter Tryz.func15, Tryz.ntmps15
    go_wp2
    first | exact HX.out q _ (Kp.refl _ _) HQ.out rfl ⟨rfl, rfl⟩ | exact bodyPost_ret (v := .tuple #[.string (S []), .int .i64 0, .int .i64 11]) (by simp [results, Tryz.results15, go_sem]; try rfl) rfl (HX.out q _ (Kp.refl _ _) HQ.out rfl ⟨rfl, rfl⟩)
  | cons y q' =>
    have HX := Lib.hid (H1.out y q' hq)
    obtain ⟨zs, hzs⟩ := hQ.o
    have hk := hzs.key
    obtain ⟨z, zs', rfl⟩ : ∃ z zs', zs = z :: zs' := by
      cases zs with
      | nil => rw [hq] at hk; simp at hk
      | cons z zs' => exact ⟨z, zs', rfl⟩
    rw [hq, List.map_cons, List.map_cons, List.cons.injEq] at hk
    have hzy : z.env = y.env ∧ z.l = y.l := ⟨congrArg (·.1) hk.1, congrArg (·.2) hk.1⟩
    obtain ⟨b, off, hA, hbn, hbl, hcc⟩ := rd_at (k := 0) (x := z) hzs.rd.rd tvals_len (by omega) rfl
    have d0 := hcc 0 _ rfl
    have d1 := hcc 1 _ rfl
    simp only [Nat.zero_mul, Nat.add_zero] at d0 d1
    obtain ⟨p1, p2, p3, p4⟩ := hzs.p z (by simp)
    have hdo := hd y q' hq
    have hbad : y.l.any (dbad k.fs y.l) = false := dbad_okD.2 (ok_okD _ _ (fun x hx => (hB x hx).1) hdo)
    have hdec := drop_dec _ _ hdo
    have HFe : Hid (∀ (R : Ending → World → Prop) (w1 : World) (k1 : KS) (q1 : QA), Qn w0 B w1 q1 k1 → q1.bM = q.bM → k1.fs = k.fs → (∀ w', Kp [] w1 w' → ∀ e : Int, R (.returned (.tuple #[.string (S (fetF k.fs y.l).2), .int .i64 e])) w') → Calls Tryz.prog 65 #[.pointer (some ⟨q.bM, 0, none⟩), .slice z.A z.n z.c] w1 R) := Lib.hid (fun R w1 k1 q1 hq1 hm1 hf1 h => by
      rw [← hm1]
      refine rfetch_any hq1.t (by rw [hf1]; exact hpg) (p4.kp hq1.old (by simp)) p1 (by omega) p3 (fun e o w' he kk => ?_)
      have he := he.out
      rw [hf1, hzy.2] at he
      have := h w' kk e
      rw [he] at this
      exact this)
    have HDr : Hid (∀ (R : Ending → World → Prop) (w1 : World) (k1 : KS) (q1 : QA), Qn w0 B w1 q1 k1 → q1.bM = q.bM → k1.fs = k.fs → (∀ w', Kp [q1.bO, q1.bH, q1.bB] w1 w' → RT w' q1.bM q1.bO q1.bH q1.bB (dropAll k.fs y.l) → R (.returned (.int .i64 0)) w') → Calls Tryz.prog 66 #[.pointer (some ⟨q.bM, 0, none⟩), .slice z.A z.n z.c] w1 R) := Lib.hid (fun R w1 k1 q1 hq1 hm1 hf1 h => by
      rw [← hm1]
      have hrN : Rd w1 [q1.bO, q1.bH, q1.bB] z.A (z.l.flatMap Pc.vals) := fun hx => by
        obtain ⟨b, off, hAz, _, hl, hc⟩ := p4 hx
        obtain ⟨b', off', e, _, hl', hc'⟩ := (p4.kp hq1.old (by simp)) hx
        rw [hAz] at e
        injection e with e
        injection e with e1 e2
        subst e1; subst e2
        exact ⟨b, off, hAz, fun hm => by have h3 := hq1.new _ (Qn.own1 q1 _ hm); have h4 := hq1.hB; omega, hl', hc'⟩
      refine rdrop_good hq1.t (p4.kp hq1.old (by simp)) p1 (by omega) p3 (by rw [hf1, hzy.2]; exact hbad) (by rw [hf1]; exact fun y hy => by have := hB y hy; omega) hrN (fun w' kk ht => h w' kk ?_)
      rw [hf1, hzy.2] at ht
      rw [hdec]; exact ht)
    have c7 : w.cell? ⟨q.g, 7, none⟩ = some (.slice (some ⟨b, off, none⟩) (q'.length + 1) q.oc) := by rw [← hA]; have := hQ.g.cell 7; rw [this]; simp [QA.cells, hq]
    rw [hzy.1] at d0
    have hcc : q'.length + 1 ≤ q.oc := by have := hQ.cp.2.2.2; rw [hq] at this; simpa using this
    have HQQ := Lib.hid hq
    have HA := Lib.hid hA
    obtain ⟨n, hn⟩ : ∃ n, q'.length + 1 = n := ⟨_, rfl⟩
    rw [hn] at hcc c7
    have hn1 : 1 ≤ n := by omega
    have hn2 : (1 : Int) ≤ (n : Int) := by omega
    have hn3 : decide ((n : Int) = 0) = false := by simp; omega
    have hn4 : ((n : Int) == 0) = false := by simp; omega
    have hn5 : (0 : Int) < (n : Int) := by omega
    have hn6 : 0 < n := by omega
    have HN := Lib.hid hn
    have hn7 : n - 1 = q'.length := by omega
    have z7 := hQ.g.frozen 7
    have l7 := hQ.g.lt
    clear hd hk hzy hzs hcc p1 p2 p3 p4 hdo hbad hdec hq hQ hA hn H0 H1
    go_enter Tryz.func15, Tryz.ntmps15
    go_upto_region 4 with (fail)
    refine genV (fun W => ∃ gx, w.heap.size = gx ∧ Kp [] w W ∧ Bk W gx 142 [.int .i64 y.env, .slice z.A z.n z.c]) ⟨_, rfl, (Kp.refl _ _).alloc _, (Bk.newAt rfl _ _).cast rfl⟩ ?_
    rintro W ⟨gx, hgx, kW, bX⟩
    rw [hgx]
    have QW := Lib.hid (HQ.out.kp kW)
    have KW := Lib.hid kW
    have hgo : gx ∉ q.own := fun hm => by have := HQ.out.lt _ hm; omega
    have BX : Hid (∀ W', Kp q.own W W' → Bk W' gx 142 [.int .i64 y.env, .slice z.A z.n z.c]) := Lib.hid (fun W' k' => bX.kp k' hgo)
    have c7w : W.cell? ⟨q.g, 7, none⟩ = some (.slice (some ⟨b, off, none⟩) n q.oc) := (kW.cell (p := ⟨q.g, 7, none⟩) l7 (by simp)).trans c7
    have z7w := QW.out.g.frozen 7
    have l7w := QW.out.g.lt
    clear c7 z7 l7 d0 d1 hgx kW bX hgo hbl HQ
    by_cases hc1 : q.oc = 1
    · have HC1 := Lib.hid hc1
      rw [hc1] at c7w
      clear hc1
      go_upto_region 5 with (fail)
      obtain ⟨q1, k1⟩ := QW.out.cutO HQQ.out HA.out (A9 := some ⟨b, off, none⟩) (D9 := 0) (.inl ⟨HC1.out, rfl⟩) (by have := HC1.out; omega)
      refine genV (fun W1 => ∃ q1 : QA, Hid (Qn w0 B W1 q1 { k with fo := k.fo + 1, qo := q' }) ∧ Hid (Kp q.own W W1) ∧ q1.own = q.own ∧ q1.bM = q.bM ∧ q1.bD = q.bD ∧ q1.g = q.g) ⟨_, Lib.hid q1, Lib.hid k1, rfl, rfl, rfl, rfl⟩ ?_
      rintro W1 ⟨q1, Q1, K1, ho1, hm1, hd1, hg1⟩
      clear c7w z7w l7w
      have HS : Hid (∀ W', Kp [] W1 W' → (fun w' : World => w'.cell? ⟨q.g, 0, none⟩ = some (.pointer (some ⟨q.bM, 0, none⟩)) ∧ w'.cell? ⟨gx, 1, none⟩ = some (.slice z.A z.n z.c)) W') := Lib.hid (fun W' k' => ⟨by rw [← hg1, ← hm1]; exact (Q1.out.g.kp k' (by simp)).cell 0, ((BX.out W1 K1.out).kp k' (by simp)).cell 1⟩)
      go_region_held_law (fun w' => w'.cell? ⟨q.g, 0, none⟩ = some (.pointer (some ⟨q.bM, 0, none⟩)) ∧ w'.cell? ⟨gx, 1, none⟩ = some (.slice z.A z.n z.c)) (first | with_reducible exact HS.out _ (Kp.drew (Kp.refl _ _)) | with_reducible exact HS.out _ kk2) (first | (go_simp; go_at_call 65; (refine HFe.out _ _ _ _ (Q1.out.kp (by repeat (first | with_reducible exact Kp.refl _ _ | with_reducible refine Kp.drew ?_))) hm1 rfl ?_); intro w2 kk e2; have kk2 : Kp [] W1 w2 := ((Kp.refl [] W1).drew).trans kk))
      have Q2 := Lib.hid (Q1.out.kp kk2)
      have K2 : Hid (Kp q.own W w2) := Lib.hid (K1.out.thn (kk2.mono (S' := q.own) (by simp)) (fun s hs => .inl hs))
      clear HS Q1 K1 HFe kk
      go_upto_region 6 with (fail)
      have HS : Hid (∀ W', Kp [q1.bO, q1.bH, q1.bB] w2 W' → (fun w' : World => w'.cell? ⟨q.g, 0, none⟩ = some (.pointer (some ⟨q.bM, 0, none⟩)) ∧ w'.cell? ⟨gx, 1, none⟩ = some (.slice z.A z.n z.c)) W') := Lib.hid (fun W' k' => ⟨by rw [← hg1, ← hm1]; exact (Q2.out.g.kp k' Q2.out.nes.1).cell 0, by
        have hx := (BX.out w2 K2.out)
        have hx1 : gx ∉ [q1.bO, q1.bH, q1.bB] := by
          intro hm
          have h1 := Qn.own1 q1 _ hm
          rw [ho1] at h1
          exact (QW.out.offO _ (by decide) (by decide) (by decide) (by decide)).nin (BX.out W (Kp.refl _ _)).ty h1
        exact (hx.kp k' hx1).cell 1⟩)
      clear kk2
      go_region_held_law (fun w' => w'.cell? ⟨q.g, 0, none⟩ = some (.pointer (some ⟨q.bM, 0, none⟩)) ∧ w'.cell? ⟨gx, 1, none⟩ = some (.slice z.A z.n z.c)) (first | with_reducible exact HS.out _ (Kp.drew (Kp.refl _ _)) | with_reducible exact HS.out _ kk3) (first | (go_simp; go_at_call 66; (refine HDr.out _ _ _ _ (Q2.out.kp (by repeat (first | with_reducible exact Kp.refl _ _ | with_reducible refine Kp.drew ?_))) hm1 rfl ?_); intro w3 kk ht3; have kk3 : Kp [q1.bO, q1.bH, q1.bB] w2 w3 := ((Kp.refl [q1.bO, q1.bH, q1.bB] w2).drew).trans kk))
      obtain ⟨q3, k3⟩ := Q2.out.setT kk3 ht3
      rw [ho1] at k3
      have Q3 := Lib.hid q3
      have K3 : Hid (Kp q.own W w3) := Lib.hid (K2.out.thn k3 (fun s hs => .inl hs))
      clear HS Q2 K2 HDr kk kk3 q3 k3 ht3
      have c9 : w3.cell? ⟨q.g, 9, none⟩ = some (.int .i64 k.dn) := by rw [← hg1]; exact Q3.out.g.cell 9
      have z9 : w3.frozen? ⟨q.g, 9, none⟩ = false := by rw [← hg1]; exact Q3.out.g.frozen 9
      have l9 : q.g < w3.heap.size := by rw [← hg1]; exact Q3.out.g.lt
      have hw9 : IntKind.i64.wrap ((k.dn : Int) + 1) = ((k.dn + 1 : Nat) : Int) := by rw [wrapV (by omega) (by omega)]; rfl
      obtain ⟨q4, k4⟩ := Q3.out.done
      rw [ho1] at k4
      have Q4 := Lib.hid q4
      have K4 : Hid (Kp q.own W ((w3.setCell ⟨q1.g, 9, none⟩ (.int .i64 (k.dn + 1 : Nat))))) := Lib.hid (K3.out.thn k4 (fun s hs => .inl hs))
      rw [hg1] at Q4 K4
      have x0 := (BX.out _ K4.out).cell 0
      have HXX := HX.out
      clear Q3 K3 q4 k4 HX
      go_upto_region 8 with (fail)
      refine genV (fun W4 => Hid (Qn w0 B W4 q1 { k with fs := dropAll k.fs y.l, fo := k.fo + 1, qo := q', dn := k.dn + 1 }) ∧ Hid (Kp q.own W W4) ∧ W4.cell? ⟨gx, 0, none⟩ = some (.int .i64 y.env)) ⟨Q4, K4, x0⟩ ?_
      clear Q4 K4 x0
      rintro W4 ⟨Q4, K4, x0⟩
      have HXY := Lib.hid HXX
      clear HXX c9 z9 l9
      go_quiet (fail)
      go_wp2
      exact bodyPost_ret (v := .tuple #[.string (S (fetF k.fs y.l).2), .int .i64 y.env, .int .i64 0]) (by simp [results, Tryz.results15, go_sem]; try rfl) rfl (HXY.out q1 _ (((KW.out.mono (by simp)).thn K4.out (fun s hs => .inl hs)).drewN _) (Q4.out.kp ((Kp.refl _ _).drewN _)) ho1 ⟨hm1, hd1⟩)
    · have HC1 := Lib.hid hc1
      go_upto_region 5 with (fail)
      obtain ⟨q1, k1⟩ := QW.out.cutO HQQ.out HA.out (A9 := some ⟨b, off + 2, none⟩) (D9 := (q.oc - 1)) (.inr ⟨HC1.out, rfl⟩) rfl
      refine genV (fun W1 => ∃ q1 : QA, Hid (Qn w0 B W1 q1 { k with fo := k.fo + 1, qo := q' }) ∧ Hid (Kp q.own W W1) ∧ q1.own = q.own ∧ q1.bM = q.bM ∧ q1.bD = q.bD ∧ q1.g = q.g) ⟨_, Lib.hid q1, Lib.hid k1, rfl, rfl, rfl, rfl⟩ ?_
      rintro W1 ⟨q1, Q1, K1, ho1, hm1, hd1, hg1⟩
      clear c7w z7w l7w
      have HS : Hid (∀ W', Kp [] W1 W' → (fun w' : World => w'.cell? ⟨q.g, 0, none⟩ = some (.pointer (some ⟨q.bM, 0, none⟩)) ∧ w'.cell? ⟨gx, 1, none⟩ = some (.slice z.A z.n z.c)) W') := Lib.hid (fun W' k' => ⟨by rw [← hg1, ← hm1]; exact (Q1.out.g.kp k' (by simp)).cell 0, ((BX.out W1 K1.out).kp k' (by simp)).cell 1⟩)
      go_region_held_law (fun w' => w'.cell? ⟨q.g, 0, none⟩ = some (.pointer (some ⟨q.bM, 0, none⟩)) ∧ w'.cell? ⟨gx, 1, none⟩ = some (.slice z.A z.n z.c)) (first | with_reducible exact HS.out _ (Kp.drew (Kp.refl _ _)) | with_reducible exact HS.out _ kk2) (first | (go_simp; go_at_call 65; (refine HFe.out _ _ _ _ (Q1.out.kp (by repeat (first | with_reducible exact Kp.refl _ _ | with_reducible refine Kp.drew ?_))) hm1 rfl ?_); intro w2 kk e2; have kk2 : Kp [] W1 w2 := ((Kp.refl [] W1).drew).trans kk))
      have Q2 := Lib.hid (Q1.out.kp kk2)
      have K2 : Hid (Kp q.own W w2) := Lib.hid (K1.out.thn (kk2.mono (S' := q.own) (by simp)) (fun s hs => .inl hs))
      clear HS Q1 K1 HFe kk
      go_upto_region 6 with (fail)
      have HS : Hid (∀ W', Kp [q1.bO, q1.bH, q1.bB] w2 W' → (fun w' : World => w'.cell? ⟨q.g, 0, none⟩ = some (.pointer (some ⟨q.bM, 0, none⟩)) ∧ w'.cell? ⟨gx, 1, none⟩ = some (.slice z.A z.n z.c)) W') := Lib.hid (fun W' k' => ⟨by rw [← hg1, ← hm1]; exact (Q2.out.g.kp k' Q2.out.nes.1).cell 0, by
        have hx := (BX.out w2 K2.out)
        have hx1 : gx ∉ [q1.bO, q1.bH, q1.bB] := by
          intro hm
          have h1 := Qn.own1 q1 _ hm
          rw [ho1] at h1
          exact (QW.out.offO _ (by decide) (by decide) (by decide) (by decide)).nin (BX.out W (Kp.refl _ _)).ty h1
        exact (hx.kp k' hx1).cell 1⟩)
      clear kk2
      go_region_held_law (fun w' => w'.cell? ⟨q.g, 0, none⟩ = some (.pointer (some ⟨q.bM, 0, none⟩)) ∧ w'.cell? ⟨gx, 1, none⟩ = some (.slice z.A z.n z.c)) (first | with_reducible exact HS.out _ (Kp.drew (Kp.refl _ _)) | with_reducible exact HS.out _ kk3) (first | (go_simp; go_at_call 66; (refine HDr.out _ _ _ _ (Q2.out.kp (by repeat (first | with_reducible exact Kp.refl _ _ | with_reducible refine Kp.drew ?_))) hm1 rfl ?_); intro w3 kk ht3; have kk3 : Kp [q1.bO, q1.bH, q1.bB] w2 w3 := ((Kp.refl [q1.bO, q1.bH, q1.bB] w2).drew).trans kk))
      obtain ⟨q3, k3⟩ := Q2.out.setT kk3 ht3
      rw [ho1] at k3
      have Q3 := Lib.hid q3
      have K3 : Hid (Kp q.own W w3) := Lib.hid (K2.out.thn k3 (fun s hs => .inl hs))
      clear HS Q2 K2 HDr kk kk3 q3 k3 ht3
      have c9 : w3.cell? ⟨q.g, 9, none⟩ = some (.int .i64 k.dn) := by rw [← hg1]; exact Q3.out.g.cell 9
      have z9 : w3.frozen? ⟨q.g, 9, none⟩ = false := by rw [← hg1]; exact Q3.out.g.frozen 9
      have l9 : q.g < w3.heap.size := by rw [← hg1]; exact Q3.out.g.lt
      have hw9 : IntKind.i64.wrap ((k.dn : Int) + 1) = ((k.dn + 1 : Nat) : Int) := by rw [wrapV (by omega) (by omega)]; rfl
      obtain ⟨q4, k4⟩ := Q3.out.done
      rw [ho1] at k4
      have Q4 := Lib.hid q4
      have K4 : Hid (Kp q.own W ((w3.setCell ⟨q1.g, 9, none⟩ (.int .i64 (k.dn + 1 : Nat))))) := Lib.hid (K3.out.thn k4 (fun s hs => .inl hs))
      rw [hg1] at Q4 K4
      have x0 := (BX.out _ K4.out).cell 0
      have HXX := HX.out
      clear Q3 K3 q4 k4 HX
      go_upto_region 8 with (fail)
      refine genV (fun W4 => Hid (Qn w0 B W4 q1 { k with fs := dropAll k.fs y.l, fo := k.fo + 1, qo := q', dn := k.dn + 1 }) ∧ Hid (Kp q.own W W4) ∧ W4.cell? ⟨gx, 0, none⟩ = some (.int .i64 y.env)) ⟨Q4, K4, x0⟩ ?_
      clear Q4 K4 x0
      rintro W4 ⟨Q4, K4, x0⟩
      have HXY := Lib.hid HXX
      clear HXX c9 z9 l9
      go_quiet (fail)
      go_wp2
      exact bodyPost_ret (v := .tuple #[.string (S (fetF k.fs y.l).2), .int .i64 y.env, .int .i64 0]) (by simp [results, Tryz.results15, go_sem]; try rfl) rfl (HXY.out q1 _ (((KW.out.mono (by simp)).thn K4.out (fun s hs => .inl hs)).drewN _) (Q4.out.kp ((Kp.refl _ _).drewN _)) ho1 ⟨hm1, hd1⟩)
end
end
end Go.Proofs.YtedblbpmlbjnhaaGreat
