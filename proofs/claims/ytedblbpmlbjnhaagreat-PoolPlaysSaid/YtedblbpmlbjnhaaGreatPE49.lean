/- PoolPlays walked: the steps. -/
import Derived.Test.YtedblbpmlbjnhaaGreatPE47
import Derived.Test.YtedblbpmlbjnhaaGreatPE48
import Derived.Test.YtedblbpmlbjnhaaGreatPE30
import Derived.Test.YtedblbpmlbjnhaaGreatPE35
import Derived.BigQuiet
import Derived.Deep.CutBlock
import Derived.Deep.DeepCutAuto
import Derived.Deep.RegionHeldLaw
namespace Go.Proofs.YtedblbpmlbjnhaaGreat
/-! ### PoolPlays walked: the steps. -/
section
open Go.RowKit Go.Shelf
set_option linter.unusedVariables false
set_option linter.unusedSimpArgs false
set_option maxRecDepth 100000
theorem pact_bk7 {W : World} {b : Nat} {x : PAct} (h : Bk W b 87 x.vals) : W.cell? ⟨b, 0, none⟩ = some (.int .i64 x.k) ∧ W.cell? ⟨b, 1, none⟩ = some (.int .i64 x.a) ∧ W.cell? ⟨b, 2, none⟩ = some (.int .i64 x.b) ∧ W.cell? ⟨b, 3, none⟩ = some (.int .i64 x.ev) ∧ W.cell? ⟨b, 4, none⟩ = some (.int .i64 x.od) ∧ W.cell? ⟨b, 5, none⟩ = some (.string x.s) ∧ W.cell? ⟨b, 6, none⟩ = some (.slice x.l.A x.l.n x.l.c) :=
  ⟨h.cell 0, h.cell 1, h.cell 2, h.cell 3, h.cell 4, h.cell 5, h.cell 6⟩
theorem ts_facts {w0 w : World} {B B2 : Nat} {a : KA} {q : QA} {k : KS} (hk : Kn w B a k) (hq : Qn w0 B2 w q k) (ho : GOx k) :
    (∀ (R : Ending → World → Prop) (w1 : World), Kp [] w w1 → R (.returned (.pointer (some ⟨a.bT, 0, none⟩))) w1 → Calls Tryz.prog 17 #[.pointer (some ⟨a.g, 0, none⟩)] w1 R) ∧
    (∀ (R : Ending → World → Prop) (w1 : World), Kp [] w w1 → (∀ w', Kp [] w1 w' → R (.returned (.bool true)) w') → Calls Tryz.prog 16 #[.pointer (some ⟨a.bT, 0, none⟩), .pointer (some ⟨q.bM, 0, none⟩)] w1 R) ∧
    (∀ w', Kp [] w w' → w'.cell? ⟨q.g, 0, none⟩ = some (.pointer (some ⟨q.bM, 0, none⟩))) :=
  ⟨fun R w1 k1 h => ktab_any (hk.off0 k1) h, fun R w1 k1 h => by
    obtain ⟨M, hM, hg⟩ := ho
    exact shows_any (hk.off0 k1).t (hq.kp k1).t hg.o h, fun w' k' => (hq.kp k').g.cell 0⟩
theorem Pq.drw {w w' : World} {B : Nat} (h : Pq B w w') : Pq B w w'.drew := h.trans (Pq.of0 (Kp.refl [] w').drew)
/-- The program's call, then perhaps the document's. -/
def Pb (B : Nat) (S : List Nat) (w w' : World) : Prop := ∃ v, Pq B w v ∧ Kp S v w'
theorem Pb.refl (B : Nat) (S : List Nat) (w : World) : Pb B S w w := ⟨w, Pq.refl _ _, Kp.refl _ _⟩
theorem Pb.drw {w w' : World} {B : Nat} {S : List Nat} (h : Pb B S w w') : Pb B S w w'.drew := by
  obtain ⟨v, h1, h2⟩ := h
  exact ⟨v, h1, h2.drew⟩
section
variable {R : Ending → World → Prop} {w w0 : World} {B B2 m : Nat} {a : KA} {pa : PA} {q : QA} {qa : QPA} {k : KS} {D : DP}
theorem Nxt.kp0 {a' : KA} {w1 w2 : World} {fn : Nat} {args : Array Value} {v : Value} (h : Nxt w0 B a' pa B2 q qa m w1 fn args v) (hk : Kp [] w1 w2) : Nxt w0 B a' pa B2 q qa m w2 fn args v := fun R w3 k3 hr => h R w3 (hk.trans k3) hr
theorem P2.out (h : P2 w0 w B a pa B2 q qa k D m) : ∀ s ∈ qa.both q, s < w.heap.size := h.qk.out
theorem P2.B0 (h : P2 w0 w B a pa B2 q qa k D m) : B ≤ w.heap.size := h.kp.kn.hB
theorem p2_start {w5 w6 : World} {a' : KA} {q' : QA} {n : Nat} (z : KPl w5 B a' (kzi 6 12 n) pa ⟨psN n, 0, 0⟩) (hq : Qn w0 B2 w5 q (kz0 6 12)) (ag : a'.g < B2) (hB : w0.heap.size ≤ B) (kk : Kp q.own w5 w6) (z2 : QKP w0 B2 w6 q' (kzi 6 12 n) qa (dz0 n)) (hn : n ≤ 6) : P2 w0 w6 B a' pa B2 q' qa (kzi 6 12 n) (dz0 n) 0 := by
  have o := hq.offO
  obtain ⟨h1, h2, h3⟩ := kzi_inv 6 12 n hn
  refine ⟨⟨z.kn.offQ hq ag kk, ?_, z.gB, z.lB⟩, z2, hB, ag, ⟨kzi_cnt 6 12 n, h1, h2, h3⟩, dz0_pg hn⟩
  rw [dz0_ps]
  exact z.pl.off kk (o _ (by decide) (by decide) (by decide) (by decide)) (o _ (by decide) (by decide) (by decide) (by decide))
set_option maxHeartbeats 32000000 in
theorem pplays_walk (sz : Int) (l : Sin PAct) (hl : l.ok w PAct.vals (PAct.ok w)) (h : ∀ w', Kp [] w w' → R (.returned (.bool true)) w') :
    Calls Tryz.prog 4 #[.int .i64 sz, .slice l.A l.n l.c] w R := by
  have H := Lib.hid h
  obtain ⟨A, n, c, l⟩ := l
  have HL := Lib.hid hl.len
  have HR := Lib.hid hl.rd
  have HA := Lib.hid hl.all
  have hmx := hl.max
  have hcap := hl.cap
  simp only at HL HR HA hmx hcap ⊢
  unfold maxLen at hmx
  have HFar : Hid (∀ (R : Ending → World → Prop) (w1 : World), Kp [] w w1 → (∀ w', Kp [] w1 w' → R (.returned (.bool true)) w') → (n ≤ 80 → (∀ x ∈ l, PActB x) → ∀ w', Kp [] w1 w' → R (.returned (.bool false)) w') → Calls Tryz.prog 21 #[.slice A n c] w1 R) := Lib.hid (fun R w1 k1 h1 h2 => far13f_any (HR.out.kp k1 (by simp)) HL.out (by omega) h1 h2)
  have HN : Hid (∀ (R : Ending → World → Prop) (w1 : World), (∀ a w', Kp [] w1 w' → Kn w' w1.heap.size a (kz0 6 12) → R (.returned (.tuple #[.pointer (some ⟨a.g, 0, none⟩), .int .i64 0])) w') → Calls Tryz.prog 7 #[.int .i64 6, .int .i64 12] w1 R) := Lib.hid (fun R w1 h => knew2_any 6 12 (by omega) (by omega) (by omega) (by omega) w1 h)
  have HM : Hid (∀ (R : Ending → World → Prop) (w1 : World), Kp [] w w1 → (∀ q w', Kp [] w1 w' → Qn w w1.heap.size w' q (kz0 6 12) → R (.returned (.pointer (some ⟨q.g, 0, none⟩))) w') → Calls Tryz.prog 8 #[.int .i64 6, .int .i64 12] w1 R) := Lib.hid (fun R w1 k1 h => rknew_any 6 12 (by omega) (by omega) (by omega) (by omega) k1 h)
  clear h hl
  go_enter Tryz.func4, Tryz.ntmps4
  go_upto_if 35 with (first | (go_at_call 20; ((refine alive13_any ?_); intro w1 k1)) | (go_at_call 21; (refine HFar.out _ _ k1 (fun w2 k2 => ?_) (fun h80 hBa w2 k2 => ?_))))
  · go_wp2
    exact H.out _ (k1.trans k2)
  have HBa := Lib.hid hBa
  clear hBa HFar
  go_upto_region 7 with (first | (go_at_call 7; ((refine HN.out _ _ ?_); intro a w3 k3 hkn)) | (go_at_call 8; ((refine HM.out _ _ ((k1.trans k2).trans k3) ?_); intro q w4 k4 hqn)))
  obtain ⟨B, hBe⟩ : ∃ B, w2.heap.size = B := ⟨_, rfl⟩
  obtain ⟨B2, hB2⟩ : ∃ B, w3.heap.size = B := ⟨_, rfl⟩
  have hwB : w.heap.size ≤ B := by have := (k1.trans k2).size; omega
  have hag : a.g < B2 := by have := hkn.g.lt; omega
  rw [hBe] at hkn
  rw [hB2] at hqn
  have K4 := Lib.hid (And.intro (hkn.off0 k4) (And.intro hqn (((k1.trans k2).trans k3).trans k4)))
  clear hkn hqn k1 k2 k3 k4 hBe hB2 HN HM
  by_cases hs : sz < 1 ∨ 256 < sz
  · as_aux_lemma =>
    obtain ⟨HT, HSh, hC⟩ := ts_facts K4.out.1 K4.out.2.1 (by rw [← kzi_zero]; exact (kzi_inv 6 12 0 (by omega)).2.2)
    have HT := Lib.hid HT
    have HSh := Lib.hid HSh
    have hC0 := hC _ (Kp.refl _ _)
    have HPn : Hid (∀ (R : Ending → World → Prop) (w1 : World), R (.returned (.tuple #[.pointer none, .int .i64 1])) w1 → Calls Tryz.prog 22 #[.pointer (some ⟨a.g, 0, none⟩), .int .i64 sz] w1 R) := Lib.hid (fun R w1 h => pnew_out sz hs h)
    have HQn : Hid (∀ (R : Ending → World → Prop) (w1 : World), R (.returned (.tuple #[.pointer none, .int .i64 1])) w1 → Calls Tryz.prog 23 #[.pointer (some ⟨q.g, 0, none⟩), .int .i64 sz] w1 R) := Lib.hid (fun R w1 h => qnew_bad sz hs h)
    clear hC hs
    go_upto_region 9 with (first | (go_at_call 22; (refine HPn.out _ _ ?_)) | (go_at_call 23; (refine HQn.out _ _ ?_)))
    refine wp_region_kp (by kernel_rfl) (by kernel_rfl) ?_
    repeat (go_big_quiet_step (first | (go_at_call 17; (refine HT.out _ _ (kpw_kp _ _) ?_; exact kpx_mk (Kp.refl _ _))) | (go_at_call 16; (refine HSh.out _ _ (kpw_kp _ _) (fun w9 k9 => ?_); exact kpx_mk k9))))
    refine wpQuiet_nil ?_
    intro w9 k9
    go_wp2
    exact H.out _ (K4.out.2.2.trans k9)
  obtain ⟨sn, rfl⟩ : ∃ m : Nat, sz = m := ⟨sz.toNat, by omega⟩
  by_cases h6 : 6 < sn
  · as_aux_lemma =>
    have HPn : Hid (∀ (R : Ending → World → Prop), (∀ a5 w5, Hid (Pq B w4 w5 ∧ Kn w5 B a5 (kfr 6 12 6) ∧ a5.g = a.g ∧ a5.bT = a.bT) → R (.returned (.tuple #[.pointer none, .int .i64 10])) w5) → Calls Tryz.prog 22 #[.pointer (some ⟨a.g, 0, none⟩), .int .i64 sn] w4 R) := Lib.hid (fun R h => pnew2_any K4.out.1 (by omega) (by omega) sn (by omega) (by omega) (fun h' => by omega) (fun _ a5 w5 hk z e1 e2 => h a5 w5 (Lib.hid ⟨hk, z, e1, e2⟩)))
    have HQn : Hid (∀ (R : Ending → World → Prop) (a5 : KA) (w5 : World), Hid (Pq B w4 w5 ∧ Kn w5 B a5 (kfr 6 12 6) ∧ a5.g = a.g ∧ a5.bT = a.bT) → (∀ q6 w6, Hid (Kn w6 B a5 (kfr 6 12 6) ∧ Qn w B2 w6 q6 (kfr 6 12 6) ∧ q6.g = q.g ∧ q6.bM = q.bM) → R (.returned (.tuple #[.pointer none, .int .i64 10])) w6) → Calls Tryz.prog 23 #[.pointer (some ⟨q.g, 0, none⟩), .int .i64 sn] w5 R) := Lib.hid (fun R a5 w5 h5 h => by
      obtain ⟨hk, z, e1, e2⟩ := h5.out
      have q5 := K4.out.2.1.pq hk hwB
      refine qnew_any q5 (by omega) (by omega) sn (by omega) (by omega) (fun h' => by omega) (fun _ q6 w6 kk z2 ho hb => h q6 w6 (Lib.hid ⟨z.offQ q5 (by rw [e1]; exact hag) kk, z2, own_g ho, hb.1⟩)))
    clear hs
    go_upto_region 9 with (first | (go_at_call 22; ((refine HPn.out _ ?_); intro a5 w5 h5)) | (go_at_call 23; ((refine HQn.out _ _ _ h5 ?_); intro q6 w6 h6')))
    obtain ⟨HT, HSh, hC⟩ := ts_facts h6'.out.1 h6'.out.2.1 (kfr_o 6 12 6)
    rw [h5.out.2.2.1, h5.out.2.2.2] at HT
    rw [h5.out.2.2.2, h6'.out.2.2.2] at HSh
    rw [h6'.out.2.2.1, h6'.out.2.2.2] at hC
    have HT := Lib.hid HT
    have HSh := Lib.hid HSh
    have hC0 := hC _ (Kp.refl _ _)
    clear hC HPn HQn
    refine wp_region_kp (by kernel_rfl) (by kernel_rfl) ?_
    repeat (go_big_quiet_step (first | (go_at_call 17; (refine HT.out _ _ (kpw_kp _ _) ?_; exact kpx_mk (Kp.refl _ _))) | (go_at_call 16; (refine HSh.out _ _ (kpw_kp _ _) (fun w9 k9 => ?_); exact kpx_mk k9))))
    refine wpQuiet_nil ?_
    intro w9 k9
    go_wp2
    exact H.out _ (h6'.out.2.1.old.trans k9)
  have HPn : Hid (∀ (R : Ending → World → Prop), (∀ a5 pa w5, Hid (Pq B w4 w5 ∧ KPl w5 B a5 (kzi 6 12 sn) pa ⟨psN sn, 0, 0⟩ ∧ a5.g = a.g ∧ a5.bT = a.bT) → R (.returned (.tuple #[.pointer (some ⟨pa.g, 0, none⟩), .int .i64 0])) w5) → Calls Tryz.prog 22 #[.pointer (some ⟨a.g, 0, none⟩), .int .i64 sn] w4 R) := Lib.hid (fun R h => pnew2_any K4.out.1 (by omega) (by omega) sn (by omega) (by omega) (fun _ a5 pa w5 hk z e1 e2 _ _ => h a5 pa w5 (Lib.hid ⟨hk, z, e1, e2⟩)) (fun h' => by omega))
  have HQn : Hid (∀ (R : Ending → World → Prop) (a5 : KA) (pa : PA) (w5 : World), Hid (Pq B w4 w5 ∧ KPl w5 B a5 (kzi 6 12 sn) pa ⟨psN sn, 0, 0⟩ ∧ a5.g = a.g ∧ a5.bT = a.bT) → (∀ q6 qa w6, Hid (P2 w w6 B a5 pa B2 q6 qa (kzi 6 12 sn) (dz0 sn) 0) → Hid (q6.own = q.own ∧ q6.bM = q.bM ∧ q6.bD = q.bD) → R (.returned (.tuple #[.pointer (some ⟨qa.g, 0, none⟩), .int .i64 0])) w6) → Calls Tryz.prog 23 #[.pointer (some ⟨q.g, 0, none⟩), .int .i64 sn] w5 R) := Lib.hid (fun R a5 pa w5 h5 h => by
    obtain ⟨hk, z, e1, e2⟩ := h5.out
    have q5 := K4.out.2.1.pq hk hwB
    refine qnew_any q5 (by omega) (by omega) sn (by omega) (by omega) (fun _ q6 qa w6 kk z2 ho hb => h q6 qa w6 (Lib.hid (p2_start z q5 (by rw [e1]; exact hag) hwB kk z2 (by omega))) (Lib.hid ⟨ho, hb.1, hb.2⟩)) (fun h' => by omega))
  clear hs
  go_upto_region 9 with (first | (go_at_call 22; ((refine HPn.out _ ?_); intro a5 pa w5 h5)) | (go_at_call 23; ((refine HQn.out _ _ _ _ h5 ?_); intro q6 qa w6 h6' e6)))
  have E5 := Lib.hid h5.out.2.2
  obtain ⟨HT, HSh, hC⟩ := ts_facts h6'.out.kp.kn h6'.out.qk.qn h6'.out.ki.o
  rw [E5.out.1, E5.out.2] at HT
  rw [E5.out.2, e6.out.2.1] at HSh
  rw [own_g e6.out.1, e6.out.2.1] at hC
  have HT := Lib.hid HT
  have HSh := Lib.hid HSh
  have hC0 := hC _ (Kp.refl _ _)
  clear hC HPn HQn h5
  refine wp_region_kp (by kernel_rfl) (by kernel_rfl) ?_
  repeat (go_big_quiet_step (first | (go_at_call 17; (refine HT.out _ _ (kpw_kp _ _) ?_; exact kpx_mk (Kp.refl _ _))) | (go_at_call 16; (refine HSh.out _ _ (kpw_kp _ _) (fun w9 k9 => ?_); exact kpx_mk k9))))
  refine wpQuiet_nil ?_
  intro w9 k9
  have h9 := Lib.hid (h6'.out.kp0 k9)
  clear HT HSh hC0 k9 h6'
  go_wp2
  go_loopw [12] (fun iv wr => ∃ (i : Nat) (a7 : KA) (q7 : QA) (k7 : KS) (D7 : DP), i ≤ n ∧ iv = .int .i64 i ∧ Hid (a7.g = a.g ∧ a7.bT = a.bT) ∧ Hid (q7.own = q.own ∧ q7.bM = q.bM ∧ q7.bD = q.bD) ∧ Hid (P2 w wr B a7 pa B2 q7 qa k7 D7 i)) (fun iv _ => n - (intOf iv).toNat)
  case atStart => exact ⟨0, a5, q6, _, _, Nat.zero_le _, rfl, E5, e6, h9⟩
  case round =>
    obtain ⟨i, a7, q7, k7, D7, hi, rfl, hga, hqq, h2⟩ := hrel
    clear h9 E5 e6
    by_cases hlt : i < n
    · obtain ⟨x, hx, hm⟩ := get_lt (l := l) (k := i) (by have := HL.out; omega)
      obtain ⟨b, o, rfl, _, hbl, hc⟩ := rd_at (HR.out.kp h2.out.qk.qn.old (by simp)) pavals_len (by have := HL.out; omega) hx
      obtain ⟨c0, c1, c2, c3, c4, c5, c6⟩ := pact_cells hc
      have HX := Lib.hid (And.intro (HBa.out x hm) (HA.out x hm))
      clear hc hx hm
      have hszm := Lib.hid h2.out.out
      have hBw := h2.out.B0
      go_upto_region 17 with (fail)
      refine genV (fun W => ∃ ab, wr.heap.size = ab ∧ Hid (P2 w W B a7 pa B2 q7 qa k7 D7 i) ∧ Hid (Bk W ab 87 x.vals)) ⟨_, rfl, Lib.hid (h2.out.kp0 ((Kp.refl _ _).alloc _)), Lib.hid ((Bk.new' _ _ _).cast rfl)⟩ ?_
      rintro W ⟨ab, hab, PW, HAB⟩
      rw [hab]
      have HNO : Hid (ab ∉ qa.both q) := Lib.hid (fun hm => by
        have : qa.both q7 = qa.both q := by unfold QPA.both; rw [hqq.out.1]
        have := hszm.out ab (by rw [this]; exact hm); omega)
      have HABq : Hid (∀ w', Pq B W w' → Bk w' ab 87 x.vals) := Lib.hid (fun w' hk => hk.bk HAB.out (by decide))
      have HG : Hid (q7.g = q.g) := Lib.hid (own_g hqq.out.1)
      have HBO : Hid (qa.both q7 = qa.both q) := Lib.hid (by unfold QPA.both; rw [hqq.out.1])
      clear c0 c1 c2 c3 c4 c5 c6 hab h2 hszm hbl
      obtain ⟨c0, c1, c2, c3, c4, c5, c6⟩ := pact_bk7 HAB.out
      go_upto_block 2 with (fail)
      go_cut [] (fun W' => ∃ (a8 : KA) (q8 : QA) (k8 : KS) (D8 : DP), Hid (a8.g = a.g ∧ a8.bT = a.bT) ∧ Hid (q8.own = q.own ∧ q8.bM = q.bM ∧ q8.bD = q.bD) ∧ Hid (P2 w W' B a8 pa B2 q8 qa k8 D8 (i + 1)))
      case first =>
        by_cases e0 : x.k = 0
        · as_aux_lemma =>
          have f0 : (x.k == 0) = true := by simp [e0]
          clear e0
          obtain ⟨en, hen⟩ : ∃ a : Nat, x.ev = a := ⟨x.ev.toNat, by have := HX.out.1.e0; omega⟩
          obtain ⟨on, hon⟩ : ∃ a : Nat, x.od = a := ⟨x.od.toNat, by have := HX.out.1.o0; omega⟩
          have HB5 : Hid (en ≤ 1073741824 ∧ on ≤ 1073741824) := Lib.hid (by have := HX.out.1.e1; have := HX.out.1.o1; omega)
          rw [hen] at c3
          rw [hon] at c4
          have HNum : Hid (∀ (R : Ending → World → Prop) (w1 : World), (∀ w', Kp [] w1 w' → R (.returned (.complex .f64 (fl en) (fl on))) w') → Calls Tryz.prog 25 #[.agg #[.int .i64 en, .int .i64 on]] w1 R) := Lib.hid (fun R w1 h => num01f_any en on h)
          have HGet : Hid (∀ (R : Ending → World → Prop) (w1 : World), Kp [] W w1 → (∀ f e w' a', Hid (Pq B W w') → Hid (a'.g = a.g ∧ a'.bT = a.bT) → Hid (Nxt w B a' pa B2 q7 qa (i + 1) w' 26 #[.pointer (some ⟨qa.g, 0, none⟩), .int .i64 x.a, .int .i64 x.b, .agg #[.int .i64 en, .int .i64 on]] (.tuple #[.int .i64 f, .int .i64 e])) → R (.returned (.tuple #[.int .i64 f, .int .i64 e])) w') → Calls Tryz.prog 24 #[.pointer (some ⟨pa.g, 0, none⟩), .int .i64 x.a, .int .i64 x.b, .complex .f64 (fl en) (fl on)] w1 R) := Lib.hid (fun R w1 k1 h => by
            have := p2_get (R := R) (PW.out.kp0 k1) (by omega) x.a x.b en on (by omega) (by have := HB5.out; omega) (by omega) (by have := HB5.out; omega) (fun f e w' a' hk e1 e2 hn => h f e w' a' (Lib.hid ((Pq.of0 k1).trans hk)) (Lib.hid ⟨e1.trans hga.out.1, e2.trans hga.out.2⟩) hn)
            simpa only [Int.toNat_natCast] using this)
          have HS : Hid (∀ w', Pq B W w' → w'.cell? ⟨ab, 1, none⟩ = some (.int .i64 x.a) ∧ w'.cell? ⟨ab, 2, none⟩ = some (.int .i64 x.b) ∧ w'.cell? ⟨ab, 3, none⟩ = some (.int .i64 en) ∧ w'.cell? ⟨ab, 4, none⟩ = some (.int .i64 on)) := Lib.hid (fun w' hk => by
            obtain ⟨_, d1, d2, d3, d4, _, _⟩ := pact_bk7 (HABq.out w' hk)
            rw [hen] at d3; rw [hon] at d4
            exact ⟨d1, d2, d3, d4⟩)
          clear c0 c5 c6 hen hon
          go_upto_region 19 with (fail)
          go_cut [14, 15] (fun fv ev W' => ∃ (f e : Int) (a8 : KA), fv = .int .i64 f ∧ ev = .int .i64 e ∧ Hid (Pq B W W') ∧ Hid (a8.g = a.g ∧ a8.bT = a.bT) ∧ Hid (Nxt w B a8 pa B2 q7 qa (i + 1) W' 26 #[.pointer (some ⟨qa.g, 0, none⟩), .int .i64 x.a, .int .i64 x.b, .agg #[.int .i64 en, .int .i64 on]] (.tuple #[.int .i64 f, .int .i64 e])))
          case first =>
            go_region_held_law (fun w' => w'.cell? ⟨ab, 1, none⟩ = some (.int .i64 x.a) ∧ w'.cell? ⟨ab, 2, none⟩ = some (.int .i64 x.b) ∧ w'.cell? ⟨ab, 3, none⟩ = some (.int .i64 en) ∧ w'.cell? ⟨ab, 4, none⟩ = some (.int .i64 on)) ((refine HS.out _ ?_; repeat (first | with_reducible exact kq9 | with_reducible exact Pq.refl _ _ | with_reducible refine Pq.drw ?_))) (first | (go_simp; go_at_call 25; ((refine HNum.out _ _ ?_); intro w8 k8; have kk8 : Kp [] W w8 := (Kp.refl [] W).drew.trans k8; have kq9 : Pq B W w8 := Pq.of0 kk8)) | (go_simp; go_at_call 24; ((refine HGet.out _ _ kk8 ?_); intro f e w9 a9 hq9 hg9 hn9; have kq9 : Pq B W w9 := hq9.out)))
            all_goals
              go_wp2_with fail
              go_meet
              exact ⟨f, e, a9, rfl, rfl, hq9, hg9, hn9⟩
          case rest =>
            obtain ⟨f, e, a8, rfl, rfl, hq8, hg8, hn8⟩ := hcut
            obtain ⟨d1, d2, d3, d4⟩ := HS.out _ hq8.out
            clear c1 c2 c3 c4 HNum HGet HS
            go_upto_region 21 with (go_at_call 26; ((refine hn8.out _ _ (Kp.refl _ _) ?_); intro w6 q9 k9 D9 h9 ho9 hm9 hd9 kk9))
            have H9 := Lib.hid h9
            have HQ9 := Lib.hid (show q9.own = q.own ∧ q9.bM = q.bM ∧ q9.bD = q.bD from ⟨ho9.trans hqq.out.1, hm9.trans hqq.out.2.1, hd9.trans hqq.out.2.2⟩)
            clear d1 d2 d3 d4 h9 hn8 kk9 ho9 hm9 hd9
            go_wp2
            go_meet
            exact ⟨a8, q9, k9, D9, hg8, HQ9, H9⟩
        have f0 : (x.k == 0) = false := by simpa using e0
        by_cases e1 : x.k = 1
        · as_aux_lemma =>
          have f1 : (x.k == 1) = true := by simp [e1]
          clear e0 e1
          obtain ⟨bw, cw, hcs, hcw, hbk, hbr⟩ := convQ x.s
          have hsz := HX.out.1.s
          have HHead : Hid (∀ (R : Ending → World → Prop), (∀ f e w' a', Hid (Pq B W w') → Hid (a'.g = a.g ∧ a'.bT = a.bT) → Hid (Nxt w B a' pa B2 q7 qa (i + 1) w' 28 #[.pointer (some ⟨qa.g, 0, none⟩), .string x.s] (.tuple #[.int .i64 f, .int .i64 e])) → R (.returned (.tuple #[.int .i64 f, .int .i64 e])) w') → Calls Tryz.prog 27 #[.pointer (some ⟨pa.g, 0, none⟩), .slice (some ⟨W.heap.size, 0, none⟩) x.s.size (cw W)] (bw W) R) := Lib.hid (fun R h => p2_head (PW.out.kp0 (hbk [] W W (Kp.refl _ _))) (by omega) x.s (hbr W _ rfl) rfl (by omega) (fun e => by cases e) (fun f e w' a' hk e1 e2 hn => h f e w' a' (Lib.hid ((Pq.of0 (hbk [] W W (Kp.refl _ _))).trans hk)) (Lib.hid ⟨e1.trans hga.out.1, e2.trans hga.out.2⟩) hn))
          clear hbk hbr hcw c0 c1 c2 c3 c4 c6
          go_upto_region 25 with (go_at_call 27; ((with_reducible refine HHead.out _ ?_); intro f e w9 a9 hq9 hg9 hn9))
          obtain ⟨_, _, _, _, _, d5, _⟩ := pact_bk7 (HABq.out _ hq9.out)
          clear c5 HHead hcs
          go_upto_region 26 with (go_at_call 28; ((refine hn9.out _ _ (Kp.refl _ _) ?_); intro w6 q9 k9 D9 h9 ho9 hm9 hd9 kk9))
          have H9 := Lib.hid h9
          have HQ9 := Lib.hid (show q9.own = q.own ∧ q9.bM = q.bM ∧ q9.bD = q.bD from ⟨ho9.trans hqq.out.1, hm9.trans hqq.out.2.1, hd9.trans hqq.out.2.2⟩)
          clear d5 h9 hn9 kk9 ho9 hm9 hd9
          go_wp2
          go_meet
          exact ⟨a9, q9, k9, D9, hg9, HQ9, H9⟩
        have f1 : (x.k == 1) = false := by simpa using e1
        by_cases e2 : x.k = 2
        · as_aux_lemma =>
          have f2 : (x.k == 2) = true := by simp [e2]
          clear e0 e1 e2
          have HPin : Hid (∀ (R : Ending → World → Prop) (w1 : World), Kp [] W w1 → (∀ e w', Hid (Pq B W w') → Hid (Nxt w B a7 pa B2 q7 qa (i + 1) w' 30 #[.pointer (some ⟨qa.g, 0, none⟩), .int .i64 x.a, (.int .i64 1)] (.int .i64 e)) → R (.returned (.int .i64 e)) w') → Calls Tryz.prog 29 #[.pointer (some ⟨pa.g, 0, none⟩), .int .i64 x.a] w1 R) := Lib.hid (fun R w1 k1 h => p2_pin (PW.out.kp0 k1) (by omega) x.a (fun e w' hk hn => h e w' (Lib.hid ((Pq.of0 k1).trans hk)) hn))
          have HS : Hid (∀ w', Pb B (qa.both q7) W w' → w'.cell? ⟨ab, 1, none⟩ = some (.int .i64 x.a)) := Lib.hid (fun w' hk => by
            obtain ⟨v, h1, h2⟩ := hk
            exact ((HABq.out v h1).kp h2 (by rw [HBO.out]; exact HNO.out)).cell 1)
          clear c0 c2 c3 c4 c5 c6
          go_upto_region 29 with (fail)
          go_region_held_law (fun w' => w'.cell? ⟨ab, 1, none⟩ = some (.int .i64 x.a)) ((refine HS.out _ ?_; repeat (first | with_reducible exact kb9 | with_reducible exact Pb.refl _ _ _ | with_reducible refine Pb.drw ?_))) (first | (go_simp; go_at_call 29; ((refine HPin.out _ _ (Kp.refl [] W).drew ?_); intro e w9 hq9 hn9; have kb9 : Pb B (qa.both q7) W w9 := ⟨w9, hq9.out, Kp.refl _ _⟩)) | (go_simp; go_at_call 30; ((refine hn9.out _ _ (Kp.refl _ _) ?_); intro w6 q9 k9 D9 h9 ho9 hm9 hd9 kk9; have H9 := Lib.hid h9; clear h9; have kb9 : Pb B (qa.both q7) W w6 := ⟨w9, hq9.out, kk9⟩)))
          all_goals
            have HQ9 := Lib.hid (show q9.own = q.own ∧ q9.bM = q.bM ∧ q9.bD = q.bD from ⟨ho9.trans hqq.out.1, hm9.trans hqq.out.2.1, hd9.trans hqq.out.2.2⟩)
            clear c1 hn9 kk9 kb9 ho9 hm9 hd9 HPin HS
            go_wp2
            go_meet
            exact ⟨a7, q9, k9, D9, hga, HQ9, H9⟩
        have f2 : (x.k == 2) = false := by simpa using e2
        by_cases e3 : x.k = 3
        · as_aux_lemma =>
          have f3 : (x.k == 3) = true := by simp [e3]
          clear e0 e1 e2 e3
          have HPin : Hid (∀ (R : Ending → World → Prop) (w1 : World), Kp [] W w1 → (∀ e w', Hid (Pq B W w') → Hid (Nxt w B a7 pa B2 q7 qa (i + 1) w' 30 #[.pointer (some ⟨qa.g, 0, none⟩), .int .i64 x.a, (.int .i64 (-1))] (.int .i64 e)) → R (.returned (.int .i64 e)) w') → Calls Tryz.prog 31 #[.pointer (some ⟨pa.g, 0, none⟩), .int .i64 x.a] w1 R) := Lib.hid (fun R w1 k1 h => p2_unpin (PW.out.kp0 k1) (by omega) x.a (fun e w' hk hn => h e w' (Lib.hid ((Pq.of0 k1).trans hk)) hn))
          have HS : Hid (∀ w', Pb B (qa.both q7) W w' → w'.cell? ⟨ab, 1, none⟩ = some (.int .i64 x.a)) := Lib.hid (fun w' hk => by
            obtain ⟨v, h1, h2⟩ := hk
            exact ((HABq.out v h1).kp h2 (by rw [HBO.out]; exact HNO.out)).cell 1)
          clear c0 c2 c3 c4 c5 c6
          go_upto_region 32 with (fail)
          go_region_held_law (fun w' => w'.cell? ⟨ab, 1, none⟩ = some (.int .i64 x.a)) ((refine HS.out _ ?_; repeat (first | with_reducible exact kb9 | with_reducible exact Pb.refl _ _ _ | with_reducible refine Pb.drw ?_))) (first | (go_simp; go_at_call 31; ((refine HPin.out _ _ (Kp.refl [] W).drew ?_); intro e w9 hq9 hn9; have kb9 : Pb B (qa.both q7) W w9 := ⟨w9, hq9.out, Kp.refl _ _⟩)) | (go_simp; go_at_call 30; ((refine hn9.out _ _ (Kp.refl _ _) ?_); intro w6 q9 k9 D9 h9 ho9 hm9 hd9 kk9; have H9 := Lib.hid h9; clear h9; have kb9 : Pb B (qa.both q7) W w6 := ⟨w9, hq9.out, kk9⟩)))
          all_goals
            have HQ9 := Lib.hid (show q9.own = q.own ∧ q9.bM = q.bM ∧ q9.bD = q.bD from ⟨ho9.trans hqq.out.1, hm9.trans hqq.out.2.1, hd9.trans hqq.out.2.2⟩)
            clear c1 hn9 kk9 kb9 ho9 hm9 hd9 HPin HS
            go_wp2
            go_meet
            exact ⟨a7, q9, k9, D9, hga, HQ9, H9⟩
        have f3 : (x.k == 3) = false := by simpa using e3
        by_cases e4 : x.k = 4
        · as_aux_lemma =>
          have f4 : (x.k == 4) = true := by simp [e4]
          clear e0 e1 e2 e3 e4
          have hsm : ∀ s ∈ qa.both q7, s < W.heap.size := PW.out.out
          have HSM := Lib.hid hsm
          have HF : Hid (∀ (R : Ending → World → Prop) (w1 : World) (A2 : Option Addr) (c2 : Nat), Kp [] W w1 → Tb w1 3 A2 (ints [x.a, x.b]) → (∀ w', Hid (Pq B W w') → Hid (∀ (R : Ending → World → Prop) (w1 : World) (A2 : Option Addr) (c2 : Nat), Kp [] w' w1 → Rd w1 (qa.both q7) A2 (ints [x.a, x.b]) → (∀ w2 D2, P2 w w2 B a7 pa B2 q7 qa k7 D2 i → Kp (qa.both q7) w1 w2 → R (.returned (.tuple #[])) w2) → Calls Tryz.prog 33 #[.pointer (some ⟨qa.g, 0, none⟩), .slice A2 2 c2] w1 R) → R (.returned (.tuple #[])) w') → Calls Tryz.prog 32 #[.pointer (some ⟨pa.g, 0, none⟩), .slice A2 2 c2] w1 R) := Lib.hid (fun R w1 A2 c2 k1 ht h => p2_forget (PW.out.kp0 k1) ht rfl (by omega) (fun w' hk hn => h w' (Lib.hid ((Pq.of0 k1).trans hk)) (Lib.hid hn)))
          clear c0 c3 c4 c5 c6 hsm
          go_upto_region 36 with (go_at_call 32; ((refine HF.out _ _ _ _ ((Kp.refl _ _).alloc _) ((Ow.lit _ _ 1 #[.int .i64 x.a, .int .i64 x.b] 2 (by decide) rfl).cast rfl rfl).tb ?_); intro w9 hq9 hn9))
          obtain ⟨_, d1, d2, _, _, _, _⟩ := pact_bk7 (HABq.out _ hq9.out)
          clear c1 c2 HF
          go_wp2_with (go_at_call 33; ((refine hn9.out _ _ _ _ ((Kp.refl _ _).alloc _) (Rd.of_bk ((Bk.newAt rfl _ _).cast rfl) (fun hm => by have := HSM.out _ hm; have := hq9.out.size; omega)) ?_); intro w6 D9 h9 kk9))
          have H9 := Lib.hid (h9.mono (Nat.le_succ _))
          clear d1 d2 hn9 kk9 h9
          go_meet
          exact ⟨a7, q7, k7, D9, hga, hqq, H9⟩
        have f4 : (x.k == 4) = false := by simpa using e4
        by_cases e5 : x.k = 5
        · as_aux_lemma =>
          have f5 : (x.k == 5) = true := by simp [e5]
          clear e0 e1 e2 e3 e4 e5
          have hxl := HX.out.2.l
          have hln := HX.out.1.l
          have HOf : Hid (∀ (R : Ending → World → Prop), (∀ A' c' w', Kp [] W w' → Hid (Tb w' 187 A' (x.l.l.flatMap Pc.vals)) → R (.returned (.slice A' x.l.n c')) w') → Calls Tryz.prog 35 #[.slice x.l.A x.l.n x.l.c] W R) := Lib.hid (fun R h => of_any (hxl.rd.kp PW.out.qk.qn.old (by simp)) hxl.len (by omega) (fun A' c' w' k o f => h A' c' w' k (Lib.hid o.tb)))
          have HPart : Hid (∀ (R : Ending → World → Prop) (w1 : World) (A' : Option Addr) (c' : Nat), Kp [] W w1 → Hid (Tb w1 187 A' (x.l.l.flatMap Pc.vals)) → (∀ z1 z2 e w' a', Hid (Pq B W w') → Hid (a'.g = a.g ∧ a'.bT = a.bT) → Hid (z1 < 2 ^ 53 ∧ z2 < 2 ^ 53) → Hid (Nxt w B a' pa B2 q7 qa i w' 36 #[.pointer (some ⟨qa.g, 0, none⟩), .slice x.l.A x.l.n x.l.c] (.tuple #[.agg #[.int .i64 (z1 : Nat), .int .i64 (z2 : Nat)], .int .i64 e])) → R (.returned (.tuple #[.complex .f64 (fl z1) (fl z2), .int .i64 e])) w') → Calls Tryz.prog 34 #[.pointer (some ⟨pa.g, 0, none⟩), .slice A' x.l.n c'] w1 R) := Lib.hid (fun R w1 A' c' k1 ht h => p2_part (PW.out.kp0 k1) (by omega) ht.out hxl.len (by omega) hxl.all hxl.rd (fun z1 z2 e w' a' hk e1 e2 b1 b2 hn => h z1 z2 e w' a' (Lib.hid ((Pq.of0 k1).trans hk)) (Lib.hid ⟨e1.trans hga.out.1, e2.trans hga.out.2⟩) (Lib.hid ⟨b1, b2⟩) hn))
          clear c0 c1 c2 c3 c4 c5 hxl hln
          go_upto_region 39 with (first | (go_at_call 35; ((refine HOf.out _ ?_); intro A5 c5 w5 k5 t5)) | (go_at_call 34; ((refine HPart.out _ _ _ _ k5 t5 ?_); intro z1 z2 e w9 a9 hq9 hg9 hz9 hn9)))
          obtain ⟨_, _, _, _, _, _, d6⟩ := pact_bk7 (HABq.out _ hq9.out)
          clear c6 HOf HPart t5 k5
          go_upto_region 40 with (go_at_call 36; ((refine hn9.out _ _ (Kp.refl _ _) ?_); intro w6 q9 k9 D9 h9 ho9 hm9 hd9 kk9))
          refine genV (fun W' => ∃ zb, w6.heap.size = zb ∧ Hid (Kp [] w6 W' ∧ Bk W' zb 85 [.int .i64 z1, .int .i64 z2])) ⟨_, rfl, Lib.hid ⟨(Kp.refl _ _).alloc _, (Bk.new' _ _ _).cast rfl⟩⟩ ?_
          rintro W6 ⟨zb, hzb, hW6⟩
          rw [hzb]
          have H9 := Lib.hid ((h9.kp0 hW6.out.1).mono (Nat.le_succ _))
          have HQ9 := Lib.hid (show q9.own = q.own ∧ q9.bM = q.bM ∧ q9.bD = q.bD from ⟨ho9.trans hqq.out.1, hm9.trans hqq.out.2.1, hd9.trans hqq.out.2.2⟩)
          have s0 : W6.cell? ⟨zb, 0, none⟩ = some (.int .i64 z1) := hW6.out.2.cell 0
          have s1 : W6.cell? ⟨zb, 1, none⟩ = some (.int .i64 z2) := hW6.out.2.cell 1
          have o1 := ord_self (n := z1) hz9.out.1
          have o2 := ord_self (n := z2) hz9.out.2
          have HNum : Hid (∀ (R : Ending → World → Prop) (w1 : World), (∀ w', Kp [] w1 w' → R (.returned (.complex .f64 (fl z1) (fl z2))) w') → Calls Tryz.prog 25 #[.agg #[.int .i64 z1, .int .i64 z2]] w1 R) := Lib.hid (fun R w1 h => num01f_any z1 z2 h)
          clear d6 h9 hn9 kk9 ho9 hm9 hd9 hzb hW6
          go_wp2_with (go_at_call 25; ((refine HNum.out _ _ ?_); intro w8 k8))
          go_meet
          exact ⟨a9, q9, k9, D9, hg9, HQ9, Lib.hid (H9.out.kp0 k8)⟩
        have f5 : (x.k == 5) = false := by simpa using e5
        by_cases e6 : x.k = 6
        · as_aux_lemma =>
          have f6 : (x.k == 6) = true := by simp [e6]
          clear e0 e1 e2 e3 e4 e5 e6
          have hxl := HX.out.2.l
          have hln := HX.out.1.l
          have HOf : Hid (∀ (R : Ending → World → Prop), (∀ A' c' w', Kp [] W w' → Hid (Ow w' 187 3 A' x.l.n c' (x.l.l.flatMap Pc.vals)) → R (.returned (.slice A' x.l.n c')) w') → Calls Tryz.prog 35 #[.slice x.l.A x.l.n x.l.c] W R) := Lib.hid (fun R h => of_any (hxl.rd.kp PW.out.qk.qn.old (by simp)) hxl.len (by omega) (fun A' c' w' k o f => h A' c' w' k (Lib.hid o)))
          have HCall : Hid (∀ (R : Ending → World → Prop) (w1 : World) (A' : Option Addr) (c' : Nat), Kp [] W w1 → Hid (Ow w1 187 3 A' x.l.n c' (x.l.l.flatMap Pc.vals)) → (∀ nn AA len cc ll e w' a', Hid (Pq B W w') → Hid (a'.g = a.g ∧ a'.bT = a.bT) → Hid (Nxt w B a' pa B2 q7 qa (i + 1) w' 11 #[.pointer (some ⟨q.g, 0, none⟩), .agg #[.int .i64 11, .int .i64 1, .int .i64 0, .int .i64 0, .int .i64 0, .string ⟨#[]⟩, .slice none 0 0, .slice x.l.A x.l.n x.l.c]] (.tuple #[.int .i64 nn, .string (S ll), .int .i64 e])) → R (.returned (.tuple #[.agg #[.int .i64 nn, .slice AA len cc], .int .i64 e])) w') → Calls Tryz.prog 9 #[.pointer (some ⟨a.g, 0, none⟩), .agg #[.int .i64 11, .int .i64 1, .int .i64 0, .int .i64 0, .int .i64 0, .slice none 0 0, .slice none 0 0, .slice A' x.l.n c']] w1 R) := Lib.hid (fun R w1 A' c' k1 o h => by
            rw [← hga.out.1]
            refine p2_call (PW.out.kp0 k1) (by omega) (⟨11, 1, 0, 0, 0, ⟨#[]⟩, ⟨none, 0, 0, []⟩, x.l⟩ : Cl) ⟨by simp [Rd], rfl, by simp, by simp, hxl.rd, hxl.len, (by show x.l.n ≤ _; omega), hxl.all⟩ (by unfold i64B; simp) (.inr rfl) (A5 := none) (c5 := 0) (A6 := none) (c6 := 0) ⟨Tb.nil, rfl, by show 0 ≤ _; omega, fun _ => ⟨rfl, rfl⟩, Tb.nil, rfl, by show 0 ≤ _; omega, fun _ => ⟨rfl, rfl⟩, by simp, o.out.tb, hxl.len, (by show x.l.n ≤ _; omega), fun e => o.out.nilA e, hxl.all⟩ (fun nn AA len cc ll e w' a' hk e1 e2 hn => ?_)
            rw [HG.out] at hn
            exact h nn AA len cc ll e w' a' (Lib.hid ((Pq.of0 k1).trans hk)) (Lib.hid ⟨e1.trans hga.out.1, e2.trans hga.out.2⟩) hn)
          clear c0 c1 c2 c3 c4 c5 hxl hln
          go_upto_region 44 with (first | (go_at_call 35; ((refine HOf.out _ ?_); intro A5 c5 w5 k5 t5)) | (go_at_call 9; ((refine HCall.out _ _ _ _ k5 t5 ?_); intro nn AA len cc ll e w9 a9 hq9 hg9 hn9)))
          refine genV (fun W' => Hid (Kp [] w9 W')) (Lib.hid ((Kp.refl _ _).alloc _)) ?_
          intro W9 hW9
          obtain ⟨_, _, _, _, _, _, d6⟩ := pact_bk7 ((HABq.out _ hq9.out).kp hW9.out (by simp))
          clear c6 HOf HCall t5 k5
          go_upto_region 45 with (go_at_call 11; ((refine hn9.out _ _ hW9.out ?_); intro w6 q9 k9 D9 h9 ho9 hm9 hd9 kk9))
          have H9 := Lib.hid h9
          have HQ9 := Lib.hid (show q9.own = q.own ∧ q9.bM = q.bM ∧ q9.bD = q.bD from ⟨ho9.trans hqq.out.1, hm9.trans hqq.out.2.1, hd9.trans hqq.out.2.2⟩)
          clear d6 h9 hn9 kk9 ho9 hm9 hd9
          go_wp2
          go_meet
          exact ⟨a9, q9, k9, D9, hg9, HQ9, H9⟩
        have f6 : (x.k == 6) = false := by simpa using e6
        by_cases e7 : x.k = 7
        · as_aux_lemma =>
          have f7 : (x.k == 7) = true := by simp [e7]
          clear e0 e1 e2 e3 e4 e5 e6 e7
          have HDp : Hid (∀ (R : Ending → World → Prop), (∀ AA len cc ll env e w' a', Hid (Pq B W w') → Hid (a'.g = a.g ∧ a'.bT = a.bT) → Hid (Nxt w B a' pa B2 q7 qa (i + 1) w' 15 #[.pointer (some ⟨q.g, 0, none⟩)] (.tuple #[.string (S ll), .int .i64 env, .int .i64 e])) → R (.returned (.tuple #[.slice AA len cc, .int .i64 env, .int .i64 e])) w') → Calls Tryz.prog 14 #[.pointer (some ⟨a.g, 0, none⟩)] W R) := Lib.hid (fun R h => by
            rw [← hga.out.1]
            refine p2_dep PW.out (by omega) (fun AA len cc ll env e w' a' hk e1 e2 hn => ?_)
            rw [HG.out] at hn
            exact h AA len cc ll env e w' a' (Lib.hid hk) (Lib.hid ⟨e1.trans hga.out.1, e2.trans hga.out.2⟩) hn)
          clear c0 c1 c2 c3 c4 c5 c6
          go_upto_region 49 with (go_at_call 14; ((refine HDp.out _ ?_); intro AA len cc ll env e w9 a9 hq9 hg9 hn9))
          clear HDp
          go_wp2_with (go_at_call 15; ((refine hn9.out _ _ (Kp.refl _ _) ?_); intro w6 q9 k9 D9 h9 ho9 hm9 hd9 kk9))
          have H9 := Lib.hid h9
          have HQ9 := Lib.hid (show q9.own = q.own ∧ q9.bM = q.bM ∧ q9.bD = q.bD from ⟨ho9.trans hqq.out.1, hm9.trans hqq.out.2.1, hd9.trans hqq.out.2.2⟩)
          clear h9 hn9 kk9 ho9 hm9 hd9
          go_meet
          exact ⟨a9, q9, k9, D9, hg9, HQ9, H9⟩
        have f7 : (x.k == 7) = false := by simpa using e7
        by_cases e8 : x.k = 8
        · as_aux_lemma =>
          have f8 : (x.k == 8) = true := by simp [e8]
          clear e0 e1 e2 e3 e4 e5 e6 e7 e8
          obtain ⟨sd, hsd⟩ : ∃ sd : Int, IntKind.u8.wrap (x.s.size : Int) = sd := ⟨_, rfl⟩
          have HSz : Hid (0 ≤ sd ∧ sd ≤ 255) := Lib.hid (by rw [← hsd]; simp [IntKind.wrap, IntKind.signed, IntKind.bits]; omega)
          have HFill : Hid (∀ (R : Ending → World → Prop) (w1 : World), (∀ s w', Kp [] w1 w' → s.size = 256 → R (.returned (.string s)) w') → Calls Tryz.prog 37 #[.int .u8 sd, .int .i64 256] w1 R) := Lib.hid (fun R w1 h => fill_any sd HSz.out.1 HSz.out.2 h)
          have HC7 : Hid (∀ (R : Ending → World → Prop) (w1 : World) (z : ByteArray) (g c5 : Nat), Kp [] W w1 → z.size = 256 → Tb w1 5 (some ⟨g, 0, none⟩) (bts z.data.toList) → (∀ nn AA len cc ll e w' a', Hid (Pq B W w') → Hid (a'.g = a.g ∧ a'.bT = a.bT) → Hid (Nxt w B a' pa B2 q7 qa (i + 1) w' 11 #[.pointer (some ⟨q.g, 0, none⟩), .agg #[.int .i64 7, .int .i64 1, .int .i64 x.a, .int .i64 0, .int .i64 0, .string z, .slice none 0 0, .slice none 0 0]] (.tuple #[.int .i64 nn, .string (S ll), .int .i64 e])) → R (.returned (.tuple #[.agg #[.int .i64 nn, .slice AA len cc], .int .i64 e])) w') → Calls Tryz.prog 9 #[.pointer (some ⟨a.g, 0, none⟩), .agg #[.int .i64 7, .int .i64 1, .int .i64 x.a, .int .i64 0, .int .i64 0, .slice (some ⟨g, 0, none⟩) 256 c5, .slice none 0 0, .slice none 0 0]] w1 R) := Lib.hid (fun R w1 z g c5 k1 hz ht h => by
            rw [← hga.out.1, ← hz]
            refine p2_call (PW.out.kp0 k1) (by omega) (⟨7, 1, x.a, 0, 0, z, ⟨none, 0, 0, []⟩, ⟨none, 0, 0, []⟩⟩ : Cl) ⟨by simp [Rd], rfl, by simp, by simp, by simp [Rd], rfl, by simp, by simp⟩ (by unfold i64B; simp) (.inl rfl) (A6 := none) (c6 := 0) (A7 := none) (c7 := 0) ⟨ht, Array.length_toList, (by show z.size ≤ _; omega), (fun e => by cases e), Tb.nil, rfl, by show 0 ≤ _; omega, fun _ => ⟨rfl, rfl⟩, by simp, Tb.nil, rfl, by show 0 ≤ _; omega, fun _ => ⟨rfl, rfl⟩, by simp⟩ (fun nn AA len cc ll e w' a' hk e1 e2 hn => ?_)
            rw [HG.out] at hn
            exact h nn AA len cc ll e w' a' (Lib.hid ((Pq.of0 k1).trans hk)) (Lib.hid ⟨e1.trans hga.out.1, e2.trans hga.out.2⟩) hn)
          clear c0 c1 c2 c3 c4 c6
          go_upto_region 52 with (go_at_call 37; ((refine HFill.out _ _ ?_); intro z w5 k5 hz5))
          obtain ⟨_, d1, _, _, _, _, _⟩ := pact_bk7 (HAB.out.kp k5 (by simp))
          obtain ⟨bw, cw, hcs, _, hbk, hbr⟩ := convQ z
          have kbw := hbk [] W w5 k5
          have HC72 : Hid (∀ (R : Ending → World → Prop), (∀ nn AA len cc ll e w' a', Hid (Pq B W w') → Hid (a'.g = a.g ∧ a'.bT = a.bT) → Hid (Nxt w B a' pa B2 q7 qa (i + 1) w' 11 #[.pointer (some ⟨q.g, 0, none⟩), .agg #[.int .i64 7, .int .i64 1, .int .i64 x.a, .int .i64 0, .int .i64 0, .string z, .slice none 0 0, .slice none 0 0]] (.tuple #[.int .i64 nn, .string (S ll), .int .i64 e])) → R (.returned (.tuple #[.agg #[.int .i64 nn, .slice AA len cc], .int .i64 e])) w') → Calls Tryz.prog 9 #[.pointer (some ⟨a.g, 0, none⟩), .agg #[.int .i64 7, .int .i64 1, .int .i64 x.a, .int .i64 0, .int .i64 0, .slice (some ⟨w5.heap.size, 0, none⟩) 256 (cw w5), .slice none 0 0, .slice none 0 0]] (bw w5) R) := Lib.hid (fun R h => HC7.out R (bw w5) z _ _ kbw hz5 (hbr w5 _ rfl) h)
          rw [hz5] at hcs
          clear hbk hbr kbw c5 HC7 hsd HFill
          go_upto_region 53 with (go_at_call 9; ((with_reducible refine HC72.out _ ?_); intro nn AA len cc ll e w9 a9 hq9 hg9 hn9))
          obtain ⟨_, y1, _, _, _, _, _⟩ := pact_bk7 (HABq.out _ hq9.out)
          clear d1 hcs HC72
          go_wp2_with (go_at_call 11; ((refine hn9.out _ _ (Kp.refl _ _) ?_); intro w6 q9 k9 D9 h9 ho9 hm9 hd9 kk9))
          have H9 := Lib.hid h9
          have HQ9 := Lib.hid (show q9.own = q.own ∧ q9.bM = q.bM ∧ q9.bD = q.bD from ⟨ho9.trans hqq.out.1, hm9.trans hqq.out.2.1, hd9.trans hqq.out.2.2⟩)
          clear y1 h9 hn9 kk9 ho9 hm9 hd9
          go_meet
          exact ⟨a9, q9, k9, D9, hg9, HQ9, H9⟩
        have f8 : (x.k == 8) = false := by simpa using e8
        clear e0 e1 e2 e3 e4 e5 e6 e7 e8
        go_wp2
        go_meet
        exact ⟨a7, q7, k7, D7, hga, hqq, Lib.hid (PW.out.mono (Nat.le_succ _))⟩
      case rest =>
        obtain ⟨a8, q8, k8, D8, hga8, hqq8, h8⟩ := hcut
        clear c0 c1 c2 c3 c4 c5 c6 HABq HAB PW HX
        obtain ⟨HT, HSh, hC⟩ := ts_facts h8.out.kp.kn h8.out.qk.qn h8.out.ki.o
        rw [hga8.out.1, hga8.out.2] at HT
        rw [hga8.out.2, hqq8.out.2.1] at HSh
        rw [own_g hqq8.out.1, hqq8.out.2.1] at hC
        have HT := Lib.hid HT
        have HSh := Lib.hid HSh
        have hC0 := hC _ (Kp.refl _ _)
        have HS13 : Hid (∀ (R : Ending → World → Prop) (w1 : World), Kp [] wc w1 → (∀ w', Kp [] w1 w' → R (.returned (.bool true)) w') → Calls Tryz.prog 38 #[.pointer (some ⟨pa.g, 0, none⟩), .pointer (some ⟨qa.g, 0, none⟩)] w1 R) := Lib.hid (fun R w1 k1 h => shows13_any (h8.out.kp.off0 k1) (h8.out.qk.kp k1) h)
        clear hC
        go_upto_region 54 with (fail)
        refine wp_region_kp (by kernel_rfl) (by kernel_rfl) ?_
        repeat (go_big_quiet_step (first | (go_at_call 38; (refine HS13.out _ _ (kpw_kp _ _) (fun w9 k9 => ?_); exact kpx_mk k9)) | (go_at_call 17; (refine HT.out _ _ (kpw_kp _ _) ?_; exact kpx_mk (Kp.refl _ _))) | (go_at_call 16; (refine HSh.out _ _ (kpw_kp _ _) (fun w9 k9 => ?_); exact kpx_mk k9))))
        refine wpQuiet_nil ?_
        intro w9 k9
        go_wp2
        exact ⟨⟨i + 1, a8, q8, k8, D8, by omega, by go_num, hga8, hqq8, Lib.hid (h8.out.kp0 k9)⟩, by simp [intOf]; omega⟩
    · obtain rfl : i = n := by omega
      have HH := H.out wr h2.out.qk.qn.old
      clear H h2
      go_wp2
      exact HH
end
end
end Go.Proofs.YtedblbpmlbjnhaaGreat
