/- The document's pool: Head. The document's pool: Get as the program's. A pin more or less: the program's pool and the document's. -/
import Derived.Test.YtedblbpmlbjnhaaGreatPE40
import Derived.Test.YtedblbpmlbjnhaaGreatPE44
import Derived.Deep.RegionHeldLaw
import Derived.BigRegion
namespace Go.Proofs.YtedblbpmlbjnhaaGreat
/-! ### The document's pool: Head. -/
section
open Go.RowKit Go.Shelf
set_option linter.unusedVariables false
set_option linter.unusedSimpArgs false
set_option maxRecDepth 100000
section
variable {R : Ending → World → Prop} {w0 w w' : World} {B m : Nat} {q q' : QA} {k k' : KS} {qa : QPA} {D : DP}
theorem qhead_long (s : ByteArray) (hn : 256 < s.size) (h : R (.returned (.tuple #[.int .i64 0, .int .i64 2])) w) : Calls Tryz.prog 28 #[.pointer (some ⟨qa.g, 0, none⟩), .string s] w R := by
  have H := Lib.hid h
  clear h
  go_enter Tryz.func28, Tryz.ntmps28
  go_wp2
  exact H.out
theorem qhead_none (h0 : QKP w0 B w q k qa D) (s : ByteArray) (hn : s.size ≤ 256) (ht : (dTake k D).1 = none)
    (h : ∀ w', Kp (qa.both q) w w' → QKP w0 B w' q k qa (dTake k D).2 → R (.returned (.tuple #[.int .i64 0, .int .i64 80])) w') : Calls Tryz.prog 28 #[.pointer (some ⟨qa.g, 0, none⟩), .string s] w R := by
  have H := Lib.hid h
  have HT : Hid (∀ (R : Ending → World → Prop) (w1 : World), Kp [] w w1 → (∀ w', Kp (qa.both q) w1 w' → QKP w0 B w' q k qa (dTake k D).2 → R (.returned (.int .i64 (-1))) w') → Calls Tryz.prog 79 #[.pointer (some ⟨qa.g, 0, none⟩)] w1 R) := Lib.hid (fun R w1 k1 h => qtake_any (h0.kp k1) (fun w' kk z => by rw [ht]; exact h w' kk z))
  clear h h0 ht
  go_enter Tryz.func28, Tryz.ntmps28
  go_wp2_with (go_at_call 79; ((refine HT.out _ _ (Kp.refl _ _) ?_); intro w5 k5 z5))
  exact H.out _ k5 z5
set_option maxHeartbeats 8000000 in
theorem qhead_ok (h0 : QKP w0 B w q k qa D) (hm : k.cnt m) (hm2 : m ≤ 10000) (hpg : ∀ y ∈ k.fs, y.bs.length = 256) (hr : k.qo.length ≤ 16) (s : ByteArray) (hn : s.size ≤ 256) {i1 : Nat} (ht : (dTake k D).1 = some i1) {d : DSl} (hd : (dTake k D).2.sl[i1]? = some d) (re im : Nat)
    (h : ∀ q' w', Kp (qa.both q) w w' → QKP w0 B w' q' { k with fs := (tWrite k.fs 1 d.x.f 0 s.data.toList).2 } qa { (dTake k D).2 with sl := (dTake k D).2.sl.set i1 ⟨⟨d.x.f, 2, d.x.bl, 1, s.size, re, im, d.x.ma⟩, (pr s.data.toList).1, (pr s.data.toList).2⟩ } → q'.own = q.own → q'.bM = q.bM ∧ q'.bD = q.bD → R (.returned (.tuple #[.int .i64 d.x.f, .int .i64 0])) w') :
    Calls Tryz.prog 28 #[.pointer (some ⟨qa.g, 0, none⟩), .string s] w R := by
  have hne : qa.g ≠ qa.l := h0.ql.ne
  have hne2 : qa.l ≠ qa.g := fun e => hne e.symm
  obtain ⟨D1, hD1⟩ : ∃ D1, (dTake k D).2 = D1 := ⟨_, rfl⟩
  obtain ⟨bs, hbs⟩ : ∃ bs, s.data.toList = bs := ⟨_, rfl⟩
  have hbl : bs.length = s.size := by rw [← hbs]; exact Array.length_toList
  have HT : Hid (∀ (R : Ending → World → Prop) (w1 : World), Kp [] w w1 → (∀ w', Kp (qa.both q) w1 w' → QKP w0 B w' q k qa D1 → R (.returned (.int .i64 i1)) w') → Calls Tryz.prog 79 #[.pointer (some ⟨qa.g, 0, none⟩)] w1 R) := Lib.hid (fun R w1 k1 h => qtake_any (h0.kp k1) (fun w' kk z => by rw [ht]; rw [hD1] at z; exact h w' kk z))
  have HW : Hid (∀ (R : Ending → World → Prop) (w1 : World), QKP w0 B w1 q k qa D1 → D1.sl[i1]? = some d → (∀ q' w', Hid (Kp (qa.both q) w1 w' ∧ QKP w0 B w' q' { k with fs := (tWrite k.fs 1 d.x.f 0 bs).2 } qa D1 ∧ q'.own = q.own ∧ q'.bM = q.bM ∧ q'.bD = q.bD) → R (.returned (.tuple #[])) w') → Calls Tryz.prog 80 #[.pointer (some ⟨qa.g, 0, none⟩), .int .i64 i1, .string s] w1 R) := Lib.hid (fun R w1 z hx h => by
    have es : s = S bs := by rw [← hbs]; rfl
    rw [es]
    exact qwrite_any z hm hm2 hpg hr hx bs (fun q' w' kk z2 ho hb => h q' w' (Lib.hid ⟨kk, z2, ho, hb.1, hb.2⟩)))
  obtain ⟨n, hsn⟩ : ∃ n, s.size = n := ⟨_, rfl⟩
  obtain ⟨bw, cw, hcs, _, hbk, hbr⟩ := conv_letter s
  rw [hbs] at h hbr
  rw [hD1] at h hd
  rw [hsn] at h hn hbl hcs
  have HOf : Hid (∀ (R : Ending → World → Prop) (V : World) (b : Nat), b = V.heap.size → (∀ w', Kp [] (bw V) w' → R (.returned (.agg #[.int .i64 (pr bs).1, .int .i64 (pr bs).2])) w') → Calls Tryz.prog 82 #[.slice (some ⟨b, 0, none⟩) n (cw V)] (bw V) R) := Lib.hid (fun R V b hb h => rof_any (hbr V b hb).rd0 hbl (by omega) h)
  obtain ⟨P, hP⟩ : ∃ P, pr bs = P := ⟨_, rfl⟩
  rw [hP] at h HOf
  have H := Lib.hid h
  have HD := Lib.hid hd
  have HBK : Hid (∀ (S : List Nat) (a w : World), Kp S a w → Kp S a (bw w)) := Lib.hid hbk
  obtain ⟨k2, hk2⟩ : ∃ k2 : KS, ({ k with fs := (tWrite k.fs 1 d.x.f 0 bs).2 } : KS) = k2 := ⟨_, rfl⟩
  rw [hk2] at HW H
  have hi1 := (List.getElem?_eq_some_iff.1 hd).1
  clear h h0 ht hm hpg hr hD1 hbs hd hk2 hP hbr hbk
  go_enter Tryz.func28, Tryz.ntmps28
  go_upto_region 6 with (go_at_call 79; ((refine HT.out _ _ (Kp.refl _ _) ?_); intro w5 k5 z5))
  have K5 := Lib.hid (And.intro k5 z5)
  clear k5 z5 HT
  go_upto_region 7 with (go_at_call 80; ((refine HW.out _ _ K5.out.2 HD.out ?_); intro q7 w7 h7))
  have e7 : Hid (q7.own = q.own ∧ q7.bM = q.bM ∧ q7.bD = q.bD) := Lib.hid h7.out.2.2
  have HBO7 : Hid (qa.both q7 = qa.both q) := Lib.hid (by unfold QPA.both; rw [e7.out.1])
  have K7 := Lib.hid (And.intro (K5.out.1.thn h7.out.1 (fun s h => .inl h)) h7.out.2.1)
  obtain ⟨c0, c1, c2, c3, c4, c5, c6, c7⟩ := K7.out.2.ql.cells HD.out
  have f9 := K7.out.2.ql.free
  have g1 : w7.cell? ⟨qa.g, 1, none⟩ = some (.slice (some ⟨qa.l, 0, none⟩) D1.sl.length qa.lc) := K7.out.2.ql.g.cell 1
  clear HW h7 K5
  go_upto_region 10 with (fail)
  refine genV (fun W => Hid (Kp (qa.both q) w W ∧ QKP w0 B W q7 k2 qa { D1 with sl := D1.sl.set i1 ⟨⟨d.x.f, 2, d.x.bl, 1, n, re, im, d.x.ma⟩, d.ev, d.od⟩ })) (by
    obtain ⟨u1, u2⟩ := K7.out
    have hi := (List.getElem?_eq_some_iff.1 HD.out).1
    have at_ : ∀ y : DSl, (D1.sl.set i1 y)[i1]? = some y := fun y => by simp [show i1 < D1.sl.length from hi]
    obtain ⟨⟨f', kd', bl', pi', n', re', im', ma'⟩, ev', od'⟩ := d
    obtain ⟨z1, v1⟩ := u2.put HD.out (x' := ⟨⟨f', 2, bl', pi', n', re', im', ma'⟩, ev', od'⟩) (j := 1) (v := .int .i64 2) (by omega) rfl rfl
    obtain ⟨z2, v2⟩ := z1.put (at_ _) (x' := ⟨⟨f', 2, bl', pi', n, re', im', ma'⟩, ev', od'⟩) (j := 4) (v := .int .i64 n) (by omega) rfl rfl
    simp only [List.set_set] at z2
    obtain ⟨z3, v3⟩ := z2.put (at_ _) (x' := ⟨⟨f', 2, bl', 1, n, re, im, ma'⟩, ev', od'⟩) (j := 3) (v := .int .i64 1) (by omega) rfl rfl
    simp only [List.set_set] at z3
    rw [HBO7.out] at v1 v2 v3
    exact Lib.hid ⟨((u1.thn v1 (fun s h => .inl h)).thn v2 (fun s h => .inl h)).thn v3 (fun s h => .inl h), z3⟩) ?_
  intro W4 hW4
  clear c0 c1 c2 c3 c4 c5 c6 c7 f9 g1 K7
  have hi4 : (D1.sl.set i1 ⟨⟨d.x.f, 2, d.x.bl, 1, n, re, im, d.x.ma⟩, d.ev, d.od⟩)[i1]? = some ⟨⟨d.x.f, 2, d.x.bl, 1, n, re, im, d.x.ma⟩, d.ev, d.od⟩ := by simp [hi1]
  have HX4 := Lib.hid hi4
  have HCE : Hid (∀ w', Kp [] W4 w' → w'.cell? ⟨qa.g, 1, none⟩ = some (.slice (some ⟨qa.l, 0, none⟩) D1.sl.length qa.lc) ∧ w'.cell? ⟨qa.l, i1 * 8 + 5, none⟩ = some (.int .i64 d.ev) ∧ w'.cell? ⟨qa.l, i1 * 8 + 6, none⟩ = some (.int .i64 d.od) ∧ (∀ o, w'.frozen? ⟨qa.l, o, none⟩ = false)) := Lib.hid (fun w' kk => by
    have z := (hW4.out.2.kp kk).ql
    obtain ⟨c0, c1, c2, c3, c4, c5, c6, c7⟩ := z.cells HX4.out
    exact ⟨by have := z.g.cell 1; simp only [List.length_set] at this; exact this, c5, c6, z.free⟩)
  obtain ⟨g1, g5, g6, f9⟩ := HCE.out _ (Kp.refl _ _)
  clear hi4
  have HCE3 : Hid (∀ w', Kp [qa.l] W4 w' → w'.cell? ⟨qa.g, 1, none⟩ = some (.slice (some ⟨qa.l, 0, none⟩) D1.sl.length qa.lc)) := Lib.hid (fun w' kk => by
    have := (hW4.out.2.ql.g.kp kk (by simpa using hne)).cell 1
    simp only [List.length_set] at this; exact this)
  go_cut [] (fun W' => Hid (Kp (qa.both q) w W' ∧ QKP w0 B W' q7 k2 qa { D1 with sl := D1.sl.set i1 ⟨⟨d.x.f, 2, d.x.bl, 1, n, re, im, d.x.ma⟩, P.1, P.2⟩ }))
  case first =>
    go_region_held_law (fun w' => w'.cell? ⟨qa.g, 1, none⟩ = some (.slice (some ⟨qa.l, 0, none⟩) D1.sl.length qa.lc)) ((refine HCE3.out _ ?_; repeat (first | with_reducible exact kk9' | with_reducible refine Kp.setCell ?_ (.inl (by simp)) _ | with_reducible exact Kp.refl _ _ | with_reducible refine Kp.drew ?_ | with_reducible refine HBK.out _ _ _ ?_))) (first | (go_simp; go_at_call 82; ((refine HOf.out _ W4.drew _ rfl ?_); intro w9 k9; have kk9 : Kp [] W4 w9 := (HBK.out _ _ _ (Kp.refl [] W4).drew).trans k9; have kk9' : Kp [qa.l] W4 w9 := kk9.mono (by simp); obtain ⟨_, r5, r6, rf⟩ := HCE.out _ kk9)))
    all_goals
      go_wp2_with fail
      go_meet
      obtain ⟨u1, u2⟩ := hW4.out
      have z0 := u2.kp kk9
      obtain ⟨z1, v1⟩ := z0.put HX4.out (x' := ⟨⟨d.x.f, 2, d.x.bl, 1, n, re, im, d.x.ma⟩, P.1, d.od⟩) (j := 5) (v := .int .i64 P.1) (by omega) rfl rfl
      simp only [List.set_set] at z1
      obtain ⟨z2, v2⟩ := z1.put (i := i1) (x := ⟨⟨d.x.f, 2, d.x.bl, 1, n, re, im, d.x.ma⟩, P.1, d.od⟩) (by simp [hi1]) (x' := ⟨⟨d.x.f, 2, d.x.bl, 1, n, re, im, d.x.ma⟩, P.1, P.2⟩) (j := 6) (v := .int .i64 P.2) (by omega) rfl rfl
      simp only [List.set_set] at z2
      rw [HBO7.out] at v1 v2
      exact Lib.hid ⟨((u1.thn kk9 (by simp)).thn v1 (fun s h => .inl h)).thn v2 (fun s h => .inl h), z2⟩
  case rest =>
    clear g1 g5 g6 f9
    have hi5 : (D1.sl.set i1 ⟨⟨d.x.f, 2, d.x.bl, 1, n, re, im, d.x.ma⟩, P.1, P.2⟩)[i1]? = some ⟨⟨d.x.f, 2, d.x.bl, 1, n, re, im, d.x.ma⟩, P.1, P.2⟩ := by simp [hi1]
    have c0 := (hcut.out.2.ql.cells hi5).1
    have g1 : wc.cell? ⟨qa.g, 1, none⟩ = some (.slice (some ⟨qa.l, 0, none⟩) (D1.sl.set i1 ⟨⟨d.x.f, 2, d.x.bl, 1, n, re, im, d.x.ma⟩, P.1, P.2⟩).length qa.lc) := hcut.out.2.ql.g.cell 1
    rw [List.length_set] at g1
    simp only at c0
    clear hi5
    go_wp2
    exact H.out q7 _ hcut.out.1 hcut.out.2 e7.out.1 e7.out.2
/-- Head, as the program's. -/
theorem qhead_any (h0 : QKP w0 B w q k qa D) (g : PG m k D) (hm2 : m ≤ 10000) (hpg : ∀ y ∈ k.fs, y.bs.length = 256) (hr : k.qo.length ≤ 16) (s : ByteArray) {f e : Int} {p' : PS}
    (hg : HeadR k D.ps s.data.toList f e p' k') (hpg' : ∀ y ∈ k'.fs, y.bs.length = 256) (hc' : k'.cnt (m + 1))
    (h : ∀ q' w' D', Kp (qa.both q) w w' → QKP w0 B w' q' k' qa D' → D'.ps = p' → PG (m + 1) k' D' → q'.own = q.own → q'.bM = q.bM ∧ q'.bD = q.bD → R (.returned (.tuple #[.int .i64 f, .int .i64 e])) w') :
    Calls Tryz.prog 28 #[.pointer (some ⟨qa.g, 0, none⟩), .string s] w R := by
  have hts := dTake_ps k D
  have hsz : s.data.toList.length = s.size := Array.length_toList
  rcases hg with ⟨hn, rfl, rfl, rfl, rfl⟩ | ⟨hn, ht, rfl, rfl, rfl, rfl⟩ | ⟨hn, i, x, ht, hx, rfl, rfl, rfl, rfl⟩
  · exact qhead_long s (by omega) (h q w D (Kp.refl _ _) h0 rfl (g.mono (Nat.le_succ _)) rfl ⟨rfl, rfl⟩)
  · rw [hts] at ht
    exact qhead_none h0 s (by omega) ht (fun w' kk z => h q w' _ kk z (by rw [hts]) (((dTake_rel _ D).pg (Nat.le_refl _) g).mono (Nat.le_succ _)) rfl ⟨rfl, rfl⟩)
  · rw [hts] at ht hx
    obtain ⟨d, hd, rfl⟩ := ps_at hx
    have g1 := (dTake_rel (m := m) k D).pg (Nat.le_refl _) g
    rw [part_pr rfl (by omega)] at h
    refine qhead_ok h0 g.di.c hm2 hpg hr s (by omega) ht hd (fl (pr s.data.toList).1) (fl (pr s.data.toList).2) (fun q' w' kk z ho hb => h q' w' _ kk z ?_ ?_ ho hb)
    · rw [hts]; simp [DP.ps, List.map_set, hsz]
    · exact ((drel_set (hand := (dTake k D).2.hand) (Nat.le_succ _) hd (slr_head d s.size (by omega))).pg (Nat.le_succ _) g1).turn (Nat.le_refl _) hc' (tWrite_ow _ _ _ _ _) hpg'
end
end
/-! ### The document's pool: Get as the program's. -/
section
open Go.RowKit Go.Shelf
set_option linter.unusedVariables false
set_option linter.unusedSimpArgs false
set_option maxRecDepth 100000
section
variable {R : Ending → World → Prop} {w0 w w' : World} {B m : Nat} {q q' : QA} {k k' : KS} {qa : QPA} {D : DP}
theorem qget_any (h0 : QKP w0 B w q k qa D) (g : PG m k D) (hm2 : m ≤ 10000) (hpg : ∀ y ∈ k.fs, y.bs.length = 256) (hr : k.qo.length ≤ 16) (b n ev od : Int) (he0 : 0 ≤ ev) (he1 : ev ≤ 1073741824) (ho0 : 0 ≤ od) (ho1 : od ≤ 1073741824) {f e : Int} {p' : PS}
    (hg : GetR k D.ps b n (fl ev.toNat) (fl od.toNat) f e p' k') (hpg' : ∀ y ∈ k'.fs, y.bs.length = 256) (hc' : k'.cnt (m + 1))
    (h : ∀ q' w' D', Kp (qa.both q) w w' → QKP w0 B w' q' k' qa D' → D'.ps = p' → PG (m + 1) k' D' → q'.own = q.own → q'.bM = q.bM ∧ q'.bD = q.bD → R (.returned (.tuple #[.int .i64 f, .int .i64 e])) w') :
    Calls Tryz.prog 26 #[.pointer (some ⟨qa.g, 0, none⟩), .int .i64 b, .int .i64 n, .agg #[.int .i64 ev, .int .i64 od]] w R := by
  have hts := dTake_ps k D
  rcases hg with ⟨hn, rfl, rfl, rfl, rfl⟩ | ⟨hn, i, x, hi, hx, rfl, rfl, rfl, rfl⟩ | ⟨hn, hi, ht, rfl, rfl, rfl, rfl⟩ | ⟨hn, hi, i, x, ht, hx, ⟨hE, rfl, rfl, rfl, rfl⟩ | ⟨hE, rfl, rfl, rfl, rfl⟩⟩
  · exact qget_bad b n ev od hn (fun w' k' => h q w' D (k'.mono (by simp)) (h0.kp k') rfl (g.mono (Nat.le_succ _)) rfl ⟨rfl, rfl⟩)
  · rw [ps_idx] at hi
    obtain ⟨d, hd, rfl⟩ := ps_at hx
    have hb := g.bd.pi d.x (List.mem_map.2 ⟨d, List.mem_of_getElem? hd, rfl⟩)
    refine qget_hit h0 g.uni b n ev od hn.1 hn.2 hi hd hb.1 (by omega) (fun w' kk z => h q w' _ kk z (ps_set _ _ _) ?_ rfl ⟨rfl, rfl⟩)
    exact (drel_set (Nat.le_succ _) hd (slr_more d true)).pg (Nat.le_succ _) g
  · rw [ps_idx] at hi
    rw [hts] at ht
    exact qget_none h0 g.uni b n ev od hn.1 hn.2 hi ht (fun w' kk z => h q w' _ kk z (by rw [hts]) (((dTake_rel _ D).pg (Nat.le_refl _) g).mono (Nat.le_succ _)) rfl ⟨rfl, rfl⟩)
  · rw [ps_idx] at hi
    rw [hts] at ht
    exact qget_fail h0 g.di.c hm2 hpg hr g.uni b n ev od hn.1 hn.2 hi ht rfl hE (fun q' w' kk z ho hb => h q' w' _ kk z (by rw [hts]) (((dTake_rel _ D).pg (Nat.le_refl _) g).mono (Nat.le_succ _)) ho hb)
  · rw [ps_idx] at hi
    rw [hts] at ht hx
    obtain ⟨d, hd, rfl⟩ := ps_at hx
    have hfb := g.bd.f1
    have g1 := (dTake_rel (m := m) k D).pg (Nat.le_refl _) g
    have hb1 := g1.bd.pi d.x (List.mem_map.2 ⟨d, List.mem_of_getElem? hd, rfl⟩)
    have hb2 := g1.bd.f0
    have hb3 := g1.bd.f1
    refine qget_read h0 g.di.c hm2 hpg hr g.uni b n ev od (fl ev.toNat) (fl od.toNat) hn.1 hn.2 hi ht hd hE hb1.1 (by omega) (by exact hb2) (by have hb3 : (dTake _ D).2.fills ≤ m := hb3; omega) (fun q' w' kk z ho hb => h q' w' _ kk z ?_ ?_ ho hb)
    · rw [hts]; simp [DP.ps, List.map_set]
    · exact (pg_read g1 (take_none_has (m := m) b hi) hd ⟨he0, he1, ho0, ho1, rfl, rfl⟩).turn (Nat.le_refl _) hc' (tWrite_ow _ _ _ _ _) hpg'
end
end
/-! ### A pin more or less: the program's pool and the document's. -/
section
open Go.RowKit Go.Shelf
set_option linter.unusedVariables false
set_option linter.unusedSimpArgs false
set_option maxRecDepth 100000
def pPinUp (p : PS) (f : Int) : Int × PS := match p.sl.findIdx? (pinB f) with | none => (1, p) | some i => match p.sl[i]? with | none => (1, p) | some x => (0, { p with sl := p.sl.set i { x with pi := x.pi + 1 } })
def DSl.by (d : DSl) (v : Int) : DSl := if d.x.pi + v = 0 ∧ d.x.kd ≠ 1 then DSl.e d.x.f else ⟨{ d.x with pi := d.x.pi + v }, d.ev, d.od⟩
def dPin (D : DP) (f v : Int) : Int × DP := match D.sl.findIdx? (fun d => pinB f d.x) with | none => (1, D) | some i => match D.sl[i]? with | none => (1, D) | some d => (0, { D with sl := D.sl.set i (d.by v) })
theorem didx_at {D : DP} {p : DSl → Bool} {i : Nat} (h : D.sl.findIdx? p = some i) : ∃ d, D.sl[i]? = some d ∧ p d = true := by
  obtain ⟨hi, hp, _⟩ := List.findIdx?_eq_some_iff_getElem.1 h
  exact ⟨_, List.getElem?_eq_getElem hi, hp⟩
theorem pin_pos {f : Int} {x : PSl} (h : pinB f x = true) : x.f = f ∧ 0 < x.pi := by unfold pinB at h; simp at h; exact h
theorem dPin_less (D : DP) (f : Int) : pUnpin D.ps f = ((dPin D f (-1)).1, (dPin D f (-1)).2.ps) := by
  unfold pUnpin dPin
  rw [ps_idx]
  cases hi : D.sl.findIdx? (fun d => pinB f d.x) with
  | none => rfl
  | some i =>
    obtain ⟨d, hd, _⟩ := didx_at hi
    have hd2 : D.ps.sl[i]? = some d.x := by simp [DP.ps, hd]
    simp only [hd, hd2]
    have e0 : d.x.pi + -1 = d.x.pi - 1 := by omega
    have e : (d.by (-1)).x = d.x.less := by
      unfold DSl.by PSl.less
      rw [e0]
      split <;> rfl
    simp [DP.ps, List.map_set, e]
theorem dPin_more (D : DP) (f : Int) : pPinUp D.ps f = ((dPin D f 1).1, (dPin D f 1).2.ps) := by
  unfold pPinUp dPin
  rw [ps_idx]
  cases hi : D.sl.findIdx? (fun d => pinB f d.x) with
  | none => rfl
  | some i =>
    obtain ⟨d, hd, hp⟩ := didx_at hi
    have hd2 : D.ps.sl[i]? = some d.x := by simp [DP.ps, hd]
    simp only [hd, hd2]
    have hpp := (pin_pos hp).2
    have e : (d.by 1).x = { d.x with pi := d.x.pi + 1 } := by unfold DSl.by; rw [if_neg (by omega)]
    simp [DP.ps, List.map_set, e]
theorem dPin_pg {m : Nat} {k : KS} {D : DP} (g : PG m k D) (f v : Int) (hv : v = 1 ∨ v = -1) : PG (m + 1) k (dPin D f v).2 := by
  unfold dPin
  cases hi : D.sl.findIdx? (fun d => pinB f d.x) with
  | none => exact g.mono (Nat.le_succ _)
  | some i =>
    obtain ⟨d, hd, hp⟩ := didx_at hi
    simp only [hd]
    have hpp := (pin_pos hp).2
    refine (drel_set (hand := D.hand) (Nat.le_succ _) hd ?_).pg (Nat.le_succ _) g
    unfold DSl.by
    split
    · exact slr_e d
    · exact ⟨rfl, id, fun _ h => h, fun h0 h1 => ⟨by show 0 ≤ d.x.pi + v; omega, by show d.x.pi + v ≤ _; push_cast; omega⟩⟩
section
variable {R : Ending → World → Prop} {w w' : World} {B m : Nat} {ka : KA} {k : KS} {pa : PA} {p : PS}
set_option maxHeartbeats 2000000 in
theorem ppinup_any (h0 : KPl w B ka k pa p) (hbd : p.bd m) (hm : m ≤ 1000000) (f : Int) (h : ∀ w', Pq B w w' → KPl w' B ka k pa (pPinUp p f).2 → R (.returned (.int .i64 (pPinUp p f).1)) w') : Calls Tryz.prog 29 #[.pointer (some ⟨pa.g, 0, none⟩), .int .i64 f] w R := by
  have HK := Lib.hid h0
  have HPn : Hid (∀ (R : Ending → World → Prop), (∀ w', Kp [] w w' → R (.returned (.pointer (pfind p pa.l (pinB f)))) w') → Calls Tryz.prog 83 #[.pointer (some ⟨pa.g, 0, none⟩), .int .i64 f] w R) := Lib.hid (fun R h => ppin_any h0 f h)
  clear h0
  cases hf : p.sl.findIdx? (pinB f) with
  | none =>
    have e0 : pPinUp p f = (1, p) := by unfold pPinUp; rw [hf]
    rw [e0] at h
    have H := Lib.hid h
    have e : pfind p pa.l (pinB f) = none := by unfold pfind; rw [hf]
    rw [e] at HPn
    clear h hf
    go_enter Tryz.func29, Tryz.ntmps29
    go_wp2_with (go_at_call 83; (refine HPn.out _ ?_; intro w2 k2))
    exact H.out _ (Pq.of0 k2) (HK.out.off0 k2)
  | some i =>
    obtain ⟨x, hx, hxp⟩ := idx_at hf
    have e0 : pPinUp p f = (0, { p with sl := p.sl.set i { x with pi := x.pi + 1 } }) := by unfold pPinUp; rw [hf]; simp only; rw [hx]
    rw [e0] at h
    have H := Lib.hid h
    have e : pfind p pa.l (pinB f) = some ⟨pa.l, i * 7, none⟩ := by unfold pfind; rw [hf]
    rw [e] at HPn
    have HX := Lib.hid hx
    obtain ⟨hp0, hp1⟩ := hbd.pi x (List.mem_of_getElem? hx)
    clear h hf hx hbd hxp e e0
    go_enter Tryz.func29, Tryz.ntmps29
    go_wp2_with (go_at_call 83; (refine HPn.out _ ?_; intro w2 k2; obtain ⟨_, _, _, c3, _, _, _⟩ := (HK.out.off0 k2).pl.cells HX.out; have f3 := (HK.out.off0 k2).pl.free))
    obtain ⟨z1, z2⟩ := (HK.out.off0 k2).put HX.out (x' := { x with pi := x.pi + 1 }) (j := 3) (v := .int .i64 (x.pi + 1)) (by omega) rfl
    exact H.out _ ((Pq.of0 k2).trans z2) z1
end
section
variable {R : Ending → World → Prop} {w0 w w' : World} {B m : Nat} {q q' : QA} {k k' : KS} {qa : QPA} {D : DP}
set_option maxHeartbeats 4000000 in
theorem qpinby_any (h0 : QKP w0 B w q k qa D) (hbd : D.ps.bd m) (hm : m ≤ 1000000) (f v : Int) (hv0 : -1 ≤ v) (hv1 : v ≤ 1) (h : ∀ w', Kp (qa.both q) w w' → QKP w0 B w' q k qa (dPin D f v).2 → R (.returned (.int .i64 (dPin D f v).1)) w') :
    Calls Tryz.prog 30 #[.pointer (some ⟨qa.g, 0, none⟩), .int .i64 f, .int .i64 v] w R := by
  have HK := Lib.hid h0
  have HPn : Hid (∀ (R : Ending → World → Prop), (∀ w', Kp [] w w' → R (.returned (.int .i64 (idxV (D.sl.findIdx? (fun d => pinB f d.x))))) w') → Calls Tryz.prog 84 #[.pointer (some ⟨qa.g, 0, none⟩), .int .i64 f] w R) := Lib.hid (fun R h => qpin_any h0.ql f h)
  cases hf : D.sl.findIdx? (fun d => pinB f d.x) with
  | none =>
    have e0 : dPin D f v = (1, D) := by unfold dPin; rw [hf]
    rw [e0] at h
    rw [hf] at HPn
    have H := Lib.hid h
    have hn : idxV none = (-1 : Int) := rfl
    rw [hn] at HPn
    clear h hf h0 hbd
    go_enter Tryz.func30, Tryz.ntmps30
    go_wp2_with (go_at_call 84; (refine HPn.out _ ?_; intro w2 k2))
    exact H.out _ (k2.mono (by simp)) (HK.out.kp k2)
  | some i =>
    obtain ⟨d, hd, hp⟩ := didx_at hf
    have e0 : dPin D f v = (0, { D with sl := D.sl.set i (d.by v) }) := by unfold dPin; rw [hf]; simp only; rw [hd]
    rw [e0] at h
    rw [hf] at HPn
    have hn : idxV (some i) = (i : Int) := rfl
    rw [hn] at HPn
    have H := Lib.hid h
    have HD := Lib.hid hd
    obtain ⟨hdf, hpos⟩ := pin_pos hp
    have hb := hbd.pi d.x (List.mem_map.2 ⟨d, List.mem_of_getElem? hd, rfl⟩)
    have hi := (List.getElem?_eq_some_iff.1 hd).1
    have hneg : ¬ ((i : Int) < 0) := by omega
    obtain ⟨NN, hNN⟩ : ∃ NN, D.sl.length = NN := ⟨_, rfl⟩
    have hiN : i < NN := by omega
    have HC : Hid (∀ w', Kp [] w w' → w'.cell? ⟨qa.g, 1, none⟩ = some (.slice (some ⟨qa.l, 0, none⟩) NN qa.lc) ∧ w'.cell? ⟨qa.l, i * 8 + 3, none⟩ = some (.int .i64 d.x.pi) ∧ w'.cell? ⟨qa.l, i * 8 + 1, none⟩ = some (.int .i64 d.x.kd) ∧ (∀ o, w'.frozen? ⟨qa.l, o, none⟩ = false)) := Lib.hid (fun w' k' => by
      have z := (HK.out.kp k').ql
      obtain ⟨c0, c1, c2, c3, c4, c5, c6, c7⟩ := z.cells HD.out
      exact ⟨by have := z.g.cell 1; rw [hNN] at this; exact this, c3, c1, z.free⟩)
    have hb1 := hb.2
    clear h hf h0 hbd hd hp e0 hb hi hn
    go_enter Tryz.func30, Tryz.ntmps30
    go_upto_region 4 with (go_at_call 84; (refine HPn.out _ ?_; intro w2 k2; obtain ⟨g1, c3, c1, f9⟩ := HC.out w2 k2))
    go_region
    go_upto_region 5 with (fail)
    refine genV (fun W => Hid (Kp (qa.both q) w W ∧ QKP w0 B W q k qa { D with sl := D.sl.set i ⟨{ d.x with pi := d.x.pi + v }, d.ev, d.od⟩ })) (by
      obtain ⟨z1, v1⟩ := (HK.out.kp k2).put HD.out (x' := ⟨{ d.x with pi := d.x.pi + v }, d.ev, d.od⟩) (j := 3) (v := .int .i64 (d.x.pi + v)) (by omega) rfl rfl
      exact Lib.hid ⟨((k2.mono (S' := qa.both q) (by simp)).thn v1 (fun s h => .inl h)).thn (Kp.refl [] _).drew (by simp), z1.kp (Kp.refl [] _).drew⟩) ?_
    intro W hW
    clear g1 c3 c1 f9 k2 HPn HC
    have hi2 : (D.sl.set i ⟨{ d.x with pi := d.x.pi + v }, d.ev, d.od⟩)[i]? = some ⟨{ d.x with pi := d.x.pi + v }, d.ev, d.od⟩ := by simp [hNN, hiN]
    have HX := Lib.hid hi2
    obtain ⟨c0, c1, c2, c3, c4, c5, c6, c7⟩ := hW.out.2.ql.cells hi2
    have f9 := hW.out.2.ql.free
    have g1 : W.cell? ⟨qa.g, 1, none⟩ = some (.slice (some ⟨qa.l, 0, none⟩) (D.sl.set i ⟨{ d.x with pi := d.x.pi + v }, d.ev, d.od⟩).length qa.lc) := hW.out.2.ql.g.cell 1
    rw [List.length_set, hNN] at g1
    simp only at c0 c1 c2 c3 c4 c5 c6 c7
    clear hi2
    by_cases h1 : d.x.pi + v = 0
    · have b1 : (d.x.pi + v == 0) = true := by simp [h1]
      by_cases h2 : d.x.kd = 1
      · have b2 : (d.x.kd != 1) = false := by simp [h2]
        have e : d.by v = ⟨{ d.x with pi := d.x.pi + v }, d.ev, d.od⟩ := by unfold DSl.by; rw [if_neg (by simp [h2])]
        rw [e] at H
        clear h1 h2 e
        go_wp2
        exact H.out _ hW.out.1 hW.out.2
      · have b2 : (d.x.kd != 1) = true := by simp [h2]
        have e : d.by v = DSl.e d.x.f := by unfold DSl.by; rw [if_pos ⟨h1, h2⟩]
        rw [e] at H
        obtain ⟨y1, y2⟩ := hW.out.2.clr8 HX.out
        simp only [List.set_set] at y1
        rw [hdf] at y1 y2 H
        have Y := Lib.hid (And.intro y1 y2)
        clear h1 h2 e y1 y2
        go_wp2
        exact H.out _ (hW.out.1.thn Y.out.2 (fun s h => .inl h)) Y.out.1
    · have b1 : (d.x.pi + v == 0) = false := by simp [h1]
      have e : d.by v = ⟨{ d.x with pi := d.x.pi + v }, d.ev, d.od⟩ := by unfold DSl.by; rw [if_neg (by omega)]
      rw [e] at H
      clear h1 e
      go_wp2
      exact H.out _ hW.out.1 hW.out.2
end
end
end Go.Proofs.YtedblbpmlbjnhaaGreat
