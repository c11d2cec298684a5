/- The document's pool: Get where the block is not there. The document's pool: Get of a block that is read. The document's pool: Get of a block that is read. -/
import Derived.Test.YtedblbpmlbjnhaaGreatPE39
import Derived.BigRegion
namespace Go.Proofs.YtedblbpmlbjnhaaGreat
/-! ### The document's pool: Get where the block is not there. -/
section
open Go.RowKit Go.Shelf
set_option linter.unusedVariables false
set_option linter.unusedSimpArgs false
set_option maxRecDepth 100000
section
variable {R : Ending → World → Prop} {w0 w w' : World} {B m : Nat} {q q' : QA} {k k' : KS} {qa : QPA} {D : DP}
set_option maxHeartbeats 4000000 in
/-- It is not there, and no slot may be taken. -/
theorem qget_none (h0 : QKP w0 B w q k qa D) (hu : D.uni) (b n ev od : Int) (hn0 : 0 ≤ n) (hn1 : n ≤ 256) (hf : D.sl.findIdx? (fun d => hasB b d.x) = none) (ht : (dTake k D).1 = none)
    (h : ∀ w', Kp (qa.both q) w w' → QKP w0 B w' q k qa (dTake k D).2 → R (.returned (.tuple #[.int .i64 0, .int .i64 80])) w') :
    Calls Tryz.prog 26 #[.pointer (some ⟨qa.g, 0, none⟩), .int .i64 b, .int .i64 n, .agg #[.int .i64 ev, .int .i64 od]] w R := by
  have H := Lib.hid h
  have HK := Lib.hid h0
  obtain ⟨N, hN⟩ : ∃ n, D.sl.length = n := ⟨_, rfl⟩
  have hnn := h0.ql.hn
  rw [hN] at hnn
  have HN := Lib.hid hN
  have HU := Lib.hid hu
  have HF := Lib.hid hf
  have HT : Hid (∀ (R : Ending → World → Prop) (w1 : World), Kp [] w w1 → (∀ w', Kp (qa.both q) w1 w' → QKP w0 B w' q k qa (dTake k D).2 → R (.returned (.int .i64 (-1))) w') → Calls Tryz.prog 79 #[.pointer (some ⟨qa.g, 0, none⟩)] w1 R) := Lib.hid (fun R w1 k1 h => qtake_any (h0.kp k1) (fun w' kk z => by rw [ht]; exact h w' kk z))
  have n0 : decide (n < 0) = false := by simpa using hn0
  have n1 : decide (256 < n) = false := by simpa using hn1
  have gw : w.cell? ⟨qa.g, 1, none⟩ = some (.slice (some ⟨qa.l, 0, none⟩) N qa.lc) := by have := h0.ql.g.cell 1; rw [hN] at this; exact this
  have gwa : ∀ o, (w.alloc o).cell? ⟨qa.g, 1, none⟩ = some (.slice (some ⟨qa.l, 0, none⟩) N qa.lc) := fun o => by have := (h0.ql.g.alloc o).cell 1; rw [hN] at this; exact this
  clear h h0 hN hu hf ht hn0 hn1
  go_enter Tryz.func26, Tryz.ntmps26
  go_wp2
  go_loopw [10, 11] (fun av iv wr => ∃ (i : Nat) (o : Option Nat), i ≤ N ∧ iv = .int .i64 i ∧ av = .int .i64 (idxV o) ∧ Hid (Kp [] w wr) ∧ Hid (dLast b D.sl i o)) (fun _ iv _ => N - (intOf iv).toNat)
  case atStart => exact ⟨0, none, Nat.zero_le _, rfl, rfl, Lib.hid ((Kp.refl _ _).alloc _), Lib.hid (by intro j y hj; omega)⟩
  case round =>
    obtain ⟨i, o, hi, rfl, rfl, kr, hno⟩ := hrel
    clear gw gwa
    have g1 : wr.cell? ⟨qa.g, 1, none⟩ = some (.slice (some ⟨qa.l, 0, none⟩) N qa.lc) := by have := (HK.out.kp kr.out).ql.g.cell 1; rw [HN.out] at this; exact this
    by_cases hlt : i < N
    · obtain ⟨d2, hx, hm⟩ := get_lt (l := D.sl) (k := i) (by have := HN.out; omega)
      obtain ⟨c0, c1, c2, c3, c4, c5, c6, c7⟩ := (HK.out.kp kr.out).ql.cells hx
      have HX := Lib.hid hx
      clear c0 c3 c4 c5 c6 c7 hx hm
      have HS : Hid (hasB b d2.x = false → dLast b D.sl (i + 1) o) := Lib.hid (fun hf => by
        have h1 := hno.out
        cases o with
        | none =>
          intro j y hj hy
          by_cases hji : j < i
          · exact h1 j y hji hy
          · obtain rfl : j = i := by omega
            rw [HX.out] at hy; injection hy with hy; subst hy; exact hf
        | some j => exact ⟨by have := h1.1; omega, h1.2⟩)
      by_cases hf : (d2.x.kd == 1) = true
      · by_cases hp : (d2.x.bl == b) = true
        · have HS2 : Hid (dLast b D.sl (i + 1) (some i)) := Lib.hid ⟨by omega, d2, HX.out, by unfold hasB; rw [hf, hp]; rfl⟩
          clear HS
          go_wp2
          exact ⟨⟨i + 1, some i, by omega, by go_num, rfl, kr, HS2⟩, by simp [intOf]; omega⟩
        · have hp' : (d2.x.bl == b) = false := by simpa using hp
          have HS2 := Lib.hid (HS.out (by unfold hasB; rw [hp']; simp))
          clear HS hp
          go_wp2
          exact ⟨⟨i + 1, o, by omega, by go_num, rfl, kr, HS2⟩, by simp [intOf]; omega⟩
      · have hf' : (d2.x.kd == 1) = false := by simpa using hf
        have HS2 := Lib.hid (HS.out (by unfold hasB; rw [hf']; rfl))
        clear HS hf
        go_wp2
        exact ⟨⟨i + 1, o, by omega, by go_num, rfl, kr, HS2⟩, by simp [intOf]; omega⟩
    · obtain rfl : i = N := by omega
      have e := dLast_fin HU.out HN.out.symm hno.out
      rw [HF.out] at e
      subst e
      have hv : idxV none = (-1 : Int) := rfl
      rw [hv]
      clear HK HU HF hno
      go_wp2_with (go_at_call 79; ((refine HT.out _ _ kr.out ?_); intro w5 k5 z5))
      exact H.out _ ((kr.out.mono (S' := qa.both q) (by simp)).thn k5 (fun s h => .inl h)) z5
end
end
/-! ### The document's pool: Get of a block that is read. -/
section
open Go.RowKit Go.Shelf
set_option linter.unusedVariables false
set_option linter.unusedSimpArgs false
set_option maxRecDepth 100000
section
variable {R : Ending → World → Prop} {w0 w w' : World} {B m : Nat} {q q' : QA} {k k' : KS} {qa : QPA} {D : DP}
theorem QKP.call6 (h0 : QKP w0 B w q k qa D) (hm : k.cnt m) (hm2 : m ≤ 10000) (hpg : ∀ y ∈ k.fs, y.bs.length = 256) (hr : k.qo.length ≤ 16) (b : Int)
    (h : ∀ q' w', Kp (qa.both q) w w' → QKP w0 B w' q' k qa D → q'.own = q.own → q'.bM = q.bM ∧ q'.bD = q.bD → R (.returned (.tuple #[.int .i64 0, .string (S (dRead k.d 1 b).2), .int .i64 (dRead k.d 1 b).1])) w') :
    Calls Tryz.prog 11 #[.pointer (some ⟨q.g, 0, none⟩), .agg #[.int .i64 6, .int .i64 1, .int .i64 b, .int .i64 0, .int .i64 0, .string ⟨#[]⟩, .slice none 0 0, .slice none 0 0]] w R := by
  have hs : kStep k (kcS 6 b []) 0 (dRead k.d 1 b).2 (dRead k.d 1 b).1 k := by
    unfold kStep
    rw [if_neg (by simp [kcS]), if_pos (by simp [kcS])]
    unfold kFB
    rw [if_neg (by simp [kcS]), if_neg (by simp [kcS]), if_neg (by simp [kcS]), if_neg (by simp [kcS]), if_neg (by simp [kcS]), if_pos (by rfl)]
    rfl
  refine rcallp_any h0.qn hm hm2 hpg hr (kcS 6 b []) (clS 6 b (S [])) (kcS_cl _ _ _) (clS_qc _ _ _) (by unfold i64B; simp [clS]) (by simp [clS]) hs (fun q' w2 kk hq2 ho hb => ?_)
  obtain ⟨z1, z2⟩ := h0.call kk hq2 ho rfl
  exact h q' w2 z2 z1 ho hb
set_option maxHeartbeats 4000000 in
/-- It cannot be read. -/
theorem qget_fail (h0 : QKP w0 B w q k qa D) (hm : k.cnt m) (hm2 : m ≤ 10000) (hpg : ∀ y ∈ k.fs, y.bs.length = 256) (hr : k.qo.length ≤ 16) (hu : D.uni) (b n ev od : Int) (hn0 : 0 ≤ n) (hn1 : n ≤ 256) (hf : D.sl.findIdx? (fun d => hasB b d.x) = none) {i1 : Nat} (ht : (dTake k D).1 = some i1) {re : Int} (hre : (dRead k.d 1 b).1 = re) (hre0 : re ≠ 0)
    (h : ∀ q' w', Kp (qa.both q) w w' → QKP w0 B w' q' k qa (dTake k D).2 → q'.own = q.own → q'.bM = q.bM ∧ q'.bD = q.bD → R (.returned (.tuple #[.int .i64 0, .int .i64 re])) w') :
    Calls Tryz.prog 26 #[.pointer (some ⟨qa.g, 0, none⟩), .int .i64 b, .int .i64 n, .agg #[.int .i64 ev, .int .i64 od]] w R := by
  have H := Lib.hid h
  have HK := Lib.hid h0
  obtain ⟨N, hN⟩ : ∃ n, D.sl.length = n := ⟨_, rfl⟩
  have hnn := h0.ql.hn
  rw [hN] at hnn
  have HN := Lib.hid hN
  have HU := Lib.hid hu
  have HF := Lib.hid hf
  have HT : Hid (∀ (R : Ending → World → Prop) (w1 : World), Kp [] w w1 → (∀ w', Kp (qa.both q) w1 w' → QKP w0 B w' q k qa (dTake k D).2 → R (.returned (.int .i64 i1)) w') → Calls Tryz.prog 79 #[.pointer (some ⟨qa.g, 0, none⟩)] w1 R) := Lib.hid (fun R w1 k1 h => qtake_any (h0.kp k1) (fun w' kk z => by rw [ht]; exact h w' kk z))
  have n0 : decide (n < 0) = false := by simpa using hn0
  have n1 : decide (256 < n) = false := by simpa using hn1
  have gw : w.cell? ⟨qa.g, 1, none⟩ = some (.slice (some ⟨qa.l, 0, none⟩) N qa.lc) := by have := h0.ql.g.cell 1; rw [hN] at this; exact this
  have gwa : ∀ o, (w.alloc o).cell? ⟨qa.g, 1, none⟩ = some (.slice (some ⟨qa.l, 0, none⟩) N qa.lc) := fun o => by have := (h0.ql.g.alloc o).cell 1; rw [hN] at this; exact this
  have HC : Hid (∀ (R : Ending → World → Prop) (w1 : World), QKP w0 B w1 q k qa (dTake k D).2 → (∀ q' w', Hid (Kp (qa.both q) w1 w' ∧ QKP w0 B w' q' k qa (dTake k D).2 ∧ q'.own = q.own ∧ q'.bM = q.bM ∧ q'.bD = q.bD) → R (.returned (.tuple #[.int .i64 0, .string (S (dRead k.d 1 b).2), .int .i64 re])) w') → Calls Tryz.prog 11 #[.pointer (some ⟨q.g, 0, none⟩), .agg #[.int .i64 6, .int .i64 1, .int .i64 b, .int .i64 0, .int .i64 0, .string ⟨#[]⟩, .slice none 0 0, .slice none 0 0]] w1 R) := Lib.hid (fun R w1 z h => z.call6 hm hm2 hpg hr b (fun q' w' kk z2 ho hb => by rw [hre]; exact h q' w' (Lib.hid ⟨kk, z2, ho, hb.1, hb.2⟩)))
  have e0 : (re == 0) = false := by simpa using hre0
  clear h h0 hN hu hf ht hn0 hn1 hm hpg hr hre
  go_enter Tryz.func26, Tryz.ntmps26
  go_wp2
  go_loopw [10, 11] (fun av iv wr => ∃ (i : Nat) (o : Option Nat), i ≤ N ∧ iv = .int .i64 i ∧ av = .int .i64 (idxV o) ∧ Hid (Kp [] w wr) ∧ Hid (dLast b D.sl i o)) (fun _ iv _ => N - (intOf iv).toNat)
  case atStart => exact ⟨0, none, Nat.zero_le _, rfl, rfl, Lib.hid ((Kp.refl _ _).alloc _), Lib.hid (by intro j y hj; omega)⟩
  case round =>
    obtain ⟨i, o, hi, rfl, rfl, kr, hno⟩ := hrel
    clear gw gwa
    have g1 : wr.cell? ⟨qa.g, 1, none⟩ = some (.slice (some ⟨qa.l, 0, none⟩) N qa.lc) := by have := (HK.out.kp kr.out).ql.g.cell 1; rw [HN.out] at this; exact this
    by_cases hlt : i < N
    · obtain ⟨d2, hx, hm⟩ := get_lt (l := D.sl) (k := i) (by have := HN.out; omega)
      obtain ⟨c0, c1, c2, c3, c4, c5, c6, c7⟩ := (HK.out.kp kr.out).ql.cells hx
      have HX := Lib.hid hx
      clear c0 c3 c4 c5 c6 c7 hx hm
      have HS : Hid (hasB b d2.x = false → dLast b D.sl (i + 1) o) := Lib.hid (fun hf => by
        have h1 := hno.out
        cases o with
        | none =>
          intro j y hj hy
          by_cases hji : j < i
          · exact h1 j y hji hy
          · obtain rfl : j = i := by omega
            rw [HX.out] at hy; injection hy with hy; subst hy; exact hf
        | some j => exact ⟨by have := h1.1; omega, h1.2⟩)
      by_cases hf : (d2.x.kd == 1) = true
      · by_cases hp : (d2.x.bl == b) = true
        · have HS2 : Hid (dLast b D.sl (i + 1) (some i)) := Lib.hid ⟨by omega, d2, HX.out, by unfold hasB; rw [hf, hp]; rfl⟩
          clear HS
          go_wp2
          exact ⟨⟨i + 1, some i, by omega, by go_num, rfl, kr, HS2⟩, by simp [intOf]; omega⟩
        · have hp' : (d2.x.bl == b) = false := by simpa using hp
          have HS2 := Lib.hid (HS.out (by unfold hasB; rw [hp']; simp))
          clear HS hp
          go_wp2
          exact ⟨⟨i + 1, o, by omega, by go_num, rfl, kr, HS2⟩, by simp [intOf]; omega⟩
      · have hf' : (d2.x.kd == 1) = false := by simpa using hf
        have HS2 := Lib.hid (HS.out (by unfold hasB; rw [hf']; rfl))
        clear HS hf
        go_wp2
        exact ⟨⟨i + 1, o, by omega, by go_num, rfl, kr, HS2⟩, by simp [intOf]; omega⟩
    · obtain rfl : i = N := by omega
      have e := dLast_fin HU.out HN.out.symm hno.out
      rw [HF.out] at e
      subst e
      have hv : idxV none = (-1 : Int) := rfl
      rw [hv]
      clear HK HU HF hno
      go_upto_region 11 with (go_at_call 79; ((refine HT.out _ _ kr.out ?_); intro w5 k5 z5))
      have g0 : w5.cell? ⟨qa.g, 0, none⟩ = some (.pointer (some ⟨q.g, 0, none⟩)) := z5.ql.g.cell 0
      have K5 := Lib.hid (And.intro ((kr.out.mono (S' := qa.both q) (by simp)).thn k5 (fun s h => .inl h)) z5)
      clear k5 z5
      go_wp2_with (go_at_call 11; ((refine HC.out _ _ K5.out.2 ?_); intro q6 w6 h6))
      exact H.out q6 _ (K5.out.1.thn h6.out.1 (fun s h => .inl h)) h6.out.2.1 h6.out.2.2.1 h6.out.2.2.2
end
end
/-! ### The document's pool: Get of a block that is read. -/
section
open Go.RowKit Go.Shelf
set_option linter.unusedVariables false
set_option linter.unusedSimpArgs false
set_option maxRecDepth 100000
section
variable {R : Ending → World → Prop} {w0 w w' : World} {B m : Nat} {q q' : QA} {k k' : KS} {qa : QPA} {D : DP}
theorem Ql.ne {kg : Nat} (h : Ql w B kg qa D) : qa.g ≠ qa.l := by obtain ⟨tl, hl⟩ := h.l; exact h.g.ne_ hl (by decide)
theorem QKP.out (h : QKP w0 B w q k qa D) : ∀ s ∈ qa.both q, s < w.heap.size := by
  intro s hs
  simp only [QPA.both, List.mem_cons] at hs
  rcases hs with rfl | rfl | hs
  · exact h.ql.lt.1
  · exact h.ql.lt.2
  · exact h.qn.lt s hs
set_option maxHeartbeats 8000000 in
/-- It is read. -/
theorem qget_read (h0 : QKP w0 B w q k qa D) (hm : k.cnt m) (hm2 : m ≤ 10000) (hpg : ∀ y ∈ k.fs, y.bs.length = 256) (hr : k.qo.length ≤ 16) (hu : D.uni) (b n ev od : Int) (re im : Nat) (hn0 : 0 ≤ n) (hn1 : n ≤ 256) (hf : D.sl.findIdx? (fun d => hasB b d.x) = none) {i1 : Nat} (ht : (dTake k D).1 = some i1) {d : DSl} (hd : (dTake k D).2.sl[i1]? = some d) (hre : (dRead k.d 1 b).1 = 0)
    (hp0 : 0 ≤ d.x.pi) (hp1 : d.x.pi ≤ 1000000) (hf0 : 0 ≤ (dTake k D).2.fills) (hf1 : (dTake k D).2.fills ≤ 1000000)
    (h : ∀ q' w', Kp (qa.both q) w w' → QKP w0 B w' q' { k with fs := (tWrite k.fs 1 d.x.f 0 (dRead k.d 1 b).2).2 } qa { (dTake k D).2 with sl := (dTake k D).2.sl.set i1 ⟨⟨d.x.f, 1, b, d.x.pi + 1, n, re, im, true⟩, ev, od⟩, fills := (dTake k D).2.fills + 1 } → q'.own = q.own → q'.bM = q.bM ∧ q'.bD = q.bD → R (.returned (.tuple #[.int .i64 d.x.f, .int .i64 0])) w') :
    Calls Tryz.prog 26 #[.pointer (some ⟨qa.g, 0, none⟩), .int .i64 b, .int .i64 n, .agg #[.int .i64 ev, .int .i64 od]] w R := by
  have hown := h0.out
  have HK := Lib.hid h0
  obtain ⟨N, hN⟩ : ∃ n, D.sl.length = n := ⟨_, rfl⟩
  have hnn := h0.ql.hn
  rw [hN] at hnn
  have HN := Lib.hid hN
  have HU := Lib.hid hu
  have HF := Lib.hid hf
  have hne : qa.g ≠ qa.l := h0.ql.ne
  have hne2 : qa.l ≠ qa.g := fun e => hne e.symm
  obtain ⟨D1, hD1⟩ : ∃ D1, (dTake k D).2 = D1 := ⟨_, rfl⟩
  obtain ⟨bs, hbs⟩ : ∃ bs, (dRead k.d 1 b).2 = bs := ⟨_, rfl⟩
  have HT : Hid (∀ (R : Ending → World → Prop) (w1 : World), Kp [] w w1 → (∀ w', Kp (qa.both q) w1 w' → QKP w0 B w' q k qa D1 → R (.returned (.int .i64 i1)) w') → Calls Tryz.prog 79 #[.pointer (some ⟨qa.g, 0, none⟩)] w1 R) := Lib.hid (fun R w1 k1 h => qtake_any (h0.kp k1) (fun w' kk z => by rw [ht]; rw [hD1] at z; exact h w' kk z))
  have HC : Hid (∀ (R : Ending → World → Prop) (w1 : World), QKP w0 B w1 q k qa D1 → (∀ q' w', Hid (Kp (qa.both q) w1 w' ∧ QKP w0 B w' q' k qa D1 ∧ q'.own = q.own ∧ q'.bM = q.bM ∧ q'.bD = q.bD) → R (.returned (.tuple #[.int .i64 0, .string (S bs), .int .i64 0])) w') → Calls Tryz.prog 11 #[.pointer (some ⟨q.g, 0, none⟩), .agg #[.int .i64 6, .int .i64 1, .int .i64 b, .int .i64 0, .int .i64 0, .string ⟨#[]⟩, .slice none 0 0, .slice none 0 0]] w1 R) := Lib.hid (fun R w1 z h => z.call6 hm hm2 hpg hr b (fun q' w' kk z2 ho hb => by rw [hre, hbs]; exact h q' w' (Lib.hid ⟨kk, z2, ho, hb.1, hb.2⟩)))
  have HW : Hid (∀ (R : Ending → World → Prop) (w1 : World) (q1 : QA) (D2 : DP), QKP w0 B w1 q1 k qa D2 → D2.sl[i1]? = some d → (∀ q' w', Hid (Kp (qa.both q1) w1 w' ∧ QKP w0 B w' q' { k with fs := (tWrite k.fs 1 d.x.f 0 bs).2 } qa D2 ∧ q'.own = q1.own ∧ q'.bM = q1.bM ∧ q'.bD = q1.bD) → R (.returned (.tuple #[])) w') → Calls Tryz.prog 80 #[.pointer (some ⟨qa.g, 0, none⟩), .int .i64 i1, .string (S bs)] w1 R) := Lib.hid (fun R w1 q1 D2 z hx h => qwrite_any z hm hm2 hpg hr hx bs (fun q' w' kk z2 ho hb => h q' w' (Lib.hid ⟨kk, z2, ho, hb.1, hb.2⟩)))
  rw [hbs, hD1] at h
  rw [hD1] at hd hf0 hf1
  have H := Lib.hid h
  have HD := Lib.hid hd
  obtain ⟨FI, hFI⟩ : ∃ FI, D1.fills = FI := ⟨_, rfl⟩
  rw [hFI] at hf0 hf1
  have HFI := Lib.hid hFI
  obtain ⟨k2, hk2⟩ : ∃ k2 : KS, ({ k with fs := (tWrite k.fs 1 d.x.f 0 bs).2 } : KS) = k2 := ⟨_, rfl⟩
  rw [hk2] at HW H
  have n0 : decide (n < 0) = false := by simpa using hn0
  have n1 : decide (256 < n) = false := by simpa using hn1
  have hi1 := (List.getElem?_eq_some_iff.1 hd).1
  have HOWN := Lib.hid hown
  clear h h0 hN hu hf ht hn0 hn1 hm hpg hr hre hD1 hbs hd hFI hk2 hown
  go_enter Tryz.func26, Tryz.ntmps26
  go_upto_region 1 with (fail)
  refine genV (fun W => ∃ pb, w.heap.size = pb ∧ Hid (Kp [] w W ∧ Bk W pb 85 [.int .i64 ev, .int .i64 od])) ⟨_, rfl, Lib.hid ⟨(Kp.refl _ _).alloc _, (Bk.new' _ _ _).cast rfl⟩⟩ ?_
  rintro W0 ⟨pb, hpb, hW0⟩
  rw [hpb]
  have HPB : Hid (pb ∉ qa.both q) := Lib.hid (fun hm => by have := HOWN.out pb hm; omega)
  clear hpb HOWN
  have gw : W0.cell? ⟨qa.g, 1, none⟩ = some (.slice (some ⟨qa.l, 0, none⟩) N qa.lc) := by have := (HK.out.kp hW0.out.1).ql.g.cell 1; rw [HN.out] at this; exact this
  go_wp2
  go_loopw [10, 11] (fun av iv wr => ∃ (i : Nat) (o : Option Nat), i ≤ N ∧ iv = .int .i64 i ∧ av = .int .i64 (idxV o) ∧ Hid (Kp [] w wr ∧ Bk wr pb 85 [.int .i64 ev, .int .i64 od]) ∧ Hid (dLast b D.sl i o)) (fun _ iv _ => N - (intOf iv).toNat)
  case atStart => exact ⟨0, none, Nat.zero_le _, rfl, rfl, hW0, Lib.hid (by intro j y hj; omega)⟩
  case round =>
    obtain ⟨i, o, hi, rfl, rfl, kr, hno⟩ := hrel
    clear gw
    have g1 : wr.cell? ⟨qa.g, 1, none⟩ = some (.slice (some ⟨qa.l, 0, none⟩) N qa.lc) := by have := (HK.out.kp kr.out.1).ql.g.cell 1; rw [HN.out] at this; exact this
    by_cases hlt : i < N
    · obtain ⟨d2, hx, hm⟩ := get_lt (l := D.sl) (k := i) (by have := HN.out; omega)
      obtain ⟨c0, c1, c2, c3, c4, c5, c6, c7⟩ := (HK.out.kp kr.out.1).ql.cells hx
      have HX := Lib.hid hx
      clear c0 c3 c4 c5 c6 c7 hx hm
      have HS : Hid (hasB b d2.x = false → dLast b D.sl (i + 1) o) := Lib.hid (fun hf => by
        have h1 := hno.out
        cases o with
        | none =>
          intro j y hj hy
          by_cases hji : j < i
          · exact h1 j y hji hy
          · obtain rfl : j = i := by omega
            rw [HX.out] at hy; injection hy with hy; subst hy; exact hf
        | some j => exact ⟨by have := h1.1; omega, h1.2⟩)
      by_cases hf : (d2.x.kd == 1) = true
      · by_cases hp : (d2.x.bl == b) = true
        · have HS2 : Hid (dLast b D.sl (i + 1) (some i)) := Lib.hid ⟨by omega, d2, HX.out, by unfold hasB; rw [hf, hp]; rfl⟩
          clear HS
          go_wp2
          exact ⟨⟨i + 1, some i, by omega, by go_num, rfl, kr, HS2⟩, by simp [intOf]; omega⟩
        · have hp' : (d2.x.bl == b) = false := by simpa using hp
          have HS2 := Lib.hid (HS.out (by unfold hasB; rw [hp']; simp))
          clear HS hp
          go_wp2
          exact ⟨⟨i + 1, o, by omega, by go_num, rfl, kr, HS2⟩, by simp [intOf]; omega⟩
      · have hf' : (d2.x.kd == 1) = false := by simpa using hf
        have HS2 := Lib.hid (HS.out (by unfold hasB; rw [hf']; rfl))
        clear HS hf
        go_wp2
        exact ⟨⟨i + 1, o, by omega, by go_num, rfl, kr, HS2⟩, by simp [intOf]; omega⟩
    · obtain rfl : i = N := by omega
      have e := dLast_fin HU.out HN.out.symm hno.out
      rw [HF.out] at e
      subst e
      have hv : idxV none = (-1 : Int) := rfl
      rw [hv]
      clear HK HU HF hno
      have hv1 : ¬ ((i1 : Int) < 0) := by omega
      go_upto_region 11 with (go_at_call 79; ((refine HT.out _ _ kr.out.1 ?_); intro w5 k5 z5))
      have K5 := Lib.hid (And.intro ((kr.out.1.mono (S' := qa.both q) (by simp)).thn k5 (fun s h => .inl h)) (And.intro z5 (kr.out.2.kp k5 HPB.out)))
      have g0 : w5.cell? ⟨qa.g, 0, none⟩ = some (.pointer (some ⟨q.g, 0, none⟩)) := z5.ql.g.cell 0
      clear k5 z5 HT kr
      go_upto_region 16 with (go_at_call 11; ((refine HC.out _ _ K5.out.2.1 ?_); intro q6 w6 h6))
      have HQ6 : Hid (q6.own = q.own ∧ q6.bM = q.bM ∧ q6.bD = q.bD ∧ q6.g = q.g) := Lib.hid ⟨h6.out.2.2.1, h6.out.2.2.2.1, h6.out.2.2.2.2, by have := congrArg (·.head?) h6.out.2.2.1; simpa [QA.own] using this⟩
      have HBO : Hid (qa.both q6 = qa.both q) := Lib.hid (by unfold QPA.both; rw [HQ6.out.1])
      have K6 := Lib.hid (And.intro (K5.out.1.thn h6.out.1 (fun s h => .inl h)) (And.intro h6.out.2.1 (K5.out.2.2.kp h6.out.1 HPB.out)))
      have g3 : w6.cell? ⟨qa.g, 3, none⟩ = some (.int .i64 FI) := by have := K6.out.2.1.ql.g.cell 3; simpa [HFI.out] using this
      have f3 := K6.out.2.1.ql.g.frozen 3
      clear h6 HC K5 g0
      go_upto_region 17 with (fail)
      refine genV (fun W => Hid (Kp (qa.both q) w W ∧ QKP w0 B W q6 k qa { D1 with fills := FI + 1 } ∧ Bk W pb 85 [.int .i64 ev, .int .i64 od])) (by
        obtain ⟨u1, u2, u3⟩ := K6.out
        obtain ⟨z1, z2⟩ := u2.putG 3 (.int .i64 (FI + 1)) (D' := { D1 with fills := FI + 1 }) rfl u2.ql.hh rfl
        rw [HBO.out] at z2
        exact Lib.hid ⟨u1.thn z2 (fun s h => .inl h), z1, u3.kp z2 HPB.out⟩) ?_
      intro W2 hW2
      clear g3 f3 K6
      have HX2 : Hid (({ D1 with fills := FI + 1 } : DP).sl[i1]? = some d) := HD
      have HW2 : Hid (∀ (R : Ending → World → Prop), (∀ q7 w', Hid (Kp (qa.both q) w w' ∧ QKP w0 B w' q7 k2 qa { D1 with fills := FI + 1 } ∧ Bk w' pb 85 [.int .i64 ev, .int .i64 od]) → Hid (q7.own = q.own ∧ q7.bM = q.bM ∧ q7.bD = q.bD) → R (.returned (.tuple #[])) w') → Calls Tryz.prog 80 #[.pointer (some ⟨qa.g, 0, none⟩), .int .i64 i1, .string (S bs)] W2 R) := Lib.hid (fun R h => HW.out R W2 q6 _ hW2.out.2.1 HX2.out (fun q7 w7 h7 => by
        obtain ⟨a1, a2, a3, a4, a5⟩ := h7.out
        rw [HBO.out] at a1
        exact h q7 w7 (Lib.hid ⟨hW2.out.1.thn a1 (fun s h => .inl h), a2, hW2.out.2.2.kp a1 HPB.out⟩) (Lib.hid ⟨a3.trans HQ6.out.1, a4.trans HQ6.out.2.1, a5.trans HQ6.out.2.2.1⟩)))
      clear HW
      go_upto_region 18 with (go_at_call 80; ((refine HW2.out _ ?_); intro q7 w7 h7 e7))
      have HBO7 : Hid (qa.both q7 = qa.both q) := Lib.hid (by unfold QPA.both; rw [e7.out.1])
      obtain ⟨c0, c1, c2, c3, c4, c5, c6, c7⟩ := h7.out.2.1.ql.cells HX2.out
      have f9 := h7.out.2.1.ql.free
      have g1 : w7.cell? ⟨qa.g, 1, none⟩ = some (.slice (some ⟨qa.l, 0, none⟩) D1.sl.length qa.lc) := h7.out.2.1.ql.g.cell 1
      clear HW2 hW2
      go_upto_region 21 with (fail)
      refine genV (fun W => Hid (Kp (qa.both q) w W ∧ QKP w0 B W q7 k2 qa { D1 with sl := D1.sl.set i1 ⟨⟨d.x.f, 1, b, d.x.pi, n, re, im, d.x.ma⟩, d.ev, d.od⟩, fills := FI + 1 } ∧ Bk W pb 85 [.int .i64 ev, .int .i64 od])) (by
        obtain ⟨u1, u2, u3⟩ := h7.out
        have hi := (List.getElem?_eq_some_iff.1 HX2.out).1
        have at_ : ∀ y : DSl, (D1.sl.set i1 y)[i1]? = some y := fun y => by simp [show i1 < D1.sl.length from hi]
        obtain ⟨⟨f', kd', bl', pi', n', re', im', ma'⟩, ev', od'⟩ := d
        obtain ⟨z1, v1⟩ := u2.put HX2.out (x' := ⟨⟨f', 1, bl', pi', n', re', im', ma'⟩, ev', od'⟩) (j := 1) (v := .int .i64 1) (by omega) rfl rfl
        obtain ⟨z2, v2⟩ := z1.put (at_ _) (x' := ⟨⟨f', 1, b, pi', n', re', im', ma'⟩, ev', od'⟩) (j := 2) (v := .int .i64 b) (by omega) rfl rfl
        simp only [List.set_set] at z2
        obtain ⟨z3, v3⟩ := z2.put (at_ _) (x' := ⟨⟨f', 1, b, pi', n, re, im, ma'⟩, ev', od'⟩) (j := 4) (v := .int .i64 n) (by omega) rfl rfl
        simp only [List.set_set] at z3
        rw [HBO7.out] at v1 v2 v3
        exact Lib.hid ⟨((u1.thn v1 (fun s h => .inl h)).thn v2 (fun s h => .inl h)).thn v3 (fun s h => .inl h), z3, ((u3.kp v1 HPB.out).kp v2 HPB.out).kp v3 HPB.out⟩) ?_
      intro W4 hW4
      clear c0 c1 c2 c3 c4 c5 c6 c7 f9 g1 h7
      have hi4 : (D1.sl.set i1 ⟨⟨d.x.f, 1, b, d.x.pi, n, re, im, d.x.ma⟩, d.ev, d.od⟩)[i1]? = some ⟨⟨d.x.f, 1, b, d.x.pi, n, re, im, d.x.ma⟩, d.ev, d.od⟩ := by
        have hi := (List.getElem?_eq_some_iff.1 HX2.out).1
        simp [show i1 < D1.sl.length from hi]
      have HX4 := Lib.hid hi4
      obtain ⟨c0, c1, c2, c3, c4, c5, c6, c7⟩ := hW4.out.2.1.ql.cells hi4
      have f9 := hW4.out.2.1.ql.free
      have g1 : W4.cell? ⟨qa.g, 1, none⟩ = some (.slice (some ⟨qa.l, 0, none⟩) (D1.sl.set i1 ⟨⟨d.x.f, 1, b, d.x.pi, n, re, im, d.x.ma⟩, d.ev, d.od⟩).length qa.lc) := hW4.out.2.1.ql.g.cell 1
      rw [List.length_set] at g1
      have b0 : W4.cell? ⟨pb, 0, none⟩ = some (.int .i64 ev) := hW4.out.2.2.cell 0
      have b1 : W4.cell? ⟨pb, 1, none⟩ = some (.int .i64 od) := hW4.out.2.2.cell 1
      clear hi4 c0 c1 c2 c3 c4 c7
      go_region
      go_upto_region 22 with (fail)
      refine genV (fun W => Hid (Kp (qa.both q) w W ∧ QKP w0 B W q7 k2 qa { D1 with sl := D1.sl.set i1 ⟨⟨d.x.f, 1, b, d.x.pi, n, re, im, d.x.ma⟩, ev, od⟩, fills := FI + 1 })) (by
        obtain ⟨u1, u2, u3⟩ := hW4.out
        have hi := (List.getElem?_eq_some_iff.1 HX2.out).1
        have at_ : ∀ y : DSl, (D1.sl.set i1 y)[i1]? = some y := fun y => by simp [show i1 < D1.sl.length from hi]
        obtain ⟨z1, v1⟩ := u2.put HX4.out (x' := ⟨⟨d.x.f, 1, b, d.x.pi, n, re, im, d.x.ma⟩, ev, d.od⟩) (j := 5) (v := .int .i64 ev) (by omega) rfl rfl
        simp only [List.set_set] at z1
        obtain ⟨z2, v2⟩ := z1.put (at_ _) (x' := ⟨⟨d.x.f, 1, b, d.x.pi, n, re, im, d.x.ma⟩, ev, od⟩) (j := 6) (v := .int .i64 od) (by omega) rfl rfl
        simp only [List.set_set] at z2
        rw [HBO7.out] at v1 v2
        have kd := (Kp.refl [] ((W4.setCell ⟨qa.l, i1 * 8 + 5, none⟩ (.int .i64 ev)).setCell ⟨qa.l, i1 * 8 + 6, none⟩ (.int .i64 od))).drew
        exact Lib.hid ⟨((u1.thn v1 (fun s h => .inl h)).thn v2 (fun s h => .inl h)).thn kd (by simp), z2.kp kd⟩) ?_
      intro W5 hW5
      clear c5 c6 f9 g1 b0 b1 hW4 HX4
      have hi5 : (D1.sl.set i1 ⟨⟨d.x.f, 1, b, d.x.pi, n, re, im, d.x.ma⟩, ev, od⟩)[i1]? = some ⟨⟨d.x.f, 1, b, d.x.pi, n, re, im, d.x.ma⟩, ev, od⟩ := by
        have hi := (List.getElem?_eq_some_iff.1 HX2.out).1
        simp [show i1 < D1.sl.length from hi]
      have HX5 := Lib.hid hi5
      obtain ⟨c0, c1, c2, c3, c4, c5, c6, c7⟩ := hW5.out.2.ql.cells hi5
      have f9 := hW5.out.2.ql.free
      have g1 : W5.cell? ⟨qa.g, 1, none⟩ = some (.slice (some ⟨qa.l, 0, none⟩) (D1.sl.set i1 ⟨⟨d.x.f, 1, b, d.x.pi, n, re, im, d.x.ma⟩, ev, od⟩).length qa.lc) := hW5.out.2.ql.g.cell 1
      rw [List.length_set] at g1
      simp only at c0 c3 c7
      clear hi5 c1 c2 c4 c5 c6
      have Z : Hid (Kp (qa.both q) w ((W5.setCell ⟨qa.l, i1 * 8 + 3, none⟩ (.int .i64 (d.x.pi + 1))).setCell ⟨qa.l, i1 * 8 + 7, none⟩ (.bool true)) ∧ QKP w0 B ((W5.setCell ⟨qa.l, i1 * 8 + 3, none⟩ (.int .i64 (d.x.pi + 1))).setCell ⟨qa.l, i1 * 8 + 7, none⟩ (.bool true)) q7 k2 qa { D1 with sl := D1.sl.set i1 ⟨⟨d.x.f, 1, b, d.x.pi + 1, n, re, im, true⟩, ev, od⟩, fills := FI + 1 }) := Lib.hid (by
        have hi := (List.getElem?_eq_some_iff.1 HX2.out).1
        have at_ : ∀ y : DSl, (D1.sl.set i1 y)[i1]? = some y := fun y => by simp [show i1 < D1.sl.length from hi]
        obtain ⟨z1, v1⟩ := hW5.out.2.put HX5.out (x' := ⟨⟨d.x.f, 1, b, d.x.pi + 1, n, re, im, d.x.ma⟩, ev, od⟩) (j := 3) (v := .int .i64 (d.x.pi + 1)) (by omega) rfl rfl
        simp only [List.set_set] at z1
        obtain ⟨z2, v2⟩ := z1.put (at_ _) (x' := ⟨⟨d.x.f, 1, b, d.x.pi + 1, n, re, im, true⟩, ev, od⟩) (j := 7) (v := .bool true) (by omega) rfl rfl
        simp only [List.set_set] at z2
        rw [HBO7.out] at v1 v2
        exact ⟨(hW5.out.1.thn v1 (fun s h => .inl h)).thn v2 (fun s h => .inl h), z2⟩)
      go_wp2
      exact H.out q7 _ Z.out.1 (by rw [HFI.out]; exact Z.out.2) e7.out.1 e7.out.2
end
end
end Go.Proofs.YtedblbpmlbjnhaaGreat
