/- The document's table: New, FreeCount. The walks of a ring of bytes. -/
import Derived.Test.YtedblbpmlbjnhaaGreatPD13
import Derived.Test.YtedblbpmlbjnhaaGreatPD5
import Derived.Test.YtedblbpmlbjnhaaGreatPD12
import Derived.BigQuiet
namespace Go.Proofs.YtedblbpmlbjnhaaGreat
/-! ### The document's table: New, FreeCount. -/
section
open Go.RowKit
set_option linter.unusedVariables false
set_option linter.unusedSimpArgs false
set_option maxRecDepth 100000
section
variable {R : Ending → World → Prop} {bM bO bH bB : Nat} {fs : List Fr} {w : World}
theorem elt_int : Elt Tryz.prog 71 3 (.int .i64 0) 1 8 := ⟨Tryz.underlying71, by kernel_rfl, rfl, by decide, by decide⟩
theorem elt_str : Elt Tryz.prog 63 9 (.string ByteArray.empty) 1 16 := ⟨Tryz.underlying63, by kernel_rfl, rfl, by decide, by decide⟩
def zB : List UInt8 := List.replicate 256 0
set_option maxHeartbeats 800000 in
theorem blank_any (w : World) (h : ∀ w', Kp [] w w' → R (.returned (.string (S zB))) w') : Calls Tryz.prog 93 #[] w R := by
  have H := Lib.hid h
  clear h
  obtain ⟨i0, hi, hz0, hz1, hz2⟩ := info_parts elt_u8.2.1
  have hmk := fun W => run_make (P := Tryz.prog) W 37 5 i0 _ Tryz.underlying37 hi hz0 .i64 .i64 256 256 (by omega) (by omega) (by rw [hz2]; omega) (by omega)
  simp only [Value.cells, hz1] at hmk
  clear hi hz0 hz1 hz2
  have e : (madeCells #[Value.int .u8 0] (256 * 1)).toList = bts zB := by kernel_rfl
  have hb : Bk (w.alloc (.cells (madeCells #[Value.int .u8 0] (256 * 1)) 5)) w.heap.size 5 (bts zB) := (Bk.newAt rfl _ _).cast e
  have hcv := conv_bs (c := 256) (n := 256) (N := []) (l := zB) (Rd.of_bk hb (by simp)) rfl
  clear hb e
  go_enter Tryz.func93, Tryz.ntmps93
  go_wp2
  exact H.out _ ((Kp.refl _ _).alloc _)
def zI (k : Nat) : List Value := List.replicate k (.int .i64 0)
def zS (k : Nat) : List Value := List.replicate k (.string (S zB))
theorem zI_succ (k : Nat) : zI k ++ [.int .i64 0] = zI (k + 1) := by simp [zI, List.replicate_succ']
theorem zS_succ (k : Nat) : zS k ++ [.string (S zB)] = zS (k + 1) := by simp [zS, List.replicate_succ']
set_option maxHeartbeats 2000000 in
theorem rnew_any (n : Nat) (h1 : 1 ≤ n) (h2 : n ≤ 256) (h : ∀ bM bO bH bB w', w.heap.size ≤ bM → w.heap.size ≤ bO → w.heap.size ≤ bH → w.heap.size ≤ bB → Kp [] w w' → RT w' bM bO bH bB (List.replicate n fz) → R (.returned (.pointer (some ⟨bM, 0, none⟩))) w') :
    Calls Tryz.prog 45 #[.int .i64 n] w R := by
  have H := Lib.hid h
  clear h
  go_enter Tryz.func45, Tryz.ntmps45
  go_wp2
  have hb : Bk (w.alloc (.cells #[.slice none 0 0, .slice none 0 0, .slice none 0 0] 157)) w.heap.size 157 [.slice none 0 0, .slice none 0 0, .slice none 0 0] := Bk.newAt rfl _ _
  have k1 : Kp [] w (w.alloc (.cells #[.slice none 0 0, .slice none 0 0, .slice none 0 0] 157)) := (Kp.refl _ _).alloc _
  obtain ⟨g, hg⟩ : ∃ g, w.heap.size = g := ⟨_, rfl⟩
  rw [hg] at hb ⊢
  generalize w.alloc (.cells #[.slice none 0 0, .slice none 0 0, .slice none 0 0] 157) = w1 at *
  go_loopw [4] (fun iv wr => ∃ (k : Nat) (A0 A1 A2 : Option Addr) (c0 c1 c2 : Nat), k ≤ n ∧ iv = .int .i64 k ∧ Bk wr g 157 [.slice A0 k c0, .slice A1 k c1, .slice A2 k c2] ∧ Ow wr 3 1 A0 k c0 (zI k) ∧ Ow wr 3 1 A1 k c1 (zI k) ∧ Ow wr 9 1 A2 k c2 (zS k) ∧ (∀ b ∈ bks A0, g < b ∧ b ∉ bks A1 ∧ b ∉ bks A2) ∧ (∀ b ∈ bks A1, g < b ∧ b ∉ bks A2) ∧ (∀ b ∈ bks A2, g < b) ∧ Kp [] w wr) (fun iv _ => n - (intOf iv).toNat)
  case atStart => exact ⟨0, none, none, none, 0, 0, 0, Nat.zero_le _, rfl, hb, Ow.nil, Ow.nil, Ow.nil, by simp [bks], by simp [bks], by simp [bks], k1⟩
  case round =>
    obtain ⟨k, A0, A1, A2, c0, c1, c2, hk, rfl, hb, ho0, ho1, ho2, hA0, hA1, hA2, kr⟩ := hrel
    by_cases hlt : k < n
    · have f0 := hb.cell 0
      simp only [List.getElem?_cons_zero] at f0
      have f0a := fun o => (hb.alloc o).cell 0
      simp only [List.getElem?_cons_zero] at f0a
      go_upto_region 6 with (at_builtin; refine wpList_app _ rfl (.tmp 16) (.tmp 17) _ rfl elt_int A0 k c0 _ rfl (ho0.alloc _) [] (some ⟨wr.heap.size, 0, none⟩) 1 1 [.int .i64 0] rfl (Rd.of_bk (Bk.newAt rfl _ _) (by simp)) rfl (by simp [Value.oneCell']) (by omega) ?_; intro A5 d0 w5 ho5 hk5 hA5; have hb5 := (hb.alloc (.cells #[.int .i64 0] 3)).kp hk5 (fun hm => Nat.lt_irrefl _ (hA0 _ hm).1); have z5 := hb5.frozen 0; have y5 := hb5.cell 0; simp only [List.getElem?_cons_zero] at y5)
      have hb6 := hb5.set_ 0 (.slice A5 (k + 1) d0)
      have krs := kr.size
      have kp6 : Kp (g :: bks A0) wr (w5.setCell ⟨g, 0, none⟩ (.slice A5 (k + 1) d0)) := ((((Kp.refl _ wr).alloc (.cells #[.int .i64 0] 3)).thn hk5 (fun s hs => .inl (List.mem_cons_of_mem _ hs)))).setCell (.inl (by simp)) _
      have gA0 : ∀ b ∈ bks A0, g < b := fun b h => (hA0 b h).1
      have gA1 : ∀ b ∈ bks A1, g < b := fun b h => (hA1 b h).1
      have gA2 : ∀ b ∈ bks A2, g < b := hA2
      have d01 : ∀ b ∈ bks A0, b ∉ bks A1 := fun b h => (hA0 b h).2.1
      have d02 : ∀ b ∈ bks A0, b ∉ bks A2 := fun b h => (hA0 b h).2.2
      have d12 : ∀ b ∈ bks A1, b ∉ bks A2 := fun b h => (hA1 b h).2
      have hb0 : g < wr.heap.size := hb.lt
      have lt1 := ho1.lt
      have lt2 := ho2.lt
      have gA5 : ∀ b ∈ bks A5, g < b ∧ b ∉ bks A1 ∧ b ∉ bks A2 := fun b hm => by
        rcases hA5 with rfl | rfl
        · exact ⟨gA0 b hm, d01 b hm, d02 b hm⟩
        · simp [bks] at hm; subst hm
          exact ⟨by omega, fun h => by have := lt1 _ h; omega, fun h => by have := lt2 _ h; omega⟩
      have ho1' := ho1.kp kp6 (fun b h1 h2 => (List.mem_cons.1 h2).elim (fun e => by have := gA1 b h1; omega) (fun h => d01 b h h1))
      have ho2' := ho2.kp kp6 (fun b h1 h2 => (List.mem_cons.1 h2).elim (fun e => by have := gA2 b h1; omega) (fun h => d02 b h h1))
      have ho0' := (ho5.kp ((Kp.refl [g] w5).setCell (p := ⟨g, 0, none⟩) (.inl (by simp)) (.slice A5 (k + 1) d0)) (fun b hm h2 => by have := (gA5 b hm).1; simp at h2; omega)).cast rfl (zI_succ k)
      have kr6 : Kp [] w (w5.setCell ⟨g, 0, none⟩ (.slice A5 (k + 1) d0)) := kr.thn kp6 (fun s hs => .inr ((List.mem_cons.1 hs).elim (fun e => by omega) (fun h => by have := gA0 s h; omega)))
      clear hb ho0 ho1 ho2 hb5 z5 y5 f0 f0a ho5 hA0 hA1 hA2 kr krs d01 d02 hA5 hk5 kp6 lt1 lt2 hb0
      generalize w5.setCell ⟨g, 0, none⟩ (.slice A5 (k + 1) d0) = w6 at *
      simp only [List.set_cons_zero] at hb6
      have f1 := fun o => (hb6.alloc o).cell 1
      have f1' := hb6.cell 1
      simp only [List.getElem?_cons_zero, List.getElem?_cons_succ] at f1 f1'
      go_upto_region 7 with (at_builtin; refine wpList_app _ rfl (.tmp 25) (.tmp 26) _ rfl elt_int A1 k c1 _ rfl (ho1'.alloc _) [] (some ⟨w6.heap.size, 0, none⟩) 1 1 [.int .i64 0] rfl (Rd.of_bk (Bk.newAt rfl _ _) (by simp)) rfl (by simp [Value.oneCell']) (by omega) ?_; intro A7 d1 w7 ho7 hk7 hA7; have hb7 := (hb6.alloc (.cells #[.int .i64 0] 3)).kp hk7 (fun hm => Nat.lt_irrefl _ (gA1 _ hm)); have z7 := hb7.frozen 1; have y7 := hb7.cell 1; simp only [List.getElem?_cons_zero, List.getElem?_cons_succ] at y7)
      have hb8 := hb7.set_ 1 (.slice A7 (k + 1) d1)
      have krs := kr6.size
      have kp8 : Kp (g :: bks A1) w6 (w7.setCell ⟨g, 1, none⟩ (.slice A7 (k + 1) d1)) := ((((Kp.refl _ w6).alloc (.cells #[.int .i64 0] 3)).thn hk7 (fun s hs => .inl (List.mem_cons_of_mem _ hs)))).setCell (.inl (by simp)) _
      have hb0 : g < w6.heap.size := hb6.lt
      have lt0 := ho0'.lt
      have lt2 := ho2'.lt
      have gA7 : ∀ b ∈ bks A7, g < b ∧ b ∉ bks A5 ∧ b ∉ bks A2 := fun b hm => by
        rcases hA7 with rfl | rfl
        · exact ⟨gA1 b hm, fun h => (gA5 b h).2.1 hm, d12 b hm⟩
        · simp [bks] at hm; subst hm
          exact ⟨by omega, fun h => by have := lt0 _ h; omega, fun h => by have := lt2 _ h; omega⟩
      have ho1'' := (ho7.kp ((Kp.refl [g] w7).setCell (p := ⟨g, 1, none⟩) (.inl (by simp)) (.slice A7 (k + 1) d1)) (fun b hm h2 => by have := (gA7 b hm).1; simp at h2; omega)).cast rfl (zI_succ k)
      have ho2'' := ho2'.kp kp8 (fun b h1 h2 => (List.mem_cons.1 h2).elim (fun e => by have := gA2 b h1; omega) (fun h => d12 b h h1))
      have ho0'' := ho0'.kp kp8 (fun b h1 h2 => (List.mem_cons.1 h2).elim (fun e => by have := (gA5 b h1).1; omega) (fun h => (gA5 b h1).2.1 h))
      have kr8 : Kp [] w (w7.setCell ⟨g, 1, none⟩ (.slice A7 (k + 1) d1)) := kr6.thn kp8 (fun s hs => .inr ((List.mem_cons.1 hs).elim (fun e => by omega) (fun h => by have := gA1 s h; omega)))
      clear hb6 ho1' ho2' ho0' hb7 z7 y7 f1 f1' ho7 kr6 krs hA7 hk7 kp8 lt0 lt2 hb0
      generalize w7.setCell ⟨g, 1, none⟩ (.slice A7 (k + 1) d1) = w8 at *
      simp only [List.set_cons_zero, List.set_cons_succ] at hb8
      have gA5' : ∀ b ∈ bks A5, g < b := fun b h => (gA5 b h).1
      have d57 : ∀ b ∈ bks A5, b ∉ bks A7 := fun b h h2 => (gA7 b h2).2.1 h
      have d52 : ∀ b ∈ bks A5, b ∉ bks A2 := fun b h => (gA5 b h).2.2
      have gA7' : ∀ b ∈ bks A7, g < b := fun b h => (gA7 b h).1
      have d72 : ∀ b ∈ bks A7, b ∉ bks A2 := fun b h => (gA7 b h).2.2
      clear gA5 gA7 gA0 gA1 d12
      have HB8 := Lib.hid hb8
      have HO2 := Lib.hid ho2''
      have f2 := hb8.drew.cell 2
      have f2a := fun o => (hb8.drew.alloc o).cell 2
      simp only [List.getElem?_cons_zero, List.getElem?_cons_succ] at f2 f2a
      go_wp2
      go_region_law (first | (go_simp; go_at_call 93; (refine blank_any _ ?_); intro w9 k9; have f9 := (HB8.out.drew.kp k9 (by simp)).cell 2; have f9a := fun o => ((HB8.out.drew.kp k9 (by simp)).alloc o).cell 2; simp only [List.getElem?_cons_zero, List.getElem?_cons_succ] at f9 f9a) | (refine step_app rfl (.tmp 34) (.tmp 36) _ rfl elt_str A2 k c2 _ (by simp [Act.eval, Act.put]) ((HO2.out.drew.kp k9 (by simp)).alloc _) [] (some ⟨w9.heap.size, 0, none⟩) 1 1 [.string (S zB)] (by simp [Act.eval, Act.put]) (Rd.of_bk (Bk.newAt rfl _ _) (by simp)) rfl (by simp [Value.oneCell']) (by omega) ?_; intro A10 d2 w10 ho10 hk10 hA10; have hb10 := ((HB8.out.drew.kp k9 (by simp)).alloc (.cells #[.string (S zB)] 9)).kp hk10 (fun hm => Nat.lt_irrefl _ (gA2 _ hm)); have z10 := hb10.frozen 2; have y10 := hb10.cell 2; simp only [List.getElem?_cons_zero, List.getElem?_cons_succ] at y10))
      all_goals
        have hb12 := hb10.set_ 2 (.slice A10 (k + 1) d2)
        have kp10 : Kp (g :: bks A2) w8 w10 := (((Kp.refl _ w8).drew.trans (k9.mono (by simp))).alloc _).thn hk10 (fun s hs => .inl (List.mem_cons_of_mem _ hs))
        have kp12 : Kp (g :: bks A2) w8 (w10.setCell ⟨g, 2, none⟩ (.slice A10 (k + 1) d2)) := kp10.setCell (.inl (by simp)) _
        have krs := kr8.size
        have k89 : w8.heap.size ≤ w9.heap.size := k9.size
        have hb0 : g < w8.heap.size := hb8.lt
        have lt0 := ho0''.lt
        have lt1 := ho1''.lt
        have gA10 : ∀ b ∈ bks A10, g < b ∧ b ∉ bks A5 ∧ b ∉ bks A7 := fun b hm => by
          rcases hA10 with rfl | rfl
          · exact ⟨gA2 b hm, fun h => d52 b h hm, fun h => d72 b h hm⟩
          · simp [bks] at hm; subst hm
            exact ⟨by omega, fun h => by have := lt0 _ h; omega, fun h => by have := lt1 _ h; omega⟩
        have q0 := ho0''.kp kp12 (fun b h1 h2 => (List.mem_cons.1 h2).elim (fun e => by have := gA5' b h1; omega) (fun h => d52 b h1 h))
        have q1 := ho1''.kp kp12 (fun b h1 h2 => (List.mem_cons.1 h2).elim (fun e => by have := gA7' b h1; omega) (fun h => d72 b h1 h))
        have q2 := (ho10.kp ((Kp.refl [g] w10).setCell (p := ⟨g, 2, none⟩) (.inl (by simp)) (.slice A10 (k + 1) d2)) (fun b hm h2 => by have := (gA10 b hm).1; simp at h2; omega)).cast rfl (zS_succ k)
        have kr12 := kr8.thn kp12 (fun s hs => .inr ((List.mem_cons.1 hs).elim (fun e => by omega) (fun h => by have := gA2 s h; omega)))
        simp only [List.set_cons_zero, List.set_cons_succ] at hb12
        go_wp2
        exact ⟨⟨k + 1, A5, A7, A10, d0, d1, d2, by omega, by go_num, hb12, q0, q1, q2, fun b h => ⟨gA5' b h, d57 b h, fun h2 => (gA10 b h2).2.1 h⟩, fun b h => ⟨gA7' b h, fun h2 => (gA10 b h2).2.2 h⟩, fun b h => (gA10 b h).1, kr12⟩, by simp [intOf]; omega⟩
    · obtain rfl : k = n := by omega
      obtain ⟨bO, rfl, t0⟩ := ho0.tw h1
      obtain ⟨bH, rfl, t1⟩ := ho1.tw h1
      obtain ⟨bB, rfl, t2⟩ := ho2.tw h1
      have g0 := (hA0 bO (by simp [bks])).1
      have g1 := (hA1 bH (by simp [bks])).1
      have g2 := hA2 bB (by simp [bks])
      have hne : bO ≠ bH := by have := (hA0 bO (by simp [bks])).2.1; simpa [bks] using this
      have hrt : RT wr g bO bH bB (List.replicate k fz) := ⟨⟨c0, c1, c2, by rw [List.length_replicate]; exact hb⟩, t0.cast (by simp [zI, owV, fz]), t1.cast (by simp [zI, hoV, fz]), t2.cast (by simp [zS, bsV, fz, zB]), hne, by simpa using h2⟩
      go_wp2
      exact H.out g bO bH bB _ (by omega) (by omega) (by omega) (by omega) kr hrt
set_option maxHeartbeats 800000 in
theorem rcount_any (hT : RT w bM bO bH bB fs) (h : R (.returned (.int .i64 (tCount fs))) w) :
    Calls Tryz.prog 69 #[.pointer (some ⟨bM, 0, none⟩)] w R := by
  have hn := hT.n1
  obtain ⟨c0, c1, c2, ht⟩ := hT.t
  have f0 := ht.cell 0
  simp only [List.getElem?_cons_zero] at f0
  have H := Lib.hid h
  have HT := Lib.hid hT
  clear h ht hT
  go_enter Tryz.func69, Tryz.ntmps69
  go_wp2
  go_loop [3, 4] (fun c i => ∃ k : Nat, k ≤ fs.length ∧ i = .int .i64 k ∧ c = .int .i64 (tCount (fs.take k))) (fun _ i => fs.length - (intOf i).toNat)
  case atStart => exact ⟨0, Nat.zero_le _, rfl, rfl⟩
  case round =>
    obtain ⟨k, hk, rfl, rfl⟩ := hrel
    have hq : tCount (fs.take k) ≤ k := Nat.le_trans (tCount_le _) (List.length_take_le _ _)
    by_cases hlt : k < fs.length
    · have hs := tCount_snoc hlt
      obtain ⟨x, hx⟩ : ∃ x, fs[k]? = some x := ⟨_, List.getElem?_eq_getElem hlt⟩
      have c0 := HT.out.ow hx
      have e : tOwner fs k = x.ow := by unfold tOwner fat; rw [if_pos (by omega), Int.toNat_natCast, hx]
      rw [e] at hs
      have HS := Lib.hid hs
      clear hs e
      by_cases h0 : x.ow = 0
      · have b0 : (x.ow == 0) = true := by simpa using h0
        have HS2 := Lib.hid (show tCount (fs.take (k + 1)) = tCount (fs.take k) + 1 by rw [HS.out, if_pos h0])
        clear h0
        go_wp2
        exact ⟨⟨k + 1, by omega, by go_num, icast (by have := HS2.out; omega)⟩, by simp [intOf]; omega⟩
      · have b0 : (x.ow == 0) = false := by simpa using h0
        have HS2 := Lib.hid (show tCount (fs.take (k + 1)) = tCount (fs.take k) by rw [HS.out, if_neg h0]; rfl)
        clear h0
        go_wp2
        exact ⟨⟨k + 1, by omega, by go_num, icast (by have := HS2.out; omega)⟩, by simp [intOf]; omega⟩
    · obtain rfl : k = fs.length := by omega
      go_wp2
      exact H.out
end
end
/-! ### The walks of a ring of bytes. -/
section
open Go.RowKit Go.Shelf
set_option linter.unusedVariables false
set_option linter.unusedSimpArgs false
set_option maxRecDepth 100000

/-- Bytes in memory. -/
structure Sl where
  A : Option Addr
  n : Nat
  c : Nat
  l : List UInt8
def Sl.v (x : Sl) : Value := .slice x.A x.n x.c
structure Rb (w : World) (s r f : Nat) (q : List Sl) : Prop where
  hs : Bk w s 199 [.slice (some ⟨r, 0, none⟩) 16 16, .int .i64 f, .int .i64 (f + q.length : Nat)]
  hr : ∃ cs, Bk w r 37 cs ∧ cs.length = 16 ∧ ∀ i x, q[i]? = some x → cs[(f + i) % 16]? = some x.v
  room : q.length ≤ 16
  data : ∀ x ∈ q, x.l.length = x.n ∧ x.n ≤ 1024 ∧ Tb w 5 x.A (bts x.l)
section
variable {R : Ending → World → Prop} {w : World} {s r f : Nat} {q : List Sl}
theorem Rb.off {w' : World} {S : List Nat} (h : Rb w s r f q) (hk : Kp S w w') (h1 : s ∉ S) (h2 : r ∉ S) (h3 : Off w S 5) : Rb w' s r f q :=
  ⟨h.hs.kp hk h1, by obtain ⟨cs, a, b, c⟩ := h.hr; exact ⟨cs, a.kp hk h2, b, c⟩, h.room, fun x hx => ⟨(h.data x hx).1, (h.data x hx).2.1, (h.data x hx).2.2.kp hk h3⟩⟩
theorem rb_s0 {f : Nat} {m : Nat} (h : Bk w s 199 [.slice (some ⟨r, 0, none⟩) 16 16, .int .i64 f, .int .i64 m]) : w.cell? ⟨s, 0, none⟩ = some (.slice (some ⟨r, 0, none⟩) 16 16) ∧ w.cell? ⟨s, 1, none⟩ = some (.int .i64 f) ∧ w.cell? ⟨s, 2, none⟩ = some (.int .i64 m) :=
  ⟨h.cell 0, h.cell 1, h.cell 2⟩
set_option maxHeartbeats 1000000 in
theorem place_any (t : Nat) (ht : t ≤ 1000000) (c0 : w.cell? ⟨s, 0, none⟩ = some (.slice (some ⟨r, 0, none⟩) 16 16)) (h : ∀ w', Kp [] w w' → R (.returned (.pointer (some ⟨r, t % 16, none⟩))) w') :
    Calls Tryz.prog 108 #[.pointer (some ⟨s, 0, none⟩), .int .i64 t] w R := by
  have H := Lib.hid h
  have hm : (t : Int).tmod 16 = ((t % 16 : Nat) : Int) := by rw [Int.tmod_eq_emod_of_nonneg (by omega)]; omega
  have hl : t % 16 < 16 := Nat.mod_lt _ (by omega)
  clear h
  go_enter Tryz.func108, Tryz.ntmps108
  go_wp2
  go_quiet (fail)
  go_wp2
  exact H.out _ (by repeat (first | with_reducible exact Kp.refl _ _ | with_reducible refine Kp.drewN ?_ _ | with_reducible refine Kp.drew ?_))
set_option maxHeartbeats 1000000 in
theorem rlen_any {f m : Nat} (hm : f + m ≤ 1000000) (hb : Bk w s 199 [.slice (some ⟨r, 0, none⟩) 16 16, .int .i64 f, .int .i64 (f + m : Nat)]) (h : ∀ w', Kp [] w w' → R (.returned (.int .i64 m)) w') :
    Calls Tryz.prog 149 #[.pointer (some ⟨s, 0, none⟩)] w R := by
  have H := Lib.hid h
  obtain ⟨h0, h1, h2⟩ := rb_s0 hb
  clear h hb
  go_enter Tryz.func149, Tryz.ntmps149
  go_wp2
  go_quiet (fail)
  go_wp2
  exact rcast (H.out _ (by repeat (first | with_reducible exact Kp.refl _ _ | with_reducible refine Kp.drewN ?_ _ | with_reducible refine Kp.drew ?_))) (icast (by omega))
set_option maxHeartbeats 1000000 in
theorem room_any {f m : Nat} (hm : f + m ≤ 1000000) (hm2 : m ≤ 16) (hb : Bk w s 199 [.slice (some ⟨r, 0, none⟩) 16 16, .int .i64 f, .int .i64 (f + m : Nat)]) (h : ∀ w', Kp [] w w' → R (.returned (.int .i64 (16 - (m : Int)))) w') :
    Calls Tryz.prog 119 #[.pointer (some ⟨s, 0, none⟩)] w R := by
  have H := Lib.hid h
  obtain ⟨h0, h1, h2⟩ := rb_s0 hb
  have HB := Lib.hid hb
  clear h hb h1 h2
  go_enter Tryz.func119, Tryz.ntmps119
  go_wp2
  refine wp_region_kp (by kernel_rfl) (by kernel_rfl) ?_
  repeat (go_big_quiet_step ((go_at_call 149; refine rlen_any hm (HB.out.kp (kpw_kp _ _) (by simp)) (fun w3 k3 => ?_); exact kpx_mk k3)))
  refine wpQuiet_nil ?_
  intro w1 k1
  go_wp2
  exact H.out _ k1
/-- What is not in the ring, or is. -/
theorem rat_no {f m : Nat} (hb : Bk w s 199 [.slice (some ⟨r, 0, none⟩) 16 16, .int .i64 f, .int .i64 (f + m : Nat)]) (h0 : m = 0) (hm : f ≤ 1000000) (h : R (.returned (.tuple #[.slice none 0 0, .int .i64 11])) w) :
    Calls Tryz.prog 107 #[.pointer (some ⟨s, 0, none⟩), .int .i64 f] w R := by
  subst h0
  obtain ⟨h0, h1, h2⟩ := rb_s0 hb
  simp only [Nat.add_zero] at h2
  clear hb
  go_enter Tryz.func107, Tryz.ntmps107
  go_wp2
  exact h
set_option maxHeartbeats 1000000 in
theorem rat_yes {q : List Sl} {x : Sl} (hq : Rb w s r f (x :: q)) (hm : f ≤ 1000000) (h : ∀ w', Kp [] w w' → R (.returned (.tuple #[x.v, .int .i64 0])) w') :
    Calls Tryz.prog 107 #[.pointer (some ⟨s, 0, none⟩), .int .i64 f] w R := by
  have H := Lib.hid h
  obtain ⟨h0, h1, h2⟩ := rb_s0 hq.hs
  obtain ⟨cs, hcs, hcl, hc⟩ := hq.hr
  have e := hc 0 x rfl
  rw [Nat.add_zero] at e
  have HC : Hid (∀ w', Kp [] w w' → w'.cell? ⟨r, f % 16, none⟩ = some x.v) := Lib.hid (fun w' k' => by rw [(hcs.kp k' (by simp)).cell]; exact e)
  have hlt : (f : Int) < (f + (x :: q).length : Nat) := by simp; omega
  have HHS := Lib.hid hq.hs
  clear h hq hcs hc e
  go_enter Tryz.func107, Tryz.ntmps107
  go_wp2_with (go_at_call 108; ((refine place_any f hm h0 ?_); intro w1 k1; have hx := HC.out w1 k1))
  exact H.out _ k1
theorem Rb.put {W W' : World} {q : List Sl} {x : Sl} (h : Rb W s r f q) (hne : s ≠ r) (hx : x.l.length = x.n ∧ x.n ≤ 1024 ∧ Tb W 5 x.A (bts x.l)) (hr : q.length < 16) (e : W' = (W.setCell ⟨r, (f + q.length) % 16, none⟩ x.v).setCell ⟨s, 2, none⟩ (.int .i64 ((f + q.length : Nat) + 1))) :
    Kp [s, r] W W' ∧ Rb W' s r f (q ++ [x]) := by
  obtain ⟨cs, hcs, hcl, hc⟩ := h.hr
  have k1 : Kp [s, r] W W' := by
    subst e
    exact ((Kp.refl _ _).setCell (p := ⟨r, (f + q.length) % 16, none⟩) (.inl (by simp)) _).setCell (p := ⟨s, 2, none⟩) (.inl (by simp)) _
  have o8 : Off W [s, r] 5 := Off.app (S := [s]) (S' := [r]) (Off.one h.hs.ty (by decide)) (Off.one hcs.ty (by decide))
  refine ⟨k1, ?_, ⟨cs.set ((f + q.length) % 16) x.v, ?_, by simpa using hcl, ?_⟩, by simp; omega, ?_⟩
  · subst e
    exact ((h.hs.far (p := ⟨r, (f + q.length) % 16, none⟩) hne x.v).set_ 2 _).cast (by simp; omega)
  · subst e
    exact (hcs.set_ _ x.v).far (p := ⟨s, 2, none⟩) hne.symm _
  · intro i y hy
    rcases Nat.lt_or_ge i q.length with hi | hi
    · rw [List.getElem?_append_left hi] at hy
      rw [List.getElem?_set_ne (by omega)]
      exact hc i y hy
    · rw [List.getElem?_append_right hi] at hy
      have hi2 : i = q.length := by
        rcases Nat.eq_zero_or_pos (i - q.length) with h | h
        · omega
        · rw [List.getElem?_eq_none (by simp; omega)] at hy; cases hy
      subst hi2
      simp at hy
      subst hy
      rw [List.getElem?_set_self (by rw [hcl]; exact Nat.mod_lt _ (by omega))]
  · intro y hy
    rcases List.mem_append.1 hy with hy | hy
    · obtain ⟨a, b, c⟩ := h.data y hy
      exact ⟨a, b, c.kp k1 o8⟩
    · simp at hy; subst hy
      exact ⟨hx.1, hx.2.1, hx.2.2.kp k1 o8⟩
theorem Rb.take {W W' : World} {q : List Sl} {x : Sl} (h : Rb W s r f (x :: q)) (hne : s ≠ r) (e : W' = (W.setCell ⟨r, f % 16, none⟩ (.slice none 0 0)).setCell ⟨s, 1, none⟩ (.int .i64 ((f : Int) + 1))) :
    Kp [s, r] W W' ∧ Rb W' s r (f + 1) q := by
  obtain ⟨cs, hcs, hcl, hc⟩ := h.hr
  have hroom := h.room
  simp only [List.length_cons] at hroom
  have k1 : Kp [s, r] W W' := by
    subst e
    exact ((Kp.refl _ _).setCell (p := ⟨r, f % 16, none⟩) (.inl (by simp)) _).setCell (p := ⟨s, 1, none⟩) (.inl (by simp)) _
  have o8 : Off W [s, r] 5 := Off.app (S := [s]) (S' := [r]) (Off.one h.hs.ty (by decide)) (Off.one hcs.ty (by decide))
  refine ⟨k1, ?_, ⟨cs.set (f % 16) (.slice none 0 0), ?_, by simpa using hcl, ?_⟩, by omega, ?_⟩
  · subst e
    exact ((h.hs.far (p := ⟨r, f % 16, none⟩) hne (.slice none 0 0)).set_ 1 _).cast (by simp; omega)
  · subst e
    exact (hcs.set_ _ (.slice none 0 0)).far (p := ⟨s, 1, none⟩) hne.symm _
  · intro i y hy
    have hi : i < q.length := (List.getElem?_eq_some_iff.1 hy).1
    rw [List.getElem?_set_ne (by omega)]
    have := hc (i + 1) y (by simpa using hy)
    rwa [show f + (i + 1) = f + 1 + i by omega] at this
  · intro y hy
    obtain ⟨a, b, c⟩ := h.data y (by simp [hy])
    exact ⟨a, b, c.kp k1 o8⟩
set_option maxHeartbeats 2000000 in
theorem rput_any {q : List Sl} {x : Sl} (hq : Rb w s r f q) (hne : s ≠ r) (hm : f + q.length ≤ 1000000) (hx : x.l.length = x.n ∧ x.n ≤ 1024 ∧ Tb w 5 x.A (bts x.l))
    (h1 : q.length = 16 → ∀ w', Kp [] w w' → R (.returned (.tuple #[.int .i64 0, .int .i64 10])) w')
    (h2 : q.length < 16 → ∀ w', Kp [s, r] w w' → Rb w' s r f (q ++ [x]) → R (.returned (.tuple #[.int .i64 (f + q.length : Nat), .int .i64 0])) w') :
    Calls Tryz.prog 59 #[.pointer (some ⟨s, 0, none⟩), .slice x.A x.n x.c] w R := by
  have H1 := Lib.hid h1
  have H2 := Lib.hid h2
  have hroom := hq.room
  have HQ := Lib.hid hq
  clear h1 h2 hq
  by_cases h16 : q.length = 16
  · have e16 : ((16 : Int) - (q.length : Int) == 0) = true := by simp; omega
    have HH := Lib.hid (H1.out h16)
    clear H1 H2
    go_enter Tryz.func59, Tryz.ntmps59
    go_wp2_with (go_at_call 119; ((refine room_any hm hroom HQ.out.hs ?_); intro w1 k1))
    exact HH.out _ k1
  · have e16 : ((16 : Int) - (q.length : Int) == 0) = false := by simp; omega
    have hlt : q.length < 16 := by omega
    have HH := Lib.hid (H2.out hlt)
    have HX := Lib.hid hx
    clear H1 H2 h16 hx
    go_enter Tryz.func59, Tryz.ntmps59
    go_wp2_with (first | (go_at_call 119; ((refine room_any hm hroom HQ.out.hs ?_); intro w1 k1; obtain ⟨a0, a1, a2⟩ := rb_s0 (HQ.out.hs.kp k1 (by simp)))) | (go_at_call 108; ((refine place_any (f + q.length) hm a0 ?_); intro w2 k2; have hq2 := HQ.out.off (k1.trans k2) (by simp) (by simp) (Off.nil _ _); obtain ⟨b0, b1, b2⟩ := rb_s0 hq2.hs; have f2 := hq2.hs.frozen 2; obtain ⟨cs, hcs, hcl, hc⟩ := hq2.hr; obtain ⟨u0, g0⟩ : ∃ u, _ = some u := ⟨_, (hcs.cell ((f + q.length) % 16)).trans (List.getElem?_eq_getElem (by rw [hcl]; exact Nat.mod_lt _ (by omega)))⟩; have g1 := hcs.frozen ((f + q.length) % 16); have HQ2 := Lib.hid hq2; clear hcs hc hcl hq2)))
    obtain ⟨k9, r9⟩ := HQ2.out.put hne ⟨HX.out.1, HX.out.2.1, HX.out.2.2.kp (k1.trans k2) (Off.nil _ _)⟩ hlt rfl
    exact HH.out _ (((k1.trans k2).mono (by simp)).trans k9) r9
set_option maxHeartbeats 2000000 in
theorem rtake_any {q : List Sl} (hq : Rb w s r f q) (hne : s ≠ r) (hm : f ≤ 1000000)
    (h1 : q = [] → ∀ w', Kp [] w w' → R (.returned (.tuple #[.slice none 0 0, .int .i64 11])) w')
    (h2 : ∀ x q', Hid (q = x :: q') → ∀ w', Kp [s, r] w w' → Rb w' s r (f + 1) q' → Tb w' 5 x.A (bts x.l) → R (.returned (.tuple #[x.v, .int .i64 0])) w') :
    Calls Tryz.prog 52 #[.pointer (some ⟨s, 0, none⟩)] w R := by
  have H1 := Lib.hid h1
  have H2 := Lib.hid h2
  have HQ := Lib.hid hq
  clear h1 h2
  obtain ⟨a0, a1, a2⟩ := rb_s0 hq.hs
  clear hq
  cases q with
  | nil =>
    have HH := H1.out rfl w (Kp.refl _ _)
    clear H1 H2
    go_enter Tryz.func52, Tryz.ntmps52
    go_wp2_with (go_at_call 107; refine rat_no HQ.out.hs rfl hm ?_)
    exact HH
  | cons x q =>
    have HH := Lib.hid (H2.out x q rfl)
    clear H1 H2
    go_enter Tryz.func52, Tryz.ntmps52
    go_wp2_with (first | (go_at_call 107; ((refine rat_yes HQ.out hm ?_); intro w1 k1; have hq1 := HQ.out.off k1 (by simp) (by simp) (Off.nil _ _); obtain ⟨b0, b1, b2⟩ := rb_s0 hq1.hs; have HQ1 := Lib.hid hq1; clear hq1)) | (go_at_call 108; ((refine place_any f hm b0 ?_); intro w2 k2; have hq2 := HQ1.out.off k2 (by simp) (by simp) (Off.nil _ _); obtain ⟨d0, d1, d2⟩ := rb_s0 hq2.hs; have f1 := hq2.hs.frozen 1; obtain ⟨cs, hcs, hcl, hc⟩ := hq2.hr; obtain ⟨u0, g0⟩ : ∃ u, _ = some u := ⟨_, (hcs.cell (f % 16)).trans (List.getElem?_eq_getElem (by rw [hcl]; exact Nat.mod_lt _ (by omega)))⟩; have g1 := hcs.frozen (f % 16); have HQ2 := Lib.hid hq2; clear hcs hc hcl hq2)))
    obtain ⟨k9, r9⟩ := HQ2.out.take hne rfl
    have o8 : Off w [s, r] 5 := by obtain ⟨cs, hcs, _⟩ := HQ.out.hr; exact Off.app (S := [s]) (S' := [r]) (Off.one HQ.out.hs.ty (by decide)) (Off.one hcs.ty (by decide))
    have kk := (((k1.trans k2).mono (by simp)).trans k9)
    exact HH.out _ kk r9 ((HQ.out.data x (by simp)).2.2.kp kk o8)
end
end
end Go.Proofs.YtedblbpmlbjnhaaGreat
