/- The document's table: New, FreeCount. -/
import Derived.Test.YthlmfjfkkndboaaRT
namespace Go.Proofs.Ythlmfjfkkndboaa
open Go.RowKit
set_option linter.unusedVariables false
set_option linter.unusedSimpArgs false
set_option maxRecDepth 100000
section
variable {R : Ending → World → Prop} {bM bO bH bB : Nat} {fs : List Fr} {w : World}
theorem elt_int : Elt Try.prog 83 3 (.int .i64 0) 1 8 := ⟨Try.underlying83, by kernel_rfl, rfl, by decide, by decide⟩
theorem elt_str : Elt Try.prog 89 9 (.string ByteArray.empty) 1 16 := ⟨Try.underlying89, by kernel_rfl, rfl, by decide, by decide⟩
def zB : List UInt8 := List.replicate 256 0
set_option maxHeartbeats 800000 in
theorem blank_any (w : World) (h : ∀ w', Kp [] w w' → R (.returned (.string (S zB))) w') : Calls Try.prog 47 #[] w R := by
  have H := Lib.hid h
  clear h
  obtain ⟨i0, hi, hz0, hz1, hz2⟩ := info_parts elt_u8.2.1
  have hmk := fun W => run_make (P := Try.prog) W 44 5 i0 _ Try.underlying44 hi hz0 .i64 .i64 256 256 (by omega) (by omega) (by rw [hz2]; omega) (by omega)
  simp only [Value.cells, hz1] at hmk
  clear hi hz0 hz1 hz2
  have e : (madeCells #[Value.int .u8 0] (256 * 1)).toList = bts zB := by kernel_rfl
  have hb : Bk (w.alloc (.cells (madeCells #[Value.int .u8 0] (256 * 1)) 5)) w.heap.size 5 (bts zB) := (Bk.newAt rfl _ _).cast e
  have hcv := conv_bs (c := 256) (n := 256) (N := []) (l := zB) (Rd.of_bk hb (by simp)) rfl
  clear hb e
  go_enter Try.func47, Try.ntmps47
  go_wp2
  exact H.out _ ((Kp.refl _ _).alloc _)
def zI (k : Nat) : List Value := List.replicate k (.int .i64 0)
def zS (k : Nat) : List Value := List.replicate k (.string (S zB))
theorem zI_succ (k : Nat) : zI k ++ [.int .i64 0] = zI (k + 1) := by simp [zI, List.replicate_succ']
theorem zS_succ (k : Nat) : zS k ++ [.string (S zB)] = zS (k + 1) := by simp [zS, List.replicate_succ']
set_option maxHeartbeats 2000000 in
theorem rnew_any (n : Nat) (h1 : 1 ≤ n) (h2 : n ≤ 256) (h : ∀ bM bO bH bB w', w.heap.size ≤ bM → w.heap.size ≤ bO → w.heap.size ≤ bH → w.heap.size ≤ bB → Kp [] w w' → RT w' bM bO bH bB (List.replicate n fz) → R (.returned (.pointer (some ⟨bM, 0, none⟩))) w') :
    Calls Try.prog 11 #[.int .i64 n] w R := by
  have H := Lib.hid h
  clear h
  go_enter Try.func11, Try.ntmps11
  go_wp2
  have hb : Bk (w.alloc (.cells #[.slice none 0 0, .slice none 0 0, .slice none 0 0] 103)) w.heap.size 103 [.slice none 0 0, .slice none 0 0, .slice none 0 0] := Bk.newAt rfl _ _
  have k1 : Kp [] w (w.alloc (.cells #[.slice none 0 0, .slice none 0 0, .slice none 0 0] 103)) := (Kp.refl _ _).alloc _
  obtain ⟨g, hg⟩ : ∃ g, w.heap.size = g := ⟨_, rfl⟩
  rw [hg] at hb ⊢
  generalize w.alloc (.cells #[.slice none 0 0, .slice none 0 0, .slice none 0 0] 103) = w1 at *
  go_loopw [4] (fun iv wr => ∃ (k : Nat) (A0 A1 A2 : Option Addr) (c0 c1 c2 : Nat), k ≤ n ∧ iv = .int .i64 k ∧ Bk wr g 103 [.slice A0 k c0, .slice A1 k c1, .slice A2 k c2] ∧ Ow wr 3 1 A0 k c0 (zI k) ∧ Ow wr 3 1 A1 k c1 (zI k) ∧ Ow wr 9 1 A2 k c2 (zS k) ∧ (∀ b ∈ bks A0, g < b ∧ b ∉ bks A1 ∧ b ∉ bks A2) ∧ (∀ b ∈ bks A1, g < b ∧ b ∉ bks A2) ∧ (∀ b ∈ bks A2, g < b) ∧ Kp [] w wr) (fun iv _ => n - (intOf iv).toNat)
  case atStart => exact ⟨0, none, none, none, 0, 0, 0, Nat.zero_le _, rfl, hb, Ow.nil, Ow.nil, Ow.nil, by simp [bks], by simp [bks], by simp [bks], k1⟩
  case round =>
    obtain ⟨k, A0, A1, A2, c0, c1, c2, hk, rfl, hb, ho0, ho1, ho2, hA0, hA1, hA2, kr⟩ := hrel
    by_cases hlt : k < n
    · have f0 := hb.cell 0
      simp only [List.getElem?_cons_zero] at f0
      have f0a := fun o => (hb.alloc o).cell 0
      simp only [List.getElem?_cons_zero] at f0a
      go_upto_region 6 with (at_builtin; refine wpList_app _ rfl (.tmp 16) (.tmp 17) _ rfl elt_int A0 k c0 _ rfl (ho0.alloc _) [] (some ⟨wr.heap.size, 0, none⟩) 1 1 [.int .i64 0] rfl (Rd.of_bk (Bk.newAt rfl _ _) (by simp)) rfl (by simp [Value.oneCell']) (by omega) ?_; intro A5 d0 w5 ho5 hk5 hA5; have hb5 := (hb.alloc (.cells #[.int .i64 0] 3)).kp hk5 (fun hm => Nat.lt_irrefl _ (hA0 _ hm).1); have z5 := hb5.frozen 0; have y5 := hb5.cell 0; simp only [List.getElem?_cons_zero] at y5)
      have hb6 := hb5.set_ 0 (.slice A5 (k + 1) d0)
      have krs := kr.size
      have kp6 : Kp (g :: bks A0) wr (w5.setCell ⟨g, 0, none⟩ (.slice A5 (k + 1) d0)) := ((((Kp.refl _ wr).alloc (.cells #[.int .i64 0] 3)).thn hk5 (fun s hs => .inl (List.mem_cons_of_mem _ hs)))).setCell (.inl (by simp)) _
      have gA0 : ∀ b ∈ bks A0, g < b := fun b h => (hA0 b h).1
      have gA1 : ∀ b ∈ bks A1, g < b := fun b h => (hA1 b h).1
      have gA2 : ∀ b ∈ bks A2, g < b := hA2
      have d01 : ∀ b ∈ bks A0, b ∉ bks A1 := fun b h => (hA0 b h).2.1
      have d02 : ∀ b ∈ bks A0, b ∉ bks A2 := fun b h => (hA0 b h).2.2
      have d12 : ∀ b ∈ bks A1, b ∉ bks A2 := fun b h => (hA1 b h).2
      have hb0 : g < wr.heap.size := hb.lt
      have lt1 := ho1.lt
      have lt2 := ho2.lt
      have gA5 : ∀ b ∈ bks A5, g < b ∧ b ∉ bks A1 ∧ b ∉ bks A2 := fun b hm => by
        rcases hA5 with rfl | rfl
        · exact ⟨gA0 b hm, d01 b hm, d02 b hm⟩
        · simp [bks] at hm; subst hm
          exact ⟨by omega, fun h => by have := lt1 _ h; omega, fun h => by have := lt2 _ h; omega⟩
      have ho1' := ho1.kp kp6 (fun b h1 h2 => (List.mem_cons.1 h2).elim (fun e => by have := gA1 b h1; omega) (fun h => d01 b h h1))
      have ho2' := ho2.kp kp6 (fun b h1 h2 => (List.mem_cons.1 h2).elim (fun e => by have := gA2 b h1; omega) (fun h => d02 b h h1))
      have ho0' := (ho5.kp ((Kp.refl [g] w5).setCell (p := ⟨g, 0, none⟩) (.inl (by simp)) (.slice A5 (k + 1) d0)) (fun b hm h2 => by have := (gA5 b hm).1; simp at h2; omega)).cast rfl (zI_succ k)
      have kr6 : Kp [] w (w5.setCell ⟨g, 0, none⟩ (.slice A5 (k + 1) d0)) := kr.thn kp6 (fun s hs => .inr ((List.mem_cons.1 hs).elim (fun e => by omega) (fun h => by have := gA0 s h; omega)))
      clear hb ho0 ho1 ho2 hb5 z5 y5 f0 f0a ho5 hA0 hA1 hA2 kr krs d01 d02 hA5 hk5 kp6 lt1 lt2 hb0
      generalize w5.setCell ⟨g, 0, none⟩ (.slice A5 (k + 1) d0) = w6 at *
      simp only [List.set_cons_zero] at hb6
      have f1 := fun o => (hb6.alloc o).cell 1
      have f1' := hb6.cell 1
      simp only [List.getElem?_cons_zero, List.getElem?_cons_succ] at f1 f1'
      go_upto_region 7 with (at_builtin; refine wpList_app _ rfl (.tmp 25) (.tmp 26) _ rfl elt_int A1 k c1 _ rfl (ho1'.alloc _) [] (some ⟨w6.heap.size, 0, none⟩) 1 1 [.int .i64 0] rfl (Rd.of_bk (Bk.newAt rfl _ _) (by simp)) rfl (by simp [Value.oneCell']) (by omega) ?_; intro A7 d1 w7 ho7 hk7 hA7; have hb7 := (hb6.alloc (.cells #[.int .i64 0] 3)).kp hk7 (fun hm => Nat.lt_irrefl _ (gA1 _ hm)); have z7 := hb7.frozen 1; have y7 := hb7.cell 1; simp only [List.getElem?_cons_zero, List.getElem?_cons_succ] at y7)
      have hb8 := hb7.set_ 1 (.slice A7 (k + 1) d1)
      have krs := kr6.size
      have kp8 : Kp (g :: bks A1) w6 (w7.setCell ⟨g, 1, none⟩ (.slice A7 (k + 1) d1)) := ((((Kp.refl _ w6).alloc (.cells #[.int .i64 0] 3)).thn hk7 (fun s hs => .inl (List.mem_cons_of_mem _ hs)))).setCell (.inl (by simp)) _
      have hb0 : g < w6.heap.size := hb6.lt
      have lt0 := ho0'.lt
      have lt2 := ho2'.lt
      have gA7 : ∀ b ∈ bks A7, g < b ∧ b ∉ bks A5 ∧ b ∉ bks A2 := fun b hm => by
        rcases hA7 with rfl | rfl
        · exact ⟨gA1 b hm, fun h => (gA5 b h).2.1 hm, d12 b hm⟩
        · simp [bks] at hm; subst hm
          exact ⟨by omega, fun h => by have := lt0 _ h; omega, fun h => by have := lt2 _ h; omega⟩
      have ho1'' := (ho7.kp ((Kp.refl [g] w7).setCell (p := ⟨g, 1, none⟩) (.inl (by simp)) (.slice A7 (k + 1) d1)) (fun b hm h2 => by have := (gA7 b hm).1; simp at h2; omega)).cast rfl (zI_succ k)
      have ho2'' := ho2'.kp kp8 (fun b h1 h2 => (List.mem_cons.1 h2).elim (fun e => by have := gA2 b h1; omega) (fun h => d12 b h h1))
      have ho0'' := ho0'.kp kp8 (fun b h1 h2 => (List.mem_cons.1 h2).elim (fun e => by have := (gA5 b h1).1; omega) (fun h => (gA5 b h1).2.1 h))
      have kr8 : Kp [] w (w7.setCell ⟨g, 1, none⟩ (.slice A7 (k + 1) d1)) := kr6.thn kp8 (fun s hs => .inr ((List.mem_cons.1 hs).elim (fun e => by omega) (fun h => by have := gA1 s h; omega)))
      clear hb6 ho1' ho2' ho0' hb7 z7 y7 f1 f1' ho7 kr6 krs hA7 hk7 kp8 lt0 lt2 hb0
      generalize w7.setCell ⟨g, 1, none⟩ (.slice A7 (k + 1) d1) = w8 at *
      simp only [List.set_cons_zero, List.set_cons_succ] at hb8
      have gA5' : ∀ b ∈ bks A5, g < b := fun b h => (gA5 b h).1
      have d57 : ∀ b ∈ bks A5, b ∉ bks A7 := fun b h h2 => (gA7 b h2).2.1 h
      have d52 : ∀ b ∈ bks A5, b ∉ bks A2 := fun b h => (gA5 b h).2.2
      have gA7' : ∀ b ∈ bks A7, g < b := fun b h => (gA7 b h).1
      have d72 : ∀ b ∈ bks A7, b ∉ bks A2 := fun b h => (gA7 b h).2.2
      clear gA5 gA7 gA0 gA1 d12
      have HB8 := Lib.hid hb8
      have HO2 := Lib.hid ho2''
      have f2 := hb8.drew.cell 2
      have f2a := fun o => (hb8.drew.alloc o).cell 2
      simp only [List.getElem?_cons_zero, List.getElem?_cons_succ] at f2 f2a
      go_wp2
      go_region_law (first | (go_simp; go_at_call 47; (refine blank_any _ ?_); intro w9 k9; have f9 := (HB8.out.drew.kp k9 (by simp)).cell 2; have f9a := fun o => ((HB8.out.drew.kp k9 (by simp)).alloc o).cell 2; simp only [List.getElem?_cons_zero, List.getElem?_cons_succ] at f9 f9a) | (refine step_app rfl (.tmp 34) (.tmp 36) _ rfl elt_str A2 k c2 _ (by simp [Act.eval, Act.put]) ((HO2.out.drew.kp k9 (by simp)).alloc _) [] (some ⟨w9.heap.size, 0, none⟩) 1 1 [.string (S zB)] (by simp [Act.eval, Act.put]) (Rd.of_bk (Bk.newAt rfl _ _) (by simp)) rfl (by simp [Value.oneCell']) (by omega) ?_; intro A10 d2 w10 ho10 hk10 hA10; have hb10 := ((HB8.out.drew.kp k9 (by simp)).alloc (.cells #[.string (S zB)] 9)).kp hk10 (fun hm => Nat.lt_irrefl _ (gA2 _ hm)); have z10 := hb10.frozen 2; have y10 := hb10.cell 2; simp only [List.getElem?_cons_zero, List.getElem?_cons_succ] at y10))
      all_goals
        have hb12 := hb10.set_ 2 (.slice A10 (k + 1) d2)
        have kp10 : Kp (g :: bks A2) w8 w10 := (((Kp.refl _ w8).drew.trans (k9.mono (by simp))).alloc _).thn hk10 (fun s hs => .inl (List.mem_cons_of_mem _ hs))
        have kp12 : Kp (g :: bks A2) w8 (w10.setCell ⟨g, 2, none⟩ (.slice A10 (k + 1) d2)) := kp10.setCell (.inl (by simp)) _
        have krs := kr8.size
        have k89 : w8.heap.size ≤ w9.heap.size := k9.size
        have hb0 : g < w8.heap.size := hb8.lt
        have lt0 := ho0''.lt
        have lt1 := ho1''.lt
        have gA10 : ∀ b ∈ bks A10, g < b ∧ b ∉ bks A5 ∧ b ∉ bks A7 := fun b hm => by
          rcases hA10 with rfl | rfl
          · exact ⟨gA2 b hm, fun h => d52 b h hm, fun h => d72 b h hm⟩
          · simp [bks] at hm; subst hm
            exact ⟨by omega, fun h => by have := lt0 _ h; omega, fun h => by have := lt1 _ h; omega⟩
        have q0 := ho0''.kp kp12 (fun b h1 h2 => (List.mem_cons.1 h2).elim (fun e => by have := gA5' b h1; omega) (fun h => d52 b h1 h))
        have q1 := ho1''.kp kp12 (fun b h1 h2 => (List.mem_cons.1 h2).elim (fun e => by have := gA7' b h1; omega) (fun h => d72 b h1 h))
        have q2 := (ho10.kp ((Kp.refl [g] w10).setCell (p := ⟨g, 2, none⟩) (.inl (by simp)) (.slice A10 (k + 1) d2)) (fun b hm h2 => by have := (gA10 b hm).1; simp at h2; omega)).cast rfl (zS_succ k)
        have kr12 := kr8.thn kp12 (fun s hs => .inr ((List.mem_cons.1 hs).elim (fun e => by omega) (fun h => by have := gA2 s h; omega)))
        simp only [List.set_cons_zero, List.set_cons_succ] at hb12
        go_wp2
        exact ⟨⟨k + 1, A5, A7, A10, d0, d1, d2, by omega, by go_num, hb12, q0, q1, q2, fun b h => ⟨gA5' b h, d57 b h, fun h2 => (gA10 b h2).2.1 h⟩, fun b h => ⟨gA7' b h, fun h2 => (gA10 b h2).2.2 h⟩, fun b h => (gA10 b h).1, kr12⟩, by simp [intOf]; omega⟩
    · obtain rfl : k = n := by omega
      obtain ⟨bO, rfl, t0⟩ := ho0.tw h1
      obtain ⟨bH, rfl, t1⟩ := ho1.tw h1
      obtain ⟨bB, rfl, t2⟩ := ho2.tw h1
      have g0 := (hA0 bO (by simp [bks])).1
      have g1 := (hA1 bH (by simp [bks])).1
      have g2 := hA2 bB (by simp [bks])
      have hne : bO ≠ bH := by have := (hA0 bO (by simp [bks])).2.1; simpa [bks] using this
      have hrt : RT wr g bO bH bB (List.replicate k fz) := ⟨⟨c0, c1, c2, by rw [List.length_replicate]; exact hb⟩, t0.cast (by simp [zI, owV, fz]), t1.cast (by simp [zI, hoV, fz]), t2.cast (by simp [zS, bsV, fz, zB]), hne, by simpa using h2⟩
      go_wp2
      exact H.out g bO bH bB _ (by omega) (by omega) (by omega) (by omega) kr hrt
set_option maxHeartbeats 800000 in
theorem rcount_any (hT : RT w bM bO bH bB fs) (h : R (.returned (.int .i64 (tCount fs))) w) :
    Calls Try.prog 61 #[.pointer (some ⟨bM, 0, none⟩)] w R := by
  have hn := hT.n1
  obtain ⟨c0, c1, c2, ht⟩ := hT.t
  have f0 := ht.cell 0
  simp only [List.getElem?_cons_zero] at f0
  have H := Lib.hid h
  have HT := Lib.hid hT
  clear h ht hT
  go_enter Try.func61, Try.ntmps61
  go_wp2
  go_loop [3, 4] (fun c i => ∃ k : Nat, k ≤ fs.length ∧ i = .int .i64 k ∧ c = .int .i64 (tCount (fs.take k))) (fun _ i => fs.length - (intOf i).toNat)
  case atStart => exact ⟨0, Nat.zero_le _, rfl, rfl⟩
  case round =>
    obtain ⟨k, hk, rfl, rfl⟩ := hrel
    have hq : tCount (fs.take k) ≤ k := Nat.le_trans (tCount_le _) (List.length_take_le _ _)
    by_cases hlt : k < fs.length
    · have hs := tCount_snoc hlt
      obtain ⟨x, hx⟩ : ∃ x, fs[k]? = some x := ⟨_, List.getElem?_eq_getElem hlt⟩
      have c0 := HT.out.ow hx
      have e : tOwner fs k = x.ow := by unfold tOwner fat; rw [if_pos (by omega), Int.toNat_natCast, hx]
      rw [e] at hs
      have HS := Lib.hid hs
      clear hs e
      by_cases h0 : x.ow = 0
      · have b0 : (x.ow == 0) = true := by simpa using h0
        have HS2 := Lib.hid (show tCount (fs.take (k + 1)) = tCount (fs.take k) + 1 by rw [HS.out, if_pos h0])
        clear h0
        go_wp2
        exact ⟨⟨k + 1, by omega, by go_num, icast (by have := HS2.out; omega)⟩, by simp [intOf]; omega⟩
      · have b0 : (x.ow == 0) = false := by simpa using h0
        have HS2 := Lib.hid (show tCount (fs.take (k + 1)) = tCount (fs.take k) by rw [HS.out, if_neg h0]; rfl)
        clear h0
        go_wp2
        exact ⟨⟨k + 1, by omega, by go_num, icast (by have := HS2.out; omega)⟩, by simp [intOf]; omega⟩
    · obtain rfl : k = fs.length := by omega
      go_wp2
      exact H.out
end
end Go.Proofs.Ythlmfjfkkndboaa
