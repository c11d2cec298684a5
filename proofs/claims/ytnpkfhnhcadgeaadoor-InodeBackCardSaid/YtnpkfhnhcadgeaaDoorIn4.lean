/- inode.PackRoot. -/
import Derived.Test.YtnpkfhnhcadgeaaDoorIn3
import Derived.Lib.SlBytesConst
namespace Go.Proofs.YtnpkfhnhcadgeaaDoor
open Go.RowKit
set_option linter.unusedVariables false
set_option linter.unusedSimpArgs false
set_option maxRecDepth 100000
def put2 (v : Int) : List UInt8 := putL v.toNat 2
def rootT (gen : Int) (l : List Int) : List UInt8 := [80, 82, 79, 84] ++ putL gen.toNat 4 ++ putL l.length 1 ++ l.flatMap put2
theorem put2_len (l : List Int) : (l.flatMap put2).length = 2 * l.length := by
  induction l with
  | nil => rfl
  | cons v l ih => rw [List.flatMap_cons, List.length_append, ih]; unfold put2; rw [putL_len, List.length_cons]; omega
section
variable {R : Ending → World → Prop} {w w' w0 : World} {g : Nat} {t : List UInt8}
theorem pnum1_any (hp : Hid (Pr0 w0 w g t)) (ht : t.length ≤ 1000) (N : Nat) (hN : N < 256) (h : ∀ w', Hid (Pn w0 w' g (t ++ putL N 1)) → R (.returned (.tuple #[])) w') : Calls Tryd.prog 26 #[.pointer (some ⟨g, 0, none⟩), .int .i64 N, .int .i64 1] w R := pnum_any hp ht N 1 (by omega) (by decide) (by decide) (.inr (by simpa using hN)) h
theorem pnum2_any (hp : Hid (Pr0 w0 w g t)) (ht : t.length ≤ 1000) (N : Nat) (hN : N < 65536) (h : ∀ w', Hid (Pn w0 w' g (t ++ putL N 2)) → R (.returned (.tuple #[])) w') : Calls Tryd.prog 26 #[.pointer (some ⟨g, 0, none⟩), .int .i64 N, .int .i64 2] w R := pnum_any hp ht N 2 (by omega) (by decide) (by decide) (.inr (by simpa using hN)) h
theorem pnum4_any (hp : Hid (Pr0 w0 w g t)) (ht : t.length ≤ 1000) (N : Nat) (hN : N < 4294967296) (h : ∀ w', Hid (Pn w0 w' g (t ++ putL N 4)) → R (.returned (.tuple #[])) w') : Calls Tryd.prog 26 #[.pointer (some ⟨g, 0, none⟩), .int .i64 N, .int .i64 4] w R := pnum_any hp ht N 4 (by omega) (by decide) (by decide) (.inr (by simpa using hN)) h
theorem pnum8_any (hp : Hid (Pr0 w0 w g t)) (ht : t.length ≤ 1000) (N : Nat) (hN : N < 4611686018427387904) (h : ∀ w', Hid (Pn w0 w' g (t ++ putL N 8)) → R (.returned (.tuple #[])) w') : Calls Tryd.prog 26 #[.pointer (some ⟨g, 0, none⟩), .int .i64 N, .int .i64 8] w R := pnum_any hp ht N 8 hN (by decide) (by decide) (.inl rfl) h
set_option maxHeartbeats 4000000 in
theorem packr_any (gen : Int) {A : Option Addr} {n c : Nat} {l : List Int} (hr : Rd w [] A (l.flatMap iv)) (hl : l.length = n)
    (h0 : rootB gen l = false → ∀ w', Kp [] w w' → R (.returned (.tuple #[.slice none 0 0, .int .i64 1])) w')
    (h1 : rootB gen l = true → ∀ A' c' w', Hid (Kp [] w w' ∧ Ow w' 5 1 A' 256 c' (bts (sealB (rootT gen l))) ∧ ∀ b ∈ bks A', w.heap.size ≤ b) → R (.returned (.tuple #[.slice A' 256 c', .int .i64 0])) w') :
    Calls Tryd.prog 9 #[.agg #[.int .i64 gen, .slice A n c]] w R := by
  have H0 := Lib.hid h0
  have H1 := Lib.hid h1
  have HL := Lib.hid hl
  have HR := Lib.hid hr
  obtain ⟨t, ht⟩ : ∃ t, rootB gen l = t := ⟨_, rfl⟩
  have HM : Hid (∀ (R : Ending → World → Prop) (w1 : World), Kp [] w w1 → (∀ w', Kp [] w1 w' → R (.returned (.bool t)) w') → Calls Tryd.prog 25 #[.agg #[.int .i64 gen, .slice A n c]] w1 R) := Lib.hid (fun R w1 k1 h => rmay_any gen (hr.kp k1 (by simp)) hl (by rw [ht]; exact h))
  have HT := Lib.hid ht
  clear h0 h1 hl hr ht
  cases t with
  | false =>
    go_enter Tryd.func9, Tryd.ntmps9
    go_wp2_with (go_at_call 25; (refine HM.out _ _ ((Kp.refl _ _).alloc _) ?_; intro w2 k2))
    exact H0.out HT.out _ (((Kp.refl _ _).alloc _).trans k2)
  | true =>
    have hb : 1 ≤ gen ∧ gen ≤ 1073741824 ∧ n ≤ 4 ∧ ∀ v ∈ l, 2 ≤ v ∧ v < 512 := by
      have h := HT.out
      unfold rootB at h
      rw [HL.out] at h
      simp only [Bool.and_eq_true, decide_eq_true_eq, List.all_eq_true] at h
      exact ⟨h.1.1, h.1.2.1, h.1.2.2, fun v hv => by have := h.2 v hv; simpa [blkB] using this⟩
    obtain ⟨b1, b2, b3, b4⟩ := hb
    have HB := Lib.hid b4
    obtain ⟨G, hG⟩ : ∃ G : Nat, gen = (G : Int) := ⟨gen.toNat, by omega⟩
    have HG := Lib.hid hG
    subst hG
    clear b4
    go_enter Tryd.func9, Tryd.ntmps9
    go_upto_region 1 with (fail)
    refine gen_worldI (fun W => ∃ g0, w.heap.size = g0 ∧ Hid (Kp [] w W ∧ Bk W g0 25 [.int .i64 G, .slice A n c])) ⟨_, rfl, Lib.hid ⟨(Kp.refl _ _).alloc _, (Bk.new' _ _ _).cast rfl⟩⟩ ?_
    rintro W ⟨g0, hg0, hW⟩
    rw [hg0]
    have HC : Hid (∀ w', Kp [] W w' → w'.cell? ⟨g0, 0, none⟩ = some (.int .i64 G) ∧ w'.cell? ⟨g0, 1, none⟩ = some (.slice A n c)) := Lib.hid (fun w' k' => ⟨(hW.out.2.kp k' (by simp)).cell 0, (hW.out.2.kp k' (by simp)).cell 1⟩)
    obtain ⟨c0, c1⟩ := HC.out W (Kp.refl _ _)
    clear hg0
    have hcv := fun (W : World) (C : Array Value) (n c : Nat) => Lib.run_convert_bytes_const (P := Tryd.prog) W 29 5 C n c Tryd.underlying29 Tryd.underlying5
    go_upto_region 4 with (go_at_call 25; (refine HM.out _ _ hW.out.1 ?_; intro w2 k2))
    refine gen_worldI (fun W2 => ∃ g, w2.heap.size + 1 = g ∧ Hid (Pr0 W W2 g [80, 82, 79, 84])) ⟨_, rfl, Lib.hid (by
      have km := (Kp.refl [] w2).alloc (.cells #[.int .u8 80, .int .u8 82, .int .u8 79, .int .u8 84] 5 (4, 5))
      refine ⟨(k2.trans km).alloc _, by have := k2.size; omega, some ⟨w2.heap.size, 0, none⟩, 4, (Bk.newAt (by simp) _ _).cast rfl, ?_⟩
      exact (rd_mark w2 #[.int .u8 80, .int .u8 82, .int .u8 79, .int .u8 84] 5 (4, 5) _ rfl).kp ((Kp.refl [] _).alloc _) (by simp))⟩ ?_
    rintro W2 ⟨g, hg, hP⟩
    rw [hg]
    obtain ⟨c0, c1⟩ := HC.out W2 hP.out.k
    clear hg hcv HM
    go_upto_region 6 with (first | (go_at_call 26; (with_reducible refine pnum4_any hP (by simp) G (by omega) ?_; intro w3 h3; obtain ⟨d0, d1⟩ := HC.out _ h3.out.k)) | (go_at_call 26; (with_reducible refine pnum1_any (Lib.hid h3.out.pr) (by simp [putL_len]) n (by omega) ?_; intro w4 h4; obtain ⟨e0, e1⟩ := HC.out _ h4.out.k)))
    refine gen_worldI (fun W4 => Hid (Pn W W4 g ([80, 82, 79, 84] ++ putL G 4 ++ putL n 1))) h4 ?_
    intro W4 hP4
    obtain ⟨f0, f1⟩ := HC.out _ hP4.out.k
    obtain ⟨base, hbase⟩ : ∃ base, [80, 82, 79, 84] ++ putL G 4 ++ putL n 1 = base := ⟨_, rfl⟩
    rw [hbase] at hP4
    have hbl : base.length = 9 := by rw [← hbase]; simp [putL_len]
    have HBs := Lib.hid hbase
    clear h3 h4 d0 d1 e0 e1 c0 c1 hP hbase
    go_wp2
    go_loopw [23] (fun jv wr => ∃ k : Nat, k ≤ n ∧ jv = .int .i64 k ∧ Hid (Pn W wr g (base ++ (l.take k).flatMap put2))) (fun jv _ => n - (intOf jv).toNat)
    case atStart => exact ⟨0, Nat.zero_le _, rfl, by simpa using hP4⟩
    case round =>
      obtain ⟨k, hk, rfl, hS⟩ := hrel
      have hlen : (base ++ (l.take k).flatMap put2).length = 9 + 2 * k := by
        rw [List.length_append, hbl, put2_len, List.length_take, HL.out]; omega
      by_cases hlt : k < n
      · obtain ⟨x, hx, hm⟩ := get_ltI (l := l) (k := k) (by have := HL.out; omega)
        obtain ⟨b, off, rfl, _, hbl, hc⟩ := rd_at (F := iv) (K := 1) (HR.out.kp (hW.out.1.trans hS.out.k) (by simp)) (fun _ => rfl) (by omega) hx
        have c0 := hc 0 _ rfl
        rw [Nat.add_zero, Nat.mul_one] at c0
        have hv := HB.out x hm
        obtain ⟨V, hV⟩ : ∃ V : Nat, x = (V : Int) := ⟨x.toNat, by omega⟩
        have HNX : Hid (base ++ (l.take k).flatMap put2 ++ putL V 2 = base ++ (l.take (k + 1)).flatMap put2) := Lib.hid (by
          rw [take_snocI hx, List.flatMap_append, List.append_assoc]
          simp [put2, hV])
        rw [hV] at c0 hv
        clear hc hx hm hV
        go_wp2_with (go_at_call 26; (with_reducible refine pnum2_any (Lib.hid hS.out.pr) (by omega) V (by omega) ?_; intro w5 h5; rw [HNX.out] at h5))
        exact ⟨⟨k + 1, by omega, by go_num, h5⟩, by simp [intOf]; omega⟩
      · obtain rfl : k = n := by omega
        have HF : Hid (base ++ (l.take k).flatMap put2 = rootT G l) := Lib.hid (by
          rw [List.take_of_length_le (by have := HL.out; omega), ← HBs.out]
          unfold rootT
          rw [HL.out]; rfl)
        go_wp2_with (go_at_call 27; (refine pseal_any hS (by omega) (by omega) ?_; intro A' c' w6 h6; rw [HF.out] at h6))
        exact H1.out HT.out A' c' w6 (Lib.hid ⟨hW.out.1.trans h6.out.1, h6.out.2.1, fun b hb => by have := h6.out.2.2 b hb; have := hW.out.1.size; omega⟩)
end
end Go.Proofs.YtnpkfhnhcadgeaaDoor
