/- A new kernel of any numbers, whole. pantlerref06: New. -/
import Derived.Test.YtedblbpmlbjnhaaGreatPD22
import Derived.Test.YtedblbpmlbjnhaaGreatPD16
import Derived.Test.YtedblbpmlbjnhaaGreatPD17
namespace Go.Proofs.YtedblbpmlbjnhaaGreat
/-! ### A new kernel of any numbers, whole. -/
section
open Go.RowKit Go.Shelf
set_option linter.unusedVariables false
set_option linter.unusedSimpArgs false
set_option maxRecDepth 100000

def z256 : List UInt8 := List.replicate 256 0
def dz (n : Nat) : DkS := { bl := List.replicate n z256, ow := List.replicate n 0, ln := [] }
theorem z256_len : z256.length = 256 := by kernel_rfl
theorem zpg_cells : (Array.replicate 256 (Value.int .u8 0)).toList = pcells z256 := by rw [pcells_eq z256_len]; kernel_rfl
theorem made_pages (n : Nat) : (madeCells (Array.replicate 256 (Value.int .u8 0)) (n * 256)).toList = (List.replicate n z256).flatMap pcells := by
  have h := made_pieces (z := Array.replicate 256 (Value.int .u8 0)) (K := 256) (by simp) (by omega) n
  rw [h]
  induction n with
  | zero => rfl
  | succ n ih =>
    rw [List.replicate_succ, List.replicate_succ, List.flatMap_cons, List.flatMap_cons, zpg_cells]
    congr 1
    exact ih (made_pieces (z := Array.replicate 256 (Value.int .u8 0)) (K := 256) (by simp) (by omega) n)
theorem dz_ok {n : Nat} (h : n ≤ 512) : (dz n).ok := ⟨by simpa [dz] using h, by simp [dz], fun s hs => by rw [List.eq_of_mem_replicate hs]; exact z256_len, by simp [dz], by simp [dz], by simp [dz]⟩
set_option maxHeartbeats 2000000 in
theorem dnew2_any {R : Ending → World → Prop} (n : Nat) (w : World) (h1 : 1 ≤ n) (h2 : n ≤ 512) (h : ∀ bD bL bO w', w.heap.size ≤ bD → w.heap.size ≤ bL → w.heap.size ≤ bO → Kp [] w w' → Dsk w' bD bL bO none 0 (dz n) → R (.returned (.tuple #[.pointer (some ⟨bD, 0, none⟩), .int .i64 0])) w') :
    Calls Tryz.prog 41 #[.int .i64 n] w R := by
  have H := Lib.hid h
  clear h
  obtain ⟨pz, hpz⟩ : ∃ pz, Array.replicate 256 (Value.int .u8 0) = pz := ⟨_, rfl⟩
  have hinf : (Tryz.prog.info? 245).map (fun i => (i.zero, i.size, i.bytes)) = some (some (.agg pz), 256, 256) := by rw [← hpz]; exact info_page
  have hmp : (madeCells pz (n * 256)).toList = (List.replicate n z256).flatMap pcells := by rw [← hpz]; exact made_pages n
  have HMP := Lib.hid hmp
  obtain ⟨i0, hi, hz0, hz1, hz2⟩ := info_parts hinf
  obtain ⟨i1, ji, jz0, jz1, jz2⟩ := info_parts info_int
  have hmk := fun W => run_make (P := Tryz.prog) W 160 245 i0 _ Tryz.underlying160 hi hz0 .i64 .i64 n n (by omega) (by omega) (by rw [hz2]; omega) (by omega)
  have hmi := fun W => run_make (P := Tryz.prog) W 71 3 i1 _ Tryz.underlying71 ji jz0 .i64 .i64 n n (by omega) (by omega) (by rw [jz2]; omega) (by omega)
  simp only [hz1, Int.toNat_natCast] at hmk
  simp only [jz1, Int.toNat_natCast] at hmi
  clear hi hz0 hz1 hz2 ji jz0 jz1 jz2 hmp hpz hinf
  go_enter Tryz.func41, Tryz.ntmps41
  go_wp2
  go_region
  all_goals
    go_wp2
    first
    | exact rcast (H.out (w.heap.size + 1 + 1) w.heap.size (w.heap.size + 1) _ (by omega) (by omega) (by omega) ((((Kp.refl _ _).alloc _).alloc _).alloc _).drew ⟨(Bk.newAt (by simp) _ _).cast (by simp [dz]), (((Bk.new' _ _ _).alloc _).alloc _).cast HMP.out, (((Bk.newAt (by simp) _ _).alloc _).cast (made_ints n)), Ow.nil, dz_ok h2⟩) rfl
    | exact rcast (H.out (w.heap.size + 1 + 1) (w.heap.size + 1) w.heap.size _ (by omega) (by omega) (by omega) ((((Kp.refl _ _).alloc _).alloc _).alloc _).drew ⟨(Bk.newAt (by simp) _ _).cast (by simp [dz]), (((Bk.newAt (by simp) _ _).alloc _).cast HMP.out), ((((Bk.new' _ _ _).alloc _).alloc _).cast (made_ints n)), Ow.nil, dz_ok h2⟩) rfl
/-- Who has which block: the first environment all but the last quarter. -/
def own2 (n : Nat) : List Int := List.replicate (n - n / 4) 1 ++ List.replicate (n / 4) 2
theorem setR_at (os : List Int) (first : Nat) (e : Int) : ∀ (k j : Nat), first + k ≤ os.length → (setR os first k e)[j]? = if first ≤ j ∧ j < first + k then some e else os[j]?
  | 0, j, _ => by rw [setR, if_neg (by omega)]
  | k + 1, j, h => by
    rw [setR, List.getElem?_set]
    by_cases hj : first + k = j
    · rw [if_pos hj, if_pos (by rw [setR_len]; omega), if_pos (by omega)]
    · rw [if_neg hj, setR_at os first e k j (by omega)]
      by_cases hc : first ≤ j ∧ j < first + k
      · rw [if_pos hc, if_pos (by omega)]
      · rw [if_neg hc, if_neg (by omega)]
theorem grants (n : Nat) : setR (setR (List.replicate n 0) 0 (n - n / 4) 1) (n - n / 4) (n / 4) 2 = own2 n := by
  apply List.ext_getElem?
  intro j
  rw [setR_at _ _ _ _ _ (by rw [setR_len, List.length_replicate]; omega), setR_at _ _ _ _ _ (by rw [List.length_replicate]; omega)]
  unfold own2
  rw [List.getElem?_append, List.length_replicate]
  simp only [List.getElem?_replicate]
  by_cases a1 : n - n / 4 ≤ j ∧ j < n - n / 4 + n / 4
  · rw [if_pos a1, if_neg (by omega), if_pos (by omega)]
  · rw [if_neg a1]
    by_cases a2 : 0 ≤ j ∧ j < 0 + (n - n / 4)
    · rw [if_pos a2, if_pos (by omega), if_pos (by omega)]
    · rw [if_neg a2, if_neg (by omega), if_neg (by omega), if_neg (by omega)]
set_option maxHeartbeats 2000000 in
theorem rnb2_any {R : Ending → World → Prop} (w : World) (h : ∀ g l w', w.heap.size ≤ g → w.heap.size ≤ l → Kp [] w w' → Rb w' g l 0 [] → g ≠ l → R (.returned (.tuple #[.pointer (some ⟨g, 0, none⟩), .int .i64 0])) w') :
    Calls Tryz.prog 43 #[.int .i64 16] w R := by
  have H := Lib.hid h
  clear h
  obtain ⟨i0, hi, hz0, hz1, hz2⟩ := info_parts info_bs
  have hmk := fun W => run_make (P := Tryz.prog) W 197 37 i0 _ Tryz.underlying197 hi hz0 .i64 .i64 16 16 (by omega) (by omega) (by rw [hz2]; omega) (by omega)
  simp only [hz1] at hmk
  have hml : (madeCells #[Value.slice none 0 0] 16).toList.length = 16 := by have := made_pieces (z := #[Value.slice none 0 0]) (K := 1) rfl (by omega) 16; rw [show 16 = 16 * 1 by rfl, this]; simp
  have HML := Lib.hid hml
  clear hi hz0 hz1 hz2 hml
  go_enter Tryz.func43, Tryz.ntmps43
  go_wp2
  exact rcast (H.out (w.heap.size + 1) w.heap.size _ (by omega) (Nat.le_refl _) (((Kp.refl _ _).alloc _).alloc _) ⟨(Bk.newAt (by simp) _ _).cast rfl, ⟨_, (Bk.new' _ _ _).alloc _, HML.out, by simp⟩, by simp, by simp⟩ (by omega)) rfl
set_option maxHeartbeats 2000000 in
theorem rnt2_any {R : Ending → World → Prop} (w : World) (h : ∀ g l w', w.heap.size ≤ g → w.heap.size ≤ l → Kp [] w w' → Rq w' g l 0 [] → g ≠ l → R (.returned (.tuple #[.pointer (some ⟨g, 0, none⟩), .int .i64 0])) w') :
    Calls Tryz.prog 44 #[.int .i64 16] w R := by
  have H := Lib.hid h
  clear h
  obtain ⟨i0, hi, hz0, hz1, hz2⟩ := info_parts info_tr
  have hmk := fun W => run_make (P := Tryz.prog) W 200 120 i0 _ Tryz.underlying200 hi hz0 .i64 .i64 16 16 (by omega) (by omega) (by rw [hz2]; omega) (by omega)
  simp only [hz1] at hmk
  have hml : (madeCells #[Value.int .i64 0, .slice none 0 0] 32).toList.length = 32 := by have := made_pieces (z := #[Value.int .i64 0, .slice none 0 0]) (K := 2) rfl (by omega) 16; rw [show 32 = 16 * 2 by rfl, this]; simp
  have HML := Lib.hid hml
  clear hi hz0 hz1 hz2 hml
  go_enter Tryz.func44, Tryz.ntmps44
  go_wp2
  exact rcast (H.out (w.heap.size + 1) w.heap.size _ (by omega) (Nat.le_refl _) (((Kp.refl _ _).alloc _).alloc _) ⟨(Bk.newAt (by simp) _ _).cast rfl, ⟨_, (Bk.new' _ _ _).alloc _, HML.out, by simp⟩, by simp, by simp⟩ (by omega)) rfl
/-- The rings that are there after k rounds. -/
def RS (B : Nat) (wr : World) (k : Nat) (b c : Option Addr) : Prop :=
  (2 ≤ k → ∃ s r, b = some ⟨s, 0, none⟩ ∧ Rb wr s r 0 [] ∧ B ≤ s ∧ B ≤ r ∧ s ≠ r ∧ s < wr.heap.size ∧ r < wr.heap.size ∧
    (3 ≤ k → ∃ s2 r2, c = some ⟨s2, 0, none⟩ ∧ Rb wr s2 r2 0 [] ∧ B ≤ s2 ∧ B ≤ r2 ∧ s2 ≠ r2 ∧ s ≠ s2 ∧ r ≠ r2 ∧ s ≠ r2 ∧ s2 ≠ r))
theorem Rb.lt {w : World} {s r f : Nat} {q : List Sl} (h : Rb w s r f q) : s < w.heap.size ∧ r < w.heap.size := ⟨h.hs.lt, by obtain ⟨cs, hcs, _⟩ := h.hr; exact hcs.lt⟩
theorem RS.kp {B : Nat} {w w' : World} {k : Nat} {b c : Option Addr} {S : List Nat} (h : RS B w k b c) (hk : Kp S w w') (h1 : Off w S 199) (h2 : Off w S 37) (h3 : Off w S 5) : RS B w' k b c := fun h2k => by
  obtain ⟨s, r, e, rb, g1, g2, g3, g4, g5, g6⟩ := h h2k
  have t : ∀ {s r : Nat}, Rb w s r 0 [] → Rb w' s r 0 [] := fun rb => rb.off hk (h1.nin rb.hs.ty) (by obtain ⟨cs, hcs, _⟩ := rb.hr; exact h2.nin hcs.ty) h3
  have z := hk.size
  refine ⟨s, r, e, t rb, g1, g2, g3, by omega, by omega, fun h3k => ?_⟩
  obtain ⟨s2, r2, e2, rb2, q⟩ := g6 h3k
  exact ⟨s2, r2, e2, t rb2, q⟩
def kz0 (F N : Nat) : KS := ⟨List.replicate F fz, { dz N with ow := own2 N }, [], 0, 0, [], 0, [], 0, [], 0⟩
set_option maxHeartbeats 4000000 in
theorem knew2_any {R : Ending → World → Prop} (F N : Nat) (hF1 : 1 ≤ F) (hF2 : F ≤ 256) (hN1 : 4 ≤ N) (hN2 : N ≤ 512) (w : World) (h : ∀ a w', Kp [] w w' → Kn w' w.heap.size a (kz0 F N) → R (.returned (.tuple #[.pointer (some ⟨a.g, 0, none⟩), .int .i64 0])) w') :
    Calls Tryz.prog 7 #[.int .i64 F, .int .i64 N] w R := by
  have H := Lib.hid h
  clear h
  obtain ⟨q, hq⟩ : ∃ q, N / 4 = q := ⟨_, rfl⟩
  obtain ⟨p, hp⟩ : ∃ p, N - N / 4 = p := ⟨_, rfl⟩
  have hqd : (N : Int).tdiv 4 = (q : Int) := by rw [← hq, Int.tdiv_eq_ediv_of_nonneg (by omega)]; omega
  have hpd : (N : Int) - (q : Int) = (p : Int) := by omega
  have hq0 : ((q : Int) == 0) = false := by simp; omega
  have HF : Hid (∀ (R : Ending → World → Prop) (w : World), (∀ bT bL w', w.heap.size ≤ bT → w.heap.size ≤ bL → Kp [] w w' → Tab w' bT bL (List.replicate F fz) → R (.returned (.tuple #[.pointer (some ⟨bT, 0, none⟩), .int .i64 0])) w') → Calls Tryz.prog 40 #[.int .i64 F] w R) := Lib.hid (fun R w h => new_any F hF1 hF2 h)
  have HDk : Hid (∀ (R : Ending → World → Prop) (w : World), (∀ bD bL bO w', w.heap.size ≤ bD → w.heap.size ≤ bL → w.heap.size ≤ bO → Kp [] w w' → Dsk w' bD bL bO none 0 (dz N) → R (.returned (.tuple #[.pointer (some ⟨bD, 0, none⟩), .int .i64 0])) w') → Calls Tryz.prog 41 #[.int .i64 N] w R) := Lib.hid (fun R w h => dnew2_any N w (by omega) hN2 h)
  have hdc : ∀ {W : World} {bD bL bO : Nat}, Dsk W bD bL bO none 0 (dz N) → Bk W bD 163 (diskC bL bO N) := fun d => d.dd.cast (by simp [dz, diskC])
  have HG1 : Hid (∀ (R : Ending → World → Prop) (bD bL bO : Nat) (w : World), Dsk w bD bL bO none 0 (dz N) → (∀ w', Kp [bO] w w' → Bk w' bD 163 (diskC bL bO N) → Bk w' bO 3 (ints (setR (List.replicate N 0) 0 p 1)) → R (.returned (.int .i64 0)) w') → Calls Tryz.prog 42 #[.pointer (some ⟨bD, 0, none⟩), .int .i64 1, .int .i64 0, .int .i64 p] w R) := Lib.hid (fun R bD bL bO w d h => grant_any bD bL bO N 0 p 1 (List.replicate N 0) w (.inl rfl) (by simp) hN2 (by omega) (by omega) (fun j h1 h2 => by rw [List.getElem?_replicate, if_pos (by omega)]) (d.dd.ne_ d.o (by decide)) (hdc d) (show Bk w bO 3 (ints (List.replicate N 0)) from d.o) h)
  have HG2 : Hid (∀ (R : Ending → World → Prop) (bD bL bO : Nat) (w : World), bD ≠ bO → Bk w bD 163 (diskC bL bO N) → Bk w bO 3 (ints (setR (List.replicate N 0) 0 p 1)) → (∀ w', Kp [bO] w w' → Bk w' bD 163 (diskC bL bO N) → Bk w' bO 3 (ints (own2 N)) → R (.returned (.int .i64 0)) w') → Calls Tryz.prog 42 #[.pointer (some ⟨bD, 0, none⟩), .int .i64 2, .int .i64 p, .int .i64 q] w R) := Lib.hid (fun R bD bL bO w hne a b h => grant_any bD bL bO N p q 2 _ w (.inr rfl) (by rw [setR_len]; simp) hN2 (by omega) (by omega) (fun j h1 h2 => by rw [setR_at _ _ _ _ _ (by simp; omega), if_neg (by omega), List.getElem?_replicate, if_pos (by omega)]) hne a b (fun w' k x y => h w' k x (y.cast (by rw [← grants, hp, hq]))))
  clear hdc
  go_enter Tryz.func7, Tryz.ntmps7
  go_upto_region 12 with (first | (go_at_call 40; ((refine HF.out _ _ ?_); intro bT bL w1 hT hL k1 tb1)) | (go_at_call 41; ((refine HDk.out _ _ ?_); intro bD bP bO w2 hD hP hO k2 dk2)) | (go_at_call 42; ((with_reducible refine HG1.out _ _ _ _ _ dk2 ?_); intro w3 k3 bd3 bo3)) | (go_at_call 42; ((with_reducible refine HG2.out _ _ _ _ _ (dk2.dd.ne_ dk2.o (by decide)) bd3 bo3 ?_); intro w4 k4 bd4 bo4)))
  have hbt := tb1.t.lt
  have hbl := tb1.l.lt
  have z1 := k1.size
  have z2 := k2.size
  have z3 := k3.size
  have z4 := k4.size
  have hbO := dk2.o.lt
  have tO2 : ∀ e, 3 ≠ e → Off w2 [bO] e := fun e he => Off.one dk2.o.ty he
  have tO3 : ∀ e, 3 ≠ e → Off w3 [bO] e := fun e he => Off.one bo3.ty he
  have tb4 := ((tb1.kp k2 (by simp) (by simp)).kp k3 (by simp; omega) (by simp; omega)).kp k4 (by simp; omega) (by simp; omega)
  have dl4 := (dk2.l.off k3 (tO2 _ (by decide))).off k4 (tO3 _ (by decide))
  have dk4 : Dsk w4 bD bP bO none 0 { dz N with ow := own2 N } := ⟨bd4.cast (by simp [dz, diskC]), dl4, bo4, Ow.nil, ⟨(dz_ok hN2).n1, by simp [own2, dz]; omega, (dz_ok hN2).pg, (dz_ok hN2).ln, (dz_ok hN2).lf, (dz_ok hN2).ar⟩⟩
  have kk : Kp [] w w4 := ((k1.trans k2).thn k3 (fun s hs => .inr (by simp at hs; omega))).thn k4 (fun s hs => .inr (by simp at hs; omega))
  have hD0 : w.heap.size ≤ bD := by omega
  have hP0 : w.heap.size ≤ bP := by omega
  clear k1 k2 k3 k4 bd3 bo3 bd4 bo4 tb1 dk2 dl4 tO2 tO3
  go_upto_region 13 with (fail)
  refine gen_worldK (fun W => ∃ g, w4.heap.size = g ∧ Kp [] w W ∧ Bk W g 114 (kernC bT bD none none none none) ∧ Tab W bT bL (List.replicate F fz) ∧ Dsk W bD bP bO none 0 { dz N with ow := own2 N }) ⟨_, rfl, kk.alloc _, (Bk.new' _ _ _).cast rfl, tb4.kp ((Kp.refl [] _).alloc _) (by simp) (by simp), dk4.off ((Kp.refl [] _).alloc _) (Off.nil _ _) (Off.nil _ _) (Off.nil _ _) (Off.nil _ _)⟩ ?_
  rintro W ⟨g, hg, kW, bW, tW, dW⟩
  rw [hg]
  have hg0 : w.heap.size ≤ g := by omega
  have hog : bO < g := by have := dk4.o.lt; omega
  clear tb4 dk4 kk hg
  have K0 := Lib.hid kW
  have B0 := Lib.hid bW
  have T0 := Lib.hid tW
  have D0 := Lib.hid dW
  clear kW bW tW dW
  go_wp2
  go_loopw [11, 47] (fun _ iv wr => ∃ k : Nat, k ≤ 3 ∧ iv = .int .i64 k ∧ Hid (Kp [] w wr) ∧ Hid (Tab wr bT bL (List.replicate F fz)) ∧ Hid (Dsk wr bD bP bO none 0 { dz N with ow := own2 N }) ∧ ∃ a b c, Hid (Bk wr g 114 (kernC bT bD a b c none)) ∧ Hid (RS w.heap.size wr k b c)) (fun _ iv _ => 3 - (intOf iv).toNat)
  case atStart => exact ⟨0, by omega, rfl, K0, T0, D0, none, none, none, B0, Lib.hid (fun h => by omega)⟩
  case round =>
    obtain ⟨k, hk, rfl, kr, tr, dr, a, b, c, br, rs⟩ := hrel
    have hl := br.out.lt
    rcases (by omega : k = 0 ∨ k = 1 ∨ k = 2 ∨ k = 3) with rfl | rfl | rfl | rfl
    · go_upto_region 16 with (fail)
      go_region_law (first | (go_simp; go_at_call 43; (refine rnb2_any _ ?_); intro ga la w5 hga hla k5 rb5 hne5; have kd5 : Kp [] wr w5 := (Kp.refl [] wr).drew.trans k5; have b5 := br.out.kp kd5 (by simp); have e4 := b5.cell 4; have f4 := b5.frozen 4; have l5 := b5.lt; simp only [kernC, List.getElem?_cons_zero, List.getElem?_cons_succ] at e4))
      all_goals
        have hga' : wr.heap.size ≤ ga := hga
        have hla' : wr.heap.size ≤ la := hla
        have hwr := kr.out.size
        have oK : ∀ e, 114 ≠ e → Off w5 [g] e := fun e he => Off.one b5.ty he
        go_wp2
        have ks : Kp [g] w5 (w5.setCell ⟨g, 4, none⟩ (.pointer (some ⟨ga, 0, none⟩))) := (Kp.refl _ _).setCell (p := ⟨g, 4, none⟩) (.inl (by simp)) _
        refine ⟨⟨1, by omega, by first | rfl | go_num, Lib.hid ((kr.out.trans kd5).thn ks (fun s hs => .inr (by simp at hs; omega))), Lib.hid ((tr.out.kp kd5 (by simp) (by simp)).kp ks ((oK _ (by decide)).nin (tr.out.kp kd5 (by simp) (by simp)).t.ty) ((oK _ (by decide)).nin (tr.out.kp kd5 (by simp) (by simp)).l.ty)), Lib.hid ((dr.out.off kd5 (Off.nil _ _) (Off.nil _ _) (Off.nil _ _) (Off.nil _ _)).off ks (oK _ (by decide)) (oK _ (by decide)) (oK _ (by decide)) (oK _ (by decide))), _, b, c, Lib.hid ((b5.set_ 4 _).cast rfl), Lib.hid ?_⟩, by simp [intOf]⟩
        exact fun h => by omega
    · go_upto_region 16 with (fail)
      go_region_law (first | (go_simp; go_at_call 43; (refine rnb2_any _ ?_); intro ga la w5 hga hla k5 rb5 hne5; have kd5 : Kp [] wr w5 := (Kp.refl [] wr).drew.trans k5; have b5 := br.out.kp kd5 (by simp); have e4 := b5.cell 5; have f4 := b5.frozen 5; have l5 := b5.lt; simp only [kernC, List.getElem?_cons_zero, List.getElem?_cons_succ] at e4))
      all_goals
        have hga' : wr.heap.size ≤ ga := hga
        have hla' : wr.heap.size ≤ la := hla
        have hwr := kr.out.size
        have oK : ∀ e, 114 ≠ e → Off w5 [g] e := fun e he => Off.one b5.ty he
        go_wp2
        have ks : Kp [g] w5 (w5.setCell ⟨g, 5, none⟩ (.pointer (some ⟨ga, 0, none⟩))) := (Kp.refl _ _).setCell (p := ⟨g, 5, none⟩) (.inl (by simp)) _
        refine ⟨⟨2, by omega, by first | rfl | go_num, Lib.hid ((kr.out.trans kd5).thn ks (fun s hs => .inr (by simp at hs; omega))), Lib.hid ((tr.out.kp kd5 (by simp) (by simp)).kp ks ((oK _ (by decide)).nin (tr.out.kp kd5 (by simp) (by simp)).t.ty) ((oK _ (by decide)).nin (tr.out.kp kd5 (by simp) (by simp)).l.ty)), Lib.hid ((dr.out.off kd5 (Off.nil _ _) (Off.nil _ _) (Off.nil _ _) (Off.nil _ _)).off ks (oK _ (by decide)) (oK _ (by decide)) (oK _ (by decide)) (oK _ (by decide))), a, _, c, Lib.hid ((b5.set_ 5 _).cast rfl), Lib.hid ?_⟩, by simp [intOf]⟩
        exact fun _ => ⟨ga, la, rfl, rb5.off ks ((oK _ (by decide)).nin rb5.hs.ty) ((oK 37 (by decide)).nin (by obtain ⟨cs, hcs, _⟩ := rb5.hr; exact hcs.ty)) (oK _ (by decide)), by omega, by omega, hne5, by have := rb5.lt; have := ks.size; omega, by have := rb5.lt; have := ks.size; omega, fun h => by omega⟩
    · go_upto_region 16 with (fail)
      go_region_law (first | (go_simp; go_at_call 43; (refine rnb2_any _ ?_); intro ga la w5 hga hla k5 rb5 hne5; have kd5 : Kp [] wr w5 := (Kp.refl [] wr).drew.trans k5; have b5 := br.out.kp kd5 (by simp); have e4 := b5.cell 6; have f4 := b5.frozen 6; have l5 := b5.lt; simp only [kernC, List.getElem?_cons_zero, List.getElem?_cons_succ] at e4))
      all_goals
        have hga' : wr.heap.size ≤ ga := hga
        have hla' : wr.heap.size ≤ la := hla
        have hwr := kr.out.size
        have oK : ∀ e, 114 ≠ e → Off w5 [g] e := fun e he => Off.one b5.ty he
        go_wp2
        have ks : Kp [g] w5 (w5.setCell ⟨g, 6, none⟩ (.pointer (some ⟨ga, 0, none⟩))) := (Kp.refl _ _).setCell (p := ⟨g, 6, none⟩) (.inl (by simp)) _
        refine ⟨⟨3, by omega, by first | rfl | go_num, Lib.hid ((kr.out.trans kd5).thn ks (fun s hs => .inr (by simp at hs; omega))), Lib.hid ((tr.out.kp kd5 (by simp) (by simp)).kp ks ((oK _ (by decide)).nin (tr.out.kp kd5 (by simp) (by simp)).t.ty) ((oK _ (by decide)).nin (tr.out.kp kd5 (by simp) (by simp)).l.ty)), Lib.hid ((dr.out.off kd5 (Off.nil _ _) (Off.nil _ _) (Off.nil _ _) (Off.nil _ _)).off ks (oK _ (by decide)) (oK _ (by decide)) (oK _ (by decide)) (oK _ (by decide))), a, b, _, Lib.hid ((b5.set_ 6 _).cast rfl), Lib.hid ?_⟩, by simp [intOf]⟩
        intro _
        obtain ⟨s, r, e, rb, g1, g2, g3, g4, g5, _⟩ := rs.out (by omega)
        have tt : ∀ {s r : Nat}, Rb w5 s r 0 [] → Rb (w5.setCell ⟨g, 6, none⟩ (.pointer (some ⟨ga, 0, none⟩))) s r 0 [] := fun rb => rb.off ks ((oK _ (by decide)).nin rb.hs.ty) ((oK 37 (by decide)).nin (by obtain ⟨cs, hcs, _⟩ := rb.hr; exact hcs.ty)) (oK _ (by decide))
        have z5 := ks.size
        have z6 := kd5.size
        exact ⟨s, r, e, tt (rb.off kd5 (by simp) (by simp) (Off.nil _ _)), g1, g2, g3, by omega, by omega, fun _ => ⟨ga, la, rfl, tt rb5, by omega, by omega, hne5, by omega, by omega, by omega, by omega⟩⟩
    · have hwr := kr.out.size
      go_wp2_with (go_at_call 44; (refine rnt2_any _ ?_); intro ga la w5 hga hla k5 rq5 hne5; have b5 := br.out.kp k5 (by simp); have e4 := b5.cell 7; have f4 := b5.frozen 7; have l5 := b5.lt; simp only [kernC, List.getElem?_cons_zero, List.getElem?_cons_succ] at e4)
      have hga' : wr.heap.size ≤ ga := hga
      have hla' : wr.heap.size ≤ la := hla
      have oK : ∀ e, 114 ≠ e → Off w5 [g] e := fun e he => Off.one b5.ty he
      have ks : Kp [g] w5 (w5.setCell ⟨g, 7, none⟩ (.pointer (some ⟨ga, 0, none⟩))) := (Kp.refl _ _).setCell (p := ⟨g, 7, none⟩) (.inl (by simp)) _
      obtain ⟨s1, r1, e1, x1, x2, x3, x4, x5, x6, x7⟩ := ((RS.kp rs.out k5 (Off.nil _ _) (Off.nil _ _) (Off.nil _ _)).kp ks (oK _ (by decide)) (oK _ (by decide)) (oK _ (by decide))) (by omega)
      obtain ⟨s2, r2, e2, y1, y2, y3, y4, y5, y6, y7, y8⟩ := x7 (by omega)
      subst e1; subst e2
      have rq9 := rq5.off ks ((oK _ (by decide)).nin rq5.hs.ty) ((oK 120 (by decide)).nin (by obtain ⟨cs, hcs, _⟩ := rq5.hr; exact hcs.ty)) (oK _ (by decide))
      have t9 := (tr.out.kp k5 (by simp) (by simp)).kp ks ((oK _ (by decide)).nin (tr.out.kp k5 (by simp) (by simp)).t.ty) ((oK _ (by decide)).nin (tr.out.kp k5 (by simp) (by simp)).l.ty)
      have d9 := (dr.out.off k5 (Off.nil _ _) (Off.nil _ _) (Off.nil _ _) (Off.nil _ _)).off ks (oK _ (by decide)) (oK _ (by decide)) (oK _ (by decide)) (oK _ (by decide))
      exact rcast (H.out ⟨g, bT, bL, bD, bP, bO, none, 0, none, 0, a, s1, r1, s2, r2, ga, la⟩ _ ((kr.out.trans k5).thn ks (fun s hs => .inr (by simp at hs; omega))) ⟨(b5.set_ 7 _).cast rfl, t9, d9, Ow.nil, by simp [kz0], x1, y1, rq9, ⟨hg0, hL, hD0, hP0, by simp [Fresh, bks], by simp [Fresh, bks], x2, x3, y2, y3, (show w.heap.size ≤ ga by omega), (show w.heap.size ≤ la by omega), x4, y4, y5, y6, y7, y8, hne5, hog⟩⟩) rfl
end
/-! ### pantlerref06: New. -/
section
open Go.RowKit Go.Shelf
set_option linter.unusedVariables false
set_option linter.unusedSimpArgs false
set_option maxRecDepth 100000
theorem zB_eq : zB = z256 := by kernel_rfl
/-- Half-way through the document's disk. -/
structure Mn (w W : World) (g k : Nat) (A0 : Option Addr) (c0 : Nat) (A1 : Option Addr) (c1 : Nat) : Prop where
  kp : Kp [] w W
  dd : Bk W g 74 [.slice A0 k c0, .slice A1 k c1, .slice none 0 0, .bool false, .int .i64 (-1)]
  gb : w.heap.size ≤ g
  o0 : Ow W 9 1 A0 k c0 (zS k)
  o1 : Ow W 3 1 A1 k c1 (zI k)
  f0 : ∀ b ∈ bks A0, g < b ∧ b ∉ bks A1
  f1 : ∀ b ∈ bks A1, g < b
theorem Mn.put0 {w W W' : World} {g k : Nat} {A0 A1 A2 : Option Addr} {c0 c1 c2 : Nat} (h : Mn w W g k A0 c0 A1 c1) (hk : Kp (bks A0) W W') (ho : Ow W' 9 1 A2 (k + 1) c2 (zS (k + 1))) (hA : A2 = A0 ∨ ∀ b ∈ bks A2, W.heap.size ≤ b) :
    Kp [] w (W'.setCell ⟨g, 0, none⟩ (.slice A2 (k + 1) c2)) ∧ Bk (W'.setCell ⟨g, 0, none⟩ (.slice A2 (k + 1) c2)) g 74 [.slice A2 (k + 1) c2, .slice A1 k c1, .slice none 0 0, .bool false, .int .i64 (-1)] ∧
    Ow (W'.setCell ⟨g, 0, none⟩ (.slice A2 (k + 1) c2)) 9 1 A2 (k + 1) c2 (zS (k + 1)) ∧ Ow (W'.setCell ⟨g, 0, none⟩ (.slice A2 (k + 1) c2)) 3 1 A1 k c1 (zI k) ∧ (∀ b ∈ bks A2, g < b ∧ b ∉ bks A1) := by
  have hg := h.dd.lt
  have h1 := h.o1.lt
  have hs : Kp [g] W' (W'.setCell ⟨g, 0, none⟩ (.slice A2 (k + 1) c2)) := (Kp.refl [g] W').setCell (p := ⟨g, 0, none⟩) (.inl (by simp)) _
  have f2 : ∀ b ∈ bks A2, g < b ∧ b ∉ bks A1 := by
    intro b hb
    rcases hA with rfl | hA
    · exact h.f0 b hb
    · have := hA b hb
      exact ⟨by omega, fun hm => by have := h1 b hm; omega⟩
  have z := h.kp.size
  have gb := h.gb
  refine ⟨(h.kp.thn hk (fun s hs => .inr (by have := (h.f0 s hs).1; omega))).thn hs (fun s hs => .inr (by simp at hs; omega)), ((h.dd.kp hk (fun hm => Nat.lt_irrefl _ (h.f0 _ hm).1)).set_ 0 _).cast rfl, ho.kp hs (fun b hb => by have := (f2 b hb).1; simp; omega), (h.o1.kp hk (fun b hb hm => (h.f0 b hm).2 hb)).kp hs (fun b hb => by have := h.f1 b hb; simp; omega), f2⟩
theorem Mn.put1 {w W W' : World} {g k : Nat} {A0 A1 A2 : Option Addr} {c0 c1 c2 : Nat} (kp : Kp [] w W) (hb : Bk W g 74 [.slice A0 (k + 1) c0, .slice A1 k c1, .slice none 0 0, .bool false, .int .i64 (-1)]) (gb : w.heap.size ≤ g) (o0 : Ow W 9 1 A0 (k + 1) c0 (zS (k + 1)))
    (f0 : ∀ b ∈ bks A0, g < b ∧ b ∉ bks A1) (f1 : ∀ b ∈ bks A1, g < b) (hk : Kp (bks A1) W W') (ho : Ow W' 3 1 A2 (k + 1) c2 (zI (k + 1))) (hA : A2 = A1 ∨ ∀ b ∈ bks A2, W.heap.size ≤ b) : Mn w (W'.setCell ⟨g, 1, none⟩ (.slice A2 (k + 1) c2)) g (k + 1) A0 c0 A2 c2 := by
  have hg := hb.lt
  have h0 := o0.lt
  have hs : Kp [g] W' (W'.setCell ⟨g, 1, none⟩ (.slice A2 (k + 1) c2)) := (Kp.refl [g] W').setCell (p := ⟨g, 1, none⟩) (.inl (by simp)) _
  have z := kp.size
  have f2 : ∀ b ∈ bks A2, g < b := by
    intro b hbm
    rcases hA with rfl | hA
    · exact f1 b hbm
    · have := hA b hbm; omega
  refine ⟨(kp.thn hk (fun s hs => .inr (by have := f1 s hs; omega))).thn hs (fun s hs => .inr (by simp at hs; omega)), ((hb.kp hk (fun hm => Nat.lt_irrefl _ (f1 _ hm))).set_ 1 _).cast rfl, gb, (o0.kp hk (fun b hb hm => (f0 b hb).2 hm)).kp hs (fun b hb => by have := (f0 b hb).1; simp; omega), ho.kp hs (fun b hb => by have := f2 b hb; simp; omega), fun b hbm => ⟨(f0 b hbm).1, fun hm => ?_⟩, f2⟩
  rcases hA with rfl | hA
  · exact (f0 b hbm).2 hm
  · have := hA b hm; have := h0 b hbm; omega
section
variable {R : Ending → World → Prop} {w : World}
set_option maxHeartbeats 4000000 in
theorem mnew_any (n : Nat) (h2 : n ≤ 512) (h : ∀ bD bB bO w', w.heap.size ≤ bD → w.heap.size ≤ bB → w.heap.size ≤ bO → bB ≠ bO → Kp [] w w' → (n = 0 ∨ Dm w' bD bB bO none 0 (dz n)) → R (.returned (.pointer (some ⟨bD, 0, none⟩))) w') :
    Calls Tryz.prog 46 #[.int .i64 n] w R := by
  have H := Lib.hid h
  clear h
  obtain ⟨i0, hi, hz0, hz1, hz2⟩ := info_parts elt_u8.2.1
  have hmk := fun W => run_make (P := Tryz.prog) W 37 5 i0 _ Tryz.underlying37 hi hz0 .i64 .i64 256 256 (by omega) (by omega) (by rw [hz2]; omega) (by omega)
  simp only [Value.cells, hz1] at hmk
  clear hi hz0 hz1 hz2
  have e : (madeCells #[Value.int .u8 0] (256 * 1)).toList = bts zB := by kernel_rfl
  have HE := Lib.hid e
  have HMK := Lib.hid hmk
  clear e hmk
  go_enter Tryz.func46, Tryz.ntmps46
  go_upto_region 2 with (fail)
  refine genV (fun W => ∃ g, w.heap.size = g ∧ Hid (Mn w W g 0 none 0 none 0)) ⟨_, rfl, Lib.hid ⟨(Kp.refl _ _).alloc _, Bk.newAt rfl _ _, Nat.le_refl _, Ow.nil, Ow.nil, by simp [bks], by simp [bks]⟩⟩ ?_
  rintro W1 ⟨g, hg, hN⟩
  rw [hg]
  have hgw : w.heap.size ≤ g := by omega
  clear hg
  go_wp2
  go_loopw [4] (fun iv wr => ∃ (k : Nat) (A0 A1 : Option Addr) (c0 c1 : Nat), k ≤ n ∧ iv = .int .i64 k ∧ Hid (Mn w wr g k A0 c0 A1 c1)) (fun iv _ => n - (intOf iv).toNat)
  case atStart => exact ⟨0, none, none, 0, 0, Nat.zero_le _, rfl, hN⟩
  case round =>
    obtain ⟨k, A0, A1, c0, c1, hk, rfl, hM⟩ := hrel
    clear hN
    by_cases hlt : k < n
    · go_upto_region 5 with (fail)
      refine nameA (fun A00 hA00 => ?_)
      have sl3 : A00.tmps.getD 3 undef = .pointer (some ⟨g, 0, none⟩) := by rw [hA00]; rfl
      have sz00 : A00.tmps.size = 33 := by rw [hA00]; rfl
      have HA00 := Lib.hid hA00
      clear hA00
      refine wp_region_inv (fun b a' W => ∃ (g5 : Nat) (g7 : Nat) (A2 : Option Addr) (c2 : Nat), Hid (a'.defers = A00.defers) ∧ Hid (a'.tmps.size = A00.tmps.size) ∧ Hid (∀ k, k ∉ [12, 13, 14, 15, 16, 17, 18, 19, 20, 21, 22] → a'.tmps.getD k undef = A00.tmps.getD k undef) ∧ (b 0 → a'.tmps.getD 12 undef = .pointer (some ⟨g, 0, none⟩)) ∧ (b 1 → a'.tmps.getD 13 undef = .pointer (some ⟨g, 0, none⟩)) ∧ (b 2 → a'.tmps.getD 14 undef = .pointer (some ⟨g, 0, none⟩)) ∧ (b 3 → a'.tmps.getD 15 undef = .pointer (some ⟨g, 0, none⟩)) ∧ (b 4 → a'.tmps.getD 16 undef = .slice A0 k c0) ∧ (b 5 → a'.tmps.getD 17 undef = .slice (some ⟨g5, 0, none⟩) 256 256) ∧ (b 6 → a'.tmps.getD 18 undef = .string (S zB)) ∧ (b 7 → a'.tmps.getD 19 undef = .slice (some ⟨g7, 0, none⟩) 1 1) ∧ (b 8 → a'.tmps.getD 20 undef = .slice A2 (k + 1) c2) ∧ (b 9 → a'.tmps.getD 21 undef = .pointer (some ⟨g, 0, none⟩)) ∧ (b 10 → a'.tmps.getD 22 undef = .pointer (some ⟨g, 0, none⟩)) ∧ (b 2 → b 1) ∧ (b 3 → b 2) ∧ (b 4 → b 3) ∧ (b 6 → b 5) ∧ (b 7 → b 6) ∧ (b 8 → b 4) ∧ (b 8 → b 7) ∧ (b 9 → b 0) ∧ (b 10 → b 9) ∧ (b 11 → b 8) ∧ (b 11 → b 10) ∧ (¬ b 11 → Hid (Kp (bks A0) wr W)) ∧ (¬ b 8 → ¬ b 11 → Hid (Ow W 9 1 A0 k c0 (zS k) ∧ Kp [] wr W)) ∧ (b 5 → ¬ b 8 → ¬ b 11 → Hid (wr.heap.size ≤ g5 ∧ Bk W g5 5 (bts zB))) ∧ (b 7 → ¬ b 8 → ¬ b 11 → Hid (wr.heap.size ≤ g7 ∧ Bk W g7 9 [.string (S zB)])) ∧ (b 8 → ¬ b 11 → Hid (Ow W 9 1 A2 (k + 1) c2 (zS (k + 1)) ∧ (A2 = A0 ∨ ∀ b ∈ bks A2, wr.heap.size ≤ b))) ∧ (b 11 → Hid (∃ W9, Kp (bks A0) wr W9 ∧ Ow W9 9 1 A2 (k + 1) c2 (zS (k + 1)) ∧ (A2 = A0 ∨ ∀ b ∈ bks A2, wr.heap.size ≤ b) ∧ W = W9.setCell ⟨g, 0, none⟩ (.slice A2 (k + 1) c2)))) (by kernel_rfl) (by kernel_rfl) 12 rfl ?_ ?_ ?_
      · exact ⟨0, 0, none, 0, Lib.hid rfl, Lib.hid rfl, Lib.hid (fun _ _ => rfl), fun h => absurd h id, fun h => absurd h id, fun h => absurd h id, fun h => absurd h id, fun h => absurd h id, fun h => absurd h id, fun h => absurd h id, fun h => absurd h id, fun h => absurd h id, fun h => absurd h id, fun h => absurd h id, fun h => absurd h id, fun h => absurd h id, fun h => absurd h id, fun h => absurd h id, fun h => absurd h id, fun h => absurd h id, fun h => absurd h id, fun h => absurd h id, fun h => absurd h id, fun h => absurd h id, fun h => absurd h id, fun _ => Lib.hid ((Kp.refl _ _).drew), fun _ _ => Lib.hid (⟨hM.out.o0.drew, (Kp.refl _ _).drew⟩), fun h => absurd h id, fun h => absurd h id, fun h => absurd h id, fun h => absurd h id⟩
      · intro b a' W i o ho hn hd hI K hK
        obtain ⟨g5, g7, A2, c2, ad, az, af, h0, h1, h2, h3, h4, h5, h6, h7, h8, h9, h10, c2_1, c3_2, c4_3, c6_5, c7_6, c8_4, c8_7, c9_0, c10_9, c11_8, c11_10, hK1, hO, hB5, hB7, hF, hFin⟩ := hI
        have s3 := (af.out 3 (by decide)).trans sl3
        match i, ho with
        | 0, ho =>
          injection ho with ho; subst ho
          have nb11 : ¬ b 11 := fun h => hn (c9_0 (c10_9 (c11_10 h)))
          have HK := Lib.hid hK
          obtain ⟨sv3, sw3⟩ := ev_of s3
          clear hK hd
          rw [if_pos (by rfl)]
          go_simp
          exact HK.out _ _ ⟨g5, g7, A2, c2, Lib.hid ad.out, Lib.hid (gd_size.trans az.out), Lib.hid (fun k hk => (gd_ne (by rintro rfl; exact hk (by decide))).trans (af.out k hk)), fun _ => gd_eq (by rw [az.out, sz00]; decide), gdI h1, gdI h2, gdI h3, gdI h4, gdI h5, gdI h6, gdI h7, gdI h8, gdI h9, gdI h10, giI c2_1, giI c3_2, giI c4_3, giI c6_5, giI c7_6, giI c8_4, giI c8_7, giI c9_0, giI c10_9, giI c11_8, giI c11_10, fun n11 => (hK1 (fun z => n11 (.inr z))), fun n8 n11 => (hO (fun z => n8 (.inr z)) (fun z => n11 (.inr z))), fun p5 n8 n11 => (hB5 (rlI p5) (fun z => n8 (.inr z)) (fun z => n11 (.inr z))), fun p7 n8 n11 => (hB7 (rlI p7) (fun z => n8 (.inr z)) (fun z => n11 (.inr z))), fun p8 n11 => (hF (rlI p8) (fun z => n11 (.inr z))), fun p11 => absurd (c9_0 (c10_9 (c11_10 (rlI p11)))) hn⟩
        | 1, ho =>
          injection ho with ho; subst ho
          have nb8 : ¬ b 8 := fun h => hn (c2_1 (c3_2 (c4_3 (c8_4 h))))
          have nb11 : ¬ b 11 := fun h => hn (c2_1 (c3_2 (c4_3 (c8_4 (c11_8 h)))))
          have HK := Lib.hid hK
          obtain ⟨sv3, sw3⟩ := ev_of s3
          clear hK hd
          rw [if_pos (by rfl)]
          go_simp
          exact HK.out _ _ ⟨g5, g7, A2, c2, Lib.hid ad.out, Lib.hid (gd_size.trans az.out), Lib.hid (fun k hk => (gd_ne (by rintro rfl; exact hk (by decide))).trans (af.out k hk)), gdI h0, fun _ => gd_eq (by rw [az.out, sz00]; decide), gdI h2, gdI h3, gdI h4, gdI h5, gdI h6, gdI h7, gdI h8, gdI h9, gdI h10, giI c2_1, giI c3_2, giI c4_3, giI c6_5, giI c7_6, giI c8_4, giI c8_7, giI c9_0, giI c10_9, giI c11_8, giI c11_10, fun n11 => (hK1 (fun z => n11 (.inr z))), fun n8 n11 => (hO (fun z => n8 (.inr z)) (fun z => n11 (.inr z))), fun p5 n8 n11 => (hB5 (rlI p5) (fun z => n8 (.inr z)) (fun z => n11 (.inr z))), fun p7 n8 n11 => (hB7 (rlI p7) (fun z => n8 (.inr z)) (fun z => n11 (.inr z))), fun p8 n11 => absurd (c2_1 (c3_2 (c4_3 (c8_4 (rlI p8))))) hn, fun p11 => absurd (c2_1 (c3_2 (c4_3 (c8_4 (c11_8 (rlI p11)))))) hn⟩
        | 2, ho =>
          injection ho with ho; subst ho
          have nb8 : ¬ b 8 := fun h => hn (c3_2 (c4_3 (c8_4 h)))
          have nb11 : ¬ b 11 := fun h => hn (c3_2 (c4_3 (c8_4 (c11_8 h))))
          have d1 : b 1 := hd ⟨1, .data⟩ (by simp) rfl
          have HK := Lib.hid hK
          have e1 := h1 d1
          obtain ⟨ev1, ew1⟩ := ev_of e1
          clear hK hd
          rw [if_pos (by rfl)]
          go_simp
          exact HK.out _ _ ⟨g5, g7, A2, c2, Lib.hid ad.out, Lib.hid (gd_size.trans az.out), Lib.hid (fun k hk => (gd_ne (by rintro rfl; exact hk (by decide))).trans (af.out k hk)), gdI h0, gdI h1, fun _ => gd_eq (by rw [az.out, sz00]; decide), gdI h3, gdI h4, gdI h5, gdI h6, gdI h7, gdI h8, gdI h9, gdI h10, fun _ => .inr d1, giI c3_2, giI c4_3, giI c6_5, giI c7_6, giI c8_4, giI c8_7, giI c9_0, giI c10_9, giI c11_8, giI c11_10, fun n11 => (hK1 (fun z => n11 (.inr z))), fun n8 n11 => (hO (fun z => n8 (.inr z)) (fun z => n11 (.inr z))), fun p5 n8 n11 => (hB5 (rlI p5) (fun z => n8 (.inr z)) (fun z => n11 (.inr z))), fun p7 n8 n11 => (hB7 (rlI p7) (fun z => n8 (.inr z)) (fun z => n11 (.inr z))), fun p8 n11 => absurd (c3_2 (c4_3 (c8_4 (rlI p8)))) hn, fun p11 => absurd (c3_2 (c4_3 (c8_4 (c11_8 (rlI p11))))) hn⟩
        | 3, ho =>
          injection ho with ho; subst ho
          have nb8 : ¬ b 8 := fun h => hn (c4_3 (c8_4 h))
          have nb11 : ¬ b 11 := fun h => hn (c4_3 (c8_4 (c11_8 h)))
          have d2 : b 2 := hd ⟨2, .data⟩ (by simp) rfl
          have HK := Lib.hid hK
          have e2 := h2 d2
          obtain ⟨ev2, ew2⟩ := ev_of e2
          clear hK hd
          rw [if_pos (by rfl)]
          go_simp
          exact HK.out _ _ ⟨g5, g7, A2, c2, Lib.hid ad.out, Lib.hid (gd_size.trans az.out), Lib.hid (fun k hk => (gd_ne (by rintro rfl; exact hk (by decide))).trans (af.out k hk)), gdI h0, gdI h1, gdI h2, fun _ => gd_eq (by rw [az.out, sz00]; decide), gdI h4, gdI h5, gdI h6, gdI h7, gdI h8, gdI h9, gdI h10, giI c2_1, fun _ => .inr d2, giI c4_3, giI c6_5, giI c7_6, giI c8_4, giI c8_7, giI c9_0, giI c10_9, giI c11_8, giI c11_10, fun n11 => (hK1 (fun z => n11 (.inr z))), fun n8 n11 => (hO (fun z => n8 (.inr z)) (fun z => n11 (.inr z))), fun p5 n8 n11 => (hB5 (rlI p5) (fun z => n8 (.inr z)) (fun z => n11 (.inr z))), fun p7 n8 n11 => (hB7 (rlI p7) (fun z => n8 (.inr z)) (fun z => n11 (.inr z))), fun p8 n11 => absurd (c4_3 (c8_4 (rlI p8))) hn, fun p11 => absurd (c4_3 (c8_4 (c11_8 (rlI p11)))) hn⟩
        | 4, ho =>
          injection ho with ho; subst ho
          have nb8 : ¬ b 8 := fun h => hn (c8_4 h)
          have nb11 : ¬ b 11 := fun h => hn (c8_4 (c11_8 h))
          have d3 : b 3 := hd ⟨3, .data⟩ (by simp) rfl
          have HK := Lib.hid hK
          have e3 := h3 d3
          obtain ⟨ev3, ew3⟩ := ev_of e3
          have q := (hM.out.dd.kp (hK1 nb11).out (fun hm => Nat.lt_irrefl _ (hM.out.f0 _ hm).1)).cell 0
          simp only [List.getElem?_cons_zero, List.getElem?_cons_succ] at q
          clear hK hd
          rw [if_pos (by rfl)]
          go_simp
          exact HK.out _ _ ⟨g5, g7, A2, c2, Lib.hid ad.out, Lib.hid (gd_size.trans az.out), Lib.hid (fun k hk => (gd_ne (by rintro rfl; exact hk (by decide))).trans (af.out k hk)), gdI h0, gdI h1, gdI h2, gdI h3, fun _ => gd_eq (by rw [az.out, sz00]; decide), gdI h5, gdI h6, gdI h7, gdI h8, gdI h9, gdI h10, giI c2_1, giI c3_2, fun _ => .inr d3, giI c6_5, giI c7_6, giI c8_4, giI c8_7, giI c9_0, giI c10_9, giI c11_8, giI c11_10, fun n11 => (hK1 (fun z => n11 (.inr z))), fun n8 n11 => (hO (fun z => n8 (.inr z)) (fun z => n11 (.inr z))), fun p5 n8 n11 => (hB5 (rlI p5) (fun z => n8 (.inr z)) (fun z => n11 (.inr z))), fun p7 n8 n11 => (hB7 (rlI p7) (fun z => n8 (.inr z)) (fun z => n11 (.inr z))), fun p8 n11 => absurd (c8_4 (rlI p8)) hn, fun p11 => absurd (c8_4 (c11_8 (rlI p11))) hn⟩
        | 5, ho =>
          injection ho with ho; subst ho
          have nb8 : ¬ b 8 := fun h => hn (c6_5 (c7_6 (c8_7 h)))
          have nb11 : ¬ b 11 := fun h => hn (c6_5 (c7_6 (c8_7 (c11_8 h))))
          have HK := Lib.hid hK
          have hmk := HMK.out W
          clear hK hd
          rw [if_pos (by rfl)]
          go_simp
          exact HK.out _ _ ⟨W.heap.size, g7, A2, c2, Lib.hid ad.out, Lib.hid (gd_size.trans az.out), Lib.hid (fun k hk => (gd_ne (by rintro rfl; exact hk (by decide))).trans (af.out k hk)), gdI h0, gdI h1, gdI h2, gdI h3, gdI h4, fun _ => gd_eq (by rw [az.out, sz00]; decide), gdI h6, gdI h7, gdI h8, gdI h9, gdI h10, giI c2_1, giI c3_2, giI c4_3, giI c6_5, giI c7_6, giI c8_4, giI c8_7, giI c9_0, giI c10_9, giI c11_8, giI c11_10, fun n11 => Lib.hid ((((hK1 (fun z => n11 (.inr z))).out).thn ((Kp.refl [] W).alloc _) (by simp))), fun n8 n11 => Lib.hid (⟨((hO (fun z => n8 (.inr z)) (fun z => n11 (.inr z))).out).1.kp ((Kp.refl [] W).alloc _) (by simp), ((hO (fun z => n8 (.inr z)) (fun z => n11 (.inr z))).out).2.trans ((Kp.refl [] W).alloc _)⟩), fun p5 n8 n11 => Lib.hid (⟨(hO nb8 nb11).out.2.size, (Bk.newAt rfl _ _).cast HE.out⟩), fun p7 n8 n11 => absurd (c6_5 (c7_6 (rlI p7))) hn, fun p8 n11 => absurd (c6_5 (c7_6 (c8_7 (rlI p8)))) hn, fun p11 => absurd (c6_5 (c7_6 (c8_7 (c11_8 (rlI p11))))) hn⟩
        | 6, ho =>
          injection ho with ho; subst ho
          have nb8 : ¬ b 8 := fun h => hn (c7_6 (c8_7 h))
          have nb11 : ¬ b 11 := fun h => hn (c7_6 (c8_7 (c11_8 h)))
          have d5 : b 5 := hd ⟨5, .data⟩ (by simp) rfl
          have HK := Lib.hid hK
          have e5 := h5 d5
          obtain ⟨ev5, ew5⟩ := ev_of e5
          have hcv := conv_bs (c := 256) (n := 256) (N := []) (l := zB) (Rd.of_bk (hB5 d5 nb8 nb11).out.2 (by simp)) rfl
          clear hK hd
          rw [if_pos (by rfl)]
          go_simp
          exact HK.out _ _ ⟨g5, g7, A2, c2, Lib.hid ad.out, Lib.hid (gd_size.trans az.out), Lib.hid (fun k hk => (gd_ne (by rintro rfl; exact hk (by decide))).trans (af.out k hk)), gdI h0, gdI h1, gdI h2, gdI h3, gdI h4, gdI h5, fun _ => gd_eq (by rw [az.out, sz00]; decide), gdI h7, gdI h8, gdI h9, gdI h10, giI c2_1, giI c3_2, giI c4_3, fun _ => .inr d5, giI c7_6, giI c8_4, giI c8_7, giI c9_0, giI c10_9, giI c11_8, giI c11_10, fun n11 => (hK1 (fun z => n11 (.inr z))), fun n8 n11 => (hO (fun z => n8 (.inr z)) (fun z => n11 (.inr z))), fun p5 n8 n11 => (hB5 (rlI p5) (fun z => n8 (.inr z)) (fun z => n11 (.inr z))), fun p7 n8 n11 => absurd (c7_6 (rlI p7)) hn, fun p8 n11 => absurd (c7_6 (c8_7 (rlI p8))) hn, fun p11 => absurd (c7_6 (c8_7 (c11_8 (rlI p11)))) hn⟩
        | 7, ho =>
          injection ho with ho; subst ho
          have nb8 : ¬ b 8 := fun h => hn (c8_7 h)
          have nb11 : ¬ b 11 := fun h => hn (c8_7 (c11_8 h))
          have d6 : b 6 := hd ⟨6, .data⟩ (by simp) rfl
          have HK := Lib.hid hK
          have e6 := h6 d6
          obtain ⟨ev6, ew6⟩ := ev_of e6
          clear hK hd
          rw [if_pos (by rfl)]
          go_simp
          exact HK.out _ _ ⟨g5, W.heap.size, A2, c2, Lib.hid ad.out, Lib.hid (gd_size.trans az.out), Lib.hid (fun k hk => (gd_ne (by rintro rfl; exact hk (by decide))).trans (af.out k hk)), gdI h0, gdI h1, gdI h2, gdI h3, gdI h4, gdI h5, gdI h6, fun _ => gd_eq (by rw [az.out, sz00]; decide), gdI h8, gdI h9, gdI h10, giI c2_1, giI c3_2, giI c4_3, giI c6_5, fun _ => .inr d6, giI c8_4, giI c8_7, giI c9_0, giI c10_9, giI c11_8, giI c11_10, fun n11 => Lib.hid ((((hK1 (fun z => n11 (.inr z))).out).thn ((Kp.refl [] W).alloc _) (by simp))), fun n8 n11 => Lib.hid (⟨((hO (fun z => n8 (.inr z)) (fun z => n11 (.inr z))).out).1.kp ((Kp.refl [] W).alloc _) (by simp), ((hO (fun z => n8 (.inr z)) (fun z => n11 (.inr z))).out).2.trans ((Kp.refl [] W).alloc _)⟩), fun p5 n8 n11 => Lib.hid (⟨((hB5 (rlI p5) (fun z => n8 (.inr z)) (fun z => n11 (.inr z))).out).1, ((hB5 (rlI p5) (fun z => n8 (.inr z)) (fun z => n11 (.inr z))).out).2.kp ((Kp.refl [] W).alloc _) (by simp)⟩), fun p7 n8 n11 => Lib.hid (⟨(hO nb8 nb11).out.2.size, (Bk.newAt rfl _ _).cast rfl⟩), fun p8 n11 => absurd (c8_7 (rlI p8)) hn, fun p11 => absurd (c8_7 (c11_8 (rlI p11))) hn⟩
        | 8, ho =>
          injection ho with ho; subst ho
          have nb8 := hn
          have nb11 : ¬ b 11 := fun h => hn (c11_8 h)
          have d4 : b 4 := hd ⟨4, .data⟩ (by simp) rfl
          have d7 : b 7 := hd ⟨7, .data⟩ (by simp) rfl
          have HK := Lib.hid hK
          have e4 := h4 d4
          obtain ⟨ev4, ew4⟩ := ev_of e4
          have e7 := h7 d7
          obtain ⟨ev7, ew7⟩ := ev_of e7
          clear hK hd
          rw [if_pos (by rfl)]
          refine wp_app _ (.tmp 16) (.tmp 19) _ rfl elt_str A0 k c0 _ ev4 (hO hn nb11).out.1 [] (some ⟨g7, 0, none⟩) 1 1 [.string (S zB)] ev7 (Rd.of_bk (hB7 d7 hn nb11).out.2 (by simp)) rfl (by simp [Value.oneCell']) (by omega) (fun A2' c2' w2' ho2 hk2 hA2 => ?_)
          have ho2 := Lib.hid ho2
          exact HK.out _ _ ⟨g5, g7, A2', c2', Lib.hid ad.out, Lib.hid (gd_size.trans az.out), Lib.hid (fun k hk => (gd_ne (by rintro rfl; exact hk (by decide))).trans (af.out k hk)), gdI h0, gdI h1, gdI h2, gdI h3, gdI h4, gdI h5, gdI h6, gdI h7, fun _ => gd_eq (by rw [az.out, sz00]; decide), gdI h9, gdI h10, giI c2_1, giI c3_2, giI c4_3, giI c6_5, giI c7_6, fun _ => .inr d4, fun _ => .inr d7, giI c9_0, giI c10_9, giI c11_8, giI c11_10, fun n11 => Lib.hid ((hK1 nb11).out.thn hk2 (fun s hs => .inl hs)), fun  z _ => absurd (.inl rfl) z, fun _ z _ => absurd (.inl rfl) z, fun _ z _ => absurd (.inl rfl) z, fun p8 n11 => Lib.hid (⟨ho2.out.cast rfl (zS_succ k), by rcases hA2 with rfl | rfl; exact .inl rfl; exact .inr (fun b hb => by simp [bks] at hb; have := (hK1 nb11).out.size; omega)⟩), fun p11 => Lib.hid (absurd (c11_8 (rlI p11)) hn)⟩
        | 9, ho =>
          injection ho with ho; subst ho
          have nb11 : ¬ b 11 := fun h => hn (c10_9 (c11_10 h))
          have d0 : b 0 := hd ⟨0, .data⟩ (by simp) rfl
          have HK := Lib.hid hK
          have e0 := h0 d0
          obtain ⟨ev0, ew0⟩ := ev_of e0
          clear hK hd
          rw [if_pos (by rfl)]
          go_simp
          exact HK.out _ _ ⟨g5, g7, A2, c2, Lib.hid ad.out, Lib.hid (gd_size.trans az.out), Lib.hid (fun k hk => (gd_ne (by rintro rfl; exact hk (by decide))).trans (af.out k hk)), gdI h0, gdI h1, gdI h2, gdI h3, gdI h4, gdI h5, gdI h6, gdI h7, gdI h8, fun _ => gd_eq (by rw [az.out, sz00]; decide), gdI h10, giI c2_1, giI c3_2, giI c4_3, giI c6_5, giI c7_6, giI c8_4, giI c8_7, fun _ => .inr d0, giI c10_9, giI c11_8, giI c11_10, fun n11 => (hK1 (fun z => n11 (.inr z))), fun n8 n11 => (hO (fun z => n8 (.inr z)) (fun z => n11 (.inr z))), fun p5 n8 n11 => (hB5 (rlI p5) (fun z => n8 (.inr z)) (fun z => n11 (.inr z))), fun p7 n8 n11 => (hB7 (rlI p7) (fun z => n8 (.inr z)) (fun z => n11 (.inr z))), fun p8 n11 => (hF (rlI p8) (fun z => n11 (.inr z))), fun p11 => absurd (c10_9 (c11_10 (rlI p11))) hn⟩
        | 10, ho =>
          injection ho with ho; subst ho
          have nb11 : ¬ b 11 := fun h => hn (c11_10 h)
          have d9 : b 9 := hd ⟨9, .data⟩ (by simp) rfl
          have HK := Lib.hid hK
          have e9 := h9 d9
          obtain ⟨ev9, ew9⟩ := ev_of e9
          clear hK hd
          rw [if_pos (by rfl)]
          go_simp
          exact HK.out _ _ ⟨g5, g7, A2, c2, Lib.hid ad.out, Lib.hid (gd_size.trans az.out), Lib.hid (fun k hk => (gd_ne (by rintro rfl; exact hk (by decide))).trans (af.out k hk)), gdI h0, gdI h1, gdI h2, gdI h3, gdI h4, gdI h5, gdI h6, gdI h7, gdI h8, gdI h9, fun _ => gd_eq (by rw [az.out, sz00]; decide), giI c2_1, giI c3_2, giI c4_3, giI c6_5, giI c7_6, giI c8_4, giI c8_7, giI c9_0, fun _ => .inr d9, giI c11_8, giI c11_10, fun n11 => (hK1 (fun z => n11 (.inr z))), fun n8 n11 => (hO (fun z => n8 (.inr z)) (fun z => n11 (.inr z))), fun p5 n8 n11 => (hB5 (rlI p5) (fun z => n8 (.inr z)) (fun z => n11 (.inr z))), fun p7 n8 n11 => (hB7 (rlI p7) (fun z => n8 (.inr z)) (fun z => n11 (.inr z))), fun p8 n11 => (hF (rlI p8) (fun z => n11 (.inr z))), fun p11 => absurd (c11_10 (rlI p11)) hn⟩
        | 11, ho =>
          injection ho with ho; subst ho
          have nb11 := hn
          have d8 : b 8 := hd ⟨8, .data⟩ (by simp) rfl
          have d10 : b 10 := hd ⟨10, .data⟩ (by simp) rfl
          have HK := Lib.hid hK
          have e8 := h8 d8
          obtain ⟨ev8, ew8⟩ := ev_of e8
          have e10 := h10 d10
          obtain ⟨ev10, ew10⟩ := ev_of e10
          have zb := (hM.out.dd.kp (hK1 hn).out (fun hm => Nat.lt_irrefl _ (hM.out.f0 _ hm).1))
          have zl := zb.lt
          have zf := zb.frozen 0
          have zc := zb.cell 0
          simp only [List.getElem?_cons_zero, List.getElem?_cons_succ] at zc
          clear hK hd
          rw [if_pos (by rfl)]
          go_simp
          exact HK.out _ _ ⟨g5, g7, A2, c2, ad, az, af, fun h => h0 (rlI h), fun h => h1 (rlI h), fun h => h2 (rlI h), fun h => h3 (rlI h), fun h => h4 (rlI h), fun h => h5 (rlI h), fun h => h6 (rlI h), fun h => h7 (rlI h), fun h => h8 (rlI h), fun h => h9 (rlI h), fun h => h10 (rlI h), giI c2_1, giI c3_2, giI c4_3, giI c6_5, giI c7_6, giI c8_4, giI c8_7, giI c9_0, giI c10_9, fun _ => .inr d8, fun _ => .inr d10, fun  z => absurd (.inl rfl) z, fun  _ z => absurd (.inl rfl) z, fun _ _ z => absurd (.inl rfl) z, fun _ _ z => absurd (.inl rfl) z, fun _ z => absurd (.inl rfl) z, fun p11 => Lib.hid (⟨W, (hK1 hn).out, (hF d8 hn).out.1, (hF d8 hn).out.2, rfl⟩)⟩
        | (n + 12), ho => exact absurd ho (by simp)
      · intro b a' W hb hI
        obtain ⟨g5, g7, A2, c2, ad, az, af, h0, h1, h2, h3, h4, h5, h6, h7, h8, h9, h10, c2_1, c3_2, c4_3, c6_5, c7_6, c8_4, c8_7, c9_0, c10_9, c11_8, c11_10, hK1, hO, hB5, hB7, hF, hFin⟩ := hI
        clear hK1
        clear hO
        clear hB5
        clear hB7
        clear hF
        have hFin := hFin (hb 11 (by decide))
        have ha := act_of (L := [(12, .pointer (some ⟨g, 0, none⟩)), (13, .pointer (some ⟨g, 0, none⟩)), (14, .pointer (some ⟨g, 0, none⟩)), (15, .pointer (some ⟨g, 0, none⟩)), (16, .slice A0 k c0), (17, .slice (some ⟨g5, 0, none⟩) 256 256), (18, .string (S zB)), (19, .slice (some ⟨g7, 0, none⟩) 1 1), (20, .slice A2 (k + 1) c2), (21, .pointer (some ⟨g, 0, none⟩)), (22, .pointer (some ⟨g, 0, none⟩))]) (show ([12, 13, 14, 15, 16, 17, 18, 19, 20, 21, 22] : List Nat).Nodup by decide) ad.out az.out af.out (by
          intro p hp
          rw [sz00]
          simp only [List.mem_cons, List.not_mem_nil, or_false] at hp
          rcases hp with rfl | rfl | rfl | rfl | rfl | rfl | rfl | rfl | rfl | rfl | rfl
          · exact ⟨show 12 < 33 by decide, h0 (hb 0 (by decide))⟩
          · exact ⟨show 13 < 33 by decide, h1 (hb 1 (by decide))⟩
          · exact ⟨show 14 < 33 by decide, h2 (hb 2 (by decide))⟩
          · exact ⟨show 15 < 33 by decide, h3 (hb 3 (by decide))⟩
          · exact ⟨show 16 < 33 by decide, h4 (hb 4 (by decide))⟩
          · exact ⟨show 17 < 33 by decide, h5 (hb 5 (by decide))⟩
          · exact ⟨show 18 < 33 by decide, h6 (hb 6 (by decide))⟩
          · exact ⟨show 19 < 33 by decide, h7 (hb 7 (by decide))⟩
          · exact ⟨show 20 < 33 by decide, h8 (hb 8 (by decide))⟩
          · exact ⟨show 21 < 33 by decide, h9 (hb 9 (by decide))⟩
          · exact ⟨show 22 < 33 by decide, h10 (hb 10 (by decide))⟩
          )
        rw [HA00.out] at ha
        simp only [List.foldl_cons, List.foldl_nil, Act.put, List.setIfInBounds_toArray, List.set_cons_zero, List.set_cons_succ] at ha
        clear h0 h1 h2 h3 h4 h5 h6 h7 h8 h9 h10 c2_1 c3_2 c4_3 c6_5 c7_6 c8_4 c8_7 c9_0 c10_9 c11_8 c11_10 hb ad az af HA00 sz00 sl3
        subst ha
        obtain ⟨W9, z1, z2, z3, rfl⟩ := hFin.out
        obtain ⟨y1, y2, y3, y4, y5⟩ := hM.out.put0 z1 z2 z3
        have Y1 := Lib.hid y1
        have Y2 := Lib.hid y2
        have Y3 := Lib.hid y3
        have Y4 := Lib.hid y4
        have Y5 := Lib.hid y5
        have HF1 := Lib.hid hM.out.f1
        clear hFin z1 z2 z3 y1 y2 y3 y4 y5 hM
        generalize W9.setCell ⟨g, 0, none⟩ (.slice A2 (k + 1) c2) = w6 at *
        have q0 := Y2.out.cell 1
        simp only [List.getElem?_cons_zero, List.getElem?_cons_succ] at q0
        have q1 := fun o => (Y2.out.alloc o).cell 1
        simp only [List.getElem?_cons_zero, List.getElem?_cons_succ] at q1
        go_wp2_with (at_builtin; refine wpList_app _ rfl (.tmp 27) (.tmp 28) _ rfl elt_int A1 k c1 _ rfl (Y4.out.alloc _) [] (some ⟨w6.heap.size, 0, none⟩) 1 1 [.int .i64 0] rfl (Rd.of_bk (Bk.newAt rfl _ _) (by simp)) rfl (by simp [Value.oneCell']) (by omega) ?_; intro A7 d1 w7 ho7 hk7 hA7; have hb7 := (Y2.out.alloc (.cells #[.int .i64 0] 3)).kp hk7 (fun hm => Nat.lt_irrefl _ (HF1.out _ hm)); have z7 := hb7.frozen 1; have y7 := hb7.cell 1; simp only [List.getElem?_cons_zero, List.getElem?_cons_succ] at y7)
        exact ⟨⟨k + 1, A2, A7, c2, d1, by omega, by go_num, Lib.hid (Mn.put1 Y1.out Y2.out hgw Y3.out Y5.out HF1.out (((Kp.refl (bks A1) w6).alloc (.cells #[.int .i64 0] 3)).thn hk7 (fun s hs => .inl hs)) (ho7.cast rfl (zI_succ k)) (hA7.imp id (fun h => by rw [h]; intro b hb; simp [bks] at hb; omega)))⟩, by simp [intOf]; omega⟩
    · obtain rfl : k = n := by omega
      have HN := Lib.hid hM.out
      clear hM
      by_cases h0 : k = 0
      · go_wp2
        exact H.out g w.heap.size (w.heap.size + 1) _ hgw (Nat.le_refl _) (by omega) (by omega) HN.out.kp (.inl h0)
      · obtain ⟨gb, hA0, tb⟩ := HN.out.o0.tw (by omega)
        obtain ⟨gq, hA1, tq⟩ := HN.out.o1.tw (by omega)
        subst hA0; subst hA1
        have n0 := HN.out.f0 gb (by simp [bks])
        have n1 := HN.out.f1 gq (by simp [bks])
        have TB := Lib.hid tb
        have TO := Lib.hid tq
        clear tb tq
        go_wp2
        refine H.out g gb gq _ hgw (by omega) (by omega) (by have := n0.2; simpa [bks] using this) HN.out.kp (.inr ⟨⟨c0, c1, HN.out.dd.cast (by simp [dz, leftM])⟩, TB.out.cast (by simp [dz, zS, sV, zB_eq]), TO.out.cast ?_, Nb.nil, by omega, dz_ok h2⟩)
        simp [dz, zI, ints]
end
end
end Go.Proofs.YtedblbpmlbjnhaaGreat
