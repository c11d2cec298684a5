/- A new kernel of any numbers, whole. -/
import Derived.Test.YthlmfjfkkndboaaKj
namespace Go.Proofs.Ythlmfjfkkndboaa
open Go.RowKit Go.Shelf
set_option linter.unusedVariables false
set_option linter.unusedSimpArgs false
set_option maxRecDepth 100000

def z256 : List UInt8 := List.replicate 256 0
def dz (n : Nat) : DkS := ⟨List.replicate n z256, List.replicate n 0, []⟩
theorem z256_len : z256.length = 256 := by kernel_rfl
theorem zpg_cells : (Array.replicate 256 (Value.int .u8 0)).toList = pcells z256 := by rw [pcells_eq z256_len]; kernel_rfl
theorem made_pages (n : Nat) : (madeCells (Array.replicate 256 (Value.int .u8 0)) (n * 256)).toList = (List.replicate n z256).flatMap pcells := by
  have h := made_pieces (z := Array.replicate 256 (Value.int .u8 0)) (K := 256) (by simp) (by omega) n
  rw [h]
  induction n with
  | zero => rfl
  | succ n ih =>
    rw [List.replicate_succ, List.replicate_succ, List.flatMap_cons, List.flatMap_cons, zpg_cells]
    congr 1
    exact ih (made_pieces (z := Array.replicate 256 (Value.int .u8 0)) (K := 256) (by simp) (by omega) n)
theorem dz_ok {n : Nat} (h : n ≤ 512) : (dz n).ok := ⟨by simpa [dz] using h, by simp [dz], fun s hs => by rw [List.eq_of_mem_replicate hs]; exact z256_len, by simp [dz]⟩
set_option maxHeartbeats 2000000 in
theorem dnew2_any {R : Ending → World → Prop} (n : Nat) (w : World) (h1 : 1 ≤ n) (h2 : n ≤ 512) (h : ∀ bD bL bO w', w.heap.size ≤ bD → w.heap.size ≤ bL → w.heap.size ≤ bO → Kp [] w w' → Dsk w' bD bL bO none 0 (dz n) → R (.returned (.tuple #[.pointer (some ⟨bD, 0, none⟩), .int .i64 0])) w') :
    Calls Try.prog 65 #[.int .i64 n] w R := by
  have H := Lib.hid h
  clear h
  obtain ⟨pz, hpz⟩ : ∃ pz, Array.replicate 256 (Value.int .u8 0) = pz := ⟨_, rfl⟩
  have hinf : (Try.prog.info? 187).map (fun i => (i.zero, i.size, i.bytes)) = some (some (.agg pz), 256, 256) := by rw [← hpz]; exact info_page
  have hmp : (madeCells pz (n * 256)).toList = (List.replicate n z256).flatMap pcells := by rw [← hpz]; exact made_pages n
  have HMP := Lib.hid hmp
  obtain ⟨i0, hi, hz0, hz1, hz2⟩ := info_parts hinf
  obtain ⟨i1, ji, jz0, jz1, jz2⟩ := info_parts info_int
  have hmk := fun W => run_make (P := Try.prog) W 153 187 i0 _ Try.underlying153 hi hz0 .i64 .i64 n n (by omega) (by omega) (by rw [hz2]; omega) (by omega)
  have hmi := fun W => run_make (P := Try.prog) W 83 3 i1 _ Try.underlying83 ji jz0 .i64 .i64 n n (by omega) (by omega) (by rw [jz2]; omega) (by omega)
  simp only [hz1, Int.toNat_natCast] at hmk
  simp only [jz1, Int.toNat_natCast] at hmi
  clear hi hz0 hz1 hz2 ji jz0 jz1 jz2 hmp hpz hinf
  go_enter Try.func65, Try.ntmps65
  go_wp2
  go_region
  all_goals
    go_wp2
    first
    | exact rcast (H.out (w.heap.size + 1 + 1) w.heap.size (w.heap.size + 1) _ (by omega) (by omega) (by omega) ((((Kp.refl _ _).alloc _).alloc _).alloc _).drew ⟨(Bk.newAt (by simp) _ _).cast (by simp [dz]), (((Bk.new' _ _ _).alloc _).alloc _).cast HMP.out, (((Bk.newAt (by simp) _ _).alloc _).cast (made_ints n)), Ow.nil, dz_ok h2⟩) rfl
    | exact rcast (H.out (w.heap.size + 1 + 1) (w.heap.size + 1) w.heap.size _ (by omega) (by omega) (by omega) ((((Kp.refl _ _).alloc _).alloc _).alloc _).drew ⟨(Bk.newAt (by simp) _ _).cast (by simp [dz]), (((Bk.newAt (by simp) _ _).alloc _).cast HMP.out), ((((Bk.new' _ _ _).alloc _).alloc _).cast (made_ints n)), Ow.nil, dz_ok h2⟩) rfl
/-- Who has which block: the first environment all but the last quarter. -/
def own2 (n : Nat) : List Int := List.replicate (n - n / 4) 1 ++ List.replicate (n / 4) 2
theorem setR_at (os : List Int) (first : Nat) (e : Int) : ∀ (k j : Nat), first + k ≤ os.length → (setR os first k e)[j]? = if first ≤ j ∧ j < first + k then some e else os[j]?
  | 0, j, _ => by rw [setR, if_neg (by omega)]
  | k + 1, j, h => by
    rw [setR, List.getElem?_set]
    by_cases hj : first + k = j
    · rw [if_pos hj, if_pos (by rw [setR_len]; omega), if_pos (by omega)]
    · rw [if_neg hj, setR_at os first e k j (by omega)]
      by_cases hc : first ≤ j ∧ j < first + k
      · rw [if_pos hc, if_pos (by omega)]
      · rw [if_neg hc, if_neg (by omega)]
theorem grants (n : Nat) : setR (setR (List.replicate n 0) 0 (n - n / 4) 1) (n - n / 4) (n / 4) 2 = own2 n := by
  apply List.ext_getElem?
  intro j
  rw [setR_at _ _ _ _ _ (by rw [setR_len, List.length_replicate]; omega), setR_at _ _ _ _ _ (by rw [List.length_replicate]; omega)]
  unfold own2
  rw [List.getElem?_append, List.length_replicate]
  simp only [List.getElem?_replicate]
  by_cases a1 : n - n / 4 ≤ j ∧ j < n - n / 4 + n / 4
  · rw [if_pos a1, if_neg (by omega), if_pos (by omega)]
  · rw [if_neg a1]
    by_cases a2 : 0 ≤ j ∧ j < 0 + (n - n / 4)
    · rw [if_pos a2, if_pos (by omega), if_pos (by omega)]
    · rw [if_neg a2, if_neg (by omega), if_neg (by omega), if_neg (by omega)]
set_option maxHeartbeats 2000000 in
theorem rnb2_any {R : Ending → World → Prop} (w : World) (h : ∀ g l w', w.heap.size ≤ g → w.heap.size ≤ l → Kp [] w w' → Rb w' g l 0 [] → g ≠ l → R (.returned (.tuple #[.pointer (some ⟨g, 0, none⟩), .int .i64 0])) w') :
    Calls Try.prog 67 #[.int .i64 16] w R := by
  have H := Lib.hid h
  clear h
  obtain ⟨i0, hi, hz0, hz1, hz2⟩ := info_parts info_bs
  have hmk := fun W => run_make (P := Try.prog) W 158 44 i0 _ Try.underlying158 hi hz0 .i64 .i64 16 16 (by omega) (by omega) (by rw [hz2]; omega) (by omega)
  simp only [hz1] at hmk
  have hml : (madeCells #[Value.slice none 0 0] 16).toList.length = 16 := by have := made_pieces (z := #[Value.slice none 0 0]) (K := 1) rfl (by omega) 16; rw [show 16 = 16 * 1 by rfl, this]; simp
  have HML := Lib.hid hml
  clear hi hz0 hz1 hz2 hml
  go_enter Try.func67, Try.ntmps67
  go_wp2
  exact rcast (H.out (w.heap.size + 1) w.heap.size _ (by omega) (Nat.le_refl _) (((Kp.refl _ _).alloc _).alloc _) ⟨(Bk.newAt (by simp) _ _).cast rfl, ⟨_, (Bk.new' _ _ _).alloc _, HML.out, by simp⟩, by simp, by simp⟩ (by omega)) rfl
set_option maxHeartbeats 2000000 in
theorem rnt2_any {R : Ending → World → Prop} (w : World) (h : ∀ g l w', w.heap.size ≤ g → w.heap.size ≤ l → Kp [] w w' → Rq w' g l 0 [] → g ≠ l → R (.returned (.tuple #[.pointer (some ⟨g, 0, none⟩), .int .i64 0])) w') :
    Calls Try.prog 68 #[.int .i64 16] w R := by
  have H := Lib.hid h
  clear h
  obtain ⟨i0, hi, hz0, hz1, hz2⟩ := info_parts info_tr
  have hmk := fun W => run_make (P := Try.prog) W 161 127 i0 _ Try.underlying161 hi hz0 .i64 .i64 16 16 (by omega) (by omega) (by rw [hz2]; omega) (by omega)
  simp only [hz1] at hmk
  have hml : (madeCells #[Value.int .i64 0, .slice none 0 0] 32).toList.length = 32 := by have := made_pieces (z := #[Value.int .i64 0, .slice none 0 0]) (K := 2) rfl (by omega) 16; rw [show 32 = 16 * 2 by rfl, this]; simp
  have HML := Lib.hid hml
  clear hi hz0 hz1 hz2 hml
  go_enter Try.func68, Try.ntmps68
  go_wp2
  exact rcast (H.out (w.heap.size + 1) w.heap.size _ (by omega) (Nat.le_refl _) (((Kp.refl _ _).alloc _).alloc _) ⟨(Bk.newAt (by simp) _ _).cast rfl, ⟨_, (Bk.new' _ _ _).alloc _, HML.out, by simp⟩, by simp, by simp⟩ (by omega)) rfl
/-- The rings that are there after k rounds. -/
def RS (B : Nat) (wr : World) (k : Nat) (b c : Option Addr) : Prop :=
  (2 ≤ k → ∃ s r, b = some ⟨s, 0, none⟩ ∧ Rb wr s r 0 [] ∧ B ≤ s ∧ B ≤ r ∧ s ≠ r ∧ s < wr.heap.size ∧ r < wr.heap.size ∧
    (3 ≤ k → ∃ s2 r2, c = some ⟨s2, 0, none⟩ ∧ Rb wr s2 r2 0 [] ∧ B ≤ s2 ∧ B ≤ r2 ∧ s2 ≠ r2 ∧ s ≠ s2 ∧ r ≠ r2 ∧ s ≠ r2 ∧ s2 ≠ r))
theorem Rb.lt {w : World} {s r f : Nat} {q : List Sl} (h : Rb w s r f q) : s < w.heap.size ∧ r < w.heap.size := ⟨h.hs.lt, by obtain ⟨cs, hcs, _⟩ := h.hr; exact hcs.lt⟩
theorem RS.kp {B : Nat} {w w' : World} {k : Nat} {b c : Option Addr} {S : List Nat} (h : RS B w k b c) (hk : Kp S w w') (h1 : Off w S 160) (h2 : Off w S 44) (h3 : Off w S 5) : RS B w' k b c := fun h2k => by
  obtain ⟨s, r, e, rb, g1, g2, g3, g4, g5, g6⟩ := h h2k
  have t : ∀ {s r : Nat}, Rb w s r 0 [] → Rb w' s r 0 [] := fun rb => rb.off hk (h1.nin rb.hs.ty) (by obtain ⟨cs, hcs, _⟩ := rb.hr; exact h2.nin hcs.ty) h3
  have z := hk.size
  refine ⟨s, r, e, t rb, g1, g2, g3, by omega, by omega, fun h3k => ?_⟩
  obtain ⟨s2, r2, e2, rb2, q⟩ := g6 h3k
  exact ⟨s2, r2, e2, t rb2, q⟩
def kz0 (F N : Nat) : KS := ⟨List.replicate F fz, { dz N with ow := own2 N }, [], 0, 0, [], 0, [], 0, [], 0⟩
set_option maxHeartbeats 4000000 in
theorem knew2_any {R : Ending → World → Prop} (F N : Nat) (hF1 : 1 ≤ F) (hF2 : F ≤ 256) (hN1 : 4 ≤ N) (hN2 : N ≤ 512) (w : World) (h : ∀ a w', Kp [] w w' → Kn w' w.heap.size a (kz0 F N) → R (.returned (.tuple #[.pointer (some ⟨a.g, 0, none⟩), .int .i64 0])) w') :
    Calls Try.prog 28 #[.int .i64 F, .int .i64 N] w R := by
  have H := Lib.hid h
  clear h
  obtain ⟨q, hq⟩ : ∃ q, N / 4 = q := ⟨_, rfl⟩
  obtain ⟨p, hp⟩ : ∃ p, N - N / 4 = p := ⟨_, rfl⟩
  have hqd : (N : Int).tdiv 4 = (q : Int) := by rw [← hq, Int.tdiv_eq_ediv_of_nonneg (by omega)]; omega
  have hpd : (N : Int) - (q : Int) = (p : Int) := by omega
  have hq0 : ((q : Int) == 0) = false := by simp; omega
  have HF : Hid (∀ (R : Ending → World → Prop) (w : World), (∀ bT bL w', w.heap.size ≤ bT → w.heap.size ≤ bL → Kp [] w w' → Tab w' bT bL (List.replicate F fz) → R (.returned (.tuple #[.pointer (some ⟨bT, 0, none⟩), .int .i64 0])) w') → Calls Try.prog 10 #[.int .i64 F] w R) := Lib.hid (fun R w h => new_any F hF1 hF2 h)
  have HDk : Hid (∀ (R : Ending → World → Prop) (w : World), (∀ bD bL bO w', w.heap.size ≤ bD → w.heap.size ≤ bL → w.heap.size ≤ bO → Kp [] w w' → Dsk w' bD bL bO none 0 (dz N) → R (.returned (.tuple #[.pointer (some ⟨bD, 0, none⟩), .int .i64 0])) w') → Calls Try.prog 65 #[.int .i64 N] w R) := Lib.hid (fun R w h => dnew2_any N w (by omega) hN2 h)
  have hdc : ∀ {W : World} {bD bL bO : Nat}, Dsk W bD bL bO none 0 (dz N) → Bk W bD 156 (diskC bL bO N) := fun d => d.dd.cast (by simp [dz, diskC])
  have HG1 : Hid (∀ (R : Ending → World → Prop) (bD bL bO : Nat) (w : World), Dsk w bD bL bO none 0 (dz N) → (∀ w', Kp [bO] w w' → Bk w' bD 156 (diskC bL bO N) → Bk w' bO 3 (ints (setR (List.replicate N 0) 0 p 1)) → R (.returned (.int .i64 0)) w') → Calls Try.prog 66 #[.pointer (some ⟨bD, 0, none⟩), .int .i64 1, .int .i64 0, .int .i64 p] w R) := Lib.hid (fun R bD bL bO w d h => grant_any bD bL bO N 0 p 1 (List.replicate N 0) w (.inl rfl) (by simp) hN2 (by omega) (by omega) (fun j h1 h2 => by rw [List.getElem?_replicate, if_pos (by omega)]) (d.dd.ne_ d.o (by decide)) (hdc d) (show Bk w bO 3 (ints (List.replicate N 0)) from d.o) h)
  have HG2 : Hid (∀ (R : Ending → World → Prop) (bD bL bO : Nat) (w : World), bD ≠ bO → Bk w bD 156 (diskC bL bO N) → Bk w bO 3 (ints (setR (List.replicate N 0) 0 p 1)) → (∀ w', Kp [bO] w w' → Bk w' bD 156 (diskC bL bO N) → Bk w' bO 3 (ints (own2 N)) → R (.returned (.int .i64 0)) w') → Calls Try.prog 66 #[.pointer (some ⟨bD, 0, none⟩), .int .i64 2, .int .i64 p, .int .i64 q] w R) := Lib.hid (fun R bD bL bO w hne a b h => grant_any bD bL bO N p q 2 _ w (.inr rfl) (by rw [setR_len]; simp) hN2 (by omega) (by omega) (fun j h1 h2 => by rw [setR_at _ _ _ _ _ (by simp; omega), if_neg (by omega), List.getElem?_replicate, if_pos (by omega)]) hne a b (fun w' k x y => h w' k x (y.cast (by rw [← grants, hp, hq]))))
  clear hdc
  go_enter Try.func28, Try.ntmps28
  go_upto_region 12 with (first | (go_at_call 10; ((refine HF.out _ _ ?_); intro bT bL w1 hT hL k1 tb1)) | (go_at_call 65; ((refine HDk.out _ _ ?_); intro bD bP bO w2 hD hP hO k2 dk2)) | (go_at_call 66; ((with_reducible refine HG1.out _ _ _ _ _ dk2 ?_); intro w3 k3 bd3 bo3)) | (go_at_call 66; ((with_reducible refine HG2.out _ _ _ _ _ (dk2.dd.ne_ dk2.o (by decide)) bd3 bo3 ?_); intro w4 k4 bd4 bo4)))
  have hbt := tb1.t.lt
  have hbl := tb1.l.lt
  have z1 := k1.size
  have z2 := k2.size
  have z3 := k3.size
  have z4 := k4.size
  have hbO := dk2.o.lt
  have tO2 : ∀ e, 3 ≠ e → Off w2 [bO] e := fun e he => Off.one dk2.o.ty he
  have tO3 : ∀ e, 3 ≠ e → Off w3 [bO] e := fun e he => Off.one bo3.ty he
  have tb4 := ((tb1.kp k2 (by simp) (by simp)).kp k3 (by simp; omega) (by simp; omega)).kp k4 (by simp; omega) (by simp; omega)
  have dl4 := (dk2.l.off k3 (tO2 _ (by decide))).off k4 (tO3 _ (by decide))
  have dk4 : Dsk w4 bD bP bO none 0 { dz N with ow := own2 N } := ⟨bd4.cast (by simp [dz, diskC]), dl4, bo4, Ow.nil, ⟨(dz_ok hN2).n1, by simp [own2, dz]; omega, (dz_ok hN2).pg, (dz_ok hN2).ln⟩⟩
  have kk : Kp [] w w4 := ((k1.trans k2).thn k3 (fun s hs => .inr (by simp at hs; omega))).thn k4 (fun s hs => .inr (by simp at hs; omega))
  have hD0 : w.heap.size ≤ bD := by omega
  have hP0 : w.heap.size ≤ bP := by omega
  clear k1 k2 k3 k4 bd3 bo3 bd4 bo4 tb1 dk2 dl4 tO2 tO3
  go_upto_region 13 with (fail)
  refine gen_worldK (fun W => ∃ g, w4.heap.size = g ∧ Kp [] w W ∧ Bk W g 121 (kernC bT bD none none none none) ∧ Tab W bT bL (List.replicate F fz) ∧ Dsk W bD bP bO none 0 { dz N with ow := own2 N }) ⟨_, rfl, kk.alloc _, (Bk.new' _ _ _).cast rfl, tb4.kp ((Kp.refl [] _).alloc _) (by simp) (by simp), dk4.off ((Kp.refl [] _).alloc _) (Off.nil _ _) (Off.nil _ _) (Off.nil _ _) (Off.nil _ _)⟩ ?_
  rintro W ⟨g, hg, kW, bW, tW, dW⟩
  rw [hg]
  have hg0 : w.heap.size ≤ g := by omega
  clear tb4 dk4 kk hg
  have K0 := Lib.hid kW
  have B0 := Lib.hid bW
  have T0 := Lib.hid tW
  have D0 := Lib.hid dW
  clear kW bW tW dW
  go_wp2
  go_loopw [11, 47] (fun _ iv wr => ∃ k : Nat, k ≤ 3 ∧ iv = .int .i64 k ∧ Hid (Kp [] w wr) ∧ Hid (Tab wr bT bL (List.replicate F fz)) ∧ Hid (Dsk wr bD bP bO none 0 { dz N with ow := own2 N }) ∧ ∃ a b c, Hid (Bk wr g 121 (kernC bT bD a b c none)) ∧ Hid (RS w.heap.size wr k b c)) (fun _ iv _ => 3 - (intOf iv).toNat)
  case atStart => exact ⟨0, by omega, rfl, K0, T0, D0, none, none, none, B0, Lib.hid (fun h => by omega)⟩
  case round =>
    obtain ⟨k, hk, rfl, kr, tr, dr, a, b, c, br, rs⟩ := hrel
    have hl := br.out.lt
    rcases (by omega : k = 0 ∨ k = 1 ∨ k = 2 ∨ k = 3) with rfl | rfl | rfl | rfl
    · go_upto_region 16 with (fail)
      go_region_law (first | (go_simp; go_at_call 67; (refine rnb2_any _ ?_); intro ga la w5 hga hla k5 rb5 hne5; have kd5 : Kp [] wr w5 := (Kp.refl [] wr).drew.trans k5; have b5 := br.out.kp kd5 (by simp); have e4 := b5.cell 4; have f4 := b5.frozen 4; have l5 := b5.lt; simp only [kernC, List.getElem?_cons_zero, List.getElem?_cons_succ] at e4))
      all_goals
        have hga' : wr.heap.size ≤ ga := hga
        have hla' : wr.heap.size ≤ la := hla
        have hwr := kr.out.size
        have oK : ∀ e, 121 ≠ e → Off w5 [g] e := fun e he => Off.one b5.ty he
        go_wp2
        have ks : Kp [g] w5 (w5.setCell ⟨g, 4, none⟩ (.pointer (some ⟨ga, 0, none⟩))) := (Kp.refl _ _).setCell (p := ⟨g, 4, none⟩) (.inl (by simp)) _
        refine ⟨⟨1, by omega, by first | rfl | go_num, Lib.hid ((kr.out.trans kd5).thn ks (fun s hs => .inr (by simp at hs; omega))), Lib.hid ((tr.out.kp kd5 (by simp) (by simp)).kp ks ((oK _ (by decide)).nin (tr.out.kp kd5 (by simp) (by simp)).t.ty) ((oK _ (by decide)).nin (tr.out.kp kd5 (by simp) (by simp)).l.ty)), Lib.hid ((dr.out.off kd5 (Off.nil _ _) (Off.nil _ _) (Off.nil _ _) (Off.nil _ _)).off ks (oK _ (by decide)) (oK _ (by decide)) (oK _ (by decide)) (oK _ (by decide))), _, b, c, Lib.hid ((b5.set_ 4 _).cast rfl), Lib.hid ?_⟩, by simp [intOf]⟩
        exact fun h => by omega
    · go_upto_region 16 with (fail)
      go_region_law (first | (go_simp; go_at_call 67; (refine rnb2_any _ ?_); intro ga la w5 hga hla k5 rb5 hne5; have kd5 : Kp [] wr w5 := (Kp.refl [] wr).drew.trans k5; have b5 := br.out.kp kd5 (by simp); have e4 := b5.cell 5; have f4 := b5.frozen 5; have l5 := b5.lt; simp only [kernC, List.getElem?_cons_zero, List.getElem?_cons_succ] at e4))
      all_goals
        have hga' : wr.heap.size ≤ ga := hga
        have hla' : wr.heap.size ≤ la := hla
        have hwr := kr.out.size
        have oK : ∀ e, 121 ≠ e → Off w5 [g] e := fun e he => Off.one b5.ty he
        go_wp2
        have ks : Kp [g] w5 (w5.setCell ⟨g, 5, none⟩ (.pointer (some ⟨ga, 0, none⟩))) := (Kp.refl _ _).setCell (p := ⟨g, 5, none⟩) (.inl (by simp)) _
        refine ⟨⟨2, by omega, by first | rfl | go_num, Lib.hid ((kr.out.trans kd5).thn ks (fun s hs => .inr (by simp at hs; omega))), Lib.hid ((tr.out.kp kd5 (by simp) (by simp)).kp ks ((oK _ (by decide)).nin (tr.out.kp kd5 (by simp) (by simp)).t.ty) ((oK _ (by decide)).nin (tr.out.kp kd5 (by simp) (by simp)).l.ty)), Lib.hid ((dr.out.off kd5 (Off.nil _ _) (Off.nil _ _) (Off.nil _ _) (Off.nil _ _)).off ks (oK _ (by decide)) (oK _ (by decide)) (oK _ (by decide)) (oK _ (by decide))), a, _, c, Lib.hid ((b5.set_ 5 _).cast rfl), Lib.hid ?_⟩, by simp [intOf]⟩
        exact fun _ => ⟨ga, la, rfl, rb5.off ks ((oK _ (by decide)).nin rb5.hs.ty) ((oK 44 (by decide)).nin (by obtain ⟨cs, hcs, _⟩ := rb5.hr; exact hcs.ty)) (oK _ (by decide)), by omega, by omega, hne5, by have := rb5.lt; have := ks.size; omega, by have := rb5.lt; have := ks.size; omega, fun h => by omega⟩
    · go_upto_region 16 with (fail)
      go_region_law (first | (go_simp; go_at_call 67; (refine rnb2_any _ ?_); intro ga la w5 hga hla k5 rb5 hne5; have kd5 : Kp [] wr w5 := (Kp.refl [] wr).drew.trans k5; have b5 := br.out.kp kd5 (by simp); have e4 := b5.cell 6; have f4 := b5.frozen 6; have l5 := b5.lt; simp only [kernC, List.getElem?_cons_zero, List.getElem?_cons_succ] at e4))
      all_goals
        have hga' : wr.heap.size ≤ ga := hga
        have hla' : wr.heap.size ≤ la := hla
        have hwr := kr.out.size
        have oK : ∀ e, 121 ≠ e → Off w5 [g] e := fun e he => Off.one b5.ty he
        go_wp2
        have ks : Kp [g] w5 (w5.setCell ⟨g, 6, none⟩ (.pointer (some ⟨ga, 0, none⟩))) := (Kp.refl _ _).setCell (p := ⟨g, 6, none⟩) (.inl (by simp)) _
        refine ⟨⟨3, by omega, by first | rfl | go_num, Lib.hid ((kr.out.trans kd5).thn ks (fun s hs => .inr (by simp at hs; omega))), Lib.hid ((tr.out.kp kd5 (by simp) (by simp)).kp ks ((oK _ (by decide)).nin (tr.out.kp kd5 (by simp) (by simp)).t.ty) ((oK _ (by decide)).nin (tr.out.kp kd5 (by simp) (by simp)).l.ty)), Lib.hid ((dr.out.off kd5 (Off.nil _ _) (Off.nil _ _) (Off.nil _ _) (Off.nil _ _)).off ks (oK _ (by decide)) (oK _ (by decide)) (oK _ (by decide)) (oK _ (by decide))), a, b, _, Lib.hid ((b5.set_ 6 _).cast rfl), Lib.hid ?_⟩, by simp [intOf]⟩
        intro _
        obtain ⟨s, r, e, rb, g1, g2, g3, g4, g5, _⟩ := rs.out (by omega)
        have tt : ∀ {s r : Nat}, Rb w5 s r 0 [] → Rb (w5.setCell ⟨g, 6, none⟩ (.pointer (some ⟨ga, 0, none⟩))) s r 0 [] := fun rb => rb.off ks ((oK _ (by decide)).nin rb.hs.ty) ((oK 44 (by decide)).nin (by obtain ⟨cs, hcs, _⟩ := rb.hr; exact hcs.ty)) (oK _ (by decide))
        have z5 := ks.size
        have z6 := kd5.size
        exact ⟨s, r, e, tt (rb.off kd5 (by simp) (by simp) (Off.nil _ _)), g1, g2, g3, by omega, by omega, fun _ => ⟨ga, la, rfl, tt rb5, by omega, by omega, hne5, by omega, by omega, by omega, by omega⟩⟩
    · have hwr := kr.out.size
      go_wp2_with (go_at_call 68; (refine rnt2_any _ ?_); intro ga la w5 hga hla k5 rq5 hne5; have b5 := br.out.kp k5 (by simp); have e4 := b5.cell 7; have f4 := b5.frozen 7; have l5 := b5.lt; simp only [kernC, List.getElem?_cons_zero, List.getElem?_cons_succ] at e4)
      have hga' : wr.heap.size ≤ ga := hga
      have hla' : wr.heap.size ≤ la := hla
      have oK : ∀ e, 121 ≠ e → Off w5 [g] e := fun e he => Off.one b5.ty he
      have ks : Kp [g] w5 (w5.setCell ⟨g, 7, none⟩ (.pointer (some ⟨ga, 0, none⟩))) := (Kp.refl _ _).setCell (p := ⟨g, 7, none⟩) (.inl (by simp)) _
      obtain ⟨s1, r1, e1, x1, x2, x3, x4, x5, x6, x7⟩ := ((RS.kp rs.out k5 (Off.nil _ _) (Off.nil _ _) (Off.nil _ _)).kp ks (oK _ (by decide)) (oK _ (by decide)) (oK _ (by decide))) (by omega)
      obtain ⟨s2, r2, e2, y1, y2, y3, y4, y5, y6, y7, y8⟩ := x7 (by omega)
      subst e1; subst e2
      have rq9 := rq5.off ks ((oK _ (by decide)).nin rq5.hs.ty) ((oK 127 (by decide)).nin (by obtain ⟨cs, hcs, _⟩ := rq5.hr; exact hcs.ty)) (oK _ (by decide))
      have t9 := (tr.out.kp k5 (by simp) (by simp)).kp ks ((oK _ (by decide)).nin (tr.out.kp k5 (by simp) (by simp)).t.ty) ((oK _ (by decide)).nin (tr.out.kp k5 (by simp) (by simp)).l.ty)
      have d9 := (dr.out.off k5 (Off.nil _ _) (Off.nil _ _) (Off.nil _ _) (Off.nil _ _)).off ks (oK _ (by decide)) (oK _ (by decide)) (oK _ (by decide)) (oK _ (by decide))
      exact rcast (H.out ⟨g, bT, bL, bD, bP, bO, none, 0, none, 0, a, s1, r1, s2, r2, ga, la⟩ _ ((kr.out.trans k5).thn ks (fun s hs => .inr (by simp at hs; omega))) ⟨(b5.set_ 7 _).cast rfl, t9, d9, Ow.nil, by simp [kz0], x1, y1, rq9, ⟨hg0, hL, hD0, hP0, by simp [Fresh, bks], by simp [Fresh, bks], x2, x3, y2, y3, (show w.heap.size ≤ ga by omega), (show w.heap.size ≤ la by omega), x4, y4, y5, y6, y7, y8, hne5⟩⟩) rfl
end Go.Proofs.Ythlmfjfkkndboaa
