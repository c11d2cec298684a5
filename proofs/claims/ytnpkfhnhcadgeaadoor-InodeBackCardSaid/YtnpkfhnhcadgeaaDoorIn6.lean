/- inode.ParseRoot. -/
import Derived.Test.YtnpkfhnhcadgeaaDoorIn5
import Derived.Deep.CutBlock
import Derived.Deep.DeepCutAuto
import Derived.Deep.RegionLaw
namespace Go.Proofs.YtnpkfhnhcadgeaaDoor
open Go.RowKit
set_option linter.unusedVariables false
set_option linter.unusedSimpArgs false
set_option maxRecDepth 100000
theorem step_appI {P : Program} {ops : Array Oper} {o : Oper} {a : Act} {w : World} {K : Act → World → Prop} {Q : Exit → Act → World → Prop} {E : Prop} (hg : o.guard = none) (s x : Operand) (t : Nat)
    (ho : o.op = .call { callee := .builtin .append, args := #[s, x], argTypes := #[t, t] })
    {e : Nat} {z : Value} {sz by_ : Nat} (hE : Elt P t e z sz by_) (A : Option Addr) (n c : Nat) (xs : List Value) (hs : a.eval s = .slice A n c) (hown : Ow w e sz A n c xs)
    (N : List Nat) (A2 : Option Addr) (m c2 : Nat) (news : List Value) (hx : a.eval x = .slice A2 m c2) (hr : Rd w N A2 news) (hl : news.length = m * sz) (h1 : ∀ u ∈ news, u.oneCell' = true) (hb : n + m ≤ 4294967296)
    (h : ∀ A' c' w', Ow w' e sz A' (n + m) c' (xs ++ news) → Kp (bks A) w w' → (A' = A ∨ A' = some ⟨w.heap.size, 0, none⟩) → K (a.put o.dst (.slice A' (n + m) c')) w') :
    if Region.wanted o (yielded ops a.tmps) = true then Oper.wp P o a w K Q else E := by
  have hw : Region.wanted o (yielded ops a.tmps) = true := by simp [Region.wanted, hg]
  rw [if_pos hw]
  exact wp_app w s x t ho hE A n c xs hs hown N A2 m c2 news hx hr hl h1 hb h
theorem elt_intI : Elt Tryd.prog 23 3 (.int .i64 0) 1 8 := ⟨Tryd.underlying23, by kernel_rfl, rfl, by decide, by decide⟩
def genP (q : List UInt8) : Nat := numB ((q.drop 4).take 4)
def dirV (q : List UInt8) (k : Nat) : Nat := numB ((q.drop (9 + 2 * k)).take 2)
def dirsP (q : List UInt8) : Nat → List Int
  | 0 => []
  | k + 1 => dirsP q k ++ [(dirV q k : Int)]
def cntP (q : List UInt8) : Nat := min (numB ((q.drop 8).take 1)) 4
theorem dirsP_len (q : List UInt8) : ∀ k, (dirsP q k).length = k
  | 0 => rfl
  | k + 1 => by simp [dirsP, dirsP_len q k]
/-- Is it a root's block? -/
def isRoot (l : List UInt8) : Prop := l.length = 256 ∧ goodB l = true ∧ rootB (genP (l.take 254)) (dirsP (l.take 254) (cntP (l.take 254))) = true ∧ l = sealB (rootT (genP (l.take 254)) (dirsP (l.take 254) (cntP (l.take 254))))
section
variable {R : Ending → World → Prop} {w w' w0 : World} {g : Nat} {l : List UInt8}
theorem numB_lt' {l : List UInt8} {k : Nat} (h : l.length ≤ k) : numB l < 256 ^ k := Nat.lt_of_lt_of_le (numB_lt l) (Nat.pow_le_pow_right (by decide) h)
theorem enum1_any (hp : Hid (Ey w0 w g l)) (hl : 1 ≤ l.length) (h : ∀ w', Kp [g] w w' → Hid (Ey w0 w' g (l.drop 1)) → R (.returned (.int .u64 (numB (l.take 1)))) w') : Calls Tryd.prog 22 #[.pointer (some ⟨g, 0, none⟩), .int .i64 1] w R := enum_any hp 1 (by decide) (by decide) hl h
theorem enum2_any (hp : Hid (Ey w0 w g l)) (hl : 2 ≤ l.length) (h : ∀ w', Kp [g] w w' → Hid (Ey w0 w' g (l.drop 2)) → R (.returned (.int .u64 (numB (l.take 2)))) w') : Calls Tryd.prog 22 #[.pointer (some ⟨g, 0, none⟩), .int .i64 2] w R := enum_any hp 2 (by decide) (by decide) hl h
theorem enum4_any (hp : Hid (Ey w0 w g l)) (hl : 4 ≤ l.length) (h : ∀ w', Kp [g] w w' → Hid (Ey w0 w' g (l.drop 4)) → R (.returned (.int .u64 (numB (l.take 4)))) w') : Calls Tryd.prog 22 #[.pointer (some ⟨g, 0, none⟩), .int .i64 4] w R := enum_any hp 4 (by decide) (by decide) hl h
theorem enum8_any (hp : Hid (Ey w0 w g l)) (hl : 8 ≤ l.length) (h : ∀ w', Kp [g] w w' → Hid (Ey w0 w' g (l.drop 8)) → R (.returned (.int .u64 (numB (l.take 8)))) w') : Calls Tryd.prog 22 #[.pointer (some ⟨g, 0, none⟩), .int .i64 8] w R := enum_any hp 8 (by decide) (by decide) hl h
end
/-- ParseRoot's round. -/
structure LpR (W w : World) (g g6 : Nat) (q : List UInt8) (G k m : Nat) (A : Option Addr) (c : Nat) : Prop where
  ey : Ey W w g (q.drop m)
  bx : Bk w g6 25 [.int .i64 G, .slice A k c]
  ow : Ow w 3 1 A k c ((dirsP q k).flatMap iv)
  fr : ∀ b ∈ bks A, g6 < b
  lt : g < g6
theorem LpR.drew {W w : World} {g g6 G k m c : Nat} {q : List UInt8} {A : Option Addr} (h : LpR W w g g6 q G k m A c) : LpR W w.drew g g6 q G k m A c := ⟨h.ey.kp (Kp.refl [] w).drew, h.bx.drew, h.ow.drew, h.fr, h.lt⟩
theorem LpR.num {W w w' : World} {g g6 G k m m' c : Nat} {q : List UInt8} {A : Option Addr} (h : LpR W w g g6 q G k m A c) (hk : Kp [g] w w') (he : Ey W w' g (q.drop m')) : LpR W w' g g6 q G k m' A c :=
  ⟨he, h.bx.kp hk (by have := h.lt; simp; omega), h.ow.kp hk (fun b hb => by have := h.lt; have := h.fr b hb; simp; omega), h.fr, h.lt⟩
theorem LpR.app {W w w5 : World} {g g6 G k m c c' : Nat} {q : List UInt8} {A A' : Option Addr} (h : LpR W w g g6 q G k m A c) (o : Obj)
    (ho : Ow w5 3 1 A' (k + 1) c' ((dirsP q k).flatMap iv ++ [.int .i64 (dirV q k)])) (hk : Kp (bks A) (w.alloc o) w5) (hA : A' = A ∨ A' = some ⟨(w.alloc o).heap.size, 0, none⟩) :
    LpR W (w5.setCell ⟨g6, 1, none⟩ (.slice A' (k + 1) c')) g g6 q G (k + 1) m A' c' := by
  have hf : ∀ b ∈ bks A', g6 < b := by
    intro b hb
    rcases hA with rfl | rfl
    · exact h.fr b hb
    · have := h.bx.lt
      simp [bks] at hb
      omega
  have hg : g6 ∉ bks A := fun hm => Nat.lt_irrefl _ (h.fr _ hm)
  have hs : Kp [g6] w5 (w5.setCell ⟨g6, 1, none⟩ (.slice A' (k + 1) c')) := (Kp.refl [g6] w5).setCell (.inl (by simp)) _
  refine ⟨((h.ey.kp ((Kp.refl [] w).alloc o)).thn hk (fun s hs => Nat.lt_trans h.lt (h.fr s hs))).thn hs (by simp; exact h.lt), (((h.bx.alloc o).kp hk hg).set_ 1 _).cast rfl, (ho.kp hs (fun b hb => by have := hf b hb; simp; omega)).cast rfl (by simp [dirsP, iv]), hf, h.lt⟩
section
variable {R : Ending → World → Prop} {w w' w0 : World} {g : Nat} {l : List UInt8}
theorem cells2 {w : World} {g t : Nat} {a b x y : Value} (h : Bk w g t [a, b]) : ((w.setCell ⟨g, 0, none⟩ x).setCell ⟨g, 1, none⟩ y).cell? ⟨g, 0, none⟩ = some x ∧ ((w.setCell ⟨g, 0, none⟩ x).setCell ⟨g, 1, none⟩ y).cell? ⟨g, 1, none⟩ = some y := by
  have h2 := (h.set_ 0 x).set_ 1 y
  exact ⟨h2.cell 0, h2.cell 1⟩
set_option maxHeartbeats 8000000 in
theorem proot_any {A : Option Addr} {n c : Nat} (hr : Rd w [] A (bts l)) (hl : l.length = n) (hn : n ≤ 65536) (hc : n ≤ c)
    (h0 : ¬ isRoot l → ∀ e w', e ≠ 0 → Kp [] w w' → R (.returned (.tuple #[.agg #[.int .i64 0, .slice none 0 0], .int .i64 e])) w')
    (h1 : isRoot l → ∀ A' c' w', Hid (Kp [] w w' ∧ Ow w' 3 1 A' (cntP (l.take 254)) c' ((dirsP (l.take 254) (cntP (l.take 254))).flatMap iv) ∧ ∀ b ∈ bks A', w.heap.size ≤ b) → R (.returned (.tuple #[.agg #[.int .i64 (genP (l.take 254)), .slice A' (cntP (l.take 254)) c'], .int .i64 0])) w') :
    Calls Tryd.prog 6 #[.slice A n c] w R := by
  have H0 := Lib.hid h0
  have H1 := Lib.hid h1
  have HR := Lib.hid hr
  have HL := Lib.hid hl
  clear h0 h1 hr hl
  go_enter Tryd.func6, Tryd.ntmps6
  go_upto_region 1 with (fail)
  refine gen_worldI (fun W => ∃ r0, w.heap.size = r0 ∧ Hid (Kp [] w W ∧ Bk W r0 25 [.int .i64 0, .slice none 0 0])) ⟨_, rfl, Lib.hid ⟨(Kp.refl _ _).alloc _, (Bk.new' _ _ _).cast rfl⟩⟩ ?_
  rintro W ⟨r0, hr0, hW⟩
  rw [hr0]
  have hwr0 : w.heap.size ≤ r0 := by omega
  have hrW : r0 < W.heap.size := hW.out.2.lt
  clear hr0
  have HOp : Hid (∀ (R : Ending → World → Prop), (∀ e w', e ≠ 0 → Hid (¬ isRoot l) → Kp [] W w' → R (.returned (.tuple #[.pointer none, .int .i64 e])) w') → (Hid (l.length = 256 ∧ goodB l = true) → ∀ g w', Hid (Ey W w' g (l.take 254)) → R (.returned (.tuple #[.pointer (some ⟨g, 0, none⟩), .int .i64 0])) w') → Calls Tryd.prog 20 #[.slice A n c] W R) := Lib.hid (fun R h0 h1 => iopen_any (HR.out.kp hW.out.1 (by simp)) HL.out hn hc (fun e w' he h5 h6 k => h0 e w' he (Lib.hid (fun hi => by
    have h7 := h6 (by have := hi.1; have := HL.out; omega)
    rw [hi.2.1] at h7; cases h7.2)) k) (fun h5 h6 => h1 (Lib.hid ⟨by have := HL.out; omega, h6⟩)))
  have HB0 : Hid (∀ w', Kp [] W w' → Bk w' r0 25 [.int .i64 0, .slice none 0 0]) := Lib.hid (fun w' k' => hW.out.2.kp k' (by simp))
  go_upto_if 15 with (go_at_call 20; (refine HOp.out _ (fun e w2 he hni k2 => ?_) (fun hg g w2 h2 => ?_); (have he0 : (e != 0) = true := by simpa using he); rotate_left))
  rotate_left
  · have B0 := HB0.out _ k2
    have d0 : w2.cell? ⟨r0, 0, none⟩ = some (.int .i64 0) := B0.cell 0
    have d1 : w2.cell? ⟨r0, 1, none⟩ = some (.slice none 0 0) := B0.cell 1
    have f0 := B0.frozen 0
    have f1 := B0.frozen 1
    clear he0
    go_wp2
    obtain ⟨u0, u1⟩ := cells2 (x := .int .i64 0) (y := .slice none 0 0) B0
    refine bodyPost_ret (v := .tuple #[.agg #[.int .i64 0, .slice none 0 0], .int .i64 e]) (by simp [results, Tryd.results6, go_sem, u0, u1]) rfl ?_
    exact H0.out hni.out e _ he (((hW.out.1.trans k2).setCell (.inr hwr0) _).setCell (.inr hwr0) _)
  have HQ : Hid (l.length = 256 ∧ goodB l = true) := hg
  clear hg HOp
  obtain ⟨q, hq⟩ : ∃ q, l.take 254 = q := ⟨_, rfl⟩
  rw [hq] at h2
  have HQL : Hid (q.length = 254) := Lib.hid (by rw [← hq, List.length_take, HQ.out.1]; rfl)
  have HQQ := Lib.hid hq
  clear hq
  go_upto_region 5 with (go_at_call 21; (refine ebytes_any h2 4 (by rw [HQL.out]; decide) ?_; intro B3 cB3 w3 k3 h3 r3; clear k3 r3))
  obtain ⟨G, hG⟩ : ∃ G, genP q = G := ⟨_, rfl⟩
  have HG := Lib.hid hG
  have hGl : G < 4294967296 := by rw [← hG]; exact numB_lt' (k := 4) (by simp; omega)
  have H4 : Hid (∀ (R : Ending → World → Prop), (∀ w', Hid (Ey W w' g (q.drop 8)) → R (.returned (.int .u64 G)) w') → Calls Tryd.prog 22 #[.pointer (some ⟨g, 0, none⟩), .int .i64 4] w3 R) := Lib.hid (fun R h => enum4_any h3 (by rw [List.length_drop, HQL.out]; decide) (fun w' k h' => by
    have e : numB ((q.drop 4).take 4) = G := hG
    rw [List.drop_drop] at h'
    rw [e]
    exact h w' h'))
  clear hG
  go_upto_region 6 with (go_at_call 22; (refine H4.out _ ?_; intro w4 h4))
  refine gen_worldI (fun W6 => ∃ g6, w4.heap.size = g6 ∧ Hid (LpR W W6 g g6 q G 0 8 none 0)) ⟨_, rfl, Lib.hid ⟨h4.out.kp ((Kp.refl [] _).alloc _), (Bk.new' _ _ _).cast rfl, Ow.nil, by simp [bks], by obtain ⟨A, n, c, he, _⟩ := h4.out.x; exact he.bk.lt⟩⟩ ?_
  rintro W6 ⟨g6, hg6, h6⟩
  rw [hg6]
  clear hg6 h4 H4 h3 h2
  obtain ⟨n0, hn0⟩ : ∃ n0, numB ((q.drop 8).take 1) = n0 := ⟨_, rfl⟩
  have hn0l : n0 < 256 := by rw [← hn0]; exact numB_lt' (k := 1) (by simp; omega)
  have H1n : Hid (∀ (R : Ending → World → Prop), (∀ w', Hid (LpR W w' g g6 q G 0 9 none 0) → R (.returned (.int .u64 n0)) w') → Calls Tryd.prog 22 #[.pointer (some ⟨g, 0, none⟩), .int .i64 1] W6 R) := Lib.hid (fun R h => enum1_any (Lib.hid h6.out.ey) (by rw [List.length_drop, HQL.out]; decide) (fun w' k h' => by
    rw [List.drop_drop] at h'
    rw [hn0]
    exact h w' (Lib.hid (h6.out.num k h'.out))))
  have HN0 := Lib.hid hn0
  clear hn0
  go_wp2_with (go_at_call 22; (refine H1n.out _ ?_; intro w7 h7))
  obtain ⟨N, hN⟩ : ∃ N : Nat, min (n0 : Int) 4 = N := ⟨min n0 4, by omega⟩
  rw [hN]
  have hN4 : N ≤ 4 := by omega
  have HN : Hid (cntP q = N) := Lib.hid (by unfold cntP; rw [HN0.out]; omega)
  clear hN hn0l H1n HN0 h6
  go_loopw [27] (fun jv wr => ∃ k : Nat, k ≤ N ∧ jv = .int .u64 k ∧ ∃ A c, Hid (LpR W wr g g6 q G k (9 + 2 * k) A c)) (fun jv _ => N - (intOf jv).toNat)
  case atStart => exact ⟨0, Nat.zero_le _, rfl, none, 0, h7⟩
  case round =>
    obtain ⟨k, hk, rfl, A2, c2, hS⟩ := hrel
    by_cases hlt : k < N
    · obtain ⟨V, hV⟩ : ∃ V, dirV q k = V := ⟨_, rfl⟩
      have hVl : V < 65536 := by rw [← hV]; exact numB_lt' (k := 2) (by simp; omega)
      have hwr : IntKind.i64.wrap (V : Int) = V := by rw [IntKind.wrap_i64]; omega
      have HNum : Hid (∀ (R : Ending → World → Prop), (∀ w', Hid (LpR W w' g g6 q G k (9 + 2 * (k + 1)) A2 c2) → R (.returned (.int .u64 V)) w') → Calls Tryd.prog 22 #[.pointer (some ⟨g, 0, none⟩), .int .i64 2] wr.drew R) := Lib.hid (fun R h => enum2_any (Lib.hid hS.out.drew.ey) (by rw [List.length_drop, HQL.out]; omega) (fun w' k' h' => by
        have e : numB ((q.drop (9 + 2 * k)).take 2) = V := hV
        rw [List.drop_drop] at h'
        rw [e]
        exact h w' (Lib.hid (hS.out.drew.num k' h'.out))))
      have HV := Lib.hid hV
      have b2 := hS.out.drew.bx
      have c1 : wr.drew.cell? ⟨g6, 1, none⟩ = some (.slice A2 k c2) := b2.cell 1
      have f1 := b2.frozen 1
      clear hV b2
      go_upto_region 8 with (fail)
      go_region_law (first | (go_simp; go_at_call 22; (refine HNum.out _ ?_); intro w9 h9; have e9 : w9.cell? ⟨g6, 1, none⟩ = some (.slice A2 k c2) := h9.out.bx.cell 1; have f9a : ∀ o, (w9.alloc o).cell? ⟨g6, 1, none⟩ = some (.slice A2 k c2) := fun o => (h9.out.bx.alloc o).cell 1) | (refine step_appI rfl (.tmp 30) (.tmp 34) _ rfl elt_intI A2 k c2 _ (by simp [Act.eval, Act.put]) (h9.out.ow.alloc _) [] (some ⟨w9.heap.size, 0, none⟩) 1 1 [.int .i64 V] (by simp [Act.eval, Act.put]) (Rd.of_bk (Bk.newAt rfl _ _) (by simp)) rfl (by simp [Value.oneCell']) (by omega) ?_; intro A3 c3 w5 ho5 hk5 hA5; have hL := Lib.hid (h9.out.app _ (by rw [HV.out]; exact ho5) hk5 hA5); have b5 := (h9.out.bx.alloc (.cells #[.int .i64 V] 3)).kp hk5 (fun hm => Nat.lt_irrefl _ (h9.out.fr _ hm)); have z5 := b5.frozen 1; have y5 : w5.cell? ⟨g6, 1, none⟩ = some (.slice A2 k c2) := b5.cell 1))
      all_goals (go_wp2; exact ⟨⟨k + 1, by omega, by go_num, A3, c3, hL⟩, by simp [intOf]; omega⟩)
    · obtain rfl : k = N := by omega
      have HP : Hid (∀ (R : Ending → World → Prop), (∀ e a A3 m3 c3 w', Hid (Kp [] wr w' ∧ Rd w' [] A3 (bts a) ∧ a.length = m3 ∧ ((e = 0 ∧ rootB G (dirsP q k) = true ∧ a = sealB (rootT G (dirsP q k))) ∨ (e = 1 ∧ rootB G (dirsP q k) = false))) → R (.returned (.tuple #[.slice A3 m3 c3, .int .i64 e])) w') → Calls Tryd.prog 9 #[.agg #[.int .i64 G, .slice A2 k c2]] wr R) := Lib.hid (fun R h => packr_any G (hS.out.ow.rd (by simp)) (dirsP_len q k) (fun hb w' k' => h 1 [] none 0 0 w' (Lib.hid ⟨k', Rd.nil, rfl, .inr ⟨rfl, hb⟩⟩)) (fun hb A' c' w' h' => h 0 _ A' 256 c' w' (Lib.hid ⟨h'.out.1, h'.out.2.1.rd (by simp), sealB_len (by unfold rootT; simp only [List.length_append, List.length_cons, List.length_nil, putL_len, put2_len, dirsP_len]; omega), .inl ⟨rfl, hb, rfl⟩⟩)))
      have HBX : Hid (∀ w', Kp [] wr w' → w'.cell? ⟨g6, 0, none⟩ = some (.int .i64 G) ∧ w'.cell? ⟨g6, 1, none⟩ = some (.slice A2 k c2)) := Lib.hid (fun w' k' => ⟨(hS.out.bx.kp k' (by simp)).cell 0, (hS.out.bx.kp k' (by simp)).cell 1⟩)
      obtain ⟨c0, c1⟩ := HBX.out wr (Kp.refl _ _)
      go_upto_region 11 with (go_at_call 9; (refine HP.out _ ?_; intro e2 a A3 m3 c3 w8 h8))
      have HS2 : Hid (∀ (R : Ending → World → Prop), (∀ f, Hid ((f = 0 ∧ e2 = 0 ∧ l = a) ∨ (f = 50 ∧ ¬ (e2 = 0 ∧ l = a))) → R (.returned (.int .i64 f)) w8) → Calls Tryd.prog 23 #[.slice A n c, .slice A3 m3 c3, .int .i64 e2] w8 R) := Lib.hid (fun R h => same_any (HR.out.kp ((hW.out.1.trans hS.out.ey.k).trans h8.out.1) (by simp)) h8.out.2.1 HL.out h8.out.2.2.1 h)
      have hHS := hS
      clear HP hS
      go_upto_region 12 with (go_at_call 23; (refine HS2.out _ ?_; intro f hf))
      have kW := (hHS.out.ey.k).trans h8.out.1
      have B0 := HB0.out _ kW
      obtain ⟨c0, c1⟩ := HBX.out w8 h8.out.1
      have d0 : w8.cell? ⟨r0, 0, none⟩ = some (.int .i64 0) := B0.cell 0
      have d1 : w8.cell? ⟨r0, 1, none⟩ = some (.slice none 0 0) := B0.cell 1
      have f0 := B0.frozen 0
      have f1 := B0.frozen 1
      have hH8 := h8
      clear h8
      have hff := hf
      rcases hf.out with ⟨rfl, hyes⟩ | ⟨rfl, hno⟩
      · have HY := Lib.hid hyes
        clear hyes hff hf
        go_wp2
        obtain ⟨u0, u1⟩ := cells2 (x := .int .i64 G) (y := .slice A2 k c2) B0
        refine bodyPost_ret (v := .tuple #[.agg #[.int .i64 G, .slice A2 k c2], .int .i64 0]) (by simp [results, Tryd.results6, go_sem, u0, u1]) rfl ?_
        have H2 := H1.out
        rw [HQQ.out, HG.out, HN.out] at H2
        have kS : Kp [r0] w8 ((w8.setCell ⟨r0, 0, none⟩ (.int .i64 G)).setCell ⟨r0, 1, none⟩ (.slice A2 k c2)) := ((Kp.refl [r0] w8).setCell (.inl (by simp)) _).setCell (.inl (by simp)) _
        have hgo : r0 < g := Nat.lt_of_lt_of_le hrW hHS.out.ey.g0
        refine H2 ?_ A2 c2 _ (Lib.hid ⟨(hW.out.1.trans kW).thn kS (fun s hs => .inr (by simp at hs; subst hs; exact hwr0)), (hHS.out.ow.kp hH8.out.1 (by simp)).kp kS (fun b hb => by have := hHS.out.fr b hb; have := hHS.out.lt; simp; omega), fun b hb => by have := hHS.out.fr b hb; have := hHS.out.lt; omega⟩)
        unfold isRoot
        rw [HQQ.out, HG.out, HN.out]
        rcases hH8.out.2.2.2 with ⟨_, hb, hs⟩ | ⟨h1, _⟩
        · exact ⟨HQ.out.1, HQ.out.2, hb, HY.out.2.trans hs⟩
        · exact absurd (h1.symm.trans HY.out.1) (by decide)
      · have HY := Lib.hid hno
        clear hno hff hf
        go_wp2
        obtain ⟨u0, u1⟩ := cells2 (x := .int .i64 0) (y := .slice none 0 0) B0
        refine bodyPost_ret (v := .tuple #[.agg #[.int .i64 0, .slice none 0 0], .int .i64 50]) (by simp [results, Tryd.results6, go_sem, u0, u1]) rfl ?_
        refine H0.out (fun hi => ?_) 50 _ (by decide) (((hW.out.1.trans kW).setCell (.inr hwr0) _).setCell (.inr hwr0) _)
        unfold isRoot at hi
        rw [HQQ.out, HG.out, HN.out] at hi
        rcases hH8.out.2.2.2 with ⟨h0, _, hs⟩ | ⟨_, hb⟩
        · exact HY.out ⟨h0, hi.2.2.2.trans hs.symm⟩
        · rw [hi.2.2.1] at hb; cases hb
end
end Go.Proofs.YtnpkfhnhcadgeaaDoor
