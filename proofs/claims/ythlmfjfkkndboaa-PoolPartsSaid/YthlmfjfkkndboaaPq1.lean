/- The part of bytes, as whole numbers; a pool's Part. -/
import Derived.Test.YthlmfjfkkndboaaFx
import Derived.Test.YthlmfjfkkndboaaPo10
import Derived.Deep.CutBlock
import Derived.Deep.DeepCutAuto
import Derived.BigQuiet
import Derived.Deep.RegionHeldLaw
namespace Go.Proofs.Ythlmfjfkkndboaa
open Go.RowKit Go.Shelf
set_option linter.unusedVariables false
set_option linter.unusedSimpArgs false
set_option maxRecDepth 100000
/-- The sums of the bytes at even and at odd places. -/
def pr : List UInt8 → Nat × Nat
  | [] => (0, 0)
  | c :: l => (c.toNat + (pr l).2, (pr l).1)
theorem pr_app (a b : List UInt8) : pr (a ++ b) = if a.length % 2 = 0 then ((pr a).1 + (pr b).1, (pr a).2 + (pr b).2) else ((pr a).1 + (pr b).2, (pr a).2 + (pr b).1) := by
  induction a with
  | nil => simp [pr]
  | cons c a ih =>
    rw [List.cons_append]
    simp only [pr, ih, List.length_cons]
    by_cases h : a.length % 2 = 0
    · rw [if_pos h, if_neg (by omega)]
      exact Prod.ext (by show _ + (_ + _) = _ + _ + _; omega) rfl
    · rw [if_neg h, if_pos (by omega)]
      exact Prod.ext (by show _ + (_ + _) = _ + _ + _; omega) rfl
theorem pr_bd (l : List UInt8) : (pr l).1 + (pr l).2 ≤ 255 * l.length := by
  induction l with
  | nil => simp [pr]
  | cons c l ih =>
    have := c.toNat_lt
    simp only [pr, List.length_cons]; omega
theorem partN_pr (l : List UInt8) (hl : l.length ≤ 65536) : ∀ k, k ≤ l.length → partN l k = (fl (pr (l.take k)).1, fl (pr (l.take k)).2)
  | 0, _ => by simp [partN, pr, fl_zero]
  | k + 1, hk => by
    have ih := partN_pr l hl k (by omega)
    have hg : l.getD k 0 = l[k]'(by omega) := by rw [List.getD_eq_getElem?_getD, List.getElem?_eq_getElem (by omega)]; rfl
    have ht : l.take (k + 1) = l.take k ++ [l[k]'(by omega)] := List.take_succ_eq_append_getElem (by omega)
    have hb := pr_bd (l.take k)
    have hlen : (l.take k).length = k := by simp; omega
    rw [hlen] at hb
    have hc := (l[k]'(by omega)).toNat_lt
    rw [partN, ih, hg, ht, pr_app, hlen]
    have hz : ∀ m : Nat, m < 2 ^ 52 → addD (fl m) 0 = fl m := fun m hm => by
      have := addD_fl (m := m) (n := 0) (by omega)
      rw [fl_zero] at this
      simpa using this
    have ha : ∀ m : Nat, m < 2 ^ 52 → addD (fl m) (floatOfInt .f64 (((l[k]'(by omega)).toNat : Nat) : Int)) = fl (m + (l[k]'(by omega)).toNat) := fun m hm => addD_fl (by omega)
    by_cases h : k % 2 = 1
    · rw [if_pos h, if_neg (by omega)]
      simp only [pr]
      rw [hz _ (by omega), ha _ (by omega)]
      simp
    · rw [if_neg h, if_pos (by omega)]
      simp only [pr]
      rw [hz _ (by omega), ha _ (by omega)]
      simp
theorem part_pr {l : List UInt8} {n : Nat} (hn : l.length = n) (hl : n ≤ 65536) : partN l n = (fl (pr l).1, fl (pr l).2) := by
  have := partN_pr l (by omega) n (by omega)
  rwa [List.take_of_length_le (by omega)] at this
/-- What the pool's Part leans on. -/
structure PPI (m : Nat) (k : KS) (p : PS) : Prop where
  c : k.cnt m
  ho : hoIn k.fs 0
  fr : ∀ j : Nat, j < p.sl.length → ∃ y : Fr, k.fs[j]? = some y ∧ y.ow = 1 ∧ y.bs.length = 256
  sf : ∀ (j : Nat) (x : PSl), p.sl[j]? = some x → x.f = (j : Int)
  pt : ∀ (j : Nat) (x : PSl), p.sl[j]? = some x → 0 < x.pi → 0 ≤ x.n ∧ x.n ≤ 256 ∧ ∀ y : Fr, k.fs[j]? = some y → x.re = fl (pr (y.bs.take x.n.toNat)).1 ∧ x.im = fl (pr (y.bs.take x.n.toNat)).2
/-- The bytes of a piece. -/
def pcB (k : KS) (x : Pc) : List UInt8 := (tRead k.fs 1 x.f x.o x.n).2
theorem PPI.pin {m : Nat} {k : KS} {p : PS} (h : PPI m k p) {f o n : Int} {i : Nat} (hi : p.sl.findIdx? (pinB f) = some i) (h0 : 0 ≤ o) (h1 : 0 ≤ n) (h2 : n ≤ 256 - o) :
    ∃ (x : PSl) (y : Fr), p.sl[i]? = some x ∧ k.fs[i]? = some y ∧ tRead k.fs 1 f o n = (0, cutB y.bs o n) ∧ (cutB y.bs o n).length = n.toNat ∧ 0 ≤ x.n ∧ x.n ≤ 256 ∧ (o = 0 → n = x.n → x.re = fl (pr (cutB y.bs o n)).1 ∧ x.im = fl (pr (cutB y.bs o n)).2) := by
  obtain ⟨x, hx, hp⟩ := idx_at hi
  unfold pinB at hp
  simp at hp
  obtain ⟨y, hy, ho, hl⟩ := h.fr i (List.getElem?_eq_some_iff.1 hx).1
  have hf := h.sf i x hx
  obtain ⟨n0, n1, hr⟩ := h.pt i x hx hp.2
  have hfi : f = (i : Int) := by omega
  subst hfi
  have hft : fat k.fs (i : Int) = some y := by unfold fat; rw [if_pos (by omega)]; simpa using hy
  have e1 : ownE k.fs 1 i = 0 := by unfold ownE; rw [if_pos (by rfl), hft]; simp [ho]
  have e2 : spanB o n = true := by simp [spanB]; omega
  refine ⟨x, y, hx, hy, ?_, by unfold cutB; simp; omega, n0, n1, fun ho0 hn => ?_⟩
  · unfold tRead
    rw [if_pos e1, if_neg (by simp [e2]), hft]
  · subst ho0; subst hn
    have := hr y hy
    simpa [cutB] using this
section
variable {R : Ending → World → Prop} {w w' : World} {B m : Nat} {ka ka' : KA} {k k' : KS} {pa : PA} {p : PS}
/-- The kernel's reading of a frame. -/
theorem kc4_any (h0 : KPl w B ka k pa p) (hm : k.cnt m) (hm2 : m ≤ 10000) (f o n : Int) {l : List UInt8} (hl : tRead k.fs 1 f o n = (0, l)) (h : ∀ A c w', Hid (∃ ka', ka'.g = ka.g ∧ ka'.bT = ka.bT ∧ KPl w' B ka' k pa p) → Hid (Tb w' 5 A (bts l)) → Hid (Kq B w w') → R (.returned (.tuple #[.agg #[.int .i64 0, .slice A l.length c], .int .i64 0])) w') :
    Calls Try.prog 35 #[.pointer (some ⟨ka.g, 0, none⟩), .agg #[.int .i64 4, .int .i64 1, .int .i64 f, .int .i64 o, .int .i64 n, .slice none 0 0, .slice none 0 0, .slice none 0 0]] w R := by
  refine kcall_any (x := ⟨4, 1, f, o, n, none, 0, 0, [], none, 0, 0, [], none, 0, 0, []⟩) h0.kn hm hm2 ⟨Tb.nil, rfl, by show 0 ≤ _; omega, fun _ => ⟨rfl, rfl⟩, Tb.nil, rfl, by show 0 ≤ _; omega, fun _ => ⟨rfl, rfl⟩, by simp, Tb.nil, rfl, by show 0 ≤ _; omega, fun _ => ⟨rfl, rfl⟩, by simp⟩ (fun nn AA len c2 l' e k' a' w2 hst q n9 hl' ht => ?_)
  have h1 := hst.out
  unfold kStep at h1
  rw [if_neg (by simp), if_pos (by simp)] at h1
  unfold kFB at h1
  rw [if_neg (by simp), if_neg (by simp), if_neg (by simp), if_pos rfl] at h1
  injection h1 with e1 e2 e3 e4
  rw [hl] at e2 e3
  subst e1; subst e2; subst e3; subst e4
  subst hl'
  exact h AA c2 w2 (Lib.hid ⟨a', n9.2.1, n9.2.2, h0.kcall q n9⟩) (Lib.hid ht) (Lib.hid q)
theorem Kq.drew' {w w' : World} {B : Nat} (h : Kq B w w') : Kq B w w'.drew := h.trans (Kq.of (Kp.refl [] w').drew (by simp) (fun e _ => Off.nil _ e))
theorem Kq.alloc' {w w' : World} {B : Nat} (h : Kq B w w') (o : Obj) : Kq B w (w'.alloc o) := h.trans (Kq.of ((Kp.refl [] w').alloc o) (by simp) (fun e _ => Off.nil _ e))
theorem Kq.set' {w w' : World} {B : Nat} (h : Kq B w w') {p : Addr} (hp : w.heap.size ≤ p.block) (v : Value) : Kq B w (w'.setCell p v) := by
  have k : Kp [p.block] w' (w'.setCell p v) := (Kp.refl _ _).setCell (.inl (by simp)) v
  exact ⟨k.os.trans h.os, k.tape.trans h.tape, k.output.trans h.output, Nat.le_trans h.size k.size, fun b hb hc => (k.block b (Nat.lt_of_lt_of_le hb h.size) (by simp; omega)).trans (h.block b hb hc)⟩
/-- The pool in the midst of its Part. -/
def PPW (w wr : World) (B kg tb : Nat) (k : KS) (pa : PA) (p : PS) : Prop := ∃ ka, ka.g = kg ∧ ka.bT = tb ∧ Pq B w wr ∧ KPl wr B ka k pa p
theorem PPW.off0 {w1 : World} {kg tb : Nat} (h : PPW w w1 B kg tb k pa p) (hk : Kp [] w1 w') : PPW w w' B kg tb k pa p := by
  obtain ⟨ka, a, b, c, d⟩ := h
  exact ⟨ka, a, b, c.trans (Pq.of0 hk), d.off0 hk⟩
theorem take_snoc {α : Type} {l : List α} {i : Nat} {x : α} (hx : l[i]? = some x) : l.take (i + 1) = l.take i ++ [x] := by rw [List.take_add_one, hx]; rfl
set_option maxHeartbeats 8000000 in
theorem ppart_any (h0 : KPl w B ka k pa p) (hi : PPI m k p) (hm : m ≤ 10000) {A : Option Addr} {n c : Nat} {l : List Pc} (hr : Tb w 98 A (l.flatMap Pc.vals)) (hl : l.length = n) (hn : n ≤ 200)
    (h1 : ∀ e w', e ≠ 0 → Hid (PPW w w' B ka.g ka.bT k pa p) → R (.returned (.tuple #[.complex .f64 0 0, .int .i64 e])) w')
    (h2 : (∀ x ∈ l, (tRead k.fs 1 x.f x.o x.n).1 = 0) → ∀ w', Hid (PPW w w' B ka.g ka.bT k pa p) → R (.returned (.tuple #[.complex .f64 (fl (pr (l.flatMap (pcB k))).1) (fl (pr (l.flatMap (pcB k))).2), .int .i64 0])) w') :
    Calls Try.prog 43 #[.pointer (some ⟨pa.g, 0, none⟩), .slice A n c] w R := by
  have H1 := Lib.hid h1
  have H2 := Lib.hid h2
  have HL := Lib.hid hl
  have HR := Lib.hid hr
  have HI := Lib.hid hi
  have P0 : Hid (PPW w w B ka.g ka.bT k pa p) := Lib.hid ⟨ka, rfl, rfl, Pq.refl _ _, h0⟩
  obtain ⟨kg, hkg⟩ : ∃ kg, ka.g = kg := ⟨_, rfl⟩
  obtain ⟨tb, htb⟩ : ∃ tb, ka.bT = tb := ⟨_, rfl⟩
  rw [hkg, htb] at H1 H2 P0
  clear h1 h2 hl hr hi h0 hkg htb
  go_enter Try.func43, Try.ntmps43
  go_wp2
  go_loopw [6, 7, 19] (fun zv av iv wr => ∃ (i : Nat) (L : List UInt8), i ≤ n ∧ zv = .complex .f64 (fl (pr L).1) (fl (pr L).2) ∧ av = .int .i64 L.length ∧ iv = .int .i64 i ∧ L.length ≤ 256 * i ∧ Hid (PPW w wr B kg tb k pa p) ∧ Hid (L = (l.take i).flatMap (pcB k) ∧ ∀ x ∈ l.take i, (tRead k.fs 1 x.f x.o x.n).1 = 0)) (fun _ _ iv _ => n - (intOf iv).toNat)
  case atStart => exact ⟨0, [], Nat.zero_le _, by simp [pr, fl_zero], rfl, rfl, by simp, P0, Lib.hid ⟨by simp, by simp⟩⟩
  case round =>
    obtain ⟨i, L, hin, rfl, rfl, rfl, hLn, hP, hQ⟩ := hrel
    by_cases hlt : i < n
    · obtain ⟨x, hx, hm⟩ := get_lt (l := l) (k := i) (by have := HL.out; omega)
      have hrd : Rd wr [] A (l.flatMap Pc.vals) := by obtain ⟨ka, _, _, q, _⟩ := hP.out; exact (q.tb HR.out (by decide)).rd0
      obtain ⟨b, o, rfl, _, hbl, hc⟩ := rd_at hrd pvals_len (by have := HL.out; omega) hx
      have c0 := hc 0 _ rfl
      have c1 := hc 1 _ rfl
      have c2 := hc 2 _ rfl
      rw [Nat.add_zero] at c0
      have HX := Lib.hid hx
      clear hc hx hrd hm
      go_upto_region 8 with (fail)
      refine gen_worldK (fun W => ∃ ba, wr.heap.size = ba ∧ Hid (Kp [] wr W ∧ Bk W ba 98 [.int .i64 x.f, .int .i64 x.o, .int .i64 x.n])) ⟨_, rfl, Lib.hid ⟨(Kp.refl _ _).alloc _, (Bk.new' _ _ _).cast rfl⟩⟩ ?_
      rintro W ⟨ba, hba, hW⟩
      rw [hba]
      have PW := Lib.hid (hP.out.off0 hW.out.1)
      have HB := Lib.hid hW.out.2
      clear c0 c1 c2 hba
      have q0 : W.cell? ⟨ba, 0, none⟩ = some (.int .i64 x.f) := HB.out.cell 0
      obtain ⟨lA, hlA⟩ : ∃ lA, pa.l = lA := ⟨_, rfl⟩
      have HPin : Hid (∀ (R : Ending → World → Prop), (∀ w', Kp [] W w' → R (.returned (.pointer (pfind p lA (pinB x.f)))) w') → Calls Try.prog 84 #[.pointer (some ⟨pa.g, 0, none⟩), .int .i64 x.f] W R) := Lib.hid (fun R h => by
        obtain ⟨ka, rfl, rfl, _, z⟩ := PW.out
        rw [← hlA] at h
        exact ppin_any z x.f h)
      cases hfi : p.sl.findIdx? (pinB x.f) with
      | none =>
        have e : pfind p lA (pinB x.f) = none := by unfold pfind; rw [hfi]
        rw [e] at HPin
        clear e hfi hlA
        go_wp2_with (go_at_call 84; ((refine HPin.out _ ?_); intro w2 k2))
        exact H1.out 1 _ (by decide) (Lib.hid (PW.out.off0 k2))
      | some j =>
        have e : pfind p lA (pinB x.f) = some ⟨lA, j * 7, none⟩ := by unfold pfind; rw [hfi]
        rw [e] at HPin
        have HFI := Lib.hid hfi
        clear e hfi
        have HB1 : Hid (∀ w', Kp [] W w' → w'.cell? ⟨ba, 0, none⟩ = some (.int .i64 x.f) ∧ w'.cell? ⟨ba, 1, none⟩ = some (.int .i64 x.o) ∧ w'.cell? ⟨ba, 2, none⟩ = some (.int .i64 x.n)) := Lib.hid (fun w' k' => ⟨(HB.out.kp k' (by simp)).cell 0, (HB.out.kp k' (by simp)).cell 1, (HB.out.kp k' (by simp)).cell 2⟩)
        by_cases o0 : x.o < 0
        · have o0' : decide (x.o < 0) = true := by simpa using o0
          clear o0 hlA
          go_wp2_with (go_at_call 84; ((refine HPin.out _ ?_); intro w2 k2; obtain ⟨b0, b1, b2⟩ := HB1.out w2 k2))
          exact H1.out 1 _ (by decide) (Lib.hid (PW.out.off0 k2))
        by_cases n0 : x.n < 0
        · have o0' : decide (x.o < 0) = false := by simpa using o0
          have n0' : decide (x.n < 0) = true := by simpa using n0
          clear o0 n0 hlA
          go_wp2_with (go_at_call 84; ((refine HPin.out _ ?_); intro w2 k2; obtain ⟨b0, b1, b2⟩ := HB1.out w2 k2))
          exact H1.out 1 _ (by decide) (Lib.hid (PW.out.off0 k2))
        by_cases o2 : 256 < x.o
        · have o0' : decide (x.o < 0) = false := by simpa using o0
          have n0' : decide (x.n < 0) = false := by simpa using n0
          have o2' : decide (256 < x.o) = true := by simpa using o2
          clear o0 n0 o2 hlA
          go_wp2_with (go_at_call 84; ((refine HPin.out _ ?_); intro w2 k2; obtain ⟨b0, b1, b2⟩ := HB1.out w2 k2))
          exact H1.out 1 _ (by decide) (Lib.hid (PW.out.off0 k2))
        have o0' : decide (x.o < 0) = false := by simpa using o0
        have n0' : decide (x.n < 0) = false := by simpa using n0
        have o2' : decide (256 < x.o) = false := by simpa using o2
        have hsub : IntKind.i64.wrap (256 - x.o) = 256 - x.o := by simp [IntKind.wrap, IntKind.signed, IntKind.bits]; omega
        by_cases n2 : 256 - x.o < x.n
        · have n2' : decide (256 - x.o < x.n) = true := by simpa using n2
          clear o0 n0 o2 n2 hlA
          go_wp2_with (go_at_call 84; ((refine HPin.out _ ?_); intro w2 k2; obtain ⟨b0, b1, b2⟩ := HB1.out w2 k2))
          exact H1.out 1 _ (by decide) (Lib.hid (PW.out.off0 k2))
        have n2' : decide (256 - x.o < x.n) = false := by simpa using n2
        obtain ⟨xs, y, hxs, hy, htr, hbl, xn0, xn1, hpp⟩ := HI.out.pin HFI.out (o := x.o) (n := x.n) (by omega) (by omega) (by omega)
        obtain ⟨bs, hbs⟩ : ∃ bs, cutB y.bs x.o x.n = bs := ⟨_, rfl⟩
        rw [hbs] at htr hbl hpp
        go_upto_region 11 with (go_at_call 84; ((refine HPin.out _ ?_); intro w2 k2; obtain ⟨b0, b1, b2⟩ := HB1.out w2 k2))
        have hpc : pcB k x = bs := by unfold pcB; rw [htr]
        have HXS := Lib.hid hxs
        have HTR := Lib.hid htr
        have HPP := Lib.hid hpp
        have HBL := Lib.hid hbl
        have HCE : Hid (∀ W', PPW w W' B kg tb k pa p → W'.cell? ⟨lA, j * 7 + 4, none⟩ = some (.int .i64 xs.n) ∧ W'.cell? ⟨lA, j * 7 + 5, none⟩ = some (.complex .f64 xs.re xs.im)) := Lib.hid (fun W' h => by
          obtain ⟨ka, _, _, _, z⟩ := h
          obtain ⟨_, _, _, _, c4, c5, _⟩ := z.pl.cells hxs
          rw [hlA] at c4 c5
          exact ⟨c4, c5⟩)
        have HGE : Hid (∀ W', PPW w W' B kg tb k pa p → W'.cell? ⟨pa.g, 0, none⟩ = some (.pointer (some ⟨kg, 0, none⟩))) := Lib.hid (fun W' h => by
          obtain ⟨ka, rfl, _, _, z⟩ := h
          exact z.pl.g.cell 0)
        have P2 := Lib.hid (PW.out.off0 k2)
        have HB2 := Lib.hid (HB.out.kp k2 (by simp))
        have HCall : Hid (∀ (R : Ending → World → Prop) (w1 : World), Kp [] w2 w1 → (∀ A c w', Hid (PPW w w' B kg tb k pa p) → Hid (Tb w' 5 A (bts bs)) → Hid (Kq B w1 w') → R (.returned (.tuple #[.agg #[.int .i64 0, .slice A bs.length c], .int .i64 0])) w') → Calls Try.prog 35 #[.pointer (some ⟨kg, 0, none⟩), .agg #[.int .i64 4, .int .i64 1, .int .i64 x.f, .int .i64 x.o, .int .i64 x.n, .slice none 0 0, .slice none 0 0, .slice none 0 0]] w1 R) := Lib.hid (fun R w1 k1 h => by
          obtain ⟨ka, rfl, rfl, q, z⟩ := P2.out.off0 k1
          refine kc4_any z HI.out.c hm x.f x.o x.n HTR.out (fun A c w' hz ht hq => ?_)
          obtain ⟨ka', e1, e2, z'⟩ := hz.out
          exact h A c w' (Lib.hid ⟨ka', e1, e2, q.trans hq.out.pq, z'⟩) ht hq)
        have hwB : B ≤ w2.heap.size := by obtain ⟨ka, _, _, _, z⟩ := P2.out; exact z.kn.hB
        obtain ⟨r4, r5⟩ := HCE.out _ P2.out
        have hn01 : 0 ≤ x.n := by omega
        have hn02 : x.n ≤ 256 := by omega
        clear o0 n0 o2 n2 hxs hy htr hpp hbl q0 HPin hbs
        go_upto_region 12 with (fail)
        go_cut [67] (fun v W' => ∃ t : Bool, v = .bool t ∧ Hid (t = false → x.o = 0 ∧ x.n = xs.n) ∧ Hid (Kp [] w2 W'))
        case first =>
          rcases (by omega : x.o ≠ 0 ∨ (x.o = 0 ∧ x.n ≠ xs.n) ∨ (x.o = 0 ∧ x.n = xs.n)) with e1 | ⟨e1, e2⟩ | ⟨e1, e2⟩
          · have g1 : (x.o != 0) = true := by simpa using e1
            clear e1
            refine wp_region_kp (by kernel_rfl) (by kernel_rfl) ?_
            repeat (go_big_quiet_step (fail))
            refine wpQuiet_nil ?_
            intro w3 k3
            go_wp2
            go_meet
            exact ⟨true, rfl, Lib.hid (fun h => by cases h), Lib.hid k3⟩
          · have g1 : (x.o != 0) = false := by simp [e1]
            have g2 : (x.n != xs.n) = true := by simpa using e2
            clear e1 e2
            refine wp_region_kp (by kernel_rfl) (by kernel_rfl) ?_
            repeat (go_big_quiet_step (fail))
            refine wpQuiet_nil ?_
            intro w3 k3
            go_wp2
            go_meet
            exact ⟨true, rfl, Lib.hid (fun h => by cases h), Lib.hid k3⟩
          · have g1 : (x.o != 0) = false := by simp [e1]
            have g2 : (x.n != xs.n) = false := by simp [e2]
            have E12 := Lib.hid (And.intro e1 e2)
            clear e1 e2
            refine wp_region_kp (by kernel_rfl) (by kernel_rfl) ?_
            repeat (go_big_quiet_step (fail))
            refine wpQuiet_nil ?_
            intro w3 k3
            go_wp2
            go_meet
            exact ⟨false, rfl, Lib.hid (fun _ => E12.out), Lib.hid k3⟩
        case rest =>
        obtain ⟨t, rfl, ht, hk3⟩ := hcut
        obtain ⟨w3, hw3⟩ : ∃ w3, wc = w3 := ⟨_, rfl⟩
        rw [hw3] at hk3 ⊢
        clear hw3 r4 r5 b0 b1 b2
        have k3 := hk3.out
        go_upto_if 67 with (fail)
        go_cut [11] (fun v W' => v = .complex .f64 (fl (pr bs).1) (fl (pr bs).2) ∧ Hid (PPW w W' B kg tb k pa p ∧ Bk W' ba 98 [.int .i64 x.f, .int .i64 x.o, .int .i64 x.n]))
        case first =>
          cases t with
          | false =>
            have HP12 := Lib.hid (HPP.out (ht.out rfl).1 (ht.out rfl).2)
            clear ht
            go_wp2
            go_meet
            exact ⟨by rw [HP12.out.1, HP12.out.2], Lib.hid ⟨P2.out.off0 k3, HB2.out.kp k3 (by simp)⟩⟩
          | true =>
            clear ht
            have HS : Hid (∀ w', Kq B w3 w' → w'.cell? ⟨pa.g, 0, none⟩ = some (.pointer (some ⟨kg, 0, none⟩)) ∧ w'.cell? ⟨ba, 0, none⟩ = some (.int .i64 x.f) ∧ w'.cell? ⟨ba, 1, none⟩ = some (.int .i64 x.o) ∧ w'.cell? ⟨ba, 2, none⟩ = some (.int .i64 x.n)) := Lib.hid (fun w' k' => by
              obtain ⟨ka, rfl, _, _, z⟩ := P2.out.off0 k3
              have g := k'.bk z.pl.g (by decide)
              have b := k'.bk (HB2.out.kp k3 (by simp)) (by decide)
              exact ⟨g.cell 0, b.cell 0, b.cell 1, b.cell 2⟩)
            have P3 := Lib.hid (P2.out.off0 k3)
            have hB0 : B ≤ w.heap.size := by obtain ⟨ka, _, _, _, z⟩ := P0.out; exact z.kn.hB
            have hw03 : w.heap.size ≤ w3.heap.size := by obtain ⟨ka, _, _, q, z⟩ := P3.out; exact q.size
            have hwB3 : B ≤ w3.heap.size := Nat.le_trans hwB k3.size
            have HB3 := Lib.hid (HB2.out.kp k3 (by simp))
            have HC3 : Hid (∀ (R : Ending → World → Prop) (w1 : World), Kp [] w3 w1 → (∀ A c w', Hid (PPW w w' B kg tb k pa p) → Hid (Tb w' 5 A (bts bs)) → Hid (Kq B w1 w') → R (.returned (.tuple #[.agg #[.int .i64 0, .slice A bs.length c], .int .i64 0])) w') → Calls Try.prog 35 #[.pointer (some ⟨kg, 0, none⟩), .agg #[.int .i64 4, .int .i64 1, .int .i64 x.f, .int .i64 x.o, .int .i64 x.n, .slice none 0 0, .slice none 0 0, .slice none 0 0]] w1 R) := Lib.hid (fun R w1 k1 h => HCall.out R w1 (k3.trans k1) h)
            clear HCall
            go_wp2
            go_cut [12, 13] from 68 to 82 (fun bv ev W' => ∃ (ab : Nat) (A : Option Addr) (c : Nat), bv = .pointer (some ⟨ab, 0, none⟩) ∧ ev = .int .i64 0 ∧ Hid (PPW w W' B kg tb k pa p ∧ Bk W' ab 73 [.int .i64 0, .slice A bs.length c] ∧ Bk W' ba 98 [.int .i64 x.f, .int .i64 x.o, .int .i64 x.n] ∧ Tb W' 5 A (bts bs)))
            case first =>
              go_region_held_law (fun w' => w'.cell? ⟨pa.g, 0, none⟩ = some (.pointer (some ⟨kg, 0, none⟩)) ∧ w'.cell? ⟨ba, 0, none⟩ = some (.int .i64 x.f) ∧ w'.cell? ⟨ba, 1, none⟩ = some (.int .i64 x.o) ∧ w'.cell? ⟨ba, 2, none⟩ = some (.int .i64 x.n)) ((refine HS.out _ ?_; repeat (first | with_reducible exact kq5 | with_reducible exact Kq.refl _ _ | with_reducible refine Kq.drew' ?_ | with_reducible refine Kq.alloc' ?_ _ | with_reducible refine Kq.set' ?_ (Nat.le_refl _) _))) (first | (go_simp; go_at_call 35; ((refine HC3.out _ _ (Kp.refl [] w3).drew ?_); intro A c w5 h5 l5 q5; have kq5 : Kq B w3 w5 := (Kq.refl B w3).drew'.trans q5.out)) | (go_simp; go_at_call 35; ((refine HC3.out _ _ ((Kp.refl [] w3).alloc _).drew ?_); intro A c w5 h5 l5 q5; have kq5 : Kq B w3 w5 := ((Kq.refl B w3).alloc' _).drew'.trans q5.out; have r5 := q5.out.bk (((Bk.new' w3 73 #[.int .i64 0, .slice none 0 0]).cast rfl).drew) (by decide); obtain ⟨s0, s1, t0, t1⟩ := bk2t r5; have R5 := Lib.hid r5; clear r5)))
              all_goals
                go_wp2_with fail
                go_meet
                first
                | exact ⟨w5.heap.size, A, c, rfl, rfl, Lib.hid (by
                    have kv := (Kp.refl [] w5).alloc (.cells #[.int .i64 0, .slice A bs.length c] 73)
                    exact ⟨h5.out.off0 kv, (Bk.new' _ _ _).cast rfl, (q5.out.bk HB3.out.drew (by decide)).kp kv (by simp), l5.out.kp kv (Off.nil _ _)⟩)⟩
                | exact ⟨w3.heap.size, A, c, rfl, rfl, Lib.hid (by
                    obtain ⟨bb, kb⟩ := bk2set R5.out (.int .i64 0) (.slice A bs.length c)
                    have oA : ∀ e, 73 ≠ e → Off w5 [w3.heap.size] e := fun e he => Off.one R5.out.ty he
                    refine ⟨?_, bb, (q5.out.bk (HB3.out.alloc _).drew (by decide)).off kb (oA _ (by decide)), l5.out.kp kb (oA _ (by decide))⟩
                    obtain ⟨ka, e1, e2, q, z⟩ := h5.out
                    exact ⟨ka, e1, e2, q.thn kb hB0 (by intro s hs; simp at hs; omega), ⟨z.kn.offA kb oA, z.pl.off kb (oA _ (by decide)) (oA _ (by decide)), z.gB, z.lB⟩⟩)⟩
            case rest =>
              obtain ⟨ab, A, c, rfl, rfl, h4⟩ := hcut
              obtain ⟨_, s1, _, _⟩ := bk2t h4.out.2.1
              have HSP : Hid (∀ (R : Ending → World → Prop), (∀ w', Kp [] wc w' → R (.returned (.tuple #[.complex .f64 (fl (pr bs).1) (fl (pr bs).2), .int .i64 0])) w') → Calls Try.prog 71 #[.slice A bs.length c] wc R) := Lib.hid (fun R h => spart_any h4.out.2.2.2.rd0 rfl (by have := HBL.out; omega) (fun w' _ _ k' => by rw [part_pr rfl (by have := HBL.out; omega)]; exact h w' k'))
              go_wp2_with (go_at_call 71; ((refine HSP.out _ ?_); intro w6 k6))
              go_meet
              exact ⟨rfl, Lib.hid ⟨h4.out.1.off0 k6, h4.out.2.2.1.kp k6 (by simp)⟩⟩
        case rest =>
          obtain ⟨rfl, h7⟩ := hcut
          have d2 : wc.cell? ⟨ba, 2, none⟩ = some (.int .i64 x.n) := h7.out.2.cell 2
          have hb1 := pr_bd L
          have hb2 := pr_bd bs
          have hbn := HBL.out
          have HJ : Hid (∀ (R : Ending → World → Prop), R (.returned (.tuple #[.complex .f64 0 0, .int .i64 1])) wc → R (.returned (.tuple #[.complex .f64 (fl (pr (L ++ bs)).1) (fl (pr (L ++ bs)).2), .int .i64 0])) wc → Calls Try.prog 87 #[.complex .f64 (fl (pr L).1) (fl (pr L).2), .int .i64 L.length, .complex .f64 (fl (pr bs).1) (fl (pr bs).2)] wc R) := Lib.hid (fun R r1 r2 => by
            rw [pr_app] at r2
            refine sjoin_any (by omega) (by omega) (by omega) (by omega) r1 (fun h => ?_) (fun h => ?_)
            · rw [if_pos h] at r2; exact r2
            · rw [if_neg (by omega)] at r2; exact r2)
          have HQ2 : Hid (L ++ bs = (l.take (i + 1)).flatMap (pcB k) ∧ ∀ x ∈ l.take (i + 1), (tRead k.fs 1 x.f x.o x.n).1 = 0) := Lib.hid (by
            obtain ⟨q1, q2⟩ := hQ.out
            rw [take_snoc HX.out, List.flatMap_append, ← q1]
            refine ⟨by simp [hpc], fun y hy => ?_⟩
            rcases List.mem_append.1 hy with hy | hy
            · exact q2 y hy
            · simp at hy; subst hy; rw [HTR.out])
          have hlen : ((L ++ bs).length : Int) = (L.length : Int) + x.n := by rw [List.length_append]; push_cast; omega
          have hwl : IntKind.i64.wrap ((L.length : Int) + x.n) = (L.length : Int) + x.n := by simp [IntKind.wrap, IntKind.signed, IntKind.bits]; omega
          have h7a := Lib.hid h7.out.1
          have hlen2 : (L ++ bs).length ≤ 256 * (i + 1) := by rw [List.length_append]; omega
          obtain ⟨LB, hLB⟩ : ∃ LB, L ++ bs = LB := ⟨_, rfl⟩
          rw [hLB] at HJ HQ2 hlen hlen2
          clear h7 hpc hb1 hb2 hLB
          go_wp2_with (go_at_call 87; refine HJ.out _ ?_ ?_)
          · exact H1.out 1 _ (by decide) h7a
          · exact ⟨⟨i + 1, LB, by omega, rfl, by rw [hlen], by go_num, hlen2, h7a, HQ2⟩, by simp [intOf]; omega⟩
    · obtain rfl : i = n := by omega
      have HE : Hid (R (.returned (.tuple #[.complex .f64 (fl (pr L).1) (fl (pr L).2), .int .i64 0])) wr) := Lib.hid (by
        obtain ⟨q1, q2⟩ := hQ.out
        rw [List.take_of_length_le (by have := HL.out; omega)] at q1 q2
        rw [q1]
        exact H2.out q2 wr hP)
      go_wp2
      exact HE.out
end
end Go.Proofs.Ythlmfjfkkndboaa
