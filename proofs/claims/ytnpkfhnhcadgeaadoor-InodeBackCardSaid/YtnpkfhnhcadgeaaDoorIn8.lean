/- inode.PackDir. -/
import Derived.Test.YtnpkfhnhcadgeaaDoorIn7
import Derived.Lib.SlBytesConst
namespace Go.Proofs.YtnpkfhnhcadgeaaDoor
open Go.RowKit
set_option linter.unusedVariables false
set_option linter.unusedSimpArgs false
set_option maxRecDepth 100000
def entT (e : List UInt8 × Int) : List UInt8 := putL e.1.length 1 ++ e.1 ++ List.replicate (24 - e.1.length) 0 ++ putL e.2.toNat 2
def dirT (l : List (List UInt8 × Int)) : List UInt8 := [68] ++ putL l.length 1 ++ l.flatMap entT
def dirB (l : List (List UInt8 × Int)) : Bool := l.all entB && decide (1 ≤ l.length ∧ l.length ≤ 8)
theorem entT_len {e : List UInt8 × Int} (h : e.1.length ≤ 24) : (entT e).length = 27 := by
  unfold entT
  simp only [List.length_append, putL_len, List.length_replicate]
  omega
theorem dirT_len {l : List (List UInt8 × Int)} (h : ∀ e ∈ l, e.1.length ≤ 24) : (l.flatMap entT).length = 27 * l.length := by
  induction l with
  | nil => rfl
  | cons e l ih => rw [List.flatMap_cons, List.length_append, entT_len (h e (by simp)), ih (fun x hx => h x (by simp [hx])), List.length_cons]; omega
theorem nameB_len {a : List UInt8} (h : nameB a = true) : a.length ≤ 24 := by
  unfold nameB at h
  simp only [Bool.and_eq_true, decide_eq_true_eq] at h
  exact h.1
theorem strCells_bts (a : List UInt8) : Lib.strCells (S a) = bts a := by simp [Lib.strCells, bts, S]
section
variable {R : Ending → World → Prop} {w0 w w' : World} {g : Nat} {t : List UInt8}
set_option maxHeartbeats 1000000 in
theorem pnumK_any (hp : Hid (Pr0 w0 w g t)) (ht : t.length ≤ 1000) (N k : Nat) (hN : N < 4611686018427387904) (hk1 : 1 ≤ k) (hk8 : k ≤ 8) (hf : k = 8 ∨ N < 256 ^ k) (h : ∀ w', Kp [g] w w' → Hid (Pn w0 w' g (t ++ putL N k)) → R (.returned (.tuple #[])) w') :
    Calls Tryd.prog 26 #[.pointer (some ⟨g, 0, none⟩), .int .i64 N, .int .i64 k] w R := by
  have H := Lib.hid h
  obtain ⟨A, c, hb, ho⟩ := hp.out.x
  obtain ⟨n, hn⟩ : ∃ n, t.length = n := ⟨_, rfl⟩
  rw [hn] at hb ht
  have hw : IntKind.u64.wrap (N : Int) = N := by simp [IntKind.wrap, IntKind.signed, IntKind.bits]; omega
  have HPut : Hid (∀ (R : Ending → World → Prop), (∀ A' c' w', Hid ((∀ x ∈ bks A', w.heap.size ≤ x) ∧ Ow w' 5 1 A' (n + k) c' (bts (t ++ putL N k)) ∧ Kp [] w w') → R (.returned (.tuple #[.slice A' (n + k) c', .int .i64 0])) w') → Calls Tryd.prog 42 #[.slice A n c, .int .u64 N, .int .i64 k] w R) := Lib.hid (fun R h => put_good N k ho hn (by omega) (by omega) hk1 hk8 hf (fun A' c' w' a b c => h A' c' w' (Lib.hid ⟨a, b, c⟩)))
  have c0 : w.cell? ⟨g, 0, none⟩ = some (.slice A n c) := hb.cell 0
  have HC : Hid (∀ w', Kp [] w w' → w'.cell? ⟨g, 0, none⟩ = some (.slice A n c) ∧ w'.frozen? ⟨g, 0, none⟩ = false ∧ Bk w' g 70 [.slice A n c]) := Lib.hid (fun w' k' => ⟨(hb.kp k' (by simp)).cell 0, (hb.kp k' (by simp)).frozen 0, hb.kp k' (by simp)⟩)
  have hgl := hb.lt
  have HN := Lib.hid hn
  clear h hb ho hn
  go_enter Tryd.func26, Tryd.ntmps26
  go_wp2_with (go_at_call 42; ((refine HPut.out _ ?_); intro A' c' w2 h2; obtain ⟨d0, d1, d2⟩ := HC.out w2 h2.out.2.2; have D2 := Lib.hid d2; clear d2))
  obtain ⟨f2, o2, k2⟩ := h2.out
  have hk : Kp [g] w2 (w2.setCell ⟨g, 0, none⟩ (.slice A' (n + k) c')) := (Kp.refl _ _).setCell (p := ⟨g, 0, none⟩) (.inl (by simp)) _
  have hlen : (t ++ putL N k).length = n + k := by rw [List.length_append, HN.out, putL_len]
  first | go_end0 | refine bodyPost_ret (results_none rfl _ _ _) rfl ?_
  refine H.out _ ((k2.mono (by simp)).trans hk) (Lib.hid ⟨(hp.out.k.trans k2).thn hk (fun s hs => .inr (by simp at hs; subst hs; exact hp.out.g0)), hp.out.g0, A', c', ?_, ?_, ?_⟩)
  · rw [hlen]; exact (D2.out.set_ 0 _).cast rfl
  · rw [hlen]; exact o2.kp hk (fun b hb => by have := f2 b hb; simp; omega)
  · intro b hb
    have := f2 b hb
    have := hp.out.k.size
    constructor <;> omega

theorem Pn.parts (h : Pn w0 w g t) (ht : 0 < t.length) : ∃ gA c, Bk w g 70 [.slice (some ⟨gA, 0, none⟩) t.length c] ∧ Ow w 5 1 (some ⟨gA, 0, none⟩) t.length c (bts t) ∧ w0.heap.size ≤ gA ∧ gA ≠ g ∧ ∃ cur, Bk w gA 5 cur := by
  obtain ⟨A, c, h1, h2, h3⟩ := h.x
  obtain ⟨gA, cur, rfl, hb, _⟩ := h2.row ht
  exact ⟨gA, c, h1, h2, (h3 gA (by simp [bks])).1, (h3 gA (by simp [bks])).2, cur, hb⟩
theorem Pn.put {gA n m c c' : Nat} {A' : Option Addr} {y : List UInt8} (h : Pn w0 w g t) (hb : Bk w g 70 [.slice (some ⟨gA, 0, none⟩) n c]) (hgA : w0.heap.size ≤ gA) (hne : gA ≠ g)
    (ho : Ow w' 5 1 A' (n + m) c' (bts (t ++ y))) (hl : (t ++ y).length = n + m) (hk : Kp [gA] w w') (hA : A' = some ⟨gA, 0, none⟩ ∨ A' = some ⟨w.heap.size, 0, none⟩) :
    Pn w0 (w'.setCell ⟨g, 0, none⟩ (.slice A' (n + m) c')) g (t ++ y) ∧ Kp [g, gA] w (w'.setCell ⟨g, 0, none⟩ (.slice A' (n + m) c')) := by
  have hs : Kp [g] w' (w'.setCell ⟨g, 0, none⟩ (.slice A' (n + m) c')) := (Kp.refl [g] w').setCell (p := ⟨g, 0, none⟩) (.inl (by simp)) _
  have h2 : Kp [g, gA] w (w'.setCell ⟨g, 0, none⟩ (.slice A' (n + m) c')) := (hk.mono (S' := [g, gA]) (by simp)).trans (hs.mono (by simp))
  have hlt := hb.lt
  have hg := h.g0
  have hf : ∀ b ∈ bks A', w0.heap.size ≤ b ∧ b ≠ g := by
    intro b hb'
    have := h.k.size
    rcases hA with rfl | rfl <;> (simp [bks] at hb'; subst hb')
    · exact ⟨hgA, hne⟩
    · exact ⟨this, by omega⟩
  refine ⟨⟨h.k.thn h2 (fun s hs => .inr (by simp at hs; rcases hs with rfl | rfl <;> assumption)), h.g0, A', c', ?_, ?_, hf⟩, h2⟩
  · rw [hl]; exact ((hb.kp hk (by simp; omega)).set_ 0 _).cast rfl
  · rw [hl]; exact ho.kp hs (fun b hb' => by have := (hf b hb').2; simp; omega)
/-- A round of PackDir's. -/
structure Rd7 (W w : World) (g bx : Nat) (T : List UInt8) (a : List UInt8) (V : Nat) : Prop where
  pn : Pn W w g T
  en : Bk w bx 65 [.string (S a), .int .i64 V]
  ne : g < bx
theorem Rd7.to {W w w' : World} {g bx V : Nat} {T T' a : List UInt8} {Z : List Nat} (h : Rd7 W w g bx T a V) (hp : Pn W w' g T') (hk : Kp Z w w') (hz : bx ∉ Z) : Rd7 W w' g bx T' a V := ⟨hp, h.en.kp hk hz, h.ne⟩
theorem Rd7.put {W w w' : World} {g bx V gA n m c c' : Nat} {T a y : List UInt8} {A' : Option Addr} (h : Rd7 W w g bx T a V) (hb : Bk w g 70 [.slice (some ⟨gA, 0, none⟩) n c]) (hgA : W.heap.size ≤ gA) (hne : gA ≠ g) (hcur : ∃ cur, Bk w gA 5 cur)
    (ho : Ow w' 5 1 A' (n + m) c' (bts (T ++ y))) (hl : (T ++ y).length = n + m) (hk : Kp [gA] w w') (hA : A' = some ⟨gA, 0, none⟩ ∨ A' = some ⟨w.heap.size, 0, none⟩) :
    Rd7 W (w'.setCell ⟨g, 0, none⟩ (.slice A' (n + m) c')) g bx (T ++ y) a V := by
  obtain ⟨h1, h2⟩ := h.pn.put hb hgA hne ho hl hk hA
  obtain ⟨cur, hcur⟩ := hcur
  exact h.to h1 h2 (by have := h.ne; have := Bk.ne_ h.en hcur (by decide); simp; omega)
theorem rd7_num {W w : World} {bx V : Nat} {T a : List UInt8} {R : Ending → World → Prop} (h : Hid (Rd7 W w g bx T a V)) (hT : T.length ≤ 1000) (N k : Nat) (hN : N < 65536) (hk1 : 1 ≤ k) (hk8 : k ≤ 8) (hf : N < 256 ^ k) (hr : ∀ w', Hid (Rd7 W w' g bx (T ++ putL N k) a V) → R (.returned (.tuple #[])) w') : Calls Tryd.prog 26 #[.pointer (some ⟨g, 0, none⟩), .int .i64 N, .int .i64 k] w R :=
  pnumK_any (Lib.hid h.out.pn.pr) hT N k (by omega) hk1 hk8 (.inr hf) (fun w' k' h' => hr w' (Lib.hid (h.out.to h'.out k' (by have := h.out.ne; simp; omega))))
theorem rd7_num1 {W w : World} {bx V : Nat} {T a : List UInt8} {R : Ending → World → Prop} (h : Hid (Rd7 W w g bx T a V)) (hT : T.length ≤ 1000) (N : Nat) (hN : N < 256) (hr : ∀ w', Hid (Rd7 W w' g bx (T ++ putL N 1) a V) → R (.returned (.tuple #[])) w') : Calls Tryd.prog 26 #[.pointer (some ⟨g, 0, none⟩), .int .i64 N, .int .i64 1] w R := rd7_num h hT N 1 (by omega) (by decide) (by decide) (by omega) hr
theorem rd7_num2 {W w : World} {bx V : Nat} {T a : List UInt8} {R : Ending → World → Prop} (h : Hid (Rd7 W w g bx T a V)) (hT : T.length ≤ 1000) (N : Nat) (hN : N < 65536) (hr : ∀ w', Hid (Rd7 W w' g bx (T ++ putL N 2) a V) → R (.returned (.tuple #[])) w') : Calls Tryd.prog 26 #[.pointer (some ⟨g, 0, none⟩), .int .i64 N, .int .i64 2] w R := rd7_num h hT N 2 (by omega) (by decide) (by decide) (by omega) hr
set_option maxHeartbeats 4000000 in
theorem packd_any {A : Option Addr} {n c : Nat} {l : List (List UInt8 × Int)} (hr : Rd w [] A (l.flatMap eV)) (hl : l.length = n) (hn : n ≤ 1000000) (hm : Ml w)
    (h0 : dirB l = false → ∀ w', Kp [] w w' → R (.returned (.tuple #[.slice none 0 0, .int .i64 1])) w')
    (h1 : dirB l = true → ∀ A' c' w', Hid (Kp [] w w' ∧ Ow w' 5 1 A' 256 c' (bts (sealB (dirT l))) ∧ ∀ b ∈ bks A', w.heap.size ≤ b) → R (.returned (.tuple #[.slice A' 256 c', .int .i64 0])) w') :
    Calls Tryd.prog 11 #[.slice A n c] w R := by
  have H0 := Lib.hid h0
  have H1 := Lib.hid h1
  have HL := Lib.hid hl
  have HR := Lib.hid hr
  obtain ⟨t, ht⟩ : ∃ t, l.all entB = t := ⟨_, rfl⟩
  have HM : Hid (∀ (R : Ending → World → Prop), (∀ w', Kp [] w w' → R (.returned (.bool t)) w') → Calls Tryd.prog 29 #[.slice A n c, .func (.func 30) #[] #[]] w R) := Lib.hid (fun R h => alle_any hr hl hn hm (by rw [ht]; exact h))
  have HT := Lib.hid ht
  have HD : Hid (dirB l = (t && decide (1 ≤ n ∧ n ≤ 8))) := Lib.hid (by unfold dirB; rw [ht, hl])
  clear h0 h1 hl hr ht
  cases t with
  | false =>
    go_enter Tryd.func11, Tryd.ntmps11
    go_wp2_with (go_at_call 29; (refine HM.out _ ?_; intro w2 k2))
    exact H0.out (by rw [HD.out]; rfl) _ k2
  | true =>
    by_cases hn1 : 1 ≤ n
    · by_cases hn8 : n ≤ 8
      · have HDT : Hid (dirB l = true) := Lib.hid (by rw [HD.out]; simp [hn1, hn8])
        have HB : Hid (∀ e ∈ l, e.1.length ≤ 24 ∧ 2 ≤ e.2 ∧ e.2 < 512) := Lib.hid (fun e he => by
          have h := List.all_eq_true.1 HT.out e he
          unfold entB at h
          simp only [Bool.and_eq_true] at h
          exact ⟨nameB_len h.1, by simpa [blkB] using h.2⟩)
        clear HD
        have hcv := fun (W : World) (C : Array Value) (n c : Nat) => Lib.run_convert_bytes_const (P := Tryd.prog) W 29 5 C n c Tryd.underlying29 Tryd.underlying5
        go_enter Tryd.func11, Tryd.ntmps11
        go_upto_region 5 with (go_at_call 29; (refine HM.out _ ?_; intro w2 k2))
        refine gen_worldI (fun W2 => ∃ g, w2.heap.size + 1 = g ∧ Hid (Pr0 w W2 g [68])) ⟨_, rfl, Lib.hid (by
          have km := (Kp.refl [] w2).alloc (.cells #[.int .u8 68] 5 (1, 2))
          refine ⟨(k2.trans km).alloc _, by have := k2.size; omega, some ⟨w2.heap.size, 0, none⟩, 1, (Bk.newAt (by simp) _ _).cast rfl, ?_⟩
          exact (rd_mark w2 #[.int .u8 68] 5 (1, 2) _ rfl).kp ((Kp.refl [] _).alloc _) (by simp))⟩ ?_
        rintro W2 ⟨g, hg, hP⟩
        rw [hg]
        clear hg HM hcv
        go_upto_region 6 with (go_at_call 26; (with_reducible refine pnum1_any hP (by simp) n (by omega) ?_; intro w4 h4))
        refine gen_worldI (fun W4 => Hid (Pn w W4 g ([68] ++ putL n 1))) h4 ?_
        intro W4 hP4
        obtain ⟨base, hbase⟩ : ∃ base, [68] ++ putL n 1 = base := ⟨_, rfl⟩
        rw [hbase] at hP4
        have hbl : base.length = 2 := by rw [← hbase]; simp [putL_len]
        have HBs := Lib.hid hbase
        clear h4 hP hbase
        go_wp2
        go_loopw [30] (fun jv wr => ∃ k : Nat, k ≤ n ∧ jv = .int .i64 k ∧ Hid (Pn w wr g (base ++ (l.take k).flatMap entT))) (fun jv _ => n - (intOf jv).toNat)
        case atStart => exact ⟨0, Nat.zero_le _, rfl, by simpa using hP4⟩
        case round =>
          obtain ⟨k, hk, rfl, hS⟩ := hrel
          have hlen : (base ++ (l.take k).flatMap entT).length = 2 + 27 * k := by
            rw [List.length_append, hbl, dirT_len (fun e he => (HB.out e (List.mem_of_mem_take he)).1), List.length_take, HL.out]; omega
          by_cases hlt : k < n
          · obtain ⟨x, hx, hmx⟩ := get_ltI (l := l) (k := k) (by have := HL.out; omega)
            obtain ⟨b, off, rfl, _, hblt, hc⟩ := rd_at (F := eV) (K := 2) (HR.out.kp hS.out.k (by simp)) eV_len (by omega) hx
            have c0 := hc 0 _ rfl
            have c1 := hc 1 _ rfl
            rw [Nat.add_zero] at c0
            have hv := HB.out x hmx
            obtain ⟨xs, xi⟩ := x
            obtain ⟨V, hV⟩ : ∃ V : Nat, xi = (V : Int) := ⟨xi.toNat, by simp only at hv; omega⟩
            have HNX : Hid (base ++ (l.take k).flatMap entT ++ putL xs.length 1 ++ xs ++ List.replicate (24 - xs.length) 0 ++ putL V 2 = base ++ (l.take (k + 1)).flatMap entT) := Lib.hid (by
              rw [take_snocI hx, List.flatMap_append]
              simp [entT, hV])
            subst hV
            obtain ⟨T, hT⟩ : ∃ T, base ++ (l.take k).flatMap entT = T := ⟨_, rfl⟩
            rw [hT] at HNX hlen hS
            obtain ⟨hv1, hv2, hv3⟩ := hv
            simp only at hv1 hv2 hv3 c0 c1
            clear hc hx hmx hT
            go_upto_region 9 with (fail)
            refine gen_worldI (fun W9 => ∃ bx, wr.heap.size = bx ∧ Hid (Rd7 w W9 g bx T xs V)) ⟨_, rfl, Lib.hid ⟨hS.out.kp ((Kp.refl _ _).alloc _), (Bk.new' _ _ _).cast rfl, by obtain ⟨_, _, hb, _⟩ := hS.out.x; exact hb.lt⟩⟩ ?_
            rintro W9 ⟨bx, hbx, h9⟩
            rw [hbx]
            clear hbx hS c0 c1
            obtain ⟨m, hm1⟩ : ∃ m, xs.length = m := ⟨_, rfl⟩
            have HSz : Hid (∀ s, (S xs) = s → s.size = m) := Lib.hid (by rintro s rfl; rw [← hm1]; simp [S, ByteArray.size])
            obtain ⟨s, hs⟩ : ∃ s, S xs = s := ⟨_, rfl⟩
            have hsz := HSz.out s hs
            have HSZ := Lib.hid hsz
            have HSS : Hid (Lib.strCells s = bts xs) := Lib.hid (by rw [← hs]; exact strCells_bts xs)
            have HEn : Hid (∀ W' T', Hid (Rd7 w W' g bx T' xs V) → W'.cell? ⟨bx, 0, none⟩ = some (.string s) ∧ W'.cell? ⟨bx, 1, none⟩ = some (.int .i64 V)) := Lib.hid (fun W' T' h' => ⟨by rw [← hs]; exact h'.out.en.cell 0, h'.out.en.cell 1⟩)
            have HM1 := Lib.hid hm1
            rw [hm1] at HNX hv1
            clear HSz hm1 hs
            obtain ⟨e0, e1⟩ := HEn.out W9 T h9
            go_upto_region 10 with (go_at_call 26; (with_reducible refine rd7_num1 h9 (by omega) m (by omega) ?_; intro w10 h10))
            obtain ⟨T1, hT1⟩ : ∃ T1, T ++ putL m 1 = T1 := ⟨_, rfl⟩
            have hl1 : T1.length = 3 + 27 * k := by rw [← hT1, List.length_append, putL_len]; omega
            rw [hT1] at h10 HNX
            obtain ⟨e2, e3⟩ := HEn.out w10 T1 h10
            obtain ⟨gA, cA, q1, q2, q3, q4, q5⟩ := h10.out.pn.parts (by omega)
            obtain ⟨n1, hn1⟩ : ∃ n1, T1.length = n1 := ⟨_, rfl⟩
            rw [hn1] at q1 q2 hl1
            have HL1 := Lib.hid hl1
            have HTL := Lib.hid hlen
            have hn1b : n1 ≤ 1000 := by omega
            clear hl1 hlen hsz
            have p0 : w10.cell? ⟨g, 0, none⟩ = some (.slice (some ⟨gA, 0, none⟩) n1 cA) := q1.cell 0
            have HF1 : Hid (∀ w', Kp [gA] w10 w' → w'.cell? ⟨g, 0, none⟩ = some (.slice (some ⟨gA, 0, none⟩) n1 cA) ∧ w'.frozen? ⟨g, 0, none⟩ = false) := Lib.hid (fun w' k' => ⟨(q1.kp k' (by simp; omega)).cell 0, (q1.kp k' (by simp; omega)).frozen 0⟩)
            have HO1 := Lib.hid q2
            have HPt : Hid (∀ A' c' w', Ow w' 5 1 A' (n1 + m) c' (bts (T1 ++ xs)) → Kp [gA] w10 w' → (A' = some ⟨gA, 0, none⟩ ∨ A' = some ⟨w10.heap.size, 0, none⟩) → Hid (Rd7 w (w'.setCell ⟨g, 0, none⟩ (.slice A' (n1 + m) c')) g bx (T1 ++ xs) xs V)) := Lib.hid (fun A' c' w' o' k' a' => Lib.hid (h10.out.put q1 q3 q4 q5 o' (by rw [List.length_append, hn1, HM1.out]) k' a'))
            clear q1 q2 q3 q4 q5 e0 e1 h9
            go_upto_region 11 with (at_builtin; refine wpList_str _ rfl (.tmp 39) (.tmp 41) _ _ rfl elt_u8 Tryd.underlying9 ⟨gA, 0, none⟩ n1 cA (bts T1) rfl HO1.out s rfl (by rw [HSZ.out]; omega) ?_; intro A2 c2 w2 o2 k2 hA2; rw [HSS.out, ← bts_append, HSZ.out] at o2; rw [HSZ.out]; obtain ⟨u0, u1⟩ := HF1.out w2 k2; have h11 := HPt.out A2 c2 w2 o2 k2 hA2; clear o2 k2 hA2)
            refine gen_worldI (fun W11 => Hid (Rd7 w W11 g bx (T1 ++ xs) xs V)) h11 ?_
            intro W11 hb11
            clear h11 HPt HO1 HF1 p0 e2 e3 u0 u1 h10
            obtain ⟨T2, hT2⟩ : ∃ T2, T1 ++ xs = T2 := ⟨_, rfl⟩
            rw [hT2] at hb11
            have HNX2 : Hid (T2 ++ List.replicate (24 - m) 0 ++ putL V 2 = base ++ (l.take (k + 1)).flatMap entT) := Lib.hid (by rw [← hT2]; exact HNX)
            have hl2 : T2.length = 3 + 27 * k + m := by rw [← hT2, List.length_append, hn1, HM1.out, HL1.out]
            have hl2b : T2.length ≤ 1000 := by omega
            obtain ⟨d, hd⟩ : ∃ d : Nat, 24 - m = d := ⟨_, rfl⟩
            have hd24 : d ≤ 24 := by omega
            have hsub : (24 : Int) - (s.size : Int) = (d : Int) := by have := HSZ.out; omega
            have hwm : IntKind.i64.wrap (d : Int) = (d : Int) := by rw [IntKind.wrap_i64]; omega
            rw [hd] at HNX2
            obtain ⟨e2, e3⟩ := HEn.out W11 T2 hb11
            obtain ⟨gB, cB, q1, q2, q3, q4, q5⟩ := hb11.out.pn.parts (by omega)
            obtain ⟨n2, hn2⟩ : ∃ n2, T2.length = n2 := ⟨_, rfl⟩
            rw [hn2] at q1 q2 hl2 hl2b
            have HL2 := Lib.hid (hn2.trans hl2)
            have hm24 : m ≤ 24 := hv1
            have HD := Lib.hid hd
            have p0 : W11.cell? ⟨g, 0, none⟩ = some (.slice (some ⟨gB, 0, none⟩) n2 cB) := q1.cell 0
            have HF2 : Hid (∀ w', Kp [gB] W11 w' → w'.cell? ⟨g, 0, none⟩ = some (.slice (some ⟨gB, 0, none⟩) n2 cB) ∧ w'.frozen? ⟨g, 0, none⟩ = false) := Lib.hid (fun w' k' => ⟨(q1.kp k' (by simp; omega)).cell 0, (q1.kp k' (by simp; omega)).frozen 0⟩)
            have HO2 := Lib.hid q2
            have HPt2 : Hid (∀ A' c' w', Ow w' 5 1 A' (n2 + d) c' (bts T2 ++ List.replicate d (.int .u8 0)) → Kp [gB] W11 w' → (A' = some ⟨gB, 0, none⟩ ∨ A' = some ⟨W11.heap.size, 0, none⟩) → Hid (Rd7 w (w'.setCell ⟨g, 0, none⟩ (.slice A' (n2 + d) c')) g bx (T2 ++ List.replicate d 0) xs V)) := Lib.hid (fun A' c' w' o' k' a' => Lib.hid (hb11.out.put q1 q3 q4 q5 (by rw [bts_append, show bts (List.replicate d 0) = List.replicate d (.int .u8 0) by simp [bts]]; exact o') (by rw [List.length_append, hn2, List.length_replicate]) k' a'))
            clear q1 q2 q3 q4 q5 hb11 hd hl2 hT2 hv1 hn2
            go_upto_region 12 with (at_builtin; refine wpList_zerosU _ rfl (.tmp 45) (.tmp 49) _ _ rfl elt_u8 rfl rfl Tryd.underlying3 ⟨gB, 0, none⟩ n2 cB (bts T2) rfl HO2.out d rfl (by omega) ?_; intro A3 c3 w3 o3 k3 hA3; obtain ⟨u0, u1⟩ := HF2.out w3 k3; have h12 := HPt2.out A3 c3 w3 o3 k3 hA3; clear o3 k3 hA3)
            refine gen_worldI (fun W12 => Hid (Rd7 w W12 g bx (T2 ++ List.replicate d 0) xs V)) h12 ?_
            intro W12 hb12
            clear h12 HPt2 HO2 HF2 p0 e2 e3 u0 u1
            obtain ⟨e2, e3⟩ := HEn.out W12 _ hb12
            go_wp2_with (go_at_call 26; (with_reducible refine rd7_num2 hb12 (by rw [List.length_append, List.length_replicate]; have := HL2.out; omega) V (by omega) ?_; intro w13 h13; rw [HNX2.out] at h13))
            exact ⟨⟨k + 1, by omega, by go_num, Lib.hid h13.out.pn⟩, by simp [intOf]; omega⟩
          · obtain rfl : k = n := by omega
            have HF : Hid (base ++ (l.take k).flatMap entT = dirT l) := Lib.hid (by
              rw [List.take_of_length_le (by have := HL.out; omega), ← HBs.out]
              unfold dirT
              rw [HL.out])
            go_wp2_with (go_at_call 27; (refine pseal_any hS (by omega) (by omega) ?_; intro A' c' w6 h6; rw [HF.out] at h6))
            exact H1.out HDT.out A' c' w6 h6
      · have hgt : ((n : Int) > 8) := by omega
        go_enter Tryd.func11, Tryd.ntmps11
        go_wp2_with (go_at_call 29; (refine HM.out _ ?_; intro w2 k2))
        exact H0.out (by rw [HD.out]; simp [hn8]) _ k2
    · obtain rfl : n = 0 := by omega
      go_enter Tryd.func11, Tryd.ntmps11
      go_wp2_with (go_at_call 29; (refine HM.out _ ?_; intro w2 k2))
      exact H0.out (by rw [HD.out]; rfl) _ k2
end
end Go.Proofs.YtnpkfhnhcadgeaaDoor
