/- inode.ParseDir. -/
import Derived.Test.YtnpkfhnhcadgeaaDoorIn8
namespace Go.Proofs.YtnpkfhnhcadgeaaDoor
open Go.RowKit
set_option linter.unusedVariables false
set_option linter.unusedSimpArgs false
set_option maxRecDepth 100000
set_option maxHeartbeats 1000000 in
theorem bytes_anyC {N : List Nat} {R : Ending → World → Prop} {w : World} {g : Nat} {A : Option Addr} {n c : Nat} {l : List UInt8} {err : Int} (he : EyeR w g N A n c l err) (k : Int)
    (h : ∀ A' n' c' B m cB w', (∀ b ∈ bks A', b ∈ bks A) → EyeR w' g N A' n' c' (takeM (l, err) k (decide (0 ≤ k))).2.1 (takeM (l, err) k (decide (0 ≤ k))).2.2 → Rd w' [] B (bts (takeM (l, err) k (decide (0 ≤ k))).1) → (takeM (l, err) k (decide (0 ≤ k))).1.length = m → m ≤ cB → Kp [g] w w' → R (.returned (.slice B m cB)) w') :
    Calls Tryd.prog 21 #[.pointer (some ⟨g, 0, none⟩), .int .i64 k] w R := by
  have H := Lib.hid h
  clear h
  have HT : Hid (∀ (R : Ending → World → Prop), (∀ A' n' c' B m cB w', (∀ b ∈ bks A', b ∈ bks A) → EyeR w' g N A' n' c' (takeM (l, err) k (decide (0 ≤ k))).2.1 (takeM (l, err) k (decide (0 ≤ k))).2.2 → Rd w' (g :: N) B (bts (takeM (l, err) k (decide (0 ≤ k))).1) → (takeM (l, err) k (decide (0 ≤ k))).1.length = m → m ≤ 1000000 → Kp [g] w w' → R (.returned (.slice B m cB)) w') → Calls Tryd.prog 38 #[.pointer (some ⟨g, 0, none⟩), .int .i64 k, .bool (decide (0 ≤ k))] w R) := Lib.hid fun R h => take_anyB he k _ (fun h => of_decide_eq_true h) h
  generalize takeM (l, err) k (decide (0 ≤ k)) = st at *
  go_enter Tryd.func21, Tryd.ntmps21
  go_wp2_with (first | (go_at_call 38; ((with_reducible refine HT.out _ ?_); intro A1 n1 c1 B m cB w1 hbA he1 hr1 hl1 hm1 hk1)) | (go_at_call 37; ((refine clone_any hr1 hl1 (by omega) ?_); intro A2 c2 w2 hA2 ho2 hk2)))
  exact H.out _ _ _ A2 m c2 w2 hbA (he1.kp hk2) (ho2.rd (by simp)) hl1 ho2.ncap (hk1.thn hk2 (by simp))

section
variable {R : Ending → World → Prop} {w w' w0 : World} {g : Nat} {l : List UInt8}
theorem ebytesC_any (hp : Hid (Ey w0 w g l)) (k : Nat) (hl : k ≤ l.length) (h : ∀ B cB w', Kp [g] w w' → Hid (Ey w0 w' g (l.drop k)) → Rd w' [] B (bts (l.take k)) → k ≤ cB → R (.returned (.slice B k cB)) w') :
    Calls Tryd.prog 21 #[.pointer (some ⟨g, 0, none⟩), .int .i64 k] w R := by
  obtain ⟨A, n, c, he, hA⟩ := hp.out.x
  have hw : decide (0 ≤ (k : Int)) = true := by simp
  refine bytes_anyC he k (fun A' n' c' B m cB w' hb he' hr hm hmc hk => ?_)
  rw [hw, takeM_ok hl] at he' hr hm
  have hmk : m = k := by rw [← hm]; simp; omega
  subst hmk
  exact h B cB w' hk (Lib.hid ⟨hp.out.k.thn hk (fun s hs => .inr (by simp at hs; subst hs; exact hp.out.g0)), hp.out.g0, A', n', c', he', fun b hb' => hA b (hb b hb')⟩) hr hmc
theorem ebytes24_any (hp : Hid (Ey w0 w g l)) (hl : 24 ≤ l.length) (h : ∀ B cB w', Kp [g] w w' → Hid (Ey w0 w' g (l.drop 24)) → Rd w' [] B (bts (l.take 24)) → 24 ≤ cB → R (.returned (.slice B 24 cB)) w') :
    Calls Tryd.prog 21 #[.pointer (some ⟨g, 0, none⟩), .int .i64 24] w R := ebytesC_any hp 24 hl h
end
def lenD (q : List UInt8) (k : Nat) : Nat := min (numB ((q.drop (2 + 27 * k)).take 1)) 24
def nameD (q : List UInt8) (k : Nat) : List UInt8 := ((q.drop (2 + 27 * k + 1)).take 24).take (lenD q k)
def inoD (q : List UInt8) (k : Nat) : Nat := numB ((q.drop (2 + 27 * k + 25)).take 2)
def entsP (q : List UInt8) : Nat → List (List UInt8 × Int)
  | 0 => []
  | k + 1 => entsP q k ++ [(nameD q k, (inoD q k : Int))]
def cntD (q : List UInt8) : Nat := min (numB ((q.drop 1).take 1)) 8
theorem entsP_len (q : List UInt8) : ∀ k, (entsP q k).length = k
  | 0 => rfl
  | k + 1 => by simp [entsP, entsP_len q k]
theorem entsP_short (q : List UInt8) : ∀ k, ∀ e ∈ entsP q k, e.1.length ≤ 24
  | 0 => by simp [entsP]
  | k + 1 => by
    intro e he
    simp only [entsP, List.mem_append, List.mem_cons, List.not_mem_nil, or_false] at he
    rcases he with he | rfl
    · exact entsP_short q k e he
    · simp only [nameD, List.length_take]; omega
/-- Is it a directory's block? -/
def isDir (l : List UInt8) : Prop := l.length = 256 ∧ goodB l = true ∧ dirB (entsP (l.take 254) (cntD (l.take 254))) = true ∧ l = sealB (dirT (entsP (l.take 254) (cntD (l.take 254))))
theorem elt_ent : Elt Tryd.prog 30 65 (.agg #[.string ByteArray.empty, .int .i64 0]) 2 24 := ⟨Tryd.underlying30, by kernel_rfl, rfl, by decide, by decide⟩
theorem eV_one (e : List UInt8 × Int) : ∀ u ∈ eV e, u.oneCell' = true := by intro u hu; simp [eV] at hu; rcases hu with rfl | rfl <;> rfl
/-- ParseDir's round. -/
structure LpD (W w : World) (g : Nat) (q : List UInt8) (k m : Nat) (A : Option Addr) (c : Nat) : Prop where
  ey : Ey W w g (q.drop m)
  ow : Ow w 65 2 A k c ((entsP q k).flatMap eV)
  fr : ∀ b ∈ bks A, g < b
theorem LpD.num {W w w' : World} {g k m m' c : Nat} {q : List UInt8} {A : Option Addr} (h : LpD W w g q k m A c) (hk : Kp [g] w w') (he : Ey W w' g (q.drop m')) : LpD W w' g q k m' A c :=
  ⟨he, h.ow.kp hk (fun b hb => by have := h.fr b hb; simp; omega), h.fr⟩
theorem LpD.kp {W w w' : World} {g k m c : Nat} {q : List UInt8} {A : Option Addr} (h : LpD W w g q k m A c) (hk : Kp [] w w') : LpD W w' g q k m A c := ⟨h.ey.kp hk, h.ow.kp hk (by simp), h.fr⟩
theorem LpD.app {W w w5 : World} {g k m c c' : Nat} {q : List UInt8} {A A' : Option Addr} (h : LpD W w g q k m A c) (o : Obj)
    (ho : Ow w5 65 2 A' (k + 1) c' ((entsP q k).flatMap eV ++ eV (nameD q k, (inoD q k : Int)))) (hk : Kp (bks A) (w.alloc o) w5) (hA : A' = A ∨ A' = some ⟨(w.alloc o).heap.size, 0, none⟩) :
    LpD W w5 g q (k + 1) m A' c' := by
  obtain ⟨_, _, _, he, _⟩ := h.ey.x
  have hgl := he.bk.lt
  have hf : ∀ b ∈ bks A', g < b := by
    intro b hb
    rcases hA with rfl | rfl
    · exact h.fr b hb
    · simp [bks] at hb
      omega
  exact ⟨(h.ey.kp ((Kp.refl [] w).alloc o)).thn hk (fun s hs => h.fr s hs), ho.cast rfl (by simp [entsP]), hf⟩
section
variable {R : Ending → World → Prop} {w w' w0 : World} {g : Nat} {l : List UInt8}
set_option maxHeartbeats 8000000 in
theorem pdir_any {A : Option Addr} {n c : Nat} (hr : Rd w [] A (bts l)) (hl : l.length = n) (hn : n ≤ 65536) (hc : n ≤ c) (hm : Ml w)
    (h0 : ¬ isDir l → ∀ e w', e ≠ 0 → Kp [] w w' → R (.returned (.tuple #[.slice none 0 0, .int .i64 e])) w')
    (h1 : isDir l → ∀ A' c' w', Hid (Kp [] w w' ∧ Ow w' 65 2 A' (cntD (l.take 254)) c' ((entsP (l.take 254) (cntD (l.take 254))).flatMap eV) ∧ ∀ b ∈ bks A', w.heap.size ≤ b) → R (.returned (.tuple #[.slice A' (cntD (l.take 254)) c', .int .i64 0])) w') :
    Calls Tryd.prog 7 #[.slice A n c] w R := by
  have H0 := Lib.hid h0
  have H1 := Lib.hid h1
  have HR := Lib.hid hr
  have HL := Lib.hid hl
  have HOp : Hid (∀ (R : Ending → World → Prop), (∀ e w', e ≠ 0 → Hid (¬ isDir l) → Kp [] w w' → R (.returned (.tuple #[.pointer none, .int .i64 e])) w') → (Hid (l.length = 256 ∧ goodB l = true) → ∀ g w', Hid (Ey w w' g (l.take 254)) → R (.returned (.tuple #[.pointer (some ⟨g, 0, none⟩), .int .i64 0])) w') → Calls Tryd.prog 20 #[.slice A n c] w R) := Lib.hid (fun R h0 h1 => iopen_any hr hl hn hc (fun e w' he h5 h6 k => h0 e w' he (Lib.hid (fun hi => by
    have h7 := h6 (by have := hi.1; omega)
    rw [hi.2.1] at h7; cases h7.2)) k) (fun h5 h6 => h1 (Lib.hid ⟨by omega, h6⟩)))
  clear h0 h1 hr hl
  go_enter Tryd.func7, Tryd.ntmps7
  go_upto_if 17 with (go_at_call 20; (refine HOp.out _ (fun e w2 he hni k2 => ?_) (fun hg g w2 h2 => ?_); (have he0 : (e != 0) = true := by simpa using he); rotate_left))
  rotate_left
  · clear he0
    go_wp2
    exact H0.out hni.out e _ he k2
  have HQ : Hid (l.length = 256 ∧ goodB l = true) := hg
  clear hg HOp
  obtain ⟨q, hq⟩ : ∃ q, l.take 254 = q := ⟨_, rfl⟩
  rw [hq] at h2
  have HQL : Hid (q.length = 254) := Lib.hid (by rw [← hq, List.length_take, HQ.out.1]; rfl)
  have HQQ := Lib.hid hq
  clear hq
  have HA1 : Hid (∀ (R : Ending → World → Prop), (∀ v w', Hid (Ey w w' g (q.drop 1)) → R (.returned (.int .u64 v)) w') → Calls Tryd.prog 22 #[.pointer (some ⟨g, 0, none⟩), .int .i64 1] w2 R) := Lib.hid (fun R h => enum1_any h2 (by rw [HQL.out]; decide) (fun w' k h' => h _ w' h'))
  go_upto_region 6 with (go_at_call 22; (refine HA1.out _ ?_; intro v3 w3 h3))
  obtain ⟨n0, hn0⟩ : ∃ n0, numB ((q.drop 1).take 1) = n0 := ⟨_, rfl⟩
  have hn0l : n0 < 256 := by rw [← hn0]; exact numB_lt' (k := 1) (by simp; omega)
  have H1n : Hid (∀ (R : Ending → World → Prop), (∀ w', Hid (LpD w w' g q 0 2 none 0) → R (.returned (.int .u64 n0)) w') → Calls Tryd.prog 22 #[.pointer (some ⟨g, 0, none⟩), .int .i64 1] w3 R) := Lib.hid (fun R h => enum1_any h3 (by rw [List.length_drop, HQL.out]; decide) (fun w' k h' => by
    rw [List.drop_drop] at h'
    rw [hn0]
    exact h w' (Lib.hid ⟨h'.out, Ow.nil, by simp [bks]⟩)))
  have HN0 := Lib.hid hn0
  clear hn0
  go_wp2_with (go_at_call 22; (refine H1n.out _ ?_; intro w7 h7))
  obtain ⟨N, hN⟩ : ∃ N : Nat, min (n0 : Int) 8 = N := ⟨min n0 8, by omega⟩
  rw [hN]
  have hN4 : N ≤ 8 := by omega
  have HN : Hid (cntD q = N) := Lib.hid (by unfold cntD; rw [HN0.out]; omega)
  clear hN hn0l H1n HN0 h3 h2 HA1
  go_loopw [6, 24] (fun lv jv wr => ∃ k : Nat, k ≤ N ∧ jv = .int .u64 k ∧ ∃ A c, lv = .slice A k c ∧ Hid (LpD w wr g q k (2 + 27 * k) A c)) (fun _ jv _ => N - (intOf jv).toNat)
  case atStart => exact ⟨0, Nat.zero_le _, rfl, none, 0, rfl, h7⟩
  case round =>
    obtain ⟨k, hk, rfl, A2, c2, rfl, hS⟩ := hrel
    by_cases hlt : k < N
    · go_upto_region 8 with (fail)
      obtain ⟨x0, hx0⟩ : ∃ x, numB ((q.drop (2 + 27 * k)).take 1) = x := ⟨_, rfl⟩
      obtain ⟨d, hd⟩ : ∃ d : Nat, min (x0 : Int) 24 = d := ⟨min x0 24, by omega⟩
      have hd24 : d ≤ 24 := by omega
      have hwd : IntKind.i64.wrap (d : Int) = d := by rw [IntKind.wrap_i64]; omega
      have HDL : Hid (lenD q k = d) := Lib.hid (by unfold lenD; rw [hx0]; omega)
      have HE1 : Hid (∀ (R : Ending → World → Prop), (∀ w', Hid (LpD w w' g q k (2 + 27 * k + 1) A2 c2) → R (.returned (.int .u64 x0)) w') → Calls Tryd.prog 22 #[.pointer (some ⟨g, 0, none⟩), .int .i64 1] wr R) := Lib.hid (fun R h => enum1_any (Lib.hid hS.out.ey) (by rw [List.length_drop, HQL.out]; omega) (fun w' k' h' => by
        rw [List.drop_drop] at h'
        rw [hx0]
        exact h w' (Lib.hid (hS.out.num k' h'.out))))
      clear hx0
      go_upto_region 9 with (go_at_call 22; (refine HE1.out _ ?_; intro w9 h9))
      have HE2 : Hid (∀ (R : Ending → World → Prop), (∀ B cB w' B2, Hid (LpD w w' g q k (2 + 27 * k + 25) A2 c2) → (∀ W, (Instr.slice 29 (.slice B 24 cB) none (some (.int .i64 d)) none).run Tryd.prog W = .ok (.slice B2 d cB) W) → (convert 29 9 (.slice B2 d cB)).run Tryd.prog w' = .ok (.string (S (nameD q k))) w' → R (.returned (.slice B 24 cB)) w') → Calls Tryd.prog 21 #[.pointer (some ⟨g, 0, none⟩), .int .i64 24] w9 R) := Lib.hid (fun R h => ebytes24_any (Lib.hid h9.out.ey) (by rw [List.length_drop, HQL.out]; omega) (fun B cB w' k' h' r' hcB => by
        rw [List.drop_drop] at h'
        have hl24 : ((q.drop (2 + 27 * k + 1)).take 24).length = 24 := by rw [List.length_take, List.length_drop, HQL.out]; omega
        obtain ⟨B2, hB2, hr2, _⟩ := slice_toB r' hl24 hcB d (by omega)
        have hnm : nameD q k = ((q.drop (2 + 27 * k + 1)).take 24).take d := by unfold nameD; rw [HDL.out]
        refine h B cB w' B2 (Lib.hid (h9.out.num k' h'.out)) hB2 ?_
        rw [hnm]
        exact conv_bs hr2 (by rw [List.length_take, hl24]; omega)))
      go_upto_region 10 with (go_at_call 21; (refine HE2.out _ ?_; intro B cB w10 B2 h10 hsl hcv))
      obtain ⟨V, hV⟩ : ∃ V, inoD q k = V := ⟨_, rfl⟩
      have hVl : V < 65536 := by rw [← hV]; exact numB_lt' (k := 2) (by simp; omega)
      have hwr : IntKind.i64.wrap (V : Int) = V := by rw [IntKind.wrap_i64]; omega
      have HE3 : Hid (∀ (R : Ending → World → Prop), (∀ w', Hid (LpD w w' g q k (2 + 27 * (k + 1)) A2 c2) → R (.returned (.int .u64 V)) w') → Calls Tryd.prog 22 #[.pointer (some ⟨g, 0, none⟩), .int .i64 2] w10 R) := Lib.hid (fun R h => enum2_any (Lib.hid h10.out.ey) (by rw [List.length_drop, HQL.out]; omega) (fun w' k' h' => by
        have e : numB ((q.drop (2 + 27 * k + 25)).take 2) = V := hV
        rw [List.drop_drop] at h'
        rw [e]
        exact h w' (Lib.hid (h10.out.num k' h'.out))))
      have HV := Lib.hid hV
      obtain ⟨nm, hnm⟩ : ∃ nm, nameD q k = nm := ⟨_, rfl⟩
      rw [hnm]
      have HNm := Lib.hid hnm
      clear hV hnm hsl hcv HE1 HE2 hd hwd
      go_wp2_with (first | (go_at_call 22; (refine HE3.out _ ?_; intro w11 h11)) | (at_builtin; refine wpList_app _ rfl (.tmp 35) (.tmp 41) _ rfl elt_ent A2 k c2 _ rfl (h11.out.ow.alloc _) [] (some ⟨w11.heap.size, 0, none⟩) 1 1 (eV (nm, (V : Int))) rfl (Rd.of_bk (Bk.newAt rfl _ _) (by simp)) rfl (eV_one _) (by omega) ?_; intro A3 c3 w5 ho5 hk5 hA5))
      exact ⟨⟨k + 1, by omega, by go_num, A3, c3, rfl, Lib.hid (h11.out.app _ (by rw [HNm.out, HV.out]; exact ho5) hk5 hA5)⟩, by simp [intOf]; omega⟩
    · obtain rfl : k = N := by omega
      have HP : Hid (∀ (R : Ending → World → Prop), (∀ e a A3 m3 c3 w', Hid (Kp [] wr w' ∧ Rd w' [] A3 (bts a) ∧ a.length = m3 ∧ ((e = 0 ∧ dirB (entsP q k) = true ∧ a = sealB (dirT (entsP q k))) ∨ (e = 1 ∧ dirB (entsP q k) = false))) → R (.returned (.tuple #[.slice A3 m3 c3, .int .i64 e])) w') → Calls Tryd.prog 11 #[.slice A2 k c2] wr R) := Lib.hid (fun R h => packd_any (hS.out.ow.rd (by simp)) (entsP_len q k) (by omega) (hm.kp hS.out.ey.k) (fun hb w' k' => h 1 [] none 0 0 w' (Lib.hid ⟨k', Rd.nil, rfl, .inr ⟨rfl, hb⟩⟩)) (fun hb A' c' w' h' => h 0 _ A' 256 c' w' (Lib.hid ⟨h'.out.1, h'.out.2.1.rd (by simp), sealB_len (by unfold dirT; simp only [List.length_append, List.length_cons, List.length_nil, putL_len, dirT_len (entsP_short q k), entsP_len]; omega), .inl ⟨rfl, hb, rfl⟩⟩)))
      go_upto_region 13 with (go_at_call 11; (refine HP.out _ ?_; intro e2 a A3 m3 c3 w8 h8))
      have HS2 : Hid (∀ (R : Ending → World → Prop), (∀ f, Hid ((f = 0 ∧ e2 = 0 ∧ l = a) ∨ (f = 50 ∧ ¬ (e2 = 0 ∧ l = a))) → R (.returned (.int .i64 f)) w8) → Calls Tryd.prog 23 #[.slice A n c, .slice A3 m3 c3, .int .i64 e2] w8 R) := Lib.hid (fun R h => same_any (HR.out.kp (hS.out.ey.k.trans h8.out.1) (by simp)) h8.out.2.1 HL.out h8.out.2.2.1 h)
      have hHS := hS
      clear HP hS
      go_upto_region 14 with (go_at_call 23; (refine HS2.out _ ?_; intro f hf))
      have hH8 := h8
      clear h8
      rcases hf.out with ⟨rfl, hyes⟩ | ⟨rfl, hno⟩
      · have HY := Lib.hid hyes
        clear hyes hf
        go_wp2
        have H2 := H1.out
        rw [HQQ.out, HN.out] at H2
        refine H2 ?_ A2 c2 _ (Lib.hid ⟨hHS.out.ey.k.trans hH8.out.1, hHS.out.ow.kp hH8.out.1 (by simp), fun b hb => by have := hHS.out.fr b hb; have := hHS.out.ey.g0; omega⟩)
        unfold isDir
        rw [HQQ.out, HN.out]
        rcases hH8.out.2.2.2 with ⟨_, hb, hs⟩ | ⟨h1, _⟩
        · exact ⟨HQ.out.1, HQ.out.2, hb, HY.out.2.trans hs⟩
        · exact absurd (h1.symm.trans HY.out.1) (by decide)
      · have HY := Lib.hid hno
        clear hno hf
        go_wp2
        refine H0.out (fun hi => ?_) 50 _ (by decide) (hHS.out.ey.k.trans hH8.out.1)
        unfold isDir at hi
        rw [HQQ.out, HN.out] at hi
        rcases hH8.out.2.2.2 with ⟨h0, _, hs⟩ | ⟨_, hb⟩
        · exact HY.out ⟨h0, hi.2.2.2.trans hs.symm⟩
        · rw [hi.2.2.1] at hb; cases hb
end
end Go.Proofs.YtnpkfhnhcadgeaaDoor
