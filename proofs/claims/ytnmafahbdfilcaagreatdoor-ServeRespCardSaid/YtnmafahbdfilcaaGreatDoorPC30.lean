/- The document's Next. -/
import Derived.Test.YtnmafahbdfilcaaGreatDoorPC25
import Derived.Test.YtnmafahbdfilcaaGreatDoorPC18
import Derived.Test.YtnmafahbdfilcaaGreatDoorPC26
import Derived.Test.YtnmafahbdfilcaaGreatDoorPC29
import Derived.Deep.CutBlock
import Derived.Deep.DeepCutAuto
namespace Go.Proofs.YtnmafahbdfilcaaGreatDoor
/-! ### The document's Next. -/
section
open Go.RowKit Go.Shelf
set_option linter.unusedVariables false
set_option linter.unusedSimpArgs false
set_option maxRecDepth 100000
theorem put5 {w2 : World} {rb tt : Nat} {a0 a1 a2 a3 a4 : Value} (br : Bk w2 rb tt [a0, a1, a2, a3, a4]) (b0 b1 b2 b3 b4 : Value) :
    ∃ W', (((((w2.setCell ⟨rb, 0, none⟩ b0).setCell ⟨rb, 1, none⟩ b1).setCell ⟨rb, 2, none⟩ b2).setCell ⟨rb, 3, none⟩ b3).setCell ⟨rb, 4, none⟩ b4) = W' ∧ Kp [rb] w2 W' ∧ Bk W' rb tt [b0, b1, b2, b3, b4] :=
  ⟨_, rfl, (((((Kp.refl _ _).setCell (.inl (by simp)) _).setCell (.inl (by simp)) _).setCell (.inl (by simp)) _).setCell (.inl (by simp)) _).setCell (.inl (by simp)) _, (((((br.set_ 0 _).set_ 1 _).set_ 2 _).set_ 3 _).set_ 4 _).cast rfl⟩
theorem elt_fd24 : Elt Tryz.prog 22 80 (.agg #[.string ByteArray.empty, .string ByteArray.empty]) 2 32 := ⟨Tryz.underlying22, by kernel_rfl, rfl, by decide, by decide⟩
theorem fd_rd24 {w : World} {g : Nat} (hg : g = w.heap.size) {a b : List UInt8} : Rd (w.alloc (.cells #[.string (S a), .string (S b)] 80)) [] (some ⟨g, 0, none⟩) (fldC (a, b)) := Rd.of_bk (Bk.newAt hg _ _) (by simp)
def zero5 : List Value := [.string ⟨#[]⟩, .string ⟨#[]⟩, .int .i64 0, .slice none 0 0, .bool false]
/-- What is made: the result's struct, and the one that grows. -/
structure NxS (w W : World) (g2 g16 : Nat) (m t : List UInt8) (mi : Int) (A : Option Addr) (c : Nat) (fs : List Fd) : Prop where
  kp : Kp [] w W
  hg : w.heap.size ≤ g2 ∧ g2 < g16
  b2 : Bk W g2 24 [.string ⟨#[]⟩, .string ⟨#[]⟩, .int .i64 0, .slice none 0 0, .bool false]
  b16 : Bk W g16 24 [.string (S m), .string (S t), .int .i64 mi, .slice A fs.length c, .bool false]
  own : Ow W 80 2 A fs.length c (fs.flatMap fldC)
  fresh : ∀ b ∈ bks A, g16 < b
theorem NxS.keep {w W W' : World} {g2 g16 : Nat} {m t : List UInt8} {mi : Int} {A : Option Addr} {c : Nat} {fs : List Fd} (h : NxS w W g2 g16 m t mi A c fs) (k : Kp [] W W') : NxS w W' g2 g16 m t mi A c fs :=
  ⟨h.kp.trans k, h.hg, h.b2.kp k (by simp), h.b16.kp k (by simp), h.own.kp k (by simp), h.fresh⟩
theorem NxS.app {w W w3 : World} {g2 g16 : Nat} {m t : List UInt8} {mi : Int} {A A3 : Option Addr} {c c3 : Nat} {fs : List Fd} (h : NxS w W g2 g16 m t mi A c fs) (o : Obj) (x : Fd)
    (ho : Ow w3 80 2 A3 (fs.length + 1) c3 (fs.flatMap fldC ++ fldC x)) (hk : Kp (bks A) (W.alloc o) w3) (hA : A3 = A ∨ A3 = some ⟨(W.alloc o).heap.size, 0, none⟩) :
    (w3.cell? ⟨g16, 3, none⟩ = some (.slice A fs.length c) ∧ w3.frozen? ⟨g16, 3, none⟩ = false) ∧ NxS w (w3.setCell ⟨g16, 3, none⟩ (.slice A3 (fs.length + 1) c3)) g2 g16 m t mi A3 c3 (fs ++ [x]) := by
  obtain ⟨g0, g1⟩ := h.hg
  have n4 : g16 ∉ bks A := fun hm => by have := h.fresh _ hm; omega
  have n2 : g2 ∉ bks A := fun hm => by have := h.fresh _ hm; omega
  have b4 := (h.b16.alloc o).kp hk n4
  have b2 := (h.b2.alloc o).kp hk n2
  have h4 := h.b16.lt
  have hf : ∀ b ∈ bks A3, g16 < b := by
    rcases hA with rfl | rfl
    · exact h.fresh
    · intro b hb; simp [bks] at hb; omega
  have k : Kp [g16] w3 (w3.setCell ⟨g16, 3, none⟩ (.slice A3 (fs.length + 1) c3)) := (Kp.refl _ _).setCell (.inl (by simp)) _
  refine ⟨⟨b4.cell 3, b4.frozen 3⟩, ((h.kp.alloc o).thn hk (fun s hs => .inr (by have := h.fresh s hs; omega))).setCell (.inr (by simp; omega)) _, h.hg, b2.kp k (by simp; omega), ((b4.set_ 3 _).cast ?_), (ho.kp k (fun b hb => by have := hf b hb; simp; omega)).cast (by simp) (by simp), hf⟩
  simp
theorem NxS.minor {w W : World} {g2 g16 : Nat} {m t : List UInt8} {mi : Int} {A : Option Addr} {c : Nat} {fs : List Fd} (h : NxS w W g2 g16 m t mi A c fs) (n : Int) : NxS w (W.setCell ⟨g16, 2, none⟩ (.int .i64 n)) g2 g16 m t n A c fs := by
  obtain ⟨g0, g1⟩ := h.hg
  have k : Kp [g16] W (W.setCell ⟨g16, 2, none⟩ (.int .i64 n)) := (Kp.refl _ _).setCell (.inl (by simp)) _
  exact ⟨h.kp.setCell (.inr (by simp; omega)) _, h.hg, h.b2.kp k (by simp; omega), (h.b16.set_ 2 _).cast rfl, h.own.kp k (fun b hb => by have := h.fresh b hb; simp; omega), h.fresh⟩
/-- A row that lies below what is written stays. -/
theorem Rd.low {w w' : World} {S N N' : List Nat} {b off g : Nat} {xs : List Value} (h : Rd w N (some ⟨b, off, none⟩) xs) (hb : b < g) (hS : ∀ s ∈ S, g ≤ s) (hN : ∀ s ∈ N', g ≤ s) (k : Kp S w w') : Rd w' N' (some ⟨b, off, none⟩) xs := fun hx => by
  obtain ⟨b', off', e, hn, hlt, hc⟩ := h hx
  injection e with e
  injection e with e1 e2
  subst e1; subst e2
  exact ⟨b, off, rfl, fun hm => by have := hN _ hm; omega, Nat.lt_of_lt_of_le hlt k.size, fun j u hu => by rw [k.cell (p := ⟨b, off + j, none⟩) hlt (fun hm => by have := hS b hm; omega)]; exact hc j u hu⟩
/-- The lines of a head are its own bytes. -/
theorem headG_mem : ∀ {f : Nat} {ls : List (List UInt8)} {s : List UInt8} {xs : List (List UInt8)} {r : List UInt8}, headG f ls s = (xs, r, 0) → ∀ x ∈ xs, x ∈ ls ∨ x.length ≤ s.length := by
  intro f
  induction f with
  | zero => intro ls s xs r h; simp [headG] at h
  | succ f ih =>
    intro ls s xs r h x hx
    rw [headG] at h
    cases hl : lineL s with
    | wrong => simp [hl] at h
    | more => simp [hl] at h
    | got l a =>
      have := lineL_len hl
      rw [hl] at h
      simp only at h
      split at h
      · rcases ih h x hx with h1 | h1
        · rcases List.mem_append.1 h1 with h2 | h2
          · exact .inl h2
          · simp at h2; subst h2; exact .inr (by omega)
        · exact .inr (by omega)
      · split at h
        · injection h with h1 _; subst h1; exact .inl hx
        · rcases ih h x hx with h1 | h1
          · exact .inl h1
          · exact .inr (by omega)
section
variable {R : Ending → World → Prop} {w : World}
set_option maxHeartbeats 16000000 in
theorem rnext_any (s : List UInt8) (hl : s.length ≤ 1000)
    (h0 : ∀ st, (nextF s).2.1 = st → st ≠ 0 → ∀ w', Kp [] w w' → R (.returned (.tuple #[.agg #[.string ⟨#[]⟩, .string ⟨#[]⟩, .int .i64 0, .slice none 0 0, .bool false], .int .i64 0, .int .i64 st])) w')
    (h1 : ∀ r rest, nextF s = (r, 0, rest, false) → rest.length ≤ s.length → ∀ A c w', Kp [] w w' → Rd w' [] A (r.fs.flatMap fldC) → r.fs.length ≤ c → R (.returned (.tuple #[.agg #[.string (S r.m), .string (S r.t), .int .i64 r.minor, .slice A r.fs.length c, .bool r.close], .int .i64 ((s.length : Int) - rest.length), .int .i64 0])) w') :
    Calls Tryz.prog 36 #[.string (S s)] w R := by
  have H0 := Lib.hid h0
  have H1 := Lib.hid h1
  have HNx : Hid (nextF s = match headG (s.length + 1) [] s with | (ls, rest, st) => if st < 0 then (noReq, st, s, false) else if st = 0 then (if (ofF ls).2 = 0 then ((ofF ls).1, 0, rest, false) else (noReq, (ofF ls).2, [], true)) else (noReq, st, [], true)) := Lib.hid (next_G (b := s) (by omega) (s.length + 1) (by omega))
  obtain ⟨G, hG⟩ : ∃ G, headG (s.length + 1) [] s = G := ⟨_, rfl⟩
  rw [hG] at HNx
  have HG0 := Lib.hid hG.symm
  have HGe := Lib.hid hG
  clear h0 h1 hG
  go_enter Tryz.func36, Tryz.ntmps36
  go_upto_region 1 with (fail)
  refine gen_worldC (fun W => ∃ g2, w.heap.size = g2 ∧ Hid (Kp [] w W ∧ Bk W g2 24 [.string ⟨#[]⟩, .string ⟨#[]⟩, .int .i64 0, .slice none 0 0, .bool false])) ⟨_, rfl, Lib.hid ⟨(Kp.refl _ _).alloc _, (Bk.new' _ _ _).cast rfl⟩⟩ ?_
  rintro W ⟨g2, hg2, hW⟩
  rw [hg2]
  have HG2 : Hid (w.heap.size ≤ g2) := Lib.hid (by omega)
  clear hg2
  go_upto_block 0 with (fail)
  go_cut [5, 6] from 29 (fun a b W' => ∃ A c l ls rest, a = .slice A (ls.length + 1) c ∧ b = .string (S rest) ∧ rest.length ≤ s.length ∧ ls.length ≤ s.length ∧ Hid (G = (l :: ls, rest, 0)) ∧ Hid (Kp [] w W' ∧ Bk W' g2 24 [.string ⟨#[]⟩, .string ⟨#[]⟩, .int .i64 0, .slice none 0 0, .bool false] ∧ Rd W' [] A (strs (l :: ls))))
  case first =>
    as_aux_lemma =>
      go_wp2
      go_loopw [5, 6] (fun av bv wr => ∃ (A : Option Addr) (c : Nat) (ls : List (List UInt8)) (cur : List UInt8), av = .slice A ls.length c ∧ bv = .string (S cur) ∧ ls.length + cur.length ≤ s.length ∧ Hid (G = headG (cur.length + 1) ls cur) ∧ Ow wr 9 1 A ls.length c (strs ls) ∧ (∀ b ∈ bks A, g2 < b) ∧ Hid (Kp [] w wr ∧ Bk wr g2 24 [.string ⟨#[]⟩, .string ⟨#[]⟩, .int .i64 0, .slice none 0 0, .bool false])) (fun _ bv _ => strLen1 bv)
      case atStart => exact ⟨none, 0, [], s, rfl, rfl, by simp, HG0, Ow.nil, by simp [bks], hW⟩
      case round =>
        obtain ⟨A, c, ls, cur, rfl, rfl, hlc, hg, ho, hA, hr⟩ := hrel
        have hcl : cur.length ≤ 1000 := by omega
        have HLn : Hid (∀ (R : Ending → World → Prop) (w : World), (∀ w', Kp [] w w' → R (.returned (lineV cur (lineL cur))) w') → Calls Tryz.prog 50 #[.string (S cur)] w R) := Lib.hid (fun R w h => rline_any cur (by omega) h)
        have hgu := hg.out
        rw [headG] at hgu
        cases hln : lineL cur with
        | wrong =>
          rw [hln] at HLn hgu
          simp only [lineV] at HLn
          have HE : Hid ((nextF s).2.1 = 400) := Lib.hid (by rw [HNx.out, hgu]; rfl)
          clear hgu hg
          obtain ⟨⟨c0, c1, c2, c3, c4⟩, ⟨f0, f1, f2, f3, f4⟩⟩ := bk5 hr.out.2
          go_wp2_with (go_at_call 50; ((refine HLn.out _ _ ?_); intro w3 k3; have bb := hr.out.2.kp k3 (by simp); obtain ⟨⟨d0, d1, d2, d3, d4⟩, ⟨e0, e1, e2, e3, e4⟩⟩ := bk5 bb))
          obtain ⟨W', hW', kW, bW⟩ := put5 (bb) (.string ⟨#[]⟩) (.string ⟨#[]⟩) (.int .i64 0) (.slice none 0 0) (.bool false)
          rw [hW']
          obtain ⟨⟨z0, z1, z2, z3, z4⟩, _⟩ := bk5 bW
          exact bodyPost_ret (v := .tuple #[.agg #[.string ⟨#[]⟩, .string ⟨#[]⟩, .int .i64 0, .slice none 0 0, .bool false], .int .i64 0, .int .i64 (400)]) (by simp [results, Tryz.results36, go_sem, z0, z1, z2, z3, z4]; try rfl) rfl (H0.out (400) (HE.out) (by decide) _ ((hr.out.1.trans k3).thn kW (fun s hs => .inr (by have := HG2.out; simp at hs; omega))))
        | more =>
          rw [hln] at HLn hgu
          simp only [lineV] at HLn
          have HE : Hid ((nextF s).2.1 = -1) := Lib.hid (by rw [HNx.out, hgu]; rfl)
          have e24 : decide ((1024 : Int) ≤ s.length) = false := by simp; omega
          clear hgu hg
          obtain ⟨⟨c0, c1, c2, c3, c4⟩, ⟨f0, f1, f2, f3, f4⟩⟩ := bk5 hr.out.2
          go_wp2_with (go_at_call 50; ((refine HLn.out _ _ ?_); intro w3 k3; have bb := hr.out.2.kp k3 (by simp); obtain ⟨⟨d0, d1, d2, d3, d4⟩, ⟨e0, e1, e2, e3, e4⟩⟩ := bk5 bb))
          obtain ⟨W', hW', kW, bW⟩ := put5 (bb) (.string ⟨#[]⟩) (.string ⟨#[]⟩) (.int .i64 0) (.slice none 0 0) (.bool false)
          rw [hW']
          obtain ⟨⟨z0, z1, z2, z3, z4⟩, _⟩ := bk5 bW
          exact bodyPost_ret (v := .tuple #[.agg #[.string ⟨#[]⟩, .string ⟨#[]⟩, .int .i64 0, .slice none 0 0, .bool false], .int .i64 0, .int .i64 (-1)]) (by simp [results, Tryz.results36, go_sem, z0, z1, z2, z3, z4]; try rfl) rfl (H0.out (-1) (HE.out) (by decide) _ ((hr.out.1.trans k3).thn kW (fun s hs => .inr (by have := HG2.out; simp at hs; omega))))
        | got ln af =>
          rw [hln] at HLn hgu
          simp only [lineV] at HLn
          have hll := lineL_len hln
          have hsub : IntKind.i64.wrap ((s.length : Int) - af.length) = s.length - af.length := wrap_ok (by omega) (by omega)
          have e24 : decide ((1024 : Int) < (s.length : Int) - af.length) = false := by simp; omega
          simp only at hgu
          by_cases hn0 : ln = []
          · subst hn0
            rw [if_neg (by simp)] at hgu
            by_cases hl0 : ls = []
            · subst hl0
              rw [if_neg (by simp)] at hgu
              have HG : Hid (G = headG (af.length + 1) [] af) := Lib.hid (by rw [hgu]; exact headG_fuel _ _ _ _ (by simp at hll; omega) (by omega))
              clear hgu hg
              go_wp2_with (go_at_call 50; ((refine HLn.out _ _ ?_); intro w3 k3))
              exact ⟨⟨A, c, [], af, rfl, rfl, by simp at hll ⊢; omega, HG, ho.kp k3 (by simp), hA, Lib.hid ⟨hr.out.1.trans k3, hr.out.2.kp k3 (by simp)⟩⟩, by simp [strLen1, S_size]; simp at hll; omega⟩
            · rw [if_pos hl0] at hgu
              obtain ⟨l, ls', rfl⟩ : ∃ l ls', ls = l :: ls' := by cases ls with | nil => exact absurd rfl hl0 | cons l ls' => exact ⟨l, ls', rfl⟩
              have eg : decide ((0 : Int) < (ls'.length : Int) + 1) = true := decide_eq_true (by omega)
              have HG := Lib.hid hgu
              clear hgu hg
              go_wp2_with (go_at_call 50; ((refine HLn.out _ _ ?_); intro w3 k3))
              go_meet
              exact ⟨A, c, l, ls', af, by simp, rfl, by simp at hll; omega, by simp at hlc; omega, HG, Lib.hid ⟨hr.out.1.trans k3, hr.out.2.kp k3 (by simp), (ho.kp k3 (by simp)).rd (by simp)⟩⟩
          · rw [if_pos hn0] at hgu
            have en : ln.isEmpty = false := by simpa using hn0
            have HG : Hid (G = headG (af.length + 1) (ls ++ [ln]) af) := Lib.hid (by rw [hgu]; exact headG_fuel _ _ _ _ (by omega) (by omega))
            clear hgu hg
            go_wp2_with (first | (go_at_call 50; ((refine HLn.out _ _ ?_); intro w3 k3; have ho3 := ho.kp k3 (by simp))) | (at_builtin; refine wpList_app _ rfl (.tmp 63) (.tmp 65) _ rfl elt_str A ls.length c _ rfl (ho3.alloc _) [] (some ⟨w3.heap.size, 0, none⟩) 1 1 (strs [ln]) rfl app_one rfl (strs_one _) (by omega) ?_; intro A2 c2 w4 ho4 hk4 hA4))
            have e1 : ls.length + 1 = (ls ++ [ln]).length := by simp
            have hg2w : g2 < wr.heap.size := hr.out.2.lt
            exact ⟨⟨A2, c2, ls ++ [ln], af, by rw [e1], rfl, by rw [← e1]; omega, HG, ho4.cast e1 (strs_append _ _).symm, bks_app hA4 (fun b hb => hA b hb) (by have := k3.size; simp; omega), Lib.hid ⟨((hr.out.1.trans k3).alloc _).thn hk4 (fun x hx => .inr (by have := hA x hx; have := HG2.out; omega)), ((hr.out.2.kp k3 (by simp)).alloc _).kp hk4 (fun hm => by have := hA _ hm; omega)⟩⟩, by simp [strLen1, S_size]; omega⟩
  case rest =>
    obtain ⟨A, c, l, ls, rest, hx1, hx2, hrl, hll, hg, hk⟩ := hcut
    rw [hx1, hx2]
    clear hx1 hx2
    have HNy : Hid (nextF s = if (ofF (l :: ls)).2 = 0 then ((ofF (l :: ls)).1, 0, rest, false) else (noReq, (ofF (l :: ls)).2, [], true)) := Lib.hid (by rw [HNx.out, hg.out]; simp)
    have hmem := headG_mem (by have := HGe.out; rw [hg.out] at this; exact this)
    have hl1 : l.length ≤ 1000 := by have := (hmem l (by simp)).resolve_left (by simp); omega
    have HLm : Hid (∀ x ∈ ls, x.length ≤ 1000) := Lib.hid (fun x hx => by have := (hmem x (by simp [hx])).resolve_left (by simp); omega)
    have HSum : Hid ((ls.map List.length).sum ≤ 1000 ∧ ls.length ≤ 1000) := Lib.hid (by
      have h1 := headG_sum _ _ _ (by have := HGe.out; rw [hg.out] at this; exact this)
      have h2 : ∀ (xs : List (List UInt8)), (xs.map List.length).sum + xs.length ≤ (xs.map fun x => x.length + 2).sum := by
        intro xs
        induction xs with
        | nil => simp
        | cons x xs ih => simp only [List.map_cons, List.sum_cons, List.length_cons]; omega
      have h3 := h2 ls
      simp only [List.map_cons, List.sum_cons, List.map_nil, List.sum_nil] at h1
      omega)
    have HE : Hid (∀ st, st ≠ 0 → (ofF (l :: ls)).2 = st → (nextF s).2.1 = st) := Lib.hid (fun st h1 h2 => by rw [HNy.out, if_neg (by rw [h2]; exact h1)]; exact h2)
    clear HNx hg hmem HG0 HGe hW
    obtain ⟨W1, hW1⟩ : ∃ x, wc = x := ⟨_, rfl⟩
    rw [hW1] at hk ⊢
    clear hW1
    have hsub : IntKind.i64.wrap ((s.length : Int) - rest.length) = s.length - rest.length := wrap_ok (by omega) (by omega)
    have HRl := Lib.hid hk.out.2.2
    have hk0 := hk.out
    have HK : Hid (Kp [] w W1 ∧ Bk W1 g2 24 [.string ⟨#[]⟩, .string ⟨#[]⟩, .int .i64 0, .slice none 0 0, .bool false]) := Lib.hid ⟨hk0.1, hk0.2.1⟩
    clear hk hk0
    obtain ⟨b, off, rfl, _, hblt, hc⟩ := HRl.out (by simp [strs])
    have y0 : W1.cell? ⟨b, off, none⟩ = some (.string (S l)) := hc 0 _ rfl
    clear hc
    obtain ⟨⟨c0, c1, c2, c3, c4⟩, ⟨f0, f1, f2, f3, f4⟩⟩ := bk5 HK.out.2
    cases hfl : firstL l with
    | none =>
      have HFl := Lib.hid hfl
      have HEr : Hid ((nextF s).2.1 = 400) := Lib.hid (HE.out 400 (by decide) (by simp only [ofF, hfl]))
      clear hfl
      go_wp2_with (go_at_call 51; ((refine rline24_any l (by omega) (fun _ w3 k3 => ?_) (fun m t v x y e => by rw [HFl.out] at e; cases e)); have bb := HK.out.2.kp k3 (by simp); obtain ⟨⟨d0, d1, d2, d3, d4⟩, ⟨e0, e1, e2, e3, e4⟩⟩ := bk5 bb))
      obtain ⟨W', hW', kW, bW⟩ := put5 (bb) (.string ⟨#[]⟩) (.string ⟨#[]⟩) (.int .i64 0) (.slice none 0 0) (.bool false)
      rw [hW']
      obtain ⟨⟨z0, z1, z2, z3, z4⟩, _⟩ := bk5 bW
      exact bodyPost_ret (v := .tuple #[.agg #[.string ⟨#[]⟩, .string ⟨#[]⟩, .int .i64 0, .slice none 0 0, .bool false], .int .i64 0, .int .i64 (400)]) (by simp [results, Tryz.results36, go_sem, z0, z1, z2, z3, z4]; try rfl) rfl (H0.out (400) (HEr.out) (by decide) _ ((HK.out.1.trans k3).thn kW (fun s hs => .inr (by have := HG2.out; simp at hs; omega))))
    | some p =>
      obtain ⟨m, t, x5, x7⟩ := p
      have HFl := Lib.hid hfl
      have hof : ofF (l :: ls) = if x5 ≠ 49 then (noReq, 505) else if 128 < t.length then (noReq, 414) else match fieldsL ls with | none => (noReq, 400) | some fs => ofFs m t (if x7 = 48 then 0 else 1) fs := by simp only [ofF, hfl]; rfl
      have HOf := Lib.hid hof
      have hml := firstL_len hfl
      clear hfl hof
      have HLi : Hid (∀ (R : Ending → World → Prop), (∀ v w', v.length = 8 → Hid (v[5]? = some x5 ∧ v[7]? = some x7) → Kp [] W1 w' → R (.returned (.tuple #[.string (S m), .string (S t), .string (S v), .bool true])) w') → Calls Tryz.prog 51 #[.string (S l)] W1 R) := Lib.hid (fun R h => rline24_any l (by omega) (fun e => by rw [HFl.out] at e; cases e) (fun m' t' v x y e h8 h5 h7 w' k => by
        rw [HFl.out] at e
        injection e with e
        simp only [Prod.mk.injEq] at e
        obtain ⟨rfl, rfl, rfl, rfl⟩ := e
        exact h v w' h8 (Lib.hid ⟨h5, h7⟩) k))
      go_upto_region 18 with (go_at_call 51; ((refine HLi.out _ ?_); intro v w3 h8 hv k3))
      obtain ⟨y5, hy5⟩ : ∃ y, v[5]'(by omega) = y := ⟨_, rfl⟩
      obtain ⟨y7, hy7⟩ : ∃ y, v[7]'(by omega) = y := ⟨_, rfl⟩
      have e5 : y5 = x5 := by have := hv.out.1; rw [List.getElem?_eq_getElem (by omega), hy5] at this; injection this
      have e7 : y7 = x7 := by have := hv.out.2; rw [List.getElem?_eq_getElem (by omega), hy7] at this; injection this
      subst e5; subst e7
      have HB3 : Hid (Kp [] w w3 ∧ Bk w3 g2 24 [.string ⟨#[]⟩, .string ⟨#[]⟩, .int .i64 0, .slice none 0 0, .bool false]) := Lib.hid ⟨HK.out.1.trans k3, HK.out.2.kp k3 (by simp)⟩
      have HR3 : Hid (Rd w3 [] (some ⟨b, off, none⟩) (strs (l :: ls))) := Lib.hid (HRl.out.kp k3 (by simp))
      clear HK HRl hv k3 c0 c1 c2 c3 c4 f0 f1 f2 f3 f4 y0 HLi
      obtain ⟨⟨c0, c1, c2, c3, c4⟩, ⟨f0, f1, f2, f3, f4⟩⟩ := bk5 HB3.out.2
      by_cases h49 : y5 = 49
      · have g5 : ((y5.toNat : Int) != 49) = false := (u8_bne y5 49).trans (by simpa using h49)
        by_cases h128 : 128 < t.length
        · have g6 : decide ((128 : Int) < t.length) = true := by simp; omega
          have HEr : Hid ((nextF s).2.1 = 414) := Lib.hid (HE.out 414 (by decide) (by rw [HOf.out, if_neg (by simpa using h49), if_pos h128]))
          clear h49
          go_wp2
          obtain ⟨W', hW', kW, bW⟩ := put5 (HB3.out.2) (.string ⟨#[]⟩) (.string ⟨#[]⟩) (.int .i64 0) (.slice none 0 0) (.bool false)
          rw [hW']
          obtain ⟨⟨z0, z1, z2, z3, z4⟩, _⟩ := bk5 bW
          exact bodyPost_ret (v := .tuple #[.agg #[.string ⟨#[]⟩, .string ⟨#[]⟩, .int .i64 0, .slice none 0 0, .bool false], .int .i64 0, .int .i64 (414)]) (by simp [results, Tryz.results36, go_sem, z0, z1, z2, z3, z4]; try rfl) rfl (H0.out (414) (HEr.out) (by decide) _ ((HB3.out.1).thn kW (fun s hs => .inr (by have := HG2.out; simp at hs; omega))))
        · have g6 : decide ((128 : Int) < t.length) = false := by simp; omega
          have HOg : Hid (ofF (l :: ls) = match fieldsL ls with | none => (noReq, 400) | some fs => ofFs m t (if y7 = 48 then 0 else 1) fs) := Lib.hid (by rw [HOf.out, if_neg (by simpa using h49), if_neg h128])
          clear h49 HOf
          obtain ⟨mi, hmi⟩ : ∃ mi : Int, (if y7 = 48 then 0 else 1 : Int) = mi := ⟨_, rfl⟩
          have HOh : Hid (ofF (l :: ls) = match fieldsL ls with | none => (noReq, 400) | some fs => ofFs m t mi fs) := Lib.hid (by rw [← hmi]; exact HOg.out)
          have hmi2 : mi = 0 ∨ mi = 1 := by rw [← hmi]; split <;> simp
          clear HOg
          go_upto_region 25 with (fail)
          have HBb : Hid (b < w3.heap.size) := Lib.hid (by obtain ⟨b', o', e, _, hlt, _⟩ := HR3.out (by simp [strs]); injection e with e; injection e with e1 e2; subst e1; exact hlt)
          refine gen_worldC (fun W => ∃ g16, w3.heap.size = g16 ∧ Hid (NxS w W g2 g16 m t 1 none 0 [] ∧ Rd W [] (some ⟨b, off, none⟩) (strs (l :: ls)))) ⟨_, rfl, Lib.hid ⟨⟨HB3.out.1.alloc _, ⟨HG2.out, HB3.out.2.lt⟩, HB3.out.2.alloc _, (Bk.new' _ _ _).cast rfl, Ow.nil, by simp [bks]⟩, HR3.out.kp (S := []) ((Kp.refl _ _).alloc _) (by simp)⟩⟩ ?_
          rintro W4 ⟨g16, hg16, hW4⟩
          rw [hg16] at HBb ⊢
          clear hg16 HB3 HR3 c0 c1 c2 c3 c4 f0 f1 f2 f3 f4
          obtain ⟨⟨c0, c1, c2, c3, c4⟩, ⟨f0, f1, f2, f3, f4⟩⟩ := bk5 hW4.out.1.b16
          obtain ⟨cz, hcz⟩ : ∃ cz, ((y7.toNat : Int) == 48) = cz := ⟨_, rfl⟩
          go_upto_if 97 with (fail)
          go_cut [] (fun W' => Hid (NxS w W' g2 g16 m t mi none 0 [] ∧ Rd W' [] (some ⟨b, off, none⟩) (strs (l :: ls))))
          case first =>
            as_aux_lemma =>
              cases cz with
              | true =>
                have h48 : y7 = 48 := by have := (u8_beq y7 48).symm.trans hcz; simpa using this
                rw [if_pos h48] at hmi
                subst hmi
                clear h48
                go_wp2
                go_meet
                exact Lib.hid ⟨hW4.out.1.minor 0, hW4.out.2.low (S := [g16]) HBb.out (by simp) (by simp) ((Kp.refl _ _).setCell (.inl (by simp)) _)⟩
              | false =>
                have h48 : ¬ y7 = 48 := by have := (u8_beq y7 48).symm.trans hcz; simpa using this
                rw [if_neg h48] at hmi
                subst hmi
                clear h48
                go_wp2
                go_meet
                exact hW4
          case rest =>
            have hW5 := hcut
            obtain ⟨W5, hW5e⟩ : ∃ x, wc = x := ⟨_, rfl⟩
            clear hW4 c0 c1 c2 c3 c4 f0 f1 f2 f3 f4 hcz hcut
            rw [hW5e] at hW5 ⊢
            clear hW5e
            go_upto_block 2 with (fail)
            go_cut [] from 99 (fun W' => ∃ A c fs, fs.length ≤ 1000 ∧ Hid (fieldsL ls = some fs) ∧ Hid (NxS w W' g2 g16 m t mi A c fs))
            case first =>
              as_aux_lemma =>
                have hlsl := HSum.out.2
                go_wp2
                go_loopw [17] (fun iv wr => ∃ (k : Nat) (A : Option Addr) (c : Nat) (fs : List Fd), k ≤ ls.length ∧ iv = .int .i64 ((k : Int) + 1) ∧ fs.length = k ∧ Hid (fieldsL (ls.take k) = some fs) ∧ Hid (NxS w wr g2 g16 m t mi A c fs ∧ Rd wr [] (some ⟨b, off, none⟩) (strs (l :: ls)))) (fun iv _ => ls.length + 1 - (intOf iv).toNat)
                case atStart => exact ⟨0, none, 0, [], Nat.zero_le _, rfl, rfl, Lib.hid rfl, hW5⟩
                case round =>
                  obtain ⟨k0, A, c, fs, hk, rfl, hfk, hf, hr⟩ := hrel
                  subst hfk
                  by_cases hlt : fs.length < ls.length
                  · obtain ⟨x, hx⟩ : ∃ x, ls[fs.length]? = some x := ⟨_, List.getElem?_eq_getElem hlt⟩
                    obtain ⟨b', off', e, _, hbl, hc⟩ := hr.out.2 (by simp [strs])
                    injection e with e
                    injection e with e1 e2
                    subst e1; subst e2
                    have y0 : wr.cell? ⟨b, off + (fs.length + 1), none⟩ = some (.string (S x)) := hc (fs.length + 1) _ (by simp [strs, hx])
                    have hxl : x.length ≤ 1000 := HLm.out x (List.mem_of_getElem? hx)
                    have HFi : Hid (∀ (R : Ending → World → Prop) (w : World), (∀ w', Kp [] w w' → R (.returned (.tuple #[.string (S (fieldL x).1), .string (S (fieldL x).2.1), .int .i64 (fieldL x).2.2])) w') → Calls Tryz.prog 52 #[.string (S x)] w R) := Lib.hid (fun R w h => rfield_any x (by omega) h)
                    have hft := fieldsL_take hx hf.out
                    have HNo : Hid (∀ h : fieldsL (ls.take (fs.length + 1)) = none, fieldsL ls = none) := Lib.hid (fun h => fieldsL_none h)
                    obtain ⟨nm, e1⟩ : ∃ z, (fieldL x).1 = z := ⟨_, rfl⟩
                    obtain ⟨vl, e2⟩ : ∃ z, (fieldL x).2.1 = z := ⟨_, rfl⟩
                    obtain ⟨er, e3⟩ : ∃ z, (fieldL x).2.2 = z := ⟨_, rfl⟩
                    rw [e1, e2, e3] at HFi
                    rw [e1, e2, e3] at hft
                    clear e1 e2 e3 hc hx hf
                    by_cases her : er = 0
                    · rw [if_pos her] at hft
                      subst her
                      have HF2 := Lib.hid hft
                      clear hft
                      obtain ⟨⟨c0, c1, c2, c3, c4⟩, ⟨f0, f1, f2, f3, f4⟩⟩ := bk5 hr.out.1.b16
                      go_wp2_with (first | (go_at_call 52; ((refine HFi.out _ _ ?_); intro w4 k4; have hs4 := hr.out.1.keep k4; have hr4 := hr.out.2.kp k4 (by simp); obtain ⟨⟨c0, c1, c2, c3, c4⟩, ⟨f0, f1, f2, f3, f4⟩⟩ := bk5 hs4.b16)) | (at_builtin; refine wpList_app _ rfl (.tmp 118) (.tmp 122) _ rfl elt_fd24 A fs.length c _ rfl (hs4.own.alloc _) [] _ 1 1 (fldC (nm, vl)) rfl (fd_rd24 rfl) rfl (fd_one _) (by omega) ?_; intro A3 c3 w5 ho5 hk5 hA5; obtain ⟨⟨qn, en⟩, hs5⟩ := hs4.app _ (nm, vl) ho5 hk5 hA5))
                      have hr5 : Rd (w5.setCell ⟨g16, 3, none⟩ (.slice A3 (fs.length + 1) c3)) [] (some ⟨b, off, none⟩) (strs (l :: ls)) := ((hr4.kp (S := []) ((Kp.refl _ _).alloc _) (by simp)).low (S := bks A) (N' := []) HBb.out (fun s hs => by have := hs4.fresh s hs; omega) (by simp) hk5).low (S := [g16]) HBb.out (by simp) (by simp) ((Kp.refl _ _).setCell (.inl (by simp)) _)
                      exact ⟨⟨fs.length + 1, A3, c3, fs ++ [(nm, vl)], by omega, by go_num, by simp, HF2, Lib.hid ⟨hs5, hr5⟩⟩, by simp [intOf]; omega⟩
                    · rw [if_neg her] at hft
                      have HEr : Hid ((nextF s).2.1 = 400) := Lib.hid (HE.out 400 (by decide) (by rw [HOh.out, HNo.out hft]))
                      have ger : (er != 0) = true := by simpa using her
                      clear hft her
                      go_wp2_with (go_at_call 52; ((refine HFi.out _ _ ?_); intro w4 k4; have hs4 := hr.out.1.keep k4; obtain ⟨⟨d0, d1, d2, d3, d4⟩, ⟨e0, e1, e2, e3, e4⟩⟩ := bk5 hs4.b2))
                      obtain ⟨W', hW', kW, bW⟩ := put5 (hs4.b2) (.string ⟨#[]⟩) (.string ⟨#[]⟩) (.int .i64 0) (.slice none 0 0) (.bool false)
                      rw [hW']
                      obtain ⟨⟨z0, z1, z2, z3, z4⟩, _⟩ := bk5 bW
                      exact bodyPost_ret (v := .tuple #[.agg #[.string ⟨#[]⟩, .string ⟨#[]⟩, .int .i64 0, .slice none 0 0, .bool false], .int .i64 0, .int .i64 (400)]) (by simp [results, Tryz.results36, go_sem, z0, z1, z2, z3, z4]; try rfl) rfl (H0.out (400) (HEr.out) (by decide) _ ((hs4.kp).thn kW (fun s hs => .inr (by have := HG2.out; simp at hs; omega))))
                  · have hfl9 : fs.length = ls.length := by omega
                    have e := hf.out
                    rw [hfl9, List.take_length] at e
                    have HF2 := Lib.hid e
                    clear e hf
                    go_wp2
                    go_meet
                    exact ⟨A, c, fs, by omega, HF2, Lib.hid hr.out.1⟩
            case rest =>
              obtain ⟨A, c, fs, hfl, hfs, hS⟩ := hcut
              obtain ⟨W6, hW6⟩ : ∃ x, wc = x := ⟨_, rfl⟩
              rw [hW6] at hS ⊢
              have HOi : Hid (ofF (l :: ls) = ofFs m t mi fs) := Lib.hid (by rw [HOh.out, hfs.out])
              have hsum := fields_sum ls fs hfs.out
              have HLen : Hid (∀ x ∈ fs, x.2.length ≤ 1000) := Lib.hid (fun x hx => by
                have h1 := le_sum (List.mem_map_of_mem (f := fun f : Fd => f.2.length) hx)
                have h2 := HSum.out.1
                omega)
              have HAl : Hid (∀ nm, (allF fs nm).length ≤ 4000) := Lib.hid (fun nm => by have h1 := allF_len fs nm; have h2 := HSum.out; omega)
              clear hW6 hW5 HOh hfs hsum HSum HLm HBb
              have HT1 : Hid (∀ (R : Ending → World → Prop) (w1 : World), Kp [] W6 w1 → (∀ w', Kp [] w1 w' → R (.returned (.int .i64 (valsF fs teL).length)) w') → Calls Tryz.prog 13 #[.agg #[.string (S m), .string (S t), .int .i64 mi, .slice A fs.length c, .bool false], .string ⟨#[116, 114, 97, 110, 115, 102, 101, 114, 45, 101, 110, 99, 111, 100, 105, 110, 103]⟩] w1 R) := Lib.hid (fun R w1 k h => rcount24_any ⟨m, t, mi, fs, false⟩ teL ((hS.out.keep k).own.rd (by simp)) (by simp only; omega) h)
              have HT2 : Hid (∀ (R : Ending → World → Prop) (w1 : World), Kp [] W6 w1 → (∀ w', Kp [] w1 w' → Kp [] W6 w' → R (.returned (.int .i64 (valsF fs hostL).length)) w') → Calls Tryz.prog 13 #[.agg #[.string (S m), .string (S t), .int .i64 mi, .slice A fs.length c, .bool false], .string ⟨#[104, 111, 115, 116]⟩] w1 R) := Lib.hid (fun R w1 k h => rcount24_any ⟨m, t, mi, fs, false⟩ hostL ((hS.out.keep k).own.rd (by simp)) (by simp only; omega) (fun w' j => h w' j (k.trans j)))
              have HTA : Hid (∀ (R : Ending → World → Prop) (w1 : World), Kp [] W6 w1 → (∀ w', Kp [] w1 w' → Kp [] W6 w' → R (.returned (.string (S (allF fs connL)))) w') → Calls Tryz.prog 54 #[.agg #[.string (S m), .string (S t), .int .i64 mi, .slice A fs.length c, .bool false], .string ⟨#[99, 111, 110, 110, 101, 99, 116, 105, 111, 110]⟩] w1 R) := Lib.hid (fun R w1 k h => rall24_any ⟨m, t, mi, fs, false⟩ connL w1 ((hS.out.keep k).own.rd (by simp)) (by simp only; omega) (by have := HAl.out connL; simp only; omega) (fun x hx => by have := HLen.out x hx; omega) (fun w' j => h w' j (k.trans j)))
              have HC6 : Hid (∀ W', Kp [] W6 W' → NxS w W' g2 g16 m t mi A c fs) := Lib.hid (fun W' k => hS.out.keep k)
              clear hS
              obtain ⟨⟨c0, c1, c2, c3, c4⟩, ⟨f0, f1, f2, f3, f4⟩⟩ := bk5 (HC6.out W6 (Kp.refl _ _)).b16
              obtain ⟨n1, hn1⟩ : ∃ n, (valsF fs teL).length = n := ⟨_, rfl⟩
              rw [hn1] at HT1
              by_cases h1 : 0 < n1
              · have g1 : decide (0 < n1) = true := by simpa using h1
                have HEr : Hid ((nextF s).2.1 = 501) := Lib.hid (HE.out 501 (by decide) (by
                  rw [HOi.out]
                  unfold ofFs
                  have : (getF fs teL).2 = true := by
                    unfold getF
                    cases hv : valsF fs teL with
                    | nil => rw [hv] at hn1; simp at hn1; omega
                    | cons a b => rfl
                  rw [if_pos this]))
                clear hn1
                go_wp2_with (go_at_call 13; ((refine HT1.out _ _ (Kp.refl _ _) ?_); intro w7 k7; have hs7 := HC6.out _ k7; obtain ⟨⟨d0, d1, d2, d3, d4⟩, ⟨e0, e1, e2, e3, e4⟩⟩ := bk5 hs7.b2))
                obtain ⟨W', hW', kW, bW⟩ := put5 (hs7.b2) (.string ⟨#[]⟩) (.string ⟨#[]⟩) (.int .i64 0) (.slice none 0 0) (.bool false)
                rw [hW']
                obtain ⟨⟨z0, z1, z2, z3, z4⟩, _⟩ := bk5 bW
                exact bodyPost_ret (v := .tuple #[.agg #[.string ⟨#[]⟩, .string ⟨#[]⟩, .int .i64 0, .slice none 0 0, .bool false], .int .i64 0, .int .i64 (501)]) (by simp [results, Tryz.results36, go_sem, z0, z1, z2, z3, z4]; try rfl) rfl (H0.out (501) (HEr.out) (by decide) _ ((hs7.kp).thn kW (fun s hs => .inr (by have := HG2.out; simp at hs; omega))))
              · obtain rfl : n1 = 0 := by omega
                have HOj : Hid (ofF (l :: ls) = if (valsF fs clL).all lenOk = false then (noReq, 400) else if 1 < (valsF fs hostL).length ∨ ((valsF fs hostL).length : Int) < mi then (noReq, 400) else if methods.contains m = false then (noReq, 501) else (⟨m, t, mi, fs, closesF fs mi⟩, 0)) := Lib.hid (by
                  rw [HOi.out]
                  unfold ofFs
                  rw [if_neg (by rw [getF_no (List.length_eq_zero_iff.1 (by omega))]; decide)])
                clear HOi h1 hn1
                go_upto_block 4 with (go_at_call 13; ((refine HT1.out _ _ (Kp.refl _ _) ?_); intro w7 k7))
                have K7 := Lib.hid k7
                clear k7 c0 c1 c2 c3 c4 f0 f1 f2 f3 f4 HT1
                go_cut [] from 129 (fun W' => W' = w7 ∧ Hid ((valsF fs clL).all lenOk = true))
                case first =>
                  as_aux_lemma =>
                    have hs7 := HC6.out _ K7.out
                    obtain ⟨⟨c0, c1, c2, c3, c4⟩, ⟨f0, f1, f2, f3, f4⟩⟩ := bk5 hs7.b16
                    obtain ⟨⟨d0, d1, d2, d3, d4⟩, ⟨e0, e1, e2, e3, e4⟩⟩ := bk5 hs7.b2
                    have HRf := Lib.hid (hs7.own.rd (N := []) (by simp))
                    go_wp2
                    go_loopw [21] (fun iv wr => ∃ i : Nat, i ≤ fs.length ∧ iv = .int .i64 i ∧ Hid ((valsF (fs.take i) clL).all lenOk = true) ∧ wr = w7) (fun iv _ => fs.length - (intOf iv).toNat)
                    case atStart => exact ⟨0, Nat.zero_le _, rfl, Lib.hid rfl, rfl⟩
                    case round =>
                      obtain ⟨i, hi, rfl, hv, rfl⟩ := hrel
                      by_cases hlt : i < fs.length
                      · obtain ⟨⟨xn, xv⟩, hx⟩ : ∃ x, fs[i]? = some x := ⟨_, List.getElem?_eq_getElem hlt⟩
                        obtain ⟨b2, off2, rfl, _, _, hc⟩ := rd_at HRf.out fldC_len (by decide) hx
                        have y0 : wr.cell? ⟨b2, off2 + i * 2, none⟩ = some (.string (S xn)) := hc 0 _ rfl
                        have y1 : wr.cell? ⟨b2, off2 + i * 2 + 1, none⟩ = some (.string (S xv)) := hc 1 _ rfl
                        have hvt := valsF_take hx clL
                        have hxl : xv.length ≤ 1000 := HLen.out _ (List.mem_of_getElem? hx)
                        have HMem : Hid ((xn == clL) = true → xv ∈ valsF fs clL) := Lib.hid (fun e => by
                          unfold valsF
                          exact List.mem_map.2 ⟨(xn, xv), List.mem_filter.2 ⟨List.mem_of_getElem? hx, e⟩, rfl⟩)
                        clear hc hx
                        obtain ⟨q, hq⟩ : ∃ q, (xn == [99, 111, 110, 116, 101, 110, 116, 45, 108, 101, 110, 103, 116, 104]) = q := ⟨_, rfl⟩
                        have hq2 : (xn == clL) = q := hq
                        simp only at hvt
                        rw [hq2] at hvt HMem
                        clear hq2
                        cases q with
                        | false =>
                          have HV2 : Hid ((valsF (fs.take (i + 1)) clL).all lenOk = true) := Lib.hid (by rw [hvt]; simpa using hv.out)
                          clear hvt hv HMem
                          go_wp2
                          exact ⟨⟨i + 1, by omega, by go_num, HV2, by trivial⟩, by simp [intOf]; omega⟩
                        | true =>
                          have HNu : Hid (∀ (R : Ending → World → Prop) (w : World), R (.returned (.tuple #[.int .i64 (numR xv 1099511627776).1, .bool (numR xv 1099511627776).2])) w → Calls Tryz.prog 53 #[.string (S xv), .int .i64 1099511627776] w R) := Lib.hid (fun R w h => rnumber_any xv 1099511627776 w (by omega) (by decide) (by decide) h)
                          have hnn : 0 ≤ (numR xv 1099511627776).1 := by unfold numR; split <;> simp
                          have HV2 : Hid (lenOk xv = true → (valsF (fs.take (i + 1)) clL).all lenOk = true) := Lib.hid (fun e => by rw [hvt, if_pos rfl, List.all_append, hv.out]; simp [e])
                          have HEb : Hid (lenOk xv = false → (nextF s).2.1 = 400) := Lib.hid (fun e => HE.out 400 (by decide) (by
                            rw [HOj.out, if_pos (by rw [List.all_eq_false]; exact ⟨xv, HMem.out rfl, by simp [e]⟩)]))
                          have HLo : Hid (lenOk xv = ((numR xv 1099511627776).2 && decide ((numR xv 1099511627776).1 = 0))) := Lib.hid rfl
                          obtain ⟨nv, e1⟩ : ∃ z, (numR xv 1099511627776).1 = z := ⟨_, rfl⟩
                          obtain ⟨ni, e2⟩ : ∃ z, (numR xv 1099511627776).2 = z := ⟨_, rfl⟩
                          rw [e1, e2] at HNu HLo
                          rw [e1] at hnn
                          clear hvt hv HMem e1 e2
                          cases ni with
                          | false =>
                            have HEr := Lib.hid (HEb.out (by rw [HLo.out]; rfl))
                            go_wp2_with (go_at_call 53; (refine HNu.out _ _ ?_))
                            obtain ⟨W', hW', kW, bW⟩ := put5 (hs7.b2) (.string ⟨#[]⟩) (.string ⟨#[]⟩) (.int .i64 0) (.slice none 0 0) (.bool false)
                            rw [hW']
                            obtain ⟨⟨z0, z1, z2, z3, z4⟩, _⟩ := bk5 bW
                            exact bodyPost_ret (v := .tuple #[.agg #[.string ⟨#[]⟩, .string ⟨#[]⟩, .int .i64 0, .slice none 0 0, .bool false], .int .i64 0, .int .i64 (400)]) (by simp [results, Tryz.results36, go_sem, z0, z1, z2, z3, z4]; try rfl) rfl (H0.out (400) (HEr.out) (by decide) _ ((hs7.kp).thn kW (fun s hs => .inr (by have := HG2.out; simp at hs; omega))))
                          | true =>
                            by_cases hz : 0 < nv
                            · have g2 : decide (0 < nv) = true := by simpa using hz
                              have HEr := Lib.hid (HEb.out (by rw [HLo.out]; simp; omega))
                              go_wp2_with (go_at_call 53; (refine HNu.out _ _ ?_))
                              obtain ⟨W', hW', kW, bW⟩ := put5 (hs7.b2) (.string ⟨#[]⟩) (.string ⟨#[]⟩) (.int .i64 0) (.slice none 0 0) (.bool false)
                              rw [hW']
                              obtain ⟨⟨z0, z1, z2, z3, z4⟩, _⟩ := bk5 bW
                              exact bodyPost_ret (v := .tuple #[.agg #[.string ⟨#[]⟩, .string ⟨#[]⟩, .int .i64 0, .slice none 0 0, .bool false], .int .i64 0, .int .i64 (400)]) (by simp [results, Tryz.results36, go_sem, z0, z1, z2, z3, z4]; try rfl) rfl (H0.out (400) (HEr.out) (by decide) _ ((hs7.kp).thn kW (fun s hs => .inr (by have := HG2.out; simp at hs; omega))))
                            · have g2 : decide (0 < nv) = false := by simpa using hz
                              have HV3 := Lib.hid (HV2.out (by rw [HLo.out]; simp; omega))
                              go_wp2_with (go_at_call 53; (refine HNu.out _ _ ?_))
                              exact ⟨⟨i + 1, by omega, by go_num, HV3, by trivial⟩, by simp [intOf]; omega⟩
                      · have e := hv.out
                        rw [List.take_of_length_le (by omega)] at e
                        have HV := Lib.hid e
                        clear e hv
                        go_wp2
                        go_meet
                        exact ⟨rfl, HV⟩
                case rest =>
                  obtain ⟨hx1, hv⟩ := hcut
                  rw [hx1]
                  clear hx1
                  have HOk : Hid (ofF (l :: ls) = if 1 < (valsF fs hostL).length ∨ ((valsF fs hostL).length : Int) < mi then (noReq, 400) else if methods.contains m = false then (noReq, 501) else (⟨m, t, mi, fs, closesF fs mi⟩, 0)) := Lib.hid (by rw [HOj.out, if_neg (by rw [hv.out]; decide)])
                  clear HOj hv
                  obtain ⟨n2, hn2⟩ : ∃ n, (valsF fs hostL).length = n := ⟨_, rfl⟩
                  rw [hn2] at HT2 HOk
                  clear hn2
                  have hs7 := HC6.out _ K7.out
                  obtain ⟨⟨c0, c1, c2, c3, c4⟩, ⟨f0, f1, f2, f3, f4⟩⟩ := bk5 hs7.b16
                  go_upto_region 43 with (fail)
                  go_cut [172] (fun x W' => ∃ bad, x = .bool bad ∧ Hid (bad = decide (1 < n2 ∨ (n2 : Int) < mi)) ∧ Hid (Kp [] W6 W'))
                  case first =>
                    as_aux_lemma =>
                      by_cases h2 : 1 < n2
                      · have g2 : decide ((1 : Int) < n2) = true := by simp; omega
                        go_wp2_with (go_at_call 13; ((refine HT2.out _ _ K7.out ?_); intro w8 j8 k8))
                        go_meet
                        exact ⟨true, rfl, Lib.hid (by simp [h2]), Lib.hid k8⟩
                      · have g2 : decide ((1 : Int) < n2) = false := by simp; omega
                        rcases hmi2 with rfl | rfl
                        · go_wp2_with (go_at_call 13; ((refine HT2.out _ _ K7.out ?_); intro w8 j8 k8; have hs8 := HC6.out _ k8; obtain ⟨⟨c0, c1, c2, c3, c4⟩, ⟨f0, f1, f2, f3, f4⟩⟩ := bk5 hs8.b16))
                          go_meet
                          exact ⟨false, rfl, Lib.hid (by symm; simp; omega), Lib.hid k8⟩
                        · obtain ⟨q2, hq2⟩ : ∃ q, ((n2 : Int) == 0) = q := ⟨_, rfl⟩
                          go_wp2_with (first | (go_at_call 13; ((refine HT2.out _ _ K7.out ?_); intro w8 j8 k8; have hs8 := HC6.out _ k8; obtain ⟨⟨c0, c1, c2, c3, c4⟩, ⟨f0, f1, f2, f3, f4⟩⟩ := bk5 hs8.b16)) | (go_at_call 13; ((refine HT2.out _ _ k8 ?_); intro w9 j9 k9)))
                          go_meet
                          exact ⟨q2, rfl, Lib.hid (by rw [← hq2, Bool.eq_iff_iff]; simp; omega), Lib.hid (by first | exact k9 | exact k8)⟩
                  case rest =>
                    obtain ⟨bad, hx1, hbd, hk8⟩ := hcut
                    rw [hx1]
                    obtain ⟨W8, hW8⟩ : ∃ x, wc = x := ⟨_, rfl⟩
                    rw [hW8] at hk8 ⊢
                    clear hx1 hW8 hs7 c0 c1 c2 c3 c4 f0 f1 f2 f3 f4 HT2 K7
                    have hs8 := HC6.out _ hk8.out
                    obtain ⟨⟨c0, c1, c2, c3, c4⟩, ⟨f0, f1, f2, f3, f4⟩⟩ := bk5 hs8.b16
                    obtain ⟨⟨d0, d1, d2, d3, d4⟩, ⟨e0, e1, e2, e3, e4⟩⟩ := bk5 hs8.b2
                    cases bad with
                    | true =>
                      have HEr : Hid ((nextF s).2.1 = 400) := Lib.hid (HE.out 400 (by decide) (by rw [HOk.out, if_pos (of_decide_eq_true hbd.out.symm)]))
                      clear hbd
                      go_wp2
                      obtain ⟨W', hW', kW, bW⟩ := put5 (hs8.b2) (.string ⟨#[]⟩) (.string ⟨#[]⟩) (.int .i64 0) (.slice none 0 0) (.bool false)
                      rw [hW']
                      obtain ⟨⟨z0, z1, z2, z3, z4⟩, _⟩ := bk5 bW
                      exact bodyPost_ret (v := .tuple #[.agg #[.string ⟨#[]⟩, .string ⟨#[]⟩, .int .i64 0, .slice none 0 0, .bool false], .int .i64 0, .int .i64 (400)]) (by simp [results, Tryz.results36, go_sem, z0, z1, z2, z3, z4]; try rfl) rfl (H0.out (400) (HEr.out) (by decide) _ ((hs8.kp).thn kW (fun s hs => .inr (by have := HG2.out; simp at hs; omega))))
                    | false =>
                      have HOl : Hid (ofF (l :: ls) = if methods.contains m = false then (noReq, 501) else (⟨m, t, mi, fs, closesF fs mi⟩, 0)) := Lib.hid (by rw [HOk.out, if_neg (of_decide_eq_false hbd.out.symm)])
                      clear hbd HOk
                      go_upto_region 46 with (fail)
                      refine gen_worldC (fun W => ∃ gm, W8.heap.size = gm ∧ Hid (Kp [] W6 W ∧ Bk W gm 9 (strs methods))) ⟨_, rfl, Lib.hid ⟨hk8.out.alloc _, (Bk.new' _ _ _).cast rfl⟩⟩ ?_
                      rintro W9 ⟨gm, hgm, hW9⟩
                      rw [hgm]
                      clear hgm hs8 hk8 c0 c1 c2 c3 c4 f0 f1 f2 f3 f4 d0 d1 d2 d3 d4 e0 e1 e2 e3 e4
                      have hs9 := HC6.out _ hW9.out.1
                      obtain ⟨⟨d0, d1, d2, d3, d4⟩, ⟨e0, e1, e2, e3, e4⟩⟩ := bk5 hs9.b2
                      obtain ⟨⟨c0, c1, c2, c3, c4⟩, ⟨f0, f1, f2, f3, f4⟩⟩ := bk5 hs9.b16
                      have hgml := hW9.out.2.lt
                      go_wp2
                      go_loopw [25, 26] (fun kv iv wr => ∃ i : Nat, i ≤ 9 ∧ iv = .int .i64 i ∧ kv = .bool ((methods.take i).contains m) ∧ wr = W9) (fun _ iv _ => 9 - (intOf iv).toNat)
                      case atStart => exact ⟨0, by omega, rfl, rfl, rfl⟩
                      case round =>
                        obtain ⟨i, hi, rfl, rfl, rfl⟩ := hrel
                        by_cases hlt : i < 9
                        · obtain ⟨y, hy⟩ : ∃ y, methods[i]? = some y := ⟨_, List.getElem?_eq_getElem (show i < methods.length from hlt)⟩
                          have y0 : wr.cell? ⟨gm, i, none⟩ = some (.string (S y)) := by rw [hW9.out.2.cell i]; simp [strs, hy]
                          have hct := cont_take hy m
                          obtain ⟨q, hq⟩ : ∃ q, (y == m) = q := ⟨_, rfl⟩
                          have hqc : (m == y) = q := by rw [← hq, Bool.eq_iff_iff, beq_iff_eq, beq_iff_eq]; exact eq_comm
                          rw [hqc] at hct
                          have HCT := Lib.hid hct
                          obtain ⟨kb, hkb⟩ : ∃ kb, (methods.take i).contains m = kb := ⟨_, rfl⟩
                          rw [hkb] at HCT ⊢
                          clear hct hkb hqc hy
                          cases kb with
                          | true =>
                            go_wp2
                            exact ⟨⟨i + 1, by omega, by go_num, by rw [HCT.out]; rfl, by trivial⟩, by simp [intOf]; omega⟩
                          | false =>
                            go_wp2
                            exact ⟨⟨i + 1, by omega, by go_num, by rw [HCT.out]; simp [hq], by trivial⟩, by simp [intOf]; omega⟩
                        · obtain rfl : i = 9 := by omega
                          have et : methods.take 9 = methods := rfl
                          rw [et]
                          clear et
                          obtain ⟨kb, hkb⟩ : ∃ kb, methods.contains m = kb := ⟨_, rfl⟩
                          rw [hkb]
                          cases kb with
                          | false =>
                            have HEr : Hid ((nextF s).2.1 = 501) := Lib.hid (HE.out 501 (by decide) (by rw [HOl.out, if_pos hkb]))
                            clear hkb
                            go_wp2
                            obtain ⟨W', hW', kW, bW⟩ := put5 (hs9.b2) (.string ⟨#[]⟩) (.string ⟨#[]⟩) (.int .i64 0) (.slice none 0 0) (.bool false)
                            rw [hW']
                            obtain ⟨⟨z0, z1, z2, z3, z4⟩, _⟩ := bk5 bW
                            exact bodyPost_ret (v := .tuple #[.agg #[.string ⟨#[]⟩, .string ⟨#[]⟩, .int .i64 0, .slice none 0 0, .bool false], .int .i64 0, .int .i64 (501)]) (by simp [results, Tryz.results36, go_sem, z0, z1, z2, z3, z4]; try rfl) rfl (H0.out (501) (HEr.out) (by decide) _ ((hs9.kp).thn kW (fun s hs => .inr (by have := HG2.out; simp at hs; omega))))
                          | true =>
                            have HFin : Hid (nextF s = (⟨m, t, mi, fs, closesF fs mi⟩, 0, rest, false)) := Lib.hid (by
                              have e : ofF (l :: ls) = (⟨m, t, mi, fs, closesF fs mi⟩, 0) := by rw [HOl.out, hkb]; rfl
                              rw [HNy.out, e]; rfl)
                            clear hkb HOl HNy HE
                            have HAl2 := HAl.out connL
                            have HCl : Hid (closesF fs mi = ((itemsL (lowL (allF fs connL))).contains closeL || (decide (mi = 0) && !(itemsL (lowL (allF fs connL))).contains keepL))) := Lib.hid rfl
                            have HH1 : Hid (∀ (R : Ending → World → Prop) (w1 : World), Kp [] W6 w1 → (∀ w', Kp [] w1 w' → Kp [] W6 w' → R (.returned (.bool ((itemsL (lowL (allF fs connL))).contains closeL))) w') → Calls Tryz.prog 55 #[.string (S (allF fs connL)), .string ⟨#[99, 108, 111, 115, 101]⟩] w1 R) := Lib.hid (fun R w1 k h => rhas24_any (allF fs connL) closeL (by omega) (fun w' j => h w' j (k.trans j)))
                            have HH2 : Hid (∀ (R : Ending → World → Prop) (w1 : World), Kp [] W6 w1 → (∀ w', Kp [] w1 w' → Kp [] W6 w' → R (.returned (.bool ((itemsL (lowL (allF fs connL))).contains keepL))) w') → Calls Tryz.prog 55 #[.string (S (allF fs connL)), .string ⟨#[107, 101, 101, 112, 45, 97, 108, 105, 118, 101]⟩] w1 R) := Lib.hid (fun R w1 k h => rhas24_any (allF fs connL) keepL (by omega) (fun w' j => h w' j (k.trans j)))
                            obtain ⟨cl, hcl⟩ : ∃ cl, closesF fs mi = cl := ⟨_, rfl⟩
                            rw [hcl] at HFin HCl
                            obtain ⟨b1, hb1⟩ : ∃ b1, (itemsL (lowL (allF fs connL))).contains closeL = b1 := ⟨_, rfl⟩
                            obtain ⟨b2, hb2⟩ : ∃ b2, (itemsL (lowL (allF fs connL))).contains keepL = b2 := ⟨_, rfl⟩
                            rw [hb1, hb2] at HCl
                            rw [hb1] at HH1
                            rw [hb2] at HH2
                            obtain ⟨al, hal⟩ : ∃ al, allF fs connL = al := ⟨_, rfl⟩
                            rw [hal] at HTA HH1 HH2
                            clear hcl hb1 hb2 hal HAl2 HAl HLen
                            have K9 := Lib.hid hW9.out.1
                            clear hW9 hgml
                            go_upto_region 54 with (go_at_call 54; ((refine HTA.out _ _ K9.out ?_); intro w10 j10 k10))
                            have K10 := Lib.hid k10
                            clear j10 k10 c0 c1 c2 c3 c4 f0 f1 f2 f3 f4 d0 d1 d2 d3 d4 e0 e1 e2 e3 e4 hs9
                            have hs10 := HC6.out _ K10.out
                            obtain ⟨⟨c0, c1, c2, c3, c4⟩, ⟨f0, f1, f2, f3, f4⟩⟩ := bk5 hs10.b16
                            have HEnd : Hid (∀ W', Kp [] W6 W' → Hid (Kp [] w (W'.setCell ⟨g16, 4, none⟩ (.bool cl)) ∧ Bk (W'.setCell ⟨g16, 4, none⟩ (.bool cl)) g16 24 [.string (S m), .string (S t), .int .i64 mi, .slice A fs.length c, .bool cl] ∧ Bk (W'.setCell ⟨g16, 4, none⟩ (.bool cl)) g2 24 [.string ⟨#[]⟩, .string ⟨#[]⟩, .int .i64 0, .slice none 0 0, .bool false] ∧ Rd (W'.setCell ⟨g16, 4, none⟩ (.bool cl)) [g2] A (fs.flatMap fldC) ∧ fs.length ≤ c)) := Lib.hid (fun W' k => by
                              have hs := HC6.out W' k
                              obtain ⟨g0, g1⟩ := hs.hg
                              have kk : Kp [g16] W' (W'.setCell ⟨g16, 4, none⟩ (.bool cl)) := (Kp.refl _ _).setCell (.inl (by simp)) _
                              refine Lib.hid ⟨hs.kp.setCell (.inr (by simp; omega)) _, (hs.b16.set_ 4 _).cast rfl, hs.b2.kp kk (by simp; omega), ?_, hs.own.ncap⟩
                              exact ((hs.own.rd (N := [g2, g16]) (fun b hb => by have := hs.fresh b hb; simp; omega)).kp kk (by simp)).sub (by simp))
                            go_cut [] (fun W' => Hid (Kp [] w W' ∧ Bk W' g16 24 [.string (S m), .string (S t), .int .i64 mi, .slice A fs.length c, .bool cl] ∧ Bk W' g2 24 [.string ⟨#[]⟩, .string ⟨#[]⟩, .int .i64 0, .slice none 0 0, .bool false] ∧ Rd W' [g2] A (fs.flatMap fldC) ∧ fs.length ≤ c))
                            case first =>
                              as_aux_lemma =>
                                cases b1 with
                                | true =>
                                  have e : cl = true := by rw [HCl.out]; rfl
                                  subst e
                                  go_wp2_with (go_at_call 55; ((with_reducible refine HH1.out _ _ K10.out ?_); intro w11 j11 k11; have hs11 := HC6.out _ k11; obtain ⟨⟨c0, c1, c2, c3, c4⟩, ⟨f0, f1, f2, f3, f4⟩⟩ := bk5 hs11.b16))
                                  go_meet
                                  exact HEnd.out _ k11
                                | false =>
                                  rcases hmi2 with rfl | rfl
                                  · cases b2 with
                                    | true =>
                                      have e : cl = false := by rw [HCl.out]; rfl
                                      subst e
                                      go_wp2_with (first | (go_at_call 55; ((with_reducible refine HH1.out _ _ K10.out ?_); intro w11 j11 k11; have hs11 := HC6.out _ k11; obtain ⟨⟨c0, c1, c2, c3, c4⟩, ⟨f0, f1, f2, f3, f4⟩⟩ := bk5 hs11.b16)) | (go_at_call 55; ((with_reducible refine HH2.out _ _ k11 ?_); intro w12 j12 k12; have hs12 := HC6.out _ k12; obtain ⟨⟨c0, c1, c2, c3, c4⟩, ⟨f0, f1, f2, f3, f4⟩⟩ := bk5 hs12.b16)))
                                      go_meet
                                      exact HEnd.out _ k12
                                    | false =>
                                      have e : cl = true := by rw [HCl.out]; rfl
                                      subst e
                                      go_wp2_with (first | (go_at_call 55; ((with_reducible refine HH1.out _ _ K10.out ?_); intro w11 j11 k11; have hs11 := HC6.out _ k11; obtain ⟨⟨c0, c1, c2, c3, c4⟩, ⟨f0, f1, f2, f3, f4⟩⟩ := bk5 hs11.b16)) | (go_at_call 55; ((with_reducible refine HH2.out _ _ k11 ?_); intro w12 j12 k12; have hs12 := HC6.out _ k12; obtain ⟨⟨c0, c1, c2, c3, c4⟩, ⟨f0, f1, f2, f3, f4⟩⟩ := bk5 hs12.b16)))
                                      go_meet
                                      exact HEnd.out _ k12
                                  · have e : cl = false := by rw [HCl.out]; rfl
                                    subst e
                                    go_wp2_with (go_at_call 55; ((with_reducible refine HH1.out _ _ K10.out ?_); intro w11 j11 k11; have hs11 := HC6.out _ k11; obtain ⟨⟨c0, c1, c2, c3, c4⟩, ⟨f0, f1, f2, f3, f4⟩⟩ := bk5 hs11.b16))
                                    go_meet
                                    exact HEnd.out _ k11
                            case rest =>
                              have hq := hcut
                              clear hs10 c0 c1 c2 c3 c4 f0 f1 f2 f3 f4
                              obtain ⟨⟨c0, c1, c2, c3, c4⟩, ⟨f0, f1, f2, f3, f4⟩⟩ := bk5 hq.out.2.1
                              obtain ⟨⟨d0, d1, d2, d3, d4⟩, ⟨e0, e1, e2, e3, e4⟩⟩ := bk5 hq.out.2.2.1
                              go_wp2
                              obtain ⟨W', hW', kW, bW⟩ := put5 hq.out.2.2.1 (.string (S m)) (.string (S t)) (.int .i64 mi) (.slice A fs.length c) (.bool cl)
                              rw [hW']
                              obtain ⟨⟨z0, z1, z2, z3, z4⟩, _⟩ := bk5 bW
                              exact bodyPost_ret (v := .tuple #[.agg #[.string (S m), .string (S t), .int .i64 mi, .slice A fs.length c, .bool cl], .int .i64 ((s.length : Int) - rest.length), .int .i64 0]) (by simp [results, Tryz.results36, go_sem, z0, z1, z2, z3, z4]; try rfl) rfl (H1.out ⟨m, t, mi, fs, cl⟩ rest HFin.out hrl A c _ ((hq.out.1).thn kW (fun s hs => .inr (by have := HG2.out; simp at hs; omega))) ((hq.out.2.2.2.1.kp kW (by simp)).sub (by simp)) hq.out.2.2.2.2)
      · have g5 : ((y5.toNat : Int) != 49) = true := (u8_bne y5 49).trans (by simpa using h49)
        have HEr : Hid ((nextF s).2.1 = 505) := Lib.hid (HE.out 505 (by decide) (by rw [HOf.out, if_pos (by simpa using h49)]))
        clear h49
        go_wp2
        obtain ⟨W', hW', kW, bW⟩ := put5 (HB3.out.2) (.string ⟨#[]⟩) (.string ⟨#[]⟩) (.int .i64 0) (.slice none 0 0) (.bool false)
        rw [hW']
        obtain ⟨⟨z0, z1, z2, z3, z4⟩, _⟩ := bk5 bW
        exact bodyPost_ret (v := .tuple #[.agg #[.string ⟨#[]⟩, .string ⟨#[]⟩, .int .i64 0, .slice none 0 0, .bool false], .int .i64 0, .int .i64 (505)]) (by simp [results, Tryz.results36, go_sem, z0, z1, z2, z3, z4]; try rfl) rfl (H0.out (505) (HEr.out) (by decide) _ ((HB3.out.1).thn kW (fun s hs => .inr (by have := HG2.out; simp at hs; omega))))
end
end
end Go.Proofs.YtnmafahbdfilcaaGreatDoor
