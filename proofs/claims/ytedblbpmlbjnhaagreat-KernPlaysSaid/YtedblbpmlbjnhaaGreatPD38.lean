/- pantlerlaw05.Shows: a table shows what the document's does. GatherPlays: the calls over both tables. -/
import Derived.Test.YtedblbpmlbjnhaaGreatPD30
import Derived.Test.YtedblbpmlbjnhaaGreatPD36
import Derived.Test.YtedblbpmlbjnhaaGreatPD37
import Derived.Test.YtedblbpmlbjnhaaGreatPD33
namespace Go.Proofs.YtedblbpmlbjnhaaGreat
/-! ### pantlerlaw05.Shows: a table shows what the document's does. -/
section
open Go.RowKit
set_option linter.unusedVariables false
set_option linter.unusedSimpArgs false
set_option maxRecDepth 100000
section
variable {R : Ending → World → Prop} {bT bL bM bO bH bB : Nat} {fs : List Fr} {w : World}
theorem owner_at {i : Nat} {x : Fr} (hT : Tab w bT bL fs) (hx : fs[i]? = some x) (h : R (.returned (.int .i64 x.ow)) w) : Calls Tryz.prog 70 #[.pointer (some ⟨bT, 0, none⟩), .int .i64 i] w R :=
  owner_any hT i (fun n e => by have : n = x.ow := by rw [← e.out]; unfold tOwner fat; rw [if_pos (by omega), Int.toNat_natCast, hx]
                                rw [this]; exact h)
theorem holds_at {i : Nat} {x : Fr} (hT : Tab w bT bL fs) (hx : fs[i]? = some x) (h : R (.returned (.int .i64 x.ho)) w) : Calls Tryz.prog 71 #[.pointer (some ⟨bT, 0, none⟩), .int .i64 i] w R :=
  holds_any hT i (fun n e => by have : n = x.ho := by rw [← e.out]; unfold tHolds fat; rw [if_pos (by omega), Int.toNat_natCast, hx]
                                rw [this]; exact h)
theorem owner_out {f : Int} (hT : Tab w bT bL fs) (hf : f < 0 ∨ (fs.length : Int) ≤ f) (h : R (.returned (.int .i64 0)) w) : Calls Tryz.prog 70 #[.pointer (some ⟨bT, 0, none⟩), .int .i64 f] w R :=
  owner_any hT f (fun n e => by
    have hx : fat fs f = none := by
      unfold fat; split
      · exact List.getElem?_eq_none (by omega)
      · rfl
    have : n = 0 := by rw [← e.out]; unfold tOwner; rw [hx]
    rw [this]; exact h)
theorem holds_out {f : Int} (hT : Tab w bT bL fs) (hf : f < 0 ∨ (fs.length : Int) ≤ f) (h : R (.returned (.int .i64 0)) w) : Calls Tryz.prog 71 #[.pointer (some ⟨bT, 0, none⟩), .int .i64 f] w R :=
  holds_any hT f (fun n e => by
    have hx : fat fs f = none := by
      unfold fat; split
      · exact List.getElem?_eq_none (by omega)
      · rfl
    have : n = 0 := by rw [← e.out]; unfold tHolds; rw [hx]
    rw [this]; exact h)
theorem read_at {i : Nat} {x : Fr} (hT : Tab w bT bL fs) (hx : fs[i]? = some x) (hn : envB x.ow = true) (h : ∀ A c w', Kp [] w w' → Ow w' 5 1 A 256 c (bts x.bs) → R (.returned (.tuple #[.slice A 256 c, .int .i64 0])) w') :
    Calls Tryz.prog 72 #[.pointer (some ⟨bT, 0, none⟩), .int .i64 x.ow, .int .i64 i, .int .i64 0, .int .i64 256] w R :=
  read_any hT _ _ _ _ (fun e l A c w' q k ho hb => by
    have hf : fat fs (i : Int) = some x := by unfold fat; rw [if_pos (by omega), Int.toNat_natCast, hx]
    have hpg := hT.pgAt hx
    have hq : ownE fs x.ow i = 0 := by unfold ownE; rw [hn, hf]; simp
    have hs : spanB 0 256 = true := by decide
    have hr : tRead fs x.ow i 0 256 = (0, x.bs) := by
      unfold tRead
      rw [hq, hs, hf]
      simp only [if_true, Bool.true_eq_false, if_false]
      have : cutB x.bs 0 256 = x.bs := by
        unfold cutB
        exact List.take_of_length_le (by simp; omega)
      rw [this]
    rw [hr] at q
    have q1 := congrArg Prod.fst q.out
    have q2 := congrArg Prod.snd q.out
    simp only at q1 q2
    subst q1; subst q2
    rw [hpg] at ho ⊢
    exact h A c w' k ho)
set_option maxHeartbeats 4000000 in
theorem shows_any (hT : Tab w bT bL fs) (hM : RT w bM bO bH bB fs) (hok : ∀ x ∈ fs, x.ow = 0 ∨ envB x.ow = true) (h : ∀ w', Kp [] w w' → R (.returned (.bool true)) w') :
    Calls Tryz.prog 16 #[.pointer (some ⟨bT, 0, none⟩), .pointer (some ⟨bM, 0, none⟩)] w R := by
  have H := Lib.hid h
  have HT := Lib.hid hT
  have HM := Lib.hid hM
  have HK := Lib.hid hok
  have hn := hT.n1
  obtain ⟨c0, c1, c2, ht⟩ := hM.t
  have HTT := Lib.hid ht
  have q0 := ht.cell 0
  simp only [List.getElem?_cons_zero] at q0
  clear h hT hM hok ht
  go_enter Tryz.func16, Tryz.ntmps16
  go_wp2_with fail
  refine wp_region_kp (by kernel_rfl) (by kernel_rfl) ?_
  repeat (quiet_step (first | (go_at_call 67; (refine size_any (HT.out.kp (kpw_kp _ _) (by simp) (by simp)) ?_); exact ⟨rfl, _, rfl⟩) | (go_at_call 68; (refine count_any (HT.out.kp (kpw_kp _ _) (by simp) (by simp)) ?_); exact ⟨rfl, _, rfl⟩) | (go_at_call 69; (refine rcount_any (HM.out.kp (kpw_kp _ _) (by simp) (by simp) (by simp) (by simp)) ?_); exact ⟨rfl, _, rfl⟩)))
  refine wpQuiet_nil ?_
  intro w1 k1
  go_wp2
  clear q0
  go_loopw [5] (fun iv wr => ∃ k : Nat, k ≤ fs.length ∧ iv = .int .i64 k ∧ Kp [] w wr) (fun iv _ => fs.length - (intOf iv).toNat)
  case atStart => exact ⟨0, Nat.zero_le _, rfl, k1⟩
  case round =>
    obtain ⟨k, hk, rfl, kr⟩ := hrel
    have tr := HT.out.kp kr (by simp) (by simp)
    have mr := HM.out.kp kr (by simp) (by simp) (by simp) (by simp)
    have htr := HTT.out.kp kr (by simp)
    have q0 := htr.cell 0
    have q1 := htr.cell 1
    have q2 := htr.cell 2
    simp only [List.getElem?_cons_zero, List.getElem?_cons_succ] at q0 q1 q2
    have TR := Lib.hid tr
    have MR := Lib.hid mr
    clear htr tr mr
    by_cases hlt : k < fs.length
    · obtain ⟨x, hx⟩ : ∃ x, fs[k]? = some x := ⟨_, List.getElem?_eq_getElem hlt⟩
      have x0 := MR.out.ow hx
      have x1 := MR.out.ho hx
      have x2 := MR.out.bs hx
      have HX := Lib.hid hx
      have hox := HK.out x (List.mem_of_getElem? hx)
      clear hx
      go_wp2_with fail
      refine wp_region_kp (by kernel_rfl) (by kernel_rfl) ?_
      repeat (quiet_step (first | (go_at_call 70; (refine owner_at (TR.out.kp (kpw_kp _ _) (by simp) (by simp)) HX.out ?_); exact ⟨rfl, _, rfl⟩) | (go_at_call 71; (refine holds_at (TR.out.kp (kpw_kp _ _) (by simp) (by simp)) HX.out ?_); exact ⟨rfl, _, rfl⟩)))
      refine wpQuiet_nil ?_
      intro w2 k2
      have y0 := (k2.cell (p := ⟨bM, 0, none⟩) (World.block_lt_of_cell? wr _ q0) (by simp)).trans q0
      have y1 := (k2.cell (p := ⟨bO, k, none⟩) (World.block_lt_of_cell? wr _ x0) (by simp)).trans x0
      have t2 := TR.out.kp k2 (by simp) (by simp)
      have T2 := Lib.hid t2
      clear t2
      cases hb : (x.ow == 0)
      · have hen : envB x.ow = true := hox.resolve_left (by simpa using hb)
        go_wp2_with (go_at_call 72; ((refine read_at T2.out HX.out hen ?_); intro A3 c3 w3 k3 ho3; have cv3 := fun k => conv_bsN (c := c3) (ho3.rd (N := []) (by simp)) (T2.out.pgAt HX.out) k))
        have u2 := (k3.cell (p := ⟨bM, 2, none⟩) (World.block_lt_of_cell? w2 _ ((k2.cell (p := ⟨bM, 2, none⟩) (World.block_lt_of_cell? wr _ q2) (by simp)).trans q2)) (by simp)).trans ((k2.cell (p := ⟨bM, 2, none⟩) (World.block_lt_of_cell? wr _ q2) (by simp)).trans q2)
        have u3 := (k3.cell (p := ⟨bB, k, none⟩) (World.block_lt_of_cell? w2 _ ((k2.cell (p := ⟨bB, k, none⟩) (World.block_lt_of_cell? wr _ x2) (by simp)).trans x2)) (by simp)).trans ((k2.cell (p := ⟨bB, k, none⟩) (World.block_lt_of_cell? wr _ x2) (by simp)).trans x2)
        go_quiet (fail)
        go_wp2
        exact ⟨⟨k + 1, by omega, by go_num, ((kr.trans k2).trans k3).drewN _⟩, by simp [intOf]; omega⟩
      · go_wp2
        exact ⟨⟨k + 1, by omega, by go_num, kr.trans k2⟩, by simp [intOf]; omega⟩
    · obtain rfl : k = fs.length := by omega
      go_wp2_with fail
      refine wp_region_kp (by kernel_rfl) (by kernel_rfl) ?_
      repeat (quiet_step (first | (go_at_call 70; (refine owner_out (TR.out.kp (kpw_kp _ _) (by simp) (by simp)) (by omega) ?_); exact ⟨rfl, _, rfl⟩) | (go_at_call 71; (refine holds_out (TR.out.kp (kpw_kp _ _) (by simp) (by simp)) (by omega) ?_); exact ⟨rfl, _, rfl⟩)))
      refine wpQuiet_nil ?_
      intro w2 k2
      go_wp2
      exact H.out _ (kr.trans k2)
end
end
/-! ### GatherPlays: the calls over both tables. -/
section
open Go.RowKit
set_option linter.unusedVariables false
set_option linter.unusedSimpArgs false
set_option maxRecDepth 100000
/-- Every frame is nobody's or an environment's. -/
def Own3 (fs : List Fr) : Prop := ∀ x ∈ fs, x.ow = 0 ∨ envB x.ow = true
/-- A frame that is held is an environment's. -/
def OwH (fs : List Fr) : Prop := ∀ x ∈ fs, x.ho ≠ 0 → envB x.ow = true
theorem Own3.turn {fs fs' : List Fr} {a : Ac} (h : Own3 fs) (t : Turn fs a fs') : Own3 fs' := by
  rcases t with rfl | ⟨i, x, x', hx, rfl, _, t⟩
  · exact h
  · intro y hy
    rcases mem_set hy with rfl | hy
    · have hxo := h x (List.mem_of_getElem? hx)
      rcases t with ⟨_, _, he, rfl⟩ | ⟨_, _, _, ho, he, ⟨_, _, rfl⟩ | ⟨_, _, hn, rfl⟩ | ⟨_, _, rfl⟩ | ⟨_, rfl⟩⟩ | ⟨_, _, _, _, _, rfl⟩
      · exact .inr he
      · exact .inl rfl
      · exact .inr hn
      · exact hxo
      · exact hxo
      · exact hxo
    · exact h y hy
theorem OwH.turn {fs fs' : List Fr} {a : Ac} (h : OwH fs) (hb : ∀ x ∈ fs, 0 ≤ x.ho) (t : Turn fs a fs') : OwH fs' := by
  rcases t with rfl | ⟨i, x, x', hx, rfl, _, t⟩
  · exact h
  · intro y hy
    rcases mem_set hy with rfl | hy
    · have hxo := h x (List.mem_of_getElem? hx)
      have hx0 := hb x (List.mem_of_getElem? hx)
      rcases t with ⟨_, hw, he, rfl⟩ | ⟨_, _, _, ho, he, ⟨_, hh, rfl⟩ | ⟨_, hh, hn, rfl⟩ | ⟨_, hh, rfl⟩ | ⟨_, rfl⟩⟩ | ⟨_, _, _, _, hh, rfl⟩
      · intro _; exact he
      · intro h0; exact absurd (show (fz).ho = 0 from rfl) h0
      · intro h0; exact hn
      · intro h0; exact hxo h0
      · intro _; show envB x.ow = true; rw [ho]; exact he
      · intro _; exact hxo hh
    · exact h y hy
/-- What holds of a table in the law. -/
structure GOk (m : Int) (fs : List Fr) : Prop where
  b : ∀ x ∈ fs, 0 ≤ x.ho ∧ x.ho ≤ m
  o : Own3 fs
  h : OwH fs
theorem GOk.mono {m m' : Int} {fs : List Fr} (h : GOk m fs) (hm : m ≤ m') : GOk m' fs := ⟨fun x hx => by have := h.b x hx; omega, h.o, h.h⟩
theorem GOk.hold1 {m : Int} {fs : List Fr} {env : Int} (h : GOk m fs) (f : Int) : GOk (m + 1) (tHold fs env f).2 := by
  unfold tHold
  split
  · rename_i hw
    split
    · exact h.mono (by omega)
    · rename_i x hx
      have hxm := List.mem_of_getElem? (fat_some hx).2
      have hb := h.b x hxm
      have he : envB x.ow = true := by
        unfold ownE at hw
        split at hw
        · rename_i hen
          rw [hx] at hw
          simp only at hw
          split at hw
          · rename_i he; rw [he]; exact hen
          · simp at hw
        · simp at hw
      refine ⟨fun y hy => ?_, fun y hy => ?_, fun y hy h0 => ?_⟩
      · rcases mem_set hy with rfl | hy
        · constructor
          · show 0 ≤ x.ho + 1; omega
          · show x.ho + 1 ≤ _; omega
        · have := h.b y hy; omega
      · rcases mem_set hy with rfl | hy
        · exact h.o x hxm
        · exact h.o y hy
      · rcases mem_set hy with rfl | hy
        · exact he
        · exact h.h y hy h0
  · exact h.mono (by omega)
theorem GOk.gHoldAll {env : Int} : ∀ (l : List Pc) {m : Int} {fs : List Fr}, GOk m fs → GOk (m + l.length) (holdAll fs env l)
  | [], m, fs, h => by
    have e : m + (([] : List Pc).length : Int) = m := by simp
    rw [e]; exact h
  | p :: l, m, fs, h => by
    have := GOk.gHoldAll (env := env) l (h.hold1 (env := env) p.f)
    have e : m + ((p :: l).length : Int) = m + 1 + (l.length : Int) := by rw [List.length_cons]; omega
    rw [e]; exact this
theorem GOk.gDropAll {m : Int} {fs : List Fr} {l : List Pc} (h : GOk m fs) (hd : dropOk fs l) : GOk m (dropAll fs l) := by
  have hk := ok_okD l fs (fun x hx => (h.b x hx).1) hd
  have key : ∀ y ∈ dropAll fs l, ∃ x ∈ fs, y.ow = x.ow ∧ 0 ≤ y.ho ∧ y.ho ≤ x.ho := by
    intro y hy
    obtain ⟨j, hj⟩ := List.getElem?_of_mem hy
    have hjl := (List.getElem?_eq_some_iff.1 hj).1
    rw [dropAll_len] at hjl
    have hx : fs[j]? = some (fs[j]'hjl) := List.getElem?_eq_getElem _
    have hm := List.mem_of_getElem? hx
    generalize fs[j]'hjl = x at hx hm
    rw [dropAll_at l fs hd j x hx] at hj
    injection hj with hj
    subst hj
    refine ⟨x, hm, rfl, ?_, by show x.ho - _ ≤ x.ho; omega⟩
    show 0 ≤ x.ho - (cntF l (j : Int) : Int)
    have hb := h.b x hm
    by_cases hc : cntF l (j : Int) = 0
    · omega
    · have hpos : 0 < l.countP (fun p => p.f == (j : Int)) := by unfold cntF at hc; omega
      obtain ⟨q, hq, hqf⟩ := List.countP_pos_iff.1 hpos
      have hqf' : q.f = (j : Int) := by simpa using hqf
      obtain ⟨z, hz, hzc⟩ := hk q hq
      rw [hqf'] at hz hzc
      have : fat fs (j : Int) = some x := by unfold fat; rw [if_pos (by omega)]; simpa using hx
      rw [this] at hz
      injection hz with hz
      subst hz
      omega
  refine ⟨fun y hy => ?_, fun y hy => ?_, fun y hy h0 => ?_⟩
  · obtain ⟨x, hx, _, h1, h2⟩ := key y hy
    have := h.b x hx; omega
  · obtain ⟨x, hx, e, _, _⟩ := key y hy
    rw [e]; exact h.o x hx
  · obtain ⟨x, hx, e, h1, h2⟩ := key y hy
    rw [e]
    exact h.h x hx (by omega)
/-- Where both tables lie. -/
structure GA where
  bT : Nat
  bL : Nat
  bM : Nat
  bO : Nat
  bH : Nat
  bB : Nat
structure GA.ok (w : World) (g : GA) : Prop where
  l : w.heap.size ≤ g.bL
  o : w.heap.size ≤ g.bO
  h : w.heap.size ≤ g.bH
  b : w.heap.size ≤ g.bB
  t : g.bT < g.bM ∧ g.bT < g.bO ∧ g.bT < g.bH ∧ g.bT < g.bB
  n : g.bL < g.bM ∧ g.bL < g.bO ∧ g.bL < g.bH ∧ g.bL < g.bB
/-- Both tables in memory. -/
structure G2 (w wr : World) (g : GA) (f1 f2 : List Fr) : Prop where
  k : Kp [] w wr
  a : g.ok w
  t : Tab wr g.bT g.bL f1
  m : RT wr g.bM g.bO g.bH g.bB f2
section
variable {R : Ending → World → Prop} {w w1 w' : World} {g : GA} {f1 f2 : List Fr}
theorem G2.kp (h : G2 w w1 g f1 f2) (hk : Kp [] w1 w') : G2 w w' g f1 f2 := ⟨h.k.trans hk, h.a, h.t.kp hk (by simp) (by simp), h.m.kp hk (by simp) (by simp) (by simp) (by simp)⟩
/-- A list of pieces that was made anew. -/
structure PL (w : World) (g : GA) (A : Option Addr) (n c : Nat) (l : List Pc) : Prop where
  o : Ow w 187 3 A n c (l.flatMap Pc.vals)
  f : ∀ b ∈ bks A, b ≠ g.bL
theorem PL.rd {A : Option Addr} {n c : Nat} {l : List Pc} (h : PL w1 g A n c l) : Rd w1 [g.bL] A (l.flatMap Pc.vals) := h.o.rd (fun b hb => by simpa using h.f b hb)
theorem PL.cap {A : Option Addr} {n c : Nat} {l : List Pc} (h : PL w1 g A n c l) : n ≤ c := by
  rcases h.o.2 with ⟨hv, h0⟩ | ⟨g', cap, cur, hv, _, _, hnc, _⟩
  · simp at hv; omega
  · simp at hv; omega
variable {A : Option Addr} {n c : Nat} {l : List Pc}
def holdE (fs : List Fr) (env : Int) (l : List Pc) : List Fr := if checkE fs env l = 0 then holdAll fs env l else fs
end
end
end Go.Proofs.YtedblbpmlbjnhaaGreat
