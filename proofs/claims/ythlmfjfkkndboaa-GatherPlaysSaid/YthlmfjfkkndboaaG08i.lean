/- GatherPlays: the calls over both tables. -/
import Derived.Test.YthlmfjfkkndboaaG08g
import Derived.Test.YthlmfjfkkndboaaG08h
import Derived.Test.YthlmfjfkkndboaaRDoA
import Derived.Test.YthlmfjfkkndboaaShows
namespace Go.Proofs.Ythlmfjfkkndboaa
open Go.RowKit
set_option linter.unusedVariables false
set_option linter.unusedSimpArgs false
set_option maxRecDepth 100000
/-- Every frame is nobody's or an environment's. -/
def Own3 (fs : List Fr) : Prop := ∀ x ∈ fs, x.ow = 0 ∨ envB x.ow = true
/-- A frame that is held is an environment's. -/
def OwH (fs : List Fr) : Prop := ∀ x ∈ fs, x.ho ≠ 0 → envB x.ow = true
theorem Own3.turn {fs fs' : List Fr} {a : Ac} (h : Own3 fs) (t : Turn fs a fs') : Own3 fs' := by
  rcases t with rfl | ⟨i, x, x', hx, rfl, _, t⟩
  · exact h
  · intro y hy
    rcases mem_set hy with rfl | hy
    · have hxo := h x (List.mem_of_getElem? hx)
      rcases t with ⟨_, _, he, rfl⟩ | ⟨_, _, _, ho, he, ⟨_, _, rfl⟩ | ⟨_, _, hn, rfl⟩ | ⟨_, _, rfl⟩ | ⟨_, rfl⟩⟩ | ⟨_, _, _, _, _, rfl⟩
      · exact .inr he
      · exact .inl rfl
      · exact .inr hn
      · exact hxo
      · exact hxo
      · exact hxo
    · exact h y hy
theorem OwH.turn {fs fs' : List Fr} {a : Ac} (h : OwH fs) (hb : ∀ x ∈ fs, 0 ≤ x.ho) (t : Turn fs a fs') : OwH fs' := by
  rcases t with rfl | ⟨i, x, x', hx, rfl, _, t⟩
  · exact h
  · intro y hy
    rcases mem_set hy with rfl | hy
    · have hxo := h x (List.mem_of_getElem? hx)
      have hx0 := hb x (List.mem_of_getElem? hx)
      rcases t with ⟨_, hw, he, rfl⟩ | ⟨_, _, _, ho, he, ⟨_, hh, rfl⟩ | ⟨_, hh, hn, rfl⟩ | ⟨_, hh, rfl⟩ | ⟨_, rfl⟩⟩ | ⟨_, _, _, _, hh, rfl⟩
      · intro _; exact he
      · intro h0; exact absurd (show (fz).ho = 0 from rfl) h0
      · intro h0; exact hn
      · intro h0; exact hxo h0
      · intro _; show envB x.ow = true; rw [ho]; exact he
      · intro _; exact hxo hh
    · exact h y hy
/-- What holds of a table in the law. -/
structure GOk (m : Int) (fs : List Fr) : Prop where
  b : ∀ x ∈ fs, 0 ≤ x.ho ∧ x.ho ≤ m
  o : Own3 fs
  h : OwH fs
theorem GOk.mono {m m' : Int} {fs : List Fr} (h : GOk m fs) (hm : m ≤ m') : GOk m' fs := ⟨fun x hx => by have := h.b x hx; omega, h.o, h.h⟩
theorem GOk.hold1 {m : Int} {fs : List Fr} {env : Int} (h : GOk m fs) (f : Int) : GOk (m + 1) (tHold fs env f).2 := by
  unfold tHold
  split
  · rename_i hw
    split
    · exact h.mono (by omega)
    · rename_i x hx
      have hxm := List.mem_of_getElem? (fat_some hx).2
      have hb := h.b x hxm
      have he : envB x.ow = true := by
        unfold ownE at hw
        split at hw
        · rename_i hen
          rw [hx] at hw
          simp only at hw
          split at hw
          · rename_i he; rw [he]; exact hen
          · simp at hw
        · simp at hw
      refine ⟨fun y hy => ?_, fun y hy => ?_, fun y hy h0 => ?_⟩
      · rcases mem_set hy with rfl | hy
        · constructor
          · show 0 ≤ x.ho + 1; omega
          · show x.ho + 1 ≤ _; omega
        · have := h.b y hy; omega
      · rcases mem_set hy with rfl | hy
        · exact h.o x hxm
        · exact h.o y hy
      · rcases mem_set hy with rfl | hy
        · exact he
        · exact h.h y hy h0
  · exact h.mono (by omega)
theorem GOk.gHoldAll {env : Int} : ∀ (l : List Pc) {m : Int} {fs : List Fr}, GOk m fs → GOk (m + l.length) (holdAll fs env l)
  | [], m, fs, h => by
    have e : m + (([] : List Pc).length : Int) = m := by simp
    rw [e]; exact h
  | p :: l, m, fs, h => by
    have := GOk.gHoldAll (env := env) l (h.hold1 (env := env) p.f)
    have e : m + ((p :: l).length : Int) = m + 1 + (l.length : Int) := by rw [List.length_cons]; omega
    rw [e]; exact this
theorem GOk.gDropAll {m : Int} {fs : List Fr} {l : List Pc} (h : GOk m fs) (hd : dropOk fs l) : GOk m (dropAll fs l) := by
  have hk := ok_okD l fs (fun x hx => (h.b x hx).1) hd
  have key : ∀ y ∈ dropAll fs l, ∃ x ∈ fs, y.ow = x.ow ∧ 0 ≤ y.ho ∧ y.ho ≤ x.ho := by
    intro y hy
    obtain ⟨j, hj⟩ := List.getElem?_of_mem hy
    have hjl := (List.getElem?_eq_some_iff.1 hj).1
    rw [dropAll_len] at hjl
    have hx : fs[j]? = some (fs[j]'hjl) := List.getElem?_eq_getElem _
    have hm := List.mem_of_getElem? hx
    generalize fs[j]'hjl = x at hx hm
    rw [dropAll_at l fs hd j x hx] at hj
    injection hj with hj
    subst hj
    refine ⟨x, hm, rfl, ?_, by show x.ho - _ ≤ x.ho; omega⟩
    show 0 ≤ x.ho - (cntF l (j : Int) : Int)
    have hb := h.b x hm
    by_cases hc : cntF l (j : Int) = 0
    · omega
    · have hpos : 0 < l.countP (fun p => p.f == (j : Int)) := by unfold cntF at hc; omega
      obtain ⟨q, hq, hqf⟩ := List.countP_pos_iff.1 hpos
      have hqf' : q.f = (j : Int) := by simpa using hqf
      obtain ⟨z, hz, hzc⟩ := hk q hq
      rw [hqf'] at hz hzc
      have : fat fs (j : Int) = some x := by unfold fat; rw [if_pos (by omega)]; simpa using hx
      rw [this] at hz
      injection hz with hz
      subst hz
      omega
  refine ⟨fun y hy => ?_, fun y hy => ?_, fun y hy h0 => ?_⟩
  · obtain ⟨x, hx, _, h1, h2⟩ := key y hy
    have := h.b x hx; omega
  · obtain ⟨x, hx, e, _, _⟩ := key y hy
    rw [e]; exact h.o x hx
  · obtain ⟨x, hx, e, h1, h2⟩ := key y hy
    rw [e]
    exact h.h x hx (by omega)
/-- Where both tables lie. -/
structure GA where
  bT : Nat
  bL : Nat
  bM : Nat
  bO : Nat
  bH : Nat
  bB : Nat
structure GA.ok (w : World) (g : GA) : Prop where
  l : w.heap.size ≤ g.bL
  o : w.heap.size ≤ g.bO
  h : w.heap.size ≤ g.bH
  b : w.heap.size ≤ g.bB
  t : g.bT < g.bM ∧ g.bT < g.bO ∧ g.bT < g.bH ∧ g.bT < g.bB
  n : g.bL < g.bM ∧ g.bL < g.bO ∧ g.bL < g.bH ∧ g.bL < g.bB
/-- Both tables in memory. -/
structure G2 (w wr : World) (g : GA) (f1 f2 : List Fr) : Prop where
  k : Kp [] w wr
  a : g.ok w
  t : Tab wr g.bT g.bL f1
  m : RT wr g.bM g.bO g.bH g.bB f2
section
variable {R : Ending → World → Prop} {w w1 w' : World} {g : GA} {f1 f2 : List Fr}
theorem G2.kp (h : G2 w w1 g f1 f2) (hk : Kp [] w1 w') : G2 w w' g f1 f2 := ⟨h.k.trans hk, h.a, h.t.kp hk (by simp) (by simp), h.m.kp hk (by simp) (by simp) (by simp) (by simp)⟩
theorem G2.turnT {f1' : List Fr} (h : G2 w w1 g f1 f2) (hk : Kp [g.bL] w1 w') (ht : Tab w' g.bT g.bL f1') : G2 w w' g f1' f2 := by
  have := h.a.n; have := h.a.l
  exact ⟨h.k.thn hk (fun s hs => .inr (by simp at hs; omega)), h.a, ht, h.m.kp hk (by simp; omega) (by simp; omega) (by simp; omega) (by simp; omega)⟩
theorem G2.turnM {f2' : List Fr} (h : G2 w w1 g f1 f2) (hk : Kp [g.bO, g.bH, g.bB] w1 w') (hm : RT w' g.bM g.bO g.bH g.bB f2') : G2 w w' g f1 f2' := by
  have := h.a.n; have := h.a.t; have := h.a.o; have := h.a.h; have := h.a.b
  exact ⟨h.k.thn hk (fun s hs => .inr (by simp at hs; omega)), h.a, h.t.kp hk (by simp; omega) (by simp; omega), hm⟩
/-- A list of pieces that was made anew. -/
structure PL (w : World) (g : GA) (A : Option Addr) (n c : Nat) (l : List Pc) : Prop where
  o : Ow w 98 3 A n c (l.flatMap Pc.vals)
  f : ∀ b ∈ bks A, b ≠ g.bL
theorem PL.rd {A : Option Addr} {n c : Nat} {l : List Pc} (h : PL w1 g A n c l) : Rd w1 [g.bL] A (l.flatMap Pc.vals) := h.o.rd (fun b hb => by simpa using h.f b hb)
theorem PL.cap {A : Option Addr} {n c : Nat} {l : List Pc} (h : PL w1 g A n c l) : n ≤ c := by
  rcases h.o.2 with ⟨hv, h0⟩ | ⟨g', cap, cur, hv, _, _, hnc, _⟩
  · simp at hv; omega
  · simp at hv; omega
variable {A : Option Addr} {n c : Nat} {l : List Pc}
theorem g_of (hg : Hid (G2 w w1 g f1 f2)) (hr : Rd w [] A (l.flatMap Pc.vals)) (hl : l.length = n) (hn : n ≤ 1000) (h : ∀ A' c' w', Hid (G2 w w' g f1 f2) → Hid (PL w' g A' n c' l) → R (.returned (.slice A' n c')) w') : Calls Try.prog 15 #[.slice A n c] w1 R :=
  of_any (hr.kp hg.out.k (by simp)) hl (by omega) (fun A' c' w' k o f => h A' c' w' (Lib.hid (hg.out.kp k)) (Lib.hid ⟨o, fun b hb => by have := f b hb; have := hg.out.t.l.lt; omega⟩))
theorem g_check (env : Int) (hg : Hid (G2 w w1 g f1 f2)) (hp : Hid (PL w1 g A n c l)) (hl : l.length = n) (hn : n ≤ 1000) (hok : ∀ p ∈ l, p.ok) (h : ∀ w', Hid (G2 w w' g f1 f2) → R (.returned (.int .i64 (checkE f1 env l))) w') : Calls Try.prog 14 #[.pointer (some ⟨g.bT, 0, none⟩), .int .i64 env, .slice A n c] w1 R :=
  check_any hg.out.t env hp.out.rd hl (by omega) hok (fun w' k => h w' (Lib.hid (hg.out.kp k)))
theorem g_rcheck (env : Int) (hg : Hid (G2 w w1 g f1 f2)) (hr : Rd w [] A (l.flatMap Pc.vals)) (hl : l.length = n) (hn : n ≤ 1000) (hok : ∀ p ∈ l, p.ok) (h : ∀ w', Hid (G2 w w' g f1 f2) → R (.returned (.int .i64 (checkE f2 env l))) w') : Calls Try.prog 16 #[.pointer (some ⟨g.bM, 0, none⟩), .int .i64 env, .slice A n c] w1 R :=
  rcheck_any hg.out.m env (hr.kp hg.out.k (by simp)) hl (by omega) hok (fun w' k => h w' (Lib.hid (hg.out.kp k)))
theorem g_size (hg : Hid (G2 w w1 g f1 f2)) (hp : Hid (PL w1 g A n c l)) (hl : l.length = n) (hn : n ≤ 1000) (hok : ∀ p ∈ l, p.ok) (h : ∀ w', Hid (G2 w w' g f1 f2) → R (.returned (.int .i64 (psz l))) w') : Calls Try.prog 17 #[.slice A n c] w1 R :=
  gsize_any hp.out.rd hl (by omega) hok (fun w' k => h w' (Lib.hid (hg.out.kp k)))
theorem g_rsize (hg : Hid (G2 w w1 g f1 f2)) (hr : Rd w [] A (l.flatMap Pc.vals)) (hl : l.length = n) (hn : n ≤ 1000) (hok : ∀ p ∈ l, p.ok) (h : R (.returned (.int .i64 (psz l))) w1) : Calls Try.prog 18 #[.slice A n c] w1 R :=
  rsize_any (hr.kp hg.out.k (by simp)) hl (by omega) hok h
def holdE (fs : List Fr) (env : Int) (l : List Pc) : List Fr := if checkE fs env l = 0 then holdAll fs env l else fs
theorem g_hold (env : Int) {m : Int} (hb : GOk m f1) (hm : m ≤ 1000000) (hg : Hid (G2 w w1 g f1 f2)) (hp : Hid (PL w1 g A n c l)) (hl : l.length = n) (hn : n ≤ 1000) (hok : ∀ p ∈ l, p.ok) (h : ∀ w', Hid (G2 w w' g (holdE f1 env l) f2) → R (.returned (.int .i64 (checkE f1 env l))) w') : Calls Try.prog 19 #[.pointer (some ⟨g.bT, 0, none⟩), .int .i64 env, .slice A n c] w1 R :=
  ghold_any hg.out.t env hp.out.rd (fun s hs => .inl hs) hl (by omega) hok (fun y hy => by have := hb.b y hy; omega) (fun fs' w' q k t => h w' (Lib.hid (hg.out.turnT k (by have := congrArg Prod.snd q.out; simp only at this; rw [this] at t; exact t))))
theorem g_rhold (env : Int) {m : Int} (hb : GOk m f2) (hm : m ≤ 1000000) (hg : Hid (G2 w w1 g f1 f2)) (hr : Rd w [] A (l.flatMap Pc.vals)) (hl : l.length = n) (hn : n ≤ 1000) (hok : ∀ p ∈ l, p.ok) (h : ∀ w', Hid (G2 w w' g f1 (holdE f2 env l)) → R (.returned (.int .i64 (checkE f2 env l))) w') : Calls Try.prog 20 #[.pointer (some ⟨g.bM, 0, none⟩), .int .i64 env, .slice A n c] w1 R :=
  rhold_any hg.out.m env (hr.to hg.out.k (by simp) (by have := hg.out.a; have := this.o; have := hg.out.a.h; have := hg.out.a.b; intro s hs; simp at hs; omega)) hl (by omega) hok (fun y hy => by have := hb.b y hy; omega) (fun w' k t => h w' (Lib.hid (hg.out.turnM k t)))
theorem g_fetch (hg : Hid (G2 w w1 g f1 f2)) (hp : Hid (PL w1 g A n c l)) (hl : l.length = n) (hn : n ≤ 1000) (h : ∀ A' c' w', Hid (G2 w w' g f1 f2) → (∀ W', Kp [] w' W' → (convert 44 9 (.slice A' (fetF f1 l).2.length c')).run Try.prog W' = .ok (.string (S (fetF f1 l).2)) W') → R (.returned (.tuple #[.slice A' (fetF f1 l).2.length c', .int .i64 (fetF f1 l).1])) w') : Calls Try.prog 21 #[.pointer (some ⟨g.bT, 0, none⟩), .slice A n c] w1 R :=
  gfetch_any hg.out.t hp.out.rd hl (by omega) (fun e o A' c' w' q k o' _ => by
    have h1 := h A' c' w' (Lib.hid (hg.out.kp k))
    rw [q.out] at h1
    exact h1 (fun W' k' => conv_bs ((o'.rd (N := []) (by simp)).kp k' (by simp)) rfl))
theorem g_rfetch (hg : Hid (G2 w w1 g f1 f2)) (hr : Rd w [] A (l.flatMap Pc.vals)) (hl : l.length = n) (hn : n ≤ 1000) (hok : ∀ p ∈ l, p.ok) (h : ∀ w', Hid (G2 w w' g f1 f2) → Kp [] w1 w' → R (.returned (.tuple #[.string (S (fetF f2 l).2), .int .i64 (fetF f2 l).1])) w') (hpg : ∀ x ∈ f2, x.bs.length = 256) : Calls Try.prog 22 #[.pointer (some ⟨g.bM, 0, none⟩), .slice A n c] w1 R :=
  rfetch_any hg.out.m hpg (hr.kp hg.out.k (by simp)) hl hn hok (fun e o w' q k => by
    have h1 := h w' (Lib.hid (hg.out.kp k)) k
    rw [q.out] at h1
    exact h1)
theorem g_drop {m : Int} (hb : GOk m f1) (hm : m ≤ 1000000) (hg : Hid (G2 w w1 g f1 f2)) (hp : Hid (PL w1 g A n c l)) (hl : l.length = n) (hn : n ≤ 1000) (h : ∀ w', Hid (G2 w w' g (gdropE f1 l).2 f2) → R (.returned (.int .i64 (gdropE f1 l).1)) w') : Calls Try.prog 24 #[.pointer (some ⟨g.bT, 0, none⟩), .slice A n c] w1 R :=
  gdrop2_any hg.out.t hp.out.rd hl hn hp.out.cap (fun y hy => by have := hb.b y hy; omega) hb.h (fun w' k t => h w' (Lib.hid (hg.out.turnT k t)))
theorem g_rdrop {m : Int} (hb : GOk m f2) (hm : m ≤ 1000000) (hg : Hid (G2 w w1 g f1 f2)) (hr : Rd w [] A (l.flatMap Pc.vals)) (hl : l.length = n) (hn : n ≤ 1000) (hok : ∀ p ∈ l, p.ok) (h : ∀ w', Hid (G2 w w' g f1 (gdropE f2 l).2) → R (.returned (.int .i64 (gdropE f2 l).1)) w') : Calls Try.prog 25 #[.pointer (some ⟨g.bM, 0, none⟩), .slice A n c] w1 R := by
  cases hd : l.any (dbad f2 l) with
  | true =>
    have e : gdropE f2 l = (1, f2) := by unfold gdropE; rw [if_pos hd]
    rw [e] at h
    exact rdrop_bad hg.out.m (hr.kp hg.out.k (by simp)) hl (by omega) hok hd (h w1 hg)
  | false =>
    have e : gdropE f2 l = (0, l.foldl decF f2) := by unfold gdropE; rw [if_neg (by rw [hd]; simp)]
    rw [e] at h
    exact rdrop_good hg.out.m (hr.kp hg.out.k (by simp)) hl (by omega) hok hd (fun y hy => by have := hb.b y hy; omega) (hr.to hg.out.k (by simp) (by have := hg.out.a.o; have := hg.out.a.h; have := hg.out.a.b; intro s hs; simp at hs; omega)) (fun w' k t => h w' (Lib.hid (hg.out.turnM k t)))
theorem g_shows {m : Int} {fs : List Fr} (hb : GOk m fs) (hg : Hid (G2 w w1 g fs fs)) (h : ∀ w', Hid (G2 w w' g fs fs) → R (.returned (.bool true)) w') : Calls Try.prog 23 #[.pointer (some ⟨g.bT, 0, none⟩), .pointer (some ⟨g.bM, 0, none⟩)] w1 R :=
  shows_any hg.out.t hg.out.m hb.o (fun w' k => h w' (Lib.hid (hg.out.kp k)))
theorem GOk.gHoldE {m : Int} {fs : List Fr} {env : Int} (h : GOk m fs) : GOk (m + l.length) (holdE fs env l) := by
  unfold holdE
  split
  · exact h.gHoldAll l
  · exact h.mono (by omega)
theorem GOk.gDropE {m : Int} {fs : List Fr} (h : GOk m fs) : GOk m (gdropE fs l).2 := by
  cases hd : l.any (dbad fs l) with
  | true =>
    have e : gdropE fs l = (1, fs) := by unfold gdropE; rw [if_pos hd]
    rw [e]; exact h
  | false =>
    have hk := okD_ok l fs (dbad_okD.1 hd)
    rw [gdropE_ok (fun x hx => (h.b x hx).1) hk]
    exact h.gDropAll hk
end
end Go.Proofs.Ythlmfjfkkndboaa
