/- KernCounts walked. -/
import Derived.Test.YtogipajanbgenaaArr
import Derived.ArgAppend
import Derived.Test.YtogipajanbgenaaKw
import Derived.Deep.DeepCutAuto
import Derived.Deep.CutBlock
namespace Go.Proofs.Ytogipajanbgenaa
open Go.RowKit Go.Shelf
set_option linter.unusedVariables false
set_option linter.unusedSimpArgs false
set_option maxRecDepth 100000
def Sg (w : World) (e : Nat) (A : Option Addr) (n c : Nat) (xs : List Value) : Prop :=
  xs.length = n ∧ n ≤ c ∧ ((A = none ∧ c = 0) ∨ ∃ (g o : Nat) (cur : Array Value), A = some ⟨g, o, none⟩ ∧ w.heap[g]? = some (.cells cur e (0, 0)) ∧ o + c ≤ cur.size ∧ ∀ (j : Nat) (u : Value), xs[j]? = some u → cur[o + j]? = some u)
section
variable {w w' : World} {e n c : Nat} {A : Option Addr} {xs : List Value} {S : List Nat}
theorem Sg.nil : Sg w e none 0 0 [] := ⟨rfl, Nat.le_refl _, .inl ⟨rfl, rfl⟩⟩
theorem Sg.same (h : Sg w e A n c xs) (hk : ∀ b ∈ bks A, w'.heap[b]? = w.heap[b]?) : Sg w' e A n c xs := by
  refine ⟨h.1, h.2.1, h.2.2.imp id ?_⟩
  rintro ⟨g, o, cur, rfl, hg, h1, h2⟩
  exact ⟨g, o, cur, rfl, (hk g (by simp [bks])).trans hg, h1, h2⟩
theorem Sg.lt (h : Sg w e A n c xs) : ∀ b ∈ bks A, b < w.heap.size := by
  intro b hb
  rcases h.2.2 with ⟨rfl, _⟩ | ⟨g, o, cur, rfl, hg, _⟩
  · simp [bks] at hb
  · simp [bks] at hb; subst hb
    exact (Array.getElem?_eq_some_iff.1 hg).1
theorem Sg.kp (h : Sg w e A n c xs) (hk : Kp S w w') (hn : ∀ b ∈ bks A, b ∉ S) : Sg w' e A n c xs := h.same fun b hb => hk.block b (h.lt b hb) (hn b hb)
theorem Sg.cast {n' : Nat} {xs' : List Value} (h : Sg w e A n c xs) (hn : n = n') (hx : xs = xs') : Sg w e A n' c xs' := by subst hn; subst hx; exact h
theorem Sg.cell (h : Sg w e A n c xs) {j : Nat} {u : Value} (hu : xs[j]? = some u) : ∃ g o, A = some ⟨g, o, none⟩ ∧ w.cell? ⟨g, o + j, none⟩ = some u := by
  have hj : j < xs.length := (List.getElem?_eq_some_iff.1 hu).1
  have h1 := h.1
  have h2 := h.2.1
  rcases h.2.2 with ⟨rfl, hc⟩ | ⟨g, o, cur, rfl, hg, _, h4⟩
  · omega
  · exact ⟨g, o, rfl, by rw [cell_of_row w g _ cur e (0, 0) hg]; exact h4 j u hu⟩
theorem Sg.rd (h : Sg w e A n c xs) : Rd w [] A xs := fun hx => by
  have h1 := h.1
  have h2 := h.2.1
  have h0 : 0 < xs.length := List.length_pos_iff.2 hx
  rcases h.2.2 with ⟨rfl, hc⟩ | ⟨g, o, cur, rfl, hg, _, h4⟩
  · omega
  · exact ⟨g, o, rfl, by simp, (Array.getElem?_eq_some_iff.1 hg).1, fun j u hu => by rw [cell_of_row w g _ cur e (0, 0) hg]; exact h4 j u hu⟩
/-- Cut in front. -/
theorem Sg.tail {x : Value} (h : Sg w e A n c (x :: xs)) : Sg w e (if c = 1 then A else A.map (·.add 1)) (n - 1) (c - 1) xs := by
  have h1 := h.1
  simp only [List.length_cons] at h1
  have h2 := h.2.1
  refine ⟨by omega, by omega, ?_⟩
  rcases h.2.2 with ⟨rfl, hc⟩ | ⟨g, o, cur, rfl, hg, h3, h4⟩
  · omega
  · right
    by_cases hc : c = 1
    · rw [if_pos hc]
      refine ⟨g, o, cur, rfl, hg, by omega, fun j u hu => ?_⟩
      have := (List.getElem?_eq_some_iff.1 hu).1
      omega
    · rw [if_neg hc]
      have e2 : (⟨g, o, none⟩ : Addr).add 1 = ⟨g, o + 1, none⟩ := by unfold Addr.add; split <;> simp_all
      refine ⟨g, o + 1, cur, by rw [Option.map_some, e2], hg, by omega, fun j u hu => ?_⟩
      have := h4 (j + 1) u (by simpa using hu)
      rwa [show o + (j + 1) = o + 1 + j by omega] at this
theorem bks_tail (k : Prop) [Decidable k] (A : Option Addr) : bks (if k then A else A.map (·.add 1)) = bks A := by
  split
  · rfl
  · cases A with
    | none => rfl
    | some a => simp only [Option.map_some, bks]; unfold Addr.add; split <;> rfl
variable {P : Program}
theorem run_sg {t ty : Nat} {z : Value} {by_ : Nat} (hE : Elt P t e z 1 by_) (h : Sg w e A n c xs) (N : List Nat) (A2 : Option Addr) (c2 : Nat) (u : Value) (hr : Rd w N A2 [u]) (h1 : u.oneCell' = true) (hb : n ≤ 1000000) :
    ∃ A' c' w', (Builtin.append_ #[t, t] ty #[.slice A n c, .slice A2 1 c2]).run P w = .ok (.slice A' (n + 1) c') w' ∧ Sg w' e A' (n + 1) c' (xs ++ [u]) ∧ Kp (bks A) w w' ∧ (∀ b ∈ bks A', b ∈ bks A ∨ w.heap.size ≤ b) := by
  have hE' := hE
  obtain ⟨ht, hi, hzs, hsz, hby⟩ := hE
  obtain ⟨i, hi, hz, hs, hby'⟩ := info_parts hi
  obtain ⟨ad, rfl, hc2⟩ := hr.src (by simp)
  have own : ∀ {v' : Value} {W : World} {B : Nat}, W.ownsRow B e 1 v' (n + 1) (xs ++ [u]) → ∃ g c', v' = .slice (some ⟨g, 0, none⟩) (n + 1) c' ∧ B ≤ g ∧ Sg W e (some ⟨g, 0, none⟩) (n + 1) c' (xs ++ [u]) := by
    intro v' W B ho
    rcases ho.2 with ⟨_, h0⟩ | ⟨g, cap, cur, rfl, hB, hg, hnc, _, hcs, htk⟩
    · omega
    · refine ⟨g, cap, rfl, hB, by rw [ho.1]; omega, hnc, .inr ⟨g, 0, cur, rfl, hg, by omega, fun j v hv => ?_⟩⟩
      rw [← htk, List.getElem?_take] at hv
      split at hv
      · rw [Nat.zero_add]; simpa using hv
      · cases hv
  have hl := h.1
  rcases h.2.2 with ⟨rfl, rfl⟩ | ⟨g, o, cur, rfl, hg, hsz2, hcur⟩
  · have hn : n = 0 := by have := h.2.1; omega
    subst hn
    have hx : xs = [] := List.length_eq_zero_iff.1 hl
    subst hx
    obtain ⟨A', c', w', hrun, how, hk, hA⟩ := run_app (P := P) w (ty := ty) hE' none 0 0 [] Ow.nil N (some ad) 1 c2 [u] hr rfl (by intro v hv; simp at hv; subst hv; exact h1) (by omega)
    rcases hA with rfl | rfl
    · have := how.form (by omega)
      obtain ⟨g, hg, _⟩ := this
      cases hg
    · refine ⟨_, c', w', hrun, ?_, hk, fun b hb => .inr (by simp [bks] at hb; omega)⟩
      obtain ⟨g, c3, hv, _, hS⟩ := own (B := 0) how
      injection hv with e1 e2 e3
      rw [e1, e3]
      exact hS
  · by_cases hroom : n + 1 ≤ c
    · have hcell : ∀ j, (w.cell? ⟨g, o + n + j, none⟩) = cur[o + n + j]? := fun j => cell_of_row w g _ cur e (0, 0) hg
      have hrun := run_append_room_cells (P := P) w t ty e i ht hi g o n c ad 1 c2 [u] (by rw [hs]; rfl) hc2 (by intro v hv; simp at hv; subst hv; exact h1) hroom (fun j hj => by
        simp at hj; subst hj
        rw [hs, Nat.mul_one, hcell, Array.getElem?_eq_getElem (by omega)]; rfl) (fun j hj => by simp [World.frozen?, hg])
      rw [hs, Nat.mul_one] at hrun
      refine ⟨_, c, _, hrun, ⟨by simp [hl], hroom, .inr ⟨g, o, cur.set (o + n) u (by omega), rfl, ?_, by simpa using hsz2, fun j v hv => ?_⟩⟩, ?_, fun b hb => .inl hb⟩
      · simp [World.setCells, World.setCell, Array.getElem?_modify, hg, Array.setIfInBounds, show o + n < cur.size by omega]
      · rcases Nat.lt_or_ge j n with hj | hj
        · rw [List.getElem?_append_left (by omega)] at hv
          rw [Array.getElem?_set_ne (by omega) (by omega)]
          exact hcur j v hv
        · have hj2 : j = n := by
            rcases Nat.lt_or_ge n j with hjn | hjn
            · rw [List.getElem?_eq_none (by simp; omega)] at hv; cases hv
            · omega
          subst hj2
          rw [← hl, List.getElem?_concat_length] at hv
          injection hv with hv
          subst hv
          simp
      · exact (Kp.refl _ _).setCell (p := ⟨g, o + n, none⟩) (.inl (by simp [bks])) u
    · obtain ⟨v', w', hrun, how, hgr⟩ := run_append_arg_grows (P := P) w t ty e i z 1 by_ ht hi hz hs hby' hzs (by omega) ⟨g, o, none⟩ n c xs (by omega) (fun j v hv => by
        have e2 : (⟨g, o, none⟩ : Addr).add j = ⟨g, o + j, none⟩ := by unfold Addr.add; split <;> simp_all
        rw [e2, cell_of_row w g _ cur e (0, 0) hg]; exact hcur j v hv) ad 1 c2 [u] rfl hc2 (by omega) (by simp only [maxLen]; omega) (Nat.le_trans (Nat.mul_le_mul (show n + 1 ≤ 1000001 by omega) hby) (by decide))
      obtain ⟨g', c', rfl, hB, hS⟩ := own how
      have hk : Kp [] w w' := (Kp.refl _ w).grown hgr (by intro k hk; cases hk)
      exact ⟨_, c', w', hrun, hS, hk.mono (by simp), fun b hb => .inr (by simp [bks] at hb; omega)⟩
/-- append of one element, for the walk. -/
theorem wpList_sg {ops : Array Oper} {rest : List Oper} {o : Oper} {a : Act} {Q : Exit → Act → World → Prop} (hgd : o.guard = none) (s x : Operand) (t : Nat)
    (ho : o.op = .call { callee := .builtin .append, args := #[s, x], argTypes := #[t, t] })
    {z : Value} {by_ : Nat} (hE : Elt P t e z 1 by_) (A : Option Addr) (n c : Nat) (xs : List Value) (hs : a.eval s = .slice A n c) (h : Sg w e A n c xs)
    (N : List Nat) (A2 : Option Addr) (c2 : Nat) (u : Value) (hx : a.eval x = .slice A2 1 c2) (hr : Rd w N A2 [u]) (h1 : u.oneCell' = true) (hb : n ≤ 1000000)
    (hk : ∀ A' c' w', Sg w' e A' (n + 1) c' (xs ++ [u]) → Kp (bks A) w w' → (∀ b ∈ bks A', b ∈ bks A ∨ w.heap.size ≤ b) → wpList P ops Q rest (a.put o.dst (.slice A' (n + 1) c')) w') : wpList P ops Q (o :: rest) a w :=
  wpList_plain hgd fun _ hK => by
    obtain ⟨A', c', w', hrun, h2, h3, h4⟩ := run_sg (P := P) (ty := o.type) hE h N A2 c2 u hr h1 hb
    unfold Oper.wp execOp
    simp only [ho, resolve, invoke, builtin, Sem.run_bind, Sem.run_pure, Result.andThen_ok, List.map_toArray, List.map_cons, List.map_nil, hs, hx, hrun]
    exact hK _ _ (hk A' c' w' h2 h3 h4)
end
theorem elt_st : Elt Try.prog 83 9 (.string ⟨#[]⟩) 1 16 := ⟨Try.underlying83, by kernel_rfl, rfl, by decide, by decide⟩
theorem Kq.sg {B : Nat} {w w' : World} (h : Kq B w w') {A : Option Addr} {e n c : Nat} {xs : List Value} (hb : Sg w e A n c xs) (he : e ∉ MT) : Sg w' e A n c xs := hb.same fun b hm => by
  have hl := hb.lt b hm
  refine h.block b hl (.inr ⟨e, he, ?_⟩)
  rcases hb.2.2 with ⟨rfl, _⟩ | ⟨g, o, cur, rfl, hg, _⟩
  · simp [bks] at hm
  · simp [bks] at hm; subst hm
    exact ⟨cur.toList, (0, 0), by simpa using hg⟩
/-- The memory of KernCounts. -/
structure KC (w wr : World) (B : Nat) (ka : KA) (k : KS) (CA : Option Addr) (cl cc : Nat) (came : List ByteArray) : Prop where
  kp : Kp [] w wr
  kn : Kn wr B ka k
  sg : Sg wr 9 CA cl cc (came.map Value.string)
  fr : ∀ b ∈ bks CA, w.heap.size ≤ b
section
variable {w wr w' : World} {B cl cc : Nat} {ka ka' : KA} {k k' : KS} {CA : Option Addr} {came : List ByteArray}
theorem KC.off (h : KC w wr B ka k CA cl cc came) (hk : Kp [] wr w') : KC w w' B ka k CA cl cc came := ⟨h.kp.trans hk, h.kn.off0 hk, h.sg.kp hk (by simp), h.fr⟩
theorem KC.kq (h : KC w wr B ka k CA cl cc came) (hk : Kq B wr w') (hn : Kn w' B ka' k') (hB : w.heap.size ≤ B) : KC w w' B ka' k' CA cl cc came := ⟨hk.old h.kp hB, hn, hk.sg h.sg (by decide), h.fr⟩
theorem CInv.mono {m m' next done : Nat} {cm : List (List UInt8)} (h : CInv m next done cm k) (hm : m ≤ m') : CInv m' next done cm k := ⟨h.h, h.f, h.a, ⟨by have := h.c.ln; omega, by have := h.c.nx; omega, by have := h.c.c1; omega, by have := h.c.c2; omega, by have := h.c.co; omega, by have := h.c.dn; omega, h.c.fl, fun y hy => by have := h.c.ho y hy; omega⟩, h.nx, h.dn, h.fo, h.cm⟩
end
theorem Sg.ty {w : World} {e n c : Nat} {A : Option Addr} {xs : List Value} (h : Sg w e A n c xs) : ∀ b ∈ bks A, Ty w b e := by
  intro b hm
  rcases h.2.2 with ⟨rfl, _⟩ | ⟨g, o, cur, rfl, hg, _⟩
  · simp [bks] at hm
  · simp [bks] at hm; subst hm
    exact ⟨cur.toList, (0, 0), by simpa using hg⟩
/-- A store into a row of strings. -/
theorem Kn.offS {B : Nat} {w w' : World} {a : KA} {k : KS} {S : List Nat} (h : Kn w B a k) (hk : Kp S w w') (o : ∀ e, 9 ≠ e → Off w S e) : Kn w' B a k :=
  ⟨h.g.off hk (o _ (by decide)), h.t.kp hk ((o _ (by decide)).nin h.t.t.ty) ((o _ (by decide)).nin h.t.l.ty), h.d.off hk (o _ (by decide)) (o _ (by decide)) (o _ (by decide)) (o _ (by decide)), h.fl.off hk (o _ (by decide)), fun x hx => ⟨(h.fd x hx).1, (h.fd x hx).2.1, (h.fd x hx).2.2.kp hk (o _ (by decide))⟩, h.i1.off hk ((o _ (by decide)).nin h.i1.hs.ty) ((o _ (by decide)).nin h.r1) (o _ (by decide)), h.i2.off hk ((o _ (by decide)).nin h.i2.hs.ty) ((o _ (by decide)).nin h.r2) (o _ (by decide)), h.o.off hk ((o _ (by decide)).nin h.o.hs.ty) ((o _ (by decide)).nin h.ro) (o _ (by decide)), h.new⟩
theorem KC.app {w w5 w6 : World} {B cl cc cc' : Nat} {ka : KA} {k : KS} {CA A' : Option Addr} {came : List ByteArray} {s : ByteArray} {o : Obj} (h : KC w w5 B ka k CA cl cc came) (hs : Sg w6 9 A' (cl + 1) cc' (came.map Value.string ++ [.string s])) (hk : Kp (bks CA) (w5.alloc o) w6) (hf : ∀ b ∈ bks A', b ∈ bks CA ∨ (w5.alloc o).heap.size ≤ b) : KC w w6 B ka k A' (cl + 1) cc' (came ++ [s]) := by
  have h1 := h.off ((Kp.refl [] w5).alloc o)
  refine ⟨h1.kp.thn hk (fun s hs => .inr (h.fr s hs)), h1.kn.offS hk (fun e he => Off.bks h1.sg.ty he), hs.cast (by simp) (by simp), fun b hb => ?_⟩
  rcases hf b hb with hb | hb
  · exact h.fr b hb
  · have := h1.kp.size; omega
theorem slice1 (A : Option Addr) (n c : Nat) (hn : 1 ≤ n) (W : World) : (Instr.slice 83 (.slice A n c) (some (.int .i64 1)) none none).run Try.prog W = .ok (.slice (if c = 1 then A else A.map (·.add 1)) (n - 1) (c - 1)) W := by
  have e : Try.prog.elem 83 = 9 := by kernel_rfl
  have hz : (sizeOf (Try.prog.elem 83)).run Try.prog W = .ok 1 W := by rw [e]; kernel_rfl
  rw [run_slice_l W _ _ _ _ (by rw [e]; exact Try.underlying83) .i64 1 (by omega) (by omega), hz]
  simp [Result.andThen, sliced]
section
variable {R : Ending → World → Prop} {w : World}
set_option maxHeartbeats 8000000 in
theorem kcounts_walk (a : Sin KAct) (ha : a.ok w KAct.vals (KAct.ok w)) (h : ∀ w', Kp [] w w' → R (.returned (.bool true)) w') :
    Calls Try.prog 5 #[.slice a.A a.n a.c] w R := by
  have H := Lib.hid h
  obtain ⟨A, n, c, l⟩ := a
  obtain ⟨hl, hcap, hmax, hall, hrd, _⟩ := ha
  simp only at hl hcap hmax hall hrd
  have hmx : c ≤ 9223372036854775807 := hmax
  have HFar : Hid (∀ (R : Ending → World → Prop) (w1 : World), Kp [] w w1 → (∀ w', Kp [] w1 w' → R (.returned (.bool (kfar l))) w') → Calls Try.prog 31 #[.slice A n c] w1 R) := Lib.hid (fun R w1 k1 h => kfar_any (hrd.kp k1 (by simp)) hl (by omega) h)
  have HA := Lib.hid hall
  have HR := Lib.hid hrd
  have HL := Lib.hid hl
  clear h hl hall hrd hmax
  cases hf : kfar l with
  | true =>
    rw [hf] at HFar
    go_enter Try.func5, Try.ntmps5
    go_wp2_with (first | (go_at_call 30; ((refine alive09_any _ ?_); intro w1 k1)) | (go_at_call 31; ((refine HFar.out _ _ k1 ?_); intro w2 k2)))
    exact H.out _ (k1.trans k2)
  | false =>
    rw [hf] at HFar
    have hfn : n ≤ 100 ∧ ∀ x ∈ l, farC x.c = false ∧ x.s.size ≤ 2000 := by
      have hl := HL.out
      simp only [kfar, Bool.or_eq_false_iff, decide_eq_false_iff_not] at hf
      refine ⟨by omega, fun x hx => ?_⟩
      have := List.any_eq_false.1 hf.2 x hx
      simp at this
      exact ⟨by simp [this.1], by omega⟩
    obtain ⟨hn100, hfc⟩ := hfn
    have HFC := Lib.hid hfc
    have HNew : Hid (∀ (R : Ending → World → Prop) (w : World), (∀ a w', Kp [] w w' → Kn w' w.heap.size a (kz0 4 8) → R (.returned (.tuple #[.pointer (some ⟨a.g, 0, none⟩), .int .i64 0])) w') → Calls Try.prog 32 #[.int .i64 4, .int .i64 8] w R) := Lib.hid (fun R w h => knew2_any 4 8 (by omega) (by omega) (by omega) (by omega) w h)
    clear hf hfc
    go_enter Try.func5, Try.ntmps5
    go_upto_region 7 with (first | (go_at_call 30; ((refine alive09_any _ ?_); intro w1 k1)) | (go_at_call 31; ((refine HFar.out _ _ k1 ?_); intro w2 k2)) | (go_at_call 32; ((refine HNew.out _ _ ?_); intro ka w3 k3 n3)) | (go_at_call 33; ((refine kbind1 (n3.off0 ((Kp.refl _ _).alloc _)) (kz0_cnt 4 8 (by omega)) (by omega) (Ow.tb (n := 1) (sz := 4) (c := 1) (Ow.lit w3 82 4 #[.int .i64 7, .int .u32 1, .int .i64 0, .int .i64 0] 1 (by decide) rfl)) (fun h => by cases h) rfl (HInv_kz0 4 8) ?_); intro v4 ka4 k4 w4 q4 n4 g4 c4 i4)))
    obtain ⟨B, hB⟩ : ∃ B, w2.heap.size = B := ⟨_, rfl⟩
    rw [hB] at q4 n4
    have hwB : w.heap.size ≤ B := by have := (k1.trans k2).size; omega
    rw [← g4]
    have KC0 : Hid (KC w w4 B ka4 k4 none 0 0 []) := Lib.hid ⟨q4.old (((k1.trans k2).trans k3).alloc _) hwB, n4, Sg.nil, by simp [bks]⟩
    have CI0 : Hid (CInv 1 0 0 [] k4) := Lib.hid (by
      obtain ⟨i1, i2, i3, i4, i5, i6, i7, i8, i9⟩ := i4.out
      exact ⟨i1, i2, i3, c4, by rw [i7, i8]; rfl, by rw [i9]; rfl, by rw [i7]; rfl, by rw [i6]; rfl⟩)
    clear q4 n4 c4 i4 n3 k3 k2 k1 g4 HFar HNew hB
    go_wp2
    go_loopw [5, 6, 7, 8] (fun nv dv cv iv wr => ∃ (i next done : Nat) (CA : Option Addr) (cl cc : Nat) (came : List ByteArray) (ka7 : KA) (k7 : KS), i ≤ n ∧ nv = .int .i64 next ∧ dv = .int .i64 done ∧ cv = .slice CA cl cc ∧ iv = .int .i64 i ∧ ka7.g = ka4.g ∧ next ≤ i ∧ done ≤ i ∧ cl ≤ 16 ∧ Hid (KC w wr B ka7 k7 CA cl cc came) ∧ Hid (CInv (1 + 2 * i) next done (came.map (·.data.toList)) k7)) (fun _ _ _ iv _ => n - (intOf iv).toNat)
    case atStart => exact ⟨0, 0, 0, none, 0, 0, [], ka4, k4, Nat.zero_le _, rfl, rfl, rfl, rfl, rfl, by omega, by omega, by omega, KC0, CI0⟩
    case round =>
      obtain ⟨i, next, done, CA, cl, cc, came, ka7, k7, hi, rfl, rfl, rfl, rfl, hg7, hni, hdi, hcl, hS, hC⟩ := hrel
      by_cases hlt : i < n
      · obtain ⟨x, hx, hm⟩ := get_lt (l := l) (k := i) (by have := HL.out; omega)
        obtain ⟨b, o, rfl, _, hbl, hc⟩ := rd_at (HR.out.kp hS.out.kp (by simp)) kavals_len (by have := HL.out; omega) hx
        obtain ⟨c0, c1, c2, c3, c4, c5, c6, c7, c8, c9⟩ := kact_cells hc
        obtain ⟨xk, xc, xs⟩ := x
        obtain ⟨hfx, hsx⟩ := HFC.out _ hm
        have HAX := Lib.hid (HA.out _ hm)
        simp only at c0 c1 c2 c3 c4 c5 c6 c7 c8 c9 hsx
        clear hc hm
        have HCELL : Hid (∀ w', Kp [] w w' → w'.cell? ⟨b, o + i * 10 + 9, none⟩ = some (.string xs)) := Lib.hid (fun w' k' => by
          obtain ⟨b2, o2, e2, _, _, hc2⟩ := rd_at (HR.out.kp k' (by simp)) kavals_len (by have := HL.out; omega) hx
          injection e2 with e2
          injection e2 with e3 e4
          subst e3; subst e4
          exact (kact_cells hc2).2.2.2.2.2.2.2.2.2)
        clear hx
        go_upto_block 2 with (fail)
        go_cut [5, 6, 7] (fun nv dv cv W' => ∃ (next' done' : Nat) (CA' : Option Addr) (cl' cc' : Nat) (came' : List ByteArray) (ka8 : KA) (k8 : KS), nv = .int .i64 next' ∧ dv = .int .i64 done' ∧ cv = .slice CA' cl' cc' ∧ ka8.g = ka4.g ∧ next' ≤ i + 1 ∧ done' ≤ i + 1 ∧ Hid (KC w W' B ka8 k8 CA' cl' cc' came') ∧ Hid (CInv (2 + 2 * i) next' done' (came'.map (·.data.toList)) k8))
        case first =>
          have HSame : Hid (∀ W', KC w W' B ka7 k7 CA cl cc came → ∃ (next' done' : Nat) (CA' : Option Addr) (cl' cc' : Nat) (came' : List ByteArray) (ka8 : KA) (k8 : KS), Value.int .i64 next = .int .i64 next' ∧ Value.int .i64 done = .int .i64 done' ∧ Value.slice CA cl cc = .slice CA' cl' cc' ∧ ka8.g = ka4.g ∧ next' ≤ i + 1 ∧ done' ≤ i + 1 ∧ Hid (KC w W' B ka8 k8 CA' cl' cc' came') ∧ Hid (CInv (2 + 2 * i) next' done' (came'.map (·.data.toList)) k8)) := Lib.hid (fun W' h => ⟨next, done, CA, cl, cc, came, ka7, k7, rfl, rfl, rfl, hg7, by omega, by omega, Lib.hid h, Lib.hid (hC.out.mono (by omega))⟩)
          by_cases hk1 : xk = 1
          · subst hk1
            obtain ⟨bw, cw, hcs, hcw, hbk, hbr⟩ := conv_letter2 xs
            have HArr : Hid (∀ (R : Ending → World → Prop), (∀ nn e w', e ≠ 0 → Hid (∃ k', KC w w' B ka7 k' CA cl cc came ∧ CInv (2 + 2 * i) next done (came.map (·.data.toList)) k') → R (.returned (.tuple #[.int .i64 nn, .int .i64 e])) w') → (∀ w', Hid (∃ k', KC w w' B ka7 k' CA cl cc came ∧ CInv (2 + 2 * i) next done ((came ++ [xs]).map (·.data.toList)) k') → R (.returned (.tuple #[.int .i64 1, .int .i64 0])) w') → Calls Try.prog 40 #[.pointer (some ⟨ka4.g, 0, none⟩), .slice (some ⟨wr.heap.size, 0, none⟩) xs.size (cw wr)] (bw wr) R) := Lib.hid (fun R h1 h2 => by
              rw [← hg7]
              have kb := hbk [] wr wr (Kp.refl _ _)
              refine karr_any (hS.out.kn.off0 kb) hC.out.c (by omega) hC.out.f (hbr wr _ rfl) (show xs.data.toList.length = xs.size from Array.length_toList) (by omega) (hcw wr) (fun nn e k' w' ha q n9 => ?_)
              have kc := (hS.out.off kb).kq q n9 hwB
              rcases hC.out.arr ha.out with ⟨he, hc'⟩ | ⟨rfl, rfl, hc'⟩
              · exact h1 nn e w' he (Lib.hid ⟨k', kc, hc'.mono (by omega)⟩)
              · exact h2 w' (Lib.hid ⟨k', kc, by rw [List.map_append]; exact hc'.mono (by omega)⟩))
            clear hbk hbr hcw
            go_wp2_with (first | (go_at_call 40; ((refine HArr.out _ (fun nn e w5 he h5 => ?_) (fun w5 h5 => ?_)); (have he0 : (e == 0) = false := by simpa using he); rotate_left; (obtain ⟨k8, hS8, hC8⟩ := h5.out); (have c9' := HCELL.out w5 hS8.kp); (have HS8 := Lib.hid hS8); (have HC8 := Lib.hid hC8); clear hS8 hC8 h5)) | (at_builtin; refine wpList_sg rfl (.tmp 60) (.tmp 66) _ rfl elt_st CA cl cc (came.map Value.string) rfl (HS8.out.sg.kp ((Kp.refl [] _).alloc _) (by simp)) [] (some ⟨w5.heap.size, 0, none⟩) 1 (.string xs) rfl (Rd.of_bk ((Bk.newAt rfl _ _).cast rfl) (by simp)) rfl (by omega) ?_; intro A' cc' w6 sg6 kp6 fr6))
            · go_meet
              exact ⟨next, done, A', cl + 1, cc', came ++ [xs], ka7, k8, rfl, rfl, rfl, hg7, by omega, by omega, Lib.hid (HS8.out.app sg6 kp6 fr6), HC8⟩
            · go_meet
              obtain ⟨k8, hS8, hC8⟩ := h5.out
              exact ⟨next, done, CA, cl, cc, came, ka7, k8, rfl, rfl, rfl, hg7, by omega, by omega, Lib.hid hS8, Lib.hid hC8⟩
          by_cases hk2 : xk = 2
          · subst hk2
            have HDep : Hid (∀ (R : Ending → World → Prop), (∀ A len c2 env e w', e ≠ 0 → Hid (∃ ka' k', ka'.g = ka4.g ∧ KC w w' B ka' k' CA cl cc came ∧ CInv (2 + 2 * i) next done (came.map (·.data.toList)) k') → R (.returned (.tuple #[.slice A len c2, .int .i64 env, .int .i64 e])) w') → (∀ A len c2 env w', done + 1 ≤ next → Hid (∃ ka' k', ka'.g = ka4.g ∧ KC w w' B ka' k' CA cl cc came ∧ CInv (2 + 2 * i) next (done + 1) (came.map (·.data.toList)) k') → R (.returned (.tuple #[.slice A len c2, .int .i64 env, .int .i64 0])) w') → Calls Try.prog 39 #[.pointer (some ⟨ka4.g, 0, none⟩)] wr R) := Lib.hid (fun R h1 h2 => by
              rw [← hg7]
              refine kdep_any hS.out.kn hC.out.c (by omega) (fun y q hq => (hC.out.h.first hq).1) (fun A len c2 l' env e k' a' w' hd q n9 hl ht => ?_)
              have kc := hS.out.kq q n9.1 hwB
              rcases hC.out.dep hd.out with ⟨he, hc'⟩ | ⟨rfl, hdn, hc'⟩
              · exact h1 A len c2 env e w' he (Lib.hid ⟨a', k', n9.2.1.trans hg7, kc, hc'.mono (by omega)⟩)
              · exact h2 A len c2 env w' hdn (Lib.hid ⟨a', k', n9.2.1.trans hg7, kc, hc'.mono (by omega)⟩))
            go_wp2_with (go_at_call 39; ((refine HDep.out _ (fun DA Dl Dc Den e w5 he h5 => ?_) (fun DA Dl Dc Den w5 hdn h5 => ?_)); (have he0 : (e == 0) = false := by simpa using he); rotate_left))
            · go_meet
              obtain ⟨ka8, k8, g8, hS8, hC8⟩ := h5.out
              exact ⟨next, done + 1, CA, cl, cc, came, ka8, k8, rfl, by go_num, rfl, g8, by omega, by omega, Lib.hid hS8, Lib.hid hC8⟩
            · go_meet
              obtain ⟨ka8, k8, g8, hS8, hC8⟩ := h5.out
              exact ⟨next, done, CA, cl, cc, came, ka8, k8, rfl, rfl, rfl, g8, by omega, by omega, Lib.hid hS8, Lib.hid hC8⟩
          have h1f : (xk == 1) = false := by simpa using hk1
          have h2f : (xk == 2) = false := by simpa using hk2
          by_cases hk0 : xk = 0
          · subst hk0
            have hbl0 : b < w.heap.size := by
              obtain ⟨b2, o2, e2, _, hb2, _⟩ := HR.out (by
                intro e
                have := congrArg List.length e
                rw [flat_len kavals_len, HL.out] at this
                simp at this; omega)
              injection e2 with e2
              injection e2 with e3 e4
              omega
            clear h1f h2f hk1 hk2
            by_cases h9 : xc.op = 9
            · have f9 : (xc.op == 9) = true := by simp [h9]
              clear h9
              go_wp2
              exact ⟨⟨i + 1, next, done, CA, cl, cc, came, ka7, k7, by omega, rfl, rfl, rfl, by go_num, hg7, by omega, by omega, hcl, Lib.hid (hS.out.off ((Kp.refl _ _).alloc _)), Lib.hid (hC.out.mono (by omega))⟩, by simp [intOf]; omega⟩
            by_cases h10 : xc.op = 10
            · have f9 : (xc.op == 9) = false := by simp [h9]
              have f10 : (xc.op == 10) = true := by simp [h10]
              clear h9 h10
              go_wp2
              exact ⟨⟨i + 1, next, done, CA, cl, cc, came, ka7, k7, by omega, rfl, rfl, rfl, by go_num, hg7, by omega, by omega, hcl, Lib.hid (hS.out.off ((Kp.refl _ _).alloc _)), Lib.hid (hC.out.mono (by omega))⟩, by simp [intOf]; omega⟩
            have f9 : (xc.op == 9) = false := by simp [h9]
            have f10 : (xc.op == 10) = false := by simp [h10]
            have HN := Lib.hid (And.intro h9 h10)
            clear h9 h10
            have HOfC : Hid (∀ (R : Ending → World → Prop) (w1 : World), Kp [] wr w1 → (∀ A5 c5 A6 c6 A7 c7 w', Kp [] w1 w' → Hid (Kc.ok w' ⟨xc.op, xc.env, xc.a, xc.b, xc.c, A5, xc.s.size, c5, xc.s.data.toList, A6, xc.p.n, c6, xc.p.l, A7, xc.l.n, c7, xc.l.l⟩) → R (.returned (.agg #[.int .i64 xc.op, .int .i64 xc.env, .int .i64 xc.a, .int .i64 xc.b, .int .i64 xc.c, .slice A5 xc.s.size c5, .slice A6 xc.p.n c6, .slice A7 xc.l.n c7])) w') → Calls Try.prog 34 #[.agg #[.int .i64 xc.op, .int .i64 xc.env, .int .i64 xc.a, .int .i64 xc.b, .int .i64 xc.c, .string xc.s, .slice xc.p.A xc.p.n xc.p.c, .slice xc.l.A xc.l.n xc.l.c]] w1 R) := Lib.hid (fun R w1 k1 h => by
              have hfx2 : farC xc = false := hfx
              obtain ⟨g1, g2, g3⟩ := farC_no hfx2
              have hk : xc.ok w := HAX.out.c
              have kk := hS.out.kp.trans k1
              refine of09_any xc w1 (hk.p.rd.kp kk (by simp)) hk.p.len g2 (hk.l.rd.kp kk (by simp)) hk.l.len g3 (fun A5 c5 A6 c6 A7 c7 w' k t5 f5 o6 f6 o7 f7 h5 => h A5 c5 A6 c6 A7 c7 w' k (Lib.hid ⟨t5, Array.length_toList, (by show xc.s.size ≤ _; omega), fun e => (h5 e).elim, o6.tb, hk.p.len, (by show xc.p.n ≤ _; omega), fun e => o6.nilA e, hk.p.all, o7.tb, hk.l.len, (by show xc.l.n ≤ _; omega), fun e => o7.nilA e, hk.l.all⟩)))
            have HCx : Hid (∀ (R : Ending → World → Prop) (w' : World) (A5 A6 A7 : Option Addr) (c5 c6 c7 : Nat), Kp [] wr w' → Hid (Kc.ok w' ⟨xc.op, xc.env, xc.a, xc.b, xc.c, A5, xc.s.size, c5, xc.s.data.toList, A6, xc.p.n, c6, xc.p.l, A7, xc.l.n, c7, xc.l.l⟩) → (∀ (nn : Int) AA len c2 (e : Int) ka' k' l' w2, Kq B w' w2 → Hid (ka'.g = ka4.g ∧ KC w w2 B ka' k' CA cl cc came ∧ l'.length = len ∧ Tb w2 5 AA (bts l') ∧ ∃ next' cm', CInv (2 + 2 * i) next' done cm' k' ∧ (xc.op = 11 → e = 0 → nn = next ∧ next' = next + 1) ∧ (¬ (xc.op = 11 ∧ e = 0) → next' = next) ∧ (xc.op = 12 → xc.env = 1 → (came.map (·.data.toList) = [] → e ≠ 0 ∧ cm' = []) ∧ (∀ y r, came.map (·.data.toList) = y :: r → l' = y ∧ cm' = r)) ∧ (¬ (xc.op = 12 ∧ xc.env = 1) → cm' = came.map (·.data.toList))) → R (.returned (.tuple #[.agg #[.int .i64 nn, .slice AA len c2], .int .i64 e])) w2) → Calls Try.prog 33 #[.pointer (some ⟨ka4.g, 0, none⟩), .agg #[.int .i64 xc.op, .int .i64 xc.env, .int .i64 xc.a, .int .i64 xc.b, .int .i64 xc.c, .slice A5 xc.s.size c5, .slice A6 xc.p.n c6, .slice A7 xc.l.n c7]] w' R) := Lib.hid (fun R w' A5 A6 A7 c5 c6 c7 kw hok h => by
              rw [← hg7]
              refine kcall_any (x := ⟨xc.op, xc.env, xc.a, xc.b, xc.c, A5, xc.s.size, c5, xc.s.data.toList, A6, xc.p.n, c6, xc.p.l, A7, xc.l.n, c7, xc.l.l⟩) (hS.out.kn.off0 kw) hC.out.c (by omega) hok.out (fun nn AA len c2 l' e k' a' w2 hst q n9 hl ht => ?_)
              obtain ⟨next', cm', hc', r1, r2, r3, r4⟩ := hC.out.step hS.out.kn.o.room hok.out.po HN.out.1 HN.out.2 hst.out
              exact h nn AA len c2 e a' k' l' w2 q (Lib.hid ⟨n9.2.1.trans hg7, (hS.out.off kw).kq q n9.1 hwB, hl, ht, next', cm', hc'.mono (by omega), r1, r2, r3, r4⟩))
            have HBX : Hid (∀ w', Kp [] (wr.alloc (.cells #[.int .i64 xc.op, .int .i64 xc.env, .int .i64 xc.a, .int .i64 xc.b, .int .i64 xc.c, .string xc.s, .slice xc.p.A xc.p.n xc.p.c, .slice xc.l.A xc.l.n xc.l.c] 67)) w' → Bk w' wr.heap.size 67 xc.vals) := Lib.hid (fun w' k' => nb_a k')
            go_upto_region 27 with (first | (go_at_call 34; ((refine HOfC.out _ _ ((Kp.refl _ _).alloc _) ?_); intro A5 d5 A6 d6 A7 d7 w13 k13 ok13)) | (go_at_call 33; ((refine HCx.out _ _ _ _ _ _ _ _ (((Kp.refl _ _).alloc _).trans k13) ok13 ?_); intro nn AA len ac e ka8 k8 l8 w14 q14 h14)))
            refine gen_worldK (fun W => ∃ ba, w14.heap.size = ba ∧ Hid (KC w W B ka8 k8 CA cl cc came ∧ Bk W wr.heap.size 67 xc.vals ∧ Bk W ba 59 [.int .i64 nn, .slice AA len ac] ∧ Tb W 5 AA (bts l8))) ⟨_, rfl, Lib.hid ⟨h14.out.2.1.off ((Kp.refl _ _).alloc _), (q14.bk (HBX.out _ k13) (by decide)).alloc _, (Bk.new' _ _ _).cast rfl, h14.out.2.2.2.1.kp ((Kp.refl _ _).alloc _) (Off.nil _ _)⟩⟩ ?_
            rintro W ⟨ba, hba, hW⟩
            rw [hba]
            obtain ⟨bx, hbx⟩ : ∃ bx, wr.heap.size = bx := ⟨_, rfl⟩
            rw [hbx] at hW ⊢
            obtain ⟨q0, q1, q2, q3, q4, q5, q6, q7⟩ := bk8 hW.out.2.1
            obtain ⟨a0, a1, _⟩ := bk2t hW.out.2.2.1
            obtain ⟨g8, _, hl8, _, next', cm', hC8, r1, r2, r3, r4⟩ := h14.out
            have HW := Lib.hid hW.out.1
            have HT8 := Lib.hid hW.out.2.2.2
            have HC8 := Lib.hid hC8
            have HL8 := Lib.hid hl8
            clear h14 hba hbx hW hC8 hl8 HOfC HCx HBX k13 q14 ok13 c0 c1 c2 c3 c4 c5 c6 c7 c8 c9 q2 q3 q4 q5 q6 q7 f9 f10 HN HSame hbl HCELL
            by_cases h11 : xc.op = 11
            · have f11 : (xc.op == 11) = true := by simp [h11]
              have f12 : (xc.op == 12) = false := by simp [h11]
              by_cases he : e = 0
              · obtain ⟨rfl, rfl⟩ := r1 h11 he
                obtain rfl := r4 (fun h => by omega)
                subst he
                clear r1 r2 r3 r4 h11
                go_wp2
                go_meet
                exact ⟨next + 1, done, CA, cl, cc, came, ka8, k8, by go_num, rfl, rfl, g8, by omega, by omega, HW, HC8⟩
              · have fe : (e == 0) = false := by simpa using he
                obtain rfl := r2 (fun h => he h.2)
                obtain rfl := r4 (fun h => by omega)
                clear r1 r2 r3 r4 h11 he
                go_wp2
                go_meet
                exact ⟨next', done, CA, cl, cc, came, ka8, k8, rfl, rfl, rfl, g8, by omega, by omega, HW, HC8⟩
            have f11 : (xc.op == 11) = false := by simpa using h11
            obtain rfl := r2 (fun h => h11 h.1)
            by_cases h12 : xc.op = 12
            · have f12 : (xc.op == 12) = true := by simp [h12]
              by_cases h1 : xc.env = 1
              · have f1 : (xc.env == 1) = true := by simp [h1]
                have r3' := r3 h12 h1
                clear r1 r2 r3 r4 h11 h12 h1
                cases came with
                | nil =>
                  obtain rfl : cl = 0 := HW.out.sg.1.symm
                  obtain ⟨he, rfl⟩ := r3'.1 rfl
                  have fe : (e == 0) = false := by simpa using he
                  clear r3' he
                  go_upto_region 32 with (fail)
                  go_quiet (fail)
                  go_wp2
                  go_meet
                  exact ⟨next', done, CA, 0, cc, [], ka8, k8, rfl, rfl, rfl, g8, by omega, by omega, Lib.hid (HW.out.off ((Kp.refl _ _).drewN _)), HC8⟩
                | cons s0 cr =>
                  obtain ⟨rfl, rfl⟩ := r3'.2 _ _ rfl
                  obtain rfl : cl = cr.length + 1 := by have := HW.out.sg.1; simp at this; omega
                  clear r3'
                  obtain ⟨sg, so, rfl, hcell⟩ := HW.out.sg.cell (j := 0) rfl
                  rw [Nat.add_zero] at hcell
                  have hsl := slice1 (some ⟨sg, so, none⟩) (cr.length + 1) cc (by omega)
                  have HSG := Lib.hid HW.out.sg.tail
                  obtain ⟨CA2, hCA2⟩ : ∃ CA2, (if cc = 1 then some ⟨sg, so, none⟩ else (some (⟨sg, so, none⟩ : Addr)).map (·.add 1)) = CA2 := ⟨_, rfl⟩
                  have HB2 : Hid (bks CA2 = bks (some (⟨sg, so, none⟩ : Addr))) := Lib.hid (by rw [← hCA2]; exact bks_tail _ _)
                  rw [hCA2] at hsl HSG
                  rw [Nat.add_sub_cancel] at hsl HSG
                  clear hCA2
                  obtain ⟨cl2, hcl2⟩ : ∃ cl2, cr.length = cl2 := ⟨_, rfl⟩
                  rw [hcl2] at hsl HSG ⊢
                  have hm0 : ((cl2 : Int) + 1 == 0) = false := by simp; omega
                  have hm1 : decide (0 < (cl2 : Int) + 1) = true := decide_eq_true (by omega)
                  have hcv : ∀ n, (convert 44 9 (.slice AA len ac)).run Try.prog (W.drewN n) = .ok (.string s0) (W.drewN n) := fun n => by
                    have := conv_bs (w := W.drewN n) (c := ac) (HT8.out.kp ((Kp.refl _ _).drewN n) (Off.nil _ _)).rd0 HL8.out
                    rw [this]
                    try simp
                  go_upto_region 32 with (fail)
                  go_quiet (fail)
                  go_wp2
                  go_meet
                  exact ⟨next', done, CA2, cl2, cc - 1, cr, ka8, k8, rfl, rfl, rfl, g8, by omega, by omega, Lib.hid ⟨HW.out.kp.drewN _, HW.out.kn.off0 ((Kp.refl _ _).drewN _), HSG.out.kp ((Kp.refl [] _).drewN _) (by simp), by rw [HB2.out]; exact HW.out.fr⟩, HC8⟩
              · have f1 : (xc.env == 1) = false := by simpa using h1
                obtain rfl := r4 (fun h => h1 h.2)
                clear r1 r2 r3 r4 h11 h12 h1
                go_wp2
                go_meet
                exact ⟨next', done, CA, cl, cc, came, ka8, k8, rfl, rfl, rfl, g8, by omega, by omega, HW, HC8⟩
            · have f12 : (xc.op == 12) = false := by simpa using h12
              obtain rfl := r4 (fun h => h12 h.1)
              clear r1 r2 r3 r4 h11 h12
              go_wp2
              go_meet
              exact ⟨next', done, CA, cl, cc, came, ka8, k8, rfl, rfl, rfl, g8, by omega, by omega, HW, HC8⟩
          · have h0f : (xk == 0) = false := by simpa using hk0
            clear hk0 hk1 hk2
            go_wp2
            go_meet
            exact HSame.out _ hS.out
        case rest =>
          obtain ⟨next', done', CA', cl', cc', came', ka8, k8, rfl, rfl, rfl, g8, hn8, hd8, hS8, hC8⟩ := hcut
          clear c0 c1 c2 c3 c4 c5 c6 c7 c8 c9 HCELL
          have HC13 : Hid (∀ (R : Ending → World → Prop), (∀ A len c2 e w', Hid (∃ ka' k', ka'.g = ka4.g ∧ KC w w' B ka' k' CA' cl' cc' came' ∧ CInv (1 + 2 * (i + 1)) next' done' (came'.map (·.data.toList)) k' ∧ k'.q1.length ≤ 16) → R (.returned (.tuple #[.agg #[.int .i64 done', .slice A len c2], .int .i64 e])) w') → Calls Try.prog 33 #[.pointer (some ⟨ka4.g, 0, none⟩), .agg #[.int .i64 13, .int .i64 2, .int .i64 0, .int .i64 0, .int .i64 0, .slice none 0 0, .slice none 0 0, .slice none 0 0]] wc R) := Lib.hid (fun R h => by
            rw [← g8]
            refine kcall_any (x := numC 13 2) hS8.out.kn hC8.out.c (by omega) (numC_ok _ _ _) (fun n1 A len c2 l' e k' a' w' hst q n9 hl ht => ?_)
            obtain ⟨hn, hc'⟩ := hC8.out.done13 hS8.out.kn.o.room rfl rfl (by simp [numC]) hst.out
            rw [hn]
            exact h A len c2 e w' (Lib.hid ⟨a', k', n9.2.1.trans g8, hS8.out.kq q n9.1 hwB, hc'.mono (by omega), n9.1.i1.room⟩))
          have hle := hC8.out.le
          have hbl1 : decide ((next' : Int) < (done' : Int)) = false := by simp; omega
          go_wp2_with (go_at_call 33; ((refine HC13.out _ ?_); intro A9 len9 c9 e9 w9 h9))
          obtain ⟨ka9, k9, g9, hS9, hC9, hr9⟩ := h9.out
          have hcl9 : cl' ≤ 16 := by
            have e1 := hS9.sg.1
            have e2 := congrArg List.length hC9.cm
            simp at e1 e2
            omega
          exact ⟨⟨i + 1, next', done', CA', cl', cc', came', ka9, k9, by omega, rfl, rfl, rfl, by go_num, g9, by omega, by omega, hcl9, Lib.hid (hS9.off ((Kp.refl _ _).alloc _)), Lib.hid hC9⟩, by simp [intOf]; omega⟩
      · obtain rfl : i = n := by omega
        go_wp2
        exact H.out _ hS.out.kp
end
end Go.Proofs.Ytogipajanbgenaa
