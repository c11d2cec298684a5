/- Clones, and a kernel's filters: found, taken out. A filter taken out: slices.Delete of one. pantlerlaw08: alive, GatherSizes. -/
import Derived.Test.YtedblbpmlbjnhaaGreatPE7
import Derived.Test.YtedblbpmlbjnhaaGreatPE12
import Derived.Deep.RegionLaw
import Derived.ArgAppend
import Derived.Test.YtedblbpmlbjnhaaGreatPE5
namespace Go.Proofs.YtedblbpmlbjnhaaGreat
/-! ### Clones, and a kernel's filters: found, taken out. -/
section
open Go.RowKit Go.Shelf
set_option linter.unusedVariables false
set_option linter.unusedSimpArgs false
set_option maxRecDepth 100000

/-- A filter that is bound. -/
structure Bnd where
  id : Int
  env : Int
  A : Option Addr
  n : Nat
  c : Nat
  p : List FOp
def Bnd.vals (x : Bnd) : List Value := [.int .i64 x.id, .int .i64 x.env, .slice x.A x.n x.c]
theorem bvals_len (x : Bnd) : x.vals.length = 3 := rfl
theorem bvals_one (x : Bnd) : ∀ u ∈ x.vals, u.oneCell' = true := by intro u hu; simp [Bnd.vals] at hu; rcases hu with rfl | rfl | rfl <;> rfl
def bhit (a e : Int) (x : Bnd) : Bool := x.id == a && x.env == e
def bidx (fl : List Bnd) (a e : Int) : Int := match fl.findIdx? (bhit a e) with | none => -1 | some i => i
section
variable {R : Ending → World → Prop} {w : World}
set_option maxHeartbeats 1000000 in
theorem cloneop_any {A : Option Addr} {n c : Nat} {xs : List Value} (hr : Rd w [] A xs) (h1 : ∀ u ∈ xs, u.oneCell' = true) (hl : xs.length = n * 4) (hn : n ≤ 1000000) (hnil : A = none → n = 0 ∧ c = 0)
    (h : ∀ A' c' w', Kp [] w w' → Ow w' 128 4 A' n c' xs → Fresh w.heap.size A' → R (.returned (.slice A' n c')) w') :
    Calls Tryz.prog 98 #[.slice A n c] w R := by
  have H := Lib.hid h
  have HL := Lib.hid hl
  clear h hl
  cases A with
  | none =>
    obtain ⟨rfl, rfl⟩ := hnil rfl
    have hx : xs = [] := List.eq_nil_of_length_eq_zero (by simpa using HL.out)
    subst hx
    have hq := fun W => Lib.run_eql_slice_nil (P := Tryz.prog) W 42 128 none 0 0 0 0 Tryz.underlying42
    go_enter Tryz.func98, Tryz.ntmps98
    go_wp2
    exact H.out none 0 _ (Kp.refl _ _) Ow.nil (by simp [Fresh, bks])
  | some ad =>
    have hq := fun W => Lib.run_eql_slice_nil (P := Tryz.prog) W 42 128 (some ad) n c 0 0 Tryz.underlying42
    clear hnil
    go_enter Tryz.func98, Tryz.ntmps98
    go_wp2_with (at_builtin; refine wpList_app _ rfl (.tmp 5) (.tmp 6) _ rfl elt_op _ 0 0 [] rfl (Ow.lit w _ 4 #[] 0 (by decide) rfl) [] (some ad) n c xs rfl (hr.below (Kp.below_nil ((Kp.refl _ _).alloc _))) HL.out h1 (by omega) ?_; intro A' c' w' ho hk hA)
    have hz := hk.size
    simp at hz
    rcases hA with rfl | rfl
    · have hh := H.out _ c' w' (((Kp.refl [] w).alloc _).thn hk (by simp [bks])) (ho.cast (Nat.zero_add n) (List.nil_append xs)) (by simp [Fresh, bks])
      exact rcast hh (by simp)
    · have hh := H.out _ c' w' (((Kp.refl [] w).alloc _).thn hk (by simp [bks])) (ho.cast (Nat.zero_add n) (List.nil_append xs)) (by simp [Fresh, bks])
      exact rcast hh (by simp)
set_option maxHeartbeats 1000000 in
theorem clonepc_any {A : Option Addr} {n c : Nat} {xs : List Value} (hr : Rd w [] A xs) (h1 : ∀ u ∈ xs, u.oneCell' = true) (hl : xs.length = n * 3) (hn : n ≤ 1000000) (hnil : A = none → n = 0 ∧ c = 0)
    (h : ∀ A' c' w', Kp [] w w' → Ow w' 187 3 A' n c' xs → Fresh w.heap.size A' → R (.returned (.slice A' n c')) w') :
    Calls Tryz.prog 106 #[.slice A n c] w R := by
  have H := Lib.hid h
  have HL := Lib.hid hl
  clear h hl
  cases A with
  | none =>
    obtain ⟨rfl, rfl⟩ := hnil rfl
    have hx : xs = [] := List.eq_nil_of_length_eq_zero (by simpa using HL.out)
    subst hx
    have hq := fun W => Lib.run_eql_slice_nil (P := Tryz.prog) W 43 187 none 0 0 0 0 Tryz.underlying43
    go_enter Tryz.func106, Tryz.ntmps106
    go_wp2
    exact H.out none 0 _ (Kp.refl _ _) Ow.nil (by simp [Fresh, bks])
  | some ad =>
    have hq := fun W => Lib.run_eql_slice_nil (P := Tryz.prog) W 43 187 (some ad) n c 0 0 Tryz.underlying43
    clear hnil
    go_enter Tryz.func106, Tryz.ntmps106
    go_wp2_with (at_builtin; refine wpList_app _ rfl (.tmp 5) (.tmp 6) _ rfl elt_pc _ 0 0 [] rfl (Ow.lit w _ 3 #[] 0 (by decide) rfl) [] (some ad) n c xs rfl (hr.below (Kp.below_nil ((Kp.refl _ _).alloc _))) HL.out h1 (by omega) ?_; intro A' c' w' ho hk hA)
    have hz := hk.size
    simp at hz
    rcases hA with rfl | rfl
    · have hh := H.out _ c' w' (((Kp.refl [] w).alloc _).thn hk (by simp [bks])) (ho.cast (Nat.zero_add n) (List.nil_append xs)) (by simp [Fresh, bks])
      exact rcast hh (by simp)
    · have hh := H.out _ c' w' (((Kp.refl [] w).alloc _).thn hk (by simp [bks])) (ho.cast (Nat.zero_add n) (List.nil_append xs)) (by simp [Fresh, bks])
      exact rcast hh (by simp)
set_option maxHeartbeats 1000000 in
theorem unb1_any (id env a e : Int) (A : Option Addr) (n c cb : Nat) (c1 : w.cell? ⟨cb, 1, none⟩ = some (.int .i64 e)) (c2 : w.cell? ⟨cb, 2, none⟩ = some (.int .i64 a)) (h : ∀ w', Kp [] w w' → R (.returned (.bool (id == a && env == e))) w') :
    Calls Tryz.prog 100 #[.agg #[.int .i64 id, .int .i64 env, .slice A n c], .pointer (some ⟨cb, 0, none⟩)] w R := by
  have H := Lib.hid h
  have k1 := fun o => (Kp.refl [] w).alloc o
  have hlt := World.block_lt_of_cell? w _ c1
  have d1 : ∀ o, (w.alloc o).cell? ⟨cb, 1, none⟩ = some (.int .i64 e) := fun o => ((k1 o).cell hlt (by simp)).trans c1
  have d2 : ∀ o, (w.alloc o).cell? ⟨cb, 2, none⟩ = some (.int .i64 a) := fun o => ((k1 o).cell (p := ⟨cb, 2, none⟩) hlt (by simp)).trans c2
  clear h c1 c2
  cases hq : (id == a) with
  | false =>
    go_enter Tryz.func100, Tryz.ntmps100
    go_wp2
    exact rcast (H.out _ (k1 _)) (by simp [hq])
  | true =>
    go_enter Tryz.func100, Tryz.ntmps100
    go_wp2
    exact rcast (H.out _ (k1 _)) (by simp [hq])
set_option maxHeartbeats 1000000 in
theorem bidx_any {A : Option Addr} {n c cb : Nat} {fl : List Bnd} (hr : Rd w [] A (fl.flatMap Bnd.vals)) (hl : fl.length = n) (hn : n ≤ 1000000) (a e : Int) (c1 : w.cell? ⟨cb, 1, none⟩ = some (.int .i64 e)) (c2 : w.cell? ⟨cb, 2, none⟩ = some (.int .i64 a))
    (h : ∀ w', Kp [] w w' → R (.returned (.int .i64 (bidx fl a e))) w') :
    Calls Tryz.prog 99 #[.slice A n c, .func (.func 100) #[] #[.pointer (some ⟨cb, 0, none⟩)]] w R := by
  have H := Lib.hid h
  have HL := Lib.hid hl
  have HR := Lib.hid hr
  have hlt := World.block_lt_of_cell? w _ c1
  have HC : Hid (∀ w', Kp [] w w' → w'.cell? ⟨cb, 1, none⟩ = some (.int .i64 e) ∧ w'.cell? ⟨cb, 2, none⟩ = some (.int .i64 a)) := Lib.hid (fun w' k' => ⟨(k'.cell hlt (by simp)).trans c1, (k'.cell (p := ⟨cb, 2, none⟩) hlt (by simp)).trans c2⟩)
  have he : ∀ (args : Array Value) (w : World), (callFunc 100 args).run Tryz.prog w = .ok (.enter 100 args) w := enters_of Tryz.func100 (by kernel_rfl) rfl
  clear h hl hr c1 c2
  go_enter Tryz.func99, Tryz.ntmps99
  go_wp2
  go_loopw [8] (fun iv wr => ∃ k : Nat, k ≤ n ∧ iv = .int .i64 k ∧ Hid (Kp [] w wr) ∧ Hid (∀ j x, j < k → fl[j]? = some x → bhit a e x = false)) (fun iv _ => n - (intOf iv).toNat)
  case atStart => exact ⟨0, Nat.zero_le _, rfl, Lib.hid (Kp.refl _ _), Lib.hid (by omega)⟩
  case round =>
    obtain ⟨k, hk, rfl, kr, hgd⟩ := hrel
    by_cases hltk : k < n
    · obtain ⟨x, hx, hm⟩ := get_lt (l := fl) (k := k) (by have := HL.out; omega)
      obtain ⟨b, off, rfl, _, _, hc⟩ := rd_at (HR.out.kp kr.out (by simp)) bvals_len (by omega) hx
      have g0 := hc 0 _ rfl
      have g1 := hc 1 _ rfl
      have g2 := hc 2 _ rfl
      rw [Nat.add_zero] at g0
      have HX := Lib.hid hx
      clear hc hx
      cases hb : (x.id == a && x.env == e) with
      | false =>
        go_wp2_with (refine unb1_any x.id x.env a e x.A x.n x.c cb (HC.out _ kr.out).1 (HC.out _ kr.out).2 ?_; rw [hb]; intro w2 k2)
        exact ⟨⟨k + 1, by omega, by go_num, Lib.hid (kr.out.trans k2), Lib.hid (fun j y hj hy => by
          rcases Nat.lt_or_ge j k with h | h
          · exact hgd.out j y h hy
          · obtain rfl : j = k := by omega
            rw [HX.out] at hy; injection hy with hy; subst hy; exact hb)⟩, by simp [intOf]; omega⟩
      | true =>
        have hfi : fl.findIdx? (bhit a e) = some k := by
          rw [List.findIdx?_eq_some_iff_getElem]
          obtain ⟨hk', hxe⟩ := List.getElem?_eq_some_iff.1 HX.out
          refine ⟨hk', by rw [hxe]; exact hb, fun j hj => by
            have := hgd.out j (fl[j]'(by omega)) hj (List.getElem?_eq_getElem (by omega))
            simp [this]⟩
        have HH := Lib.hid (fun w' k' => rcast (H.out w' k') (congrArg (Value.int .i64) (show bidx fl a e = k by unfold bidx; rw [hfi])))
        clear H hfi
        go_wp2_with (refine unb1_any x.id x.env a e x.A x.n x.c cb (HC.out _ kr.out).1 (HC.out _ kr.out).2 ?_; rw [hb]; intro w2 k2)
        exact HH.out _ (kr.out.trans k2)
    · obtain rfl : k = n := by omega
      have hfi : fl.findIdx? (bhit a e) = none := by
        rw [List.findIdx?_eq_none_iff]
        intro x hx
        obtain ⟨j, hj⟩ := List.getElem?_of_mem hx
        exact hgd.out j x (by rw [← HL.out]; exact (List.getElem?_eq_some_iff.1 hj).1) hj
      have HH := Lib.hid (fun w' k' => rcast (H.out w' k') (congrArg (Value.int .i64) (show bidx fl a e = -1 by unfold bidx; rw [hfi])))
      clear H hfi
      go_wp2
      exact HH.out _ kr.out
end
end
/-! ### A filter taken out: slices.Delete of one. -/
section
open Go.RowKit Go.Shelf
set_option linter.unusedVariables false
set_option linter.unusedSimpArgs false
set_option maxRecDepth 100000
section
variable {R : Ending → World → Prop} {w : World}
def bz : List Value := [.int .i64 0, .int .i64 0, .slice none 0 0]
theorem info_bd : (Tryz.prog.info? 144).map (fun i => (i.zero, i.size, i.bytes)) = some (some (.agg #[.int .i64 0, .int .i64 0, .slice none 0 0]), 3, 40) := by kernel_rfl
/-- append, as a step of a drawn region, by what it is known to do. -/
theorem step_inp {P : Program} {ops : Array Oper} {o : Oper} {a : Act} {w w' : World} {K : Act → World → Prop} {Q : Exit → Act → World → Prop} {E : Prop} (hg : o.guard = none) (s x : Operand) (t : Nat)
    (ho : o.op = .call { callee := .builtin .append, args := #[s, x], argTypes := #[t, t] }) {S X v : Value} (hs : a.eval s = S) (hx : a.eval x = X)
    (hrun : ∀ ty, (Builtin.append_ #[t, t] ty #[S, X]).run P w = .ok v w') (h : K (a.put o.dst v) w') :
    if Region.wanted o (yielded ops a.tmps) = true then Oper.wp P o a w K Q else E := by
  have hw : Region.wanted o (yielded ops a.tmps) = true := by simp [Region.wanted, hg]
  rw [if_pos hw]
  unfold Oper.wp execOp
  simp only [ho, resolve, invoke, builtin, Sem.run_bind, Sem.run_pure, Result.andThen_ok, List.map_toArray, List.map_cons, List.map_nil, hs, hx, hrun]
  exact h
theorem zero_bd (W : World) : (zeroValue 144).run Tryz.prog W = .ok (.agg #[.int .i64 0, .int .i64 0, .slice none 0 0]) W := by kernel_rfl
theorem run_clear_bd (W : World) {g o c t : Nat} {cs : List Value} (h : Bk W g t cs) (hl : o + 3 ≤ cs.length) (ty : Nat) : (Builtin.clear_ #[109] ty #[.slice (some ⟨g, o, none⟩) 1 c]).run Tryz.prog W = .ok (.tuple #[]) (W.setCells g o bz) := by
  have hzc : (Builtin.zeroCells (Value.agg #[.int .i64 0, .int .i64 0, .slice none 0 0]).cells 1).toList = bz := by kernel_rfl
  have hst := run_storeCells_cells (P := Tryz.prog) g o bz 0 W (by intro j hj; rw [Nat.add_zero, h.cell, List.getElem?_eq_getElem (by simp [bz] at hj; omega)]; rfl) (by intro j hj; exact h.frozen _) (by intro v hv; simp [bz] at hv; rcases hv with rfl | rfl | rfl <;> rfl)
  simp only [Nat.add_zero] at hst
  simp [Builtin.clear_, run_underlying Tryz.underlying109, zero_bd, hzc, hst]
theorem erase_flat (fl : List Bnd) (i : Nat) : (fl.eraseIdx i).flatMap Bnd.vals = (fl.take i).flatMap Bnd.vals ++ (fl.drop (i + 1)).flatMap Bnd.vals := by
  rw [List.eraseIdx_eq_take_drop_succ, List.flatMap_append]
theorem flat_take_bd (fl : List Bnd) (i : Nat) : (fl.take i).flatMap Bnd.vals = (fl.flatMap Bnd.vals).take (i * 3) := by
  induction fl generalizing i with
  | nil => simp
  | cons x l ih =>
    cases i with
    | zero => simp
    | succ i =>
      simp only [List.take_succ_cons, List.flatMap_cons]
      rw [ih, List.take_append, bvals_len, List.take_of_length_le (l := x.vals) (by rw [bvals_len]; omega), show (i + 1) * 3 - 3 = i * 3 by omega]
theorem flat_drop_bd (fl : List Bnd) (i : Nat) : (fl.drop i).flatMap Bnd.vals = (fl.flatMap Bnd.vals).drop (i * 3) := by
  induction fl generalizing i with
  | nil => simp
  | cons x l ih =>
    cases i with
    | zero => simp
    | succ i =>
      simp only [List.drop_succ_cons, List.flatMap_cons]
      rw [ih, List.drop_append, bvals_len, List.drop_of_length_le (l := x.vals) (by rw [bvals_len]; omega), List.nil_append, show (i + 1) * 3 - 3 = i * 3 by omega]
set_option maxHeartbeats 2000000 in
theorem delete_any {g m c i : Nat} {fl : List Bnd} (ho : Ow w 144 3 (some ⟨g, 0, none⟩) (m + 1) c (fl.flatMap Bnd.vals)) (hl : fl.length = m + 1) (hn : m ≤ 1000000) (hi : i ≤ m)
    (h : ∀ w', Kp [g] w w' → Ow w' 144 3 (some ⟨g, 0, none⟩) m c ((fl.eraseIdx i).flatMap Bnd.vals) → R (.returned (.slice (some ⟨g, 0, none⟩) m c)) w') :
    Calls Tryz.prog 101 #[.slice (some ⟨g, 0, none⟩) (m + 1) c, .int .i64 i, .int .i64 ((i : Int) + 1)] w R := by
  have H := Lib.hid h
  obtain ⟨cur, hb, hcl, htk, hc1, hc2⟩ : ∃ cur : List Value, Bk w g 144 cur ∧ cur.length = c * 3 ∧ cur.take ((m + 1) * 3) = fl.flatMap Bnd.vals ∧ m + 1 ≤ c ∧ c ≤ maxLen := by
    rcases ho.2 with ⟨hv, _⟩ | ⟨g', cap, cur, hv, _, hg, hc, hm, hs, ht⟩
    · injection hv with hA; cases hA
    · injection hv with hA _ hv; subst hv; injection hA with hA; injection hA with hA; subst hA
      exact ⟨cur.toList, by unfold Bk; simpa using hg, by simpa using hs, ht, hc, hm⟩
  have hmx : c ≤ 9223372036854775807 := hc2
  clear ho h
  have hne : ((i : Int) == (i : Int) + 1) = false := by simp; omega
  have hic : i ≤ c := by omega
  have hin : (i : Int) + 1 ≤ ((m + 1 : Nat) : Int) := by omega
  have hin2 : i + 1 ≤ m + 1 := by omega
  have h01 : (0 : Int) ≤ (i : Int) + 1 := by omega
  have hii : (i : Int) ≤ (i : Int) + 1 := by omega
  obtain ⟨ie, hie, _, hsz, _⟩ := info_parts info_bd
  obtain ⟨news, hnw⟩ : ∃ news, (fl.drop (i + 1)).flatMap Bnd.vals = news := ⟨_, rfl⟩
  have hnl : news.length = (m - i) * 3 := by rw [← hnw, flat_len bvals_len, List.length_drop, hl]; congr 1; omega
  have hnd : news = (cur.take ((m + 1) * 3)).drop ((i + 1) * 3) := by rw [← hnw, htk, flat_drop_bd]
  have hn1 : ∀ u ∈ news, u.oneCell' = true := by intro u hu; rw [← hnw, List.mem_flatMap] at hu; obtain ⟨x, _, hu⟩ := hu; exact bvals_one x u hu
  have hbW := bk_setCells news (i * 3) w.drew cur hb (by rw [hnl, hcl]; omega)
  obtain ⟨W1, hW1⟩ : ∃ W1, w.drew.setCells g (i * 3) news = W1 := ⟨_, rfl⟩
  have kW1 : Kp [g] w W1 := hW1 ▸ (Kp.refl [g] w).drew.trans (kp_setCells (by simp) _ _ _)
  rw [hW1] at hbW
  obtain ⟨X, hX⟩ : ∃ X, cur.take (i * 3) ++ news ++ cur.drop (i * 3 + news.length) = X := ⟨_, rfl⟩
  rw [hX] at hbW
  have hXl : X.length = c * 3 := by rw [← hX]; simp [hnl, hcl]; omega
  have hXt : X.take (m * 3) = (fl.eraseIdx i).flatMap Bnd.vals := by
    rw [erase_flat, hnw, flat_take_bd, ← htk, List.take_take, ← hX, List.take_append_of_le_length (by simp [hnl, hcl]; omega), List.take_of_length_le (by simp [hnl, hcl]; omega)]
    congr 1
    congr 1
    omega
  have hbW2 := bk_setCells bz (m * 3) W1 X hbW (by rw [hXl]; show m * 3 + 3 ≤ _; omega)
  have hclr := fun ty => run_clear_bd W1 (o := m * 3) (c := c - m) hbW (by rw [hXl]; omega) ty
  obtain ⟨W2, hW2⟩ : ∃ W2, W1.setCells g (m * 3) bz = W2 := ⟨_, rfl⟩
  have kW2 : Kp [g] w W2 := hW2 ▸ kW1.trans (kp_setCells (by simp) _ _ _)
  rw [hW2] at hbW2 hclr
  have hfin : Ow W2 144 3 (some ⟨g, 0, none⟩) m c ((fl.eraseIdx i).flatMap Bnd.vals) := by
    refine ⟨by rw [← hXt]; simp [hXl]; omega, .inr ⟨g, c, _, rfl, Nat.zero_le _, hbW2, by omega, hc2, ?_, ?_⟩⟩
    · simp [hXl, bz]; omega
    · simp only [List.append_assoc]
      rw [List.take_append_of_le_length (by simp [hXl]; omega), List.take_take, Nat.min_self]
      exact hXt
  obtain ⟨ad, had⟩ : ∃ ad : Addr, ad = (if i + 1 = c then ⟨g, 0, none⟩ else ⟨g, (i + 1) * 3, none⟩) := ⟨_, rfl⟩
  have hrun : ∀ ty, (Builtin.append_ #[109, 109] ty #[.slice (some ⟨g, 0, none⟩) i c, .slice (some ad) (m + 1 - (i + 1)) (c - (i + 1))]).run Tryz.prog w.drew = .ok (.slice (some ⟨g, 0, none⟩) m c) W1 := by
    intro ty
    have := run_append_room_cells (P := Tryz.prog) w.drew 109 ty 144 ie Tryz.underlying109 hie g 0 i c ad (m + 1 - (i + 1)) (c - (i + 1)) news (by rw [hsz, hnl]; congr 1; omega)
      (by
        intro j u hu
        have hj : j < (m - i) * 3 := by rw [← hnl]; exact (List.getElem?_eq_some_iff.1 hu).1
        have hne1 : ¬ i + 1 = c := by omega
        rw [if_neg hne1] at had
        subst had
        rw [Addr.add_mid]
        show w.cell? _ = _
        rw [hb.cell, ← hu, hnd, List.getElem?_drop, List.getElem?_take, if_pos (by omega)])
      hn1 (by omega)
      (by intro j hj; rw [hnl] at hj; rw [hsz]; show (w.cell? _).isSome = true; rw [hb.cell, List.getElem?_eq_getElem (by omega)]; rfl)
      (by intro j hj; exact hb.frozen _)
    rw [hsz, Nat.zero_add, hW1] at this
    rw [this]
    congr 2; omega
  have HRUN := Lib.hid hrun
  have HFIN := Lib.hid hfin
  have K2 := Lib.hid kW2
  clear hrun hfin kW2 kW1 hbW2 hbW hXt hXl hX hn1 hnd hnl hnw hie hsz hcl htk hb hW1 hW2 hl
  go_enter Tryz.func101, Tryz.ntmps101
  go_wp2
  by_cases hci : i + 1 = c
  · rw [if_pos hci] at had
    have hmi : m = i := by omega
    subst hci
    subst hmi
    subst had
    simp only [show m + 1 - m = 1 by omega] at hclr
    go_region_law (refine step_inp rfl (.tmp 22) (.tmp 25) 109 rfl (by simp [Act.eval, Act.put]; try rfl) (by simp [Act.eval, Act.put]; try rfl) (by intro ty; have := HRUN.out ty; simp only [Nat.sub_self] at this ⊢; exact this) ?_)
    all_goals (go_wp2; exact rcast (H.out W2 K2.out HFIN.out) rfl)
  · have hci2 : ¬ c = i + 1 := by omega
    rw [if_neg hci] at had
    subst had
    go_region_law (refine step_inp rfl (.tmp 22) (.tmp 25) 109 rfl (by simp [Act.eval, Act.put]; try rfl) (by simp [Act.eval, Act.put]; try rfl) HRUN.out ?_)
    all_goals (go_wp2; exact rcast (H.out W2 K2.out HFIN.out) rfl)
end
end
/-! ### pantlerlaw08: alive, GatherSizes. -/
section
open Go.RowKit
set_option linter.unusedVariables false
set_option linter.unusedSimpArgs false
set_option maxRecDepth 100000

/-! ### sizes of cuts -/
def psum (l : List Pc) : Int := (l.map (·.n)).sum
/-- A piece of a piece. -/
def Sub (p q : Pc) : Prop := q.f = p.f ∧ 0 ≤ p.f ∧ p.f ≤ 256 ∧ p.o ≤ q.o ∧ q.o + q.n ≤ p.o + p.n ∧ 0 < q.n ∧ 0 ≤ p.o ∧ p.o + p.n ≤ 256
theorem Sub.ok {p q : Pc} (h : Sub p q) : q.ok := by
  obtain ⟨h1, h2, h3, h4, h5, h6, h7, h8⟩ := h
  unfold Pc.ok; omega
section
variable {R : Ending → World → Prop} {w : World}
end
end
end Go.Proofs.YtedblbpmlbjnhaaGreat
