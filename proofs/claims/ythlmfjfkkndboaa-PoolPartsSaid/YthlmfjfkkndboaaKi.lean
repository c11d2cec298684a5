/- A filter taken out: slices.Delete of one. -/
import Derived.Test.YthlmfjfkkndboaaKh
import Derived.Deep.RegionLaw
import Derived.ArgAppend
namespace Go.Proofs.Ythlmfjfkkndboaa
open Go.RowKit Go.Shelf
set_option linter.unusedVariables false
set_option linter.unusedSimpArgs false
set_option maxRecDepth 100000
section
variable {R : Ending → World → Prop} {w : World}
def bz : List Value := [.int .i64 0, .int .i64 0, .slice none 0 0]
theorem info_bd : (Try.prog.info? 174).map (fun i => (i.zero, i.size, i.bytes)) = some (some (.agg #[.int .i64 0, .int .i64 0, .slice none 0 0]), 3, 40) := by kernel_rfl
/-- append, as a step of a drawn region, by what it is known to do. -/
theorem step_inp {P : Program} {ops : Array Oper} {o : Oper} {a : Act} {w w' : World} {K : Act → World → Prop} {Q : Exit → Act → World → Prop} {E : Prop} (hg : o.guard = none) (s x : Operand) (t : Nat)
    (ho : o.op = .call { callee := .builtin .append, args := #[s, x], argTypes := #[t, t] }) {S X v : Value} (hs : a.eval s = S) (hx : a.eval x = X)
    (hrun : ∀ ty, (Builtin.append_ #[t, t] ty #[S, X]).run P w = .ok v w') (h : K (a.put o.dst v) w') :
    if Region.wanted o (yielded ops a.tmps) = true then Oper.wp P o a w K Q else E := by
  have hw : Region.wanted o (yielded ops a.tmps) = true := by simp [Region.wanted, hg]
  rw [if_pos hw]
  unfold Oper.wp execOp
  simp only [ho, resolve, invoke, builtin, Sem.run_bind, Sem.run_pure, Result.andThen_ok, List.map_toArray, List.map_cons, List.map_nil, hs, hx, hrun]
  exact h
theorem zero_bd (W : World) : (zeroValue 174).run Try.prog W = .ok (.agg #[.int .i64 0, .int .i64 0, .slice none 0 0]) W := by kernel_rfl
theorem run_clear_bd (W : World) {g o c t : Nat} {cs : List Value} (h : Bk W g t cs) (hl : o + 3 ≤ cs.length) (ty : Nat) : (Builtin.clear_ #[116] ty #[.slice (some ⟨g, o, none⟩) 1 c]).run Try.prog W = .ok (.tuple #[]) (W.setCells g o bz) := by
  have hzc : (Builtin.zeroCells (Value.agg #[.int .i64 0, .int .i64 0, .slice none 0 0]).cells 1).toList = bz := by kernel_rfl
  have hst := run_storeCells_cells (P := Try.prog) g o bz 0 W (by intro j hj; rw [Nat.add_zero, h.cell, List.getElem?_eq_getElem (by simp [bz] at hj; omega)]; rfl) (by intro j hj; exact h.frozen _) (by intro v hv; simp [bz] at hv; rcases hv with rfl | rfl | rfl <;> rfl)
  simp only [Nat.add_zero] at hst
  simp [Builtin.clear_, run_underlying Try.underlying116, zero_bd, hzc, hst]
theorem erase_flat (fl : List Bnd) (i : Nat) : (fl.eraseIdx i).flatMap Bnd.vals = (fl.take i).flatMap Bnd.vals ++ (fl.drop (i + 1)).flatMap Bnd.vals := by
  rw [List.eraseIdx_eq_take_drop_succ, List.flatMap_append]
theorem flat_take_bd (fl : List Bnd) (i : Nat) : (fl.take i).flatMap Bnd.vals = (fl.flatMap Bnd.vals).take (i * 3) := by
  induction fl generalizing i with
  | nil => simp
  | cons x l ih =>
    cases i with
    | zero => simp
    | succ i =>
      simp only [List.take_succ_cons, List.flatMap_cons]
      rw [ih, List.take_append, bvals_len, List.take_of_length_le (l := x.vals) (by rw [bvals_len]; omega), show (i + 1) * 3 - 3 = i * 3 by omega]
theorem flat_drop_bd (fl : List Bnd) (i : Nat) : (fl.drop i).flatMap Bnd.vals = (fl.flatMap Bnd.vals).drop (i * 3) := by
  induction fl generalizing i with
  | nil => simp
  | cons x l ih =>
    cases i with
    | zero => simp
    | succ i =>
      simp only [List.drop_succ_cons, List.flatMap_cons]
      rw [ih, List.drop_append, bvals_len, List.drop_of_length_le (l := x.vals) (by rw [bvals_len]; omega), List.nil_append, show (i + 1) * 3 - 3 = i * 3 by omega]
set_option maxHeartbeats 2000000 in
theorem delete_any {g m c i : Nat} {fl : List Bnd} (ho : Ow w 174 3 (some ⟨g, 0, none⟩) (m + 1) c (fl.flatMap Bnd.vals)) (hl : fl.length = m + 1) (hn : m ≤ 1000000) (hi : i ≤ m)
    (h : ∀ w', Kp [g] w w' → Ow w' 174 3 (some ⟨g, 0, none⟩) m c ((fl.eraseIdx i).flatMap Bnd.vals) → R (.returned (.slice (some ⟨g, 0, none⟩) m c)) w') :
    Calls Try.prog 104 #[.slice (some ⟨g, 0, none⟩) (m + 1) c, .int .i64 i, .int .i64 ((i : Int) + 1)] w R := by
  have H := Lib.hid h
  obtain ⟨cur, hb, hcl, htk, hc1, hc2⟩ : ∃ cur : List Value, Bk w g 174 cur ∧ cur.length = c * 3 ∧ cur.take ((m + 1) * 3) = fl.flatMap Bnd.vals ∧ m + 1 ≤ c ∧ c ≤ maxLen := by
    rcases ho.2 with ⟨hv, _⟩ | ⟨g', cap, cur, hv, _, hg, hc, hm, hs, ht⟩
    · injection hv with hA; cases hA
    · injection hv with hA _ hv; subst hv; injection hA with hA; injection hA with hA; subst hA
      exact ⟨cur.toList, by unfold Bk; simpa using hg, by simpa using hs, ht, hc, hm⟩
  have hmx : c ≤ 9223372036854775807 := hc2
  clear ho h
  have hne : ((i : Int) == (i : Int) + 1) = false := by simp; omega
  have hic : i ≤ c := by omega
  have hin : (i : Int) + 1 ≤ ((m + 1 : Nat) : Int) := by omega
  have hin2 : i + 1 ≤ m + 1 := by omega
  have h01 : (0 : Int) ≤ (i : Int) + 1 := by omega
  have hii : (i : Int) ≤ (i : Int) + 1 := by omega
  obtain ⟨ie, hie, _, hsz, _⟩ := info_parts info_bd
  obtain ⟨news, hnw⟩ : ∃ news, (fl.drop (i + 1)).flatMap Bnd.vals = news := ⟨_, rfl⟩
  have hnl : news.length = (m - i) * 3 := by rw [← hnw, flat_len bvals_len, List.length_drop, hl]; congr 1; omega
  have hnd : news = (cur.take ((m + 1) * 3)).drop ((i + 1) * 3) := by rw [← hnw, htk, flat_drop_bd]
  have hn1 : ∀ u ∈ news, u.oneCell' = true := by intro u hu; rw [← hnw, List.mem_flatMap] at hu; obtain ⟨x, _, hu⟩ := hu; exact bvals_one x u hu
  have hbW := bk_setCells news (i * 3) w.drew cur hb (by rw [hnl, hcl]; omega)
  obtain ⟨W1, hW1⟩ : ∃ W1, w.drew.setCells g (i * 3) news = W1 := ⟨_, rfl⟩
  have kW1 : Kp [g] w W1 := hW1 ▸ (Kp.refl [g] w).drew.trans (kp_setCells (by simp) _ _ _)
  rw [hW1] at hbW
  obtain ⟨X, hX⟩ : ∃ X, cur.take (i * 3) ++ news ++ cur.drop (i * 3 + news.length) = X := ⟨_, rfl⟩
  rw [hX] at hbW
  have hXl : X.length = c * 3 := by rw [← hX]; simp [hnl, hcl]; omega
  have hXt : X.take (m * 3) = (fl.eraseIdx i).flatMap Bnd.vals := by
    rw [erase_flat, hnw, flat_take_bd, ← htk, List.take_take, ← hX, List.take_append_of_le_length (by simp [hnl, hcl]; omega), List.take_of_length_le (by simp [hnl, hcl]; omega)]
    congr 1
    congr 1
    omega
  have hbW2 := bk_setCells bz (m * 3) W1 X hbW (by rw [hXl]; show m * 3 + 3 ≤ _; omega)
  have hclr := fun ty => run_clear_bd W1 (o := m * 3) (c := c - m) hbW (by rw [hXl]; omega) ty
  obtain ⟨W2, hW2⟩ : ∃ W2, W1.setCells g (m * 3) bz = W2 := ⟨_, rfl⟩
  have kW2 : Kp [g] w W2 := hW2 ▸ kW1.trans (kp_setCells (by simp) _ _ _)
  rw [hW2] at hbW2 hclr
  have hfin : Ow W2 174 3 (some ⟨g, 0, none⟩) m c ((fl.eraseIdx i).flatMap Bnd.vals) := by
    refine ⟨by rw [← hXt]; simp [hXl]; omega, .inr ⟨g, c, _, rfl, Nat.zero_le _, hbW2, by omega, hc2, ?_, ?_⟩⟩
    · simp [hXl, bz]; omega
    · simp only [List.append_assoc]
      rw [List.take_append_of_le_length (by simp [hXl]; omega), List.take_take, Nat.min_self]
      exact hXt
  obtain ⟨ad, had⟩ : ∃ ad : Addr, ad = (if i + 1 = c then ⟨g, 0, none⟩ else ⟨g, (i + 1) * 3, none⟩) := ⟨_, rfl⟩
  have hrun : ∀ ty, (Builtin.append_ #[116, 116] ty #[.slice (some ⟨g, 0, none⟩) i c, .slice (some ad) (m + 1 - (i + 1)) (c - (i + 1))]).run Try.prog w.drew = .ok (.slice (some ⟨g, 0, none⟩) m c) W1 := by
    intro ty
    have := run_append_room_cells (P := Try.prog) w.drew 116 ty 174 ie Try.underlying116 hie g 0 i c ad (m + 1 - (i + 1)) (c - (i + 1)) news (by rw [hsz, hnl]; congr 1; omega)
      (by
        intro j u hu
        have hj : j < (m - i) * 3 := by rw [← hnl]; exact (List.getElem?_eq_some_iff.1 hu).1
        have hne1 : ¬ i + 1 = c := by omega
        rw [if_neg hne1] at had
        subst had
        rw [Addr.add_mid]
        show w.cell? _ = _
        rw [hb.cell, ← hu, hnd, List.getElem?_drop, List.getElem?_take, if_pos (by omega)])
      hn1 (by omega)
      (by intro j hj; rw [hnl] at hj; rw [hsz]; show (w.cell? _).isSome = true; rw [hb.cell, List.getElem?_eq_getElem (by omega)]; rfl)
      (by intro j hj; exact hb.frozen _)
    rw [hsz, Nat.zero_add, hW1] at this
    rw [this]
    congr 2; omega
  have HRUN := Lib.hid hrun
  have HFIN := Lib.hid hfin
  have K2 := Lib.hid kW2
  clear hrun hfin kW2 kW1 hbW2 hbW hXt hXl hX hn1 hnd hnl hnw hie hsz hcl htk hb hW1 hW2 hl
  go_enter Try.func104, Try.ntmps104
  go_wp2
  by_cases hci : i + 1 = c
  · rw [if_pos hci] at had
    have hmi : m = i := by omega
    subst hci
    subst hmi
    subst had
    simp only [show m + 1 - m = 1 by omega] at hclr
    go_region_law (refine step_inp rfl (.tmp 22) (.tmp 25) 116 rfl (by simp [Act.eval, Act.put]; try rfl) (by simp [Act.eval, Act.put]; try rfl) (by intro ty; have := HRUN.out ty; simp only [Nat.sub_self] at this ⊢; exact this) ?_)
    all_goals (go_wp2; exact rcast (H.out W2 K2.out HFIN.out) rfl)
  · have hci2 : ¬ c = i + 1 := by omega
    rw [if_neg hci] at had
    subst had
    go_region_law (refine step_inp rfl (.tmp 22) (.tmp 25) 116 rfl (by simp [Act.eval, Act.put]; try rfl) (by simp [Act.eval, Act.put]; try rfl) HRUN.out ?_)
    all_goals (go_wp2; exact rcast (H.out W2 K2.out HFIN.out) rfl)
end
end Go.Proofs.Ythlmfjfkkndboaa
