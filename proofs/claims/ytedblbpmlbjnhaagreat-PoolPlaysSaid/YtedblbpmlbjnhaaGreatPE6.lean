/- append as a step of a drawn region. pantlerlaw09.Of: the document's call as the program's. The walks of a disk's calls. -/
import Derived.Test.YtedblbpmlbjnhaaGreatPE1
import Derived.Test.YtedblbpmlbjnhaaGreatPE5
import Derived.Test.YtedblbpmlbjnhaaGreatPE4
import Derived.Deep.DeepCutAuto
import Derived.Deep.Cut
import Derived.Deep.RegionHeldLaw
import Derived.Deep.MidRow
import Derived.Deep.WholeRow
namespace Go.Proofs.YtedblbpmlbjnhaaGreat
/-! ### append as a step of a drawn region. -/
section
open Go.RowKit
set_option linter.unusedVariables false
set_option linter.unusedSimpArgs false
set_option maxRecDepth 100000

theorem step_app {P : Program} {ops : Array Oper} {o : Oper} {a : Act} {w : World} {K : Act → World → Prop} {Q : Exit → Act → World → Prop} {E : Prop} (hg : o.guard = none) (s x : Operand) (t : Nat)
    (ho : o.op = .call { callee := .builtin .append, args := #[s, x], argTypes := #[t, t] })
    {e : Nat} {z : Value} {sz by_ : Nat} (hE : Elt P t e z sz by_) (A : Option Addr) (n c : Nat) (xs : List Value) (hs : a.eval s = .slice A n c) (hown : Ow w e sz A n c xs)
    (N : List Nat) (A2 : Option Addr) (m c2 : Nat) (news : List Value) (hx : a.eval x = .slice A2 m c2) (hr : Rd w N A2 news) (hl : news.length = m * sz) (h1 : ∀ u ∈ news, u.oneCell' = true) (hb : n + m ≤ 4294967296)
    (h : ∀ A' c' w', Ow w' e sz A' (n + m) c' (xs ++ news) → Kp (bks A) w w' → (A' = A ∨ A' = some ⟨w.heap.size, 0, none⟩) → K (a.put o.dst (.slice A' (n + m) c')) w') :
    if Region.wanted o (yielded ops a.tmps) = true then Oper.wp P o a w K Q else E := by
  have hw : Region.wanted o (yielded ops a.tmps) = true := by simp [Region.wanted, hg]
  rw [if_pos hw]
  exact wp_app w s x t ho hE A n c xs hs hown N A2 m c2 news hx hr hl h1 hb h
end
/-! ### pantlerlaw09.Of: the document's call as the program's. -/
section
open Go.RowKit Go.Shelf
set_option linter.unusedVariables false
set_option linter.unusedSimpArgs false
set_option maxRecDepth 100000

theorem elt_op : Elt Tryz.prog 42 128 (.agg #[.int .i64 0, .int .u32 0, .int .i64 0, .int .i64 0]) 4 32 := ⟨Tryz.underlying42, by kernel_rfl, rfl, by decide, by decide⟩
/-- A slice whose block is new. -/
def Fresh (B : Nat) (A : Option Addr) : Prop := ∀ b ∈ bks A, B ≤ b
/-- The program's call, in cells. -/
def kcC (x : Cl) (A5 : Option Addr) (c5 : Nat) (A6 : Option Addr) (n6 c6 : Nat) (A7 : Option Addr) (n7 c7 : Nat) : List Value :=
  [.int .i64 x.op, .int .i64 x.env, .int .i64 x.a, .int .i64 x.b, .int .i64 x.c, .slice A5 x.s.size c5, .slice A6 n6 c6, .slice A7 n7 c7]
structure OfS (w W : World) (x : Cl) (cb rb xb : Nat) (A5 : Option Addr) (c5 : Nat) (A6 : Option Addr) (n6 c6 : Nat) (A7 : Option Addr) (c7 : Nat) (ops : List FOp) : Prop where
  kp : Kp [] w W
  b : Bk W cb 34 x.vals
  r : Bk W rb 45 [.int .i64 0, .int .i64 0, .int .i64 0, .int .i64 0, .int .i64 0, .slice none 0 0, .slice none 0 0, .slice none 0 0]
  xx : Bk W xb 45 (kcC x A5 c5 A6 n6 c6 A7 x.l.n c7)
  a5 : Tb W 5 A5 (bts x.s.data.toList)
  f5 : Fresh w.heap.size A5
  a6 : Ow W 128 4 A6 n6 c6 (ops.flatMap FOp.vals)
  f6 : Fresh w.heap.size A6
  a7 : Ow W 187 3 A7 x.l.n c7 (x.l.l.flatMap Pc.vals)
  f7 : Fresh w.heap.size A7
  h1 : w.heap.size ≤ cb
  h2 : w.heap.size ≤ rb
  h3 : w.heap.size ≤ xb
  ne : rb ≠ xb
  s5 : A5 = none → False
theorem bk8 {w : World} {g tt : Nat} {a b c d e f k l : Value} (h : Bk w g tt [a, b, c, d, e, f, k, l]) : (w.cell? ⟨g, 0, none⟩ = some a ∧ w.cell? ⟨g, 1, none⟩ = some b ∧ w.cell? ⟨g, 2, none⟩ = some c ∧ w.cell? ⟨g, 3, none⟩ = some d ∧ w.cell? ⟨g, 4, none⟩ = some e ∧ w.cell? ⟨g, 5, none⟩ = some f ∧ w.cell? ⟨g, 6, none⟩ = some k ∧ w.cell? ⟨g, 7, none⟩ = some l) :=
  ⟨h.cell 0, h.cell 1, h.cell 2, h.cell 3, h.cell 4, h.cell 5, h.cell 6, h.cell 7⟩
def kz : List Value := [.int .i64 0, .int .i64 0, .int .i64 0, .int .i64 0, .int .i64 0, .slice none 0 0, .slice none 0 0, .slice none 0 0]
theorem Bk.at_ {w : World} {g g' t : Nat} {cs : List Value} (h : Bk w g t cs) (e : g = g') : Bk w g' t cs := e ▸ h
theorem OfS.app {w W W1 w5 : World} {x : Cl} {cb rb xb n6 c6 c5 c7 c3 : Nat} {A5 A6 A7 A3 : Option Addr} {ops : List FOp} (h : OfS w W x cb rb xb A5 c5 A6 n6 c6 A7 c7 ops) (y : FOp) (k1 : Kp [] W W1)
    (ho : Ow w5 128 4 A3 (n6 + 1) c3 (ops.flatMap FOp.vals ++ y.vals)) (hk : Kp (bks A6) W1 w5) (hA : A3 = A6 ∨ A3 = some ⟨W1.heap.size, 0, none⟩) :
    (w5.cell? ⟨xb, 6, none⟩ = some (.slice A6 n6 c6) ∧ w5.frozen? ⟨xb, 6, none⟩ = false ∧ Kp (bks A6) W w5 ∧ Bk w5 cb 34 x.vals) ∧ OfS w (w5.setCell ⟨xb, 6, none⟩ (.slice A3 (n6 + 1) c3)) x cb rb xb A5 c5 A3 (n6 + 1) c3 A7 c7 (ops ++ [y]) := by
  have kk : Kp (bks A6) W w5 := (k1.mono (by simp)).thn hk (fun s hs => .inl hs)
  have hx := h.xx.off kk (Off.bks h.a6.ty (by decide))
  have hb := h.b.off kk (Off.bks h.a6.ty (by decide))
  have hr := h.r.off kk (Off.bks h.a6.ty (by decide))
  have ha5 := h.a5.kp kk (Off.bks h.a6.ty (by decide))
  have ha7 := h.a7.off kk (Off.bks h.a6.ty (by decide))
  have ks : Kp [xb] w5 (w5.setCell ⟨xb, 6, none⟩ (.slice A3 (n6 + 1) c3)) := (Kp.refl _ _).setCell (p := ⟨xb, 6, none⟩) (.inl (by simp)) _
  have z := h.kp.size
  have z1 := k1.size
  have h3 := h.h3
  refine ⟨⟨hx.cell 6, hx.frozen 6, kk, hb⟩, ⟨?_, hb.kp ks (by simpa using hx.ne_ hb (by decide) ∘ Eq.symm), hr.kp ks (by simpa using h.ne), (hx.set_ 6 _).cast rfl, ha5.kp ks (Off.one hx.ty (by decide)), h.f5, (ho.off ks (Off.one hx.ty (by decide))).cast rfl (by simp [List.flatMap_append]), ?_, ha7.off ks (Off.one hx.ty (by decide)), h.f7, h.h1, h.h2, h.h3, h.ne, h.s5⟩⟩
  · exact (h.kp.thn kk (fun s hs => .inr (h.f6 s hs))).thn ks (fun s hs => .inr (by simp at hs; omega))
  · intro b hb
    rcases hA with rfl | rfl
    · exact h.f6 b hb
    · simp [bks] at hb; omega
/-- The conversion of a string to bytes, its world a letter. -/
theorem conv_letter (s : ByteArray) : ∃ (bw : World → World) (cw : World → Nat), (∀ W, (convert 9 37 (.string s)).run Tryz.prog W = .ok (.slice (some ⟨W.heap.size, 0, none⟩) s.size (cw W)) (bw W)) ∧ (∀ W, (bw W).heap.size = W.heap.size + 1) ∧
    (∀ (S : List Nat) (a w : World), Kp S a w → Kp S a (bw w)) ∧ (∀ (w : World) (b : Nat), b = w.heap.size → Tb (bw w) 5 (some ⟨b, 0, none⟩) (bts s.data.toList)) :=
  ⟨fun W => Lib.bytesWorld W 5 s, fun W => grownCap W s.size 0 5, fun W => conv_sb W s, fun W => Lib.bytesWorld_size _ _ _, fun S a w k => k.bytesWorld _ _, fun w b hb => Tb.fresh w hb⟩
end
/-! ### The walks of a disk's calls. -/
section
open Go.RowKit Go.Shelf
set_option linter.unusedVariables false
set_option linter.unusedSimpArgs false
set_option maxRecDepth 100000
section
variable {R : Ending → World → Prop} {w : World} {bD bL bO c : Nat} {A : Option Addr} {d : DkS}

set_option maxHeartbeats 1000000 in
theorem may_any (hd : Dsk w bD bL bO A c d) (env b : Int) (h : R (.returned (.int .i64 (dMay d env b))) w) :
    Calls Tryz.prog 139 #[.pointer (some ⟨bD, 0, none⟩), .int .i64 env, .int .i64 b] w R := by
  have c0 := hd.dd.cell 0
  have c1 := hd.dd.cell 1
  have c3 := hd.dd.cell 3
  simp only [List.getElem?_cons_zero, List.getElem?_cons_succ] at c0 c1 c3
  have hn := hd.ok.n1
  have ho := hd.ok.ow
  cases hof : d.off with
  | true =>
    have hm : dMay d env b = 30 := by simp [dMay, hof]
    rw [hm] at h
    rw [hof] at c3
    clear hm hd hof ho hn
    go_enter Tryz.func139, Tryz.ntmps139
    go_wp2
    exact h
  | false =>
    rw [hof] at c3
    by_cases h0 : b < 0
    · have hm : dMay d env b = 31 := by simp [dMay, hof, h0]
      rw [hm] at h
      clear hm hd hof
      go_enter Tryz.func139, Tryz.ntmps139
      go_wp2
      exact h
    · by_cases h1 : (d.bl.length : Int) ≤ b
      · have hm : dMay d env b = 31 := by simp [dMay, hof, h1]
        rw [hm] at h
        clear hm hd ho hof
        go_enter Tryz.func139, Tryz.ntmps139
        go_wp2
        exact h
      · obtain ⟨k, rfl⟩ : ∃ k : Nat, b = k := ⟨b.toNat, by omega⟩
        have hk : k < d.ow.length := by omega
        have e := List.getElem?_eq_getElem hk
        obtain ⟨o, hoe⟩ : ∃ o, d.ow[k] = o := ⟨_, rfl⟩
        rw [hoe] at e
        have ce : w.cell? ⟨bO, k, none⟩ = some (.int .i64 o) := by rw [hd.o.cell]; exact ints_at e
        have hm : dMay d env k = if o = 0 ∨ o ≠ env then 20 else 0 := by
          unfold dMay
          rw [if_neg (by simp [hof]), if_neg (by omega), Int.toNat_natCast, e]
        rw [hm] at h
        have H := Lib.hid h
        clear hm hd ho hoe e h hof
        by_cases h2 : o = 0
        · have b2 : (o == 0) = true := by simp [h2]
          have HH := rcast H.out (congrArg (Value.int .i64) (if_pos (Or.inl h2)))
          clear h2 H
          go_enter Tryz.func139, Tryz.ntmps139
          go_wp2
          exact HH
        · have b2 : (o == 0) = false := by simp [h2]
          by_cases h3 : o = env
          · have b3 : (o != env) = false := by simp [h3]
            have HH := rcast H.out (congrArg (Value.int .i64) (if_neg (fun h => h.elim h2 (fun h => h h3))))
            clear h2 h3 H
            go_enter Tryz.func139, Tryz.ntmps139
            go_wp2
            exact HH
          · have b3 : (o != env) = true := by simp [h3]
            have HH := rcast H.out (congrArg (Value.int .i64) (if_pos (Or.inr h3)))
            clear h2 h3 H
            go_enter Tryz.func139, Tryz.ntmps139
            go_wp2
            exact HH
theorem Rd.sub' {N : List Nat} {A : Option Addr} {xs ys : List Value} (h : Rd w N A xs) (e : xs = ys) : Rd w N A ys := e ▸ h
theorem lastOf_nil (b : Int) : lastOf [] b = none := rfl
theorem lastOf_snoc {l : List Wr} {k : Nat} {x : Wr} (hx : l[k]? = some x) (b : Int) : lastOf (l.take (k + 1)) b = if x.b = b then some x.s else lastOf (l.take k) b := by
  have hk : k < l.length := (List.getElem?_eq_some_iff.1 hx).1
  have e : l[k] = x := (List.getElem?_eq_some_iff.1 hx).2
  unfold lastOf
  rw [List.take_succ_eq_append_getElem hk, e, List.reverse_append]
  by_cases h : x.b = b <;> simp [h]
theorem Dsk.wr (hd : Dsk w bD bL bO A c d) {k : Nat} {x : Wr} (hx : d.ln[k]? = some x) : ∃ g, A = some ⟨g, 0, none⟩ ∧ w.rangeAt g (k * 257) (wcells x) := by
  have hk : k < d.ln.length := (List.getElem?_eq_some_iff.1 hx).1
  obtain ⟨b, off, hA, _, _, hc⟩ := rd_at (hd.ln.rd (N := []) (by simp)) wcells_len (by omega) hx
  obtain ⟨g, hg, _⟩ := hd.ln.form (by omega)
  rw [hg] at hA
  injection hA with hA
  injection hA with h1 h2
  subst h1; subst h2
  exact ⟨g, hg, fun j v hv => by have := hc j v hv; rwa [Nat.zero_add] at this⟩
theorem info_wr : (Tryz.prog.info? 247).map (·.size) = some 257 := by kernel_rfl
theorem wcells_one {x : Wr} (h : x.s.length = 256) : ∀ v ∈ wcells x, v.oneCell' = true := by
  intro v hv
  rw [wcells_eq h] at hv
  simp only [List.mem_cons] at hv
  rcases hv with rfl | hv
  · rfl
  · exact bts_one _ v hv
theorem zc_wr : Tryz.zeroCells247.size = 257 := by kernel_rfl
/-- A write into the box that was just made. -/
theorem box_write (W : World) {x : Wr} (h : x.s.length = 256) : (storeCells ⟨W.heap.size, 0, none⟩ (wcells x)).run Tryz.prog (W.alloc (.cells Tryz.zeroCells247 247)) = .ok () (W.alloc (.cells (wcells x).toArray 247)) := by
  have := run_storeCells_new (P := Tryz.prog) W 247 Tryz.zeroCells247 (wcells x).toArray (by rw [List.size_toArray, wcells_len]; exact info_wr) (by rw [zc_wr]; simp [wcells_len]) (all_oneCell_toArray (wcells_one h))
  simpa using this
set_option maxHeartbeats 1000000 in
theorem dread_any (hd : Dsk w bD bL bO A c d) (hlm : d.ln.length ≤ 1000000) (env b : Int)
    (h : ∀ e l A' c' w', Hid (dRead d env b = (e, l)) → Kp [] w w' → Ow w' 5 1 A' l.length c' (bts l) → (∀ b ∈ bks A', w.heap.size ≤ b) → R (.returned (.tuple #[.slice A' l.length c', .int .i64 e])) w') :
    Calls Tryz.prog 94 #[.pointer (some ⟨bD, 0, none⟩), .int .i64 env, .int .i64 b] w R := by
  have H := Lib.hid h
  clear h
  by_cases hm : dMay d env b = 0
  · have HM : Hid (∀ (R : Ending → World → Prop), R (.returned (.int .i64 0)) w → Calls Tryz.prog 139 #[.pointer (some ⟨bD, 0, none⟩), .int .i64 env, .int .i64 b] w R) := Lib.hid (fun R h => may_any hd env b (by rw [hm]; exact h))
    obtain ⟨hb0, hb1, _, _⟩ := dMay_ok hm
    obtain ⟨bb, rfl⟩ : ∃ k : Nat, b = k := ⟨b.toNat, by omega⟩
    have c0 := hd.dd.cell 0
    have c2 := hd.dd.cell 2
    simp only [List.getElem?_cons_zero, List.getElem?_cons_succ] at c0 c2
    have HD := Lib.hid hd
    have HMM := Lib.hid hm
    clear hd hm
    go_enter Tryz.func94, Tryz.ntmps94
    go_wp2_with (go_at_call 139; refine HM.out _ ?_)
    go_loopw [9] (fun iv wr => ∃ k : Nat, k ≤ d.ln.length ∧ iv = .int .i64 ((k : Int) - 1) ∧ Hid (Kp [] w wr) ∧ Hid (lastOf d.ln bb = lastOf (d.ln.take k) bb)) (fun iv _ => (intOf iv + 1).toNat)
    case atStart => exact ⟨d.ln.length, Nat.le_refl _, by go_num, Lib.hid (Kp.refl _ _), Lib.hid (by rw [List.take_length])⟩
    case round =>
      obtain ⟨k, hk, rfl, kr, hlast⟩ := hrel
      have c0' := (kr.out.cell HD.out.dd.lt (by simp)).trans c0
      have c2' := (kr.out.cell HD.out.dd.lt (by simp)).trans c2
      clear c0 c2
      cases k with
      | zero =>
        have hse : dSee d bb = (d.bl[bb]?).getD [] := by have := hlast.out; rw [List.take_zero, lastOf_nil] at this; simp [dSee, this]
        have hp : (dSee d bb).length = 256 := HD.out.ok.see hb0 hb1
        have hrd : ∀ W, Kp [] wr W → Rd W [] (some ⟨bL, bb * 256, none⟩) (bts (dSee d bb)) := fun W kW _ => by
          have hdr := HD.out.off (kr.out.trans kW) (Off.nil _ _) (Off.nil _ _) (Off.nil _ _) (Off.nil _ _)
          refine ⟨bL, bb * 256, rfl, by simp, hdr.l.lt, fun j u hu => ?_⟩
          have hbl : bb < d.bl.length := by omega
          have e := List.getElem?_eq_getElem hbl
          rw [hse, e] at hu hp
          simp only [Option.getD_some] at hu hp
          rw [hdr.l.cell, flat_get pcells_len e (by rw [bts_get] at hu; rcases Nat.lt_or_ge j 256 with h | h; exact h; rw [List.getElem?_eq_none (by omega)] at hu; cases hu), pcells_eq hp]
          exact hu
        have HR := Lib.hid hrd
        have HP := Lib.hid hp
        clear hse hp hrd
        go_wp2_with (go_at_call 60; ((refine clone_some (N := []) (xs := bts (dSee d bb)) (HR.out _ (Kp.refl _ _)) (bts_one _) (by rw [bts_len]; exact HP.out) (by omega) ?_); intro g c' w1 g11 g12 g13))
        exact rcast (H.out 0 (dSee d bb) (some ⟨g, 0, none⟩) c' w1 (by simp [Hid, dRead, HMM.out]) (kr.out.trans g13) (by rw [HP.out]; exact g12) (by have := kr.out.size; simp [bks]; omega)) (by rw [HP.out]; rfl)
      | succ j =>
        obtain ⟨x, hx, hxm⟩ := get_lt (l := d.ln) (k := j) (by omega)
        have hdr := HD.out.off kr.out (Off.nil _ _) (Off.nil _ _) (Off.nil _ _) (Off.nil _ _)
        obtain ⟨g, hg, hrg⟩ := hdr.wr hx
        rw [hg] at c2'
        obtain ⟨hx0, hx1, hx2⟩ := HD.out.ok.ln x hxm
        have hls := lastOf_snoc hx bb
        have hst := box_write wr hx2
        have hwl := wcells_len x
        have hw0 : ∀ h : 0 < (wcells x).length, (wcells x)[0]'h = .int .i64 x.b := fun h => by simp [wcells_eq hx2]
        have HBX : Hid (Bk (wr.alloc (.cells (wcells x).toArray 247)) wr.heap.size 247 (wcells x)) := Lib.hid ((Bk.newAt rfl _ _).cast rfl)
        have HW := Lib.hid (wcells_eq hx2)
        have HX2 := Lib.hid hx2
        have HLS := Lib.hid hls
        clear hx hg hdr hls hx2
        by_cases hbx : x.b = bb
        · have hq : (x.b == (bb : Int)) = true := by simp [hbx]
          have HBB := Lib.hid hbx
          clear hbx
          go_wp2
          refine wp_load_mid 247 (.tmp 33) rfl g (j * 257) rfl (wcells x) _ hrg Tryz.underlying247 rfl (by rw [wcells_len]; exact info_wr) ?_
          clear hrg
          go_wp2_with (go_at_call 60; ((refine clone_some (N := []) (xs := bts x.s) ?_ (bts_one _) ?_ ?_ (fun g c' w1 g11 g12 g13 => ?_))))
          · exact (Rd.of_bk_at (o := 1) HBX.out (by simp)).sub' (by rw [HW.out]; rfl)
          · rw [bts_len]; exact HX2.out
          · omega
          · have hse : dSee d bb = x.s := by have := hlast.out; rw [HLS.out, if_pos HBB.out] at this; simp [dSee, this]
            have hx2 := HX2.out
            exact rcast (H.out 0 x.s (some ⟨g, 0, none⟩) c' w1 (by simp [Hid, dRead, HMM.out, hse]) ((kr.out.alloc _).trans g13) (by rw [hx2]; exact g12) (by have := kr.out.size; simp at g11; simp [bks]; omega)) (by rw [hx2]; rfl)
        · have hq : (x.b == (bb : Int)) = false := by simp [hbx]
          have HBB := Lib.hid hbx
          clear hbx
          go_wp2
          refine wp_load_mid 247 (.tmp 33) rfl g (j * 257) rfl (wcells x) _ hrg Tryz.underlying247 rfl (by rw [wcells_len]; exact info_wr) ?_
          clear hrg
          go_wp2
          exact ⟨⟨j, by omega, by go_num, Lib.hid (kr.out.alloc _), Lib.hid (by rw [hlast.out, HLS.out, if_neg HBB.out])⟩, by simp [intOf] <;> omega⟩
  · have HM : Hid (∀ (R : Ending → World → Prop), R (.returned (.int .i64 (dMay d env b))) w → Calls Tryz.prog 139 #[.pointer (some ⟨bD, 0, none⟩), .int .i64 env, .int .i64 b] w R) := Lib.hid (fun R h => may_any hd env b h)
    have HH := H.out (dMay d env b) [] none 0 w (by simp [Hid, dRead, hm]) (Kp.refl _ _) Ow.nil (by simp [bks])
    clear hd
    go_enter Tryz.func94, Tryz.ntmps94
    go_wp2_with (go_at_call 139; refine HM.out _ ?_)
    exact HH
end
end
end Go.Proofs.YtedblbpmlbjnhaaGreat
