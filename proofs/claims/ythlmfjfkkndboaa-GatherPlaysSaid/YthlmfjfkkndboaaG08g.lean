/- gather.Drop's closure where a drop fails: the holds are taken again. -/
import Derived.Test.YthlmfjfkkndboaaG08f
import Derived.Defers
import Derived.BigRegion
import Derived.Deep.RegionHeldLaw
namespace Go.Proofs.Ythlmfjfkkndboaa
open Go.RowKit
set_option linter.unusedVariables false
set_option linter.unusedSimpArgs false
set_option maxRecDepth 100000
section
variable {bT bL : Nat} {fs : List Fr} {w : World}
set_option maxHeartbeats 2000000 in
theorem drop1_bad (hT : Tab w bT bL fs) (e gl d t k n c : Nat) (A : Option Addr) (l : List Pc) (h0 : w.cell? ⟨e, 0, none⟩ = some (.int .i64 1)) (h1 : w.cell? ⟨gl, 0, none⟩ = some (.slice A n c)) (h2 : w.cell? ⟨d, 0, none⟩ = some (.int .i64 k)) (h3 : w.cell? ⟨t, 0, none⟩ = some (.pointer (some ⟨bT, 0, none⟩)))
    (hk : k ≤ n) (hn : n ≤ 1000) (hc : n ≤ c) (hr : Rd w [bL] A (l.flatMap Pc.vals)) (hl : l.length = n) (ht : t ≠ bL) (hb : hoB fs 1000000) :
    CallsD Try.prog 63 #[.pointer (some ⟨e, 0, none⟩), .pointer (some ⟨gl, 0, none⟩), .pointer (some ⟨d, 0, none⟩), .pointer (some ⟨t, 0, none⟩)] .returning w fun e u' w' => u' = .returning ∧ (e = .returned (.tuple #[]) ∧ Kp [bL] w w' ∧ Tab w' bT bL (backAll fs (l.take k))) := by
  have HL := Lib.hid hl
  have HT := Lib.hid hT
  have HR := Lib.hid hr
  have HB := Lib.hid hb
  have htl : t < w.heap.size := World.block_lt_of_cell? w _ h3
  clear hl hT hr hb
  go_enter_d Try.func63, Try.ntmps63
  go_wp2
  go_loopw [12] (fun iv wr => ∃ (j : Nat) (fr : List Fr), j ≤ k ∧ iv = .int .i64 j ∧ Kp [bL] w wr ∧ Tab wr bT bL fr ∧ Hid (fr = backAll fs (l.take j) ∧ hoB fr (1000000 + j))) (fun iv _ => k - (intOf iv).toNat)
  case atStart => exact ⟨0, fs, Nat.zero_le _, rfl, Kp.refl _ _, HT.out, rfl, by simpa using HB.out⟩
  case round =>
    obtain ⟨j, fr, hj, rfl, kr, tr, hq⟩ := hrel
    by_cases hlt : j < k
    · obtain ⟨x, hx, hm⟩ := get_lt (l := l) (k := j) (by rw [HL.out]; omega)
      obtain ⟨b, off, rfl, _, _, hcc⟩ := rd_at (HR.out.kp kr (by simp)) pvals_len (by omega) hx
      have c0 := hcc 0 _ rfl
      have c1 := hcc 1 _ rfl
      have c2 := hcc 2 _ rfl
      rw [Nat.add_zero] at c0
      have HX := Lib.hid hx
      have t3 := (kr.cell (p := ⟨t, 0, none⟩) htl (by simpa using ht)).trans h3
      clear hcc hx
      go_upto_region 4 with (fail)
      refine gen_world (fun W => Kp [] wr W ∧ Bk W wr.heap.size 98 [.int .i64 x.f, .int .i64 x.o, .int .i64 x.n]) ⟨(Kp.refl _ _).alloc _, Bk.newAt rfl _ _⟩ ?_
      rintro W ⟨kW, bW⟩
      have T3 := (kW.cell (p := ⟨t, 0, none⟩) (World.block_lt_of_cell? wr _ t3) (by simp)).trans t3
      have hLW : bL < wr.heap.size := tr.l.lt
      have HS : Hid (∀ w', Kp [bL] W w' → w'.cell? ⟨t, 0, none⟩ = some (.pointer (some ⟨bT, 0, none⟩)) ∧ w'.cell? ⟨wr.heap.size, 0, none⟩ = some (.int .i64 x.f)) := Lib.hid (fun w' k' => ⟨(k'.cell (p := ⟨t, 0, none⟩) (World.block_lt_of_cell? W _ T3) (by simpa using ht)).trans T3, (bW.kp k' (by simp; omega)).cell 0⟩)
      have TW := Lib.hid (tr.kp kW (by simp) (by simp))
      have KW := Lib.hid (kr.trans (kW.mono (by simp)))
      obtain ⟨ow, how⟩ : ∃ ow, tOwner fr x.f = ow := ⟨_, rfl⟩
      have HOW : Hid (∀ (R : Ending → World → Prop) (w1 : World), Kp [] W w1 → R (.returned (.int .i64 ow)) w1 → Calls Try.prog 58 #[.pointer (some ⟨bT, 0, none⟩), .int .i64 x.f] w1 R) := Lib.hid (fun R w1 k1 h => owner_any (TW.out.kp k1 (by simp) (by simp)) x.f (fun n hn => by have e := hn.out.symm.trans how; rw [e]; exact h))
      have HHO : Hid (∀ (R : Ending → World → Prop) (w1 : World), Kp [] W w1 → (∀ e fs' w', Hid (tHold fr ow x.f = (e, fs')) → Kp [bL] w1 w' → Tab w' bT bL fs' → R (.returned (.int .i64 e)) w') → Calls Try.prog 52 #[.pointer (some ⟨bT, 0, none⟩), .int .i64 ow, .int .i64 x.f] w1 R) := Lib.hid (fun R w1 k1 h => hold_any (TW.out.kp k1 (by simp) (by simp)) ow x.f (hoB_at hq.out.2 (by omega) _) h)
      have HOWN := Lib.hid how
      clear bW kW c0 c1 c2 t3 T3 how
      go_region_held_law (fun w' => w'.cell? ⟨t, 0, none⟩ = some (.pointer (some ⟨bT, 0, none⟩)) ∧ w'.cell? ⟨wr.heap.size, 0, none⟩ = some (.int .i64 x.f)) ((refine HS.out _ ?_; repeat (first | with_reducible exact kk7 | with_reducible exact Kp.refl _ _ | with_reducible refine Kp.drew ?_))) (first | (go_simp; go_at_call 58; (refine HOW.out _ _ (by repeat (first | with_reducible exact Kp.refl _ _ | with_reducible refine Kp.drew ?_)) ?_)) | (go_simp; go_at_call 52; (refine HHO.out _ _ (by repeat (first | with_reducible exact Kp.refl _ _ | with_reducible refine Kp.drew ?_)) ?_); intro e7 f7 w7 q7 k7 t7; have kk7 : Kp [bL] W w7 := (Kp.mono (S := []) (by repeat (first | with_reducible exact Kp.refl _ _ | with_reducible refine Kp.drew ?_)) (by simp)).trans k7))
      all_goals
        have hs : backAll fs (l.take (j + 1)) = (tHold fr (tOwner fr x.f) x.f).2 := by
          have := foldl_snoc (f := fun fs (p : Pc) => (tHold fs (tOwner fs p.f) p.f).2) (b := fs) HX.out
          have e0 : fr = List.foldl (fun fs (p : Pc) => (tHold fs (tOwner fs p.f) p.f).2) fs (l.take j) := hq.out.1
          rw [e0]; exact this
        have hb7 := tHold_hoB hq.out.2 ow x.f
        rw [HOWN.out] at hs
        rw [q7.out] at hs hb7
        have e : (1000000 : Int) + j + 1 = 1000000 + ((j + 1 : Nat) : Int) := by omega
        rw [e] at hb7
        have HS : Hid (f7 = backAll fs (l.take (j + 1)) ∧ hoB f7 (1000000 + ((j + 1 : Nat) : Int))) := Lib.hid ⟨hs.symm, hb7⟩
        clear hs hb7 e
        go_wp2
        exact ⟨⟨j + 1, f7, by omega, by go_num, KW.out.trans kk7, t7, HS⟩, by simp [intOf]; omega⟩
    · obtain rfl : j = k := by omega
      have hfr := hq.out.1
      go_wp2
      first | go_end0 | refine bodyPost_ret (results_none rfl _ _ _) rfl ?_
      exact ⟨rfl, kr, by rw [← hfr]; exact tr⟩
end
/-- All go, or none. -/
def gdropE (fs : List Fr) (l : List Pc) : Int × List Fr := if l.any (dbad fs l) = true then (1, fs) else (0, l.foldl decF fs)
theorem gdropE_ok {fs : List Fr} {l : List Pc} (h0 : ∀ x ∈ fs, 0 ≤ x.ho) (h : dropOk fs l) : gdropE fs l = (0, dropAll fs l) := by
  unfold gdropE
  rw [if_neg (by rw [Bool.not_eq_true]; exact dbad_okD.2 (ok_okD l fs h0 h)), drop_dec l fs h]
theorem gdropE_no {fs : List Fr} {l : List Pc} (h : ¬ dropOk fs l) : gdropE fs l = (1, fs) := by
  unfold gdropE
  rw [if_pos]
  cases hb : l.any (dbad fs l) with
  | true => rfl
  | false => exact absurd (okD_ok l fs (dbad_okD.1 hb)) h
theorem dropOk_take : ∀ {l : List Pc} {fs : List Fr} {k : Nat} {x : Pc}, dropOk fs (l.take k) → l[k]? = some x → (tDrop (dropAll fs (l.take k)) x.f).1 = 0 → dropOk fs (l.take (k + 1))
  | p :: l, fs, 0, x, _, hx, h => by simp at hx; subst hx; exact ⟨h, trivial⟩
  | p :: l, fs, k + 1, x, hd, hx, h => ⟨hd.1, dropOk_take (k := k) hd.2 (by simpa using hx) h⟩
theorem dropOk_stop : ∀ {l : List Pc} {fs : List Fr} {k : Nat} {x : Pc}, l[k]? = some x → (tDrop (dropAll fs (l.take k)) x.f).1 ≠ 0 → ¬ dropOk fs l
  | p :: l, fs, 0, x, hx, h => by simp at hx; subst hx; exact fun hd => h hd.1
  | p :: l, fs, k + 1, x, hx, h => fun hd => dropOk_stop (k := k) (l := l) (by simpa using hx) h hd.2
theorem tDrop_bad {fs : List Fr} {f : Int} (h : (tDrop fs f).1 ≠ 0) : (tDrop fs f).2 = fs ∧ (tDrop fs f).1 = 1 := by
  unfold tDrop at h ⊢
  unfold heldE at h ⊢
  cases hf : fat fs f with
  | none => simp
  | some x =>
    rw [hf] at h
    by_cases h0 : x.ho = 0
    · simp [h0]
    · simp [h0] at h
section
variable {R : Ending → World → Prop} {bT bL : Nat} {fs : List Fr} {w : World}
set_option maxHeartbeats 4000000 in
/-- gather.Drop whole: all holds go, or none. -/
theorem gdrop2_any (hT : Tab w bT bL fs) {A : Option Addr} {n c : Nat} {l : List Pc} (hr : Rd w [bL] A (l.flatMap Pc.vals)) (hl : l.length = n) (hn : n ≤ 1000) (hcap : n ≤ c) (hb : ∀ y ∈ fs, 0 ≤ y.ho ∧ y.ho ≤ 1000000) (how : ∀ x ∈ fs, x.ho ≠ 0 → envB x.ow = true)
    (h : ∀ w', Kp [bL] w w' → Tab w' bT bL (gdropE fs l).2 → R (.returned (.int .i64 (gdropE fs l).1)) w') :
    Calls Try.prog 24 #[.pointer (some ⟨bT, 0, none⟩), .slice A n c] w R := by
  have H := Lib.hid h
  have HL := Lib.hid hl
  have HN : Hid (∀ s ∈ [bL], s ∈ [bL] ∨ w.heap.size ≤ s) := Lib.hid (fun s hs => .inl hs)
  have HOW := Lib.hid how
  have HB := Lib.hid hb
  have hmf : ∀ (fn : Fn) (first cap : Array Value) (w : World), (Instr.makeFunc fn first cap).run Try.prog w = .ok (.func fn first cap) w := fun _ _ _ _ => rfl
  have HR := Lib.hid hr
  clear h hl hb how
  go_enter_defers Try.func24, Try.ntmps24
  go_wp2
  have hbl := hT.l.lt
  have hbt := hT.t.lt
  have z0 : Bk _ w.heap.size 26 [.pointer (some ⟨bT, 0, none⟩)] := (((Bk.new' w 26 #[.pointer (some ⟨bT, 0, none⟩)]).alloc (.cells #[.slice A n c] 39)).alloc (.cells #[.int .i64 0] 27)).alloc (.cells #[.int .i64 0] 3)
  have z1 : Bk _ (w.heap.size + 1) 39 [.slice A n c] := ((Bk.newAt (w := w.alloc (.cells #[.pointer (some ⟨bT, 0, none⟩)] 26)) (by simp) 39 #[.slice A n c]).alloc (.cells #[.int .i64 0] 27)).alloc (.cells #[.int .i64 0] 3)
  have z2 : Bk _ (w.heap.size + 1 + 1) 27 [.int .i64 0] := (Bk.newAt (w := (w.alloc (.cells #[.pointer (some ⟨bT, 0, none⟩)] 26)).alloc (.cells #[.slice A n c] 39)) (by simp) 27 #[.int .i64 0]).alloc (.cells #[.int .i64 0] 3)
  have z3 : Bk _ (w.heap.size + 1 + 1 + 1) 3 [.int .i64 0] := Bk.newAt (w := ((w.alloc (.cells #[.pointer (some ⟨bT, 0, none⟩)] 26)).alloc (.cells #[.slice A n c] 39)).alloc (.cells #[.int .i64 0] 27)) (by simp) 3 #[.int .i64 0]
  have kz : Kp [bL] w _ := ((((Kp.refl [bL] w).alloc (.cells #[.pointer (some ⟨bT, 0, none⟩)] 26)).alloc (.cells #[.slice A n c] 39)).alloc (.cells #[.int .i64 0] 27)).alloc (.cells #[.int .i64 0] 3)
  have tz := hT.kp (((((Kp.refl [] w).alloc (.cells #[.pointer (some ⟨bT, 0, none⟩)] 26)).alloc (.cells #[.slice A n c] 39)).alloc (.cells #[.int .i64 0] 27)).alloc (.cells #[.int .i64 0] 3)) (by simp) (by simp)
  generalize (((w.alloc (.cells #[.pointer (some ⟨bT, 0, none⟩)] 26)).alloc (.cells #[.slice A n c] 39)).alloc (.cells #[.int .i64 0] 27)).alloc (.cells #[.int .i64 0] 3) = wz at *
  go_loopw [13] (fun i wr => ∃ (k : Nat) (fr : List Fr), k ≤ n ∧ i = .int .i64 k ∧ Kp [bL] w wr ∧ Tab wr bT bL fr ∧ Bk wr w.heap.size 26 [.pointer (some ⟨bT, 0, none⟩)] ∧ Bk wr (w.heap.size + 1) 39 [.slice A n c] ∧ Bk wr (w.heap.size + 1 + 1) 27 [.int .i64 0] ∧ Bk wr (w.heap.size + 1 + 1 + 1) 3 [.int .i64 k] ∧
    Hid (fr = dropAll fs (l.take k) ∧ dropOk fs (l.take k) ∧ (∀ y ∈ fr, -(k : Int) ≤ y.ho ∧ y.ho ≤ 1000000))) (fun i _ => n - (intOf i).toNat)
  case atStart => exact ⟨0, fs, Nat.zero_le _, rfl, kz, tz, z0, z1, z2, z3, rfl, trivial, by simpa using HB.out⟩
  case round =>
    obtain ⟨k, fr, hk, rfl, kr, tr, y0, y1, y2, y3, hq⟩ := hrel
    by_cases hlt : k < n
    · obtain ⟨x, hx, hm⟩ := get_lt (l := l) (k := k) (by rw [HL.out]; exact hlt)
      obtain ⟨b, off, rfl, _, _, hc⟩ := rd_at (hr.kp kr HN.out) pvals_len (by omega) hx
      have c0 := hc 0 _ rfl
      have c1 := hc 1 _ rfl
      have c2 := hc 2 _ rfl
      rw [Nat.add_zero] at c0
      have HX := Lib.hid hx
      have ta := fun o => tr.kp ((Kp.refl [] wr).alloc o) (by simp) (by simp)
      have ko := fun o => kr.alloc o
      have e0 := y0.cell 0
      have e3 := y3.cell 0
      simp only [List.getElem?_cons_zero] at e0 e3
      have e0a := fun o => (y0.alloc o).cell 0
      simp only [List.getElem?_cons_zero] at e0a
      have hs := kr.size
      by_cases hz : (tDrop fr x.f).1 = 0
      · have HE : Hid ((tDrop (dropAll fs (l.take k)) x.f).1 = 0) := Lib.hid (by rw [← hq.out.1]; exact hz)
        have HE2 := Lib.hid (dropOk_take hq.out.2.1 hx HE.out)
        clear hc hx hz
        go_wp2_with (go_at_call 53; refine drop_any (ta _) _ (fun y hy => by have := hq.out.2.2 y (List.mem_of_getElem? (fat_some hy).2); omega) (fun e7 f7 w7 q7 k7 t7 => ?_); (obtain rfl : e7 = 0 := by have := congrArg Prod.fst q7.out; rw [hq.out.1, HE.out] at this; exact this.symm); have x0 := (y0.alloc _).kp k7 (by simp; omega); have x1 := (y1.alloc _).kp k7 (by simp; omega); have x2 := (y2.alloc _).kp k7 (by simp; omega); have x3 := (y3.alloc _).kp k7 (by simp; omega); have g3 := x3.cell 0; have f3 := x3.frozen 0; simp only [List.getElem?_cons_zero] at g3)
        refine ⟨⟨k + 1, f7, by omega, by go_num, ((ko _).thn k7 (fun s hs => .inl hs)).setCell (.inr (by simp; omega)) _, t7.kp ((Kp.refl [w.heap.size + 1 + 1 + 1] w7).setCell (.inl (by simp)) _) (by simp; omega) (by simp; omega), x0.far (by simp <;> omega) _, x1.far (by simp <;> omega) _, x2.far (by simp <;> omega) _, (x3.set_ 0 _).cast (by go_num), Lib.hid ⟨?_, HE2.out, ?_⟩⟩, by simp [intOf]; omega⟩
        · have := foldl_snoc (f := fun fs (p : Pc) => (tDrop fs p.f).2) (b := fs) HX.out
          unfold dropAll
          rw [this]
          show f7 = (tDrop (dropAll fs (l.take k)) x.f).2
          rw [← hq.out.1, q7.out]
        · have := tDrop_hoB hq.out.2.2 x.f
          rw [q7.out] at this
          intro y hy
          have := this y hy
          omega
      · have HS : Hid (gdropE fs l = (1, fs)) := Lib.hid (gdropE_no (dropOk_stop hx (by rw [← hq.out.1]; exact hz)))
        have HBd := Lib.hid (tDrop_bad hz)
        have hlA : l.length = n := HL.out
        have hbk : Hid (backAll fr (l.take k) = fs) := Lib.hid (by
          rw [hq.out.1]
          refine back_drop hq.out.2.1 (fun p hp => ?_)
          obtain ⟨y, hy, hc⟩ := ok_okD _ fs (fun x hx => (HB.out x hx).1) hq.out.2.1 p hp
          refine ⟨y, hy, HOW.out y (List.mem_of_getElem? (fat_some hy).2) ?_⟩
          have hpos : 0 < cntF (l.take k) p.f := by
            unfold cntF
            exact List.countP_pos_iff.2 ⟨p, hp, by simp⟩
          omega)
        clear hc hx hz
        go_wp2_with (go_at_call 53; refine drop_any (ta _) _ (fun y hy => by have := hq.out.2.2 y (List.mem_of_getElem? (fat_some hy).2); omega) (fun e7 f7 w7 q7 k7 t7 => ?_); (obtain rfl : e7 = 1 := by have := congrArg Prod.fst q7.out; rw [HBd.out.2] at this; exact this.symm); have x0 := (y0.alloc _).kp k7 (by simp; omega); have x1 := (y1.alloc _).kp k7 (by simp; omega); have x2 := (y2.alloc _).kp k7 (by simp; omega); have x3 := (y3.alloc _).kp k7 (by simp; omega); have f2 := x2.frozen 0; have g2 := x2.cell 0; simp only [List.getElem?_cons_zero] at g2)
        have hf7 : f7 = fr := by have := congrArg Prod.snd q7.out; rw [HBd.out.1] at this; exact this.symm
        subst hf7
        have v2 := x2.set_ 0 (.int .i64 1)
        have u2 := v2.cell 0
        simp only [List.set_cons_zero, List.getElem?_cons_zero] at u2
        have u1 := (x1.far (p := ⟨w.heap.size + 1 + 1, 0, none⟩) (by simp <;> omega) (.int .i64 1)).cell 0
        have u3 := (x3.far (p := ⟨w.heap.size + 1 + 1, 0, none⟩) (by simp <;> omega) (.int .i64 1)).cell 0
        have u0 := (x0.far (p := ⟨w.heap.size + 1 + 1, 0, none⟩) (by simp <;> omega) (.int .i64 1)).cell 0
        simp only [List.getElem?_cons_zero] at u0 u1 u3
        have kv : Kp [bL] w (w7.setCell ⟨w.heap.size + 1 + 1, 0, none⟩ (.int .i64 1)) := ((ko _).thn k7 (fun s hs => .inl hs)).setCell (.inr (by simp; omega)) _
        have tv := t7.kp ((Kp.refl [w.heap.size + 1 + 1] w7).setCell (p := ⟨w.heap.size + 1 + 1, 0, none⟩) (.inl (by simp)) (.int .i64 1)) (by simp; omega) (by simp; omega)
        have hrv := HR.out.kp kv (by simp)
        have hbv : hoB f7 1000000 := fun y hy => by have := hq.out.2.2 y hy; omega
        refine leaves_cons (f := 63) (args := #[.pointer (some ⟨w.heap.size + 1 + 1, 0, none⟩), .pointer (some ⟨w.heap.size + 1, 0, none⟩), .pointer (some ⟨w.heap.size + 1 + 1 + 1, 0, none⟩), .pointer (some ⟨w.heap.size, 0, none⟩)]) (by simp) (by simp [go_sem]) ?_
        refine (drop1_bad tv _ _ _ _ k n c _ l u2 u1 u3 u0 (by omega) hn hcap hrv HL.out (by omega) hbv).mono ?_
        rintro e u' w'' ⟨rfl, rfl, kp9, tab9⟩
        have u9 := (kp9.cell (p := ⟨w.heap.size + 1 + 1, 0, none⟩) (World.block_lt_of_cell? _ _ u2) (by simp; omega)).trans u2
        rw [hbk.out] at tab9
        have hg := H.out w'' (kv.thn kp9 (fun s hs => .inl hs)) (by rw [HS.out]; exact tab9)
        rw [HS.out] at hg
        simp [Leaves, settle, results, Try.results24, go_sem, u9]
        exact hg
    · have e : l.take k = l := List.take_of_length_le (by have := HL.out; omega)
      obtain rfl : n = k := by omega
      rw [e] at hq
      clear e
      have e2 := y2.cell 0
      have f2 := y2.frozen 0
      simp only [List.getElem?_cons_zero] at e2
      go_wp2
      have v2 := y2.set_ 0 (.int .i64 0)
      have u2 := v2.cell 0
      simp only [List.set_cons_zero, List.getElem?_cons_zero] at u2
      refine leaves_cons (f := 63) (args := #[.pointer (some ⟨w.heap.size + 1 + 1, 0, none⟩), .pointer (some ⟨w.heap.size + 1, 0, none⟩), .pointer (some ⟨w.heap.size + 1 + 1 + 1, 0, none⟩), .pointer (some ⟨w.heap.size, 0, none⟩)]) (by simp) (by simp [go_sem]) ?_
      refine (drop1_ok _ _ _ _ u2).mono ?_
      rintro e u' w'' ⟨rfl, rfl, rfl⟩
      have ht := tr.kp ((Kp.refl [w.heap.size + 1 + 1] wr).setCell (p := ⟨w.heap.size + 1 + 1, 0, none⟩) (.inl (by simp)) (.int .i64 0)) (by simp; omega) (by simp; omega)
      rw [hq.out.1, ← show (gdropE fs l).2 = dropAll fs l by rw [gdropE_ok (fun x hx => (HB.out x hx).1) hq.out.2.1]] at ht
      have hg1 : (gdropE fs l).1 = 0 := by rw [gdropE_ok (fun x hx => (HB.out x hx).1) hq.out.2.1]
      have hg := H.out _ (kr.setCell (p := ⟨w.heap.size + 1 + 1, 0, none⟩) (.inr (by simp; omega)) (.int .i64 0)) ht
      rw [hg1] at hg
      simp [Leaves, settle, results, Try.results24, go_sem, u2]
      exact hg
end
end Go.Proofs.Ythlmfjfkkndboaa
