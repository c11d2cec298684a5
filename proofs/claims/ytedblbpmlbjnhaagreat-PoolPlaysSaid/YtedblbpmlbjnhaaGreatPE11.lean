/- A region that draws its order, by an invariant over what was done so far: each operation once. pantlerref06: Do at Kind 2 (Write): the way that writes. The document's table: New, FreeCount. -/
import Derived.Test.YtedblbpmlbjnhaaGreatPE1
import Derived.Deep.RegionWith
import Derived.Test.YtedblbpmlbjnhaaGreatPE10
import Derived.Test.YtedblbpmlbjnhaaGreatPE9
namespace Go.Proofs.YtedblbpmlbjnhaaGreat
/-! ### A region that draws its order, by an invariant over what was done so far: each operation once. -/
section
open Go.RowKit
set_option linter.unusedVariables false
set_option linter.unusedSimpArgs false
theorem wrapV {v : Int} (h0 : -9223372036854775808 ≤ v) (h1 : v ≤ 9223372036854775807) : IntKind.i64.wrap v = v := by
  first | (simp only [IntKind.wrap, wrap64]; omega) | (simp [IntKind.wrap, IntKind.signed, IntKind.bits]; omega) | (unfold IntKind.wrap; simp; omega)
theorem genV {P : Program} {c : Code} {Q : Exit → Act → World → Prop} {a : Act} {W : World} (Pr : World → Prop) (h : Pr W) (hk : ∀ W', Pr W' → Code.wp P c Q a W') : Code.wp P c Q a W := hk W h
/-- The frame bears a letter. -/
theorem nameA {P : Program} {c : Code} {Q : Exit → Act → World → Prop} {a : Act} {W : World} (h : ∀ A : Act, A = a → Code.wp P c Q A W) : Code.wp P c Q a W := h a rfl
def afterB (ops : Array Oper) : Bool := (List.range ops.size).all fun i => match ops[i]? with | some o => o.after.all (fun e => !Region.binds .any e || decide (e.on < i)) | none => true
def bsetB (listed : Array Bool) (j : Nat) : Prop := listed.getD j false = true
theorem bset_init (n j : Nat) : bsetB (Array.replicate n false) j ↔ False := by
  unfold bsetB
  rcases Nat.lt_or_ge j n with h | h
  · simp [Array.getD, h]
  · simp [Array.getD, Nat.not_lt.2 h]
theorem bset_set {listed : Array Bool} {i j : Nat} (hi : i < listed.size) : bsetB (listed.setIfInBounds i true) j ↔ (j = i ∨ bsetB listed j) := by
  unfold bsetB
  by_cases h : i = j
  · subst h; simp [Array.getD, hi]
  · rw [getD_set_ne false h]
    constructor
    · exact .inr
    · rintro (rfl | h')
      · exact absurd rfl h
      · exact h'
/-- How many are not done. -/
def leftN (listed : Array Bool) : Nat := (List.range listed.size).countP (fun j => !listed.getD j false)
theorem leftN_set {listed : Array Bool} {i : Nat} (hi : i < listed.size) (hu : listed.getD i true = false) : leftN (listed.setIfInBounds i true) + 1 ≤ leftN listed := by
  unfold leftN
  rw [Array.size_setIfInBounds]
  have h0 : listed.getD i false = false := by simp [Array.getD, hi] at hu ⊢; exact hu
  have key : ∀ l : List Nat, l.countP (fun j => !(listed.setIfInBounds i true).getD j false) + (if i ∈ l then 1 else 0) ≤ l.countP (fun j => !listed.getD j false) := by
    intro l
    induction l with
    | nil => simp
    | cons x l ih =>
      rw [List.countP_cons, List.countP_cons]
      by_cases hx : i = x
      · subst hx
        have e1 : (listed.setIfInBounds i true).getD i false = true := by simp [Array.getD, hi]
        rw [e1, h0, if_pos (List.mem_cons_self)]
        rw [if_neg (show ¬ ((!true) = true) by decide), if_pos (show (!false) = true from rfl)]
        by_cases hm : i ∈ l
        · rw [if_pos hm] at ih; omega
        · rw [if_neg hm] at ih; omega
      · rw [getD_set_ne false hx]
        have e2 : (i ∈ x :: l) ↔ i ∈ l := by simp [hx]
        by_cases hm : i ∈ l
        · rw [if_pos (e2.2 hm)]; rw [if_pos hm] at ih; omega
        · rw [if_neg (fun h => hm (e2.1 h))]; rw [if_neg hm] at ih; omega
  have := key (List.range listed.size)
  rw [if_pos (List.mem_range.2 hi)] at this
  exact this
section
variable {P : Program} {ops : Array Oper} {Q : Exit → Act → World → Prop}
theorem all_done {listed : Array Bool} (hA : afterB ops = true) (hs : listed.size = ops.size) (hr : Region.ready .any ops listed = []) : ∀ i, i < ops.size → bsetB listed i := by
  intro i
  induction i using Nat.strongRecOn with
  | _ i ih =>
    intro hi
    have hx : i ∉ Region.ready .any ops listed := by rw [hr]; simp
    obtain ⟨o, ho⟩ : ∃ o, ops[i]? = some o := ⟨_, Array.getElem?_eq_getElem hi⟩
    rw [mem_ready] at hx
    unfold bsetB
    cases hl : listed.getD i false with
    | true => rfl
    | false =>
      refine absurd ⟨by simp [Array.getD, hs, hi] at hl ⊢; exact hl, o, ho, fun e he hb => ?_⟩ hx
      have h1 := List.all_eq_true.1 hA i (List.mem_range.2 hi)
      rw [ho] at h1
      have h2 := (Array.all_eq_true_iff_forall_mem.1 h1) e he
      rw [hb] at h2
      simp at h2
      exact ih e.on h2 (by omega)
theorem wpAny_inv (I : (Nat → Prop) → Act → World → Prop) (hA : afterB ops = true) (hI : ∀ b b' a w, (∀ j, b j ↔ b' j) → I b a w → I b' a w)
    (hs : ∀ b a w i o, ops[i]? = some o → ¬ b i → (∀ e ∈ o.after, Region.binds .any e = true → b e.on) → I b a w → ∀ K : Act → World → Prop, (∀ a' w', I (fun j => j = i ∨ b j) a' w' → K a' w') → if Region.wanted o (yielded ops a.tmps) = true then Oper.wp P o a w K Q else K (a.put o.dst undef) w)
    (hf : ∀ b a w, (∀ i, i < ops.size → b i) → I b a w → Q .normal a w) :
    ∀ (fuel : Nat) (listed : Array Bool) (a : Act) (w : World), listed.size = ops.size → leftN listed ≤ fuel → I (bsetB listed) a w → wpAny P .any ops Q fuel listed a w
  | 0, listed, a, w, hz, hl, h => by
    have hr : Region.ready .any ops listed = [] := by
      cases hr : Region.ready .any ops listed with
      | nil => rfl
      | cons i t =>
        exfalso
        obtain ⟨hu, o, ho, _⟩ := mem_ready.1 (show i ∈ Region.ready .any ops listed by rw [hr]; simp)
        have hi := (Array.getElem?_eq_some_iff.1 ho).1
        have := leftN_set (i := i) (by omega) hu
        omega
    exact ⟨hr, hf _ _ _ (all_done hA hz hr) h⟩
  | fuel + 1, listed, a, w, hz, hl, h => by
    refine ⟨fun hr => hf _ _ _ (all_done hA hz hr) h, fun i hi => ?_⟩
    obtain ⟨hu, o, ho, hd⟩ := mem_ready.1 hi
    have hin := (Array.getElem?_eq_some_iff.1 ho).1
    refine wpOp_step ho (fun K' hK => ?_)
    refine hs (bsetB listed) a w i o ho (fun hb => ?_) hd h K' (fun a' w' h' => hK a' w' ?_)
    · unfold bsetB at hb
      simp [Array.getD, hz, hin] at hu hb
      rw [hu] at hb; cases hb
    · have := leftN_set (i := i) (by omega) hu
      exact wpAny_inv I hA hI hs hf fuel _ a' w' (by simpa using hz) (by omega) (hI _ _ _ _ (fun j => (bset_set (by omega)).symm) h')
theorem leftN_init (n : Nat) : leftN (Array.replicate n false) ≤ n := by
  unfold leftN
  refine Nat.le_trans (List.countP_le_length) ?_
  simp
/-- A region by an invariant. -/
theorem wp_region_inv {id : Nat} {a : Act} {w : World} (I : (Nat → Prop) → Act → World → Prop) (hm : P.follows .mixedOrders = true) (hA : afterB ops = true) (n : Nat) (hn : ops.size = n) (h0 : I (fun _ => False) a w.drew)
    (hs : ∀ b a w i o, ops[i]? = some o → ¬ b i → (∀ e ∈ o.after, Region.binds .any e = true → b e.on) → I b a w → ∀ K : Act → World → Prop, (∀ a' w', I (fun j => j = i ∨ b j) a' w' → K a' w') → if Region.wanted o (yielded ops a.tmps) = true then Oper.wp P o a w K Q else K (a.put o.dst undef) w)
    (hf : ∀ b a w, (∀ i, i < n → b i) → I b a w → Q .normal a w) : (Code.region id ops true).wp P Q a w :=
  have hI : ∀ b b' a w, (∀ j, b j ↔ b' j) → I b a w → I b' a w := fun b b' a w e h => (show b = b' from funext fun j => propext (e j)) ▸ h
  wp_region_any hm (wpAny_inv I hA hI hs (fun b a w hb => hf b a w (fun i hi => hb i (by omega))) ops.size _ a _ (by simp) (leftN_init _) (hI _ _ _ _ (fun j => (bset_init _ j).symm) h0))
end
/-! ### frames that are letters -/
theorem gd_ne {a : Act} {d k : Nat} {v : Value} (h : d ≠ k) : (a.put (some d) v).tmps.getD k undef = a.tmps.getD k undef := by
  show (a.tmps.setIfInBounds d v).getD k undef = _
  simp only [Array.getD_eq_getD_getElem?, Array.getElem?_setIfInBounds]
  rw [if_neg h]
theorem gd_eq {a : Act} {d : Nat} {v : Value} (h : d < a.tmps.size) : (a.put (some d) v).tmps.getD d undef = v := by
  show (a.tmps.setIfInBounds d v).getD d undef = _
  simp [Array.getD, h]
theorem gd_size {a : Act} {d : Nat} {v : Value} : (a.put (some d) v).tmps.size = a.tmps.size := by
  show (a.tmps.setIfInBounds d v).size = _
  simp
theorem gdI {a : Act} {d k : Nat} {v V : Value} {b c : Prop} (t : b → a.tmps.getD k undef = V) (h1 : d ≠ k := by decide) (h2 : ¬ c := by decide) : c ∨ b → (a.put (some d) v).tmps.getD k undef = V := fun h => (gd_ne h1).trans (t (h.resolve_left h2))
theorem giI {b c d e : Prop} (t : b → e) (h2 : ¬ c := by decide) : c ∨ b → d ∨ e := fun h => .inr (t (h.resolve_left h2))
theorem rlI {b c : Prop} (t : c ∨ b) (h2 : ¬ c := by decide) : b := t.resolve_left h2
theorem ev_of {a : Act} {k : Nat} {v : Value} (h : a.tmps.getD k undef = v) : a.eval (.tmp k) = v ∧ a.tmps[k]?.getD undef = v := ⟨h, by rw [← Array.getD_eq_getD_getElem?]; exact h⟩
theorem act_of : ∀ {L : List (Nat × Value)} {a A0 : Act}, (L.map Prod.fst).Nodup → a.defers = A0.defers → a.tmps.size = A0.tmps.size → (∀ k, k ∉ L.map Prod.fst → a.tmps.getD k undef = A0.tmps.getD k undef) → (∀ p ∈ L, p.1 < A0.tmps.size ∧ a.tmps.getD p.1 undef = p.2) →
    a = L.foldl (fun x p => x.put (some p.1) p.2) A0
  | [], a, A0, _, hd, hs, hf, _ => by
    obtain ⟨t, ds⟩ := a
    obtain ⟨t0, ds0⟩ := A0
    simp only at hd hs hf
    subst hd
    show (⟨t, ds⟩ : Act) = ⟨t0, ds⟩
    congr 1
    apply Array.ext hs
    intro i h1 h2
    have := hf i (by simp)
    simpa [Array.getD, h1, h2] using this
  | p :: L, a, A0, hn, hd, hs, hf, hv => by
    rw [List.foldl_cons]
    rw [List.map_cons] at hn
    obtain ⟨n1, n2⟩ := List.nodup_cons.1 hn
    obtain ⟨v1, v2⟩ := hv p (by simp)
    refine act_of n2 hd (by rw [gd_size]; exact hs) (fun k hk => ?_) (fun q hq => ?_)
    · by_cases e : p.1 = k
      · subst e; rw [gd_eq v1]; exact v2
      · rw [gd_ne e]; exact hf k (by rw [List.map_cons]; simp only [List.mem_cons, not_or]; exact ⟨fun h => e h.symm, hk⟩)
    · rw [gd_size]; exact hv q (by simp [hq])
end
/-! ### pantlerref06: Do at Kind 2 (Write): the way that writes. -/
section
open Go.RowKit Go.Shelf
set_option linter.unusedVariables false
set_option linter.unusedSimpArgs false
set_option maxRecDepth 100000
theorem elt_mw : Elt Tryz.prog 72 225 (.agg #[.int .i64 0, .string ByteArray.empty]) 2 24 := ⟨Tryz.underlying72, by kernel_rfl, rfl, by decide, by decide⟩
section
variable {R : Ending → World → Prop} {w w' : World} {bD bB bO c : Nat} {A : Option Addr} {d : DkS}
set_option maxHeartbeats 4000000 in
theorem mw_3 (hd : Dm w bD bB bO A c d) (hlm : d.ln.length ≤ 1000000) (env a b : Int) (l : List UInt8) (hm : dMay d env a = 0) (hl : l.length = 256) (hA : ¬ (d.arm = true ∧ d.left = 0)) (hbo : bD ≠ bO) (h : ∀ A' c' w', Kp [bD] w w' → Dm w' bD bB bO A' c' (dWrite d env a l).2 → R (.returned (.tuple #[.string ⟨#[]⟩, .int .i64 0])) w') :
    Calls Tryz.prog 55 #[.pointer (some ⟨bD, 0, none⟩), .agg #[.int .i64 2, .int .i64 env, .int .i64 a, .int .i64 b, .string (S l)]] w R := by
  obtain ⟨cb, co, hbk⟩ := hd.dd
  have HM : Hid (∀ (R : Ending → World → Prop) (w1 : World), Kp [] w w1 → R (.returned (.int .i64 0)) w1 → Calls Tryz.prog 114 #[.pointer (some ⟨bD, 0, none⟩), .int .i64 env, .int .i64 a] w1 R) := Lib.hid (fun R w1 k h => mmay_any0 (hd.kp k) env a (by rw [hm]; exact h))
  have H := Lib.hid h
  have HD := Lib.hid hd
  have g1 : ((l.length : Int) != 256) = false := by simp; omega
  have KA : ∀ o, Kp [] w (w.alloc o) := fun o => (Kp.refl _ _).alloc o
  have HBK := Lib.hid hbk
  have hlt := hbk.lt
  obtain ⟨L, hL⟩ : ∃ L, leftM d = L := ⟨_, rfl⟩
  have HL : Hid (∀ L' : Int, (0 < L → L' = L - 1) → (¬ 0 < L → L' = L) → leftM (dWrite d env a l).2 = L') := Lib.hid (fun L' h1 h2 => by
    rw [← hL] at h1 h2
    unfold dWrite
    rw [if_pos hm, if_pos hl]
    unfold leftM at h1 h2 ⊢
    have h3 := hd.ok.ar
    by_cases ha : d.arm = true
    · have h4 := h3 ha
      rw [if_pos ha] at h1 h2 ⊢
      have h5 : d.left ≠ 0 := fun e => hA ⟨ha, e⟩
      rw [if_neg h5]
      simp only [ha, if_true]
      exact (h1 (by omega)).symm
    · rw [if_neg ha] at h1 h2 ⊢
      simp only [if_neg ha]
      exact (h2 (by omega)).symm)
  have HW : Hid ((dWrite d env a l).2.ok ∧ (dWrite d env a l).2.bl = d.bl ∧ (dWrite d env a l).2.ow = d.ow ∧ (dWrite d env a l).2.off = d.off ∧ (dWrite d env a l).2.ln = d.ln ++ [⟨a, l⟩]) := Lib.hid ⟨hd.ok.write env a l, by
    unfold dWrite
    rw [if_pos hm, if_pos hl]
    by_cases ha : d.arm = true
    · have h5 : d.left ≠ 0 := fun e => hA ⟨ha, e⟩
      rw [if_pos ha, if_neg h5]; exact ⟨rfl, rfl, rfl, rfl⟩
    · rw [if_neg ha]; exact ⟨rfl, rfl, rfl, rfl⟩⟩
  rw [hL] at hbk
  have hl0 : L ≠ 0 ∧ L ≤ 9223372036854775807 := by
    have h3 := hd.ok.lf
    rw [← hL]; unfold leftM
    by_cases ha : d.arm = true
    · rw [if_pos ha]; exact ⟨fun e => hA ⟨ha, e⟩, h3.2⟩
    · rw [if_neg ha]; exact ⟨by decide, by decide⟩
  have g0 : (L == 0) = false := by simpa using hl0.1
  have c4 := hbk.cell 4
  have f4 := hbk.frozen 4
  simp only [List.getElem?_cons_zero, List.getElem?_cons_succ] at c4
  have HBL := Lib.hid hbk
  have Fin : Hid (∀ (L' : Int) (W : World) (gx : Nat), leftM (dWrite d env a l).2 = L' → w.heap.size = gx → Kp [bD] w W → Bk W bD 74 [.slice (some ⟨bB, 0, none⟩) d.bl.length cb, .slice (some ⟨bO, 0, none⟩) d.bl.length co, .slice A d.ln.length c, .bool d.off, .int .i64 L'] →
      ∀ (A' : Option Addr) (c' : Nat) (w' : World), Kp [] W w' → Ow w' 225 2 A' (d.ln.length + 1) c' (d.ln.flatMap mwV ++ mwV ⟨a, l⟩) → Fresh w.heap.size A' → R (.returned (.tuple #[.string ⟨#[]⟩, .int .i64 0])) (w'.setCell ⟨bD, 2, none⟩ (.slice A' (d.ln.length + 1) c'))) := Lib.hid (fun L' W gx e1 e2 k1 hb A' c' w' k2 ho hf => by
    obtain ⟨q0, q1, q2, q3, q4⟩ := HW.out
    have ks : Kp [bD] w' (w'.setCell ⟨bD, 2, none⟩ (.slice A' (d.ln.length + 1) c')) := (Kp.refl _ _).setCell (p := ⟨bD, 2, none⟩) (.inl (by simp)) _
    have kk : Kp [bD] w (w'.setCell ⟨bD, 2, none⟩ (.slice A' (d.ln.length + 1) c')) := (k1.thn (k2.mono (by simp)) (fun s hs => .inl hs)).thn ks (fun s hs => .inl hs)
    refine H.out A' c' _ kk ⟨⟨cb, co, ?_⟩, ?_, ?_, ?_, HD.out.ne, q0⟩
    · rw [q1, q3, q4, e1]
      exact ((hb.kp k2 (by simp)).set_ 2 _).cast (by simp)
    · rw [q1]; exact HD.out.b.kp kk (by simpa using Ne.symm HD.out.ne)
    · rw [q2]; exact HD.out.o.kp kk (by simpa using Ne.symm hbo)
    · rw [q4, List.flatMap_append]
      exact by simpa using (ho.kp ks (fun x hx => by have := hf x hx; simp; omega)).nb (N := [bD, bB]) (fun x hx => by have := hf x hx; have := HD.out.b.lt; simp; omega))
  clear h hd hm hl hA hL hbk
  have HX : Hid (∀ (L' : Int) (W : World) (gx : Nat), leftM (dWrite d env a l).2 = L' → w.heap.size = gx → Kp [bD] w W → Bk W bD 74 [.slice (some ⟨bB, 0, none⟩) d.bl.length cb, .slice (some ⟨bO, 0, none⟩) d.bl.length co, .slice A d.ln.length c, .bool d.off, .int .i64 L'] → Rd W [] A (d.ln.flatMap mwV)) := Lib.hid (fun L' W gx e1 e2 k1 hb => (HD.out.ln.kp k1 (fun s hs => .inl (by simp at hs; simp [hs]))).rd.sub (by simp))
  have HMW : Hid (∀ u ∈ d.ln.flatMap mwV, u.oneCell' = true) := Lib.hid (by
    intro u hu
    obtain ⟨x, _, hu⟩ := List.mem_flatMap.1 hu
    simp [mwV] at hu
    rcases hu with rfl | rfl <;> rfl)
  have HLN : Hid ((d.ln.flatMap mwV).length = d.ln.length * 2) := Lib.hid (flat_len mwV_len d.ln)
  by_cases h0 : 0 < L
  · have g2 : decide (0 < L) = true := by simpa using h0
    have hwr : IntKind.i64.wrap (L - 1) = L - 1 := wrapV (by omega) (by omega)
    have HLe := HL.out (L - 1) (fun h => by omega) (fun h => by omega)
    go_enter Tryz.func55, Tryz.ntmps55
    go_upto_region 31 with (go_at_call 114; (refine HM.out _ _ (KA _) ?_))
    refine genV (fun W => ∃ gx, w.heap.size = gx ∧ Kp [bD] w W ∧ Bk W bD 74 [.slice (some ⟨bB, 0, none⟩) d.bl.length cb, .slice (some ⟨bO, 0, none⟩) d.bl.length co, .slice A d.ln.length c, .bool d.off, .int .i64 (L - 1)] ∧ Bk W gx 136 [.int .i64 2, .int .i64 env, .int .i64 a, .int .i64 b, .string (S l)]) ⟨_, rfl, ((Kp.refl [bD] w).setCell (p := ⟨bD, 4, none⟩) (.inl (by simp)) _).alloc _, ((HBL.out.set_ 4 _).alloc _).cast (by simp), (Bk.newAt (by simp) _ _).cast rfl⟩ ?_
    rintro W0 ⟨gx, hgx, kW, bW, bX⟩
    rw [hgx]
    have HRd : Hid (∀ W, Kp [] W0 W → Rd W [] A (d.ln.flatMap mwV)) := Lib.hid (fun W k => (HX.out _ W0 gx HLe hgx kW bW).kp k (by simp))
    have HW0 : Hid (∀ W, Kp [] W0 W → Bk W bD 74 [.slice (some ⟨bB, 0, none⟩) d.bl.length cb, .slice (some ⟨bO, 0, none⟩) d.bl.length co, .slice A d.ln.length c, .bool d.off, .int .i64 (L - 1)]) := Lib.hid (fun W k => bW.kp k (by simp))
    have HX0 : Hid (∀ W, Kp [] W0 W → Bk W gx 136 [.int .i64 2, .int .i64 env, .int .i64 a, .int .i64 b, .string (S l)]) := Lib.hid (fun W k => bX.kp k (by simp))
    have FinW := Lib.hid (Fin.out _ W0 gx HLe hgx kW bW)
    have hsz : w.heap.size ≤ W0.heap.size := kW.size
    clear Fin HX bW bX kW H HD HL HM HW HBK HBL c4 f4 KA HLe
    refine nameA (fun A00 hA00 => ?_)
    have sl0 : A00.tmps.getD 0 undef = .pointer (some ⟨bD, 0, none⟩) := by rw [hA00]; rfl
    have sl3 : A00.tmps.getD 3 undef = .pointer (some ⟨gx, 0, none⟩) := by rw [hA00]; rfl
    have sz00 : A00.tmps.size = 205 := by rw [hA00]; rfl
    have HA00 := Lib.hid hA00
    clear hA00
    refine wp_region_inv (fun b a' W => ∃ (g1 : Nat) (g2 : Nat) (A1 : Option Addr) (c1 : Nat) (A2 : Option Addr) (c2 : Nat), Hid (a'.defers = A00.defers) ∧ Hid (a'.tmps.size = A00.tmps.size) ∧ Hid (∀ k, k ∉ [146, 147, 148, 149, 150, 151, 152, 153, 154, 155, 156, 157, 158, 159, 160, 161] → a'.tmps.getD k undef = A00.tmps.getD k undef) ∧ (b 0 → a'.tmps.getD 146 undef = .pointer (some ⟨bD, 0, none⟩)) ∧ (b 1 → a'.tmps.getD 147 undef = .slice (some ⟨g1, 0, none⟩) 0 0) ∧ (b 2 → a'.tmps.getD 148 undef = .pointer (some ⟨bD, 0, none⟩)) ∧ (b 3 → a'.tmps.getD 149 undef = .pointer (some ⟨bD, 0, none⟩)) ∧ (b 4 → a'.tmps.getD 150 undef = .pointer (some ⟨bD, 2, none⟩)) ∧ (b 5 → a'.tmps.getD 151 undef = .slice A d.ln.length c) ∧ (b 6 → a'.tmps.getD 152 undef = .slice A1 d.ln.length c1) ∧ (b 7 → a'.tmps.getD 153 undef = .pointer (some ⟨gx, 2, none⟩)) ∧ (b 8 → a'.tmps.getD 154 undef = .int .i64 a) ∧ (b 9 → a'.tmps.getD 155 undef = .pointer (some ⟨gx, 4, none⟩)) ∧ (b 10 → a'.tmps.getD 156 undef = .string (S l)) ∧ (b 11 → a'.tmps.getD 157 undef = .agg #[.int .i64 a, .string (S l)]) ∧ (b 12 → a'.tmps.getD 158 undef = .slice (some ⟨g2, 0, none⟩) 1 1) ∧ (b 13 → a'.tmps.getD 159 undef = .slice A2 (d.ln.length + 1) c2) ∧ (b 14 → a'.tmps.getD 160 undef = .pointer (some ⟨bD, 0, none⟩)) ∧ (b 15 → a'.tmps.getD 161 undef = .pointer (some ⟨bD, 2, none⟩)) ∧ (b 3 → b 2) ∧ (b 4 → b 3) ∧ (b 5 → b 4) ∧ (b 6 → b 1) ∧ (b 6 → b 5) ∧ (b 8 → b 7) ∧ (b 10 → b 9) ∧ (b 11 → b 8) ∧ (b 11 → b 10) ∧ (b 12 → b 11) ∧ (b 13 → b 6) ∧ (b 13 → b 12) ∧ (b 14 → b 0) ∧ (b 15 → b 14) ∧ (b 16 → b 13) ∧ (b 16 → b 15) ∧ (¬ b 16 → Hid (Kp [] W0 W)) ∧ (b 1 → ¬ b 6 → ¬ b 16 → Hid (W0.heap.size ≤ g1 ∧ Ow W 225 2 (some ⟨g1, 0, none⟩) 0 0 [])) ∧ (b 12 → ¬ b 16 → Hid (W0.heap.size ≤ g2 ∧ Bk W g2 225 (mwV ⟨a, l⟩))) ∧ (b 1 → b 12 → ¬ b 6 → ¬ b 16 → Hid (g1 ≠ g2)) ∧ (b 6 → ¬ b 13 → ¬ b 16 → Hid (Fresh W0.heap.size A1 ∧ Ow W 225 2 A1 d.ln.length c1 (d.ln.flatMap mwV))) ∧ (b 6 → b 12 → ¬ b 13 → ¬ b 16 → Hid (g2 ∉ bks A1)) ∧ (b 13 → ¬ b 16 → Hid (Fresh W0.heap.size A2 ∧ Ow W 225 2 A2 (d.ln.length + 1) c2 (d.ln.flatMap mwV ++ mwV ⟨a, l⟩))) ∧ (b 16 → Hid (∃ W9, Kp [] W0 W9 ∧ Ow W9 225 2 A2 (d.ln.length + 1) c2 (d.ln.flatMap mwV ++ mwV ⟨a, l⟩) ∧ Fresh W0.heap.size A2 ∧ W = W9.setCell ⟨bD, 2, none⟩ (.slice A2 (d.ln.length + 1) c2)))) (by kernel_rfl) (by kernel_rfl) 17 rfl ?_ ?_ ?_
    · exact ⟨0, 0, none, 0, none, 0, Lib.hid rfl, Lib.hid rfl, Lib.hid (fun _ _ => rfl), fun h => absurd h id, fun h => absurd h id, fun h => absurd h id, fun h => absurd h id, fun h => absurd h id, fun h => absurd h id, fun h => absurd h id, fun h => absurd h id, fun h => absurd h id, fun h => absurd h id, fun h => absurd h id, fun h => absurd h id, fun h => absurd h id, fun h => absurd h id, fun h => absurd h id, fun h => absurd h id, fun h => absurd h id, fun h => absurd h id, fun h => absurd h id, fun h => absurd h id, fun h => absurd h id, fun h => absurd h id, fun h => absurd h id, fun h => absurd h id, fun h => absurd h id, fun h => absurd h id, fun h => absurd h id, fun h => absurd h id, fun h => absurd h id, fun h => absurd h id, fun h => absurd h id, fun h => absurd h id, fun _ => Lib.hid ((Kp.refl _ _).drew), fun h => absurd h id, fun h => absurd h id, fun h => absurd h id, fun h => absurd h id, fun h => absurd h id, fun h => absurd h id, fun h => absurd h id⟩
    · intro b a' W i o ho hn hd hI K hK
      obtain ⟨g1, g2, A1, c1, A2, c2, ad, az, af, h0, h1, h2, h3, h4, h5, h6, h7, h8, h9, h10, h11, h12, h13, h14, h15, c3_2, c4_3, c5_4, c6_1, c6_5, c8_7, c10_9, c11_8, c11_10, c12_11, c13_6, c13_12, c14_0, c15_14, c16_13, c16_15, hK1, hg1, hg3, hne, hg2, hne2, hgF, hFin⟩ := hI
      have s0 := (af.out 0 (by decide)).trans sl0
      have s3 := (af.out 3 (by decide)).trans sl3
      match i, ho with
      | 0, ho =>
        injection ho with ho; subst ho
        have nb16 : ¬ b 16 := fun h => hn (c14_0 (c15_14 (c16_15 h)))
        have HK := Lib.hid hK
        obtain ⟨sv0, sw0⟩ := ev_of s0
        clear hK hd
        rw [if_pos (by rfl)]
        go_simp
        exact HK.out _ _ ⟨g1, g2, A1, c1, A2, c2, Lib.hid ad.out, Lib.hid (gd_size.trans az.out), Lib.hid (fun k hk => (gd_ne (by rintro rfl; exact hk (by decide))).trans (af.out k hk)), fun _ => gd_eq (by rw [az.out, sz00]; decide), gdI h1, gdI h2, gdI h3, gdI h4, gdI h5, gdI h6, gdI h7, gdI h8, gdI h9, gdI h10, gdI h11, gdI h12, gdI h13, gdI h14, gdI h15, giI c3_2, giI c4_3, giI c5_4, giI c6_1, giI c6_5, giI c8_7, giI c10_9, giI c11_8, giI c11_10, giI c12_11, giI c13_6, giI c13_12, giI c14_0, giI c15_14, giI c16_13, giI c16_15, fun n16 => (hK1 (fun z => n16 (.inr z))), fun p1 n6 n16 => (hg1 (rlI p1) (fun z => n6 (.inr z)) (fun z => n16 (.inr z))), fun p12 n16 => (hg3 (rlI p12) (fun z => n16 (.inr z))), fun p1 p12 n6 n16 => (hne (rlI p1) (rlI p12) (fun z => n6 (.inr z)) (fun z => n16 (.inr z))), fun p6 n13 n16 => (hg2 (rlI p6) (fun z => n13 (.inr z)) (fun z => n16 (.inr z))), fun p6 p12 n13 n16 => (hne2 (rlI p6) (rlI p12) (fun z => n13 (.inr z)) (fun z => n16 (.inr z))), fun p13 n16 => (hgF (rlI p13) (fun z => n16 (.inr z))), fun p16 => absurd (c14_0 (c15_14 (c16_15 (rlI p16)))) hn⟩
      | 1, ho =>
        injection ho with ho; subst ho
        have nb6 : ¬ b 6 := fun h => hn (c6_1 h)
        have nb13 : ¬ b 13 := fun h => hn (c6_1 (c13_6 h))
        have nb16 : ¬ b 16 := fun h => hn (c6_1 (c13_6 (c16_13 h)))
        have HK := Lib.hid hK
        clear hK hd
        rw [if_pos (by rfl)]
        go_simp
        exact HK.out _ _ ⟨W.heap.size, g2, A1, c1, A2, c2, Lib.hid ad.out, Lib.hid (gd_size.trans az.out), Lib.hid (fun k hk => (gd_ne (by rintro rfl; exact hk (by decide))).trans (af.out k hk)), gdI h0, fun _ => gd_eq (by rw [az.out, sz00]; decide), gdI h2, gdI h3, gdI h4, gdI h5, gdI h6, gdI h7, gdI h8, gdI h9, gdI h10, gdI h11, gdI h12, gdI h13, gdI h14, gdI h15, giI c3_2, giI c4_3, giI c5_4, giI c6_1, giI c6_5, giI c8_7, giI c10_9, giI c11_8, giI c11_10, giI c12_11, giI c13_6, giI c13_12, giI c14_0, giI c15_14, giI c16_13, giI c16_15, fun n16 => Lib.hid (((hK1 (fun z => n16 (.inr z))).out).trans ((Kp.refl [] W).alloc _)), fun p1 n6 n16 => Lib.hid (⟨(hK1 nb16).out.size, Ow.lit W _ 2 #[] 0 (by decide) rfl⟩), fun p12 n16 => Lib.hid (⟨((hg3 (rlI p12) (fun z => n16 (.inr z))).out).1, ((hg3 (rlI p12) (fun z => n16 (.inr z))).out).2.kp ((Kp.refl [] W).alloc _) (by simp)⟩), fun p1 p12 n6 n16 => Lib.hid (fun e => by have := (hg3 (rlI p12) nb16).out.2.lt; omega), fun p6 n13 n16 => absurd (c6_1 (rlI p6)) hn, fun p6 p12 n13 n16 => absurd (c6_1 (rlI p6)) hn, fun p13 n16 => absurd (c6_1 (c13_6 (rlI p13))) hn, fun p16 => absurd (c6_1 (c13_6 (c16_13 (rlI p16)))) hn⟩
      | 2, ho =>
        injection ho with ho; subst ho
        have nb6 : ¬ b 6 := fun h => hn (c3_2 (c4_3 (c5_4 (c6_5 h))))
        have nb13 : ¬ b 13 := fun h => hn (c3_2 (c4_3 (c5_4 (c6_5 (c13_6 h)))))
        have nb16 : ¬ b 16 := fun h => hn (c3_2 (c4_3 (c5_4 (c6_5 (c13_6 (c16_13 h))))))
        have HK := Lib.hid hK
        obtain ⟨sv0, sw0⟩ := ev_of s0
        clear hK hd
        rw [if_pos (by rfl)]
        go_simp
        exact HK.out _ _ ⟨g1, g2, A1, c1, A2, c2, Lib.hid ad.out, Lib.hid (gd_size.trans az.out), Lib.hid (fun k hk => (gd_ne (by rintro rfl; exact hk (by decide))).trans (af.out k hk)), gdI h0, gdI h1, fun _ => gd_eq (by rw [az.out, sz00]; decide), gdI h3, gdI h4, gdI h5, gdI h6, gdI h7, gdI h8, gdI h9, gdI h10, gdI h11, gdI h12, gdI h13, gdI h14, gdI h15, giI c3_2, giI c4_3, giI c5_4, giI c6_1, giI c6_5, giI c8_7, giI c10_9, giI c11_8, giI c11_10, giI c12_11, giI c13_6, giI c13_12, giI c14_0, giI c15_14, giI c16_13, giI c16_15, fun n16 => (hK1 (fun z => n16 (.inr z))), fun p1 n6 n16 => (hg1 (rlI p1) (fun z => n6 (.inr z)) (fun z => n16 (.inr z))), fun p12 n16 => (hg3 (rlI p12) (fun z => n16 (.inr z))), fun p1 p12 n6 n16 => (hne (rlI p1) (rlI p12) (fun z => n6 (.inr z)) (fun z => n16 (.inr z))), fun p6 n13 n16 => absurd (c3_2 (c4_3 (c5_4 (c6_5 (rlI p6))))) hn, fun p6 p12 n13 n16 => absurd (c3_2 (c4_3 (c5_4 (c6_5 (rlI p6))))) hn, fun p13 n16 => absurd (c3_2 (c4_3 (c5_4 (c6_5 (c13_6 (rlI p13)))))) hn, fun p16 => absurd (c3_2 (c4_3 (c5_4 (c6_5 (c13_6 (c16_13 (rlI p16))))))) hn⟩
      | 3, ho =>
        injection ho with ho; subst ho
        have nb6 : ¬ b 6 := fun h => hn (c4_3 (c5_4 (c6_5 h)))
        have nb13 : ¬ b 13 := fun h => hn (c4_3 (c5_4 (c6_5 (c13_6 h))))
        have nb16 : ¬ b 16 := fun h => hn (c4_3 (c5_4 (c6_5 (c13_6 (c16_13 h)))))
        have d2 : b 2 := hd ⟨2, .data⟩ (by simp) rfl
        have HK := Lib.hid hK
        have e2 := h2 d2
        obtain ⟨ev2, ew2⟩ := ev_of e2
        clear hK hd
        rw [if_pos (by rfl)]
        go_simp
        exact HK.out _ _ ⟨g1, g2, A1, c1, A2, c2, Lib.hid ad.out, Lib.hid (gd_size.trans az.out), Lib.hid (fun k hk => (gd_ne (by rintro rfl; exact hk (by decide))).trans (af.out k hk)), gdI h0, gdI h1, gdI h2, fun _ => gd_eq (by rw [az.out, sz00]; decide), gdI h4, gdI h5, gdI h6, gdI h7, gdI h8, gdI h9, gdI h10, gdI h11, gdI h12, gdI h13, gdI h14, gdI h15, fun _ => .inr d2, giI c4_3, giI c5_4, giI c6_1, giI c6_5, giI c8_7, giI c10_9, giI c11_8, giI c11_10, giI c12_11, giI c13_6, giI c13_12, giI c14_0, giI c15_14, giI c16_13, giI c16_15, fun n16 => (hK1 (fun z => n16 (.inr z))), fun p1 n6 n16 => (hg1 (rlI p1) (fun z => n6 (.inr z)) (fun z => n16 (.inr z))), fun p12 n16 => (hg3 (rlI p12) (fun z => n16 (.inr z))), fun p1 p12 n6 n16 => (hne (rlI p1) (rlI p12) (fun z => n6 (.inr z)) (fun z => n16 (.inr z))), fun p6 n13 n16 => absurd (c4_3 (c5_4 (c6_5 (rlI p6)))) hn, fun p6 p12 n13 n16 => absurd (c4_3 (c5_4 (c6_5 (rlI p6)))) hn, fun p13 n16 => absurd (c4_3 (c5_4 (c6_5 (c13_6 (rlI p13))))) hn, fun p16 => absurd (c4_3 (c5_4 (c6_5 (c13_6 (c16_13 (rlI p16)))))) hn⟩
      | 4, ho =>
        injection ho with ho; subst ho
        have nb6 : ¬ b 6 := fun h => hn (c5_4 (c6_5 h))
        have nb13 : ¬ b 13 := fun h => hn (c5_4 (c6_5 (c13_6 h)))
        have nb16 : ¬ b 16 := fun h => hn (c5_4 (c6_5 (c13_6 (c16_13 h))))
        have d3 : b 3 := hd ⟨3, .data⟩ (by simp) rfl
        have HK := Lib.hid hK
        have e3 := h3 d3
        obtain ⟨ev3, ew3⟩ := ev_of e3
        clear hK hd
        rw [if_pos (by rfl)]
        go_simp
        exact HK.out _ _ ⟨g1, g2, A1, c1, A2, c2, Lib.hid ad.out, Lib.hid (gd_size.trans az.out), Lib.hid (fun k hk => (gd_ne (by rintro rfl; exact hk (by decide))).trans (af.out k hk)), gdI h0, gdI h1, gdI h2, gdI h3, fun _ => gd_eq (by rw [az.out, sz00]; decide), gdI h5, gdI h6, gdI h7, gdI h8, gdI h9, gdI h10, gdI h11, gdI h12, gdI h13, gdI h14, gdI h15, giI c3_2, fun _ => .inr d3, giI c5_4, giI c6_1, giI c6_5, giI c8_7, giI c10_9, giI c11_8, giI c11_10, giI c12_11, giI c13_6, giI c13_12, giI c14_0, giI c15_14, giI c16_13, giI c16_15, fun n16 => (hK1 (fun z => n16 (.inr z))), fun p1 n6 n16 => (hg1 (rlI p1) (fun z => n6 (.inr z)) (fun z => n16 (.inr z))), fun p12 n16 => (hg3 (rlI p12) (fun z => n16 (.inr z))), fun p1 p12 n6 n16 => (hne (rlI p1) (rlI p12) (fun z => n6 (.inr z)) (fun z => n16 (.inr z))), fun p6 n13 n16 => absurd (c5_4 (c6_5 (rlI p6))) hn, fun p6 p12 n13 n16 => absurd (c5_4 (c6_5 (rlI p6))) hn, fun p13 n16 => absurd (c5_4 (c6_5 (c13_6 (rlI p13)))) hn, fun p16 => absurd (c5_4 (c6_5 (c13_6 (c16_13 (rlI p16))))) hn⟩
      | 5, ho =>
        injection ho with ho; subst ho
        have nb6 : ¬ b 6 := fun h => hn (c6_5 h)
        have nb13 : ¬ b 13 := fun h => hn (c6_5 (c13_6 h))
        have nb16 : ¬ b 16 := fun h => hn (c6_5 (c13_6 (c16_13 h)))
        have d4 : b 4 := hd ⟨4, .data⟩ (by simp) rfl
        have HK := Lib.hid hK
        have e4 := h4 d4
        obtain ⟨ev4, ew4⟩ := ev_of e4
        have q := (HW0.out W (hK1 nb16).out).cell 2
        simp only [List.getElem?_cons_zero, List.getElem?_cons_succ] at q
        clear hK hd
        rw [if_pos (by rfl)]
        go_simp
        exact HK.out _ _ ⟨g1, g2, A1, c1, A2, c2, Lib.hid ad.out, Lib.hid (gd_size.trans az.out), Lib.hid (fun k hk => (gd_ne (by rintro rfl; exact hk (by decide))).trans (af.out k hk)), gdI h0, gdI h1, gdI h2, gdI h3, gdI h4, fun _ => gd_eq (by rw [az.out, sz00]; decide), gdI h6, gdI h7, gdI h8, gdI h9, gdI h10, gdI h11, gdI h12, gdI h13, gdI h14, gdI h15, giI c3_2, giI c4_3, fun _ => .inr d4, giI c6_1, giI c6_5, giI c8_7, giI c10_9, giI c11_8, giI c11_10, giI c12_11, giI c13_6, giI c13_12, giI c14_0, giI c15_14, giI c16_13, giI c16_15, fun n16 => (hK1 (fun z => n16 (.inr z))), fun p1 n6 n16 => (hg1 (rlI p1) (fun z => n6 (.inr z)) (fun z => n16 (.inr z))), fun p12 n16 => (hg3 (rlI p12) (fun z => n16 (.inr z))), fun p1 p12 n6 n16 => (hne (rlI p1) (rlI p12) (fun z => n6 (.inr z)) (fun z => n16 (.inr z))), fun p6 n13 n16 => absurd (c6_5 (rlI p6)) hn, fun p6 p12 n13 n16 => absurd (c6_5 (rlI p6)) hn, fun p13 n16 => absurd (c6_5 (c13_6 (rlI p13))) hn, fun p16 => absurd (c6_5 (c13_6 (c16_13 (rlI p16)))) hn⟩
      | 6, ho =>
        injection ho with ho; subst ho
        have nb6 := hn
        have nb13 : ¬ b 13 := fun h => hn (c13_6 h)
        have nb16 : ¬ b 16 := fun h => hn (c13_6 (c16_13 h))
        have d1 : b 1 := hd ⟨1, .data⟩ (by simp) rfl
        have d5 : b 5 := hd ⟨5, .data⟩ (by simp) rfl
        have HK := Lib.hid hK
        have e1 := h1 d1
        obtain ⟨ev1, ew1⟩ := ev_of e1
        have e5 := h5 d5
        obtain ⟨ev5, ew5⟩ := ev_of e5
        clear hK hd
        rw [if_pos (by rfl)]
        refine wp_app _ (.tmp 147) (.tmp 151) 72 rfl elt_mw (some ⟨g1, 0, none⟩) 0 0 [] ev1 (hg1 d1 nb6 nb16).out.2 [] A d.ln.length c (d.ln.flatMap mwV) ev5 (HRd.out W (hK1 nb16).out) HLN.out HMW.out (by omega) (fun A1' c1' w1' ho1 hk1 hA1 => ?_)
        rw [Nat.zero_add] at ho1 ⊢
        simp only [List.nil_append] at ho1
        have ho1 := Lib.hid ho1
        exact HK.out _ _ ⟨g1, g2, A1', c1', A2, c2, Lib.hid ad.out, Lib.hid (gd_size.trans az.out), Lib.hid (fun k hk => (gd_ne (by rintro rfl; exact hk (by decide))).trans (af.out k hk)), gdI h0, gdI h1, gdI h2, gdI h3, gdI h4, gdI h5, fun _ => gd_eq (by rw [az.out, sz00]; decide), gdI h7, gdI h8, gdI h9, gdI h10, gdI h11, gdI h12, gdI h13, gdI h14, gdI h15, giI c3_2, giI c4_3, giI c5_4, fun _ => .inr d1, fun _ => .inr d5, giI c8_7, giI c10_9, giI c11_8, giI c11_10, giI c12_11, giI c13_6, giI c13_12, giI c14_0, giI c15_14, giI c16_13, giI c16_15, fun n16 => Lib.hid ((hK1 nb16).out.thn hk1 (fun s hs => .inr (by simp [bks] at hs; have := (hg1 d1 nb6 nb16).out.1; omega))), fun _ z _ => absurd (.inl rfl) z, fun p12 n16 => Lib.hid (⟨(hg3 (rlI p12) nb16).out.1, (hg3 (rlI p12) nb16).out.2.kp hk1 (by have := (hne d1 (rlI p12) nb6 nb16).out; simp [bks]; omega)⟩), fun _ _ z _ => absurd (.inl rfl) z, fun p6 n13 n16 => Lib.hid (⟨by rcases hA1 with rfl | rfl <;> intro s hs <;> simp [bks] at hs <;> (have := (hg1 d1 nb6 nb16).out.1; have := (hK1 nb16).out.size; omega), ho1.out⟩), fun p6 p12 n13 n16 => Lib.hid (by have h9 := (hne d1 (rlI p12) nb6 nb16).out; have h8 := (hg3 (rlI p12) nb16).out.2.lt; rcases hA1 with rfl | rfl <;> simp [bks] <;> omega), fun p13 n16 => Lib.hid (absurd (c13_6 (rlI p13)) hn), fun p16 => Lib.hid (absurd (c16_13 (rlI p16)) (fun z => hn (c13_6 z)))⟩
      | 7, ho =>
        injection ho with ho; subst ho
        have nb13 : ¬ b 13 := fun h => hn (c8_7 (c11_8 (c12_11 (c13_12 h))))
        have nb16 : ¬ b 16 := fun h => hn (c8_7 (c11_8 (c12_11 (c13_12 (c16_13 h)))))
        have HK := Lib.hid hK
        obtain ⟨sv3, sw3⟩ := ev_of s3
        clear hK hd
        rw [if_pos (by rfl)]
        go_simp
        exact HK.out _ _ ⟨g1, g2, A1, c1, A2, c2, Lib.hid ad.out, Lib.hid (gd_size.trans az.out), Lib.hid (fun k hk => (gd_ne (by rintro rfl; exact hk (by decide))).trans (af.out k hk)), gdI h0, gdI h1, gdI h2, gdI h3, gdI h4, gdI h5, gdI h6, fun _ => gd_eq (by rw [az.out, sz00]; decide), gdI h8, gdI h9, gdI h10, gdI h11, gdI h12, gdI h13, gdI h14, gdI h15, giI c3_2, giI c4_3, giI c5_4, giI c6_1, giI c6_5, giI c8_7, giI c10_9, giI c11_8, giI c11_10, giI c12_11, giI c13_6, giI c13_12, giI c14_0, giI c15_14, giI c16_13, giI c16_15, fun n16 => (hK1 (fun z => n16 (.inr z))), fun p1 n6 n16 => (hg1 (rlI p1) (fun z => n6 (.inr z)) (fun z => n16 (.inr z))), fun p12 n16 => absurd (c8_7 (c11_8 (c12_11 (rlI p12)))) hn, fun p1 p12 n6 n16 => absurd (c8_7 (c11_8 (c12_11 (rlI p12)))) hn, fun p6 n13 n16 => (hg2 (rlI p6) (fun z => n13 (.inr z)) (fun z => n16 (.inr z))), fun p6 p12 n13 n16 => absurd (c8_7 (c11_8 (c12_11 (rlI p12)))) hn, fun p13 n16 => absurd (c8_7 (c11_8 (c12_11 (c13_12 (rlI p13))))) hn, fun p16 => absurd (c8_7 (c11_8 (c12_11 (c13_12 (c16_13 (rlI p16)))))) hn⟩
      | 8, ho =>
        injection ho with ho; subst ho
        have nb13 : ¬ b 13 := fun h => hn (c11_8 (c12_11 (c13_12 h)))
        have nb16 : ¬ b 16 := fun h => hn (c11_8 (c12_11 (c13_12 (c16_13 h))))
        have d7 : b 7 := hd ⟨7, .data⟩ (by simp) rfl
        have HK := Lib.hid hK
        have e7 := h7 d7
        obtain ⟨ev7, ew7⟩ := ev_of e7
        have q := (HX0.out W (hK1 nb16).out).cell 2
        simp only [List.getElem?_cons_zero, List.getElem?_cons_succ] at q
        clear hK hd
        rw [if_pos (by rfl)]
        go_simp
        exact HK.out _ _ ⟨g1, g2, A1, c1, A2, c2, Lib.hid ad.out, Lib.hid (gd_size.trans az.out), Lib.hid (fun k hk => (gd_ne (by rintro rfl; exact hk (by decide))).trans (af.out k hk)), gdI h0, gdI h1, gdI h2, gdI h3, gdI h4, gdI h5, gdI h6, gdI h7, fun _ => gd_eq (by rw [az.out, sz00]; decide), gdI h9, gdI h10, gdI h11, gdI h12, gdI h13, gdI h14, gdI h15, giI c3_2, giI c4_3, giI c5_4, giI c6_1, giI c6_5, fun _ => .inr d7, giI c10_9, giI c11_8, giI c11_10, giI c12_11, giI c13_6, giI c13_12, giI c14_0, giI c15_14, giI c16_13, giI c16_15, fun n16 => (hK1 (fun z => n16 (.inr z))), fun p1 n6 n16 => (hg1 (rlI p1) (fun z => n6 (.inr z)) (fun z => n16 (.inr z))), fun p12 n16 => absurd (c11_8 (c12_11 (rlI p12))) hn, fun p1 p12 n6 n16 => absurd (c11_8 (c12_11 (rlI p12))) hn, fun p6 n13 n16 => (hg2 (rlI p6) (fun z => n13 (.inr z)) (fun z => n16 (.inr z))), fun p6 p12 n13 n16 => absurd (c11_8 (c12_11 (rlI p12))) hn, fun p13 n16 => absurd (c11_8 (c12_11 (c13_12 (rlI p13)))) hn, fun p16 => absurd (c11_8 (c12_11 (c13_12 (c16_13 (rlI p16))))) hn⟩
      | 9, ho =>
        injection ho with ho; subst ho
        have nb13 : ¬ b 13 := fun h => hn (c10_9 (c11_10 (c12_11 (c13_12 h))))
        have nb16 : ¬ b 16 := fun h => hn (c10_9 (c11_10 (c12_11 (c13_12 (c16_13 h)))))
        have HK := Lib.hid hK
        obtain ⟨sv3, sw3⟩ := ev_of s3
        clear hK hd
        rw [if_pos (by rfl)]
        go_simp
        exact HK.out _ _ ⟨g1, g2, A1, c1, A2, c2, Lib.hid ad.out, Lib.hid (gd_size.trans az.out), Lib.hid (fun k hk => (gd_ne (by rintro rfl; exact hk (by decide))).trans (af.out k hk)), gdI h0, gdI h1, gdI h2, gdI h3, gdI h4, gdI h5, gdI h6, gdI h7, gdI h8, fun _ => gd_eq (by rw [az.out, sz00]; decide), gdI h10, gdI h11, gdI h12, gdI h13, gdI h14, gdI h15, giI c3_2, giI c4_3, giI c5_4, giI c6_1, giI c6_5, giI c8_7, giI c10_9, giI c11_8, giI c11_10, giI c12_11, giI c13_6, giI c13_12, giI c14_0, giI c15_14, giI c16_13, giI c16_15, fun n16 => (hK1 (fun z => n16 (.inr z))), fun p1 n6 n16 => (hg1 (rlI p1) (fun z => n6 (.inr z)) (fun z => n16 (.inr z))), fun p12 n16 => absurd (c10_9 (c11_10 (c12_11 (rlI p12)))) hn, fun p1 p12 n6 n16 => absurd (c10_9 (c11_10 (c12_11 (rlI p12)))) hn, fun p6 n13 n16 => (hg2 (rlI p6) (fun z => n13 (.inr z)) (fun z => n16 (.inr z))), fun p6 p12 n13 n16 => absurd (c10_9 (c11_10 (c12_11 (rlI p12)))) hn, fun p13 n16 => absurd (c10_9 (c11_10 (c12_11 (c13_12 (rlI p13))))) hn, fun p16 => absurd (c10_9 (c11_10 (c12_11 (c13_12 (c16_13 (rlI p16)))))) hn⟩
      | 10, ho =>
        injection ho with ho; subst ho
        have nb13 : ¬ b 13 := fun h => hn (c11_10 (c12_11 (c13_12 h)))
        have nb16 : ¬ b 16 := fun h => hn (c11_10 (c12_11 (c13_12 (c16_13 h))))
        have d9 : b 9 := hd ⟨9, .data⟩ (by simp) rfl
        have HK := Lib.hid hK
        have e9 := h9 d9
        obtain ⟨ev9, ew9⟩ := ev_of e9
        have q := (HX0.out W (hK1 nb16).out).cell 4
        simp only [List.getElem?_cons_zero, List.getElem?_cons_succ] at q
        clear hK hd
        rw [if_pos (by rfl)]
        go_simp
        exact HK.out _ _ ⟨g1, g2, A1, c1, A2, c2, Lib.hid ad.out, Lib.hid (gd_size.trans az.out), Lib.hid (fun k hk => (gd_ne (by rintro rfl; exact hk (by decide))).trans (af.out k hk)), gdI h0, gdI h1, gdI h2, gdI h3, gdI h4, gdI h5, gdI h6, gdI h7, gdI h8, gdI h9, fun _ => gd_eq (by rw [az.out, sz00]; decide), gdI h11, gdI h12, gdI h13, gdI h14, gdI h15, giI c3_2, giI c4_3, giI c5_4, giI c6_1, giI c6_5, giI c8_7, fun _ => .inr d9, giI c11_8, giI c11_10, giI c12_11, giI c13_6, giI c13_12, giI c14_0, giI c15_14, giI c16_13, giI c16_15, fun n16 => (hK1 (fun z => n16 (.inr z))), fun p1 n6 n16 => (hg1 (rlI p1) (fun z => n6 (.inr z)) (fun z => n16 (.inr z))), fun p12 n16 => absurd (c11_10 (c12_11 (rlI p12))) hn, fun p1 p12 n6 n16 => absurd (c11_10 (c12_11 (rlI p12))) hn, fun p6 n13 n16 => (hg2 (rlI p6) (fun z => n13 (.inr z)) (fun z => n16 (.inr z))), fun p6 p12 n13 n16 => absurd (c11_10 (c12_11 (rlI p12))) hn, fun p13 n16 => absurd (c11_10 (c12_11 (c13_12 (rlI p13)))) hn, fun p16 => absurd (c11_10 (c12_11 (c13_12 (c16_13 (rlI p16))))) hn⟩
      | 11, ho =>
        injection ho with ho; subst ho
        have nb13 : ¬ b 13 := fun h => hn (c12_11 (c13_12 h))
        have nb16 : ¬ b 16 := fun h => hn (c12_11 (c13_12 (c16_13 h)))
        have d8 : b 8 := hd ⟨8, .data⟩ (by simp) rfl
        have d10 : b 10 := hd ⟨10, .data⟩ (by simp) rfl
        have HK := Lib.hid hK
        have e8 := h8 d8
        obtain ⟨ev8, ew8⟩ := ev_of e8
        have e10 := h10 d10
        obtain ⟨ev10, ew10⟩ := ev_of e10
        clear hK hd
        rw [if_pos (by rfl)]
        go_simp
        exact HK.out _ _ ⟨g1, g2, A1, c1, A2, c2, Lib.hid ad.out, Lib.hid (gd_size.trans az.out), Lib.hid (fun k hk => (gd_ne (by rintro rfl; exact hk (by decide))).trans (af.out k hk)), gdI h0, gdI h1, gdI h2, gdI h3, gdI h4, gdI h5, gdI h6, gdI h7, gdI h8, gdI h9, gdI h10, fun _ => gd_eq (by rw [az.out, sz00]; decide), gdI h12, gdI h13, gdI h14, gdI h15, giI c3_2, giI c4_3, giI c5_4, giI c6_1, giI c6_5, giI c8_7, giI c10_9, fun _ => .inr d8, fun _ => .inr d10, giI c12_11, giI c13_6, giI c13_12, giI c14_0, giI c15_14, giI c16_13, giI c16_15, fun n16 => (hK1 (fun z => n16 (.inr z))), fun p1 n6 n16 => (hg1 (rlI p1) (fun z => n6 (.inr z)) (fun z => n16 (.inr z))), fun p12 n16 => absurd (c12_11 (rlI p12)) hn, fun p1 p12 n6 n16 => absurd (c12_11 (rlI p12)) hn, fun p6 n13 n16 => (hg2 (rlI p6) (fun z => n13 (.inr z)) (fun z => n16 (.inr z))), fun p6 p12 n13 n16 => absurd (c12_11 (rlI p12)) hn, fun p13 n16 => absurd (c12_11 (c13_12 (rlI p13))) hn, fun p16 => absurd (c12_11 (c13_12 (c16_13 (rlI p16)))) hn⟩
      | 12, ho =>
        injection ho with ho; subst ho
        have nb13 : ¬ b 13 := fun h => hn (c13_12 h)
        have nb16 : ¬ b 16 := fun h => hn (c13_12 (c16_13 h))
        have d11 : b 11 := hd ⟨11, .data⟩ (by simp) rfl
        have HK := Lib.hid hK
        have e11 := h11 d11
        obtain ⟨ev11, ew11⟩ := ev_of e11
        clear hK hd
        rw [if_pos (by rfl)]
        go_simp
        exact HK.out _ _ ⟨g1, W.heap.size, A1, c1, A2, c2, Lib.hid ad.out, Lib.hid (gd_size.trans az.out), Lib.hid (fun k hk => (gd_ne (by rintro rfl; exact hk (by decide))).trans (af.out k hk)), gdI h0, gdI h1, gdI h2, gdI h3, gdI h4, gdI h5, gdI h6, gdI h7, gdI h8, gdI h9, gdI h10, gdI h11, fun _ => gd_eq (by rw [az.out, sz00]; decide), gdI h13, gdI h14, gdI h15, giI c3_2, giI c4_3, giI c5_4, giI c6_1, giI c6_5, giI c8_7, giI c10_9, giI c11_8, giI c11_10, fun _ => .inr d11, giI c13_6, giI c13_12, giI c14_0, giI c15_14, giI c16_13, giI c16_15, fun n16 => Lib.hid (((hK1 (fun z => n16 (.inr z))).out).trans ((Kp.refl [] W).alloc _)), fun p1 n6 n16 => Lib.hid (⟨((hg1 (rlI p1) (fun z => n6 (.inr z)) (fun z => n16 (.inr z))).out).1, ((hg1 (rlI p1) (fun z => n6 (.inr z)) (fun z => n16 (.inr z))).out).2.kp ((Kp.refl [] W).alloc _) (by simp)⟩), fun p12 n16 => Lib.hid (⟨(hK1 nb16).out.size, (Bk.newAt rfl _ _).cast rfl⟩), fun p1 p12 n6 n16 => Lib.hid (fun e => by have := (hg1 (rlI p1) (fun z => n6 (.inr z)) nb16).out.2.lt g1 (by simp [bks]); omega), fun p6 n13 n16 => Lib.hid (⟨((hg2 (rlI p6) (fun z => n13 (.inr z)) (fun z => n16 (.inr z))).out).1, ((hg2 (rlI p6) (fun z => n13 (.inr z)) (fun z => n16 (.inr z))).out).2.kp ((Kp.refl [] W).alloc _) (by simp)⟩), fun p6 p12 n13 n16 => Lib.hid (fun hm => by have := (hg2 (rlI p6) (fun z => n13 (.inr z)) nb16).out.2.lt _ hm; omega), fun p13 n16 => absurd (c13_12 (rlI p13)) hn, fun p16 => absurd (c13_12 (c16_13 (rlI p16))) hn⟩
      | 13, ho =>
        injection ho with ho; subst ho
        have nb13 := hn
        have nb16 : ¬ b 16 := fun h => hn (c16_13 h)
        have d6 : b 6 := hd ⟨6, .data⟩ (by simp) rfl
        have d12 : b 12 := hd ⟨12, .data⟩ (by simp) rfl
        have HK := Lib.hid hK
        have e6 := h6 d6
        obtain ⟨ev6, ew6⟩ := ev_of e6
        have e12 := h12 d12
        obtain ⟨ev12, ew12⟩ := ev_of e12
        clear hK hd
        rw [if_pos (by rfl)]
        refine wp_app _ (.tmp 152) (.tmp 158) 72 rfl elt_mw A1 d.ln.length c1 _ ev6 (hg2 d6 nb13 nb16).out.2 [] (some ⟨g2, 0, none⟩) 1 1 (mwV ⟨a, l⟩) ev12 (Rd.of_bk (hg3 d12 nb16).out.2 (by simp)) rfl (by intro u hu; simp [mwV] at hu; rcases hu with rfl | rfl <;> rfl) (by omega) (fun A2' c2' w2' ho2 hk2 hA2 => ?_)
        have ho2 := Lib.hid ho2
        exact HK.out _ _ ⟨g1, g2, A1, c1, A2', c2', Lib.hid ad.out, Lib.hid (gd_size.trans az.out), Lib.hid (fun k hk => (gd_ne (by rintro rfl; exact hk (by decide))).trans (af.out k hk)), gdI h0, gdI h1, gdI h2, gdI h3, gdI h4, gdI h5, gdI h6, gdI h7, gdI h8, gdI h9, gdI h10, gdI h11, gdI h12, fun _ => gd_eq (by rw [az.out, sz00]; decide), gdI h14, gdI h15, giI c3_2, giI c4_3, giI c5_4, giI c6_1, giI c6_5, giI c8_7, giI c10_9, giI c11_8, giI c11_10, giI c12_11, fun _ => .inr d6, fun _ => .inr d12, giI c14_0, giI c15_14, giI c16_13, giI c16_15, fun n16 => Lib.hid ((hK1 nb16).out.thn hk2 (fun s hs => .inr ((hg2 d6 nb13 nb16).out.1 s hs))), fun p1 n6 n16 => Lib.hid (absurd d6 (fun z => n6 (.inr z))), fun p12 n16 => Lib.hid (⟨(hg3 (rlI p12) nb16).out.1, (hg3 (rlI p12) nb16).out.2.kp hk2 (hne2 d6 d12 nb13 nb16).out⟩), fun p1 p12 n6 n16 => Lib.hid (absurd d6 (fun z => n6 (.inr z))), fun _ z _ => absurd (.inl rfl) z, fun _ _ z _ => absurd (.inl rfl) z, fun p13 n16 => Lib.hid (⟨by rcases hA2 with rfl | rfl; exact (hg2 d6 nb13 nb16).out.1; (intro s hs; simp [bks] at hs; have := (hK1 nb16).out.size; omega), ho2.out⟩), fun p16 => Lib.hid (absurd (c16_13 (rlI p16)) hn)⟩
      | 14, ho =>
        injection ho with ho; subst ho
        have nb16 : ¬ b 16 := fun h => hn (c15_14 (c16_15 h))
        have d0 : b 0 := hd ⟨0, .data⟩ (by simp) rfl
        have HK := Lib.hid hK
        have e0 := h0 d0
        obtain ⟨ev0, ew0⟩ := ev_of e0
        clear hK hd
        rw [if_pos (by rfl)]
        go_simp
        exact HK.out _ _ ⟨g1, g2, A1, c1, A2, c2, Lib.hid ad.out, Lib.hid (gd_size.trans az.out), Lib.hid (fun k hk => (gd_ne (by rintro rfl; exact hk (by decide))).trans (af.out k hk)), gdI h0, gdI h1, gdI h2, gdI h3, gdI h4, gdI h5, gdI h6, gdI h7, gdI h8, gdI h9, gdI h10, gdI h11, gdI h12, gdI h13, fun _ => gd_eq (by rw [az.out, sz00]; decide), gdI h15, giI c3_2, giI c4_3, giI c5_4, giI c6_1, giI c6_5, giI c8_7, giI c10_9, giI c11_8, giI c11_10, giI c12_11, giI c13_6, giI c13_12, fun _ => .inr d0, giI c15_14, giI c16_13, giI c16_15, fun n16 => (hK1 (fun z => n16 (.inr z))), fun p1 n6 n16 => (hg1 (rlI p1) (fun z => n6 (.inr z)) (fun z => n16 (.inr z))), fun p12 n16 => (hg3 (rlI p12) (fun z => n16 (.inr z))), fun p1 p12 n6 n16 => (hne (rlI p1) (rlI p12) (fun z => n6 (.inr z)) (fun z => n16 (.inr z))), fun p6 n13 n16 => (hg2 (rlI p6) (fun z => n13 (.inr z)) (fun z => n16 (.inr z))), fun p6 p12 n13 n16 => (hne2 (rlI p6) (rlI p12) (fun z => n13 (.inr z)) (fun z => n16 (.inr z))), fun p13 n16 => (hgF (rlI p13) (fun z => n16 (.inr z))), fun p16 => absurd (c15_14 (c16_15 (rlI p16))) hn⟩
      | 15, ho =>
        injection ho with ho; subst ho
        have nb16 : ¬ b 16 := fun h => hn (c16_15 h)
        have d14 : b 14 := hd ⟨14, .data⟩ (by simp) rfl
        have HK := Lib.hid hK
        have e14 := h14 d14
        obtain ⟨ev14, ew14⟩ := ev_of e14
        clear hK hd
        rw [if_pos (by rfl)]
        go_simp
        exact HK.out _ _ ⟨g1, g2, A1, c1, A2, c2, Lib.hid ad.out, Lib.hid (gd_size.trans az.out), Lib.hid (fun k hk => (gd_ne (by rintro rfl; exact hk (by decide))).trans (af.out k hk)), gdI h0, gdI h1, gdI h2, gdI h3, gdI h4, gdI h5, gdI h6, gdI h7, gdI h8, gdI h9, gdI h10, gdI h11, gdI h12, gdI h13, gdI h14, fun _ => gd_eq (by rw [az.out, sz00]; decide), giI c3_2, giI c4_3, giI c5_4, giI c6_1, giI c6_5, giI c8_7, giI c10_9, giI c11_8, giI c11_10, giI c12_11, giI c13_6, giI c13_12, giI c14_0, fun _ => .inr d14, giI c16_13, giI c16_15, fun n16 => (hK1 (fun z => n16 (.inr z))), fun p1 n6 n16 => (hg1 (rlI p1) (fun z => n6 (.inr z)) (fun z => n16 (.inr z))), fun p12 n16 => (hg3 (rlI p12) (fun z => n16 (.inr z))), fun p1 p12 n6 n16 => (hne (rlI p1) (rlI p12) (fun z => n6 (.inr z)) (fun z => n16 (.inr z))), fun p6 n13 n16 => (hg2 (rlI p6) (fun z => n13 (.inr z)) (fun z => n16 (.inr z))), fun p6 p12 n13 n16 => (hne2 (rlI p6) (rlI p12) (fun z => n13 (.inr z)) (fun z => n16 (.inr z))), fun p13 n16 => (hgF (rlI p13) (fun z => n16 (.inr z))), fun p16 => absurd (c16_15 (rlI p16)) hn⟩
      | 16, ho =>
        injection ho with ho; subst ho
        have nb16 := hn
        have d13 : b 13 := hd ⟨13, .data⟩ (by simp) rfl
        have d15 : b 15 := hd ⟨15, .data⟩ (by simp) rfl
        have HK := Lib.hid hK
        have e13 := h13 d13
        obtain ⟨ev13, ew13⟩ := ev_of e13
        have e15 := h15 d15
        obtain ⟨ev15, ew15⟩ := ev_of e15
        obtain ⟨z1, z2⟩ := (hgF d13 nb16).out
        have zk := (hK1 nb16).out
        have zb := HW0.out W zk
        have zl := zb.lt
        have zf := zb.frozen 2
        have zc := zb.cell 2
        simp only [List.getElem?_cons_zero, List.getElem?_cons_succ] at zc
        clear hK hd
        rw [if_pos (by rfl)]
        go_simp
        exact HK.out _ _ ⟨g1, g2, A1, c1, A2, c2, ad, az, af, fun h => h0 (rlI h), fun h => h1 (rlI h), fun h => h2 (rlI h), fun h => h3 (rlI h), fun h => h4 (rlI h), fun h => h5 (rlI h), fun h => h6 (rlI h), fun h => h7 (rlI h), fun h => h8 (rlI h), fun h => h9 (rlI h), fun h => h10 (rlI h), fun h => h11 (rlI h), fun h => h12 (rlI h), fun h => h13 (rlI h), fun h => h14 (rlI h), fun h => h15 (rlI h), giI c3_2, giI c4_3, giI c5_4, giI c6_1, giI c6_5, giI c8_7, giI c10_9, giI c11_8, giI c11_10, giI c12_11, giI c13_6, giI c13_12, giI c14_0, giI c15_14, fun _ => .inr d13, fun _ => .inr d15, fun  z => absurd (.inl rfl) z, fun _ _ z => absurd (.inl rfl) z, fun _ z => absurd (.inl rfl) z, fun _ _ _ z => absurd (.inl rfl) z, fun _ _ z => absurd (.inl rfl) z, fun _ _ _ z => absurd (.inl rfl) z, fun _ z => absurd (.inl rfl) z, fun p16 => Lib.hid (⟨W, (hK1 nb16).out, (hgF d13 nb16).out.2, (hgF d13 nb16).out.1, rfl⟩)⟩
      | (n + 17), ho => exact absurd ho (by simp)
    · intro b a' W hb hI
      obtain ⟨g1, g2, A1, c1, A2, c2, ad, az, af, h0, h1, h2, h3, h4, h5, h6, h7, h8, h9, h10, h11, h12, h13, h14, h15, c3_2, c4_3, c5_4, c6_1, c6_5, c8_7, c10_9, c11_8, c11_10, c12_11, c13_6, c13_12, c14_0, c15_14, c16_13, c16_15, hK1, hg1, hg3, hne, hg2, hne2, hgF, hFin⟩ := hI
      clear hK1
      clear hg1
      clear hg3
      clear hne
      clear hg2
      clear hne2
      clear hgF
      have hFin := hFin (hb 16 (by decide))
      have ha := act_of (L := [(146, .pointer (some ⟨bD, 0, none⟩)), (147, .slice (some ⟨g1, 0, none⟩) 0 0), (148, .pointer (some ⟨bD, 0, none⟩)), (149, .pointer (some ⟨bD, 0, none⟩)), (150, .pointer (some ⟨bD, 2, none⟩)), (151, .slice A d.ln.length c), (152, .slice A1 d.ln.length c1), (153, .pointer (some ⟨gx, 2, none⟩)), (154, .int .i64 a), (155, .pointer (some ⟨gx, 4, none⟩)), (156, .string (S l)), (157, .agg #[.int .i64 a, .string (S l)]), (158, .slice (some ⟨g2, 0, none⟩) 1 1), (159, .slice A2 (d.ln.length + 1) c2), (160, .pointer (some ⟨bD, 0, none⟩)), (161, .pointer (some ⟨bD, 2, none⟩))]) (show ([146, 147, 148, 149, 150, 151, 152, 153, 154, 155, 156, 157, 158, 159, 160, 161] : List Nat).Nodup by decide) ad.out az.out af.out (by
        intro p hp
        rw [sz00]
        simp only [List.mem_cons, List.not_mem_nil, or_false] at hp
        rcases hp with rfl | rfl | rfl | rfl | rfl | rfl | rfl | rfl | rfl | rfl | rfl | rfl | rfl | rfl | rfl | rfl
        · exact ⟨show 146 < 205 by decide, h0 (hb 0 (by decide))⟩
        · exact ⟨show 147 < 205 by decide, h1 (hb 1 (by decide))⟩
        · exact ⟨show 148 < 205 by decide, h2 (hb 2 (by decide))⟩
        · exact ⟨show 149 < 205 by decide, h3 (hb 3 (by decide))⟩
        · exact ⟨show 150 < 205 by decide, h4 (hb 4 (by decide))⟩
        · exact ⟨show 151 < 205 by decide, h5 (hb 5 (by decide))⟩
        · exact ⟨show 152 < 205 by decide, h6 (hb 6 (by decide))⟩
        · exact ⟨show 153 < 205 by decide, h7 (hb 7 (by decide))⟩
        · exact ⟨show 154 < 205 by decide, h8 (hb 8 (by decide))⟩
        · exact ⟨show 155 < 205 by decide, h9 (hb 9 (by decide))⟩
        · exact ⟨show 156 < 205 by decide, h10 (hb 10 (by decide))⟩
        · exact ⟨show 157 < 205 by decide, h11 (hb 11 (by decide))⟩
        · exact ⟨show 158 < 205 by decide, h12 (hb 12 (by decide))⟩
        · exact ⟨show 159 < 205 by decide, h13 (hb 13 (by decide))⟩
        · exact ⟨show 160 < 205 by decide, h14 (hb 14 (by decide))⟩
        · exact ⟨show 161 < 205 by decide, h15 (hb 15 (by decide))⟩
        )
      rw [HA00.out] at ha
      simp only [List.foldl_cons, List.foldl_nil, Act.put, List.setIfInBounds_toArray, List.set_cons_zero, List.set_cons_succ] at ha
      clear h0 h1 h2 h3 h4 h5 h6 h7 h8 h9 h10 h11 h12 h13 h14 h15 c3_2 c4_3 c5_4 c6_1 c6_5 c8_7 c10_9 c11_8 c11_10 c12_11 c13_6 c13_12 c14_0 c15_14 c16_13 c16_15 hb ad az af HA00 sz00 sl0 sl3
      subst ha
      obtain ⟨W9, z1, z2, z3, rfl⟩ := hFin.out
      clear hFin
      go_wp2
      exact FinW.out _ _ _ z1 z2 (fun s hs => by have := z3 s hs; omega)
  · have g2 : decide (0 < L) = false := by simpa using h0
    have HLe := HL.out L (fun h => by omega) (fun h => by omega)
    go_enter Tryz.func55, Tryz.ntmps55
    go_upto_region 31 with (go_at_call 114; (refine HM.out _ _ (KA _) ?_))
    refine genV (fun W => ∃ gx, w.heap.size = gx ∧ Kp [bD] w W ∧ Bk W bD 74 [.slice (some ⟨bB, 0, none⟩) d.bl.length cb, .slice (some ⟨bO, 0, none⟩) d.bl.length co, .slice A d.ln.length c, .bool d.off, .int .i64 L] ∧ Bk W gx 136 [.int .i64 2, .int .i64 env, .int .i64 a, .int .i64 b, .string (S l)]) ⟨_, rfl, (Kp.refl [bD] w).alloc _, (HBL.out.alloc _).cast (by simp), (Bk.newAt (by simp) _ _).cast rfl⟩ ?_
    rintro W0 ⟨gx, hgx, kW, bW, bX⟩
    rw [hgx]
    have HRd : Hid (∀ W, Kp [] W0 W → Rd W [] A (d.ln.flatMap mwV)) := Lib.hid (fun W k => (HX.out _ W0 gx HLe hgx kW bW).kp k (by simp))
    have HW0 : Hid (∀ W, Kp [] W0 W → Bk W bD 74 [.slice (some ⟨bB, 0, none⟩) d.bl.length cb, .slice (some ⟨bO, 0, none⟩) d.bl.length co, .slice A d.ln.length c, .bool d.off, .int .i64 L]) := Lib.hid (fun W k => bW.kp k (by simp))
    have HX0 : Hid (∀ W, Kp [] W0 W → Bk W gx 136 [.int .i64 2, .int .i64 env, .int .i64 a, .int .i64 b, .string (S l)]) := Lib.hid (fun W k => bX.kp k (by simp))
    have FinW := Lib.hid (Fin.out _ W0 gx HLe hgx kW bW)
    have hsz : w.heap.size ≤ W0.heap.size := kW.size
    clear Fin HX bW bX kW H HD HL HM HW HBK HBL c4 f4 KA HLe
    refine nameA (fun A00 hA00 => ?_)
    have sl0 : A00.tmps.getD 0 undef = .pointer (some ⟨bD, 0, none⟩) := by rw [hA00]; rfl
    have sl3 : A00.tmps.getD 3 undef = .pointer (some ⟨gx, 0, none⟩) := by rw [hA00]; rfl
    have sz00 : A00.tmps.size = 205 := by rw [hA00]; rfl
    have HA00 := Lib.hid hA00
    clear hA00
    refine wp_region_inv (fun b a' W => ∃ (g1 : Nat) (g2 : Nat) (A1 : Option Addr) (c1 : Nat) (A2 : Option Addr) (c2 : Nat), Hid (a'.defers = A00.defers) ∧ Hid (a'.tmps.size = A00.tmps.size) ∧ Hid (∀ k, k ∉ [146, 147, 148, 149, 150, 151, 152, 153, 154, 155, 156, 157, 158, 159, 160, 161] → a'.tmps.getD k undef = A00.tmps.getD k undef) ∧ (b 0 → a'.tmps.getD 146 undef = .pointer (some ⟨bD, 0, none⟩)) ∧ (b 1 → a'.tmps.getD 147 undef = .slice (some ⟨g1, 0, none⟩) 0 0) ∧ (b 2 → a'.tmps.getD 148 undef = .pointer (some ⟨bD, 0, none⟩)) ∧ (b 3 → a'.tmps.getD 149 undef = .pointer (some ⟨bD, 0, none⟩)) ∧ (b 4 → a'.tmps.getD 150 undef = .pointer (some ⟨bD, 2, none⟩)) ∧ (b 5 → a'.tmps.getD 151 undef = .slice A d.ln.length c) ∧ (b 6 → a'.tmps.getD 152 undef = .slice A1 d.ln.length c1) ∧ (b 7 → a'.tmps.getD 153 undef = .pointer (some ⟨gx, 2, none⟩)) ∧ (b 8 → a'.tmps.getD 154 undef = .int .i64 a) ∧ (b 9 → a'.tmps.getD 155 undef = .pointer (some ⟨gx, 4, none⟩)) ∧ (b 10 → a'.tmps.getD 156 undef = .string (S l)) ∧ (b 11 → a'.tmps.getD 157 undef = .agg #[.int .i64 a, .string (S l)]) ∧ (b 12 → a'.tmps.getD 158 undef = .slice (some ⟨g2, 0, none⟩) 1 1) ∧ (b 13 → a'.tmps.getD 159 undef = .slice A2 (d.ln.length + 1) c2) ∧ (b 14 → a'.tmps.getD 160 undef = .pointer (some ⟨bD, 0, none⟩)) ∧ (b 15 → a'.tmps.getD 161 undef = .pointer (some ⟨bD, 2, none⟩)) ∧ (b 3 → b 2) ∧ (b 4 → b 3) ∧ (b 5 → b 4) ∧ (b 6 → b 1) ∧ (b 6 → b 5) ∧ (b 8 → b 7) ∧ (b 10 → b 9) ∧ (b 11 → b 8) ∧ (b 11 → b 10) ∧ (b 12 → b 11) ∧ (b 13 → b 6) ∧ (b 13 → b 12) ∧ (b 14 → b 0) ∧ (b 15 → b 14) ∧ (b 16 → b 13) ∧ (b 16 → b 15) ∧ (¬ b 16 → Hid (Kp [] W0 W)) ∧ (b 1 → ¬ b 6 → ¬ b 16 → Hid (W0.heap.size ≤ g1 ∧ Ow W 225 2 (some ⟨g1, 0, none⟩) 0 0 [])) ∧ (b 12 → ¬ b 16 → Hid (W0.heap.size ≤ g2 ∧ Bk W g2 225 (mwV ⟨a, l⟩))) ∧ (b 1 → b 12 → ¬ b 6 → ¬ b 16 → Hid (g1 ≠ g2)) ∧ (b 6 → ¬ b 13 → ¬ b 16 → Hid (Fresh W0.heap.size A1 ∧ Ow W 225 2 A1 d.ln.length c1 (d.ln.flatMap mwV))) ∧ (b 6 → b 12 → ¬ b 13 → ¬ b 16 → Hid (g2 ∉ bks A1)) ∧ (b 13 → ¬ b 16 → Hid (Fresh W0.heap.size A2 ∧ Ow W 225 2 A2 (d.ln.length + 1) c2 (d.ln.flatMap mwV ++ mwV ⟨a, l⟩))) ∧ (b 16 → Hid (∃ W9, Kp [] W0 W9 ∧ Ow W9 225 2 A2 (d.ln.length + 1) c2 (d.ln.flatMap mwV ++ mwV ⟨a, l⟩) ∧ Fresh W0.heap.size A2 ∧ W = W9.setCell ⟨bD, 2, none⟩ (.slice A2 (d.ln.length + 1) c2)))) (by kernel_rfl) (by kernel_rfl) 17 rfl ?_ ?_ ?_
    · exact ⟨0, 0, none, 0, none, 0, Lib.hid rfl, Lib.hid rfl, Lib.hid (fun _ _ => rfl), fun h => absurd h id, fun h => absurd h id, fun h => absurd h id, fun h => absurd h id, fun h => absurd h id, fun h => absurd h id, fun h => absurd h id, fun h => absurd h id, fun h => absurd h id, fun h => absurd h id, fun h => absurd h id, fun h => absurd h id, fun h => absurd h id, fun h => absurd h id, fun h => absurd h id, fun h => absurd h id, fun h => absurd h id, fun h => absurd h id, fun h => absurd h id, fun h => absurd h id, fun h => absurd h id, fun h => absurd h id, fun h => absurd h id, fun h => absurd h id, fun h => absurd h id, fun h => absurd h id, fun h => absurd h id, fun h => absurd h id, fun h => absurd h id, fun h => absurd h id, fun h => absurd h id, fun h => absurd h id, fun _ => Lib.hid ((Kp.refl _ _).drew), fun h => absurd h id, fun h => absurd h id, fun h => absurd h id, fun h => absurd h id, fun h => absurd h id, fun h => absurd h id, fun h => absurd h id⟩
    · intro b a' W i o ho hn hd hI K hK
      obtain ⟨g1, g2, A1, c1, A2, c2, ad, az, af, h0, h1, h2, h3, h4, h5, h6, h7, h8, h9, h10, h11, h12, h13, h14, h15, c3_2, c4_3, c5_4, c6_1, c6_5, c8_7, c10_9, c11_8, c11_10, c12_11, c13_6, c13_12, c14_0, c15_14, c16_13, c16_15, hK1, hg1, hg3, hne, hg2, hne2, hgF, hFin⟩ := hI
      have s0 := (af.out 0 (by decide)).trans sl0
      have s3 := (af.out 3 (by decide)).trans sl3
      match i, ho with
      | 0, ho =>
        injection ho with ho; subst ho
        have nb16 : ¬ b 16 := fun h => hn (c14_0 (c15_14 (c16_15 h)))
        have HK := Lib.hid hK
        obtain ⟨sv0, sw0⟩ := ev_of s0
        clear hK hd
        rw [if_pos (by rfl)]
        go_simp
        exact HK.out _ _ ⟨g1, g2, A1, c1, A2, c2, Lib.hid ad.out, Lib.hid (gd_size.trans az.out), Lib.hid (fun k hk => (gd_ne (by rintro rfl; exact hk (by decide))).trans (af.out k hk)), fun _ => gd_eq (by rw [az.out, sz00]; decide), gdI h1, gdI h2, gdI h3, gdI h4, gdI h5, gdI h6, gdI h7, gdI h8, gdI h9, gdI h10, gdI h11, gdI h12, gdI h13, gdI h14, gdI h15, giI c3_2, giI c4_3, giI c5_4, giI c6_1, giI c6_5, giI c8_7, giI c10_9, giI c11_8, giI c11_10, giI c12_11, giI c13_6, giI c13_12, giI c14_0, giI c15_14, giI c16_13, giI c16_15, fun n16 => (hK1 (fun z => n16 (.inr z))), fun p1 n6 n16 => (hg1 (rlI p1) (fun z => n6 (.inr z)) (fun z => n16 (.inr z))), fun p12 n16 => (hg3 (rlI p12) (fun z => n16 (.inr z))), fun p1 p12 n6 n16 => (hne (rlI p1) (rlI p12) (fun z => n6 (.inr z)) (fun z => n16 (.inr z))), fun p6 n13 n16 => (hg2 (rlI p6) (fun z => n13 (.inr z)) (fun z => n16 (.inr z))), fun p6 p12 n13 n16 => (hne2 (rlI p6) (rlI p12) (fun z => n13 (.inr z)) (fun z => n16 (.inr z))), fun p13 n16 => (hgF (rlI p13) (fun z => n16 (.inr z))), fun p16 => absurd (c14_0 (c15_14 (c16_15 (rlI p16)))) hn⟩
      | 1, ho =>
        injection ho with ho; subst ho
        have nb6 : ¬ b 6 := fun h => hn (c6_1 h)
        have nb13 : ¬ b 13 := fun h => hn (c6_1 (c13_6 h))
        have nb16 : ¬ b 16 := fun h => hn (c6_1 (c13_6 (c16_13 h)))
        have HK := Lib.hid hK
        clear hK hd
        rw [if_pos (by rfl)]
        go_simp
        exact HK.out _ _ ⟨W.heap.size, g2, A1, c1, A2, c2, Lib.hid ad.out, Lib.hid (gd_size.trans az.out), Lib.hid (fun k hk => (gd_ne (by rintro rfl; exact hk (by decide))).trans (af.out k hk)), gdI h0, fun _ => gd_eq (by rw [az.out, sz00]; decide), gdI h2, gdI h3, gdI h4, gdI h5, gdI h6, gdI h7, gdI h8, gdI h9, gdI h10, gdI h11, gdI h12, gdI h13, gdI h14, gdI h15, giI c3_2, giI c4_3, giI c5_4, giI c6_1, giI c6_5, giI c8_7, giI c10_9, giI c11_8, giI c11_10, giI c12_11, giI c13_6, giI c13_12, giI c14_0, giI c15_14, giI c16_13, giI c16_15, fun n16 => Lib.hid (((hK1 (fun z => n16 (.inr z))).out).trans ((Kp.refl [] W).alloc _)), fun p1 n6 n16 => Lib.hid (⟨(hK1 nb16).out.size, Ow.lit W _ 2 #[] 0 (by decide) rfl⟩), fun p12 n16 => Lib.hid (⟨((hg3 (rlI p12) (fun z => n16 (.inr z))).out).1, ((hg3 (rlI p12) (fun z => n16 (.inr z))).out).2.kp ((Kp.refl [] W).alloc _) (by simp)⟩), fun p1 p12 n6 n16 => Lib.hid (fun e => by have := (hg3 (rlI p12) nb16).out.2.lt; omega), fun p6 n13 n16 => absurd (c6_1 (rlI p6)) hn, fun p6 p12 n13 n16 => absurd (c6_1 (rlI p6)) hn, fun p13 n16 => absurd (c6_1 (c13_6 (rlI p13))) hn, fun p16 => absurd (c6_1 (c13_6 (c16_13 (rlI p16)))) hn⟩
      | 2, ho =>
        injection ho with ho; subst ho
        have nb6 : ¬ b 6 := fun h => hn (c3_2 (c4_3 (c5_4 (c6_5 h))))
        have nb13 : ¬ b 13 := fun h => hn (c3_2 (c4_3 (c5_4 (c6_5 (c13_6 h)))))
        have nb16 : ¬ b 16 := fun h => hn (c3_2 (c4_3 (c5_4 (c6_5 (c13_6 (c16_13 h))))))
        have HK := Lib.hid hK
        obtain ⟨sv0, sw0⟩ := ev_of s0
        clear hK hd
        rw [if_pos (by rfl)]
        go_simp
        exact HK.out _ _ ⟨g1, g2, A1, c1, A2, c2, Lib.hid ad.out, Lib.hid (gd_size.trans az.out), Lib.hid (fun k hk => (gd_ne (by rintro rfl; exact hk (by decide))).trans (af.out k hk)), gdI h0, gdI h1, fun _ => gd_eq (by rw [az.out, sz00]; decide), gdI h3, gdI h4, gdI h5, gdI h6, gdI h7, gdI h8, gdI h9, gdI h10, gdI h11, gdI h12, gdI h13, gdI h14, gdI h15, giI c3_2, giI c4_3, giI c5_4, giI c6_1, giI c6_5, giI c8_7, giI c10_9, giI c11_8, giI c11_10, giI c12_11, giI c13_6, giI c13_12, giI c14_0, giI c15_14, giI c16_13, giI c16_15, fun n16 => (hK1 (fun z => n16 (.inr z))), fun p1 n6 n16 => (hg1 (rlI p1) (fun z => n6 (.inr z)) (fun z => n16 (.inr z))), fun p12 n16 => (hg3 (rlI p12) (fun z => n16 (.inr z))), fun p1 p12 n6 n16 => (hne (rlI p1) (rlI p12) (fun z => n6 (.inr z)) (fun z => n16 (.inr z))), fun p6 n13 n16 => absurd (c3_2 (c4_3 (c5_4 (c6_5 (rlI p6))))) hn, fun p6 p12 n13 n16 => absurd (c3_2 (c4_3 (c5_4 (c6_5 (rlI p6))))) hn, fun p13 n16 => absurd (c3_2 (c4_3 (c5_4 (c6_5 (c13_6 (rlI p13)))))) hn, fun p16 => absurd (c3_2 (c4_3 (c5_4 (c6_5 (c13_6 (c16_13 (rlI p16))))))) hn⟩
      | 3, ho =>
        injection ho with ho; subst ho
        have nb6 : ¬ b 6 := fun h => hn (c4_3 (c5_4 (c6_5 h)))
        have nb13 : ¬ b 13 := fun h => hn (c4_3 (c5_4 (c6_5 (c13_6 h))))
        have nb16 : ¬ b 16 := fun h => hn (c4_3 (c5_4 (c6_5 (c13_6 (c16_13 h)))))
        have d2 : b 2 := hd ⟨2, .data⟩ (by simp) rfl
        have HK := Lib.hid hK
        have e2 := h2 d2
        obtain ⟨ev2, ew2⟩ := ev_of e2
        clear hK hd
        rw [if_pos (by rfl)]
        go_simp
        exact HK.out _ _ ⟨g1, g2, A1, c1, A2, c2, Lib.hid ad.out, Lib.hid (gd_size.trans az.out), Lib.hid (fun k hk => (gd_ne (by rintro rfl; exact hk (by decide))).trans (af.out k hk)), gdI h0, gdI h1, gdI h2, fun _ => gd_eq (by rw [az.out, sz00]; decide), gdI h4, gdI h5, gdI h6, gdI h7, gdI h8, gdI h9, gdI h10, gdI h11, gdI h12, gdI h13, gdI h14, gdI h15, fun _ => .inr d2, giI c4_3, giI c5_4, giI c6_1, giI c6_5, giI c8_7, giI c10_9, giI c11_8, giI c11_10, giI c12_11, giI c13_6, giI c13_12, giI c14_0, giI c15_14, giI c16_13, giI c16_15, fun n16 => (hK1 (fun z => n16 (.inr z))), fun p1 n6 n16 => (hg1 (rlI p1) (fun z => n6 (.inr z)) (fun z => n16 (.inr z))), fun p12 n16 => (hg3 (rlI p12) (fun z => n16 (.inr z))), fun p1 p12 n6 n16 => (hne (rlI p1) (rlI p12) (fun z => n6 (.inr z)) (fun z => n16 (.inr z))), fun p6 n13 n16 => absurd (c4_3 (c5_4 (c6_5 (rlI p6)))) hn, fun p6 p12 n13 n16 => absurd (c4_3 (c5_4 (c6_5 (rlI p6)))) hn, fun p13 n16 => absurd (c4_3 (c5_4 (c6_5 (c13_6 (rlI p13))))) hn, fun p16 => absurd (c4_3 (c5_4 (c6_5 (c13_6 (c16_13 (rlI p16)))))) hn⟩
      | 4, ho =>
        injection ho with ho; subst ho
        have nb6 : ¬ b 6 := fun h => hn (c5_4 (c6_5 h))
        have nb13 : ¬ b 13 := fun h => hn (c5_4 (c6_5 (c13_6 h)))
        have nb16 : ¬ b 16 := fun h => hn (c5_4 (c6_5 (c13_6 (c16_13 h))))
        have d3 : b 3 := hd ⟨3, .data⟩ (by simp) rfl
        have HK := Lib.hid hK
        have e3 := h3 d3
        obtain ⟨ev3, ew3⟩ := ev_of e3
        clear hK hd
        rw [if_pos (by rfl)]
        go_simp
        exact HK.out _ _ ⟨g1, g2, A1, c1, A2, c2, Lib.hid ad.out, Lib.hid (gd_size.trans az.out), Lib.hid (fun k hk => (gd_ne (by rintro rfl; exact hk (by decide))).trans (af.out k hk)), gdI h0, gdI h1, gdI h2, gdI h3, fun _ => gd_eq (by rw [az.out, sz00]; decide), gdI h5, gdI h6, gdI h7, gdI h8, gdI h9, gdI h10, gdI h11, gdI h12, gdI h13, gdI h14, gdI h15, giI c3_2, fun _ => .inr d3, giI c5_4, giI c6_1, giI c6_5, giI c8_7, giI c10_9, giI c11_8, giI c11_10, giI c12_11, giI c13_6, giI c13_12, giI c14_0, giI c15_14, giI c16_13, giI c16_15, fun n16 => (hK1 (fun z => n16 (.inr z))), fun p1 n6 n16 => (hg1 (rlI p1) (fun z => n6 (.inr z)) (fun z => n16 (.inr z))), fun p12 n16 => (hg3 (rlI p12) (fun z => n16 (.inr z))), fun p1 p12 n6 n16 => (hne (rlI p1) (rlI p12) (fun z => n6 (.inr z)) (fun z => n16 (.inr z))), fun p6 n13 n16 => absurd (c5_4 (c6_5 (rlI p6))) hn, fun p6 p12 n13 n16 => absurd (c5_4 (c6_5 (rlI p6))) hn, fun p13 n16 => absurd (c5_4 (c6_5 (c13_6 (rlI p13)))) hn, fun p16 => absurd (c5_4 (c6_5 (c13_6 (c16_13 (rlI p16))))) hn⟩
      | 5, ho =>
        injection ho with ho; subst ho
        have nb6 : ¬ b 6 := fun h => hn (c6_5 h)
        have nb13 : ¬ b 13 := fun h => hn (c6_5 (c13_6 h))
        have nb16 : ¬ b 16 := fun h => hn (c6_5 (c13_6 (c16_13 h)))
        have d4 : b 4 := hd ⟨4, .data⟩ (by simp) rfl
        have HK := Lib.hid hK
        have e4 := h4 d4
        obtain ⟨ev4, ew4⟩ := ev_of e4
        have q := (HW0.out W (hK1 nb16).out).cell 2
        simp only [List.getElem?_cons_zero, List.getElem?_cons_succ] at q
        clear hK hd
        rw [if_pos (by rfl)]
        go_simp
        exact HK.out _ _ ⟨g1, g2, A1, c1, A2, c2, Lib.hid ad.out, Lib.hid (gd_size.trans az.out), Lib.hid (fun k hk => (gd_ne (by rintro rfl; exact hk (by decide))).trans (af.out k hk)), gdI h0, gdI h1, gdI h2, gdI h3, gdI h4, fun _ => gd_eq (by rw [az.out, sz00]; decide), gdI h6, gdI h7, gdI h8, gdI h9, gdI h10, gdI h11, gdI h12, gdI h13, gdI h14, gdI h15, giI c3_2, giI c4_3, fun _ => .inr d4, giI c6_1, giI c6_5, giI c8_7, giI c10_9, giI c11_8, giI c11_10, giI c12_11, giI c13_6, giI c13_12, giI c14_0, giI c15_14, giI c16_13, giI c16_15, fun n16 => (hK1 (fun z => n16 (.inr z))), fun p1 n6 n16 => (hg1 (rlI p1) (fun z => n6 (.inr z)) (fun z => n16 (.inr z))), fun p12 n16 => (hg3 (rlI p12) (fun z => n16 (.inr z))), fun p1 p12 n6 n16 => (hne (rlI p1) (rlI p12) (fun z => n6 (.inr z)) (fun z => n16 (.inr z))), fun p6 n13 n16 => absurd (c6_5 (rlI p6)) hn, fun p6 p12 n13 n16 => absurd (c6_5 (rlI p6)) hn, fun p13 n16 => absurd (c6_5 (c13_6 (rlI p13))) hn, fun p16 => absurd (c6_5 (c13_6 (c16_13 (rlI p16)))) hn⟩
      | 6, ho =>
        injection ho with ho; subst ho
        have nb6 := hn
        have nb13 : ¬ b 13 := fun h => hn (c13_6 h)
        have nb16 : ¬ b 16 := fun h => hn (c13_6 (c16_13 h))
        have d1 : b 1 := hd ⟨1, .data⟩ (by simp) rfl
        have d5 : b 5 := hd ⟨5, .data⟩ (by simp) rfl
        have HK := Lib.hid hK
        have e1 := h1 d1
        obtain ⟨ev1, ew1⟩ := ev_of e1
        have e5 := h5 d5
        obtain ⟨ev5, ew5⟩ := ev_of e5
        clear hK hd
        rw [if_pos (by rfl)]
        refine wp_app _ (.tmp 147) (.tmp 151) 72 rfl elt_mw (some ⟨g1, 0, none⟩) 0 0 [] ev1 (hg1 d1 nb6 nb16).out.2 [] A d.ln.length c (d.ln.flatMap mwV) ev5 (HRd.out W (hK1 nb16).out) HLN.out HMW.out (by omega) (fun A1' c1' w1' ho1 hk1 hA1 => ?_)
        rw [Nat.zero_add] at ho1 ⊢
        simp only [List.nil_append] at ho1
        have ho1 := Lib.hid ho1
        exact HK.out _ _ ⟨g1, g2, A1', c1', A2, c2, Lib.hid ad.out, Lib.hid (gd_size.trans az.out), Lib.hid (fun k hk => (gd_ne (by rintro rfl; exact hk (by decide))).trans (af.out k hk)), gdI h0, gdI h1, gdI h2, gdI h3, gdI h4, gdI h5, fun _ => gd_eq (by rw [az.out, sz00]; decide), gdI h7, gdI h8, gdI h9, gdI h10, gdI h11, gdI h12, gdI h13, gdI h14, gdI h15, giI c3_2, giI c4_3, giI c5_4, fun _ => .inr d1, fun _ => .inr d5, giI c8_7, giI c10_9, giI c11_8, giI c11_10, giI c12_11, giI c13_6, giI c13_12, giI c14_0, giI c15_14, giI c16_13, giI c16_15, fun n16 => Lib.hid ((hK1 nb16).out.thn hk1 (fun s hs => .inr (by simp [bks] at hs; have := (hg1 d1 nb6 nb16).out.1; omega))), fun _ z _ => absurd (.inl rfl) z, fun p12 n16 => Lib.hid (⟨(hg3 (rlI p12) nb16).out.1, (hg3 (rlI p12) nb16).out.2.kp hk1 (by have := (hne d1 (rlI p12) nb6 nb16).out; simp [bks]; omega)⟩), fun _ _ z _ => absurd (.inl rfl) z, fun p6 n13 n16 => Lib.hid (⟨by rcases hA1 with rfl | rfl <;> intro s hs <;> simp [bks] at hs <;> (have := (hg1 d1 nb6 nb16).out.1; have := (hK1 nb16).out.size; omega), ho1.out⟩), fun p6 p12 n13 n16 => Lib.hid (by have h9 := (hne d1 (rlI p12) nb6 nb16).out; have h8 := (hg3 (rlI p12) nb16).out.2.lt; rcases hA1 with rfl | rfl <;> simp [bks] <;> omega), fun p13 n16 => Lib.hid (absurd (c13_6 (rlI p13)) hn), fun p16 => Lib.hid (absurd (c16_13 (rlI p16)) (fun z => hn (c13_6 z)))⟩
      | 7, ho =>
        injection ho with ho; subst ho
        have nb13 : ¬ b 13 := fun h => hn (c8_7 (c11_8 (c12_11 (c13_12 h))))
        have nb16 : ¬ b 16 := fun h => hn (c8_7 (c11_8 (c12_11 (c13_12 (c16_13 h)))))
        have HK := Lib.hid hK
        obtain ⟨sv3, sw3⟩ := ev_of s3
        clear hK hd
        rw [if_pos (by rfl)]
        go_simp
        exact HK.out _ _ ⟨g1, g2, A1, c1, A2, c2, Lib.hid ad.out, Lib.hid (gd_size.trans az.out), Lib.hid (fun k hk => (gd_ne (by rintro rfl; exact hk (by decide))).trans (af.out k hk)), gdI h0, gdI h1, gdI h2, gdI h3, gdI h4, gdI h5, gdI h6, fun _ => gd_eq (by rw [az.out, sz00]; decide), gdI h8, gdI h9, gdI h10, gdI h11, gdI h12, gdI h13, gdI h14, gdI h15, giI c3_2, giI c4_3, giI c5_4, giI c6_1, giI c6_5, giI c8_7, giI c10_9, giI c11_8, giI c11_10, giI c12_11, giI c13_6, giI c13_12, giI c14_0, giI c15_14, giI c16_13, giI c16_15, fun n16 => (hK1 (fun z => n16 (.inr z))), fun p1 n6 n16 => (hg1 (rlI p1) (fun z => n6 (.inr z)) (fun z => n16 (.inr z))), fun p12 n16 => absurd (c8_7 (c11_8 (c12_11 (rlI p12)))) hn, fun p1 p12 n6 n16 => absurd (c8_7 (c11_8 (c12_11 (rlI p12)))) hn, fun p6 n13 n16 => (hg2 (rlI p6) (fun z => n13 (.inr z)) (fun z => n16 (.inr z))), fun p6 p12 n13 n16 => absurd (c8_7 (c11_8 (c12_11 (rlI p12)))) hn, fun p13 n16 => absurd (c8_7 (c11_8 (c12_11 (c13_12 (rlI p13))))) hn, fun p16 => absurd (c8_7 (c11_8 (c12_11 (c13_12 (c16_13 (rlI p16)))))) hn⟩
      | 8, ho =>
        injection ho with ho; subst ho
        have nb13 : ¬ b 13 := fun h => hn (c11_8 (c12_11 (c13_12 h)))
        have nb16 : ¬ b 16 := fun h => hn (c11_8 (c12_11 (c13_12 (c16_13 h))))
        have d7 : b 7 := hd ⟨7, .data⟩ (by simp) rfl
        have HK := Lib.hid hK
        have e7 := h7 d7
        obtain ⟨ev7, ew7⟩ := ev_of e7
        have q := (HX0.out W (hK1 nb16).out).cell 2
        simp only [List.getElem?_cons_zero, List.getElem?_cons_succ] at q
        clear hK hd
        rw [if_pos (by rfl)]
        go_simp
        exact HK.out _ _ ⟨g1, g2, A1, c1, A2, c2, Lib.hid ad.out, Lib.hid (gd_size.trans az.out), Lib.hid (fun k hk => (gd_ne (by rintro rfl; exact hk (by decide))).trans (af.out k hk)), gdI h0, gdI h1, gdI h2, gdI h3, gdI h4, gdI h5, gdI h6, gdI h7, fun _ => gd_eq (by rw [az.out, sz00]; decide), gdI h9, gdI h10, gdI h11, gdI h12, gdI h13, gdI h14, gdI h15, giI c3_2, giI c4_3, giI c5_4, giI c6_1, giI c6_5, fun _ => .inr d7, giI c10_9, giI c11_8, giI c11_10, giI c12_11, giI c13_6, giI c13_12, giI c14_0, giI c15_14, giI c16_13, giI c16_15, fun n16 => (hK1 (fun z => n16 (.inr z))), fun p1 n6 n16 => (hg1 (rlI p1) (fun z => n6 (.inr z)) (fun z => n16 (.inr z))), fun p12 n16 => absurd (c11_8 (c12_11 (rlI p12))) hn, fun p1 p12 n6 n16 => absurd (c11_8 (c12_11 (rlI p12))) hn, fun p6 n13 n16 => (hg2 (rlI p6) (fun z => n13 (.inr z)) (fun z => n16 (.inr z))), fun p6 p12 n13 n16 => absurd (c11_8 (c12_11 (rlI p12))) hn, fun p13 n16 => absurd (c11_8 (c12_11 (c13_12 (rlI p13)))) hn, fun p16 => absurd (c11_8 (c12_11 (c13_12 (c16_13 (rlI p16))))) hn⟩
      | 9, ho =>
        injection ho with ho; subst ho
        have nb13 : ¬ b 13 := fun h => hn (c10_9 (c11_10 (c12_11 (c13_12 h))))
        have nb16 : ¬ b 16 := fun h => hn (c10_9 (c11_10 (c12_11 (c13_12 (c16_13 h)))))
        have HK := Lib.hid hK
        obtain ⟨sv3, sw3⟩ := ev_of s3
        clear hK hd
        rw [if_pos (by rfl)]
        go_simp
        exact HK.out _ _ ⟨g1, g2, A1, c1, A2, c2, Lib.hid ad.out, Lib.hid (gd_size.trans az.out), Lib.hid (fun k hk => (gd_ne (by rintro rfl; exact hk (by decide))).trans (af.out k hk)), gdI h0, gdI h1, gdI h2, gdI h3, gdI h4, gdI h5, gdI h6, gdI h7, gdI h8, fun _ => gd_eq (by rw [az.out, sz00]; decide), gdI h10, gdI h11, gdI h12, gdI h13, gdI h14, gdI h15, giI c3_2, giI c4_3, giI c5_4, giI c6_1, giI c6_5, giI c8_7, giI c10_9, giI c11_8, giI c11_10, giI c12_11, giI c13_6, giI c13_12, giI c14_0, giI c15_14, giI c16_13, giI c16_15, fun n16 => (hK1 (fun z => n16 (.inr z))), fun p1 n6 n16 => (hg1 (rlI p1) (fun z => n6 (.inr z)) (fun z => n16 (.inr z))), fun p12 n16 => absurd (c10_9 (c11_10 (c12_11 (rlI p12)))) hn, fun p1 p12 n6 n16 => absurd (c10_9 (c11_10 (c12_11 (rlI p12)))) hn, fun p6 n13 n16 => (hg2 (rlI p6) (fun z => n13 (.inr z)) (fun z => n16 (.inr z))), fun p6 p12 n13 n16 => absurd (c10_9 (c11_10 (c12_11 (rlI p12)))) hn, fun p13 n16 => absurd (c10_9 (c11_10 (c12_11 (c13_12 (rlI p13))))) hn, fun p16 => absurd (c10_9 (c11_10 (c12_11 (c13_12 (c16_13 (rlI p16)))))) hn⟩
      | 10, ho =>
        injection ho with ho; subst ho
        have nb13 : ¬ b 13 := fun h => hn (c11_10 (c12_11 (c13_12 h)))
        have nb16 : ¬ b 16 := fun h => hn (c11_10 (c12_11 (c13_12 (c16_13 h))))
        have d9 : b 9 := hd ⟨9, .data⟩ (by simp) rfl
        have HK := Lib.hid hK
        have e9 := h9 d9
        obtain ⟨ev9, ew9⟩ := ev_of e9
        have q := (HX0.out W (hK1 nb16).out).cell 4
        simp only [List.getElem?_cons_zero, List.getElem?_cons_succ] at q
        clear hK hd
        rw [if_pos (by rfl)]
        go_simp
        exact HK.out _ _ ⟨g1, g2, A1, c1, A2, c2, Lib.hid ad.out, Lib.hid (gd_size.trans az.out), Lib.hid (fun k hk => (gd_ne (by rintro rfl; exact hk (by decide))).trans (af.out k hk)), gdI h0, gdI h1, gdI h2, gdI h3, gdI h4, gdI h5, gdI h6, gdI h7, gdI h8, gdI h9, fun _ => gd_eq (by rw [az.out, sz00]; decide), gdI h11, gdI h12, gdI h13, gdI h14, gdI h15, giI c3_2, giI c4_3, giI c5_4, giI c6_1, giI c6_5, giI c8_7, fun _ => .inr d9, giI c11_8, giI c11_10, giI c12_11, giI c13_6, giI c13_12, giI c14_0, giI c15_14, giI c16_13, giI c16_15, fun n16 => (hK1 (fun z => n16 (.inr z))), fun p1 n6 n16 => (hg1 (rlI p1) (fun z => n6 (.inr z)) (fun z => n16 (.inr z))), fun p12 n16 => absurd (c11_10 (c12_11 (rlI p12))) hn, fun p1 p12 n6 n16 => absurd (c11_10 (c12_11 (rlI p12))) hn, fun p6 n13 n16 => (hg2 (rlI p6) (fun z => n13 (.inr z)) (fun z => n16 (.inr z))), fun p6 p12 n13 n16 => absurd (c11_10 (c12_11 (rlI p12))) hn, fun p13 n16 => absurd (c11_10 (c12_11 (c13_12 (rlI p13)))) hn, fun p16 => absurd (c11_10 (c12_11 (c13_12 (c16_13 (rlI p16))))) hn⟩
      | 11, ho =>
        injection ho with ho; subst ho
        have nb13 : ¬ b 13 := fun h => hn (c12_11 (c13_12 h))
        have nb16 : ¬ b 16 := fun h => hn (c12_11 (c13_12 (c16_13 h)))
        have d8 : b 8 := hd ⟨8, .data⟩ (by simp) rfl
        have d10 : b 10 := hd ⟨10, .data⟩ (by simp) rfl
        have HK := Lib.hid hK
        have e8 := h8 d8
        obtain ⟨ev8, ew8⟩ := ev_of e8
        have e10 := h10 d10
        obtain ⟨ev10, ew10⟩ := ev_of e10
        clear hK hd
        rw [if_pos (by rfl)]
        go_simp
        exact HK.out _ _ ⟨g1, g2, A1, c1, A2, c2, Lib.hid ad.out, Lib.hid (gd_size.trans az.out), Lib.hid (fun k hk => (gd_ne (by rintro rfl; exact hk (by decide))).trans (af.out k hk)), gdI h0, gdI h1, gdI h2, gdI h3, gdI h4, gdI h5, gdI h6, gdI h7, gdI h8, gdI h9, gdI h10, fun _ => gd_eq (by rw [az.out, sz00]; decide), gdI h12, gdI h13, gdI h14, gdI h15, giI c3_2, giI c4_3, giI c5_4, giI c6_1, giI c6_5, giI c8_7, giI c10_9, fun _ => .inr d8, fun _ => .inr d10, giI c12_11, giI c13_6, giI c13_12, giI c14_0, giI c15_14, giI c16_13, giI c16_15, fun n16 => (hK1 (fun z => n16 (.inr z))), fun p1 n6 n16 => (hg1 (rlI p1) (fun z => n6 (.inr z)) (fun z => n16 (.inr z))), fun p12 n16 => absurd (c12_11 (rlI p12)) hn, fun p1 p12 n6 n16 => absurd (c12_11 (rlI p12)) hn, fun p6 n13 n16 => (hg2 (rlI p6) (fun z => n13 (.inr z)) (fun z => n16 (.inr z))), fun p6 p12 n13 n16 => absurd (c12_11 (rlI p12)) hn, fun p13 n16 => absurd (c12_11 (c13_12 (rlI p13))) hn, fun p16 => absurd (c12_11 (c13_12 (c16_13 (rlI p16)))) hn⟩
      | 12, ho =>
        injection ho with ho; subst ho
        have nb13 : ¬ b 13 := fun h => hn (c13_12 h)
        have nb16 : ¬ b 16 := fun h => hn (c13_12 (c16_13 h))
        have d11 : b 11 := hd ⟨11, .data⟩ (by simp) rfl
        have HK := Lib.hid hK
        have e11 := h11 d11
        obtain ⟨ev11, ew11⟩ := ev_of e11
        clear hK hd
        rw [if_pos (by rfl)]
        go_simp
        exact HK.out _ _ ⟨g1, W.heap.size, A1, c1, A2, c2, Lib.hid ad.out, Lib.hid (gd_size.trans az.out), Lib.hid (fun k hk => (gd_ne (by rintro rfl; exact hk (by decide))).trans (af.out k hk)), gdI h0, gdI h1, gdI h2, gdI h3, gdI h4, gdI h5, gdI h6, gdI h7, gdI h8, gdI h9, gdI h10, gdI h11, fun _ => gd_eq (by rw [az.out, sz00]; decide), gdI h13, gdI h14, gdI h15, giI c3_2, giI c4_3, giI c5_4, giI c6_1, giI c6_5, giI c8_7, giI c10_9, giI c11_8, giI c11_10, fun _ => .inr d11, giI c13_6, giI c13_12, giI c14_0, giI c15_14, giI c16_13, giI c16_15, fun n16 => Lib.hid (((hK1 (fun z => n16 (.inr z))).out).trans ((Kp.refl [] W).alloc _)), fun p1 n6 n16 => Lib.hid (⟨((hg1 (rlI p1) (fun z => n6 (.inr z)) (fun z => n16 (.inr z))).out).1, ((hg1 (rlI p1) (fun z => n6 (.inr z)) (fun z => n16 (.inr z))).out).2.kp ((Kp.refl [] W).alloc _) (by simp)⟩), fun p12 n16 => Lib.hid (⟨(hK1 nb16).out.size, (Bk.newAt rfl _ _).cast rfl⟩), fun p1 p12 n6 n16 => Lib.hid (fun e => by have := (hg1 (rlI p1) (fun z => n6 (.inr z)) nb16).out.2.lt g1 (by simp [bks]); omega), fun p6 n13 n16 => Lib.hid (⟨((hg2 (rlI p6) (fun z => n13 (.inr z)) (fun z => n16 (.inr z))).out).1, ((hg2 (rlI p6) (fun z => n13 (.inr z)) (fun z => n16 (.inr z))).out).2.kp ((Kp.refl [] W).alloc _) (by simp)⟩), fun p6 p12 n13 n16 => Lib.hid (fun hm => by have := (hg2 (rlI p6) (fun z => n13 (.inr z)) nb16).out.2.lt _ hm; omega), fun p13 n16 => absurd (c13_12 (rlI p13)) hn, fun p16 => absurd (c13_12 (c16_13 (rlI p16))) hn⟩
      | 13, ho =>
        injection ho with ho; subst ho
        have nb13 := hn
        have nb16 : ¬ b 16 := fun h => hn (c16_13 h)
        have d6 : b 6 := hd ⟨6, .data⟩ (by simp) rfl
        have d12 : b 12 := hd ⟨12, .data⟩ (by simp) rfl
        have HK := Lib.hid hK
        have e6 := h6 d6
        obtain ⟨ev6, ew6⟩ := ev_of e6
        have e12 := h12 d12
        obtain ⟨ev12, ew12⟩ := ev_of e12
        clear hK hd
        rw [if_pos (by rfl)]
        refine wp_app _ (.tmp 152) (.tmp 158) 72 rfl elt_mw A1 d.ln.length c1 _ ev6 (hg2 d6 nb13 nb16).out.2 [] (some ⟨g2, 0, none⟩) 1 1 (mwV ⟨a, l⟩) ev12 (Rd.of_bk (hg3 d12 nb16).out.2 (by simp)) rfl (by intro u hu; simp [mwV] at hu; rcases hu with rfl | rfl <;> rfl) (by omega) (fun A2' c2' w2' ho2 hk2 hA2 => ?_)
        have ho2 := Lib.hid ho2
        exact HK.out _ _ ⟨g1, g2, A1, c1, A2', c2', Lib.hid ad.out, Lib.hid (gd_size.trans az.out), Lib.hid (fun k hk => (gd_ne (by rintro rfl; exact hk (by decide))).trans (af.out k hk)), gdI h0, gdI h1, gdI h2, gdI h3, gdI h4, gdI h5, gdI h6, gdI h7, gdI h8, gdI h9, gdI h10, gdI h11, gdI h12, fun _ => gd_eq (by rw [az.out, sz00]; decide), gdI h14, gdI h15, giI c3_2, giI c4_3, giI c5_4, giI c6_1, giI c6_5, giI c8_7, giI c10_9, giI c11_8, giI c11_10, giI c12_11, fun _ => .inr d6, fun _ => .inr d12, giI c14_0, giI c15_14, giI c16_13, giI c16_15, fun n16 => Lib.hid ((hK1 nb16).out.thn hk2 (fun s hs => .inr ((hg2 d6 nb13 nb16).out.1 s hs))), fun p1 n6 n16 => Lib.hid (absurd d6 (fun z => n6 (.inr z))), fun p12 n16 => Lib.hid (⟨(hg3 (rlI p12) nb16).out.1, (hg3 (rlI p12) nb16).out.2.kp hk2 (hne2 d6 d12 nb13 nb16).out⟩), fun p1 p12 n6 n16 => Lib.hid (absurd d6 (fun z => n6 (.inr z))), fun _ z _ => absurd (.inl rfl) z, fun _ _ z _ => absurd (.inl rfl) z, fun p13 n16 => Lib.hid (⟨by rcases hA2 with rfl | rfl; exact (hg2 d6 nb13 nb16).out.1; (intro s hs; simp [bks] at hs; have := (hK1 nb16).out.size; omega), ho2.out⟩), fun p16 => Lib.hid (absurd (c16_13 (rlI p16)) hn)⟩
      | 14, ho =>
        injection ho with ho; subst ho
        have nb16 : ¬ b 16 := fun h => hn (c15_14 (c16_15 h))
        have d0 : b 0 := hd ⟨0, .data⟩ (by simp) rfl
        have HK := Lib.hid hK
        have e0 := h0 d0
        obtain ⟨ev0, ew0⟩ := ev_of e0
        clear hK hd
        rw [if_pos (by rfl)]
        go_simp
        exact HK.out _ _ ⟨g1, g2, A1, c1, A2, c2, Lib.hid ad.out, Lib.hid (gd_size.trans az.out), Lib.hid (fun k hk => (gd_ne (by rintro rfl; exact hk (by decide))).trans (af.out k hk)), gdI h0, gdI h1, gdI h2, gdI h3, gdI h4, gdI h5, gdI h6, gdI h7, gdI h8, gdI h9, gdI h10, gdI h11, gdI h12, gdI h13, fun _ => gd_eq (by rw [az.out, sz00]; decide), gdI h15, giI c3_2, giI c4_3, giI c5_4, giI c6_1, giI c6_5, giI c8_7, giI c10_9, giI c11_8, giI c11_10, giI c12_11, giI c13_6, giI c13_12, fun _ => .inr d0, giI c15_14, giI c16_13, giI c16_15, fun n16 => (hK1 (fun z => n16 (.inr z))), fun p1 n6 n16 => (hg1 (rlI p1) (fun z => n6 (.inr z)) (fun z => n16 (.inr z))), fun p12 n16 => (hg3 (rlI p12) (fun z => n16 (.inr z))), fun p1 p12 n6 n16 => (hne (rlI p1) (rlI p12) (fun z => n6 (.inr z)) (fun z => n16 (.inr z))), fun p6 n13 n16 => (hg2 (rlI p6) (fun z => n13 (.inr z)) (fun z => n16 (.inr z))), fun p6 p12 n13 n16 => (hne2 (rlI p6) (rlI p12) (fun z => n13 (.inr z)) (fun z => n16 (.inr z))), fun p13 n16 => (hgF (rlI p13) (fun z => n16 (.inr z))), fun p16 => absurd (c15_14 (c16_15 (rlI p16))) hn⟩
      | 15, ho =>
        injection ho with ho; subst ho
        have nb16 : ¬ b 16 := fun h => hn (c16_15 h)
        have d14 : b 14 := hd ⟨14, .data⟩ (by simp) rfl
        have HK := Lib.hid hK
        have e14 := h14 d14
        obtain ⟨ev14, ew14⟩ := ev_of e14
        clear hK hd
        rw [if_pos (by rfl)]
        go_simp
        exact HK.out _ _ ⟨g1, g2, A1, c1, A2, c2, Lib.hid ad.out, Lib.hid (gd_size.trans az.out), Lib.hid (fun k hk => (gd_ne (by rintro rfl; exact hk (by decide))).trans (af.out k hk)), gdI h0, gdI h1, gdI h2, gdI h3, gdI h4, gdI h5, gdI h6, gdI h7, gdI h8, gdI h9, gdI h10, gdI h11, gdI h12, gdI h13, gdI h14, fun _ => gd_eq (by rw [az.out, sz00]; decide), giI c3_2, giI c4_3, giI c5_4, giI c6_1, giI c6_5, giI c8_7, giI c10_9, giI c11_8, giI c11_10, giI c12_11, giI c13_6, giI c13_12, giI c14_0, fun _ => .inr d14, giI c16_13, giI c16_15, fun n16 => (hK1 (fun z => n16 (.inr z))), fun p1 n6 n16 => (hg1 (rlI p1) (fun z => n6 (.inr z)) (fun z => n16 (.inr z))), fun p12 n16 => (hg3 (rlI p12) (fun z => n16 (.inr z))), fun p1 p12 n6 n16 => (hne (rlI p1) (rlI p12) (fun z => n6 (.inr z)) (fun z => n16 (.inr z))), fun p6 n13 n16 => (hg2 (rlI p6) (fun z => n13 (.inr z)) (fun z => n16 (.inr z))), fun p6 p12 n13 n16 => (hne2 (rlI p6) (rlI p12) (fun z => n13 (.inr z)) (fun z => n16 (.inr z))), fun p13 n16 => (hgF (rlI p13) (fun z => n16 (.inr z))), fun p16 => absurd (c16_15 (rlI p16)) hn⟩
      | 16, ho =>
        injection ho with ho; subst ho
        have nb16 := hn
        have d13 : b 13 := hd ⟨13, .data⟩ (by simp) rfl
        have d15 : b 15 := hd ⟨15, .data⟩ (by simp) rfl
        have HK := Lib.hid hK
        have e13 := h13 d13
        obtain ⟨ev13, ew13⟩ := ev_of e13
        have e15 := h15 d15
        obtain ⟨ev15, ew15⟩ := ev_of e15
        obtain ⟨z1, z2⟩ := (hgF d13 nb16).out
        have zk := (hK1 nb16).out
        have zb := HW0.out W zk
        have zl := zb.lt
        have zf := zb.frozen 2
        have zc := zb.cell 2
        simp only [List.getElem?_cons_zero, List.getElem?_cons_succ] at zc
        clear hK hd
        rw [if_pos (by rfl)]
        go_simp
        exact HK.out _ _ ⟨g1, g2, A1, c1, A2, c2, ad, az, af, fun h => h0 (rlI h), fun h => h1 (rlI h), fun h => h2 (rlI h), fun h => h3 (rlI h), fun h => h4 (rlI h), fun h => h5 (rlI h), fun h => h6 (rlI h), fun h => h7 (rlI h), fun h => h8 (rlI h), fun h => h9 (rlI h), fun h => h10 (rlI h), fun h => h11 (rlI h), fun h => h12 (rlI h), fun h => h13 (rlI h), fun h => h14 (rlI h), fun h => h15 (rlI h), giI c3_2, giI c4_3, giI c5_4, giI c6_1, giI c6_5, giI c8_7, giI c10_9, giI c11_8, giI c11_10, giI c12_11, giI c13_6, giI c13_12, giI c14_0, giI c15_14, fun _ => .inr d13, fun _ => .inr d15, fun  z => absurd (.inl rfl) z, fun _ _ z => absurd (.inl rfl) z, fun _ z => absurd (.inl rfl) z, fun _ _ _ z => absurd (.inl rfl) z, fun _ _ z => absurd (.inl rfl) z, fun _ _ _ z => absurd (.inl rfl) z, fun _ z => absurd (.inl rfl) z, fun p16 => Lib.hid (⟨W, (hK1 nb16).out, (hgF d13 nb16).out.2, (hgF d13 nb16).out.1, rfl⟩)⟩
      | (n + 17), ho => exact absurd ho (by simp)
    · intro b a' W hb hI
      obtain ⟨g1, g2, A1, c1, A2, c2, ad, az, af, h0, h1, h2, h3, h4, h5, h6, h7, h8, h9, h10, h11, h12, h13, h14, h15, c3_2, c4_3, c5_4, c6_1, c6_5, c8_7, c10_9, c11_8, c11_10, c12_11, c13_6, c13_12, c14_0, c15_14, c16_13, c16_15, hK1, hg1, hg3, hne, hg2, hne2, hgF, hFin⟩ := hI
      clear hK1
      clear hg1
      clear hg3
      clear hne
      clear hg2
      clear hne2
      clear hgF
      have hFin := hFin (hb 16 (by decide))
      have ha := act_of (L := [(146, .pointer (some ⟨bD, 0, none⟩)), (147, .slice (some ⟨g1, 0, none⟩) 0 0), (148, .pointer (some ⟨bD, 0, none⟩)), (149, .pointer (some ⟨bD, 0, none⟩)), (150, .pointer (some ⟨bD, 2, none⟩)), (151, .slice A d.ln.length c), (152, .slice A1 d.ln.length c1), (153, .pointer (some ⟨gx, 2, none⟩)), (154, .int .i64 a), (155, .pointer (some ⟨gx, 4, none⟩)), (156, .string (S l)), (157, .agg #[.int .i64 a, .string (S l)]), (158, .slice (some ⟨g2, 0, none⟩) 1 1), (159, .slice A2 (d.ln.length + 1) c2), (160, .pointer (some ⟨bD, 0, none⟩)), (161, .pointer (some ⟨bD, 2, none⟩))]) (show ([146, 147, 148, 149, 150, 151, 152, 153, 154, 155, 156, 157, 158, 159, 160, 161] : List Nat).Nodup by decide) ad.out az.out af.out (by
        intro p hp
        rw [sz00]
        simp only [List.mem_cons, List.not_mem_nil, or_false] at hp
        rcases hp with rfl | rfl | rfl | rfl | rfl | rfl | rfl | rfl | rfl | rfl | rfl | rfl | rfl | rfl | rfl | rfl
        · exact ⟨show 146 < 205 by decide, h0 (hb 0 (by decide))⟩
        · exact ⟨show 147 < 205 by decide, h1 (hb 1 (by decide))⟩
        · exact ⟨show 148 < 205 by decide, h2 (hb 2 (by decide))⟩
        · exact ⟨show 149 < 205 by decide, h3 (hb 3 (by decide))⟩
        · exact ⟨show 150 < 205 by decide, h4 (hb 4 (by decide))⟩
        · exact ⟨show 151 < 205 by decide, h5 (hb 5 (by decide))⟩
        · exact ⟨show 152 < 205 by decide, h6 (hb 6 (by decide))⟩
        · exact ⟨show 153 < 205 by decide, h7 (hb 7 (by decide))⟩
        · exact ⟨show 154 < 205 by decide, h8 (hb 8 (by decide))⟩
        · exact ⟨show 155 < 205 by decide, h9 (hb 9 (by decide))⟩
        · exact ⟨show 156 < 205 by decide, h10 (hb 10 (by decide))⟩
        · exact ⟨show 157 < 205 by decide, h11 (hb 11 (by decide))⟩
        · exact ⟨show 158 < 205 by decide, h12 (hb 12 (by decide))⟩
        · exact ⟨show 159 < 205 by decide, h13 (hb 13 (by decide))⟩
        · exact ⟨show 160 < 205 by decide, h14 (hb 14 (by decide))⟩
        · exact ⟨show 161 < 205 by decide, h15 (hb 15 (by decide))⟩
        )
      rw [HA00.out] at ha
      simp only [List.foldl_cons, List.foldl_nil, Act.put, List.setIfInBounds_toArray, List.set_cons_zero, List.set_cons_succ] at ha
      clear h0 h1 h2 h3 h4 h5 h6 h7 h8 h9 h10 h11 h12 h13 h14 h15 c3_2 c4_3 c5_4 c6_1 c6_5 c8_7 c10_9 c11_8 c11_10 c12_11 c13_6 c13_12 c14_0 c15_14 c16_13 c16_15 hb ad az af HA00 sz00 sl0 sl3
      subst ha
      obtain ⟨W9, z1, z2, z3, rfl⟩ := hFin.out
      clear hFin
      go_wp2
      exact FinW.out _ _ _ z1 z2 (fun s hs => by have := z3 s hs; omega)
end
end
/-! ### The document's table: New, FreeCount. -/
section
open Go.RowKit
set_option linter.unusedVariables false
set_option linter.unusedSimpArgs false
set_option maxRecDepth 100000
section
variable {R : Ending → World → Prop} {bM bO bH bB : Nat} {fs : List Fr} {w : World}
theorem elt_int : Elt Tryz.prog 71 3 (.int .i64 0) 1 8 := ⟨Tryz.underlying71, by kernel_rfl, rfl, by decide, by decide⟩
theorem elt_str : Elt Tryz.prog 63 9 (.string ByteArray.empty) 1 16 := ⟨Tryz.underlying63, by kernel_rfl, rfl, by decide, by decide⟩
def zB : List UInt8 := List.replicate 256 0
set_option maxHeartbeats 800000 in
theorem blank_any (w : World) (h : ∀ w', Kp [] w w' → R (.returned (.string (S zB))) w') : Calls Tryz.prog 93 #[] w R := by
  have H := Lib.hid h
  clear h
  obtain ⟨i0, hi, hz0, hz1, hz2⟩ := info_parts elt_u8.2.1
  have hmk := fun W => run_make (P := Tryz.prog) W 37 5 i0 _ Tryz.underlying37 hi hz0 .i64 .i64 256 256 (by omega) (by omega) (by rw [hz2]; omega) (by omega)
  simp only [Value.cells, hz1] at hmk
  clear hi hz0 hz1 hz2
  have e : (madeCells #[Value.int .u8 0] (256 * 1)).toList = bts zB := by kernel_rfl
  have hb : Bk (w.alloc (.cells (madeCells #[Value.int .u8 0] (256 * 1)) 5)) w.heap.size 5 (bts zB) := (Bk.newAt rfl _ _).cast e
  have hcv := conv_bs (c := 256) (n := 256) (N := []) (l := zB) (Rd.of_bk hb (by simp)) rfl
  clear hb e
  go_enter Tryz.func93, Tryz.ntmps93
  go_wp2
  exact H.out _ ((Kp.refl _ _).alloc _)
def zI (k : Nat) : List Value := List.replicate k (.int .i64 0)
def zS (k : Nat) : List Value := List.replicate k (.string (S zB))
theorem zI_succ (k : Nat) : zI k ++ [.int .i64 0] = zI (k + 1) := by simp [zI, List.replicate_succ']
theorem zS_succ (k : Nat) : zS k ++ [.string (S zB)] = zS (k + 1) := by simp [zS, List.replicate_succ']
set_option maxHeartbeats 2000000 in
theorem rnew_any (n : Nat) (h1 : 1 ≤ n) (h2 : n ≤ 256) (h : ∀ bM bO bH bB w', w.heap.size ≤ bM → w.heap.size ≤ bO → w.heap.size ≤ bH → w.heap.size ≤ bB → Kp [] w w' → RT w' bM bO bH bB (List.replicate n fz) → R (.returned (.pointer (some ⟨bM, 0, none⟩))) w') :
    Calls Tryz.prog 45 #[.int .i64 n] w R := by
  have H := Lib.hid h
  clear h
  go_enter Tryz.func45, Tryz.ntmps45
  go_wp2
  have hb : Bk (w.alloc (.cells #[.slice none 0 0, .slice none 0 0, .slice none 0 0] 157)) w.heap.size 157 [.slice none 0 0, .slice none 0 0, .slice none 0 0] := Bk.newAt rfl _ _
  have k1 : Kp [] w (w.alloc (.cells #[.slice none 0 0, .slice none 0 0, .slice none 0 0] 157)) := (Kp.refl _ _).alloc _
  obtain ⟨g, hg⟩ : ∃ g, w.heap.size = g := ⟨_, rfl⟩
  rw [hg] at hb ⊢
  generalize w.alloc (.cells #[.slice none 0 0, .slice none 0 0, .slice none 0 0] 157) = w1 at *
  go_loopw [4] (fun iv wr => ∃ (k : Nat) (A0 A1 A2 : Option Addr) (c0 c1 c2 : Nat), k ≤ n ∧ iv = .int .i64 k ∧ Bk wr g 157 [.slice A0 k c0, .slice A1 k c1, .slice A2 k c2] ∧ Ow wr 3 1 A0 k c0 (zI k) ∧ Ow wr 3 1 A1 k c1 (zI k) ∧ Ow wr 9 1 A2 k c2 (zS k) ∧ (∀ b ∈ bks A0, g < b ∧ b ∉ bks A1 ∧ b ∉ bks A2) ∧ (∀ b ∈ bks A1, g < b ∧ b ∉ bks A2) ∧ (∀ b ∈ bks A2, g < b) ∧ Kp [] w wr) (fun iv _ => n - (intOf iv).toNat)
  case atStart => exact ⟨0, none, none, none, 0, 0, 0, Nat.zero_le _, rfl, hb, Ow.nil, Ow.nil, Ow.nil, by simp [bks], by simp [bks], by simp [bks], k1⟩
  case round =>
    obtain ⟨k, A0, A1, A2, c0, c1, c2, hk, rfl, hb, ho0, ho1, ho2, hA0, hA1, hA2, kr⟩ := hrel
    by_cases hlt : k < n
    · have f0 := hb.cell 0
      simp only [List.getElem?_cons_zero] at f0
      have f0a := fun o => (hb.alloc o).cell 0
      simp only [List.getElem?_cons_zero] at f0a
      go_upto_region 6 with (at_builtin; refine wpList_app _ rfl (.tmp 16) (.tmp 17) _ rfl elt_int A0 k c0 _ rfl (ho0.alloc _) [] (some ⟨wr.heap.size, 0, none⟩) 1 1 [.int .i64 0] rfl (Rd.of_bk (Bk.newAt rfl _ _) (by simp)) rfl (by simp [Value.oneCell']) (by omega) ?_; intro A5 d0 w5 ho5 hk5 hA5; have hb5 := (hb.alloc (.cells #[.int .i64 0] 3)).kp hk5 (fun hm => Nat.lt_irrefl _ (hA0 _ hm).1); have z5 := hb5.frozen 0; have y5 := hb5.cell 0; simp only [List.getElem?_cons_zero] at y5)
      have hb6 := hb5.set_ 0 (.slice A5 (k + 1) d0)
      have krs := kr.size
      have kp6 : Kp (g :: bks A0) wr (w5.setCell ⟨g, 0, none⟩ (.slice A5 (k + 1) d0)) := ((((Kp.refl _ wr).alloc (.cells #[.int .i64 0] 3)).thn hk5 (fun s hs => .inl (List.mem_cons_of_mem _ hs)))).setCell (.inl (by simp)) _
      have gA0 : ∀ b ∈ bks A0, g < b := fun b h => (hA0 b h).1
      have gA1 : ∀ b ∈ bks A1, g < b := fun b h => (hA1 b h).1
      have gA2 : ∀ b ∈ bks A2, g < b := hA2
      have d01 : ∀ b ∈ bks A0, b ∉ bks A1 := fun b h => (hA0 b h).2.1
      have d02 : ∀ b ∈ bks A0, b ∉ bks A2 := fun b h => (hA0 b h).2.2
      have d12 : ∀ b ∈ bks A1, b ∉ bks A2 := fun b h => (hA1 b h).2
      have hb0 : g < wr.heap.size := hb.lt
      have lt1 := ho1.lt
      have lt2 := ho2.lt
      have gA5 : ∀ b ∈ bks A5, g < b ∧ b ∉ bks A1 ∧ b ∉ bks A2 := fun b hm => by
        rcases hA5 with rfl | rfl
        · exact ⟨gA0 b hm, d01 b hm, d02 b hm⟩
        · simp [bks] at hm; subst hm
          exact ⟨by omega, fun h => by have := lt1 _ h; omega, fun h => by have := lt2 _ h; omega⟩
      have ho1' := ho1.kp kp6 (fun b h1 h2 => (List.mem_cons.1 h2).elim (fun e => by have := gA1 b h1; omega) (fun h => d01 b h h1))
      have ho2' := ho2.kp kp6 (fun b h1 h2 => (List.mem_cons.1 h2).elim (fun e => by have := gA2 b h1; omega) (fun h => d02 b h h1))
      have ho0' := (ho5.kp ((Kp.refl [g] w5).setCell (p := ⟨g, 0, none⟩) (.inl (by simp)) (.slice A5 (k + 1) d0)) (fun b hm h2 => by have := (gA5 b hm).1; simp at h2; omega)).cast rfl (zI_succ k)
      have kr6 : Kp [] w (w5.setCell ⟨g, 0, none⟩ (.slice A5 (k + 1) d0)) := kr.thn kp6 (fun s hs => .inr ((List.mem_cons.1 hs).elim (fun e => by omega) (fun h => by have := gA0 s h; omega)))
      clear hb ho0 ho1 ho2 hb5 z5 y5 f0 f0a ho5 hA0 hA1 hA2 kr krs d01 d02 hA5 hk5 kp6 lt1 lt2 hb0
      generalize w5.setCell ⟨g, 0, none⟩ (.slice A5 (k + 1) d0) = w6 at *
      simp only [List.set_cons_zero] at hb6
      have f1 := fun o => (hb6.alloc o).cell 1
      have f1' := hb6.cell 1
      simp only [List.getElem?_cons_zero, List.getElem?_cons_succ] at f1 f1'
      go_upto_region 7 with (at_builtin; refine wpList_app _ rfl (.tmp 25) (.tmp 26) _ rfl elt_int A1 k c1 _ rfl (ho1'.alloc _) [] (some ⟨w6.heap.size, 0, none⟩) 1 1 [.int .i64 0] rfl (Rd.of_bk (Bk.newAt rfl _ _) (by simp)) rfl (by simp [Value.oneCell']) (by omega) ?_; intro A7 d1 w7 ho7 hk7 hA7; have hb7 := (hb6.alloc (.cells #[.int .i64 0] 3)).kp hk7 (fun hm => Nat.lt_irrefl _ (gA1 _ hm)); have z7 := hb7.frozen 1; have y7 := hb7.cell 1; simp only [List.getElem?_cons_zero, List.getElem?_cons_succ] at y7)
      have hb8 := hb7.set_ 1 (.slice A7 (k + 1) d1)
      have krs := kr6.size
      have kp8 : Kp (g :: bks A1) w6 (w7.setCell ⟨g, 1, none⟩ (.slice A7 (k + 1) d1)) := ((((Kp.refl _ w6).alloc (.cells #[.int .i64 0] 3)).thn hk7 (fun s hs => .inl (List.mem_cons_of_mem _ hs)))).setCell (.inl (by simp)) _
      have hb0 : g < w6.heap.size := hb6.lt
      have lt0 := ho0'.lt
      have lt2 := ho2'.lt
      have gA7 : ∀ b ∈ bks A7, g < b ∧ b ∉ bks A5 ∧ b ∉ bks A2 := fun b hm => by
        rcases hA7 with rfl | rfl
        · exact ⟨gA1 b hm, fun h => (gA5 b h).2.1 hm, d12 b hm⟩
        · simp [bks] at hm; subst hm
          exact ⟨by omega, fun h => by have := lt0 _ h; omega, fun h => by have := lt2 _ h; omega⟩
      have ho1'' := (ho7.kp ((Kp.refl [g] w7).setCell (p := ⟨g, 1, none⟩) (.inl (by simp)) (.slice A7 (k + 1) d1)) (fun b hm h2 => by have := (gA7 b hm).1; simp at h2; omega)).cast rfl (zI_succ k)
      have ho2'' := ho2'.kp kp8 (fun b h1 h2 => (List.mem_cons.1 h2).elim (fun e => by have := gA2 b h1; omega) (fun h => d12 b h h1))
      have ho0'' := ho0'.kp kp8 (fun b h1 h2 => (List.mem_cons.1 h2).elim (fun e => by have := (gA5 b h1).1; omega) (fun h => (gA5 b h1).2.1 h))
      have kr8 : Kp [] w (w7.setCell ⟨g, 1, none⟩ (.slice A7 (k + 1) d1)) := kr6.thn kp8 (fun s hs => .inr ((List.mem_cons.1 hs).elim (fun e => by omega) (fun h => by have := gA1 s h; omega)))
      clear hb6 ho1' ho2' ho0' hb7 z7 y7 f1 f1' ho7 kr6 krs hA7 hk7 kp8 lt0 lt2 hb0
      generalize w7.setCell ⟨g, 1, none⟩ (.slice A7 (k + 1) d1) = w8 at *
      simp only [List.set_cons_zero, List.set_cons_succ] at hb8
      have gA5' : ∀ b ∈ bks A5, g < b := fun b h => (gA5 b h).1
      have d57 : ∀ b ∈ bks A5, b ∉ bks A7 := fun b h h2 => (gA7 b h2).2.1 h
      have d52 : ∀ b ∈ bks A5, b ∉ bks A2 := fun b h => (gA5 b h).2.2
      have gA7' : ∀ b ∈ bks A7, g < b := fun b h => (gA7 b h).1
      have d72 : ∀ b ∈ bks A7, b ∉ bks A2 := fun b h => (gA7 b h).2.2
      clear gA5 gA7 gA0 gA1 d12
      have HB8 := Lib.hid hb8
      have HO2 := Lib.hid ho2''
      have f2 := hb8.drew.cell 2
      have f2a := fun o => (hb8.drew.alloc o).cell 2
      simp only [List.getElem?_cons_zero, List.getElem?_cons_succ] at f2 f2a
      go_wp2
      go_region_law (first | (go_simp; go_at_call 93; (refine blank_any _ ?_); intro w9 k9; have f9 := (HB8.out.drew.kp k9 (by simp)).cell 2; have f9a := fun o => ((HB8.out.drew.kp k9 (by simp)).alloc o).cell 2; simp only [List.getElem?_cons_zero, List.getElem?_cons_succ] at f9 f9a) | (refine step_app rfl (.tmp 34) (.tmp 36) _ rfl elt_str A2 k c2 _ (by simp [Act.eval, Act.put]) ((HO2.out.drew.kp k9 (by simp)).alloc _) [] (some ⟨w9.heap.size, 0, none⟩) 1 1 [.string (S zB)] (by simp [Act.eval, Act.put]) (Rd.of_bk (Bk.newAt rfl _ _) (by simp)) rfl (by simp [Value.oneCell']) (by omega) ?_; intro A10 d2 w10 ho10 hk10 hA10; have hb10 := ((HB8.out.drew.kp k9 (by simp)).alloc (.cells #[.string (S zB)] 9)).kp hk10 (fun hm => Nat.lt_irrefl _ (gA2 _ hm)); have z10 := hb10.frozen 2; have y10 := hb10.cell 2; simp only [List.getElem?_cons_zero, List.getElem?_cons_succ] at y10))
      all_goals
        have hb12 := hb10.set_ 2 (.slice A10 (k + 1) d2)
        have kp10 : Kp (g :: bks A2) w8 w10 := (((Kp.refl _ w8).drew.trans (k9.mono (by simp))).alloc _).thn hk10 (fun s hs => .inl (List.mem_cons_of_mem _ hs))
        have kp12 : Kp (g :: bks A2) w8 (w10.setCell ⟨g, 2, none⟩ (.slice A10 (k + 1) d2)) := kp10.setCell (.inl (by simp)) _
        have krs := kr8.size
        have k89 : w8.heap.size ≤ w9.heap.size := k9.size
        have hb0 : g < w8.heap.size := hb8.lt
        have lt0 := ho0''.lt
        have lt1 := ho1''.lt
        have gA10 : ∀ b ∈ bks A10, g < b ∧ b ∉ bks A5 ∧ b ∉ bks A7 := fun b hm => by
          rcases hA10 with rfl | rfl
          · exact ⟨gA2 b hm, fun h => d52 b h hm, fun h => d72 b h hm⟩
          · simp [bks] at hm; subst hm
            exact ⟨by omega, fun h => by have := lt0 _ h; omega, fun h => by have := lt1 _ h; omega⟩
        have q0 := ho0''.kp kp12 (fun b h1 h2 => (List.mem_cons.1 h2).elim (fun e => by have := gA5' b h1; omega) (fun h => d52 b h1 h))
        have q1 := ho1''.kp kp12 (fun b h1 h2 => (List.mem_cons.1 h2).elim (fun e => by have := gA7' b h1; omega) (fun h => d72 b h1 h))
        have q2 := (ho10.kp ((Kp.refl [g] w10).setCell (p := ⟨g, 2, none⟩) (.inl (by simp)) (.slice A10 (k + 1) d2)) (fun b hm h2 => by have := (gA10 b hm).1; simp at h2; omega)).cast rfl (zS_succ k)
        have kr12 := kr8.thn kp12 (fun s hs => .inr ((List.mem_cons.1 hs).elim (fun e => by omega) (fun h => by have := gA2 s h; omega)))
        simp only [List.set_cons_zero, List.set_cons_succ] at hb12
        go_wp2
        exact ⟨⟨k + 1, A5, A7, A10, d0, d1, d2, by omega, by go_num, hb12, q0, q1, q2, fun b h => ⟨gA5' b h, d57 b h, fun h2 => (gA10 b h2).2.1 h⟩, fun b h => ⟨gA7' b h, fun h2 => (gA10 b h2).2.2 h⟩, fun b h => (gA10 b h).1, kr12⟩, by simp [intOf]; omega⟩
    · obtain rfl : k = n := by omega
      obtain ⟨bO, rfl, t0⟩ := ho0.tw h1
      obtain ⟨bH, rfl, t1⟩ := ho1.tw h1
      obtain ⟨bB, rfl, t2⟩ := ho2.tw h1
      have g0 := (hA0 bO (by simp [bks])).1
      have g1 := (hA1 bH (by simp [bks])).1
      have g2 := hA2 bB (by simp [bks])
      have hne : bO ≠ bH := by have := (hA0 bO (by simp [bks])).2.1; simpa [bks] using this
      have hrt : RT wr g bO bH bB (List.replicate k fz) := ⟨⟨c0, c1, c2, by rw [List.length_replicate]; exact hb⟩, t0.cast (by simp [zI, owV, fz]), t1.cast (by simp [zI, hoV, fz]), t2.cast (by simp [zS, bsV, fz, zB]), hne, by simpa using h2⟩
      go_wp2
      exact H.out g bO bH bB _ (by omega) (by omega) (by omega) (by omega) kr hrt
set_option maxHeartbeats 800000 in
theorem rcount_any (hT : RT w bM bO bH bB fs) (h : R (.returned (.int .i64 (tCount fs))) w) :
    Calls Tryz.prog 69 #[.pointer (some ⟨bM, 0, none⟩)] w R := by
  have hn := hT.n1
  obtain ⟨c0, c1, c2, ht⟩ := hT.t
  have f0 := ht.cell 0
  simp only [List.getElem?_cons_zero] at f0
  have H := Lib.hid h
  have HT := Lib.hid hT
  clear h ht hT
  go_enter Tryz.func69, Tryz.ntmps69
  go_wp2
  go_loop [3, 4] (fun c i => ∃ k : Nat, k ≤ fs.length ∧ i = .int .i64 k ∧ c = .int .i64 (tCount (fs.take k))) (fun _ i => fs.length - (intOf i).toNat)
  case atStart => exact ⟨0, Nat.zero_le _, rfl, rfl⟩
  case round =>
    obtain ⟨k, hk, rfl, rfl⟩ := hrel
    have hq : tCount (fs.take k) ≤ k := Nat.le_trans (tCount_le _) (List.length_take_le _ _)
    by_cases hlt : k < fs.length
    · have hs := tCount_snoc hlt
      obtain ⟨x, hx⟩ : ∃ x, fs[k]? = some x := ⟨_, List.getElem?_eq_getElem hlt⟩
      have c0 := HT.out.ow hx
      have e : tOwner fs k = x.ow := by unfold tOwner fat; rw [if_pos (by omega), Int.toNat_natCast, hx]
      rw [e] at hs
      have HS := Lib.hid hs
      clear hs e
      by_cases h0 : x.ow = 0
      · have b0 : (x.ow == 0) = true := by simpa using h0
        have HS2 := Lib.hid (show tCount (fs.take (k + 1)) = tCount (fs.take k) + 1 by rw [HS.out, if_pos h0])
        clear h0
        go_wp2
        exact ⟨⟨k + 1, by omega, by go_num, icast (by have := HS2.out; omega)⟩, by simp [intOf]; omega⟩
      · have b0 : (x.ow == 0) = false := by simpa using h0
        have HS2 := Lib.hid (show tCount (fs.take (k + 1)) = tCount (fs.take k) by rw [HS.out, if_neg h0]; rfl)
        clear h0
        go_wp2
        exact ⟨⟨k + 1, by omega, by go_num, icast (by have := HS2.out; omega)⟩, by simp [intOf]; omega⟩
    · obtain rfl : k = fs.length := by omega
      go_wp2
      exact H.out
end
end
end Go.Proofs.YtedblbpmlbjnhaaGreat
