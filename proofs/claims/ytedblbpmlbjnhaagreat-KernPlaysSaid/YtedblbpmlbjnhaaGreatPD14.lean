/- pantlerref06: the document's disk in memory; may, See. pantlerref06: settle. -/
import Derived.Test.YtedblbpmlbjnhaaGreatPD10
import Derived.Test.YtedblbpmlbjnhaaGreatPD13
import Derived.Deep.RegionHeldLaw
namespace Go.Proofs.YtedblbpmlbjnhaaGreat
/-! ### pantlerref06: the document's disk in memory; may, See. -/
section
open Go.RowKit Go.Shelf
set_option linter.unusedVariables false
set_option linter.unusedSimpArgs false
set_option maxRecDepth 100000
/-- What the document's disk tells of its arming. -/
def leftM (d : DkS) : Int := if d.arm = true then d.left else -1
/-- A slice that reads xs, in a block of type e that is none of N. -/
def Nb (w : World) (N : List Nat) (e : Nat) (A : Option Addr) (xs : List Value) : Prop := xs ≠ [] → ∃ b off cs, A = some ⟨b, off, none⟩ ∧ b ∉ N ∧ Bz w b e cs ∧ ∀ j u, xs[j]? = some u → cs[off + j]? = some u
section
variable {w w' : World} {N S' : List Nat} {e : Nat} {A : Option Addr} {xs : List Value}
theorem Nb.nil : Nb w N e A [] := fun h => absurd rfl h
theorem Nb.kp (h : Nb w N e A xs) (hk : Kp S' w w') (hs : ∀ s ∈ S', s ∈ N ∨ w.heap.size ≤ s) : Nb w' N e A xs := fun hx => by
  obtain ⟨b, off, cs, rfl, hb, hz, hc⟩ := h hx
  refine ⟨b, off, cs, rfl, hb, hz.kp hk (fun hm => ?_), hc⟩
  rcases hs b hm with h1 | h1
  · exact hb h1
  · have := hz.lt; omega
theorem Nb.rd (h : Nb w N e A xs) : Rd w N A xs := fun hx => by
  obtain ⟨b, off, cs, rfl, hb, hz, hc⟩ := h hx
  exact ⟨b, off, rfl, hb, hz.lt, fun j u hu => by rw [hz.cell]; exact hc j u hu⟩
theorem Nb.sub {N' : List Nat} (h : Nb w N e A xs) (hs : ∀ s ∈ N', s ∈ N) : Nb w N' e A xs := fun hx => by
  obtain ⟨b, off, cs, rfl, hb, hz, hc⟩ := h hx
  exact ⟨b, off, cs, rfl, fun hm => hb (hs b hm), hz, hc⟩
theorem Ow.nb {sz n c : Nat} (h : Ow w e sz A n c xs) (hN : ∀ b ∈ bks A, b ∉ N) : Nb w N e A xs := fun hx => by
  obtain ⟨b, off, cs, rfl, hb, hc⟩ := h.tb hx
  exact ⟨b, off, cs, rfl, hN b (by simp [bks]), hb, hc⟩
/-- Cut in front. -/
theorem Nb.tail {x : Value} (h : Nb w N e A (x :: xs)) : Nb w N e (A.map (·.add 1)) xs := fun hx => by
  obtain ⟨b, off, cs, rfl, hb, hz, hc⟩ := h (by simp)
  have e2 : (⟨b, off, none⟩ : Addr).add 1 = ⟨b, off + 1, none⟩ := by unfold Addr.add; split <;> simp_all
  exact ⟨b, off + 1, cs, by rw [Option.map_some, e2], hb, hz, fun j u hu => by
    have := hc (j + 1) u (by simpa using hu)
    rwa [show off + (j + 1) = off + 1 + j by omega] at this⟩
end
def sV (l : List UInt8) : Value := .string (S l)
/-- A write that waits, the document's. -/
def mwV (x : Wr) : List Value := [.int .i64 x.b, .string (S x.s)]
theorem mwV_len (x : Wr) : (mwV x).length = 2 := rfl
/-- The document's disk in memory. -/
structure Dm (w : World) (bD bB bO : Nat) (A : Option Addr) (c : Nat) (d : DkS) : Prop where
  dd : ∃ cb co, Bk w bD 74 [.slice (some ⟨bB, 0, none⟩) d.bl.length cb, .slice (some ⟨bO, 0, none⟩) d.bl.length co, .slice A d.ln.length c, .bool d.off, .int .i64 (leftM d)]
  b : Tw w bB 9 (d.bl.map sV)
  o : Tw w bO 3 (ints d.ow)
  ln : Nb w [bD, bB] 225 A (d.ln.flatMap mwV)
  ne : bD ≠ bB
  ok : d.ok
section
variable {R : Ending → World → Prop} {w w' : World} {bD bB bO c : Nat} {A : Option Addr} {d : DkS}
theorem Dm.kp (h : Dm w bD bB bO A c d) (k : Kp [] w w') : Dm w' bD bB bO A c d := by
  obtain ⟨cb, co, hb⟩ := h.dd
  exact ⟨⟨cb, co, hb.kp k (by simp)⟩, h.b.kp k (by simp), h.o.kp k (by simp), h.ln.kp k (by simp), h.ne, h.ok⟩
set_option maxHeartbeats 2000000 in
theorem mmay_any0 (hd : Dm w bD bB bO A c d) (env b : Int) (h : R (.returned (.int .i64 (dMay d env b))) w) :
    Calls Tryz.prog 114 #[.pointer (some ⟨bD, 0, none⟩), .int .i64 env, .int .i64 b] w R := by
  obtain ⟨cb, co, hb⟩ := hd.dd
  have HB : Hid (∀ w', Kp [] w w' → w'.cell? ⟨bD, 0, none⟩ = some (.slice (some ⟨bB, 0, none⟩) d.bl.length cb) ∧ w'.cell? ⟨bD, 1, none⟩ = some (.slice (some ⟨bO, 0, none⟩) d.bl.length co) ∧ w'.cell? ⟨bD, 3, none⟩ = some (.bool d.off)) := Lib.hid (fun w' k => ⟨(hb.kp k (by simp)).cell 0, (hb.kp k (by simp)).cell 1, (hb.kp k (by simp)).cell 3⟩)
  obtain ⟨c0, c1, c3⟩ := HB.out w (Kp.refl _ _)
  have hn := hd.ok.n1
  have ho := hd.ok.ow
  have H := Lib.hid h
  clear h hb
  cases hof : d.off with
  | true =>
    have hm : dMay d env b = 30 := by simp [dMay, hof]
    rw [hof] at c3
    rw [hm] at H
    clear hm hd hof ho hn HB
    go_enter Tryz.func114, Tryz.ntmps114
    go_wp2
    exact H.out
  | false =>
    rw [hof] at c3
    by_cases h0 : b < 0
    · have hm : dMay d env b = 31 := by simp [dMay, hof, h0]
      rw [hm] at H
      have g0 : decide (b < 0) = true := by simpa using h0
      clear hm hd hof ho hn HB h0
      go_enter Tryz.func114, Tryz.ntmps114
      go_wp2
      exact H.out
    · have g0 : decide (b < 0) = false := by simpa using h0
      obtain ⟨k, rfl⟩ : ∃ k : Nat, b = k := ⟨b.toNat, by omega⟩
      by_cases h1 : d.bl.length ≤ k
      · have hm : dMay d env k = 31 := by
          unfold dMay
          rw [if_neg (by simp [hof]), if_pos (by omega)]
        rw [hm] at H
        have g1 : decide ((d.bl.length : Int) ≤ k) = true := by simp; omega
        have g2 : decide (d.bl.length ≤ k) = true := by simpa using h1
        clear hm hd hof ho hn HB h0
        go_enter Tryz.func114, Tryz.ntmps114
        go_wp2
        exact H.out
      · have g1 : decide ((d.bl.length : Int) ≤ k) = false := by simp; omega
        have g2 : decide (d.bl.length ≤ k) = false := by simpa using h1
        have hk : k < d.ow.length := by omega
        have e := List.getElem?_eq_getElem hk
        obtain ⟨o, hoe⟩ : ∃ o, d.ow[k] = o := ⟨_, rfl⟩
        rw [hoe] at e
        have HO : Hid (∀ w', Kp [] w w' → w'.cell? ⟨bO, k, none⟩ = some (.int .i64 o)) := Lib.hid (fun w' k' => (hd.o.kp k' (by simp)).cell (ints_at e))
        have hm : dMay d env k = if o = 0 ∨ o ≠ env then 20 else 0 := by
          unfold dMay
          rw [if_neg (by simp [hof]), if_neg (by omega), Int.toNat_natCast, e]
        have hkb : k < d.bl.length := by omega
        clear hd hof ho hoe e h0 hk h1
        by_cases h3 : o = env
        · by_cases h2 : env = 0
          · have hm2 : dMay d env k = 20 := by rw [hm, if_pos (by omega)]
            rw [hm2] at H
            have b2 : (env == 0) = true := by simp [h2]
            have b3 : (o != env) = false := by simp [h3]
            clear hm hm2 h2 h3
            have p4 := HO.out w (Kp.refl _ _)
            go_enter Tryz.func114, Tryz.ntmps114
            go_wp2
            exact H.out
          · have hm2 : dMay d env k = 0 := by rw [hm, if_neg (by omega)]
            rw [hm2] at H
            have b2 : (env == 0) = false := by simp [h2]
            have b3 : (o != env) = false := by simp [h3]
            clear hm hm2 h2 h3
            have p4 := HO.out w (Kp.refl _ _)
            go_enter Tryz.func114, Tryz.ntmps114
            go_wp2
            exact H.out
        · have hm2 : dMay d env k = 20 := by rw [hm, if_pos (Or.inr h3)]
          rw [hm2] at H
          have b3 : (o != env) = true := by simp [h3]
          clear hm hm2 h3
          have p4 := HO.out w (Kp.refl _ _)
          go_enter Tryz.func114, Tryz.ntmps114
          go_wp2
          exact H.out
set_option maxHeartbeats 2000000 in
theorem msee_any (hd : Dm w bD bB bO A c d) (b : Nat) (hb : b < d.bl.length) (hlm : d.ln.length ≤ 1000000) (h : ∀ w', Kp [] w w' → R (.returned (.string (S (dSee d b)))) w') :
    Calls Tryz.prog 115 #[.pointer (some ⟨bD, 0, none⟩), .int .i64 b] w R := by
  obtain ⟨cb, co, hbk⟩ := hd.dd
  have HD := Lib.hid hd
  have HB : Hid (∀ w', Kp [] w w' → w'.cell? ⟨bD, 0, none⟩ = some (.slice (some ⟨bB, 0, none⟩) d.bl.length cb) ∧ w'.cell? ⟨bD, 2, none⟩ = some (.slice A d.ln.length c)) := Lib.hid (fun w' k => ⟨(hbk.kp k (by simp)).cell 0, (hbk.kp k (by simp)).cell 2⟩)
  obtain ⟨c0, c2⟩ := HB.out w (Kp.refl _ _)
  obtain ⟨s0, hs0⟩ : ∃ s, d.bl[b]? = some s := ⟨_, List.getElem?_eq_getElem hb⟩
  have p0 : w.cell? ⟨bB, b, none⟩ = some (.string (S s0)) := hd.b.cell (by rw [List.getElem?_map, hs0]; rfl)
  have HE : Hid (dSee d b = (lastOf d.ln b).getD s0) := Lib.hid (by unfold dSee; rw [Int.toNat_natCast, hs0]; cases lastOf d.ln b <;> rfl)
  have H := Lib.hid h
  have hn := hd.ok.n1
  clear h hd hs0 hbk
  go_enter Tryz.func115, Tryz.ntmps115
  go_wp2
  clear c0 c2 p0
  go_loopw [5, 6] (fun sv iv wr => ∃ (k : Nat) (cur : List UInt8), k ≤ d.ln.length ∧ iv = .int .i64 k ∧ sv = .string (S cur) ∧ Hid (cur = (lastOf (d.ln.take k) b).getD s0) ∧ wr = w) (fun _ iv _ => d.ln.length - (intOf iv).toNat)
  case atStart => exact ⟨0, s0, Nat.zero_le _, rfl, rfl, Lib.hid (by rw [List.take_zero, lastOf_nil]; rfl), rfl⟩
  case round =>
    obtain ⟨k, cur, hk, rfl, rfl, hc, rfl⟩ := hrel
    obtain ⟨c0, c2⟩ := HB.out wr (Kp.refl _ _)
    by_cases hlt : k < d.ln.length
    · obtain ⟨⟨xb, xs⟩, hx⟩ : ∃ x, d.ln[k]? = some x := ⟨_, List.getElem?_eq_getElem hlt⟩
      obtain ⟨g, off, rfl, _, _, hcc⟩ := rd_at HD.out.ln.rd mwV_len (by omega) hx
      have q0 : wr.cell? ⟨g, off + k * 2, none⟩ = some (.int .i64 xb) := hcc 0 _ rfl
      have q1 : wr.cell? ⟨g, off + k * 2 + 1, none⟩ = some (.string (S xs)) := hcc 1 _ rfl
      have HL := Lib.hid (lastOf_snoc hx b)
      clear hcc hx
      by_cases hxb : xb = (b : Int)
      · have e1 : (xb == (b : Int)) = true := by simp [hxb]
        have HX := Lib.hid hxb
        clear hxb
        go_wp2
        exact ⟨⟨k + 1, xs, by omega, by go_num, rfl, Lib.hid (by rw [HL.out, if_pos HX.out]; rfl), by trivial⟩, by simp [intOf]; omega⟩
      · have e1 : (xb == (b : Int)) = false := by simp [hxb]
        have HX := Lib.hid hxb
        clear hxb
        go_wp2
        exact ⟨⟨k + 1, cur, by omega, by go_num, rfl, Lib.hid (by rw [HL.out, if_neg HX.out]; exact hc.out), by trivial⟩, by simp [intOf]; omega⟩
    · obtain rfl : k = d.ln.length := by omega
      have e := hc.out
      rw [List.take_length, ← HE.out] at e
      subst e
      go_wp2
      exact H.out _ (Kp.refl _ _)
end
end
/-! ### pantlerref06: settle. -/
section
open Go.RowKit Go.Shelf
set_option linter.unusedVariables false
set_option linter.unusedSimpArgs false
set_option maxRecDepth 100000
/-- Half-way through settling. -/
structure Ms (w W : World) (bD bB : Nat) (A : Option Addr) (c cb co bO : Nat) (d : DkS) (k : Nat) : Prop where
  kp : Kp [bB] w W
  dd : Bk W bD 74 [.slice (some ⟨bB, 0, none⟩) d.bl.length cb, .slice (some ⟨bO, 0, none⟩) d.bl.length co, .slice A d.ln.length c, .bool d.off, .int .i64 (leftM d)]
  b : Tw W bB 9 (((d.ln.take k).foldl dSet d.bl).map sV)
  o : Tw W bO 3 (ints d.ow)
  ln : Nb W [bD, bB] 225 A (d.ln.flatMap mwV)
section
variable {R : Ending → World → Prop} {w w' : World} {bD bB bO c : Nat} {A : Option Addr} {d : DkS}
set_option maxHeartbeats 4000000 in
theorem msettle_any (hd : Dm w bD bB bO A c d) (hbo : bB ≠ bO) (hlm : d.ln.length ≤ 1000000) (n : Int) (h : ∀ w', Kp [bD, bB] w w' → Dm w' bD bB bO none 0 (dSettle d (min (max n 0).toNat d.ln.length)) → R (.returned (.tuple #[])) w') :
    Calls Tryz.prog 116 #[.pointer (some ⟨bD, 0, none⟩), .int .i64 n] w R := by
  obtain ⟨cb, co, hbk⟩ := hd.dd
  have HD := Lib.hid hd
  have H := Lib.hid h
  have hn := hd.ok.n1
  have HS0 : Hid (Ms w w bD bB A c cb co bO d 0) := Lib.hid ⟨Kp.refl _ _, hbk, hd.b, hd.o, hd.ln⟩
  obtain ⟨m, hm⟩ : ∃ m, min (max n 0).toNat d.ln.length = m := ⟨_, rfl⟩
  have hml : m ≤ d.ln.length := by omega
  have HM : Hid (m ≤ d.ln.length ∧ (∀ k : Nat, k < m → (k : Int) < n) ∧ (m < d.ln.length → n ≤ m)) := Lib.hid ⟨hml, fun k hk => by omega, fun hlt => by omega⟩
  rw [hm] at H
  clear h hd hbk hm
  go_enter Tryz.func116, Tryz.ntmps116
  go_wp2
  go_loopw [4] (fun iv wr => ∃ k : Nat, k ≤ m ∧ iv = .int .i64 k ∧ Hid (Ms w wr bD bB A c cb co bO d k)) (fun iv _ => m - (intOf iv).toNat)
  case atStart => exact ⟨0, Nat.zero_le _, rfl, HS0⟩
  case round =>
    obtain ⟨k, hk, rfl, hS⟩ := hrel
    have HC : Hid (∀ W', Kp [] wr W' → W'.cell? ⟨bD, 0, none⟩ = some (.slice (some ⟨bB, 0, none⟩) d.bl.length cb) ∧ W'.cell? ⟨bD, 2, none⟩ = some (.slice A d.ln.length c)) := Lib.hid (fun W' k' => ⟨(hS.out.dd.kp k' (by simp)).cell 0, (hS.out.dd.kp k' (by simp)).cell 2⟩)
    obtain ⟨c0, c2⟩ := HC.out wr (Kp.refl _ _)
    by_cases hlt : k < m
    · have hn1 := HM.out.2.1 k hlt
      have g1 : decide ((k : Int) < n) = true := by simpa using hn1
      have g2 : decide ((k : Int) < d.ln.length) = true := by simp; omega
      have g3 : decide (k < d.ln.length) = true := by simp; omega
      obtain ⟨⟨xb, xs⟩, hx⟩ : ∃ x, d.ln[k]? = some x := ⟨_, List.getElem?_eq_getElem (by omega)⟩
      have hxo := HD.out.ok.ln _ (List.mem_of_getElem? hx)
      obtain ⟨x0, x1, x2⟩ := hxo
      simp only at x0 x1 x2
      obtain ⟨b, rfl⟩ : ∃ b : Nat, xb = b := ⟨xb.toNat, by omega⟩
      obtain ⟨g, off, rfl, hgN, hgl, hcc⟩ := rd_at hS.out.ln.rd mwV_len (by omega) hx
      have q0 : wr.cell? ⟨g, off + k * 2, none⟩ = some (.int .i64 b) := hcc 0 _ rfl
      have q1 : wr.cell? ⟨g, off + k * 2 + 1, none⟩ = some (.string (S xs)) := hcc 1 _ rfl
      have HX := Lib.hid hx
      have hbl : b < d.bl.length := by omega
      clear hcc hx
      have hgB : g ∉ [bB] := by simp at hgN ⊢; exact hgN.2
      have HQ : Hid (∀ W', Kp [bB] wr W' → W'.cell? ⟨bD, 0, none⟩ = some (.slice (some ⟨bB, 0, none⟩) d.bl.length cb) ∧ W'.cell? ⟨bD, 2, none⟩ = some (.slice (some ⟨g, off, none⟩) d.ln.length c) ∧ W'.cell? ⟨g, off + k * 2, none⟩ = some (.int .i64 b) ∧ W'.cell? ⟨g, off + k * 2 + 1, none⟩ = some (.string (S xs))) := Lib.hid (fun W' k' => ⟨(hS.out.dd.kp k' (by simpa using HD.out.ne)).cell 0, (hS.out.dd.kp k' (by simpa using HD.out.ne)).cell 2, (k'.cell hgl hgB).trans q0, (k'.cell hgl hgB).trans q1⟩)
      have hb0 : ((d.ln.take k).foldl dSet d.bl).length = d.bl.length := dSet_len _ _
      obtain ⟨s9, hs9⟩ : ∃ s, ((d.ln.take k).foldl dSet d.bl)[b]? = some s := ⟨_, List.getElem?_eq_getElem (by omega)⟩
      have p0 : wr.cell? ⟨bB, b, none⟩ = some (.string (S s9)) := hS.out.b.cell (by rw [List.getElem?_map, hs9]; rfl)
      have f0 : wr.frozen? ⟨bB, b, none⟩ = false := hS.out.b.frozen b
      have hbl9 := hS.out.b.lt
      have HN : Hid (Ms w ((wr.setCell ⟨bB, b, none⟩ (.string (S xs))).drew) bD bB (some ⟨g, off, none⟩) c cb co bO d (k + 1)) := Lib.hid (by
        have kc : Kp [bB] wr ((wr.setCell ⟨bB, b, none⟩ (.string (S xs))).drew) := ((Kp.refl [bB] wr).setCell (p := ⟨bB, b, none⟩) (.inl (by simp)) _).drew
        refine ⟨hS.out.kp.thn kc (fun s hs => .inl hs), hS.out.dd.kp kc (by simpa using HD.out.ne), ?_, hS.out.o.kp kc (by simpa using Ne.symm hbo), ?_⟩
        · refine ((hS.out.b.set_ (i := b) (by rw [List.length_map]; omega) (.string (S xs))).kp ((Kp.refl [] _).drew) (by simp)).cast ?_
          rw [foldl_snoc HX.out]
          unfold dSet
          rw [List.map_set]
          simp [sV]
        · exact hS.out.ln.kp kc (fun s hs => .inl (by simp at hs; simp [hs])))
      clear hs9 hb0 hgN
      go_upto_region 3 with (fail)
      go_region_held_law (fun W' => W'.cell? ⟨bD, 0, none⟩ = some (.slice (some ⟨bB, 0, none⟩) d.bl.length cb) ∧ W'.cell? ⟨bD, 2, none⟩ = some (.slice (some ⟨g, off, none⟩) d.ln.length c) ∧ W'.cell? ⟨g, off + k * 2, none⟩ = some (.int .i64 b) ∧ W'.cell? ⟨g, off + k * 2 + 1, none⟩ = some (.string (S xs))) (first | with_reducible exact HQ.out _ (Kp.drew (Kp.refl _ _)) | with_reducible exact HQ.out _ (Kp.setCell (Kp.drew (Kp.refl _ _)) (.inl (by simp)) _)) (fail)
      all_goals
        try go_wp2
        exact ⟨⟨k + 1, by omega, by go_num, HN⟩, by simp [intOf]; omega⟩
    · obtain rfl : k = m := by omega
      have f2 := hS.out.dd.frozen 2
      have hbl9 := hS.out.dd.lt
      have HF : Hid (Dm (wr.setCell ⟨bD, 2, none⟩ (.slice none 0 0)) bD bB bO none 0 (dSettle d k) ∧ Kp [bD, bB] w (wr.setCell ⟨bD, 2, none⟩ (.slice none 0 0))) := Lib.hid (by
        have kc : Kp [bD] wr (wr.setCell ⟨bD, 2, none⟩ (.slice none 0 0)) := (Kp.refl [bD] wr).setCell (p := ⟨bD, 2, none⟩) (.inl (by simp)) _
        have hl := dSet_len (d.ln.take k) d.bl
        exact ⟨⟨⟨cb, co, (hS.out.dd.set_ 2 _).cast (by simp [dSettle, hl]; try rfl)⟩, hS.out.b.kp kc (by simpa using Ne.symm HD.out.ne), hS.out.o.kp kc (by simpa using (hS.out.o.ne_bk hS.out.dd (by decide))), Nb.nil, HD.out.ne, HD.out.ok.settle k⟩, (hS.out.kp.mono (by simp)).thn kc (fun s hs => .inl (by simp at hs; simp [hs]))⟩)
      by_cases h9 : (k : Int) < n
      · have g1 : decide ((k : Int) < n) = true := by simpa using h9
        have h8 : ¬ k < d.ln.length := fun e => by have := HM.out.2.2 e; omega
        have g2 : decide ((k : Int) < d.ln.length) = false := by simp; omega
        have g3 : decide (k < d.ln.length) = false := by simpa using h8
        clear h8 h9
        go_wp2
        exact bodyPost_ret (results_none rfl _ _ _) rfl (H.out _ HF.out.2 HF.out.1)
      · have g1 : decide ((k : Int) < n) = false := by simpa using h9
        clear h9
        go_wp2
        exact bodyPost_ret (results_none rfl _ _ _) rfl (H.out _ HF.out.2 HF.out.1)
end
end
end Go.Proofs.YtedblbpmlbjnhaaGreat
