/- A disk's settling and Sync. -/
import Derived.Test.YthlmfjfkkndboaaKc
namespace Go.Proofs.Ythlmfjfkkndboaa
open Go.RowKit Go.Shelf
set_option linter.unusedVariables false
set_option linter.unusedSimpArgs false
set_option maxRecDepth 100000

theorem kp_setCells {S : List Nat} {b : Nat} (hb : b ∈ S) : ∀ (vs : List Value) (o : Nat) (w : World), Kp S w (w.setCells b o vs)
  | [], _, w => Kp.refl _ _
  | v :: r, o, w => ((Kp.refl S w).setCell (p := ⟨b, o, none⟩) (.inl hb) v).trans (kp_setCells hb r (o + 1) _)
theorem bk_setCells {g t : Nat} : ∀ (vs : List Value) (o : Nat) (w : World) (cs : List Value), Bk w g t cs → o + vs.length ≤ cs.length → Bk (w.setCells g o vs) g t (cs.take o ++ vs ++ cs.drop (o + vs.length))
  | [], o, w, cs, h, _ => h.cast (by simp)
  | v :: r, o, w, cs, h, hl => by
    simp only [List.length_cons] at hl
    have := bk_setCells r (o + 1) _ _ (h.set_ o v) (by simp; omega)
    refine this.cast ?_
    have e1 : (cs.set o v).take (o + 1) = cs.take o ++ [v] := by
      rw [List.take_succ_eq_append_getElem (by simp; omega), List.getElem_set_self, List.take_set_of_le (Nat.le_refl _)]
    have e2 : (cs.set o v).drop (o + 1 + r.length) = cs.drop (o + (v :: r).length) := by
      rw [List.drop_set_of_lt (by omega)]; congr 1; simp; omega
    rw [e1, e2]
    simp
section
variable {R : Ending → World → Prop} {w : World} {bD bL bO c : Nat} {A : Option Addr} {d : DkS}
theorem bk_page {W : World} {bl : List (List UInt8)} (h : Bk W bL 187 (bl.flatMap pcells)) (hp : ∀ s ∈ bl, s.length = 256) {x : Wr} (h0 : 0 ≤ x.b) (h1 : x.b < bl.length) (hx : x.s.length = 256) :
    W.there bL (x.b.toNat * 256) 256 ∧ Bk (W.setCells bL (x.b.toNat * 256) (bts x.s)) bL 187 ((dSet bl x).flatMap pcells) := by
  have hl : x.b.toNat < bl.length := by omega
  have e := List.getElem?_eq_getElem hl
  have hlen : x.b.toNat * 256 + 256 ≤ (bl.flatMap pcells).length := by
    rw [flat_len pcells_len]
    have := Nat.mul_le_mul_right 256 (Nat.succ_le_of_lt hl)
    omega
  refine ⟨fun j hj => ⟨by rw [h.cell]; rw [List.getElem?_eq_getElem (by omega)]; rfl, h.frozen _⟩, (bk_setCells _ _ _ _ h (by rw [bts_len, hx]; exact hlen)).cast ?_⟩
  have := flat_splice pcells_len e (x' := x.s) (o := 0) (cs := bts x.s) (by rw [bts_len, hx]; decide) (by rw [pcells_eq hx, bts_len, hx, List.drop_eq_nil_of_le (by rw [pcells_len]; omega)]; simp)
  rw [Nat.add_zero] at this
  exact this
structure Stl (w W : World) (bD bL bO c : Nat) (A : Option Addr) (d : DkS) (k : Nat) : Prop where
  kp : Kp [bL] w W
  dd : Bk W bD 156 [.slice (some ⟨bL, 0, none⟩) d.bl.length d.bl.length, .slice (some ⟨bO, 0, none⟩) d.bl.length d.bl.length, .slice A d.ln.length c, .bool false, .bool false, .int .i64 0]
  l : Bk W bL 187 (((d.ln.take k).foldl dSet d.bl).flatMap pcells)
  o : Bk W bO 3 (ints d.ow)
  ln : Ow W 189 257 A d.ln.length c (d.ln.flatMap wcells)
set_option maxHeartbeats 2000000 in
theorem settle_any (hd : Dsk w bD bL bO A c d) (hlm : d.ln.length ≤ 1000000)
    (h : ∀ w', Kp [bD, bL] w w' → Dsk w' bD bL bO none 0 (dSync d) → R (.returned (.tuple #[])) w') :
    Calls Try.prog 117 #[.pointer (some ⟨bD, 0, none⟩), .int .i64 d.ln.length] w R := by
  have H := Lib.hid h
  have c0 := hd.dd.cell 0
  have c2 := hd.dd.cell 2
  simp only [List.getElem?_cons_zero, List.getElem?_cons_succ] at c0 c2
  have HD := Lib.hid hd
  have hcap : d.ln.length ≤ c := by
    rcases hd.ln.2 with ⟨_, h0⟩ | ⟨g, cap, cur, hv, _, _, hc, _⟩
    · omega
    · injection hv with _ _ hv; omega
  have hmax : c ≤ maxLen := by
    rcases hd.ln.2 with ⟨hv, h0⟩ | ⟨g, cap, cur, hv, _, _, hc, hm, _⟩
    · injection hv with _ _ hv; rw [hv]; decide
    · injection hv with _ _ hv; omega
  clear h hd
  go_enter Try.func117, Try.ntmps117
  go_wp2
  have hS0 : Stl w w bD bL bO c A d 0 := ⟨Kp.refl _ _, HD.out.dd, HD.out.l, HD.out.o, HD.out.ln⟩
  have HS0 := Lib.hid hS0
  clear hS0 c0 c2
  go_loopw [13] (fun iv wr => ∃ k : Nat, k ≤ d.ln.length ∧ iv = .int .i64 k ∧ Hid (Stl w wr bD bL bO c A d k)) (fun iv _ => d.ln.length - (intOf iv).toNat)
  case atStart => exact ⟨0, Nat.zero_le _, rfl, HS0⟩
  case round =>
    obtain ⟨k, hk, rfl, hS⟩ := hrel
    by_cases hlt : k < d.ln.length
    · obtain ⟨x, hx, hxm⟩ := get_lt (l := d.ln) (k := k) hlt
      obtain ⟨hx0, hx1, hx2⟩ := HD.out.ok.ln x hxm
      have hrg : ∃ g, A = some ⟨g, 0, none⟩ ∧ wr.rangeAt g (k * 257) (wcells x) := by
        obtain ⟨b, off, hA, _, _, hc⟩ := rd_at (hS.out.ln.rd (N := []) (by simp)) wcells_len (by omega) hx
        obtain ⟨g, hg, _⟩ := hS.out.ln.form (by omega)
        rw [hg] at hA
        injection hA with hA
        injection hA with h1 h2
        subst h1; subst h2
        exact ⟨g, hg, fun j v hv => by have := hc j v hv; rwa [Nat.zero_add] at this⟩
      obtain ⟨g, hg, hrg⟩ := hrg
      have hst := box_write wr hx2
      have hwl := wcells_len x
      have HX := Lib.hid hx
      have HW := Lib.hid (wcells_eq hx2)
      have HX2 := Lib.hid hx2
      clear hx
      subst hg
      go_wp2
      refine wp_load_mid 189 (.tmp 15) rfl g (k * 257) rfl (wcells x) _ hrg Try.underlying189 rfl (by rw [wcells_len]; exact info_wr) ?_
      clear hrg
      go_wp2
      have hbk : Bk (wr.alloc (.cells (wcells x).toArray 189)) wr.heap.size 189 (wcells x) := (Bk.newAt rfl _ _).cast rfl
      have ka : Kp [] wr (wr.alloc (.cells (wcells x).toArray 189)) := (Kp.refl _ _).alloc _
      obtain ⟨W, hWe⟩ : ∃ W, wr.alloc (.cells (wcells x).toArray 189) = W := ⟨_, rfl⟩
      obtain ⟨bx, hbx⟩ : ∃ bx, wr.heap.size = bx := ⟨_, rfl⟩
      rw [hWe] at hbk ka ⊢
      rw [hbx] at hbk ⊢
      have hS2 : Stl w W bD bL bO c (some ⟨g, 0, none⟩) d k := ⟨hS.out.kp.trans (ka.mono (by simp)), hS.out.dd.kp ka (by simp), hS.out.l.kp ka (by simp), hS.out.o.kp ka (by simp), hS.out.ln.kp ka (by simp)⟩
      have hpg := dSet_pg (d.ln.take k) d.bl HD.out.ok.pg (fun y hy => (HD.out.ok.ln y (List.mem_of_mem_take hy)).2.2)
      have hln := dSet_len (d.ln.take k) d.bl
      have oL : Off W [bL] 156 := Off.one hS2.l.ty (by decide)
      have oW : Off W [bL] 189 := Off.one hS2.l.ty (by decide)
      have oO : Off W [bL] 3 := Off.one hS2.l.ty (by decide)
      obtain ⟨hth, _⟩ := bk_page hS2.l hpg hx0 (by rw [hln]; exact hx1) HX2.out
      obtain ⟨_, hb9⟩ := bk_page (W := W.drew) hS2.l hpg hx0 (by rw [hln]; exact hx1) HX2.out
      obtain ⟨m, hm⟩ : ∃ m : Nat, x.b = m := ⟨x.b.toNat, by omega⟩
      have HN : Hid (Stl w (W.drew.setCells bL (m * 256) (bts x.s)) bD bL bO c (some ⟨g, 0, none⟩) d (k + 1)) := by
        have kc : Kp [bL] W (W.drew.setCells bL (m * 256) (bts x.s)) := (Kp.refl [bL] W).drew.trans (kp_setCells (by simp) _ _ _)
        refine Lib.hid ⟨hS2.kp.thn kc (fun s hs => .inl hs), hS2.dd.off kc oL, ?_, hS2.o.off kc oO, hS2.ln.off kc oW⟩
        have e : (d.ln.take (k + 1)).foldl dSet d.bl = dSet ((d.ln.take k).foldl dSet d.bl) x := foldl_snoc HX.out
        rw [e]
        rw [hm, Int.toNat_natCast] at hb9
        exact hb9
      rw [hm, Int.toNat_natCast] at hth
      clear hb9 hpg hln
      have HK : Hid (∀ w', Kp [bL] W w' → w'.cell? ⟨bD, 0, none⟩ = some (.slice (some ⟨bL, 0, none⟩) d.bl.length d.bl.length) ∧ w'.cell? ⟨bx, 0, none⟩ = some (.int .i64 m) ∧ w'.rangeAt bx 1 (bts x.s)) := Lib.hid (fun w' k' => ⟨(hS2.dd.off k' oL).cell 0, by rw [(hbk.off k' oW).cell, HW.out, hm]; rfl, fun j v hv => by rw [(hbk.off k' oW).cell, HW.out, Nat.add_comm, List.getElem?_cons_succ]; exact hv⟩)
      obtain ⟨p0, p1, p2⟩ := HK.out W (Kp.refl _ _)
      have hu := Try.underlying187
      have hbl : (bts x.s).length = 256 := by rw [bts_len, HX2.out]
      have hi : (Try.prog.info? 187).map (·.size) = some (bts x.s).length := by rw [hbl]; exact info_page2
      have h1c := bts_one x.s
      have hm1 : m < d.bl.length := by omega
      have hn1 := HD.out.ok.n1
      clear hm hx0 hx1 hbk ka hWe hbx hst hwl
      go_region_held_law (fun w' => w'.cell? ⟨bD, 0, none⟩ = some (.slice (some ⟨bL, 0, none⟩) d.bl.length d.bl.length) ∧ w'.cell? ⟨bx, 0, none⟩ = some (.int .i64 m) ∧ w'.rangeAt bx 1 (bts x.s)) ((refine HK.out _ ?_; repeat (first | with_reducible exact Kp.refl _ _ | with_reducible refine Kp.drew ?_ | with_reducible refine Kp.trans ?_ (kp_setCells (by simp) _ _ _)))) (fail)
      go_wp2
      exact ⟨⟨k + 1, by omega, by go_num, HN⟩, by simp [intOf]; omega⟩
    · obtain rfl : k = d.ln.length := by omega
      have q2 := hS.out.dd.cell 2
      have f2 := hS.out.dd.frozen 2
      simp only [List.getElem?_cons_zero, List.getElem?_cons_succ] at q2
      go_wp2
      have ks : Kp [bD] wr (wr.setCell ⟨bD, 2, none⟩ (.slice none 0 0)) := (Kp.refl _ _).setCell (p := ⟨bD, 2, none⟩) (.inl (by simp)) _
      have oD : ∀ e, 156 ≠ e → Off wr [bD] e := fun e he => Off.one hS.out.dd.ty he
      have hl := hS.out.l
      rw [List.take_length] at hl
      have hlen := dSet_len d.ln d.bl
      refine bodyPost_ret (results_none rfl _ _ _) rfl (H.out _ ((hS.out.kp.mono (by simp)).thn ks (fun s hs => .inl (by simp at hs; simp [hs]))) ⟨(hS.out.dd.set_ 2 _).cast (by simp [dSync, hlen]), hl.off ks (oD _ (by decide)), hS.out.o.off ks (oD _ (by decide)), Ow.nil, HD.out.ok.sync⟩)
set_option maxHeartbeats 1000000 in
theorem sync_any (hd : Dsk w bD bL bO A c d) (hlm : d.ln.length ≤ 1000000)
    (h : ∀ w', Kp [bD, bL] w w' → Dsk w' bD bL bO none 0 (dSync d) → R (.returned (.int .i64 0)) w') :
    Calls Try.prog 99 #[.pointer (some ⟨bD, 0, none⟩)] w R := by
  have H := Lib.hid h
  have c2 := hd.dd.cell 2
  have c3 := hd.dd.cell 3
  simp only [List.getElem?_cons_zero, List.getElem?_cons_succ] at c2 c3
  have HD := Lib.hid hd
  clear h hd
  go_enter Try.func99, Try.ntmps99
  go_wp2_with (go_at_call 117; ((refine settle_any HD.out hlm ?_); intro w1 k1 d1))
  exact H.out _ k1 d1
end
end Go.Proofs.Ythlmfjfkkndboaa
