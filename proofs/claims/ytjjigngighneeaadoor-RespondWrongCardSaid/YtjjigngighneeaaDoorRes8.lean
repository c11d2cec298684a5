/- The document's Wrong, walked. -/
import Derived.Test.YtjjigngighneeaaDoorRes7
namespace Go.Proofs.YtjjigngighneeaaDoor
open Go.RowKit
set_option linter.unusedVariables false
set_option linter.unusedSimpArgs false
set_option maxRecDepth 100000

def nrmS (s : Int) : Int := if s = 414 ∨ s = 431 ∨ s = 501 ∨ s = 505 then s else 400
theorem nrm_ok (s : Int) : okS (nrmS s) := by unfold okS nrmS; split <;> omega
theorem bk4 {w : World} {g tt : Nat} {a b c d : Value} (h : Bk w g tt [a, b, c, d]) : (w.cell? ⟨g, 0, none⟩ = some a ∧ w.cell? ⟨g, 1, none⟩ = some b ∧ w.cell? ⟨g, 2, none⟩ = some c ∧ w.cell? ⟨g, 3, none⟩ = some d) ∧ (w.frozen? ⟨g, 0, none⟩ = false ∧ w.frozen? ⟨g, 1, none⟩ = false ∧ w.frozen? ⟨g, 2, none⟩ = false ∧ w.frozen? ⟨g, 3, none⟩ = false) :=
  ⟨⟨h.cell 0, h.cell 1, h.cell 2, h.cell 3⟩, h.frozen 0, h.frozen 1, h.frozen 2, h.frozen 3⟩
theorem rd_not {w : World} {N : List Nat} {A A' : Option Addr} {T : List UInt8} {g tt n c : Nat} {a : Int} {s : ByteArray} {d : Bool} (r : Rd w N A (partC T)) (b : Bk w g tt [.int .i64 a, .string s, .slice A' n c, .bool d]) : Rd w (g :: N) A (partC T) := fun hx => by
  obtain ⟨b0, off, rfl, hN, hb, hc⟩ := r hx
  refine ⟨b0, off, rfl, ?_, hb, hc⟩
  intro hm
  rcases List.mem_cons.1 hm with rfl | hm
  · have c0 := hc 0 _ rfl
    have c1 := hc 1 _ rfl
    rw [b.cell] at c0 c1
    rcases off with _ | _ | _ | _ | off <;> simp at c0 c1
  · exact hN hm
/-- The result's struct written, one of its own ahead of it. -/
theorem plan_fin {w w2 : World} {pb rb tt : Nat} {A A1 A2 : Option Addr} {T : List UInt8} {z z1 z2 : Int} {s1 s2 L : ByteArray} {n1 n2 c1 c2 c : Nat} {d1 d2 : Bool} (k : Kp [] w w2) (h1 : w.heap.size ≤ rb) (h2 : rb < pb) (bp : Bk w2 pb tt [.int .i64 z1, .string s1, .slice A1 n1 c1, .bool d1]) (br : Bk w2 rb tt [.int .i64 z2, .string s2, .slice A2 n2 c2, .bool d2]) (r : Rd w2 [] A (partC T)) :
    ∃ W', (((((w2.setCell ⟨pb, 1, none⟩ (.string L)).setCell ⟨rb, 0, none⟩ (.int .i64 z)).setCell ⟨rb, 1, none⟩ (.string L)).setCell ⟨rb, 2, none⟩ (.slice A 1 c)).setCell ⟨rb, 3, none⟩ (.bool true)) = W' ∧ Kp [] w W' ∧ Bk W' rb tt [.int .i64 z, .string L, .slice A 1 c, .bool true] ∧ Rd W' [] A (partC T) := by
  have kk : Kp [rb, pb] w2 (((((w2.setCell ⟨pb, 1, none⟩ (.string L)).setCell ⟨rb, 0, none⟩ (.int .i64 z)).setCell ⟨rb, 1, none⟩ (.string L)).setCell ⟨rb, 2, none⟩ (.slice A 1 c)).setCell ⟨rb, 3, none⟩ (.bool true)) :=
    (((((Kp.refl _ _).setCell (p := ⟨pb, 1, none⟩) (.inl (by simp)) _).setCell (p := ⟨rb, 0, none⟩) (.inl (by simp)) _).setCell (p := ⟨rb, 1, none⟩) (.inl (by simp)) _).setCell (p := ⟨rb, 2, none⟩) (.inl (by simp)) _).setCell (p := ⟨rb, 3, none⟩) (.inl (by simp)) _
  refine ⟨_, rfl, k.thn kk (fun s hs => .inr (by simp at hs; omega)), ?_, ((rd_not (rd_not r bp) br).kp kk (fun s hs => .inl hs)).sub (by simp)⟩
  exact ((((((br.far (p := ⟨pb, 1, none⟩) (by simp; omega) (.string L)).set_ 0 _).set_ 1 _).set_ 2 _).set_ 3 _).cast rfl)
set_option maxHeartbeats 4000000 in
theorem rwrong_any {R : Ending → World → Prop} (s now : Int) (w : World) {D : List UInt8} (ht : mayB now = true → Told now D) (hf : mayB now = false → D = [])
    (h : ∀ A c w', Kp [] w w' → Rd w' [] A (partC (bodyT (nrmS s))) → R (.returned (.agg #[.int .i64 (nrmS s), .string (S (headL (nrmS s) now D)), .slice A 1 c, .bool true])) w') : Calls Tryd.prog 10 #[.int .i64 s, .int .i64 now] w R := by
  have H := Lib.hid h
  have HP : Hid (∀ (R : Ending → World → Prop) (w1 : World), (∀ A c w', Kp [] w1 w' → Rd w' [] A (partC (bodyT (nrmS s))) → R (.returned (.slice A 1 c)) w') → Calls Tryd.prog 24 #[.int .i64 (nrmS s), .slice none 0 0, .agg #[.int .i64 0, .int .i64 0, .int .i64 0, .string ⟨#[]⟩]] w1 R) := Lib.hid (fun R w1 h => rparts_any _ w1 (nrm_ok s) h)
  have HH : Hid (∀ (R : Ending → World → Prop) (w1 : World) (A : Option Addr) (c : Nat), Rd w1 [] A (partC (bodyT (nrmS s))) → (∀ w', Kp [] w1 w' → R (.returned (.string (S (headL (nrmS s) now D)))) w') → Calls Tryd.prog 25 #[.int .i64 (nrmS s), .slice none 0 0, .slice A 1 c, .agg #[.int .i64 0, .int .i64 0, .int .i64 0, .string ⟨#[]⟩], .int .i64 1, .bool true, .int .i64 now] w1 R) := Lib.hid (fun R w1 A c r h => rhd_any _ now w1 (nrm_ok s) r ht hf h)
  clear h ht hf
  have hs : (nrmS s = s ∧ (s = 414 ∨ s = 431 ∨ s = 501 ∨ s = 505)) ∨ (nrmS s = 400 ∧ (s != 414) = true ∧ (s != 431) = true ∧ (s != 501) = true ∧ (s != 505) = true) := by
    unfold nrmS
    split
    · left; omega
    · right; simp; omega
  generalize bodyT (nrmS s) = T at H HP HH
  generalize headL (nrmS s) now D = L at H HH
  generalize nrmS s = z at H HP HH hs
  rcases hs with ⟨rfl, rfl | rfl | rfl | rfl⟩ | ⟨rfl, h1, h2, h3, h4⟩
  all_goals
    go_enter Tryd.func10, Tryd.ntmps10
    go_upto_region 4 with (go_at_call 24; ((refine HP.out _ _ ?_); intro A c w1 k1 r1))
    refine gen_worldC (fun W => ∃ pb, w1.heap.size = pb ∧ Kp [] w W ∧ Bk W pb 26 [.int .i64 _, .string ⟨#[]⟩, .slice A 1 c, .bool true] ∧ Rd W [] A (partC T) ∧ Bk W w.heap.size 26 [.int .i64 0, .string ⟨#[]⟩, .slice none 0 0, .bool false]) ⟨_, rfl, (((Kp.refl _ _).alloc _).trans k1).alloc _, (Bk.new' _ _ _).cast rfl, r1.kp (S := []) ((Kp.refl _ _).alloc _) (by simp), (((Bk.new' _ _ _).kp k1 (by simp)).alloc _).cast rfl⟩ ?_
    rintro W ⟨pb, hpb, kW, bW, rW, bR⟩
    rw [hpb]
    have hle : w.heap.size < pb := by have := k1.size; simp at this; omega
    obtain ⟨rb, hrb⟩ : ∃ rb, w.heap.size = rb := ⟨_, rfl⟩
    rw [hrb] at bR hle ⊢
    clear hpb
    obtain ⟨⟨x0, x1, x2, x3⟩, ⟨y0, y1, y2, y3⟩⟩ := bk4 bW
    have KW := Lib.hid kW
    have BW := Lib.hid bW
    have RW := Lib.hid rW
    have BR := Lib.hid bR
    clear kW bW rW r1 k1 bR
    go_wp2_with (go_at_call 25; ((refine HH.out _ _ _ _ RW.out ?_); intro w2 k2; have BW2 := Lib.hid (BW.out.kp k2 (by simp)); have BR2 := Lib.hid (BR.out.kp k2 (by simp)); obtain ⟨⟨u0, u1, u2, u3⟩, ⟨v0, v1, v2, v3⟩⟩ := bk4 (BW.out.kp k2 (by simp)); obtain ⟨⟨s0, s1, s2, s3⟩, ⟨t0, t1, t2, t3⟩⟩ := bk4 (BR.out.kp k2 (by simp)); have K2 := Lib.hid (KW.out.trans k2); have R2 := Lib.hid (RW.out.kp k2 (by simp)); clear k2))
    obtain ⟨W', hW', kF, bF, rF⟩ := plan_fin (L := S L) (A := A) (c := c) K2.out (by omega) hle BW2.out BR2.out R2.out
    rw [hW']
    obtain ⟨⟨f0, f1, f2, f3⟩, _⟩ := bk4 bF
    exact bodyPost_ret (v := .agg #[.int .i64 _, .string (S L), .slice A 1 c, .bool true]) (by simp [results, Tryd.results10, go_sem, f0, f1, f2, f3]; try rfl) rfl (H.out A c _ kF rF)
end Go.Proofs.YtjjigngighneeaaDoor
