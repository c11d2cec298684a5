/- Package request: the chapter's example. -/
import Derived.Test.YtjjigngighneeaaDoorReqG
namespace Go.Proofs.YtjjigngighneeaaDoor
open Go.RowKit Go.Shelf
set_option linter.unusedVariables false
set_option linter.unusedSimpArgs false
set_option maxRecDepth 100000

def aliveB : List UInt8 := [71, 69, 84, 32, 47, 32, 72, 84, 84, 80, 47, 49, 46, 49, 13, 10, 72, 111, 115, 116, 58, 32, 97, 13, 10, 13, 10]
def aliveR : Req := ⟨[71, 69, 84], [47], 1, [([104, 111, 115, 116], [97])], false⟩
theorem next_alive : nextF aliveB = (aliveR, 0, [], false) := by
  have h1 : headF (aliveB.length + 1) aliveB.length [] aliveB = ([[71, 69, 84, 32, 47, 32, 72, 84, 84, 80, 47, 49, 46, 49], [72, 111, 115, 116, 58, 32, 97]], [], 0) := by decide +kernel
  have h2 : firstL [71, 69, 84, 32, 47, 32, 72, 84, 84, 80, 47, 49, 46, 49] = some ([71, 69, 84], [47], 49, 49) := by decide +kernel
  have h3 : fieldsL [[72, 111, 115, 116, 58, 32, 97]] = some [([104, 111, 115, 116], [97])] := by decide +kernel
  have h4 : ofFs [71, 69, 84] [47] 1 [([104, 111, 115, 116], [97])] = (aliveR, 0) := by
    unfold ofFs
    rw [if_neg (by decide +kernel), if_neg (by decide +kernel), if_neg (by decide +kernel), if_neg (by decide +kernel), show closesF [([104, 111, 115, 116], [97])] 1 = false by decide +kernel]; rfl
  have h5 : ofF [[71, 69, 84, 32, 47, 32, 72, 84, 84, 80, 47, 49, 46, 49], [72, 111, 115, 116, 58, 32, 97]] = (aliveR, 0) := by
    rw [ofF, h2]
    simp only
    rw [if_neg (by decide), if_neg (by decide), h3]
    exact h4
  unfold nextF
  rw [h1]
  simp only
  rw [h5]
  rfl
theorem bytes_rd {w : World} {g f1 f2 : Nat} {l : List UInt8} {C : Array Value} (hC : C = (bts l).toArray) (hf : l.length ≤ f1 := by decide) (hg : g = w.heap.size := by rfl) : Rd (w.alloc (.cells C 5 (f1, f2))) [] (some ⟨g, 0, none⟩) (bts l) := by
  subst hg; subst hC
  exact Bf.rd ⟨f1, f2, heap_alloc_new w _, by rw [bts_len]; exact hf⟩
theorem next_nil : nextF [] = (noReq, -1, [], false) := rfl
theorem next_lit1 {R : Ending → World → Prop} {w : World} {g : Nat} (hm : Ml w) (hp : Ps w g aliveB false)
    (h : ∀ A c w', Ps w' g [] false → Kp [g] w w' → R (.returned (.tuple #[.agg #[.string (S [71, 69, 84]), .string (S [47]), .int .i64 1, .slice A 1 c, .bool false], .int .i64 0])) w') : Calls Tryd.prog 28 #[.pointer (some ⟨g, 0, none⟩)] w R :=
  next_any hm hp (by decide) (by rw [next_alive]; exact fun A c w' h1 h2 _ _ _ => h A c w' h1 h2)
theorem next_lit2 {R : Ending → World → Prop} {w : World} {g : Nat} (hm : Ml w) (hp : Ps w g [] false)
    (h : ∀ A c w', Ps w' g [] false → Kp [g] w w' → R (.returned (.tuple #[.agg #[.string (S []), .string (S []), .int .i64 0, .slice A 0 c, .bool false], .int .i64 (-1)])) w') : Calls Tryd.prog 28 #[.pointer (some ⟨g, 0, none⟩)] w R :=
  next_any hm hp (by decide) (by rw [next_nil]; exact fun A c w' h1 h2 _ _ _ => h A c w' h1 h2)
set_option maxHeartbeats 2000000 in
theorem alive24_any {R : Ending → World → Prop} (w : World) (hm : Ml w) (h : ∀ w', Kp [] w w' → R (.returned (.bool true)) w') : Calls Tryd.prog 13 #[] w R := by
  have H := Lib.hid h
  clear h
  go_enter Tryd.func13, Tryd.ntmps13
  go_upto_region 2 with (go_at_call 26; ((refine new24_any _ ?_); intro g w1 hg hp k1; have HP1 := Lib.hid hp; have K1 := Lib.hid k1; have hcv := fun C => Lib.run_convert_bytes_const (P := Tryd.prog) w1 73 5 C 27 27 Tryd.underlying73 Tryd.underlying5; clear hp k1))
  go_upto_region 3 with (go_at_call 27; ((refine feed_any (Bk.alloc HP1.out _) aliveB (bytes_rd rfl) rfl (by decide) ?_); intro w2 hp2 k2; have HP2 := Lib.hid (show Ps w2 g aliveB false from hp2); have K2 := Lib.hid ((K1.out.alloc _).thn k2 (fun s hs => .inr (by simp at hs; omega))); clear hp2 k2))
  go_upto_region 4 with (go_at_call 28; ((refine next_lit1 (hm.kp K2.out) HP2.out ?_); intro A3 c3 w3 hp3 k3; have HP3 := Lib.hid hp3; have K3 := Lib.hid (K2.out.thn k3 (fun s hs => .inr (by simp at hs; omega))); clear hp3 k3))
  refine gen_world (fun W => Kp [] w W ∧ Ps W g [] false ∧ Bk W w3.heap.size 41 [.string (S [71, 69, 84]), .string (S [47]), .int .i64 1, .slice A3 1 c3, .bool false]) ⟨K3.out.alloc _, Bk.alloc HP3.out _, (Bk.newAt rfl _ _)⟩ ?_
  rintro W4 ⟨k4, hp4, hb4⟩
  obtain ⟨g2, hg2⟩ : ∃ g2, w3.heap.size = g2 := ⟨_, rfl⟩
  rw [hg2] at hb4 ⊢
  have HP4 := Lib.hid hp4
  have K4 := Lib.hid k4
  have HB4 := Lib.hid hb4
  have hlt2 : w.heap.size ≤ g2 := by have := K3.out.size; omega
  have hne : g ≠ g2 := by
    have := Bk.lt HP3.out
    omega
  clear hp4 k4 hb4 hg2
  go_upto_region 5 with (go_at_call 28; ((refine next_lit2 (hm.kp K4.out) HP4.out ?_); intro A5 c5 w5 hp5 k5; have HP5 := Lib.hid hp5; have HB5 := Lib.hid (HB4.out.kp k5 (by simp; omega)); have K5 := Lib.hid (K4.out.thn k5 (fun s hs => .inr (by simp at hs; omega))); clear hp5 k5))
  refine gen_world (fun W => Kp [] w W ∧ Ps W g [] false ∧ Bk W g2 41 [.string (S [71, 69, 84]), .string (S [47]), .int .i64 1, .slice A3 1 c3, .bool false]) ⟨K5.out.alloc _, Bk.alloc HP5.out _, HB5.out.alloc _⟩ ?_
  rintro W6 ⟨k6, hp6, hb6⟩
  have q0 := hb6.cell 0
  have q1 := hb6.cell 1
  simp only [List.getElem?_cons_zero, List.getElem?_cons_succ] at q0 q1
  have HP6 := Lib.hid hp6
  have K6 := Lib.hid k6
  clear hp6 hb6 k6
  go_wp2_with (go_at_call 29; (refine held24_any HP6.out (by simp) ?_))
  exact H.out _ K6.out
end Go.Proofs.YtjjigngighneeaaDoor
