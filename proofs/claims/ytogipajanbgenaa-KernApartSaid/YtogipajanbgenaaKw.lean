/- KernSends walked. -/
import Derived.Test.YtogipajanbgenaaKv
import Derived.Test.YtogipajanbgenaaKu
import Derived.Test.YtogipajanbgenaaKs
namespace Go.Proofs.Ytogipajanbgenaa
open Go.RowKit Go.Shelf
set_option linter.unusedVariables false
set_option linter.unusedSimpArgs false
set_option maxRecDepth 100000
section
variable {R : Ending → World → Prop} {w : World}
set_option maxHeartbeats 1000000 in
theorem piece_any (f o n : Int) (h : ∀ w', Kp [] w w' → R (.returned (.agg #[.int .i64 f, .int .i64 o, .int .i64 n])) w') : Calls Try.prog 35 #[.int .i64 f, .int .i64 o, .int .i64 n] w R := by
  have H := Lib.hid h
  clear h
  go_enter Try.func35, Try.ntmps35
  go_wp2
  exact bodyPost_ret (v := .agg #[.int .i64 f, .int .i64 o, .int .i64 n]) (by simp [results, Try.results35, go_sem]; try rfl) rfl (H.out _ ((Kp.refl _ _).alloc _))
/-- A call of plain numbers. -/
def numC (op env : Int) : Kc := ⟨op, env, 0, 0, 0, none, 0, 0, [], none, 0, 0, [], none, 0, 0, []⟩
theorem numC_ok (op env : Int) (w : World) : (numC op env).ok w := ⟨Tb.nil, rfl, by simp [numC], fun _ => ⟨rfl, rfl⟩, Tb.nil, rfl, by simp [numC], fun _ => ⟨rfl, rfl⟩, by simp [numC], Tb.nil, rfl, by simp [numC], fun _ => ⟨rfl, rfl⟩, by simp [numC]⟩
/-- The kernel of KernSends, step by step. -/
def ks1 : KS := { kz0 4 8 with fs := fs1 }
def ks2 (P : List UInt8) : KS := { kz0 4 8 with fs := [⟨1, 0, P⟩, fz, fz, fz] }
theorem ks_call1 {B : Nat} {a : KA} (hK : Kn w B a (kz0 4 8)) (h : ∀ A cc a' w', Kq B w w' → (Kn w' B a' ks1 ∧ a'.g = a.g ∧ a'.bT = a.bT) → R (.returned (.tuple #[.agg #[.int .i64 0, .slice A 0 cc], .int .i64 0])) w') :
    Calls Try.prog 33 #[.pointer (some ⟨a.g, 0, none⟩), .agg #[.int .i64 1, .int .i64 1, .int .i64 0, .int .i64 0, .int .i64 0, .slice none 0 0, .slice none 0 0, .slice none 0 0]] w R := by
  refine kcall_any (x := numC 1 1) hK (kz0_cnt 4 8 (by omega)) (by omega) (numC_ok _ _ _) (fun n A len cc l e k' a' w' hs q n9 hl ht => ?_)
  have h1 := hs.out
  unfold kStep at h1
  rw [if_neg (by simp [numC]), if_pos (by simp [numC])] at h1
  have h2 : kFB (kz0 4 8) (numC 1 1) = ⟨0, [], 0, ks1⟩ := by
    unfold kFB
    rw [if_pos (show (numC 1 1).op = 1 from rfl)]
    show KR.mk (tAlloc (List.replicate 4 fz) 1).1 [] (tAlloc (List.replicate 4 fz) 1).2.1 { kz0 4 8 with fs := (tAlloc (List.replicate 4 fz) 1).2.2 } = _
    rw [tAlloc_first]; rfl
  rw [h2] at h1
  injection h1 with e1 e2 e3 e4
  subst e1; subst e2; subst e3; subst e4
  subst hl
  exact h A cc a' w' q n9
theorem ks1_cnt : ks1.cnt 1 := ⟨by simp [ks1, kz0, dz], by simp [ks1, kz0], by simp [ks1, kz0], by simp [ks1, kz0], by simp [ks1, kz0], by simp [ks1, kz0], by simp [ks1, kz0], fun y hy => by simp [ks1, fs1] at hy; rcases hy with rfl | rfl <;> simp [fz]⟩
theorem ks2_cnt (P : List UInt8) : (ks2 P).cnt 2 := ⟨by simp [ks2, kz0, dz], by simp [ks2, kz0], by simp [ks2, kz0], by simp [ks2, kz0], by simp [ks2, kz0], by simp [ks2, kz0], by simp [ks2, kz0], fun y hy => by simp [ks2] at hy; rcases hy with rfl | rfl <;> simp [fz]⟩
theorem ks_call5 {B : Nat} {a : KA} {off n c5 : Nat} {s : List UInt8} {A5 : Option Addr} (hK : Kn w B a ks1) (hs : s.length = n) (ho : off + n ≤ 256) (hT : Tb w 5 A5 (bts s)) (h0 : A5 = none → False) (h : ∀ v a' w', Kq B w w' → (Kn w' B a' (ks2 (putB z256 off s)) ∧ a'.g = a.g ∧ a'.bT = a.bT) → R (.returned v) w') :
    Calls Try.prog 33 #[.pointer (some ⟨a.g, 0, none⟩), .agg #[.int .i64 5, .int .i64 1, .int .i64 0, .int .i64 off, .int .i64 0, .slice A5 n c5, .slice none 0 0, .slice none 0 0]] w R := by
  refine kcall_any (x := ⟨5, 1, 0, off, 0, A5, n, c5, s, none, 0, 0, [], none, 0, 0, []⟩) hK ks1_cnt (by omega) ⟨hT, hs, by show n ≤ _; omega, fun h => (h0 h).elim, Tb.nil, rfl, by show 0 ≤ _; omega, fun _ => ⟨rfl, rfl⟩, by simp, Tb.nil, rfl, by show 0 ≤ _; omega, fun _ => ⟨rfl, rfl⟩, by simp⟩ (fun n1 A len cc l e k' a' w' hst q n9 hl ht => ?_)
  have h1 := hst.out
  unfold kStep at h1
  rw [if_neg (by simp), if_pos (by simp)] at h1
  have h2 : kFB ks1 ⟨5, 1, 0, off, 0, A5, n, c5, s, none, 0, 0, [], none, 0, 0, []⟩ = ⟨0, [], 0, ks2 (putB z256 off s)⟩ := by
    unfold kFB
    rw [if_neg (by simp), if_neg (by simp), if_neg (by simp), if_neg (by simp), if_pos rfl]
    show KR.mk 0 [] (tWrite fs1 1 0 off s).1 { ks1 with fs := (tWrite fs1 1 0 off s).2 } = _
    rw [tWrite_first hs ho]; rfl
  rw [h2] at h1
  injection h1 with e1 e2 e3 e4
  subst e4
  exact h _ a' w' q n9
theorem ks_call11 {B : Nat} {a : KA} {off n c7 : Nat} {P : List UInt8} {A5 A6 A7 : Option Addr} {c5 c6 : Nat} {s5 : List UInt8} (hK : Kn w B a (ks2 P)) (h1 : 1 ≤ n) (ho : off + n ≤ 256) (h5 : Tb w 5 A5 (bts [])) (h50 : A5 = none → False) (h6 : Ow w 82 4 A6 0 c6 []) (h7 : Ow w 70 3 A7 1 c7 (pcS off n).vals) (h : ∀ A len cc e1 a' k' w', Kq B w w' → (Kn w' B a' k' ∧ a'.g = a.g ∧ a'.bT = a.bT) → Hid (SInv 3 P off n k') → R (.returned (.tuple #[.agg #[.int .i64 e1, .slice A len cc], .int .i64 0])) w') :
    Calls Try.prog 33 #[.pointer (some ⟨a.g, 0, none⟩), .agg #[.int .i64 11, .int .i64 1, .int .i64 0, .int .i64 0, .int .i64 0, .slice A5 0 c5, .slice A6 0 c6, .slice A7 1 c7]] w R := by
  have hpo : (pcS off n).ok := by
    refine ⟨⟨?_, ?_⟩, ⟨?_, ?_⟩, ⟨?_, ?_⟩⟩ <;> (simp only [pcS]; omega)
  refine kcall_any (x := ⟨11, 1, 0, 0, 0, A5, 0, c5, [], A6, 0, c6, [], A7, 1, c7, [pcS off n]⟩) hK (ks2_cnt P) (by omega) ⟨h5, rfl, by show 0 ≤ _; omega, fun h => (h50 h).elim, Tb.nil, rfl, by show 0 ≤ _; omega, fun h => h6.nilA h, by simp, by simpa using h7.tb, rfl, by show 1 ≤ _; omega, fun h => by have := (h7.nilA h).1; omega, by intro q hq; simp at hq; subst hq; exact hpo⟩ (fun n1 A len cc l e k' a' w' hst q n9 hl ht => ?_)
  have g1 := hst.out
  unfold kStep at g1
  rw [if_neg (by simp), if_neg (by simp), if_neg (by simp), if_neg (by simp), if_pos rfl] at g1
  have hc : checkE (ks2 P).fs 1 [pcS off n] = 0 := send_check h1 ho
  rcases g1.1 with ⟨g2, _⟩ | ⟨_, g2, _⟩ | ⟨_, _, g3, g4, y, y1, y2, g5⟩
  · simp [ks2, kz0] at g2
  · exact absurd hc g2
  · subst g4
    have hcn := kStep_cnt hst.out (ks2_cnt P) (by simp [ks2, kz0])
    subst g5
    exact h A len cc n1 a' _ w' q n9 (Lib.hid ⟨show heldAs (holdAll [⟨1, 0, P⟩, fz, fz, fz] 1 [pcS off n]) 0 1 P from send_held, ⟨y, [], by simp [ks2, kz0], y1, y2⟩, hcn⟩)
end
end Go.Proofs.Ytogipajanbgenaa
