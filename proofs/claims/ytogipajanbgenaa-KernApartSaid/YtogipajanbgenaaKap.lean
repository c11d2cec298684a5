/- KernApart walked. -/
import Derived.Test.YtogipajanbgenaaArr
import Derived.Test.YtogipajanbgenaaKw
import Derived.Lib.BufferWrite
import Derived.Deep.DeepCutAuto
import Derived.Deep.CutBlock
namespace Go.Proofs.Ytogipajanbgenaa
open Go.RowKit Go.Shelf
set_option linter.unusedVariables false
set_option linter.unusedSimpArgs false
set_option maxRecDepth 100000
/-- The kernel with the first environment's frame and block. -/
def ks3 (P : List UInt8) : KS := { ks2 P with d := (dWrite (kz0 4 8).d 1 0 P).2 }
theorem may00 : dMay (kz0 4 8).d 1 0 = 0 := by kernel_rfl
theorem ks3_w {P : List UInt8} (hP : P.length = 256) : dWrite (kz0 4 8).d 1 0 P = (0, { (kz0 4 8).d with ln := [⟨0, P⟩] }) := by
  unfold dWrite
  rw [if_pos may00, if_pos hP]; rfl
theorem ks3_inv {P : List UInt8} : HInv (ks3 P) := ⟨by simp [ks3, ks2, kz0], fun f x hx => by
  have hm : x ∈ [⟨1, 0, P⟩, fz, fz, fz] := List.mem_of_getElem? (show [(⟨1, 0, P⟩ : Fr), fz, fz, fz][f]? = some x from hx)
  simp at hm
  rcases hm with rfl | rfl <;> simp [ks3, ks2, kz0, fz, cntP]⟩
theorem ks3_cnt {P : List UInt8} (hP : P.length = 256) : (ks3 P).cnt 3 := by
  have h2 := ks2_cnt P
  refine ⟨?_, by have := h2.nx; show (ks2 P).nx ≤ _; omega, by have := h2.c1; show (ks2 P).f1 + (ks2 P).q1.length ≤ _; omega, by have := h2.c2; show (ks2 P).f2 + (ks2 P).q2.length ≤ _; omega, by have := h2.co; show (ks2 P).fo + (ks2 P).qo.length ≤ _; omega, by have := h2.dn; show (ks2 P).dn ≤ _; omega, h2.fl, fun y hy => by have := h2.ho y hy; omega⟩
  unfold ks3
  rw [ks3_w hP]; simp
theorem AInv.mono {m m' : Nat} {P blk : List UInt8} {k : KS} (h : AInv m P blk k) (hm : m ≤ m') : AInv m' P blk k := ⟨h.h, h.f, h.a, ⟨by have := h.c.ln; omega, by have := h.c.nx; omega, by have := h.c.c1; omega, by have := h.c.c2; omega, by have := h.c.co; omega, by have := h.c.dn; omega, h.c.fl, fun y hy => by have := h.c.ho y hy; omega⟩, h.q, h.o, h.m, h.s⟩
theorem AInv.arr1 {m : Nat} {P blk : List UInt8} {k k1 : KS} {s : List UInt8} {n e : Int} (hi : AInv m P blk k) (h : kArr k s n e k1) (hs : s.length ≤ 1024) : e = 0 ∧ n = 1 := by
  rcases hi.a.arrives h with ⟨g1, _⟩ | ⟨_, g2, _⟩ | ⟨_, _, g3, g4, _⟩
  · omega
  · rw [hi.q] at g2; simp at g2
  · exact ⟨g4, g3⟩
theorem AInv.read {m : Nat} {P blk : List UInt8} {k : KS} {s : List UInt8} {n : Nat} (hi : AInv m P blk k) (hP : P = putB z256 0 s) (hs : s.length = n) (hn : n ≤ 256) : tRead k.fs 1 0 0 n = (0, s) := by
  obtain ⟨x, hx, h1, h2⟩ := hi.o
  have hf : fat k.fs 0 = some x := by simp [fat, hx]
  have he : ownE k.fs 1 0 = 0 := by unfold ownE; rw [if_pos (by simp [envB]), hf]; simp [h1]
  have hp : spanB 0 n = true := by simp [spanB]; omega
  unfold tRead
  rw [if_pos he, if_neg (by simp [hp]), hf]
  simp only
  rw [h2, hP]
  have := cut_put (off := 0) hs (by omega)
  exact congrArg (Prod.mk 0) this
theorem AInv.owner {m : Nat} {P blk : List UInt8} {k : KS} (hi : AInv m P blk k) : tOwner k.fs 0 = 1 := by
  obtain ⟨x, hx, h1, h2⟩ := hi.o
  have hf : fat k.fs 0 = some x := by simp [fat, hx]
  unfold tOwner; rw [hf]; exact h1
theorem Rb.offU {w w' : World} {s r f : Nat} {S : List Nat} (h : Rb w s r f []) (hk : Kp S w w') (h1 : s ∉ S) (h2 : r ∉ S) : Rb w' s r f [] :=
  ⟨h.hs.kp hk h1, by obtain ⟨cs, a, b, c⟩ := h.hr; exact ⟨cs, a.kp hk h2, b, c⟩, h.room, fun x hx => by cases hx⟩
/-- A store into a row of bytes, while no bytes wait. -/
theorem Kn.offU {B : Nat} {w w' : World} {a : KA} {k : KS} {S : List Nat} (h : Kn w B a k) (h1 : k.q1 = []) (h2 : k.q2 = []) (hk : Kp S w w') (o : ∀ e, 5 ≠ e → Off w S e) : Kn w' B a k :=
  ⟨h.g.off hk (o _ (by decide)), h.t.kp hk ((o _ (by decide)).nin h.t.t.ty) ((o _ (by decide)).nin h.t.l.ty), h.d.off hk (o _ (by decide)) (o _ (by decide)) (o _ (by decide)) (o _ (by decide)), h.fl.off hk (o _ (by decide)), fun x hx => ⟨(h.fd x hx).1, (h.fd x hx).2.1, (h.fd x hx).2.2.kp hk (o _ (by decide))⟩, by have := h.i1; rw [h1] at this ⊢; exact this.offU hk ((o _ (by decide)).nin this.hs.ty) ((o _ (by decide)).nin h.r1), by have := h.i2; rw [h2] at this ⊢; exact this.offU hk ((o _ (by decide)).nin this.hs.ty) ((o _ (by decide)).nin h.r2), h.o.off hk ((o _ (by decide)).nin h.o.hs.ty) ((o _ (by decide)).nin h.ro) (o _ (by decide)), h.new⟩
theorem made_z256 : (madeCells #[Value.int .u8 0] 256).toList = bts z256 := by kernel_rfl
theorem put_cells {s : ByteArray} (hs : s.size ≤ 256) : (((bts z256).toArray.toList.take 0 ++ Lib.byteCells s.data.toList ++ (bts z256).toArray.toList.drop (0 + s.size)).toArray).toList = bts (putB z256 0 s.data.toList) := by
  have hsl : s.data.toList.length = s.size := Array.length_toList
  have hb : Lib.byteCells s.data.toList = bts s.data.toList := rfl
  rw [hb]
  simp only [putB, List.toList_toArray, List.take_zero, List.nil_append, bts_append, bts_drop, Int.toNat_zero, hsl, Nat.zero_add]
/-- The memory of KernApart. -/
structure KP (w wr : World) (B : Nat) (ka : KA) (k : KS) (b7 g9 : Nat) (A4 : Option Addr) (c4 : Nat) (P : List UInt8) : Prop where
  kp : Kp [] w wr
  kn : Kn wr B ka k
  b7 : Bk wr b7 59 [.int .i64 0, .slice A4 0 c4]
  g9 : Tb wr 5 (some ⟨g9, 0, none⟩) (bts P)
section
variable {w wr w' : World} {B b7 g9 c4 : Nat} {ka ka' : KA} {k k' : KS} {A4 : Option Addr} {P : List UInt8}
theorem KP.off (h : KP w wr B ka k b7 g9 A4 c4 P) (hk : Kp [] wr w') : KP w w' B ka k b7 g9 A4 c4 P := ⟨h.kp.trans hk, h.kn.off0 hk, h.b7.kp hk (by simp), h.g9.kp hk (Off.nil _ _)⟩
theorem KP.kq (h : KP w wr B ka k b7 g9 A4 c4 P) (hk : Kq B wr w') (hn : Kn w' B ka' k') (hB : w.heap.size ≤ B) : KP w w' B ka' k' b7 g9 A4 c4 P := ⟨hk.old h.kp hB, hn, hk.bk h.b7 (by decide), hk.tb h.g9 (by decide)⟩
end
section
variable {R : Ending → World → Prop} {w : World}
theorem ks_call7 {B : Nat} {a : KA} {g c5 : Nat} {P : List UInt8} (hK : Kn w B a (ks2 P)) (hP : P.length = 256) (hT : Tb w 5 (some ⟨g, 0, none⟩) (bts P)) (h : ∀ v a' w', Kq B w w' → (Kn w' B a' (ks3 P) ∧ a'.g = a.g ∧ a'.bT = a.bT) → R (.returned v) w') :
    Calls Try.prog 33 #[.pointer (some ⟨a.g, 0, none⟩), .agg #[.int .i64 7, .int .i64 1, .int .i64 0, .int .i64 0, .int .i64 0, .slice (some ⟨g, 0, none⟩) 256 c5, .slice none 0 0, .slice none 0 0]] w R := by
  refine kcall_any (x := ⟨7, 1, 0, 0, 0, some ⟨g, 0, none⟩, 256, c5, P, none, 0, 0, [], none, 0, 0, []⟩) hK (ks2_cnt P) (by omega) ⟨hT, hP, by show 256 ≤ _; omega, fun h => (by cases h), Tb.nil, rfl, by show 0 ≤ _; omega, fun _ => ⟨rfl, rfl⟩, by simp, Tb.nil, rfl, by show 0 ≤ _; omega, fun _ => ⟨rfl, rfl⟩, by simp⟩ (fun n1 A len cc l e k' a' w' hst q n9 hl ht => ?_)
  have h1 := hst.out
  unfold kStep at h1
  rw [if_neg (by simp), if_pos (by simp)] at h1
  have h2 : (kFB (ks2 P) ⟨7, 1, 0, 0, 0, some ⟨g, 0, none⟩, 256, c5, P, none, 0, 0, [], none, 0, 0, []⟩).k = ks3 P := by
    unfold kFB
    rw [if_neg (by simp), if_neg (by simp), if_neg (by simp), if_neg (by simp), if_neg (by simp), if_neg (by simp), if_pos rfl]
    rfl
  rw [h1] at h2
  subst h2
  exact h _ a' w' q n9
set_option maxHeartbeats 8000000 in
theorem kapart_walk (s : ByteArray) (hsz : s.size ≤ maxLen) (a : Sin KAct) (ha : a.ok w KAct.vals (KAct.ok w)) (h : ∀ w', Kp [] w w' → R (.returned (.bool true)) w') :
    Calls Try.prog 6 #[.slice a.A a.n a.c, .string s] w R := by
  have H := Lib.hid h
  obtain ⟨A, n, c, l⟩ := a
  obtain ⟨hl, hcap, hmax, hall, hrd, _⟩ := ha
  simp only at hl hcap hmax hall hrd
  have hmx : c ≤ 9223372036854775807 := hmax
  have hsx : s.size ≤ 9223372036854775807 := hsz
  have HFar : Hid (∀ (R : Ending → World → Prop) (w1 : World), Kp [] w w1 → (∀ w', Kp [] w1 w' → R (.returned (.bool (kfar l))) w') → Calls Try.prog 31 #[.slice A n c] w1 R) := Lib.hid (fun R w1 k1 h => kfar_any (hrd.kp k1 (by simp)) hl (by omega) h)
  have HA := Lib.hid hall
  have HR := Lib.hid hrd
  have HL := Lib.hid hl
  clear h hl hall hrd hmax hsz
  cases hf : kfar l with
  | true =>
    rw [hf] at HFar
    go_enter Try.func6, Try.ntmps6
    go_wp2_with (first | (go_at_call 30; ((refine alive09_any _ ?_); intro w1 k1)) | (go_at_call 31; ((refine HFar.out _ _ k1 ?_); intro w2 k2)))
    exact H.out _ (k1.trans k2)
  | false =>
    rw [hf] at HFar
    by_cases h2 : 200 < s.size
    · go_enter Try.func6, Try.ntmps6
      go_wp2_with (first | (go_at_call 30; ((refine alive09_any _ ?_); intro w1 k1)) | (go_at_call 31; ((refine HFar.out _ _ k1 ?_); intro w2 k2)))
      exact H.out _ (k1.trans k2)
    · have hfn : n ≤ 100 ∧ ∀ x ∈ l, farC x.c = false ∧ x.s.size ≤ 2000 := by
        have hl := HL.out
        simp only [kfar, Bool.or_eq_false_iff, decide_eq_false_iff_not] at hf
        refine ⟨by omega, fun x hx => ?_⟩
        have := List.any_eq_false.1 hf.2 x hx
        simp at this
        exact ⟨by simp [this.1], by omega⟩
      obtain ⟨hn100, hfc⟩ := hfn
      have HFC := Lib.hid hfc
      obtain ⟨bw, cw, hcs, hszb, hbk, hbr⟩ := conv_letter s
      have HBK := Lib.hid hbk
      have HBR := Lib.hid hbr
      clear hbk hbr hf hfc
      obtain ⟨P, hP⟩ : ∃ P, putB z256 0 s.data.toList = P := ⟨_, rfl⟩
      have hsl : s.data.toList.length = s.size := Array.length_toList
      have hPl : P.length = 256 := by rw [← hP]; have := z256_len; simp [putB]; omega
      have HP := Lib.hid hP
      have HPL := Lib.hid hPl
      have HNew : Hid (∀ (R : Ending → World → Prop) (w : World), (∀ a w', Kp [] w w' → Kn w' w.heap.size a (kz0 4 8) → R (.returned (.tuple #[.pointer (some ⟨a.g, 0, none⟩), .int .i64 0])) w') → Calls Try.prog 32 #[.int .i64 4, .int .i64 8] w R) := Lib.hid (fun R w h => knew2_any 4 8 (by omega) (by omega) (by omega) (by omega) w h)
      have HC1 : Hid (∀ (R : Ending → World → Prop) (w : World) (B : Nat) (a : KA), Kn w B a (kz0 4 8) → (∀ A cc a' w', Kq B w w' → (Kn w' B a' ks1 ∧ a'.g = a.g ∧ a'.bT = a.bT) → R (.returned (.tuple #[.agg #[.int .i64 0, .slice A 0 cc], .int .i64 0])) w') → Calls Try.prog 33 #[.pointer (some ⟨a.g, 0, none⟩), .agg #[.int .i64 1, .int .i64 1, .int .i64 0, .int .i64 0, .int .i64 0, .slice none 0 0, .slice none 0 0, .slice none 0 0]] w R) := Lib.hid (fun R w B a hK h => ks_call1 hK h)
      clear hP hPl
      go_enter Try.func6, Try.ntmps6
      go_upto_region 7 with (first | (go_at_call 30; ((refine alive09_any _ ?_); intro w1 k1)) | (go_at_call 31; ((refine HFar.out _ _ k1 ?_); intro w2 k2)) | (go_at_call 32; ((refine HNew.out _ _ ?_); intro ka w3 k3 n3)) | (go_at_call 33; ((with_reducible refine HC1.out _ _ _ _ n3 ?_); intro A4 cc4 ka4 w4 q4 n4)))
      have b9 : Bk (w4.alloc (.cells #[.int .i64 0, .slice A4 0 cc4] 59)) w4.heap.size 59 [.int .i64 0, .slice A4 0 cc4] := (Bk.new' _ _ _).cast rfl
      refine gen_worldK (fun W => ∃ c9, w4.heap.size = c9 ∧ Hid (Kp [] w W ∧ Kn W w2.heap.size ka4 ks1 ∧ Bk W c9 59 [.int .i64 0, .slice A4 0 cc4] ∧ w.heap.size ≤ w2.heap.size)) ⟨_, rfl, Lib.hid ⟨((q4.old ((k1.trans k2).trans k3) (k1.trans k2).size)).alloc _, n4.1.off0 ((Kp.refl [] _).alloc _), b9, (k1.trans k2).size⟩⟩ ?_
      rintro W5 ⟨c9, hc9, hW5⟩
      rw [hc9]
      have hg4 : ka4.g = ka.g := n4.2.1
      rw [← hg4]
      obtain ⟨B, hB⟩ : ∃ B, w2.heap.size = B := ⟨_, rfl⟩
      rw [hB] at hW5
      have hwB : w.heap.size ≤ B := hW5.out.2.2.2
      clear hc9 b9 hg4 n4 q4 n3 k3 k2 k1 hB HNew HC1 HFar
      have HC5 : Hid (∀ (R : Ending → World → Prop) (w : World) (b : Nat), Kn w B ka4 ks1 → Tb w 5 (some ⟨b, 0, none⟩) (bts s.data.toList) → (∀ v a' w', Kq B w w' → (Kn w' B a' (ks2 P) ∧ a'.g = ka4.g ∧ a'.bT = ka4.bT) → R (.returned v) w') → ∀ c5, Calls Try.prog 33 #[.pointer (some ⟨ka4.g, 0, none⟩), .agg #[.int .i64 5, .int .i64 1, .int .i64 0, .int .i64 0, .int .i64 0, .slice (some ⟨b, 0, none⟩) s.size c5, .slice none 0 0, .slice none 0 0]] w R) := Lib.hid (fun R w b hK hT h c5 => by
        have h' : ∀ v a' w', Kq B w w' → (Kn w' B a' (ks2 (putB z256 (0 : Nat) s.data.toList)) ∧ a'.g = ka4.g ∧ a'.bT = ka4.bT) → R (.returned v) w' := fun v a' w' q hn => h v a' w' q (by have := HP.out; rw [← this]; exact hn)
        exact ks_call5 (off := 0) hK hsl (by omega) hT (fun h => by cases h) h')
      have e9 : W5.cell? ⟨c9, 0, none⟩ = some (.int .i64 0) := hW5.out.2.2.1.cell 0
      obtain ⟨i1, ji, jz0, jz1, jz2⟩ := info_parts elt_u8.2.1
      have hmk := fun W => run_make (P := Try.prog) W 44 5 i1 _ Try.underlying44 ji jz0 .i64 .i64 256 256 (by omega) (by omega) (by rw [jz2]; omega) (by omega)
      simp only [jz1] at hmk
      clear ji jz0 jz1 jz2
      go_upto_region 9 with (go_at_call 33; ((refine HC5.out _ _ _ (hW5.out.2.1.off0 (HBK.out _ _ _ (Kp.refl [] _))) (HBR.out _ _ rfl) ?_ _); intro v5 ka5 w6 q6 n6))
      refine gen_worldK (fun W => ∃ g9, w6.heap.size = g9 ∧ Hid (Kp [] w W ∧ Kn W B ka5 (ks2 P) ∧ Bk W c9 59 [.int .i64 0, .slice A4 0 cc4] ∧ Bk W g9 5 (bts z256) ∧ w.heap.size ≤ g9)) ⟨_, rfl, Lib.hid (by
        obtain ⟨x1, x2, x3, x4⟩ := hW5.out
        have kb := HBK.out [] w W5 x1
        have k6 := q6.old kb hwB
        have ka := (Kp.refl [] w6).alloc (.cells (madeCells #[Value.int .u8 0] 256) 5)
        exact ⟨k6.trans ka, n6.1.off0 ka, (q6.bk (x3.kp (HBK.out _ _ _ (Kp.refl [] W5)) (by simp)) (by decide)).kp ka (by simp), (Bk.new' _ _ _).cast made_z256, k6.size⟩)⟩ ?_
      rintro W7 ⟨g9, hg9, hW7⟩
      rw [hg9]
      have hg5 : ka5.g = ka4.g := n6.2.1
      rw [← hg5]
      have hcp := fun ty => Lib.run_copy_row_string (P := Try.prog) W7 44 9 ty 5 g9 0 256 256 s (bts z256).toArray 5 Try.underlying44 elt_u8.one hW7.out.2.2.2.1 (by omega) (by simp [bts_len, z256_len]; omega)
      obtain ⟨X, hX⟩ : ∃ X : Array Value, ((bts z256).toArray.toList.take 0 ++ Lib.byteCells s.data.toList ++ (bts z256).toArray.toList.drop (0 + s.size)).toArray = X := ⟨_, rfl⟩
      have HX : Hid (X.toList = bts P) := Lib.hid (by rw [← hX, put_cells (by omega), HP.out])
      simp only [hX] at hcp
      have HG5 := Lib.hid hg5
      clear hg9 q6 n6 hW5 e9 hmk HC5 hX hg5
      go_upto_region 10 with (fail)
      refine gen_worldK (fun W => Hid (KP w W B ka5 (ks2 P) c9 g9 A4 cc4 P)) (Lib.hid (by
        obtain ⟨x1, x2, x3, x4, x5⟩ := hW7.out
        have ks := (Kp.refl [g9] W7).setRow (g := g9) (.inl (by simp)) X
        have oU : ∀ e, 5 ≠ e → Off W7 [g9] e := fun e he => Off.one x4.ty he
        have hb := (x4.row X).cast HX.out
        exact ⟨x1.thn ks (fun s hs => .inr (by simp at hs; omega)), x2.offU rfl rfl ks oU, x3.kp ks (by simp; exact x3.ne_ x4 (by decide)), Ow.tb (n := 256) (sz := 1) (c := 256) ⟨by rw [bts_len, HPL.out], .inr ⟨g9, 256, (bts P).toArray, rfl, Nat.zero_le _, hb, Nat.le_refl _, by decide, by simp [bts_len, HPL.out], by simp [bts_len, HPL.out, List.take_of_length_le]⟩⟩⟩)) ?_
      clear hW7 hcp
      intro W8 hW8
      have HC7 : Hid (∀ (R : Ending → World → Prop), (∀ v a' w', Kq B W8 w' → (Kn w' B a' (ks3 P) ∧ a'.g = ka5.g ∧ a'.bT = ka5.bT) → R (.returned v) w') → Calls Try.prog 33 #[.pointer (some ⟨ka5.g, 0, none⟩), .agg #[.int .i64 7, .int .i64 1, .int .i64 0, .int .i64 0, .int .i64 0, .slice (some ⟨g9, 0, none⟩) 256 256, .slice none 0 0, .slice none 0 0]] W8 R) := Lib.hid (fun R h => ks_call7 hW8.out.kn HPL.out hW8.out.g9 h)
      go_upto_region 11 with (go_at_call 33; ((with_reducible refine HC7.out _ ?_); intro v7 ka6 w9 q9 n9))
      have hg6 : ka6.g = ka5.g := n9.2.1
      have N9 := Lib.hid n9.1
      rw [← hg6]
      clear HC7 hg6 n9
      have HC9 : Hid (∀ (R : Ending → World → Prop), (∀ v ka7 k7 w', Kq B w9 w' → ka7.g = ka6.g → Hid (Kn w' B ka7 k7 ∧ AInv 4 P P k7) → R (.returned v) w') → Calls Try.prog 33 #[.pointer (some ⟨ka6.g, 0, none⟩), .agg #[.int .i64 9, .int .i64 1, .int .i64 0, .int .i64 0, .int .i64 0, .slice none 0 0, .slice (some ⟨w9.heap.size, 0, none⟩) 1 1, .slice none 0 0]] (w9.alloc (.cells #[.int .i64 7, .int .u32 1, .int .i64 0, .int .i64 0] 82)) R) := Lib.hid (fun R h => by
        have kv := (Kp.refl [] w9).alloc (.cells #[.int .i64 7, .int .u32 1, .int .i64 0, .int .i64 0] 82)
        refine kbind1 (N9.out.off0 kv) (ks3_cnt HPL.out) (by omega) (Ow.tb (n := 1) (sz := 4) (c := 1) (Ow.lit w9 82 4 #[.int .i64 7, .int .u32 1, .int .i64 0, .int .i64 0] 1 (by decide) rfl)) (fun h => by cases h) rfl ks3_inv (fun v ka7 k7 w' q nk gk ck ik => ?_)
        obtain ⟨i1, i2, i3, i4, i5, i6, i7, i8, i9⟩ := ik.out
        refine h v ka7 k7 w' ((Kq.of0 kv).trans q) gk (Lib.hid ⟨nk, i1, i2, i3, ck, by rw [i6]; rfl, ⟨⟨1, 0, P⟩, by rw [i4]; rfl, rfl, rfl⟩, ?_, ?_⟩)
        · rw [i5]
          exact (dMay_write _ _ _ _ _ _).trans may00
        · rw [i5]
          show dSee (dWrite (kz0 4 8).d 1 0 P).2 0 = P
          rw [ks3_w HPL.out]
          simp [dSee, lastOf])
      go_upto_region 12 with (go_at_call 33; ((with_reducible refine HC9.out _ ?_); intro v4 ka7 k7 w10 q10 g10 h10))
      have g7 : ka7.g = ka6.g := g10
      rw [← g7]
      have KP0 : Hid (KP w w10 B ka7 k7 c9 g9 A4 cc4 P) := Lib.hid ((hW8.out.kq q9 N9.out hwB).kq q10 h10.out.1 hwB)
      have AI0 : Hid (AInv 4 P P k7) := Lib.hid h10.out.2
      clear g7 g10 h10 q10 q9 N9 hW8 HC9 HX HG5
      go_wp2
      go_loopw [10] (fun iv wr => ∃ (i : Nat) (ka8 : KA) (k8 : KS), i ≤ n ∧ iv = .int .i64 i ∧ ka8.g = ka7.g ∧ Hid (KP w wr B ka8 k8 c9 g9 A4 cc4 P) ∧ Hid (AInv (4 + 5 * i) P P k8)) (fun iv _ => n - (intOf iv).toNat)
      case atStart => exact ⟨0, ka7, k7, Nat.zero_le _, rfl, rfl, KP0, AI0⟩
      case round =>
        obtain ⟨i, ka8, k8, hi, rfl, hg8, hS, hC⟩ := hrel
        by_cases hlt : i < n
        · obtain ⟨x, hx, hm⟩ := get_lt (l := l) (k := i) (by have := HL.out; omega)
          obtain ⟨b, o, rfl, _, hbl, hc⟩ := rd_at (HR.out.kp hS.out.kp (by simp)) kavals_len (by have := HL.out; omega) hx
          obtain ⟨c0, c1, c2, c3, c4, c5, c6, c7, c8, c99⟩ := kact_cells hc
          obtain ⟨xk, xc, xs⟩ := x
          obtain ⟨hfx, hsx2⟩ := HFC.out _ hm
          have HAX := Lib.hid (HA.out _ hm)
          simp only at c0 c1 c2 c3 c4 c5 c6 c7 c8 c99 hsx2
          clear hc hm
          have HCELL : Hid (∀ w', Kp [] w w' → w'.cell? ⟨b, o + i * 10, none⟩ = some (.int .i64 xk) ∧ w'.cell? ⟨b, o + i * 10 + 9, none⟩ = some (.string xs)) := Lib.hid (fun w' k' => by
            obtain ⟨b2, o2, e2, _, _, hc2⟩ := rd_at (HR.out.kp k' (by simp)) kavals_len (by have := HL.out; omega) hx
            injection e2 with e2
            injection e2 with e3 e4
            subst e3; subst e4
            exact ⟨(kact_cells hc2).1, (kact_cells hc2).2.2.2.2.2.2.2.2.2⟩)
          clear hx
          go_upto_if 74 with (fail)
          refine gen_worldK (fun W => ∃ bx, wr.heap.size = bx ∧ Hid (KP w W B ka8 k8 c9 g9 A4 cc4 P ∧ Bk W bx 67 [.int .i64 xc.op, .int .i64 2, .int .i64 xc.a, .int .i64 xc.b, .int .i64 xc.c, .string xc.s, .slice xc.p.A xc.p.n xc.p.c, .slice xc.l.A xc.l.n xc.l.c])) ⟨_, rfl, Lib.hid ⟨hS.out.off ((Kp.refl _ _).alloc _), (Bk.new' _ _ _).cast rfl⟩⟩ ?_
          rintro W0 ⟨bx, hbx, hW0⟩
          rw [hbx]
          obtain ⟨q0, q1, q2, q3, q4, q5, q6, q7⟩ := bk8 hW0.out.2
          have hS0 : Hid (KP w W0 B ka8 k8 c9 g9 A4 cc4 P) := Lib.hid hW0.out.1
          clear hW0 hbx c0 c1 c2 c3 c4 c5 c6 c7 c8 c99 hS hbl KP0 AI0
          go_cut [] (fun W' => ∃ (ka9 : KA) (k9 : KS), ka9.g = ka7.g ∧ Hid (KP w W' B ka9 k9 c9 g9 A4 cc4 P) ∧ Hid (AInv (5 + 5 * i) P P k9))
          case first =>
            by_cases hk2 : xk = 2
            · have f2 : (xk == 2) = true := by simp [hk2]
              clear hk2
              have HDep : Hid (∀ (R : Ending → World → Prop), (∀ v w', Hid (∃ ka' k', ka'.g = ka7.g ∧ KP w w' B ka' k' c9 g9 A4 cc4 P ∧ AInv (5 + 5 * i) P P k') → R (.returned v) w') → Calls Try.prog 39 #[.pointer (some ⟨ka7.g, 0, none⟩)] W0 R) := Lib.hid (fun R h => by
                rw [← hg8]
                refine kdep_any hS0.out.kn hC.out.c (by omega) (fun y q hq => (hC.out.h.first hq).1) (fun A len c2 l' env e k' a' w' hd q n9 hl ht => ?_)
                exact h _ w' (Lib.hid ⟨a', k', n9.2.1.trans hg8, hS0.out.kq q n9.1 hwB, (hC.out.dep hd.out).mono (by omega)⟩))
              go_wp2_with (go_at_call 39; ((with_reducible refine HDep.out _ ?_); intro v5 w5 h5))
              go_meet
              obtain ⟨ka9, k9, g9', hS9, hC9⟩ := h5.out
              exact ⟨ka9, k9, g9', Lib.hid hS9, Lib.hid hC9⟩
            · have f2 : (xk == 2) = false := by simp [hk2]
              clear hk2
              have HOfC : Hid (∀ (R : Ending → World → Prop), (∀ A5 c5 A6 c6 A7 c7 w', Kp [] W0 w' → Hid (Kc.ok w' ⟨xc.op, 2, xc.a, xc.b, xc.c, A5, xc.s.size, c5, xc.s.data.toList, A6, xc.p.n, c6, xc.p.l, A7, xc.l.n, c7, xc.l.l⟩) → R (.returned (.agg #[.int .i64 xc.op, .int .i64 2, .int .i64 xc.a, .int .i64 xc.b, .int .i64 xc.c, .slice A5 xc.s.size c5, .slice A6 xc.p.n c6, .slice A7 xc.l.n c7])) w') → Calls Try.prog 34 #[.agg #[.int .i64 xc.op, .int .i64 2, .int .i64 xc.a, .int .i64 xc.b, .int .i64 xc.c, .string xc.s, .slice xc.p.A xc.p.n xc.p.c, .slice xc.l.A xc.l.n xc.l.c]] W0 R) := Lib.hid (fun R h => by
                have hfx2 : farC xc = false := hfx
                obtain ⟨g1, g2, g3⟩ := farC_no hfx2
                have hk : xc.ok w := HAX.out.c
                have kk := hS0.out.kp
                refine of09_any ⟨xc.op, 2, xc.a, xc.b, xc.c, xc.s, xc.p, xc.l⟩ W0 (hk.p.rd.kp kk (by simp)) hk.p.len g2 (hk.l.rd.kp kk (by simp)) hk.l.len g3 (fun A5 c5 A6 c6 A7 c7 w' k t5 f5 o6 f6 o7 f7 h5 => h A5 c5 A6 c6 A7 c7 w' k (Lib.hid ⟨t5, Array.length_toList, (by show xc.s.size ≤ _; omega), fun e => (h5 e).elim, o6.tb, hk.p.len, (by show xc.p.n ≤ _; omega), fun e => o6.nilA e, hk.p.all, o7.tb, hk.l.len, (by show xc.l.n ≤ _; omega), fun e => o7.nilA e, hk.l.all⟩)))
              have HCx : Hid (∀ (R : Ending → World → Prop) (w' : World) (A5 A6 A7 : Option Addr) (c5 c6 c7 : Nat), Kp [] W0 w' → Hid (Kc.ok w' ⟨xc.op, 2, xc.a, xc.b, xc.c, A5, xc.s.size, c5, xc.s.data.toList, A6, xc.p.n, c6, xc.p.l, A7, xc.l.n, c7, xc.l.l⟩) → (∀ v w2, Hid (∃ ka' k', ka'.g = ka7.g ∧ KP w w2 B ka' k' c9 g9 A4 cc4 P ∧ AInv (5 + 5 * i) P P k') → R (.returned v) w2) → Calls Try.prog 33 #[.pointer (some ⟨ka7.g, 0, none⟩), .agg #[.int .i64 xc.op, .int .i64 2, .int .i64 xc.a, .int .i64 xc.b, .int .i64 xc.c, .slice A5 xc.s.size c5, .slice A6 xc.p.n c6, .slice A7 xc.l.n c7]] w' R) := Lib.hid (fun R w' A5 A6 A7 c5 c6 c7 kw hok h => by
                rw [← hg8]
                refine kcall_any (x := ⟨xc.op, 2, xc.a, xc.b, xc.c, A5, xc.s.size, c5, xc.s.data.toList, A6, xc.p.n, c6, xc.p.l, A7, xc.l.n, c7, xc.l.l⟩) (hS0.out.kn.off0 kw) hC.out.c (by omega) hok.out (fun nn AA len c2 l' e k' a' w2 hst q n9 hl ht => ?_)
                exact h _ w2 (Lib.hid ⟨a', k', n9.2.1.trans hg8, (hS0.out.off kw).kq q n9.1 hwB, (hC.out.step hS0.out.kn.d.ok hS0.out.kn.o.room hok.out.po rfl hst.out).mono (by omega)⟩))
              go_wp2_with (first | (go_at_call 34; ((with_reducible refine HOfC.out _ ?_); intro A5 d5 A6 d6 A7 d7 w13 k13 ok13)) | (go_at_call 33; ((with_reducible refine HCx.out _ _ _ _ _ _ _ _ k13 ok13 ?_); intro v5 w5 h5)))
              go_meet
              obtain ⟨ka9, k9, g9', hS9, hC9⟩ := h5.out
              exact ⟨ka9, k9, g9', Lib.hid hS9, Lib.hid hC9⟩
          case rest =>
            obtain ⟨ka9, k9, hg9, hS9, hC9⟩ := hcut
            clear q0 q1 q2 q3 q4 q5 q6 q7 hS0 hC hg8 hfx HAX
            have e9 : wc.cell? ⟨c9, 0, none⟩ = some (.int .i64 0) := hS9.out.b7.cell 0
            have HC4 : Hid (∀ (R : Ending → World → Prop), (∀ A c4 ka' w', ka'.g = ka7.g → Hid (KP w w' B ka' k9 c9 g9 A4 cc4 P ∧ Tb w' 5 A (bts s.data.toList)) → R (.returned (.tuple #[.agg #[.int .i64 0, .slice A s.size c4], .int .i64 0])) w') → Calls Try.prog 33 #[.pointer (some ⟨ka7.g, 0, none⟩), .agg #[.int .i64 4, .int .i64 1, .int .i64 0, .int .i64 0, .int .i64 s.size, .slice none 0 0, .slice none 0 0, .slice none 0 0]] wc R) := Lib.hid (fun R h => by
              rw [← hg9]
              refine kcall_any (x := ⟨4, 1, 0, 0, s.size, none, 0, 0, [], none, 0, 0, [], none, 0, 0, []⟩) hS9.out.kn hC9.out.c (by omega) ⟨Tb.nil, rfl, by show 0 ≤ _; omega, fun _ => ⟨rfl, rfl⟩, Tb.nil, rfl, by show 0 ≤ _; omega, fun _ => ⟨rfl, rfl⟩, by simp, Tb.nil, rfl, by show 0 ≤ _; omega, fun _ => ⟨rfl, rfl⟩, by simp⟩ (fun nn AA len c2 l' e k' a' w2 hst q n9 hl ht => ?_)
              have h1 := hst.out
              unfold kStep at h1
              rw [if_neg (by simp), if_pos (by simp)] at h1
              unfold kFB at h1
              rw [if_neg (by simp), if_neg (by simp), if_neg (by simp), if_pos rfl] at h1
              have hrd := hC9.out.read (s := s.data.toList) HP.out.symm hsl (by omega)
              simp only at h1
              rw [hrd] at h1
              injection h1 with e1 e2 e3 e4
              subst e1; subst e2; subst e3; subst e4
              have hl2 : len = s.size := by rw [← hl]; exact hsl
              subst hl2
              exact h AA c2 a' w2 (n9.2.1.trans hg9) (Lib.hid ⟨hS9.out.kq q n9.1 hwB, ht⟩))
            have HC6 : Hid (∀ (R : Ending → World → Prop) (w0 : World) (ka0 : KA), ka0.g = ka7.g → KP w w0 B ka0 k9 c9 g9 A4 cc4 P → (∀ A c4 ka' w', ka'.g = ka7.g → Hid (Kq B w0 w' ∧ KP w w' B ka' k9 c9 g9 A4 cc4 P ∧ Tb w' 5 A (bts P)) → R (.returned (.tuple #[.agg #[.int .i64 0, .slice A 256 c4], .int .i64 0])) w') → Calls Try.prog 33 #[.pointer (some ⟨ka7.g, 0, none⟩), .agg #[.int .i64 6, .int .i64 1, .int .i64 0, .int .i64 0, .int .i64 0, .slice none 0 0, .slice none 0 0, .slice none 0 0]] w0 R) := Lib.hid (fun R w0 ka0 hg0 hS0 h => by
              rw [← hg0]
              refine kcall_any (x := numC 6 1) hS0.kn hC9.out.c (by omega) (numC_ok _ _ _) (fun nn AA len c2 l' e k' a' w2 hst q n9 hl ht => ?_)
              have h1 := hst.out
              unfold kStep at h1
              rw [if_neg (by simp [numC]), if_pos (by simp [numC])] at h1
              unfold kFB at h1
              rw [if_neg (by simp [numC]), if_neg (by simp [numC]), if_neg (by simp [numC]), if_neg (by simp [numC]), if_neg (by simp [numC]), if_pos (show (numC 6 1).op = 6 from rfl)] at h1
              have hrd : dRead k9.d (numC 6 1).env (numC 6 1).a = (0, P) := by
                show dRead k9.d 1 0 = _
                unfold dRead
                rw [if_pos hC9.out.m, hC9.out.s]
              rw [hrd] at h1
              injection h1 with e1 e2 e3 e4
              subst e1; subst e2; subst e3; subst e4
              have hl2 : len = 256 := by rw [← hl]; exact HPL.out
              subst hl2
              exact h AA c2 a' w2 (n9.2.1.trans hg0) (Lib.hid ⟨q, hS0.kq q n9.1 hwB, ht⟩))
            go_upto_region 22 with (first | (go_at_call 33; ((with_reducible refine HC4.out _ ?_); intro B4 d4 ka4' w14 g14 h14)) | (go_at_call 33; ((with_reducible refine HC6.out _ _ ka4' g14 (h14.out.1.off ((Kp.refl _ _).alloc _)) ?_); intro B6 d6 ka6' w16 g16 h16)))
            refine gen_worldK (fun W => ∃ b12 b14, w14.heap.size = b12 ∧ w16.heap.size = b14 ∧ Hid (KP w W B ka6' k9 c9 g9 A4 cc4 P ∧ Bk W b12 59 [.int .i64 0, .slice B4 s.size d4] ∧ Bk W b14 59 [.int .i64 0, .slice B6 256 d6] ∧ Tb W 5 B4 (bts s.data.toList) ∧ Tb W 5 B6 (bts P))) ⟨_, _, rfl, rfl, Lib.hid (by
              obtain ⟨x1, x2⟩ := h14.out
              obtain ⟨y1, y2, y3⟩ := h16.out
              have kv := (Kp.refl [] w14).alloc (.cells #[.int .i64 0, .slice B4 s.size d4] 59)
              have kw := (Kp.refl [] w16).alloc (.cells #[.int .i64 0, .slice B6 256 d6] 59)
              have hb : Bk (w14.alloc (.cells #[.int .i64 0, .slice B4 s.size d4] 59)) w14.heap.size 59 [.int .i64 0, .slice B4 s.size d4] := (Bk.new' _ _ _).cast rfl
              exact ⟨y2.off kw, (y1.bk hb (by decide)).kp kw (by simp), (Bk.new' _ _ _).cast rfl, (y1.tb (x2.kp kv (Off.nil _ _)) (by decide)).kp kw (Off.nil _ _), y3.kp kw (Off.nil _ _)⟩)⟩ ?_
            rintro W9 ⟨b12, b14, hb12, hb14, hW9⟩
            rw [hb12, hb14]
            clear hb12 hb14 h14 h16 HC4 HC6 g14 hS9 e9
            obtain ⟨p0, p1, _⟩ := bk2t hW9.out.2.1
            obtain ⟨r0, r1, _⟩ := bk2t hW9.out.2.2.1
            obtain ⟨e9, _, _⟩ := bk2t hW9.out.1.b7
            have hcv1 : (convert 44 9 (.slice B4 s.size d4)).run Try.prog W9 = .ok (.string s) W9 := by
              have := conv_bs (w := W9) (c := d4) hW9.out.2.2.2.1.rd0 hsl
              rw [this]
              try simp
            have hcv2 : (convert 44 9 (.slice B6 256 d6)).run Try.prog W9 = .ok (.string ⟨P.toArray⟩) W9 := conv_bs (w := W9) (c := d6) hW9.out.2.2.2.2.rd0 HPL.out
            have hcv3 : (convert 44 9 (.slice (some ⟨g9, 0, none⟩) 256 256)).run Try.prog W9 = .ok (.string ⟨P.toArray⟩) W9 := conv_bs (w := W9) (c := 256) hW9.out.1.g9.rd0 HPL.out
            obtain ⟨SP, hSP⟩ : ∃ SP : ByteArray, (⟨P.toArray⟩ : ByteArray) = SP := ⟨_, rfl⟩
            rw [hSP] at hcv2 hcv3
            have HOwn : Hid (∀ (R : Ending → World → Prop), R (.returned (.bool true)) W9 → Calls Try.prog 38 #[.pointer (some ⟨ka7.g, 0, none⟩), .int .i64 1, .int .i64 0] W9 R) := Lib.hid (fun R h => by
              rw [← g16]
              exact kown_any hW9.out.1.kn 1 0 (by decide) (rcast h (by rw [hC9.out.owner]; rfl)))
            obtain ⟨bw2, cw2, hcs2, hcw2, hbk2, hbr2⟩ := conv_letter2 xs
            have HArr : Hid (∀ (R : Ending → World → Prop), (∀ nn e w', (xs.size ≤ 1024 → e = 0 ∧ nn = 1) → Hid (∃ k1, kArr k9 xs.data.toList nn e k1 ∧ KP w w' B ka6' k1 c9 g9 A4 cc4 P) → R (.returned (.tuple #[.int .i64 nn, .int .i64 e])) w') → Calls Try.prog 40 #[.pointer (some ⟨ka7.g, 0, none⟩), .slice (some ⟨W9.heap.size, 0, none⟩) xs.size (cw2 W9)] (bw2 W9) R) := Lib.hid (fun R h => by
              rw [← g16]
              have kb := hbk2 [] W9 W9 (Kp.refl _ _)
              refine karr_any (hW9.out.1.kn.off0 kb) hC9.out.c (by omega) hC9.out.f (hbr2 W9 _ rfl) (show xs.data.toList.length = xs.size from Array.length_toList) (by omega) (hcw2 W9) (fun nn e k' w' ha q n9 => ?_)
              exact h nn e w' (fun hs => hC9.out.arr1 ha.out (by rw [show xs.data.toList.length = xs.size from Array.length_toList]; exact hs)) (Lib.hid ⟨k', ha.out, (hW9.out.1.off kb).kq q n9 hwB⟩))
            have c99 := (HCELL.out W9 hW9.out.1.kp).2
            have HC12 : Hid (∀ (R : Ending → World → Prop) (w0 : World) (nn e : Int), Hid (∃ k1, kArr k9 xs.data.toList nn e k1 ∧ KP w w0 B ka6' k1 c9 g9 A4 cc4 P) → (∀ v w', Hid (∃ ka' k', ka'.g = ka7.g ∧ KP w w' B ka' k' c9 g9 A4 cc4 P ∧ AInv (4 + 5 * (i + 1)) P P k') → R (.returned v) w') → Calls Try.prog 33 #[.pointer (some ⟨ka7.g, 0, none⟩), .agg #[.int .i64 12, .int .i64 1, .int .i64 0, .int .i64 0, .int .i64 0, .slice none 0 0, .slice none 0 0, .slice none 0 0]] w0 R) := Lib.hid (fun R w0 nn e hA h => by
              obtain ⟨k1, ha, hS1⟩ := hA.out
              rw [← g16]
              refine kcall_any (x := numC 12 1) hS1.kn (kArr_cnt ha hC9.out.c) (by omega) (numC_ok _ _ _) (fun nn2 AA len c2 l' e2 k' a' w2 hst q n9 hl ht => ?_)
              have hq := hW9.out.1.kn.o.room
              exact h _ w2 (Lib.hid ⟨a', k', n9.2.1.trans g16, hS1.kq q n9.1 hwB, ((hC9.out.take ha hq (by simp [numC]) rfl rfl hst.out).1).mono (by omega)⟩))
            have hsx3 := Int.ofNat_le.2 hsx2
            clear hcw2 hbk2 hbr2 hSP
            by_cases hs1 : xs.size ≤ 1024
            · go_wp2_with (first | (go_at_call 38; (with_reducible refine HOwn.out _ ?_)) | (go_at_call 40; ((with_reducible refine HArr.out _ ?_); intro nn e w20 hne h20; (obtain ⟨rfl, rfl⟩ := hne hs1); clear hne; (have c20 : w20.cell? ⟨b, o + i * 10 + 9, none⟩ = some (.string xs) := by (obtain ⟨k1, _, hk⟩ := h20.out; exact (HCELL.out _ hk.kp).2)))) | (go_at_call 33; ((with_reducible refine HC12.out _ _ _ _ h20 ?_); intro v22 w22 h22)))
              obtain ⟨ka', k', g', hS', hC'⟩ := h22.out
              exact ⟨⟨i + 1, ka', k', by omega, by go_num, g', Lib.hid hS', Lib.hid hC'⟩, by simp [intOf]; omega⟩
            · go_wp2_with (first | (go_at_call 38; (with_reducible refine HOwn.out _ ?_)) | (go_at_call 40; ((with_reducible refine HArr.out _ ?_); intro nn e w20 hne h20; clear hne; (have c20 : w20.cell? ⟨b, o + i * 10 + 9, none⟩ = some (.string xs) := by (obtain ⟨k1, _, hk⟩ := h20.out; exact (HCELL.out _ hk.kp).2)))) | (go_at_call 33; ((with_reducible refine HC12.out _ _ _ _ h20 ?_); intro v22 w22 h22)))
              obtain ⟨ka', k', g', hS', hC'⟩ := h22.out
              exact ⟨⟨i + 1, ka', k', by omega, by go_num, g', Lib.hid hS', Lib.hid hC'⟩, by simp [intOf]; omega⟩
        · obtain rfl : i = n := by omega
          go_wp2
          exact H.out _ hS.out.kp
end
end Go.Proofs.Ytogipajanbgenaa
