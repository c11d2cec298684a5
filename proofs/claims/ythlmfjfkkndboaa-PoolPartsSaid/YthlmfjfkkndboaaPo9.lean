/- A new pool of a new kernel's frames. -/
import Derived.Test.YthlmfjfkkndboaaPo8
import Derived.Test.YthlmfjfkkndboaaStepA
import Derived.Deep.DeepCutAuto
namespace Go.Proofs.Ythlmfjfkkndboaa
open Go.RowKit Go.Shelf
set_option linter.unusedVariables false
set_option linter.unusedSimpArgs false
set_option maxRecDepth 100000
/-- A call of plain numbers. -/
def numP (op env : Int) : Kc := ⟨op, env, 0, 0, 0, none, 0, 0, [], none, 0, 0, [], none, 0, 0, []⟩
theorem numP_ok (op env : Int) (w : World) : (numP op env).ok w := ⟨Tb.nil, rfl, by simp [numP], fun _ => ⟨rfl, rfl⟩, Tb.nil, rfl, by simp [numP], fun _ => ⟨rfl, rfl⟩, by simp [numP], Tb.nil, rfl, by simp [numP], fun _ => ⟨rfl, rfl⟩, by simp [numP]⟩
def f1 : Fr := { fz with ow := 1 }
/-- The first i frames are the first environment's. -/
def fsN (F i : Nat) : List Fr := List.replicate i f1 ++ List.replicate (F - i) fz
theorem tAlloc_fsN {F i : Nat} (h : i < F) : tAlloc (fsN F i) 1 = ((i : Int), 0, fsN F (i + 1)) := by
  have hs : F - i = (F - (i + 1)) + 1 := by omega
  have e0 : fsN F i = List.replicate i f1 ++ fz :: List.replicate (F - (i + 1)) fz := by unfold fsN; rw [hs, List.replicate_succ]
  have e1 : (fsN F i).findIdx? (fun x => x.ow == 0) = some i := by
    rw [List.findIdx?_eq_some_iff_getElem]
    refine ⟨by unfold fsN; simp; omega, ?_, ?_⟩
    · have h1 : (fsN F i)[i]? = some fz := by rw [e0, List.getElem?_append_right (by simp)]; simp
      rw [(List.getElem?_eq_some_iff.1 h1).2]; rfl
    · intro j hj
      have h1 : (fsN F i)[j]? = some f1 := by rw [e0, List.getElem?_append_left (by simpa using hj), List.getElem?_replicate, if_pos hj]
      rw [(List.getElem?_eq_some_iff.1 h1).2]; decide
  have e2 : (fsN F i)[i]? = some fz := by rw [e0, List.getElem?_append_right (by simp)]; simp
  unfold tAlloc
  rw [if_pos (by rfl), e1]
  simp only
  rw [e2]
  simp only [Prod.mk.injEq, true_and]
  rw [e0, List.set_append_right _ _ (by simp)]
  simp only [List.length_replicate, Nat.sub_self, List.set_cons_zero]
  unfold fsN
  rw [List.replicate_succ', List.append_assoc]
  rfl
def kzi (F N i : Nat) : KS := { kz0 F N with fs := fsN F i }
theorem kzi_cnt (F N i : Nat) : (kzi F N i).cnt 0 := ⟨by simp [kzi, kz0, dz], by simp [kzi, kz0], by simp [kzi, kz0], by simp [kzi, kz0], by simp [kzi, kz0], by simp [kzi, kz0], by simp [kzi, kz0], fun y hy => by
  simp only [kzi, fsN, List.mem_append] at hy
  rcases hy with hy | hy
  · rw [List.eq_of_mem_replicate hy]; simp [f1, fz]
  · rw [List.eq_of_mem_replicate hy]; simp [fz]⟩
theorem kzi_zero (F N : Nat) : kzi F N 0 = kz0 F N := by unfold kzi kz0 fsN; simp
def psN (i : Nat) : List PSl := (List.range i).map (fun (j : Nat) => PSl.e ((j : Nat) : Int))
theorem psN_succ (i : Nat) : psN (i + 1) = psN i ++ [PSl.e (i : Int)] := by unfold psN; rw [List.range_succ]; simp
theorem psN_len (i : Nat) : (psN i).length = i := by simp [psN]
theorem elt_sl : Elt Try.prog 128 132 (.agg #[.int .i64 0, .int .i64 0, .int .i64 0, .int .i64 0, .int .i64 0, .complex .f64 0 0, .bool false]) 7 64 := ⟨Try.underlying128, by kernel_rfl, rfl, by decide, by decide⟩
theorem slv_one (x : PSl) : ∀ u ∈ x.vals, u.oneCell' = true := by intro u hu; simp [PSl.vals] at hu; rcases hu with rfl | rfl | rfl | rfl | rfl | rfl | rfl <;> rfl
/-- A pool that is being made. -/
structure NPl (w w' : World) (B : Nat) (ka : KA) (k : KS) (pg j : Nat) (A : Option Addr) (c : Nat) : Prop where
  kn : Kn w' B ka k
  g : Bk w' pg 130 [.pointer (some ⟨ka.g, 0, none⟩), .slice A j c, .int .i64 0, .int .i64 0]
  l : Ow w' 132 7 A j c ((psN j).flatMap PSl.vals)
  q : Pq B w w'
  fr : ∀ b ∈ bks A, w.heap.size ≤ b
  gB : w.heap.size ≤ pg
section
variable {R : Ending → World → Prop} {w w1 w' : World} {B m F N pg j c : Nat} {ka ka' : KA} {k k' : KS} {A : Option Addr}
theorem NPl.off0 (h : NPl w w1 B ka k pg j A c) (hk : Kp [] w1 w') : NPl w w' B ka k pg j A c := ⟨h.kn.off0 hk, h.g.kp hk (by simp), h.l.kp hk (by simp), h.q.trans (Pq.of0 hk), h.fr, h.gB⟩
theorem NPl.kcall (h : NPl w w1 B ka k pg j A c) (q : Kq B w1 w') (n9 : Kn w' B ka' k' ∧ ka'.g = ka.g ∧ ka'.bT = ka.bT) : NPl w w' B ka' k' pg j A c := by
  refine ⟨n9.1, by rw [n9.2.1]; exact q.bk h.g (by decide), ?_, h.q.trans q.pq, h.fr, h.gB⟩
  have hty := h.l.ty
  refine ⟨h.l.1, ?_⟩
  rcases h.l.2 with hn | ⟨g, cap, cur, hv, hb, hg, rest⟩
  · exact .inl hn
  · refine .inr ⟨g, cap, cur, hv, hb, ?_, rest⟩
    injection hv with hA; subst hA
    have ht := hty g (by simp [bks])
    rw [q.block g (Array.getElem?_eq_some_iff.1 hg).1 (.inr ⟨_, by decide, ht⟩)]; exact hg
theorem NPl.app (h : NPl w w1 B ka k pg j A c) (hB : B ≤ w.heap.size) {o : Obj} {w5 : World} {A5 : Option Addr} {c5 : Nat} (hk5 : Kp (bks A) (w1.drew.alloc o) w5) (ho5 : Ow w5 132 7 A5 (j + 1) c5 ((psN j).flatMap PSl.vals ++ (PSl.e (j : Int)).vals)) (hA5 : A5 = A ∨ A5 = some ⟨(w1.drew.alloc o).heap.size, 0, none⟩) :
    NPl w (w5.setCell ⟨pg, 1, none⟩ (.slice A5 (j + 1 : Nat) c5)) B ka k pg (j + 1) A5 c5 := by
  have hV := h.off0 ((Kp.refl [] w1).drew.alloc o)
  have z := hV.q.size
  have bg5 := hV.g.off hk5 (Off.bks hV.l.ty (by decide))
  have k5 := hV.kn.offP hk5 (fun e e1 e2 => Off.bks hV.l.ty e1)
  have ks : Kp [pg] w5 (w5.setCell ⟨pg, 1, none⟩ (.slice A5 (j + 1 : Nat) c5)) := (Kp.refl _ _).setCell (p := ⟨pg, 1, none⟩) (.inl (by simp)) _
  have hgB := h.gB
  refine ⟨k5.offP ks (fun e e1 e2 => Off.one bg5.ty e2), (bg5.set_ 1 _).cast rfl, ?_, (hV.q.thn hk5 hB (fun s hs => hV.fr s hs)).thn ks hB (fun s hs => by simp at hs; omega), ?_, hgB⟩
  · rw [psN_succ, List.flatMap_append, List.flatMap_singleton]
    exact ho5.off ks (Off.one bg5.ty (by decide))
  · exact bks_app hA5 hV.fr z
/-- It is made. -/
theorem NPl.fin (h : NPl w w' B ka k pg j A c) (hj : 1 ≤ j) (hj2 : j ≤ 256) (hB : B ≤ w.heap.size) : ∃ pa : PA, pa.g = pg ∧ w.heap.size ≤ pa.l ∧ KPl w' B ka k pa ⟨psN j, 0, 0⟩ := by
  rcases h.l.2 with ⟨_, h0⟩ | ⟨g, cap, cur, hv, hb, hg, h1, h2, h3, h4⟩
  · omega
  · injection hv with hA hn hc
    subst hA
    have hfr := h.fr g (by simp [bks])
    have hgB := h.gB
    refine ⟨⟨pg, g, c⟩, rfl, hfr, ⟨h.kn, ⟨?_, ?_, by rw [psN_len]; exact hj, by rw [psN_len]; exact hj2⟩, by show B ≤ pg; omega, by show B ≤ g; omega⟩⟩
    · rw [psN_len]; exact h.g
    · refine ⟨cur.toList.drop (j * 7), ?_⟩
      have e : (psN j).flatMap PSl.vals ++ cur.toList.drop (j * 7) = cur.toList := by rw [← h4, List.take_append_drop]
      show Bk w' g _ ((psN j).flatMap PSl.vals ++ _)
      rw [e]
      unfold Bk
      rw [Array.toArray_toList]
      exact hg
set_option maxHeartbeats 4000000 in
theorem pnew_any (hK : Kn w B ka (kz0 F N)) (n : Nat) (hn1 : 1 ≤ n) (hnF : n ≤ F) (hn2 : n ≤ 256)
    (h : ∀ ka' pa w', Pq B w w' → KPl w' B ka' (kzi F N n) pa ⟨psN n, 0, 0⟩ → ka'.g = ka.g → ka'.bT = ka.bT → w.heap.size ≤ pa.g → w.heap.size ≤ pa.l → R (.returned (.tuple #[.pointer (some ⟨pa.g, 0, none⟩), .int .i64 0])) w') :
    Calls Try.prog 29 #[.pointer (some ⟨ka.g, 0, none⟩), .int .i64 n] w R := by
  have H := Lib.hid h
  have HK := Lib.hid hK
  have hB := hK.hB
  clear h hK
  go_enter Try.func29, Try.ntmps29
  go_upto_region 6 with (fail)
  refine gen_worldK (fun W => ∃ pg, w.heap.size = pg ∧ Hid (NPl w W B ka (kzi F N 0) pg 0 none 0)) ⟨_, rfl, Lib.hid ⟨by rw [kzi_zero]; exact HK.out.off0 ((Kp.refl _ _).alloc _), (Bk.new' _ _ _).cast rfl, Ow.nil, Pq.of0 ((Kp.refl _ _).alloc _), by simp [bks], Nat.le_refl _⟩⟩ ?_
  rintro W ⟨pg, hpg, hW⟩
  rw [hpg]
  clear HK hpg
  go_wp2
  go_loopw [7, 8, 25] (fun _ _ iv wr => ∃ (j : Nat) (ka' : KA) (A : Option Addr) (c : Nat), j ≤ n ∧ iv = .int .i64 j ∧ Hid (ka'.g = ka.g ∧ ka'.bT = ka.bT) ∧ Hid (NPl w wr B ka' (kzi F N j) pg j A c)) (fun _ _ iv _ => n - (intOf iv).toNat)
  case atStart => exact ⟨0, ka, none, 0, Nat.zero_le _, rfl, Lib.hid ⟨rfl, rfl⟩, hW⟩
  case round =>
    obtain ⟨j, ka1, A, c, hj, rfl, hka, hw⟩ := hrel
    by_cases hlt : j < n
    · have HC : Hid (∀ (R : Ending → World → Prop), (∀ A4 c4 w' ka2, Hid (ka2.g = ka.g ∧ ka2.bT = ka.bT) → Hid (NPl w w' B ka2 (kzi F N (j + 1)) pg j A c) → R (.returned (.tuple #[.agg #[.int .i64 j, .slice A4 0 c4], .int .i64 0])) w') → Calls Try.prog 35 #[.pointer (some ⟨ka.g, 0, none⟩), .agg #[.int .i64 1, .int .i64 1, .int .i64 0, .int .i64 0, .int .i64 0, .slice none 0 0, .slice none 0 0, .slice none 0 0]] wr R) := Lib.hid (fun R h => by
        rw [← hka.out.1]
        refine kcall_any (x := numP 1 1) hw.out.kn (kzi_cnt F N j) (by omega) (numP_ok _ _ _) (fun nn AA len c2 l' e k' a' w2 hst q n9 hl ht => ?_)
        have h1 := hst.out
        unfold kStep at h1
        rw [if_neg (by simp [numP]), if_pos (by simp [numP])] at h1
        have h2 : kFB (kzi F N j) (numP 1 1) = ⟨(j : Int), [], 0, kzi F N (j + 1)⟩ := by
          unfold kFB
          rw [if_pos (show (numP 1 1).op = 1 from rfl)]
          show KR.mk (tAlloc (fsN F j) 1).1 [] (tAlloc (fsN F j) 1).2.1 { kzi F N j with fs := (tAlloc (fsN F j) 1).2.2 } = _
          rw [tAlloc_fsN (by omega)]; rfl
        rw [h2] at h1
        injection h1 with e1 e2 e3 e4
        subst e1; subst e2; subst e3; subst e4
        subst hl
        exact h AA c2 w2 a' (Lib.hid ⟨n9.2.1.trans hka.out.1, n9.2.2.trans hka.out.2⟩) (Lib.hid (hw.out.kcall q n9)))
      clear hW
      go_upto_region 16 with (go_at_call 35; (refine HC.out _ ?_; intro A4 c4 w4 ka4 hka4 h4))
      refine gen_worldK (fun W2 => ∃ ab, w4.heap.size = ab ∧ Hid (NPl w W2 B ka4 (kzi F N (j + 1)) pg j A c ∧ Bk W2 ab 73 [.int .i64 j, .slice A4 0 c4])) ⟨_, rfl, Lib.hid ⟨h4.out.off0 ((Kp.refl _ _).alloc _), (Bk.new' _ _ _).cast rfl⟩⟩ ?_
      rintro W2 ⟨ab, hab, hW2⟩
      rw [hab]
      have q1 : W2.cell? ⟨pg, 1, none⟩ = some (.slice A j c) := hW2.out.1.g.cell 1
      have q1a : ∀ o, (W2.alloc o).cell? ⟨pg, 1, none⟩ = some (.slice A j c) := fun o => (hW2.out.1.g.alloc o).cell 1
      have s0 : W2.cell? ⟨ab, 0, none⟩ = some (.int .i64 j) := hW2.out.2.cell 0
      have s0a : ∀ o, (W2.alloc o).cell? ⟨ab, 0, none⟩ = some (.int .i64 j) := fun o => (hW2.out.2.alloc o).cell 0
      clear HC h4 hab hw
      go_region_law (refine step_app rfl (.tmp 55) (.tmp 59) _ rfl elt_sl A j c _ (by simp [Act.eval, Act.put]) (hW2.out.1.l.drew.alloc _) [] (some ⟨W2.heap.size, 0, none⟩) 1 1 (PSl.e j).vals (by simp [Act.eval, Act.put]) (Rd.of_bk ((Bk.newAt rfl _ _).cast rfl) (by simp)) rfl (slv_one _) (by omega) ?_; intro A5 c5 w5 ho5 hk5 hA5; have bg5 := (hW2.out.1.g.drew.alloc (.cells #[.int .i64 j, .int .i64 0, .int .i64 0, .int .i64 0, .int .i64 0, .complex .f64 0 0, .bool false] 132)).off hk5 (Off.bks (hW2.out.1.l.drew.alloc _).ty (by decide)); have e5 : w5.cell? ⟨pg, 1, none⟩ = some (.slice A j c) := bg5.cell 1; have f5 := bg5.frozen 1; have BG5 := Lib.hid bg5; clear bg5)
      all_goals
        go_wp2
        exact ⟨⟨j + 1, ka4, A5, c5, by omega, by go_num, hka4, Lib.hid (hW2.out.1.app hB hk5 ho5 hA5)⟩, by simp [intOf]; omega⟩
    · obtain rfl : j = n := by omega
      obtain ⟨pa, e1, e2, z⟩ := hw.out.fin hn1 hn2 hB
      have hgB := hw.out.gB
      subst e1
      go_wp2
      exact H.out ka1 pa _ hw.out.q z hka.out.1 hka.out.2 hgB e2
end
end Go.Proofs.Ythlmfjfkkndboaa
