/- A new pool of the document's. A new pool: made, or not. Both kernels and both pools. -/
import Derived.Test.YtedblbpmlbjnhaaGreatPE44
import Derived.Test.YtedblbpmlbjnhaaGreatPE42
import Derived.Test.YtedblbpmlbjnhaaGreatPE33
import Derived.Test.YtedblbpmlbjnhaaGreatPE45
import Derived.Test.YtedblbpmlbjnhaaGreatPE46
namespace Go.Proofs.YtedblbpmlbjnhaaGreat
/-! ### A new pool of the document's. -/
section
open Go.RowKit Go.Shelf
set_option linter.unusedVariables false
set_option linter.unusedSimpArgs false
set_option maxRecDepth 100000
/-- Frames, of which the first i were given back. -/
def tfr (fs : List Fr) : Nat → List Fr
  | 0 => fs
  | i + 1 => (tFree (tfr fs i) 1 i).2
def kfr (F N i : Nat) : KS := { kz0 F N with fs := tfr (fsN F F) i }
theorem tFree_len (fs : List Fr) (e g : Int) : (tFree fs e g).2.length = fs.length := by
  unfold tFree; split <;> simp
theorem tfr_len (fs : List Fr) : ∀ i, (tfr fs i).length = fs.length
  | 0 => rfl
  | i + 1 => by rw [tfr, tFree_len, tfr_len fs i]
theorem fsN_len {F i : Nat} (h : i ≤ F) : (fsN F i).length = F := by simp [fsN]; omega
theorem fsN_pg (F i : Nat) : ∀ y ∈ fsN F i, y.bs.length = 256 := fun y hy => by
  simp only [fsN, List.mem_append] at hy
  rcases hy with hy | hy
  · rw [List.eq_of_mem_replicate hy]; exact fz_len
  · rw [List.eq_of_mem_replicate hy]; exact fz_len
theorem tFree_pg {fs : List Fr} (h : ∀ y ∈ fs, y.bs.length = 256) (e g : Int) : ∀ y ∈ (tFree fs e g).2, y.bs.length = 256 := fun y hy => by
  unfold tFree at hy
  split at hy
  · rcases List.mem_or_eq_of_mem_set hy with hy | rfl
    · exact h y hy
    · exact fz_len
  · exact h y hy
theorem tfr_pg {fs : List Fr} (h : ∀ y ∈ fs, y.bs.length = 256) : ∀ i, ∀ y ∈ tfr fs i, y.bs.length = 256
  | 0 => h
  | i + 1 => tFree_pg (tfr_pg h i) 1 i
theorem kz_step (F N i : Nat) (h : i < F) : kStep (kzi F N i) (numP 1 1) i [] 0 (kzi F N (i + 1)) := by
  unfold kStep
  rw [if_neg (by simp [numP]), if_pos (by simp [numP])]
  unfold kFB
  rw [if_pos (show (numP 1 1).op = 1 from rfl)]
  show KR.mk (tAlloc (fsN F i) 1).1 [] (tAlloc (fsN F i) 1).2.1 { kzi F N i with fs := (tAlloc (fsN F i) 1).2.2 } = _
  rw [tAlloc_fsN h]; rfl
theorem kz_full (F N : Nat) : kStep (kzi F N F) (numP 1 1) 0 [] 10 (kzi F N F) := by
  unfold kStep
  rw [if_neg (by simp [numP]), if_pos (by simp [numP])]
  unfold kFB
  rw [if_pos (show (numP 1 1).op = 1 from rfl)]
  have e : tAlloc (fsN F F) 1 = (0, 10, fsN F F) := by
    have : (fsN F F).findIdx? (fun x => x.ow == 0) = none := by
      rw [List.findIdx?_eq_none_iff]
      intro x hx
      simp [fsN] at hx
      rw [hx.2]; rfl
    unfold tAlloc
    rw [if_pos (by rfl), this]
  show KR.mk (tAlloc (fsN F F) 1).1 [] (tAlloc (fsN F F) 1).2.1 { kzi F N F with fs := (tAlloc (fsN F F) 1).2.2 } = _
  rw [e]; rfl
theorem kz_free (F N i : Nat) : kStep (kfr F N i) (kcS 2 i []) 0 [] (tFree (tfr (fsN F F) i) 1 i).1 (kfr F N (i + 1)) := by
  unfold kStep
  rw [if_neg (by simp [kcS]), if_pos (by simp [kcS])]
  unfold kFB
  rw [if_neg (by simp [kcS]), if_pos (show (kcS 2 (i : Int) []).op = 2 from rfl)]
  rfl
theorem kfr_cnt (F N : Nat) : ∀ i, (kfr F N i).cnt i
  | 0 => kzi_cnt F N F
  | i + 1 => kStep_cnt (kz_free F N i) (kfr_cnt F N i) (by simp [kfr, kz0])
theorem kzi_inv (F N : Nat) : ∀ i, i ≤ F → HInv (kzi F N i) ∧ FInv (kzi F N i) ∧ GOx (kzi F N i)
  | 0, _ => by rw [kzi_zero]; exact ⟨HInv_kz0 F N, ⟨by simp [kz0], by simp [kz0], by simp [kz0]⟩, ⟨0, Int.le_refl _, ⟨fun x hx => by rw [List.eq_of_mem_replicate (show x ∈ List.replicate F fz from hx)]; exact ⟨Int.le_refl _, Int.le_refl _⟩, fun x hx => by rw [List.eq_of_mem_replicate (show x ∈ List.replicate F fz from hx)]; exact .inl rfl, fun x hx h => by rw [List.eq_of_mem_replicate (show x ∈ List.replicate F fz from hx)] at h; exact absurd rfl h⟩⟩⟩
  | i + 1, h => by
    obtain ⟨h1, h2, h3⟩ := kzi_inv F N i (by omega)
    have hs := kz_step F N i (by omega)
    exact ⟨h1.step hs, h2.step (by simp [numP]) hs, h3.step (fsN_pg F i) hs⟩
theorem kfr_o (F N : Nat) : ∀ i, GOx (kfr F N i)
  | 0 => (kzi_inv F N F (Nat.le_refl _)).2.2
  | i + 1 => (kfr_o F N i).step (tfr_pg (fsN_pg F F) i) (kz_free F N i)
def dsN (i : Nat) : List DSl := (List.range i).map (fun (j : Nat) => DSl.e ((j : Nat) : Int))
def dz0 (i : Nat) : DP := ⟨dsN i, 0, 0⟩
theorem dsN_succ (i : Nat) : dsN (i + 1) = dsN i ++ [DSl.e (i : Int)] := by unfold dsN; rw [List.range_succ]; simp
theorem dsN_len (i : Nat) : (dsN i).length = i := by simp [dsN]
theorem dsN_at {i j : Nat} (h : j < i) : (dsN i)[j]? = some (DSl.e (j : Int)) := by simp [dsN, h]
theorem dz0_ps (i : Nat) : (dz0 i).ps = ⟨psN i, 0, 0⟩ := by
  unfold dz0 DP.ps dsN psN
  simp only [List.map_map]
  rfl
theorem dz0_pg {F N n : Nat} (hn : n ≤ F) : PG 0 (kzi F N n) (dz0 n) := by
  have mem : ∀ d ∈ dsN n, ∃ j : Nat, j < n ∧ d = DSl.e (j : Int) := fun d hd => by
    obtain ⟨j, hj, rfl⟩ := List.mem_map.1 hd
    exact ⟨j, by simpa using hj, rfl⟩
  refine ⟨⟨kzi_cnt F N n, fun d hd => ?_, fun d hd => ?_⟩, fun c i j x y hx hy h1 h2 => ?_, ⟨fun x hx => ?_, by simp [dz0, DP.ps], by simp [dz0, DP.ps]⟩⟩
  · obtain ⟨j, hj, rfl⟩ := mem d hd
    refine ⟨j, f1, rfl, ?_, rfl, fz_len⟩
    show (fsN F n)[j]? = _
    unfold fsN
    rw [List.getElem?_append_left (by simpa using hj), List.getElem?_replicate, if_pos hj]
  · obtain ⟨j, hj, rfl⟩ := mem d hd
    exact pt_e _
  · obtain ⟨_, _, rfl⟩ := mem x (List.mem_of_getElem? hx)
    simp [hasB, DSl.e, PSl.e] at h1
  · obtain ⟨d, hd, rfl⟩ := List.mem_map.1 hx
    obtain ⟨j, hj, rfl⟩ := mem d hd
    simp [DSl.e, PSl.e]
theorem elt_ds : Elt Tryz.prog 170 174 (.agg #[.int .i64 0, .int .i64 0, .int .i64 0, .int .i64 0, .int .i64 0, .int .i64 0, .int .i64 0, .bool false]) 8 64 := ⟨Tryz.underlying170, by kernel_rfl, rfl, by decide, by decide⟩
theorem dsv_one (x : DSl) : ∀ u ∈ x.vals, u.oneCell' = true := by intro u hu; simp [DSl.vals] at hu; rcases hu with rfl | rfl | rfl | rfl | rfl | rfl | rfl | rfl <;> rfl
/-- The document's pool that is being made. -/
structure NQ (w0 w w' : World) (B : Nat) (q : QA) (k : KS) (pg j : Nat) (A : Option Addr) (c : Nat) : Prop where
  qn : Qn w0 B w' q k
  g : Bk w' pg 172 [.pointer (some ⟨q.g, 0, none⟩), .slice A j c, .int .i64 0, .int .i64 0]
  l : Ow w' 174 8 A j c ((dsN j).flatMap DSl.vals)
  kp : Kp q.own w w'
  fr : ∀ b ∈ bks A, w.heap.size ≤ b
  gB : w.heap.size ≤ pg
  hBw : B ≤ w.heap.size
section
variable {R : Ending → World → Prop} {w0 w w1 w' : World} {B m F N pg j c : Nat} {q q' : QA} {k k' : KS} {A : Option Addr}
theorem own_g (h : q'.own = q.own) : q'.g = q.g := by have := congrArg (·.head?) h; simpa [QA.own] using this
theorem NQ.kp0 (h : NQ w0 w w1 B q k pg j A c) (hk : Kp [] w1 w') : NQ w0 w w' B q k pg j A c := ⟨h.qn.kp hk, h.g.kp hk (by simp), h.l.kp hk (by simp), h.kp.thn hk (by simp), h.fr, h.gB, h.hBw⟩
theorem NQ.call (h : NQ w0 w w1 B q k pg j A c) (hk : Kp q.own w1 w') (hq : Qn w0 B w' q' k') (ho : q'.own = q.own) : NQ w0 w w' B q' k' pg j A c := by
  have hg := own_g ho
  refine ⟨hq, by rw [hg]; exact h.g.off hk (h.qn.offO _ (by decide) (by decide) (by decide) (by decide)), h.l.off hk (h.qn.offO _ (by decide) (by decide) (by decide) (by decide)), by rw [ho]; exact h.kp.thn hk (fun s h => .inl h), h.fr, h.gB, h.hBw⟩
theorem NQ.app (h : NQ w0 w w1 B q k pg j A c) {o : Obj} {w5 : World} {A5 : Option Addr} {c5 : Nat} (hk5 : Kp (bks A) (w1.alloc o) w5) (ho5 : Ow w5 174 8 A5 (j + 1) c5 ((dsN j).flatMap DSl.vals ++ (DSl.e (j : Int)).vals)) (hA5 : A5 = A ∨ A5 = some ⟨(w1.alloc o).heap.size, 0, none⟩) :
    NQ w0 w (w5.setCell ⟨pg, 1, none⟩ (.slice A5 (j + 1 : Nat) c5)) B q k pg (j + 1) A5 c5 := by
  have hV := h.kp0 ((Kp.refl [] w1).alloc o)
  have z := hV.kp.size
  have bg5 := hV.g.off hk5 (Off.bks hV.l.ty (by decide))
  have hB := h.qn.hB
  have q5 := hV.qn.offL hk5 (fun e e1 e2 => Off.bks hV.l.ty e2) (fun s hs => Nat.le_trans hB (Nat.le_trans h.hBw (hV.fr s hs)))
  have ks : Kp [pg] w5 (w5.setCell ⟨pg, 1, none⟩ (.slice A5 (j + 1 : Nat) c5)) := (Kp.refl _ _).setCell (p := ⟨pg, 1, none⟩) (.inl (by simp)) _
  have hgB := h.gB
  refine ⟨q5.offL ks (fun e e1 e2 => Off.one bg5.ty e1) (fun s hs => by simp at hs; have := h.hBw; omega), (bg5.set_ 1 _).cast rfl, ?_, (hV.kp.thn hk5 (fun s hs => .inr (hV.fr s hs))).thn ks (fun s hs => by simp at hs; exact .inr (by omega)), ?_, hgB, h.hBw⟩
  · rw [dsN_succ, List.flatMap_append, List.flatMap_singleton]
    exact ho5.off ks (Off.one bg5.ty (by decide))
  · exact bks_app hA5 hV.fr z
theorem NQ.fin (h : NQ w0 w w' B q k pg j A c) (hj : 1 ≤ j) (hj2 : j ≤ 256) (hf : j ≤ k.fs.length) : ∃ qa : QPA, qa.g = pg ∧ QKP w0 B w' q k qa (dz0 j) ∧ A = some ⟨qa.l, 0, none⟩ ∧ c = qa.lc := by
  rcases h.l.2 with ⟨_, h0⟩ | ⟨g, cap, cur, hv, hb, hg, h1, h2, h3, h4⟩
  · omega
  · injection hv with hA hn hc
    subst hA
    have hfr := h.fr g (by simp [bks])
    have hgB := h.gB
    have hBw := h.hBw
    refine ⟨⟨pg, g, c⟩, rfl, ⟨h.qn, ⟨?_, ?_, by show 0 < (dsN j).length; rw [dsN_len]; exact hj, by show (dsN j).length ≤ _; rw [dsN_len]; exact hj2, by show B ≤ pg; omega, by show B ≤ g; omega⟩, fun d hd => ?_⟩, rfl, rfl⟩
    · show Bk w' pg _ [_, .slice _ (dsN j).length _, _, _]
      rw [dsN_len]; exact h.g
    · refine ⟨cur.toList.drop (j * 8), ?_⟩
      have e : (dsN j).flatMap DSl.vals ++ cur.toList.drop (j * 8) = cur.toList := by rw [← h4, List.take_append_drop]
      show Bk w' g _ ((dsN j).flatMap DSl.vals ++ _)
      rw [e]
      unfold Bk
      rw [Array.toArray_toList]
      exact hg
    · obtain ⟨i, hi, rfl⟩ := List.mem_map.1 (show d ∈ (List.range j).map (fun (j : Nat) => DSl.e ((j : Nat) : Int)) from hd)
      have := List.mem_range.1 hi
      simp only [DSl.e, PSl.e]
      omega
theorem qnew_bad (n : Int) (hn : n < 1 ∨ 256 < n) {kg : Option Addr} (h : R (.returned (.tuple #[.pointer none, .int .i64 1])) w) : Calls Tryz.prog 23 #[.pointer kg, .int .i64 n] w R := by
  have H := Lib.hid h
  clear h
  by_cases h1 : n < 1
  · clear hn
    go_enter Tryz.func23, Tryz.ntmps23
    go_wp2
    exact H.out
  · have h2 : 256 < n := by omega
    clear hn
    go_enter Tryz.func23, Tryz.ntmps23
    go_wp2
    exact H.out
set_option maxHeartbeats 8000000 in
theorem qnew_any (h0 : Qn w0 B w q (kz0 F N)) (hF0 : 1 ≤ F) (hF : F ≤ 250) (n : Nat) (hn1 : 1 ≤ n) (hn2 : n ≤ 256)
    (h1 : n ≤ F → ∀ q' qa w', Kp q.own w w' → QKP w0 B w' q' (kzi F N n) qa (dz0 n) → q'.own = q.own → q'.bM = q.bM ∧ q'.bD = q.bD → R (.returned (.tuple #[.pointer (some ⟨qa.g, 0, none⟩), .int .i64 0])) w')
    (h2 : F < n → ∀ q' w', Kp q.own w w' → Qn w0 B w' q' (kfr F N F) → q'.own = q.own → q'.bM = q.bM ∧ q'.bD = q.bD → R (.returned (.tuple #[.pointer none, .int .i64 10])) w') :
    Calls Tryz.prog 23 #[.pointer (some ⟨q.g, 0, none⟩), .int .i64 n] w R := by
  have H1 := Lib.hid h1
  have H2 := Lib.hid h2
  have HQ := Lib.hid h0
  have hBw : B ≤ w.heap.size := by have := h0.new q.g (by simp [QA.own]); have := h0.lt q.g (by simp [QA.own]); omega
  clear h1 h2 h0
  go_enter Tryz.func23, Tryz.ntmps23
  go_upto_region 4 with (fail)
  refine genV (fun W => ∃ pg, w.heap.size = pg ∧ Hid (NQ w0 w W B q (kzi F N 0) pg 0 none 0)) ⟨_, rfl, Lib.hid ⟨by rw [kzi_zero]; exact HQ.out.kp ((Kp.refl _ _).alloc _), (Bk.new' _ _ _).cast rfl, Ow.nil, (Kp.refl _ _).alloc _, by simp [bks], Nat.le_refl _, hBw⟩⟩ ?_
  rintro W ⟨pg, hpg, hW⟩
  rw [hpg]
  clear HQ hpg
  go_wp2
  go_loopw [7, 8, 9, 10, 11] (fun iv _ _ _ _ wr => ∃ (j : Nat) (q1 : QA) (A : Option Addr) (c : Nat), j ≤ n ∧ j ≤ F ∧ iv = .int .i64 j ∧ Hid (q1.own = q.own ∧ q1.bM = q.bM ∧ q1.bD = q.bD) ∧ Hid (NQ w0 w wr B q1 (kzi F N j) pg j A c)) (fun iv _ _ _ _ _ => n - (intOf iv).toNat)
  case atStart => exact ⟨0, q, none, 0, Nat.zero_le _, Nat.zero_le _, rfl, Lib.hid ⟨rfl, rfl, rfl⟩, hW⟩
  case round =>
    obtain ⟨j, q1, A, c, hj, hjF, rfl, hqa, hw⟩ := hrel
    have HG : Hid (q1.g = q.g) := Lib.hid (own_g hqa.out.1)
    by_cases hlt : j < n
    · by_cases hjF2 : j < F
      · have HC : Hid (∀ (R : Ending → World → Prop), (∀ q2 w', Hid (q2.own = q.own ∧ q2.bM = q.bM ∧ q2.bD = q.bD) → Hid (NQ w0 w w' B q2 (kzi F N (j + 1)) pg j A c) → R (.returned (.tuple #[.int .i64 j, .string (S []), .int .i64 0])) w') → Calls Tryz.prog 11 #[.pointer (some ⟨q.g, 0, none⟩), .agg #[.int .i64 1, .int .i64 1, .int .i64 0, .int .i64 0, .int .i64 0, .string ⟨#[]⟩, .slice none 0 0, .slice none 0 0]] wr R) := Lib.hid (fun R h => by
          rw [← HG.out]
          refine rcallp_any hw.out.qn (kzi_cnt F N j) (by omega) (fsN_pg F j) (by simp [kzi, kz0]) (numP 1 1) (clS 1 0 (S [])) ⟨rfl, rfl, rfl, rfl, rfl, rfl, rfl, rfl⟩ (clS_qc _ _ _) (by unfold i64B; simp [clS]) (by simp [clS]) (kz_step F N j hjF2) (fun q' w2 kk hq2 ho hb => ?_)
          exact h q' w2 (Lib.hid ⟨ho.trans hqa.out.1, hb.1.trans hqa.out.2.1, hb.2.trans hqa.out.2.2⟩) (Lib.hid (hw.out.call kk hq2 ho)))
        clear hW
        go_wp2_with (first | (go_at_call 11; ((refine HC.out _ ?_); intro q4 w4 hq4 h4; have e4 : w4.cell? ⟨pg, 1, none⟩ = some (.slice A j c) := h4.out.g.cell 1; have e4a : ∀ o, (w4.alloc o).cell? ⟨pg, 1, none⟩ = some (.slice A j c) := fun o => (h4.out.g.alloc o).cell 1)) | (at_builtin; refine wpList_app _ rfl (.tmp 56) (.tmp 59) _ rfl elt_ds A j c _ rfl (h4.out.l.alloc _) [] (some ⟨w4.heap.size, 0, none⟩) 1 1 (DSl.e (j : Int)).vals rfl (Rd.of_bk ((Bk.newAt rfl _ _).cast rfl) (by simp)) rfl (dsv_one _) (by omega) ?_; intro A5 c5 w5 ho5 hk5 hA5; have bg5 := (h4.out.g.alloc (.cells #[.int .i64 j, .int .i64 0, .int .i64 0, .int .i64 0, .int .i64 0, .int .i64 0, .int .i64 0, .bool false] 174)).off hk5 (Off.bks (h4.out.l.alloc _).ty (by decide)); have e5 : w5.cell? ⟨pg, 1, none⟩ = some (.slice A j c) := bg5.cell 1; have f5 := bg5.frozen 1; have BG5 := Lib.hid bg5; clear bg5))
        exact ⟨⟨j + 1, q4, A5, c5, by omega, by omega, by go_num, hq4, Lib.hid (h4.out.app hk5 ho5 hA5)⟩, by simp [intOf]; omega⟩
      · obtain rfl : j = F := by omega
        have HC : Hid (∀ (R : Ending → World → Prop), (∀ q2 w', Hid (q2.own = q.own ∧ q2.bM = q.bM ∧ q2.bD = q.bD) → Hid (NQ w0 w w' B q2 (kzi j N j) pg j A c) → R (.returned (.tuple #[.int .i64 0, .string (S []), .int .i64 10])) w') → Calls Tryz.prog 11 #[.pointer (some ⟨q.g, 0, none⟩), .agg #[.int .i64 1, .int .i64 1, .int .i64 0, .int .i64 0, .int .i64 0, .string ⟨#[]⟩, .slice none 0 0, .slice none 0 0]] wr R) := Lib.hid (fun R h => by
          rw [← HG.out]
          refine rcallp_any hw.out.qn (kzi_cnt j N j) (by omega) (fsN_pg j j) (by simp [kzi, kz0]) (numP 1 1) (clS 1 0 (S [])) ⟨rfl, rfl, rfl, rfl, rfl, rfl, rfl, rfl⟩ (clS_qc _ _ _) (by unfold i64B; simp [clS]) (by simp [clS]) (kz_full j N) (fun q' w2 kk hq2 ho hb => ?_)
          exact h q' w2 (Lib.hid ⟨ho.trans hqa.out.1, hb.1.trans hqa.out.2.1, hb.2.trans hqa.out.2.2⟩) (Lib.hid (hw.out.call kk hq2 ho)))
        clear hW
        go_upto_region 9 with (go_at_call 11; ((refine HC.out _ ?_); intro q4 w4 hq4 h4))
        obtain ⟨qa, hqg, hqk, _, _⟩ := h4.out.fin hF0 (by omega) (by show j ≤ (fsN j j).length; rw [fsN_len (Nat.le_refl _)]; exact Nat.le_refl _)
        have HK4 := Lib.hid (And.intro hqk h4.out.kp)
        rw [← hqg]
        clear HC hqk hqg h4 hw
        go_wp2
        go_loopw [11] (fun iv wr => ∃ (i : Nat) (q5 : QA), i ≤ j ∧ iv = .int .i64 i ∧ Hid (q5.own = q.own ∧ q5.bM = q.bM ∧ q5.bD = q.bD) ∧ Hid (QKP w0 B wr q5 (kfr j N i) qa (dz0 j) ∧ Kp q.own w wr)) (fun iv _ => j - (intOf iv).toNat)
        case atStart => exact ⟨0, q4, Nat.zero_le _, rfl, hq4, Lib.hid ⟨HK4.out.1, by have := HK4.out.2; rw [hq4.out.1] at this; exact this⟩⟩
        case round =>
          obtain ⟨i, q5, hi, rfl, hq5, hw5⟩ := hrel
          clear HK4
          have HG5 : Hid (q5.g = q.g) := Lib.hid (own_g hq5.out.1)
          by_cases hij : i < j
          · have g1 : wr.cell? ⟨qa.g, 1, none⟩ = some (.slice (some ⟨qa.l, 0, none⟩) j qa.lc) := by have := hw5.out.1.ql.g.cell 1; simp only [dz0, dsN_len] at this; exact this
            obtain ⟨c0, _⟩ := hw5.out.1.ql.cells (i := i) (d := DSl.e (i : Int)) (dsN_at hij)
            simp only [DSl.e, PSl.e] at c0
            have HC2 : Hid (∀ (R : Ending → World → Prop), (∀ v q2 w', Hid (q2.own = q.own ∧ q2.bM = q.bM ∧ q2.bD = q.bD) → Hid (QKP w0 B w' q2 (kfr j N (i + 1)) qa (dz0 j) ∧ Kp q.own w w') → R (.returned v) w') → Calls Tryz.prog 11 #[.pointer (some ⟨q.g, 0, none⟩), .agg #[.int .i64 2, .int .i64 1, .int .i64 i, .int .i64 0, .int .i64 0, .string ⟨#[]⟩, .slice none 0 0, .slice none 0 0]] wr R) := Lib.hid (fun R h => by
              rw [← HG5.out]
              refine rcallp_any hw5.out.1.qn (kfr_cnt j N i) (by omega) (tfr_pg (fsN_pg j j) i) (by simp [kfr, kz0]) (kcS 2 i []) (clS 2 i (S [])) (kcS_cl _ _ _) (clS_qc _ _ _) (by unfold i64B; simp [clS]) (by simp [clS]) (kz_free j N i) (fun q' w2 kk hq2 ho hb => ?_)
              obtain ⟨z1, z2⟩ := hw5.out.1.call kk hq2 ho (by show (tfr _ _).length = (tfr _ _).length; rw [tfr_len, tfr_len])
              exact h _ q' w2 (Lib.hid ⟨ho.trans hq5.out.1, hb.1.trans hq5.out.2.1, hb.2.trans hq5.out.2.2⟩) (Lib.hid ⟨z1, hw5.out.2.thn kk (fun s hs => .inl (by rw [hq5.out.1] at hs; exact hs))⟩))
            go_wp2_with (go_at_call 11; ((refine HC2.out _ ?_); intro v6 q6 w6 hq6 h6))
            exact ⟨⟨i + 1, q6, by omega, by go_num, hq6, h6⟩, by simp [intOf]; omega⟩
          · obtain rfl : i = j := by omega
            go_wp2
            exact H2.out hlt q5 _ hw5.out.2 hw5.out.1.qn hq5.out.1 hq5.out.2
    · obtain rfl : j = n := by omega
      obtain ⟨qa, hqg, hqk, _, _⟩ := hw.out.fin hn1 hn2 (by show j ≤ (fsN F j).length; rw [fsN_len hjF]; exact hjF)
      have HK4 : Hid (QKP w0 B wr q1 (kzi F N j) qa (dz0 j) ∧ Kp q.own w wr) := Lib.hid ⟨hqk, by have := hw.out.kp; rw [hqa.out.1] at this; exact this⟩
      rw [← hqg]
      clear hqk hqg hw
      go_wp2
      exact H1.out hjF q1 qa _ HK4.out.2 HK4.out.1 hqa.out.1 hqa.out.2
end
end
/-! ### A new pool: made, or not. -/
section
open Go.RowKit Go.Shelf
set_option linter.unusedVariables false
set_option linter.unusedSimpArgs false
set_option maxRecDepth 100000
/-- A call about frames or blocks answers one thing. -/
theorem kstep_one {k k1 k2 : KS} {x : Kc} {n1 n2 e1 e2 : Int} {l1 l2 : List UInt8} (h1 : kStep k x n1 l1 e1 k1) (h2 : kStep k x n2 l2 e2 k2) (hx : decide (1 ≤ x.env ∧ x.env ≤ 2 ∧ 1 ≤ x.op ∧ x.op ≤ 8) = true) : n2 = n1 ∧ l2 = l1 ∧ e2 = e1 ∧ k2 = k1 := by
  have hx := of_decide_eq_true hx
  unfold kStep at h1 h2
  rw [if_neg (by omega), if_pos hx.2.2.2] at h1 h2
  have := h2.symm.trans h1
  injection this with a b c d
  exact ⟨a, b, c, d⟩
section
variable {R : Ending → World → Prop} {w w1 w' : World} {B m F N pg j c : Nat} {ka ka' : KA} {k k' : KS} {A : Option Addr}
theorem pnew_out (n : Int) (hn : n < 1 ∨ 256 < n) {kg : Nat} (h : R (.returned (.tuple #[.pointer none, .int .i64 1])) w) : Calls Tryz.prog 22 #[.pointer (some ⟨kg, 0, none⟩), .int .i64 n] w R := by
  have H := Lib.hid h
  clear h
  by_cases h1 : n < 1
  · clear hn
    go_enter Tryz.func22, Tryz.ntmps22
    go_wp2
    exact H.out
  · have h2 : 256 < n := by omega
    clear hn
    go_enter Tryz.func22, Tryz.ntmps22
    go_wp2
    exact H.out
set_option maxHeartbeats 8000000 in
theorem pnew2_any (hK : Kn w B ka (kz0 F N)) (hF0 : 1 ≤ F) (hF : F ≤ 250) (n : Nat) (hn1 : 1 ≤ n) (hn2 : n ≤ 256)
    (h1 : n ≤ F → ∀ ka' pa w', Pq B w w' → KPl w' B ka' (kzi F N n) pa ⟨psN n, 0, 0⟩ → ka'.g = ka.g → ka'.bT = ka.bT → w.heap.size ≤ pa.g → w.heap.size ≤ pa.l → R (.returned (.tuple #[.pointer (some ⟨pa.g, 0, none⟩), .int .i64 0])) w')
    (h2 : F < n → ∀ ka' w', Pq B w w' → Kn w' B ka' (kfr F N F) → ka'.g = ka.g → ka'.bT = ka.bT → R (.returned (.tuple #[.pointer none, .int .i64 10])) w') :
    Calls Tryz.prog 22 #[.pointer (some ⟨ka.g, 0, none⟩), .int .i64 n] w R := by
  have H1 := Lib.hid h1
  have H2 := Lib.hid h2
  have HK := Lib.hid hK
  have hB := hK.hB
  clear h1 h2 hK
  go_enter Tryz.func22, Tryz.ntmps22
  go_upto_region 6 with (fail)
  refine gen_worldK (fun W => ∃ pg, w.heap.size = pg ∧ Hid (NPl w W B ka (kzi F N 0) pg 0 none 0)) ⟨_, rfl, Lib.hid ⟨by rw [kzi_zero]; exact HK.out.off0 ((Kp.refl _ _).alloc _), (Bk.new' _ _ _).cast rfl, Ow.nil, Pq.of0 ((Kp.refl _ _).alloc _), by simp [bks], Nat.le_refl _⟩⟩ ?_
  rintro W ⟨pg, hpg, hW⟩
  rw [hpg]
  clear HK hpg
  go_wp2
  go_loopw [7, 8, 25] (fun _ _ iv wr => ∃ (j : Nat) (ka' : KA) (A : Option Addr) (c : Nat), j ≤ n ∧ j ≤ F ∧ iv = .int .i64 j ∧ Hid (ka'.g = ka.g ∧ ka'.bT = ka.bT) ∧ Hid (NPl w wr B ka' (kzi F N j) pg j A c)) (fun _ _ iv _ => n - (intOf iv).toNat)
  case atStart => exact ⟨0, ka, none, 0, Nat.zero_le _, Nat.zero_le _, rfl, Lib.hid ⟨rfl, rfl⟩, hW⟩
  case round =>
    obtain ⟨j, ka1, A, c, hj, hjF, rfl, hka, hw⟩ := hrel
    by_cases hlt : j < n
    · by_cases hjF2 : j < F
      · have HC : Hid (∀ (R : Ending → World → Prop), (∀ A4 c4 w' ka2, Hid (ka2.g = ka.g ∧ ka2.bT = ka.bT) → Hid (NPl w w' B ka2 (kzi F N (j + 1)) pg j A c) → R (.returned (.tuple #[.agg #[.int .i64 j, .slice A4 0 c4], .int .i64 0])) w') → Calls Tryz.prog 9 #[.pointer (some ⟨ka.g, 0, none⟩), .agg #[.int .i64 1, .int .i64 1, .int .i64 0, .int .i64 0, .int .i64 0, .slice none 0 0, .slice none 0 0, .slice none 0 0]] wr R) := Lib.hid (fun R h => by
          rw [← hka.out.1]
          refine kcall_any (x := numP 1 1) hw.out.kn (kzi_cnt F N j) (by omega) (numP_ok _ _ _) (fun nn AA len c2 l' e k' a' w2 hst q n9 hl ht => ?_)
          have h1 := hst.out
          unfold kStep at h1
          rw [if_neg (by simp [numP]), if_pos (by simp [numP])] at h1
          have h2 : kFB (kzi F N j) (numP 1 1) = ⟨(j : Int), [], 0, kzi F N (j + 1)⟩ := by
            unfold kFB
            rw [if_pos (show (numP 1 1).op = 1 from rfl)]
            show KR.mk (tAlloc (fsN F j) 1).1 [] (tAlloc (fsN F j) 1).2.1 { kzi F N j with fs := (tAlloc (fsN F j) 1).2.2 } = _
            rw [tAlloc_fsN (by omega)]; rfl
          rw [h2] at h1
          injection h1 with e1 e2 e3 e4
          subst e1; subst e2; subst e3; subst e4
          subst hl
          exact h AA c2 w2 a' (Lib.hid ⟨n9.2.1.trans hka.out.1, n9.2.2.trans hka.out.2⟩) (Lib.hid (hw.out.kcall q n9)))
        clear hW
        go_upto_region 16 with (go_at_call 9; (refine HC.out _ ?_; intro A4 c4 w4 ka4 hka4 h4))
        refine gen_worldK (fun W2 => ∃ ab, w4.heap.size = ab ∧ Hid (NPl w W2 B ka4 (kzi F N (j + 1)) pg j A c ∧ Bk W2 ab 39 [.int .i64 j, .slice A4 0 c4])) ⟨_, rfl, Lib.hid ⟨h4.out.off0 ((Kp.refl _ _).alloc _), (Bk.new' _ _ _).cast rfl⟩⟩ ?_
        rintro W2 ⟨ab, hab, hW2⟩
        rw [hab]
        have q1 : W2.cell? ⟨pg, 1, none⟩ = some (.slice A j c) := hW2.out.1.g.cell 1
        have q1a : ∀ o, (W2.alloc o).cell? ⟨pg, 1, none⟩ = some (.slice A j c) := fun o => (hW2.out.1.g.alloc o).cell 1
        have s0 : W2.cell? ⟨ab, 0, none⟩ = some (.int .i64 j) := hW2.out.2.cell 0
        have s0a : ∀ o, (W2.alloc o).cell? ⟨ab, 0, none⟩ = some (.int .i64 j) := fun o => (hW2.out.2.alloc o).cell 0
        clear HC h4 hab hw
        go_region_law (refine step_app rfl (.tmp 55) (.tmp 59) _ rfl elt_sl A j c _ (by simp [Act.eval, Act.put]) (hW2.out.1.l.drew.alloc _) [] (some ⟨W2.heap.size, 0, none⟩) 1 1 (PSl.e j).vals (by simp [Act.eval, Act.put]) (Rd.of_bk ((Bk.newAt rfl _ _).cast rfl) (by simp)) rfl (slv_one _) (by omega) ?_; intro A5 c5 w5 ho5 hk5 hA5; have bg5 := (hW2.out.1.g.drew.alloc (.cells #[.int .i64 j, .int .i64 0, .int .i64 0, .int .i64 0, .int .i64 0, .complex .f64 0 0, .bool false] 169)).off hk5 (Off.bks (hW2.out.1.l.drew.alloc _).ty (by decide)); have e5 : w5.cell? ⟨pg, 1, none⟩ = some (.slice A j c) := bg5.cell 1; have f5 := bg5.frozen 1; have BG5 := Lib.hid bg5; clear bg5)
        all_goals
          go_wp2
          exact ⟨⟨j + 1, ka4, A5, c5, by omega, by omega, by go_num, hka4, Lib.hid (hW2.out.1.app hB hk5 ho5 hA5)⟩, by simp [intOf]; omega⟩
      · obtain rfl : j = F := by omega
        have HC : Hid (∀ (R : Ending → World → Prop), (∀ A4 c4 w' ka2, Hid (ka2.g = ka.g ∧ ka2.bT = ka.bT) → Hid (NPl w w' B ka2 (kzi j N j) pg j A c) → R (.returned (.tuple #[.agg #[.int .i64 0, .slice A4 0 c4], .int .i64 10])) w') → Calls Tryz.prog 9 #[.pointer (some ⟨ka.g, 0, none⟩), .agg #[.int .i64 1, .int .i64 1, .int .i64 0, .int .i64 0, .int .i64 0, .slice none 0 0, .slice none 0 0, .slice none 0 0]] wr R) := Lib.hid (fun R h => by
          rw [← hka.out.1]
          refine kcall_any (x := numP 1 1) hw.out.kn (kzi_cnt j N j) (by omega) (numP_ok _ _ _) (fun nn AA len c2 l' e k' a' w2 hst q n9 hl ht => ?_)
          obtain ⟨e1, e2, e3, e4⟩ := kstep_one hst.out (kz_full j N) rfl
          subst e1; subst e2; subst e3; subst e4
          subst hl
          exact h AA c2 w2 a' (Lib.hid ⟨n9.2.1.trans hka.out.1, n9.2.2.trans hka.out.2⟩) (Lib.hid (hw.out.kcall q n9)))
        clear hW
        go_upto_region 10 with (go_at_call 9; (refine HC.out _ ?_; intro A4 c4 w4 ka4 hka4 h4))
        refine gen_worldK (fun W2 => Hid (NPl w W2 B ka4 (kzi j N j) pg j A c)) (Lib.hid (h4.out.off0 ((Kp.refl _ _).alloc _))) ?_
        intro W2 hW2
        obtain ⟨pa, e1, _, z⟩ := hW2.out.fin hF0 (by omega) hB
        have HK4 := Lib.hid (And.intro hW2.out.q z)
        have g0 : W2.cell? ⟨pa.g, 1, none⟩ = some (.slice (some ⟨pa.l, 0, none⟩) j pa.lc) := by have := z.pl.g.cell 1; simp only [psN_len] at this; exact this
        subst e1
        clear HC z h4 hw hW2
        go_wp2
        go_loopw [10, 40] (fun _ iv wr => ∃ (i : Nat) (ka5 : KA), i ≤ j ∧ iv = .int .i64 i ∧ Hid (ka5.g = ka.g ∧ ka5.bT = ka.bT) ∧ Hid (Pq B w wr ∧ KPl wr B ka5 (kfr j N i) pa ⟨psN j, 0, 0⟩)) (fun _ iv _ => j - (intOf iv).toNat)
        case atStart => exact ⟨0, ka4, Nat.zero_le _, rfl, hka4, HK4⟩
        case round =>
          obtain ⟨i, ka5, hi, rfl, hka5, hw5⟩ := hrel
          clear HK4 g0
          by_cases hij : i < j
          · obtain ⟨c0, c1, c2, c3, c4, c5, c6⟩ := hw5.out.2.pl.cells (i := i) (x := PSl.e (i : Int)) (by simp [psN, hij])
            simp only [PSl.e] at c0 c1 c2 c3 c4 c5 c6
            have hsz : w.heap.size ≤ wr.heap.size := hw5.out.1.size
            go_upto_region 13 with (fail)
            refine gen_worldK (fun W => ∃ ba, wr.heap.size = ba ∧ Hid (Pq B w W ∧ KPl W B ka5 (kfr j N i) pa ⟨psN j, 0, 0⟩ ∧ Bk W ba 169 (PSl.e (i : Int)).vals)) ⟨_, rfl, Lib.hid ⟨hw5.out.1.trans (Pq.of0 ((Kp.refl _ _).alloc _)), hw5.out.2.off0 ((Kp.refl _ _).alloc _), (Bk.new' _ _ _).cast rfl⟩⟩ ?_
            rintro W ⟨ba, hba, hW5⟩
            rw [hba]
            have q0 : W.cell? ⟨ba, 0, none⟩ = some (.int .i64 i) := hW5.out.2.2.cell 0
            have HC2 : Hid (∀ (R : Ending → World → Prop), (∀ v w' ka6, Hid (ka6.g = ka.g ∧ ka6.bT = ka.bT) → Hid (Pq B w w' ∧ KPl w' B ka6 (kfr j N (i + 1)) pa ⟨psN j, 0, 0⟩) → R (.returned v) w') → Calls Tryz.prog 9 #[.pointer (some ⟨ka.g, 0, none⟩), .agg #[.int .i64 2, .int .i64 1, .int .i64 i, .int .i64 0, .int .i64 0, .slice none 0 0, .slice none 0 0, .slice none 0 0]] W R) := Lib.hid (fun R h => by
              rw [← hka5.out.1]
              refine kcall_any (x := kcS 2 i []) hW5.out.2.1.kn (kfr_cnt j N i) (by omega) ⟨Tb.nil, rfl, by show 0 ≤ _; omega, fun _ => ⟨rfl, rfl⟩, Tb.nil, rfl, by show 0 ≤ _; omega, fun _ => ⟨rfl, rfl⟩, by simp [kcS], Tb.nil, rfl, by show 0 ≤ _; omega, fun _ => ⟨rfl, rfl⟩, by simp [kcS]⟩ (fun nn AA len c2 l' e k' a' w2 hst q n9 hl ht => ?_)
              obtain ⟨e1, e2, e3, e4⟩ := kstep_one hst.out (kz_free j N i) rfl
              subst e1; subst e2; subst e3; subst e4
              exact h _ w2 a' (Lib.hid ⟨n9.2.1.trans hka5.out.1, n9.2.2.trans hka5.out.2⟩) (Lib.hid ⟨hW5.out.1.trans q.pq, hW5.out.2.1.kcall q n9⟩))
            clear c0 c1 c2 c3 c4 c5 c6 hba hsz
            go_wp2_with (go_at_call 9; ((refine HC2.out _ ?_); intro v6 w6 ka6 hka6 h6))
            exact ⟨⟨i + 1, ka6, by omega, by go_num, hka6, h6⟩, by simp [intOf]; omega⟩
          · obtain rfl : i = j := by omega
            go_wp2
            exact H2.out hlt ka5 _ hw5.out.1 hw5.out.2.kn hka5.out.1 hka5.out.2
    · obtain rfl : j = n := by omega
      obtain ⟨pa, e1, e2, z⟩ := hw.out.fin hn1 hn2 hB
      have hgB := hw.out.gB
      subst e1
      go_wp2
      exact H1.out hjF ka1 pa _ hw.out.q z hka.out.1 hka.out.2 hgB e2
end
end
/-! ### Both kernels and both pools. -/
section
open Go.RowKit Go.Shelf
set_option linter.unusedVariables false
set_option linter.unusedSimpArgs false
set_option maxRecDepth 100000
section
variable {w w' : World} {B : Nat}
theorem Pq.nb (h : Pq B w w') {N : List Nat} {A : Option Addr} {e : Nat} {xs : List Value} (hb : Nb w N e A xs) (he : e ∉ MP) : Nb w' N e A xs := fun hx => by
  obtain ⟨b, off, cs, rfl, hn, hz, hc⟩ := hb hx
  exact ⟨b, off, cs, rfl, hn, h.bz hz he, hc⟩
theorem Pq.tw (h : Pq B w w') {b e : Nat} {xs : List Value} (hb : Tw w b e xs) (he : e ∉ MP) : Tw w' b e xs := by
  obtain ⟨ys, hb⟩ := hb
  exact ⟨ys, h.bk hb he⟩
theorem RT.pq {bM bO bH bB : Nat} {fs : List Fr} (h : RT w bM bO bH bB fs) (k : Pq B w w') : RT w' bM bO bH bB fs := by
  obtain ⟨c0, c1, c2, ht⟩ := h.t
  exact ⟨⟨c0, c1, c2, k.bk ht (by decide)⟩, k.tw h.o (by decide), k.tw h.h (by decide), k.tw h.b (by decide), h.ne, h.n1⟩
theorem Dm.pq {bD bB bO c : Nat} {A : Option Addr} {d : DkS} (h : Dm w bD bB bO A c d) (k : Pq B w w') : Dm w' bD bB bO A c d := by
  obtain ⟨cb, co, hb⟩ := h.dd
  exact ⟨⟨cb, co, k.bk hb (by decide)⟩, k.tw h.b (by decide), k.tw h.o (by decide), k.nb h.ln (by decide), h.ne, h.ok⟩
theorem Qn.pq {w0 : World} {q : QA} {k : KS} {B' : Nat} (h : Qn w0 B w q k) (hk : Pq B' w w') (hB : w0.heap.size ≤ B') : Qn w0 B w' q k := by
  obtain ⟨ys, hf⟩ := h.f
  obtain ⟨zs, ho⟩ := h.o
  exact ⟨hk.old h.old hB, h.hB, hk.bk h.g (by decide), h.t.pq hk, h.d.pq hk, ⟨ys, hf.key, hk.nb hf.rd (by decide), hf.p⟩, hk.nb h.in1 (by decide), hk.nb h.in2 (by decide), ⟨zs, ho.key, hk.nb ho.rd (by decide), ho.p⟩, h.new, h.nM, h.nO, h.cp⟩
theorem QKP.pq {w0 : World} {q : QA} {k : KS} {qa : QPA} {D : DP} {B' : Nat} (h : QKP w0 B w q k qa D) (hk : Pq B' w w') (hB : w0.heap.size ≤ B') : QKP w0 B w' q k qa D := by
  obtain ⟨tl, hl⟩ := h.ql.l
  exact ⟨h.qn.pq hk hB, ⟨hk.bk h.ql.g (by decide), ⟨tl, hk.bk hl (by decide)⟩, h.ql.hh, h.ql.hn, h.ql.gB, h.ql.lB⟩, h.f⟩
theorem QKP.offO {w0 : World} {q : QA} {k : KS} {qa : QPA} {D : DP} (h : QKP w0 B w q k qa D) : ∀ e, 67 ≠ e → 3 ≠ e → 9 ≠ e → 74 ≠ e → 172 ≠ e → 174 ≠ e → Off w (qa.both q) e := by
  obtain ⟨tl, hl⟩ := h.ql.l
  intro e h1 h2 h3 h4 h5 h6 s hs hlt
  simp only [QPA.both, List.mem_cons] at hs
  rcases hs with rfl | rfl | hs
  · exact ⟨_, h.ql.g.ty, h5⟩
  · exact ⟨_, hl.ty, h6⟩
  · exact h.qn.offO e h1 h2 h3 h4 s hs hlt
/-- The document's calls keep the program's kernel and its pool. -/
theorem KPl.offQ {w0 : World} {q : QA} {k k2 : KS} {qa : QPA} {D : DP} {B1 : Nat} {a : KA} {pa : PA} {p : PS} (h : KPl w B1 a k2 pa p) (hq : QKP w0 B w q k qa D) (hB : a.g < B) (hk : Kp (qa.both q) w w') : KPl w' B1 a k2 pa p := by
  have o := hq.offO
  have hbo : a.bO ∉ qa.both q := fun hm => by
    have := h.kn.new.og
    simp only [QPA.both, List.mem_cons] at hm
    rcases hm with hm | hm | hm
    · have := hq.ql.gB; omega
    · have := hq.ql.lB; omega
    · have := hq.qn.new _ hm; omega
  have z : ∀ e, e ∈ [114, 163, 245, 247, 144, 128, 199, 37, 5, 202, 120, 187, 239, 195, 167, 169] → Off w (qa.both q) e := by
    intro e he
    simp only [List.mem_cons, List.not_mem_nil, or_false] at he
    rcases he with rfl | rfl | rfl | rfl | rfl | rfl | rfl | rfl | rfl | rfl | rfl | rfl | rfl | rfl | rfl | rfl <;> exact o _ (by decide) (by decide) (by decide) (by decide) (by decide) (by decide)
  have n := h.kn
  refine ⟨⟨n.g.off hk (z _ (by decide)), n.t.kp hk ((z _ (by decide)).nin n.t.t.ty) ((z _ (by decide)).nin n.t.l.ty), ⟨n.d.dd.off hk (z _ (by decide)), n.d.l.off hk (z _ (by decide)), n.d.o.kp hk hbo, n.d.ln.off hk (z _ (by decide)), n.d.ok⟩, n.fl.off hk (z _ (by decide)), fun x hx => ⟨(n.fd x hx).1, (n.fd x hx).2.1, (n.fd x hx).2.2.kp hk (z _ (by decide))⟩, ?_, ?_, ?_, n.new⟩, h.pl.off hk (z _ (by decide)) (z _ (by decide)), h.gB, h.lB⟩
  · exact n.i1.off hk ((z _ (by decide)).nin n.i1.hs.ty) ((z _ (by decide)).nin n.r1) (z _ (by decide))
  · exact n.i2.off hk ((z _ (by decide)).nin n.i2.hs.ty) ((z _ (by decide)).nin n.r2) (z _ (by decide))
  · exact n.o.off hk ((z _ (by decide)).nin n.o.hs.ty) ((z _ (by decide)).nin n.ro) (z _ (by decide))
end
/-- What holds of a kernel whoever calls. -/
structure KI (k : KS) (m : Nat) : Prop where
  c : k.cnt m
  h : HInv k
  f : FInv k
  o : GOx k
/-- Both. -/
structure P2 (w0 w : World) (B : Nat) (a : KA) (pa : PA) (B2 : Nat) (q : QA) (qa : QPA) (k : KS) (D : DP) (m : Nat) : Prop where
  kp : KPl w B a k pa D.ps
  qk : QKP w0 B2 w q k qa D
  hB : w0.heap.size ≤ B
  ag : a.g < B2
  ki : KI k m
  pg : PG m k D
/-- What the document's call does, once the program's was done. -/
def Nxt (w0 : World) (B : Nat) (a' : KA) (pa : PA) (B2 : Nat) (q : QA) (qa : QPA) (m : Nat) (w' : World) (fn : Nat) (args : Array Value) (v : Value) : Prop :=
  ∀ (R : Ending → World → Prop) (w1 : World), Kp [] w' w1 → (∀ w2 q2 k2 D2, P2 w0 w2 B a' pa B2 q2 qa k2 D2 m → q2.own = q.own → q2.bM = q.bM → q2.bD = q.bD → Kp (qa.both q) w1 w2 → R (.returned v) w2) → Calls Tryz.prog fn args w1 R
theorem KI.step {k k' : KS} {m : Nat} {x : Kc} {n e : Int} {l : List UInt8} (h : KI k m) (hr : k.qo.length ≤ 16) (hpg : ∀ y ∈ k.fs, y.bs.length = 256) (hp : ∀ o ∈ x.p, o.ok) (hs : kStep k x n l e k') : KI k' (m + 1) :=
  ⟨kStep_cnt hs h.c hr, h.h.step hs, h.f.step hp hs, h.o.step hpg hs⟩
theorem KI.mono {k : KS} {a b : Nat} (h : KI k a) (hab : a ≤ b) : KI k b := ⟨kcnt_up h.c hab, h.h, h.f, h.o⟩
theorem KI.write {k : KS} {m : Nat} (h : KI k m) (hr : k.qo.length ≤ 16) (hpg : ∀ y ∈ k.fs, y.bs.length = 256) (f : Int) (l : List UInt8) : KI { k with fs := (tWrite k.fs 1 f 0 l).2 } (m + 1) := by
  have hs : kStep k (kcS 5 f l) (kFB k (kcS 5 f l)).n (kFB k (kcS 5 f l)).l (kFB k (kcS 5 f l)).e { k with fs := (tWrite k.fs 1 f 0 l).2 } := by
    unfold kStep
    rw [if_neg (by simp [kcS]), if_pos (by simp [kcS])]
    unfold kFB
    rw [if_neg (by simp [kcS]), if_neg (by simp [kcS]), if_neg (by simp [kcS]), if_neg (by simp [kcS]), if_pos (by rfl)]
    rfl
  exact h.step hr hpg (by simp [kcS]) hs
section
variable {R : Ending → World → Prop} {w0 w w' : World} {B B2 m : Nat} {a : KA} {pa : PA} {q : QA} {qa : QPA} {k : KS} {D : DP}
theorem P2.kp0 (h : P2 w0 w B a pa B2 q qa k D m) (hk : Kp [] w w') : P2 w0 w' B a pa B2 q qa k D m := ⟨h.kp.off0 hk, h.qk.kp hk, h.hB, h.ag, h.ki, h.pg⟩
theorem P2.mono {m' : Nat} (h : P2 w0 w B a pa B2 q qa k D m) (hm : m ≤ m') : P2 w0 w B a pa B2 q qa k D m' := ⟨h.kp, h.qk, h.hB, h.ag, h.ki.mono hm, h.pg.mono hm⟩
theorem P2.fin {w1 w2 : World} {a' : KA} {k' : KS} {q' : QA} {D' : DP} {m' : Nat} (h : P2 w0 w B a pa B2 q qa k D m) (hk : Pq B w w') (z : KPl w' B a' k' pa D'.ps) (e1 : a'.g = a.g) (k1 : Kp [] w' w1) (kk : Kp (qa.both q) w1 w2) (z2 : QKP w0 B2 w2 q' k' qa D') (hi : KI k' m') (g : PG m' k' D') : P2 w0 w2 B a' pa B2 q' qa k' D' m' :=
  ⟨(z.off0 k1).offQ ((h.qk.pq hk h.hB).kp k1) (by rw [e1]; exact h.ag) kk, z2, h.hB, by rw [e1]; exact h.ag, hi, g⟩
theorem p2_get (h2 : P2 w0 w B a pa B2 q qa k D m) (hm : m ≤ 5000) (b n ev od : Int) (he0 : 0 ≤ ev) (he1 : ev ≤ 1073741824) (ho0 : 0 ≤ od) (ho1 : od ≤ 1073741824)
    (h : ∀ f e w' a', Pq B w w' → a'.g = a.g → a'.bT = a.bT → Hid (Nxt w0 B a' pa B2 q qa (m + 1) w' 26 #[.pointer (some ⟨qa.g, 0, none⟩), .int .i64 b, .int .i64 n, .agg #[.int .i64 ev, .int .i64 od]] (.tuple #[.int .i64 f, .int .i64 e])) → R (.returned (.tuple #[.int .i64 f, .int .i64 e])) w') :
    Calls Tryz.prog 24 #[.pointer (some ⟨pa.g, 0, none⟩), .int .i64 b, .int .i64 n, .complex .f64 (fl ev.toNat) (fl od.toNat)] w R := by
  refine pget_any h2.kp h2.pg.bd h2.ki.c (by omega) b n _ _ (fun f e p' k' a' w' hg hk z e1 e2 => ?_)
  have hg := hg.out
  have hki : KI k' (m + 1) := by
    rcases hg with ⟨_, _, _, _, rfl⟩ | ⟨_, _, _, _, _, _, _, _, rfl⟩ | ⟨_, _, _, _, _, _, rfl⟩ | ⟨_, _, _, x, _, _, ⟨_, _, _, _, rfl⟩ | ⟨_, _, _, _, rfl⟩⟩
    · exact h2.ki.mono (Nat.le_succ _)
    · exact h2.ki.mono (Nat.le_succ _)
    · exact h2.ki.mono (Nat.le_succ _)
    · exact h2.ki.mono (Nat.le_succ _)
    · exact h2.ki.write h2.kp.kn.o.room h2.kp.kn.t.pg _ _
  refine h f e w' a' hk e1 e2 (Lib.hid (fun R w1 k1 hr => ?_))
  refine qget_any ((h2.qk.pq hk h2.hB).kp k1) h2.pg (by omega) h2.kp.kn.t.pg h2.kp.kn.o.room b n ev od he0 he1 ho0 ho1 hg z.kn.t.pg hki.c (fun q' w2 D' kk z2 hp g ho hb => ?_)
  subst hp
  exact hr w2 q' k' D' (h2.fin hk z e1 k1 kk z2 hki g) ho hb.1 hb.2 kk
theorem p2_head (h2 : P2 w0 w B a pa B2 q qa k D m) (hm : m ≤ 5000) (s : ByteArray) {A : Option Addr} {n c : Nat} (hr : Tb w 5 A (bts s.data.toList)) (hl : s.size = n) (hn : n ≤ 1000000) (hA : A = none → n = 0 ∧ c = 0)
    (h : ∀ f e w' a', Pq B w w' → a'.g = a.g → a'.bT = a.bT → Hid (Nxt w0 B a' pa B2 q qa (m + 1) w' 28 #[.pointer (some ⟨qa.g, 0, none⟩), .string s] (.tuple #[.int .i64 f, .int .i64 e])) → R (.returned (.tuple #[.int .i64 f, .int .i64 e])) w') :
    Calls Tryz.prog 27 #[.pointer (some ⟨pa.g, 0, none⟩), .slice A n c] w R := by
  refine phead_any h2.kp h2.ki.c (by omega) hr (by rw [Array.length_toList]; exact hl) hn hA (fun f e p' k' a' w' hg hk z e1 e2 => ?_)
  have hg := hg.out
  have hki : KI k' (m + 1) := by
    rcases hg with ⟨_, _, _, _, rfl⟩ | ⟨_, _, _, _, _, rfl⟩ | ⟨_, _, x, _, _, _, _, _, rfl⟩
    · exact h2.ki.mono (Nat.le_succ _)
    · exact h2.ki.mono (Nat.le_succ _)
    · exact h2.ki.write h2.kp.kn.o.room h2.kp.kn.t.pg _ _
  refine h f e w' a' hk e1 e2 (Lib.hid (fun R w1 k1 hr => ?_))
  refine qhead_any ((h2.qk.pq hk h2.hB).kp k1) h2.pg (by omega) h2.kp.kn.t.pg h2.kp.kn.o.room s hg z.kn.t.pg hki.c (fun q' w2 D' kk z2 hp g ho hb => ?_)
  subst hp
  exact hr w2 q' k' D' (h2.fin hk z e1 k1 kk z2 hki g) ho hb.1 hb.2 kk
theorem p2_pin (h2 : P2 w0 w B a pa B2 q qa k D m) (hm : m ≤ 5000) (f : Int)
    (h : ∀ e w', Pq B w w' → Hid (Nxt w0 B a pa B2 q qa (m + 1) w' 30 #[.pointer (some ⟨qa.g, 0, none⟩), .int .i64 f, .int .i64 1] (.int .i64 e)) → R (.returned (.int .i64 e)) w') :
    Calls Tryz.prog 29 #[.pointer (some ⟨pa.g, 0, none⟩), .int .i64 f] w R := by
  refine ppinup_any h2.kp h2.pg.bd (by omega) f (fun w' hk z => ?_)
  rw [dPin_more] at z ⊢
  refine h _ w' hk (Lib.hid (fun R w1 k1 hr => ?_))
  refine qpinby_any ((h2.qk.pq hk h2.hB).kp k1) h2.pg.bd (by omega) f 1 (by omega) (by omega) (fun w2 kk z2 => ?_)
  exact hr w2 q k _ (h2.fin hk z rfl k1 kk z2 (h2.ki.mono (Nat.le_succ _)) (dPin_pg h2.pg f 1 (.inl rfl))) rfl rfl rfl kk
theorem p2_unpin (h2 : P2 w0 w B a pa B2 q qa k D m) (hm : m ≤ 5000) (f : Int)
    (h : ∀ e w', Pq B w w' → Hid (Nxt w0 B a pa B2 q qa (m + 1) w' 30 #[.pointer (some ⟨qa.g, 0, none⟩), .int .i64 f, .int .i64 (-1)] (.int .i64 e)) → R (.returned (.int .i64 e)) w') :
    Calls Tryz.prog 31 #[.pointer (some ⟨pa.g, 0, none⟩), .int .i64 f] w R := by
  refine punpin_any h2.kp h2.pg.bd (by omega) f (fun w' hk z => ?_)
  rw [dPin_less] at z ⊢
  refine h _ w' hk (Lib.hid (fun R w1 k1 hr => ?_))
  refine qpinby_any ((h2.qk.pq hk h2.hB).kp k1) h2.pg.bd (by omega) f (-1) (by omega) (by omega) (fun w2 kk z2 => ?_)
  exact hr w2 q k _ (h2.fin hk z rfl k1 kk z2 (h2.ki.mono (Nat.le_succ _)) (dPin_pg h2.pg f (-1) (.inr rfl))) rfl rfl rfl kk
theorem p2_forget (h2 : P2 w0 w B a pa B2 q qa k D m) {A : Option Addr} {n c : Nat} {bl : List Int} (hr : Tb w 3 A (ints bl)) (hl : bl.length = n) (hn : n ≤ 1000000)
    (h : ∀ w', Pq B w w' → (∀ (R : Ending → World → Prop) (w1 : World) (A2 : Option Addr) (c2 : Nat), Kp [] w' w1 → Rd w1 (qa.both q) A2 (ints bl) → (∀ w2 D2, P2 w0 w2 B a pa B2 q qa k D2 m → Kp (qa.both q) w1 w2 → R (.returned (.tuple #[])) w2) → Calls Tryz.prog 33 #[.pointer (some ⟨qa.g, 0, none⟩), .slice A2 n c2] w1 R) → R (.returned (.tuple #[])) w') :
    Calls Tryz.prog 32 #[.pointer (some ⟨pa.g, 0, none⟩), .slice A n c] w R := by
  refine pfgt_any h2.kp hr hl hn (fun w' hk z => ?_)
  rw [← dForget_ps] at z
  refine h w' hk (fun R w1 A2 c2 k1 hr2 hr => ?_)
  refine qfgt_any ((h2.qk.pq hk h2.hB).kp k1) h2.pg.bd hr2 hl hn (fun w2 kk z2 => ?_)
  exact hr w2 _ (h2.fin hk z rfl k1 kk z2 h2.ki ((dForget_rel D bl).pg (Nat.le_refl _) h2.pg)) kk
theorem p2_part (h2 : P2 w0 w B a pa B2 q qa k D m) (hm : m ≤ 5000) {A : Option Addr} {n c : Nat} {l : List Pc} (hr : Tb w 187 A (l.flatMap Pc.vals)) (hl : l.length = n) (hn : n ≤ 200) (hok : ∀ x ∈ l, x.ok) {A2 : Option Addr} {c2 : Nat} (hr2 : Rd w0 [] A2 (l.flatMap Pc.vals))
    (h : ∀ (z1 z2 : Nat) e w' a', Pq B w w' → a'.g = a.g → a'.bT = a.bT → z1 < 2 ^ 53 → z2 < 2 ^ 53 → Hid (Nxt w0 B a' pa B2 q qa m w' 36 #[.pointer (some ⟨qa.g, 0, none⟩), .slice A2 n c2] (.tuple #[.agg #[.int .i64 z1, .int .i64 z2], .int .i64 e])) → R (.returned (.tuple #[.complex .f64 (fl z1) (fl z2), .int .i64 e])) w') :
    Calls Tryz.prog 34 #[.pointer (some ⟨pa.g, 0, none⟩), .slice A n c] w R := by
  have fin : ∀ {w' : World} {a' : KA} {v : Value}, Pq B w w' → KPl w' B a' k pa D.ps → a'.g = a.g → (∀ (R : Ending → World → Prop) (w1 : World), Kp [] w' w1 → (∀ w2, Kp [] w1 w2 → R (.returned v) w2) → Calls Tryz.prog 36 #[.pointer (some ⟨qa.g, 0, none⟩), .slice A2 n c2] w1 R) → Nxt w0 B a' pa B2 q qa m w' 36 #[.pointer (some ⟨qa.g, 0, none⟩), .slice A2 n c2] v := fun hk z e1 hc R w1 k1 hr => by
    refine hc R w1 k1 (fun w2 kk => ?_)
    have q1 := (h2.qk.pq hk h2.hB).kp k1
    exact hr w2 q k D (h2.fin hk z e1 k1 (kk.mono (by simp)) (q1.kp kk) h2.ki h2.pg) rfl rfl rfl (kk.mono (by simp))
  refine ppart2_any h2.kp h2.pg.di rfl (by omega) hr hl hn (fun he w' hw => ?_) (fun z he w' hw => ?_)
  · obtain ⟨a', e1, e2, hk, z⟩ := hw.out
    have := h 0 0 1 w' a' hk e1 e2 (by decide) (by decide) (Lib.hid (fin hk z e1 (fun R w1 k1 hr => by
      have q1 := (h2.qk.pq hk h2.hB).kp k1
      exact qpart_any q1 h2.pg.di (hr2.kp q1.qn.old (by simp)) hl hn hok (fun _ w2 kk => hr w2 kk) (fun z1 z2 hz => by rw [he] at hz; cases hz))))
    rw [fl_zero] at this
    exact this
  · obtain ⟨a', e1, e2, hk, zz⟩ := hw.out
    obtain ⟨z1, z2⟩ := z
    have hb := partD_bd h2.pg.di he
    rw [hl] at hb
    simp only at hb
    refine h z1 z2 0 w' a' hk e1 e2 (by omega) (by omega) (Lib.hid (fin hk zz e1 (fun R w1 k1 hr => by
      have q1 := (h2.qk.pq hk h2.hB).kp k1
      exact qpart_any q1 h2.pg.di (hr2.kp q1.qn.old (by simp)) hl hn hok (fun hz => by rw [he] at hz; cases hz) (fun y1 y2 hz w2 kk => by rw [he] at hz; injection hz with hz; injection hz with ha hb; subst ha; subst hb; exact hr w2 kk))))
theorem send_len {k k' : KS} {x : Kc} {n e : Int} (h : kSend k x n e k') : k'.fs.length = k.fs.length := by
  rcases h with ⟨_, _, _, rfl⟩ | ⟨_, _, _, _, rfl⟩ | ⟨_, hc, _, _, y, _, _, rfl⟩
  · rfl
  · rfl
  · obtain ⟨he, hp⟩ := checkE_ok hc
    exact up_len (holdAll_at he x.l k.fs (fun p hm => ⟨(hp p hm).2.2.1, (hp p hm).2.2.2.1, (hp p hm).2.2.2.2⟩))
theorem dep_len {k k' : KS} {env e : Int} {l : List UInt8} (hi : HInv k) (h : kDep k l env e k') : k'.fs.length = k.fs.length := by
  rcases h with ⟨_, _, _, _, rfl⟩ | ⟨y, q, hq, _, _, _, rfl⟩
  · rfl
  · exact up_len (hi.first hq).2
theorem step_ow {k k' : KS} {x : Kc} {n e : Int} {l : List UInt8} (ho : x.op = 7 ∨ x.op = 11) (hs : kStep k x n l e k') : OwS k.fs k'.fs ∧ k'.fs.length = k.fs.length := by
  unfold kStep at hs
  split at hs
  · obtain ⟨_, _, _, rfl⟩ := hs; exact ⟨OwS.refl _, rfl⟩
  · split at hs
    · have h6 := kFB_fs6 (k := k) (x := x) (by omega)
      rw [hs] at h6
      have h6 : k'.fs = k.fs := h6
      rw [h6]; exact ⟨OwS.refl _, rfl⟩
    · split at hs
      · omega
      · split at hs
        · omega
        · split at hs
          · exact ⟨send_ow hs.1, send_len hs.1⟩
          · omega
theorem p2_call (h2 : P2 w0 w B a pa B2 q qa k D m) (hm : m ≤ 5000) (c : Cl) (hc : QC w0 c) (hi : i64B c.b) (hop : c.op = 7 ∨ c.op = 11) {A5 A6 A7 : Option Addr} {c5 c6 c7 : Nat} (hx : Kc.ok w ⟨c.op, c.env, c.a, c.b, c.c, A5, c.s.size, c5, c.s.data.toList, A6, c.p.n, c6, c.p.l, A7, c.l.n, c7, c.l.l⟩)
    (h : ∀ n A len cc l e w' a', Pq B w w' → a'.g = a.g → a'.bT = a.bT → Hid (Nxt w0 B a' pa B2 q qa (m + 1) w' 11 #[.pointer (some ⟨q.g, 0, none⟩), .agg #[.int .i64 c.op, .int .i64 c.env, .int .i64 c.a, .int .i64 c.b, .int .i64 c.c, .string c.s, .slice c.p.A c.p.n c.p.c, .slice c.l.A c.l.n c.l.c]] (.tuple #[.int .i64 n, .string (S l), .int .i64 e])) → R (.returned (.tuple #[.agg #[.int .i64 n, .slice A len cc], .int .i64 e])) w') :
    Calls Tryz.prog 9 #[.pointer (some ⟨a.g, 0, none⟩), .agg #[.int .i64 c.op, .int .i64 c.env, .int .i64 c.a, .int .i64 c.b, .int .i64 c.c, .slice A5 c.s.size c5, .slice A6 c.p.n c6, .slice A7 c.l.n c7]] w R := by
  refine kcall_any (x := ⟨c.op, c.env, c.a, c.b, c.c, A5, c.s.size, c5, c.s.data.toList, A6, c.p.n, c6, c.p.l, A7, c.l.n, c7, c.l.l⟩) h2.kp.kn h2.ki.c (by omega) hx (fun n A len cc l e k' a' w' hs hq hk hl ht => ?_)
  have z := h2.kp.kcall hq hk
  have hki : KI k' (m + 1) := h2.ki.step h2.kp.kn.o.room h2.kp.kn.t.pg hx.po hs.out
  obtain ⟨how, hlen⟩ := step_ow hop hs.out
  refine h n A len cc l e w' a' hq.pq hk.2.1 hk.2.2 (Lib.hid (fun R w1 k1 hr => ?_))
  have q1 := (h2.qk.pq hq.pq h2.hB).kp k1
  refine rcallp_any q1.qn h2.ki.c (by omega) h2.kp.kn.t.pg h2.kp.kn.o.room _ c ⟨rfl, rfl, rfl, rfl, rfl, rfl, rfl, rfl⟩ hc hi (by omega) hs.out (fun q' w2 kk hq2 ho hb => ?_)
  obtain ⟨z2, kb⟩ := q1.call kk hq2 ho hlen
  exact hr w2 q' k' D (h2.fin hq.pq z hk.2.1 k1 kb z2 hki (h2.pg.turn (Nat.le_succ _) hki.c how z.kn.t.pg)) ho hb.1 hb.2 kb
theorem p2_dep (h2 : P2 w0 w B a pa B2 q qa k D m) (hm : m ≤ 5000)
    (h : ∀ A len cc l env e w' a', Pq B w w' → a'.g = a.g → a'.bT = a.bT → Hid (Nxt w0 B a' pa B2 q qa (m + 1) w' 15 #[.pointer (some ⟨q.g, 0, none⟩)] (.tuple #[.string (S l), .int .i64 env, .int .i64 e])) → R (.returned (.tuple #[.slice A len cc, .int .i64 env, .int .i64 e])) w') :
    Calls Tryz.prog 14 #[.pointer (some ⟨a.g, 0, none⟩)] w R := by
  refine kdep_any h2.kp.kn h2.ki.c (by omega) (fun y q' hq => (h2.ki.h.first hq).1) (fun A len cc l env e k' a' w' hd hq hk hl ht => ?_)
  have hd := hd.out
  have z := h2.kp.kcall hq hk
  have hki : KI k' (m + 1) := ⟨kDep_cnt hd h2.ki.h h2.ki.c, h2.ki.h.dep hd, h2.ki.f.dep hd, h2.ki.o.dep h2.ki.h hd⟩
  refine h A len cc l env e w' a' hq.pq hk.2.1 hk.2.2 (Lib.hid (fun R w1 k1 hr => ?_))
  have q1 := (h2.qk.pq hq.pq h2.hB).kp k1
  have fin : RdP R w0 B2 w1 q k' l env e := fun q' w2 kk hq2 ho hb => by
    obtain ⟨z2, kb⟩ := q1.call kk hq2 ho (dep_len h2.ki.h hd)
    exact hr w2 q' k' D (h2.fin hq.pq z hk.2.1 k1 kb z2 hki (h2.pg.turn (Nat.le_succ _) hki.c (dep_ow h2.ki.h hd) z.kn.t.pg)) ho hb.1 hb.2 kb
  have hcd := h2.ki.c.dn
  refine rdep_any q1.qn h2.kp.kn.t.pg (fun y hy => by have := h2.ki.c.ho y hy; omega) (by omega) (fun y q' hq => (h2.ki.h.first hq).1) (fun hq => ?_) (fun y q' hq => ?_)
  · rcases hd with ⟨_, rfl, rfl, rfl, rfl⟩ | ⟨y, q', hq', _⟩
    · exact fin
    · rw [hq] at hq'; cases hq'
  · rcases hd with ⟨hq', _⟩ | ⟨y2, q2, hq', rfl, rfl, rfl, rfl⟩
    · rw [hq] at hq'; cases hq'
    · rw [hq] at hq'; injection hq' with a1 a2; subst a1; subst a2; exact fin
end
end
end Go.Proofs.YtedblbpmlbjnhaaGreat
