/- The walks of package frame, the rest. -/
import Derived.Test.YthlmfjfkkndboaaFrame2
import Derived.Deep.DeepFit
namespace Go.Proofs.Ythlmfjfkkndboaa
open Go.RowKit
set_option linter.unusedVariables false
set_option maxRecDepth 100000
section
variable {R : Ending → World → Prop} {bT bL : Nat} {fs : List Fr} {w : World}

theorem Tab.row (h : Tab w bT bL fs) {i : Nat} {x x' : Fr} (hx : fs[i]? = some x) {o : Nat} {cs : List Value} (ho : o + cs.length ≤ 258)
    (hv : x'.vals = x.vals.take o ++ cs ++ x.vals.drop (o + cs.length)) (hb : x'.bs.length = 256) :
    Tab (w.setRow bL ((fs.flatMap fcells).take (i * 258 + o) ++ cs ++ (fs.flatMap fcells).drop (i * 258 + o + cs.length)).toArray) bT bL (fs.set i x') := by
  refine ⟨?_, ?_, ?_, by simpa using h.n1⟩
  · rw [List.length_set]; exact h.t.farRow h.ne _
  · exact (h.l.row _).cast (flat_splice fcells_len hx ho (by rw [fcells_eq hb, fcells_eq (h.pgAt hx), hv]))
  · intro y hy
    rcases mem_set hy with rfl | hy
    · exact hb
    · exact h.pg y hy
theorem Tab.room (h : Tab w bT bL fs) {i : Nat} {x : Fr} (hx : fs[i]? = some x) {o m : Nat} (ho : o + m ≤ 258) : i * 258 + o + m ≤ (fs.flatMap fcells).length := by
  have hi : i < fs.length := by
    rcases Nat.lt_or_ge i fs.length with h | h
    · exact h
    · rw [List.getElem?_eq_none h] at hx; cases hx
  rw [flat_len fcells_len]
  have := Nat.mul_le_mul_right 258 (Nat.succ_le_of_lt hi)
  omega

/-- A frame that is zero, as cells. -/
def zz : Array Value := fz.vals.toArray
theorem zero_one (W : World) : (zeroValue 146).run Try.prog W = .ok (.agg zz) W := by kernel_rfl
theorem zz_size : (Try.prog.info? 146).map (·.size) = some zz.size := by kernel_rfl
theorem zz_len : zz.size = 258 := by kernel_rfl
theorem fz_one : ∀ v ∈ fz.vals, v.oneCell' = true := by
  intro v hv
  simp only [Fr.vals, List.mem_cons] at hv
  rcases hv with rfl | rfl | hv
  · rfl
  · rfl
  · exact bts_one _ v hv
theorem fz_len : fz.bs.length = 256 := by kernel_rfl

set_option maxHeartbeats 400000 in
theorem free_any (hT : Tab w bT bL fs) (who f : Int)
    (h : ∀ e fs' w', Hid (tFree fs who f = (e, fs')) → Kp [bL] w w' → Tab w' bT bL fs' → R (.returned (.int .i64 e)) w') :
    Calls Try.prog 49 #[.pointer (some ⟨bT, 0, none⟩), .int .i64 who, .int .i64 f] w R := by
  have H := Lib.hid h
  have hz := zero_one
  clear h
  go_enter Try.func49, Try.ntmps49
  go_wp2_with (go_at_call 89; refine quiet_any hT _ _ (fun e g1 g2 => ?_) (fun x g1 g2 g3 g4 => ?_); rotate_left; have g5 := run_storeCells_bk (P := Try.prog) hT.l (f.toNat * 258) zz.toList (by rw [Array.length_toList, zz_len]; exact hT.room (o := 0) g4.out (by omega)) fz_one)
  · have e1 : tFree fs who f = (0, fs.set f.toNat fz) := by simp [tFree, g1.out]
    have e2 := hT.row (x' := fz) g4.out (o := 0) (cs := zz.toList) (by rw [Array.length_toList, zz_len]; omega) (by rw [Array.length_toList, zz_len, List.drop_of_length_le (by rw [vals_len (hT.pgAt g4.out)]; omega)]; simp [zz]) fz_len
    rw [Nat.add_zero, Array.length_toList, zz_len, List.append_assoc] at e2
    exact H.out 0 _ _ e1 ((Kp.refl _ _).setRow (.inl (by simp)) _) e2
  · exact H.out e fs w (by simp [Hid, tFree, g1.out, g2]) (Kp.refl _ _) hT

theorem Tab.bytes (h : Tab w bT bL fs) {i : Nat} {x : Fr} (hx : fs[i]? = some x) {off n : Nat} (hn : off + n ≤ 256) : Rd w [] (some ⟨bL, i * 258 + 2 + off, none⟩) (bts ((x.bs.drop off).take n)) := fun _ =>
  ⟨bL, _, rfl, by simp, h.l.lt, fun j u hu => by
    have hb := h.pgAt hx
    rw [bts_take, bts_drop, List.getElem?_take] at hu
    split at hu
    · rw [List.getElem?_drop] at hu
      have e := h.at_ hx (j := 2 + off + j) (by omega)
      rw [show i * 258 + 2 + off + j = i * 258 + (2 + off + j) by omega, e, show 2 + off + j = (off + j) + 1 + 1 by omega]
      exact hu
    · cases hu⟩

set_option maxHeartbeats 400000 in
theorem read_any (hT : Tab w bT bL fs) (who f off n : Int)
    (h : ∀ e l A c w', Hid (tRead fs who f off n = (e, l)) → Kp [] w w' → Ow w' 5 1 A l.length c (bts l) → (∀ b ∈ bks A, w.heap.size ≤ b) → R (.returned (.tuple #[.slice A l.length c, .int .i64 e])) w') :
    Calls Try.prog 34 #[.pointer (some ⟨bT, 0, none⟩), .int .i64 who, .int .i64 f, .int .i64 off, .int .i64 n] w R := by
  have H := Lib.hid h
  clear h
  cases hs : spanB off n with
  | false =>
    go_enter Try.func34, Try.ntmps34
    go_wp2_with (first | (go_at_call 75; refine span_any _ _ _ ?_) | (go_at_call 74; refine own_any hT _ _ (fun e g1 g2 => ?_) (fun x g1 g2 g3 g4 g5 => ?_); rotate_left))
    · exact H.out 1 [] none 0 w (by simp [Hid, tRead, g1.out, hs]) (Kp.refl _ _) Ow.nil (by simp [bks])
    · exact H.out e [] none 0 w (by simp [Hid, tRead, g1.out, g2]) (Kp.refl _ _) Ow.nil (by simp [bks])
  | true =>
    have ⟨s1, s2, s3⟩ : 0 ≤ off ∧ 0 ≤ n ∧ off + n ≤ 256 := by simpa [spanB] using hs
    go_enter Try.func34, Try.ntmps34
    go_wp2_with (first | (go_at_call 75; refine span_any _ _ _ ?_) | (go_at_call 74; refine own_any hT _ _ (fun e g1 g2 => ?_) (fun x g1 g2 g3 g4 g5 => ?_); rotate_left; have ⟨o', g6, g7⟩ := run_sliceAt_any (P := Try.prog) Try.underlying144 elt_u8.one bL (f.toNat * 258 + 2) .i64 .i64 off (off + n) s1 (by omega) (by omega)) | (go_at_call 76; refine clone_some (N := []) (xs := bts (cutB x.bs off n)) ?_ (bts_one _) ?_ ?_ (fun g c' w1 g11 g12 g13 => ?_)))
    · rcases Int.lt_or_le off 256 with hlt | hge
      · rw [g7.resolve_right (by omega)]; exact hT.bytes g4.out (by omega)
      · have e : cutB x.bs off n = [] := by simp only [cutB]; rw [show n.toNat = 0 by omega]; rfl
        rw [e]; exact Rd.nil
    · have hb := hT.pgAt g4.out
      simp [bts_len, cutB]; omega
    · omega
    · have hb := hT.pgAt g4.out
      have el : (cutB x.bs off n).length = (off + n - off).toNat := by simp [cutB]; omega
      have hh := H.out 0 (cutB x.bs off n) _ c' w1 (by simp [Hid, tRead, g1.out, hs, g2.out]) g13 (by rw [el]; exact g12) (by simpa [bks] using g11)
      rw [el] at hh
      exact hh
    · exact H.out e [] none 0 w (by simp [Hid, tRead, g1.out, g2]) (Kp.refl _ _) Ow.nil (by simp [bks])

set_option maxHeartbeats 400000 in
theorem fetch_any (hT : Tab w bT bL fs) (f off n : Int)
    (h : ∀ e l A c w', Hid (tFetch fs f off n = (e, l)) → Kp [] w w' → Ow w' 5 1 A l.length c (bts l) → (∀ b ∈ bks A, w.heap.size ≤ b) → R (.returned (.tuple #[.slice A l.length c, .int .i64 e])) w') :
    Calls Try.prog 54 #[.pointer (some ⟨bT, 0, none⟩), .int .i64 f, .int .i64 off, .int .i64 n] w R := by
  have H := Lib.hid h
  clear h
  cases hs : spanB off n with
  | false =>
    go_enter Try.func54, Try.ntmps54
    go_wp2_with (first | (go_at_call 75; refine span_any _ _ _ ?_) | (go_at_call 90; refine held_any hT _ (fun e g1 g2 => ?_) (fun x g1 g2 g3 g4 => ?_); rotate_left))
    · exact H.out 1 [] none 0 w (by simp [Hid, tFetch, g1.out, hs]) (Kp.refl _ _) Ow.nil (by simp [bks])
    · exact H.out e [] none 0 w (by simp [Hid, tFetch, g1.out, g2]) (Kp.refl _ _) Ow.nil (by simp [bks])
  | true =>
    have ⟨s1, s2, s3⟩ : 0 ≤ off ∧ 0 ≤ n ∧ off + n ≤ 256 := by simpa [spanB] using hs
    go_enter Try.func54, Try.ntmps54
    go_wp2_with (first | (go_at_call 75; refine span_any _ _ _ ?_) | (go_at_call 90; refine held_any hT _ (fun e g1 g2 => ?_) (fun x g1 g2 g3 g4 => ?_); rotate_left; have ⟨o', g6, g7⟩ := run_sliceAt_any (P := Try.prog) Try.underlying144 elt_u8.one bL (f.toNat * 258 + 2) .i64 .i64 off (off + n) s1 (by omega) (by omega)) | (go_at_call 76; refine clone_some (N := []) (xs := bts (cutB x.bs off n)) ?_ (bts_one _) ?_ ?_ (fun g c' w1 g11 g12 g13 => ?_)))
    · rcases Int.lt_or_le off 256 with hlt | hge
      · rw [g7.resolve_right (by omega)]; exact hT.bytes g4.out (by omega)
      · have e : cutB x.bs off n = [] := by simp only [cutB]; rw [show n.toNat = 0 by omega]; rfl
        rw [e]; exact Rd.nil
    · have hb := hT.pgAt g4.out
      simp [bts_len, cutB]; omega
    · omega
    · have hb := hT.pgAt g4.out
      have el : (cutB x.bs off n).length = (off + n - off).toNat := by simp [cutB]; omega
      have hh := H.out 0 (cutB x.bs off n) _ c' w1 (by simp [Hid, tFetch, g1.out, hs, g2.out]) g13 (by rw [el]; exact g12) (by simpa [bks] using g11)
      rw [el] at hh
      exact hh
    · exact H.out e [] none 0 w (by simp [Hid, tFetch, g1.out, g2]) (Kp.refl _ _) Ow.nil (by simp [bks])

set_option maxHeartbeats 400000 in
theorem write_any (hT : Tab w bT bL fs) (who f off : Int) {A : Option Addr} {n c : Nat} {l : List UInt8} (hr : Rd w [bL] A (bts l)) (hl : l.length = n) (hn : n ≤ 1000000) (hnil : A = none → n = 0 ∧ c = 0)
    (h : ∀ e fs' w', Hid (tWrite fs who f off l = (e, fs')) → Kp [bL] w w' → Tab w' bT bL fs' → R (.returned (.int .i64 e)) w') :
    Calls Try.prog 51 #[.pointer (some ⟨bT, 0, none⟩), .int .i64 who, .int .i64 f, .int .i64 off, .slice A n c] w R := by
  have H := Lib.hid h
  have HL := Lib.hid hl
  clear h hl
  cases hs : spanB off n with
  | false =>
    go_enter Try.func51, Try.ntmps51
    go_wp2_with (first | (go_at_call 75; refine span_any _ _ _ ?_) | (go_at_call 74; refine own_any hT _ _ (fun e g1 g2 => ?_) (fun x g1 g2 g3 g4 g5 => ?_); rotate_left))
    · exact H.out 1 fs w (by simp [Hid, tWrite, g1.out, HL.out, hs]) (Kp.refl _ _) hT
    · exact H.out e fs w (by simp [Hid, tWrite, g1.out, g2]) (Kp.refl _ _) hT
  | true =>
    have ⟨s1, s2, s3⟩ : 0 ≤ off ∧ 0 ≤ (n : Int) ∧ off + n ≤ 256 := by simpa [spanB] using hs
    obtain ⟨o', g6, g7⟩ := run_sliceAt_lo (P := Try.prog) Try.underlying144 elt_u8.one bL (f.toNat * 258 + 2) .i64 off s1 (by omega)
    have g10 : ∀ x, fs[f.toNat]? = some x → ∃ q, o' = f.toNat * 258 + q ∧ q + n ≤ 258 ∧ (Fr.mk x.ow x.ho (putB x.bs off l)).vals = x.vals.take q ++ bts l ++ x.vals.drop (q + n) := by
      intro x hx
      have hb := hT.pgAt hx
      have hl := HL.out
      rcases g7 with g7 | ⟨g7, g7'⟩
      · refine ⟨off.toNat + 2, by omega, by omega, ?_⟩
        rw [show off.toNat + 2 + n = (off.toNat + n) + 1 + 1 by omega]
        simp [Fr.vals, putB, bts_append, bts_take, bts_drop, hl]
      · have h0 : n = 0 := by omega
        subst h0
        have e : l = [] := List.eq_nil_of_length_eq_zero hl
        refine ⟨2, by omega, by omega, ?_⟩
        subst e
        simp [Fr.vals, putB, bts]
    have G10 := Lib.hid g10
    clear g10 g7
    go_enter Try.func51, Try.ntmps51
    go_wp2_with (first | (go_at_call 75; refine span_any _ _ _ ?_) | (go_at_call 74; refine own_any hT _ _ (fun e g1 g2 => ?_) (fun x g1 g2 g3 g4 g5 => ?_); rotate_left; have ⟨q, q1, q2, q3⟩ := G10.out x g4; have g6' := hT.ho g4; have q4 := Lib.hid q1; have q5 := Lib.hid q3; clear q1 q3; have g8 := fun ty => run_copy_bk (P := Try.prog) hT.l 44 ty 5 o' (256 - off.toNat) (256 - off.toNat) n c A (bts l) hr (by rw [bts_len]; exact HL.out) Try.underlying44 elt_u8.one (by omega) (by rw [q4.out]; exact hT.room g4.out q2) (bts_one _) hnil))
    · exact H.out 21 fs w (by simp [Hid, tWrite, g1.out, HL.out, hs, g2.out]; omega) (Kp.refl _ _) hT
    · have hb := hT.pgAt g4.out
      have e2 := hT.row (x' := Fr.mk x.ow x.ho (putB x.bs off l)) g4.out (o := q) (cs := bts l) (by rw [bts_len, HL.out]; exact q2) (by rw [bts_len, HL.out]; exact q5.out) (by have := HL.out; simp [putB]; omega)
      have e1 : tWrite fs who f off l = (0, fs.set f.toNat (Fr.mk x.ow x.ho (putB x.bs off l))) := by
        simp [tWrite, g1.out, HL.out, hs, g2.out]; omega
      rw [← q4.out, bts_len, HL.out, List.append_assoc] at e2
      exact H.out 0 _ _ e1 ((Kp.refl _ _).setRow (.inl (by simp)) _) e2
    · exact H.out e fs w (by simp [Hid, tWrite, g1.out, g2]) (Kp.refl _ _) hT
end
end Go.Proofs.Ythlmfjfkkndboaa
