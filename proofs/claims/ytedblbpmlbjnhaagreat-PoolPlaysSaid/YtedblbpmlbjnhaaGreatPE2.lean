/- The walks of package frame, more. The walks of package frame, the rest. The walks of package frame: Alloc, FreeCount, New. -/
import Derived.Test.YtedblbpmlbjnhaaGreatPE1
import Derived.Deep.DeepFit
namespace Go.Proofs.YtedblbpmlbjnhaaGreat
/-! ### The walks of package frame, more. -/
section
open Go.RowKit
set_option linter.unusedVariables false
set_option maxRecDepth 100000
section
variable {R : Ending → World → Prop} {bT bL : Nat} {fs : List Fr} {w : World}

/-! ### what the calls do -/
def tFree (fs : List Fr) (who f : Int) : Int × List Fr := if quietE fs who f = 0 then (0, fs.set f.toNat fz) else (quietE fs who f, fs)
def tGive (fs : List Fr) (who f to : Int) : Int × List Fr :=
  if ownE fs who f = 0 then
    if envB to = false then (1, fs) else
    match fat fs f with
    | none => (1, fs)
    | some x => if 0 < x.ho then (21, fs) else (0, fs.set f.toNat { x with ow := to })
  else (ownE fs who f, fs)
def tHold (fs : List Fr) (who f : Int) : Int × List Fr :=
  if ownE fs who f = 0 then match fat fs f with | none => (1, fs) | some x => (0, fs.set f.toNat { x with ho := x.ho + 1 }) else (ownE fs who f, fs)
def tDrop (fs : List Fr) (f : Int) : Int × List Fr :=
  if heldE fs f = 0 then match fat fs f with | none => (1, fs) | some x => (0, fs.set f.toNat { x with ho := x.ho - 1 }) else (heldE fs f, fs)
def cutB (l : List UInt8) (off n : Int) : List UInt8 := (l.drop off.toNat).take n.toNat
def tRead (fs : List Fr) (who f off n : Int) : Int × List UInt8 :=
  if ownE fs who f = 0 then if spanB off n = false then (1, []) else match fat fs f with | none => (1, []) | some x => (0, cutB x.bs off n) else (ownE fs who f, [])
def tFetch (fs : List Fr) (f off n : Int) : Int × List UInt8 :=
  if heldE fs f = 0 then if spanB off n = false then (1, []) else match fat fs f with | none => (1, []) | some x => (0, cutB x.bs off n) else (heldE fs f, [])
def putB (l : List UInt8) (off : Int) (s : List UInt8) : List UInt8 := l.take off.toNat ++ s ++ l.drop (off.toNat + s.length)
def tWrite (fs : List Fr) (who f off : Int) (s : List UInt8) : Int × List Fr :=
  if ownE fs who f = 0 then
    if spanB off s.length = false then (1, fs) else
    match fat fs f with
    | none => (1, fs)
    | some x => if 0 < x.ho then (21, fs) else (0, fs.set f.toNat { x with bs := putB x.bs off s })
  else (ownE fs who f, fs)
def tOwner (fs : List Fr) (f : Int) : Int := match fat fs f with | none => 0 | some x => x.ow
def tHolds (fs : List Fr) (f : Int) : Int := match fat fs f with | none => 0 | some x => x.ho
def tCount (fs : List Fr) : Nat := (fs.filter fun x => x.ow == 0).length
def tAlloc (fs : List Fr) (who : Int) : Int × Int × List Fr :=
  if envB who then match fs.findIdx? (fun x => x.ow == 0) with
    | none => (0, 10, fs)
    | some i => (i, 0, match fs[i]? with | none => fs | some x => fs.set i { x with ow := who })
  else (0, 1, fs)

theorem ownE_ok {who f : Int} (h : ownE fs who f = 0) : ∃ x, fat fs f = some x ∧ x.ow = who ∧ envB who = true := by
  unfold ownE at h
  split at h
  · split at h
    · omega
    · rename_i x hx; split at h
      · exact ⟨x, hx, ‹_›, ‹_›⟩
      · omega
  · omega
theorem heldE_ok {f : Int} (h : heldE fs f = 0) : ∃ x, fat fs f = some x ∧ x.ho ≠ 0 := by
  unfold heldE at h
  split at h
  · omega
  · rename_i x hx; split at h
    · omega
    · exact ⟨x, hx, ‹_›⟩


set_option maxHeartbeats 400000 in
theorem quiet_any (hT : Tab w bT bL fs) (who f : Int)
    (h1 : ∀ e, Hid (quietE fs who f = e) → e ≠ 0 → R (.returned (.tuple #[.pointer none, .int .i64 e])) w)
    (h2 : ∀ x, Hid (quietE fs who f = 0) → Hid (fat fs f = some x) → 0 ≤ f → Hid (fs[f.toNat]? = some x) → R (.returned (.tuple #[.pointer (some ⟨bL, f.toNat * 258, none⟩), .int .i64 0])) w) :
    Calls Tryz.prog 147 #[.pointer (some ⟨bT, 0, none⟩), .int .i64 who, .int .i64 f] w R := by
  have H1 := Lib.hid h1
  have H2 := Lib.hid h2
  clear h1 h2
  go_enter Tryz.func147, Tryz.ntmps147
  go_wp2_with (go_at_call 128; refine own_any hT _ _ (fun e g1 g2 => ?_) (fun x g1 g2 g3 g4 g5 => ?_); rotate_left; have g6 := hT.ho g4)
  · exact H1.out 21 (by simp [Hid, quietE, g1.out, g2.out]; omega) (by omega)
  · exact H2.out x (by simp [Hid, quietE, g1.out, g2.out]; omega) g2 g3 g4
  · exact H1.out e (by simp [Hid, quietE, g1.out, g2]) g2

set_option maxHeartbeats 400000 in
theorem held_any (hT : Tab w bT bL fs) (f : Int)
    (h1 : ∀ e, Hid (heldE fs f = e) → e ≠ 0 → R (.returned (.tuple #[.pointer none, .int .i64 e])) w)
    (h2 : ∀ x, Hid (heldE fs f = 0) → Hid (fat fs f = some x) → 0 ≤ f → Hid (fs[f.toNat]? = some x) → R (.returned (.tuple #[.pointer (some ⟨bL, f.toNat * 258, none⟩), .int .i64 0])) w) :
    Calls Tryz.prog 150 #[.pointer (some ⟨bT, 0, none⟩), .int .i64 f] w R := by
  have H1 := Lib.hid h1
  have H2 := Lib.hid h2
  clear h1 h2
  cases hx : fat fs f with
  | none =>
    have HX := Lib.hid hx
    clear hx
    go_enter Tryz.func150, Tryz.ntmps150
    go_wp2_with (go_at_call 127; refine find_none hT _ HX.out ?_)
    exact H1.out 1 (by simp [Hid, heldE, HX.out]) (by omega)
  | some x =>
    obtain ⟨h0, hi⟩ := fat_some hx
    have hc := hT.ho hi
    have HX := Lib.hid hx
    clear hx
    go_enter Tryz.func150, Tryz.ntmps150
    go_wp2_with (go_at_call 127; refine find_some hT _ HX.out ?_)
    · exact H1.out 1 (by simp [Hid, heldE, HX.out]; simp_all) (by omega)
    · exact H2.out x (by simp [Hid, heldE, HX.out]; simp_all) HX h0 hi

set_option maxHeartbeats 400000 in
theorem give_any (hT : Tab w bT bL fs) (who f to : Int)
    (h : ∀ e fs' w', Hid (tGive fs who f to = (e, fs')) → Kp [bL] w w' → Tab w' bT bL fs' → R (.returned (.int .i64 e)) w') :
    Calls Tryz.prog 111 #[.pointer (some ⟨bT, 0, none⟩), .int .i64 who, .int .i64 f, .int .i64 to] w R := by
  have H := Lib.hid h
  clear h
  cases hto : envB to
  all_goals
    go_enter Tryz.func111, Tryz.ntmps111
    go_wp2_with (first | (go_at_call 146; refine env_any _ _ ?_) | (go_at_call 128; refine own_any hT _ _ (fun e g1 g2 => ?_) (fun x g1 g2 g3 g4 g5 => ?_); rotate_left; have g6 := hT.ho g4; have g7 := hT.ow g4; have g8 := hT.free))
  · exact H.out 1 fs w (by simp [Hid, tGive, g1.out, hto]) (Kp.refl _ _) hT
  · exact H.out e fs w (by simp [Hid, tGive, g1.out, g2]) (Kp.refl _ _) hT
  · exact H.out 21 fs w (by simp [Hid, tGive, g1.out, g2.out, hto]; omega) (Kp.refl _ _) hT
  · exact H.out 0 _ _ (by simp [Hid, tGive, g1.out, g2.out, hto]; omega) ((Kp.refl _ _).setCell (.inl (by simp)) _) (hT.putOw g4 to)
  · exact H.out e fs w (by simp [Hid, tGive, g1.out, g2]) (Kp.refl _ _) hT

set_option maxHeartbeats 400000 in
theorem hold_any (hT : Tab w bT bL fs) (who f : Int) (hb : ∀ x, fat fs f = some x → -1000000000 ≤ x.ho ∧ x.ho ≤ 1000000000)
    (h : ∀ e fs' w', Hid (tHold fs who f = (e, fs')) → Kp [bL] w w' → Tab w' bT bL fs' → R (.returned (.int .i64 e)) w') :
    Calls Tryz.prog 125 #[.pointer (some ⟨bT, 0, none⟩), .int .i64 who, .int .i64 f] w R := by
  have H := Lib.hid h
  have HB := Lib.hid hb
  clear h hb
  go_enter Tryz.func125, Tryz.ntmps125
  go_wp2_with (go_at_call 128; refine own_any hT _ _ (fun e g1 g2 => ?_) (fun x g1 g2 g3 g4 g5 => ?_); rotate_left; have g6 := hT.ho g4; have g8 := hT.free; have ⟨g9, g10⟩ := HB.out x g2)
  · exact H.out 0 _ _ (by simp [Hid, tHold, g1.out, g2.out]) ((Kp.refl _ _).setCell (.inl (by simp)) _) (hT.putHo g4 (x.ho + 1))
  · exact H.out e fs w (by simp [Hid, tHold, g1.out, g2]) (Kp.refl _ _) hT

set_option maxHeartbeats 400000 in
theorem drop_any (hT : Tab w bT bL fs) (f : Int) (hb : ∀ x, fat fs f = some x → -1000000000 ≤ x.ho ∧ x.ho ≤ 1000000000)
    (h : ∀ e fs' w', Hid (tDrop fs f = (e, fs')) → Kp [bL] w w' → Tab w' bT bL fs' → R (.returned (.int .i64 e)) w') :
    Calls Tryz.prog 126 #[.pointer (some ⟨bT, 0, none⟩), .int .i64 f] w R := by
  have H := Lib.hid h
  have HB := Lib.hid hb
  clear h hb
  go_enter Tryz.func126, Tryz.ntmps126
  go_wp2_with (go_at_call 150; refine held_any hT _ (fun e g1 g2 => ?_) (fun x g1 g2 g3 g4 => ?_); rotate_left; have g6 := hT.ho g4; have g8 := hT.free; have ⟨g9, g10⟩ := HB.out x g2)
  · exact H.out 0 _ _ (by simp [Hid, tDrop, g1.out, g2.out]) ((Kp.refl _ _).setCell (.inl (by simp)) _) (hT.putHo g4 (x.ho - 1))
  · exact H.out e fs w (by simp [Hid, tDrop, g1.out, g2]) (Kp.refl _ _) hT

set_option maxHeartbeats 400000 in
theorem owner_any (hT : Tab w bT bL fs) (f : Int) (h : ∀ n, Hid (tOwner fs f = n) → R (.returned (.int .i64 n)) w) :
    Calls Tryz.prog 70 #[.pointer (some ⟨bT, 0, none⟩), .int .i64 f] w R := by
  have H := Lib.hid h
  clear h
  cases hx : fat fs f with
  | none =>
    have HX := Lib.hid hx
    clear hx
    go_enter Tryz.func70, Tryz.ntmps70
    go_wp2_with (go_at_call 127; refine find_none hT _ HX.out ?_)
    exact H.out 0 (by simp [Hid, tOwner, HX.out])
  | some x =>
    obtain ⟨h0, hi⟩ := fat_some hx
    have hc := hT.ow hi
    have HX := Lib.hid hx
    clear hx
    go_enter Tryz.func70, Tryz.ntmps70
    go_wp2_with (go_at_call 127; refine find_some hT _ HX.out ?_)
    exact H.out _ (by simp [Hid, tOwner, HX.out])

set_option maxHeartbeats 400000 in
theorem holds_any (hT : Tab w bT bL fs) (f : Int) (h : ∀ n, Hid (tHolds fs f = n) → R (.returned (.int .i64 n)) w) :
    Calls Tryz.prog 71 #[.pointer (some ⟨bT, 0, none⟩), .int .i64 f] w R := by
  have H := Lib.hid h
  clear h
  cases hx : fat fs f with
  | none =>
    have HX := Lib.hid hx
    clear hx
    go_enter Tryz.func71, Tryz.ntmps71
    go_wp2_with (go_at_call 127; refine find_none hT _ HX.out ?_)
    exact H.out 0 (by simp [Hid, tHolds, HX.out])
  | some x =>
    obtain ⟨h0, hi⟩ := fat_some hx
    have hc := hT.ho hi
    have HX := Lib.hid hx
    clear hx
    go_enter Tryz.func71, Tryz.ntmps71
    go_wp2_with (go_at_call 127; refine find_some hT _ HX.out ?_)
    exact H.out _ (by simp [Hid, tHolds, HX.out])

set_option maxHeartbeats 400000 in
theorem size_any (hT : Tab w bT bL fs) (h : R (.returned (.int .i64 fs.length)) w) :
    Calls Tryz.prog 67 #[.pointer (some ⟨bT, 0, none⟩)] w R := by
  have hc := hT.hc
  go_enter Tryz.func67, Tryz.ntmps67
  go_wp2
  exact h
end
end
/-! ### The walks of package frame, the rest. -/
section
open Go.RowKit
set_option linter.unusedVariables false
set_option maxRecDepth 100000
section
variable {R : Ending → World → Prop} {bT bL : Nat} {fs : List Fr} {w : World}

theorem Tab.row (h : Tab w bT bL fs) {i : Nat} {x x' : Fr} (hx : fs[i]? = some x) {o : Nat} {cs : List Value} (ho : o + cs.length ≤ 258)
    (hv : x'.vals = x.vals.take o ++ cs ++ x.vals.drop (o + cs.length)) (hb : x'.bs.length = 256) :
    Tab (w.setRow bL ((fs.flatMap fcells).take (i * 258 + o) ++ cs ++ (fs.flatMap fcells).drop (i * 258 + o + cs.length)).toArray) bT bL (fs.set i x') := by
  refine ⟨?_, ?_, ?_, by simpa using h.n1⟩
  · rw [List.length_set]; exact h.t.farRow h.ne _
  · exact (h.l.row _).cast (flat_splice fcells_len hx ho (by rw [fcells_eq hb, fcells_eq (h.pgAt hx), hv]))
  · intro y hy
    rcases mem_set hy with rfl | hy
    · exact hb
    · exact h.pg y hy
theorem Tab.room (h : Tab w bT bL fs) {i : Nat} {x : Fr} (hx : fs[i]? = some x) {o m : Nat} (ho : o + m ≤ 258) : i * 258 + o + m ≤ (fs.flatMap fcells).length := by
  have hi : i < fs.length := by
    rcases Nat.lt_or_ge i fs.length with h | h
    · exact h
    · rw [List.getElem?_eq_none h] at hx; cases hx
  rw [flat_len fcells_len]
  have := Nat.mul_le_mul_right 258 (Nat.succ_le_of_lt hi)
  omega

/-- A frame that is zero, as cells. -/
def zz : Array Value := fz.vals.toArray
theorem zero_one (W : World) : (zeroValue 239).run Tryz.prog W = .ok (.agg zz) W := by kernel_rfl
theorem zz_len : zz.size = 258 := by kernel_rfl
theorem fz_one : ∀ v ∈ fz.vals, v.oneCell' = true := by
  intro v hv
  simp only [Fr.vals, List.mem_cons] at hv
  rcases hv with rfl | rfl | hv
  · rfl
  · rfl
  · exact bts_one _ v hv
theorem fz_len : fz.bs.length = 256 := by kernel_rfl

set_option maxHeartbeats 400000 in
theorem free_any (hT : Tab w bT bL fs) (who f : Int)
    (h : ∀ e fs' w', Hid (tFree fs who f = (e, fs')) → Kp [bL] w w' → Tab w' bT bL fs' → R (.returned (.int .i64 e)) w') :
    Calls Tryz.prog 110 #[.pointer (some ⟨bT, 0, none⟩), .int .i64 who, .int .i64 f] w R := by
  have H := Lib.hid h
  have hz := zero_one
  clear h
  go_enter Tryz.func110, Tryz.ntmps110
  go_wp2_with (go_at_call 147; refine quiet_any hT _ _ (fun e g1 g2 => ?_) (fun x g1 g2 g3 g4 => ?_); rotate_left; have g5 := run_storeCells_bk (P := Tryz.prog) hT.l (f.toNat * 258) zz.toList (by rw [Array.length_toList, zz_len]; exact hT.room (o := 0) g4.out (by omega)) fz_one)
  · have e1 : tFree fs who f = (0, fs.set f.toNat fz) := by simp [tFree, g1.out]
    have e2 := hT.row (x' := fz) g4.out (o := 0) (cs := zz.toList) (by rw [Array.length_toList, zz_len]; omega) (by rw [Array.length_toList, zz_len, List.drop_of_length_le (by rw [vals_len (hT.pgAt g4.out)]; omega)]; simp [zz]) fz_len
    rw [Nat.add_zero, Array.length_toList, zz_len, List.append_assoc] at e2
    exact H.out 0 _ _ e1 ((Kp.refl _ _).setRow (.inl (by simp)) _) e2
  · exact H.out e fs w (by simp [Hid, tFree, g1.out, g2]) (Kp.refl _ _) hT

theorem Tab.bytes (h : Tab w bT bL fs) {i : Nat} {x : Fr} (hx : fs[i]? = some x) {off n : Nat} (hn : off + n ≤ 256) : Rd w [] (some ⟨bL, i * 258 + 2 + off, none⟩) (bts ((x.bs.drop off).take n)) := fun _ =>
  ⟨bL, _, rfl, by simp, h.l.lt, fun j u hu => by
    have hb := h.pgAt hx
    rw [bts_take, bts_drop, List.getElem?_take] at hu
    split at hu
    · rw [List.getElem?_drop] at hu
      have e := h.at_ hx (j := 2 + off + j) (by omega)
      rw [show i * 258 + 2 + off + j = i * 258 + (2 + off + j) by omega, e, show 2 + off + j = (off + j) + 1 + 1 by omega]
      exact hu
    · cases hu⟩

set_option maxHeartbeats 400000 in
theorem read_any (hT : Tab w bT bL fs) (who f off n : Int)
    (h : ∀ e l A c w', Hid (tRead fs who f off n = (e, l)) → Kp [] w w' → Ow w' 5 1 A l.length c (bts l) → (∀ b ∈ bks A, w.heap.size ≤ b) → R (.returned (.tuple #[.slice A l.length c, .int .i64 e])) w') :
    Calls Tryz.prog 72 #[.pointer (some ⟨bT, 0, none⟩), .int .i64 who, .int .i64 f, .int .i64 off, .int .i64 n] w R := by
  have H := Lib.hid h
  clear h
  cases hs : spanB off n with
  | false =>
    go_enter Tryz.func72, Tryz.ntmps72
    go_wp2_with (first | (go_at_call 129; refine span_any _ _ _ ?_) | (go_at_call 128; refine own_any hT _ _ (fun e g1 g2 => ?_) (fun x g1 g2 g3 g4 g5 => ?_); rotate_left))
    · exact H.out 1 [] none 0 w (by simp [Hid, tRead, g1.out, hs]) (Kp.refl _ _) Ow.nil (by simp [bks])
    · exact H.out e [] none 0 w (by simp [Hid, tRead, g1.out, g2]) (Kp.refl _ _) Ow.nil (by simp [bks])
  | true =>
    have ⟨s1, s2, s3⟩ : 0 ≤ off ∧ 0 ≤ n ∧ off + n ≤ 256 := by simpa [spanB] using hs
    go_enter Tryz.func72, Tryz.ntmps72
    go_wp2_with (first | (go_at_call 129; refine span_any _ _ _ ?_) | (go_at_call 128; refine own_any hT _ _ (fun e g1 g2 => ?_) (fun x g1 g2 g3 g4 g5 => ?_); rotate_left; have ⟨o', g6, g7⟩ := run_sliceAt_any (P := Tryz.prog) Tryz.underlying237 elt_u8.one bL (f.toNat * 258 + 2) .i64 .i64 off (off + n) s1 (by omega) (by omega)) | (go_at_call 60; refine clone_some (N := []) (xs := bts (cutB x.bs off n)) ?_ (bts_one _) ?_ ?_ (fun g c' w1 g11 g12 g13 => ?_)))
    · rcases Int.lt_or_le off 256 with hlt | hge
      · rw [g7.resolve_right (by omega)]; exact hT.bytes g4.out (by omega)
      · have e : cutB x.bs off n = [] := by simp only [cutB]; rw [show n.toNat = 0 by omega]; rfl
        rw [e]; exact Rd.nil
    · have hb := hT.pgAt g4.out
      simp [bts_len, cutB]; omega
    · omega
    · have hb := hT.pgAt g4.out
      have el : (cutB x.bs off n).length = (off + n - off).toNat := by simp [cutB]; omega
      have hh := H.out 0 (cutB x.bs off n) _ c' w1 (by simp [Hid, tRead, g1.out, hs, g2.out]) g13 (by rw [el]; exact g12) (by simpa [bks] using g11)
      rw [el] at hh
      exact hh
    · exact H.out e [] none 0 w (by simp [Hid, tRead, g1.out, g2]) (Kp.refl _ _) Ow.nil (by simp [bks])

set_option maxHeartbeats 400000 in
theorem fetch_any (hT : Tab w bT bL fs) (f off n : Int)
    (h : ∀ e l A c w', Hid (tFetch fs f off n = (e, l)) → Kp [] w w' → Ow w' 5 1 A l.length c (bts l) → (∀ b ∈ bks A, w.heap.size ≤ b) → R (.returned (.tuple #[.slice A l.length c, .int .i64 e])) w') :
    Calls Tryz.prog 123 #[.pointer (some ⟨bT, 0, none⟩), .int .i64 f, .int .i64 off, .int .i64 n] w R := by
  have H := Lib.hid h
  clear h
  cases hs : spanB off n with
  | false =>
    go_enter Tryz.func123, Tryz.ntmps123
    go_wp2_with (first | (go_at_call 129; refine span_any _ _ _ ?_) | (go_at_call 150; refine held_any hT _ (fun e g1 g2 => ?_) (fun x g1 g2 g3 g4 => ?_); rotate_left))
    · exact H.out 1 [] none 0 w (by simp [Hid, tFetch, g1.out, hs]) (Kp.refl _ _) Ow.nil (by simp [bks])
    · exact H.out e [] none 0 w (by simp [Hid, tFetch, g1.out, g2]) (Kp.refl _ _) Ow.nil (by simp [bks])
  | true =>
    have ⟨s1, s2, s3⟩ : 0 ≤ off ∧ 0 ≤ n ∧ off + n ≤ 256 := by simpa [spanB] using hs
    go_enter Tryz.func123, Tryz.ntmps123
    go_wp2_with (first | (go_at_call 129; refine span_any _ _ _ ?_) | (go_at_call 150; refine held_any hT _ (fun e g1 g2 => ?_) (fun x g1 g2 g3 g4 => ?_); rotate_left; have ⟨o', g6, g7⟩ := run_sliceAt_any (P := Tryz.prog) Tryz.underlying237 elt_u8.one bL (f.toNat * 258 + 2) .i64 .i64 off (off + n) s1 (by omega) (by omega)) | (go_at_call 60; refine clone_some (N := []) (xs := bts (cutB x.bs off n)) ?_ (bts_one _) ?_ ?_ (fun g c' w1 g11 g12 g13 => ?_)))
    · rcases Int.lt_or_le off 256 with hlt | hge
      · rw [g7.resolve_right (by omega)]; exact hT.bytes g4.out (by omega)
      · have e : cutB x.bs off n = [] := by simp only [cutB]; rw [show n.toNat = 0 by omega]; rfl
        rw [e]; exact Rd.nil
    · have hb := hT.pgAt g4.out
      simp [bts_len, cutB]; omega
    · omega
    · have hb := hT.pgAt g4.out
      have el : (cutB x.bs off n).length = (off + n - off).toNat := by simp [cutB]; omega
      have hh := H.out 0 (cutB x.bs off n) _ c' w1 (by simp [Hid, tFetch, g1.out, hs, g2.out]) g13 (by rw [el]; exact g12) (by simpa [bks] using g11)
      rw [el] at hh
      exact hh
    · exact H.out e [] none 0 w (by simp [Hid, tFetch, g1.out, g2]) (Kp.refl _ _) Ow.nil (by simp [bks])

set_option maxHeartbeats 400000 in
theorem write_any (hT : Tab w bT bL fs) (who f off : Int) {A : Option Addr} {n c : Nat} {l : List UInt8} (hr : Rd w [bL] A (bts l)) (hl : l.length = n) (hn : n ≤ 1000000) (hnil : A = none → n = 0 ∧ c = 0)
    (h : ∀ e fs' w', Hid (tWrite fs who f off l = (e, fs')) → Kp [bL] w w' → Tab w' bT bL fs' → R (.returned (.int .i64 e)) w') :
    Calls Tryz.prog 112 #[.pointer (some ⟨bT, 0, none⟩), .int .i64 who, .int .i64 f, .int .i64 off, .slice A n c] w R := by
  have H := Lib.hid h
  have HL := Lib.hid hl
  clear h hl
  cases hs : spanB off n with
  | false =>
    go_enter Tryz.func112, Tryz.ntmps112
    go_wp2_with (first | (go_at_call 129; refine span_any _ _ _ ?_) | (go_at_call 128; refine own_any hT _ _ (fun e g1 g2 => ?_) (fun x g1 g2 g3 g4 g5 => ?_); rotate_left))
    · exact H.out 1 fs w (by simp [Hid, tWrite, g1.out, HL.out, hs]) (Kp.refl _ _) hT
    · exact H.out e fs w (by simp [Hid, tWrite, g1.out, g2]) (Kp.refl _ _) hT
  | true =>
    have ⟨s1, s2, s3⟩ : 0 ≤ off ∧ 0 ≤ (n : Int) ∧ off + n ≤ 256 := by simpa [spanB] using hs
    obtain ⟨o', g6, g7⟩ := run_sliceAt_lo (P := Tryz.prog) Tryz.underlying237 elt_u8.one bL (f.toNat * 258 + 2) .i64 off s1 (by omega)
    have g10 : ∀ x, fs[f.toNat]? = some x → ∃ q, o' = f.toNat * 258 + q ∧ q + n ≤ 258 ∧ (Fr.mk x.ow x.ho (putB x.bs off l)).vals = x.vals.take q ++ bts l ++ x.vals.drop (q + n) := by
      intro x hx
      have hb := hT.pgAt hx
      have hl := HL.out
      rcases g7 with g7 | ⟨g7, g7'⟩
      · refine ⟨off.toNat + 2, by omega, by omega, ?_⟩
        rw [show off.toNat + 2 + n = (off.toNat + n) + 1 + 1 by omega]
        simp [Fr.vals, putB, bts_append, bts_take, bts_drop, hl]
      · have h0 : n = 0 := by omega
        subst h0
        have e : l = [] := List.eq_nil_of_length_eq_zero hl
        refine ⟨2, by omega, by omega, ?_⟩
        subst e
        simp [Fr.vals, putB, bts]
    have G10 := Lib.hid g10
    clear g10 g7
    go_enter Tryz.func112, Tryz.ntmps112
    go_wp2_with (first | (go_at_call 129; refine span_any _ _ _ ?_) | (go_at_call 128; refine own_any hT _ _ (fun e g1 g2 => ?_) (fun x g1 g2 g3 g4 g5 => ?_); rotate_left; have ⟨q, q1, q2, q3⟩ := G10.out x g4; have g6' := hT.ho g4; have q4 := Lib.hid q1; have q5 := Lib.hid q3; clear q1 q3; have g8 := fun ty => run_copy_bk (P := Tryz.prog) hT.l 37 ty 5 o' (256 - off.toNat) (256 - off.toNat) n c A (bts l) hr (by rw [bts_len]; exact HL.out) Tryz.underlying37 elt_u8.one (by omega) (by rw [q4.out]; exact hT.room g4.out q2) (bts_one _) hnil))
    · exact H.out 21 fs w (by simp [Hid, tWrite, g1.out, HL.out, hs, g2.out]; omega) (Kp.refl _ _) hT
    · have hb := hT.pgAt g4.out
      have e2 := hT.row (x' := Fr.mk x.ow x.ho (putB x.bs off l)) g4.out (o := q) (cs := bts l) (by rw [bts_len, HL.out]; exact q2) (by rw [bts_len, HL.out]; exact q5.out) (by have := HL.out; simp [putB]; omega)
      have e1 : tWrite fs who f off l = (0, fs.set f.toNat (Fr.mk x.ow x.ho (putB x.bs off l))) := by
        simp [tWrite, g1.out, HL.out, hs, g2.out]; omega
      rw [← q4.out, bts_len, HL.out, List.append_assoc] at e2
      exact H.out 0 _ _ e1 ((Kp.refl _ _).setRow (.inl (by simp)) _) e2
    · exact H.out e fs w (by simp [Hid, tWrite, g1.out, g2]) (Kp.refl _ _) hT
end
end
/-! ### The walks of package frame: Alloc, FreeCount, New. -/
section
open Go.RowKit
set_option linter.unusedVariables false
set_option linter.unusedSimpArgs false
set_option maxRecDepth 100000
section
variable {R : Ending → World → Prop} {bT bL : Nat} {fs : List Fr} {w : World}

theorem tCount_le (fs : List Fr) : tCount fs ≤ fs.length := List.length_filter_le _ _
theorem tCount_snoc {fs : List Fr} {k : Nat} (hk : k < fs.length) : tCount (fs.take (k + 1)) = tCount (fs.take k) + if tOwner fs k = 0 then 1 else 0 := by
  have hx : fat fs (k : Int) = some fs[k] := by simp [fat, List.getElem?_eq_getElem hk]
  rw [List.take_succ_eq_append_getElem hk]
  simp only [tCount, List.filter_append, List.length_append, tOwner, hx]
  by_cases h : fs[k].ow = 0 <;> simp [h]

theorem find_first {α : Type} {l : List α} {p : α → Bool} {k : Nat} {x : α} (h : (l.take k).findIdx? p = none) (hx : l[k]? = some x) (hp : p x = true) : l.findIdx? p = some k := by
  have hk : k < l.length := (List.getElem?_eq_some_iff.1 hx).1
  have e : l = l.take k ++ x :: l.drop (k + 1) := by
    have : l[k] = x := (List.getElem?_eq_some_iff.1 hx).2
    rw [← this, ← List.drop_eq_getElem_cons hk, List.take_append_drop]
  rw [e, List.findIdx?_append, h, List.findIdx?_cons, hp]
  simp; omega
theorem find_next {α : Type} {l : List α} {p : α → Bool} {k : Nat} {x : α} (h : (l.take k).findIdx? p = none) (hx : l[k]? = some x) (hp : p x = false) : (l.take (k + 1)).findIdx? p = none := by
  have hk : k < l.length := (List.getElem?_eq_some_iff.1 hx).1
  have : l[k] = x := (List.getElem?_eq_some_iff.1 hx).2
  rw [List.take_succ_eq_append_getElem hk, this, List.findIdx?_append, h, List.findIdx?_cons, hp]
  simp

set_option maxHeartbeats 400000 in
theorem count_any (hT : Tab w bT bL fs) (h : R (.returned (.int .i64 (tCount fs))) w) :
    Calls Tryz.prog 68 #[.pointer (some ⟨bT, 0, none⟩)] w R := by
  have hn := hT.n1
  go_enter Tryz.func68, Tryz.ntmps68
  go_wp2_with (go_at_call 67; refine size_any hT ?_)
  go_loop [3, 4, 7, 9] (fun c _ i _ => ∃ k : Nat, k ≤ fs.length ∧ i = .int .i64 k ∧ c = .int .i64 (tCount (fs.take k))) (fun _ _ i _ => fs.length - (intOf i).toNat)
  case atStart => exact ⟨0, Nat.zero_le _, rfl, rfl⟩
  case round =>
    obtain ⟨k, hk, rfl, rfl⟩ := hrel
    have hq : tCount (fs.take k) ≤ k := Nat.le_trans (tCount_le _) (List.length_take_le _ _)
    go_wp2_with (go_at_call 70; refine owner_any hT _ (fun n g1 => ?_))
    · have hlt : k < fs.length := by assumption
      have hs := tCount_snoc hlt
      have e : n = 0 := by simp_all
      rw [g1.out, if_pos e] at hs
      exact ⟨⟨k + 1, by omega, by go_num, icast (by omega)⟩, by simp [intOf]; omega⟩
    · have hlt : k < fs.length := by assumption
      have hs := tCount_snoc hlt
      have e : n ≠ 0 := by simp_all
      rw [g1.out, if_neg e] at hs
      exact ⟨⟨k + 1, by omega, by go_num, icast (by omega)⟩, by simp [intOf]; omega⟩
    · have e : k = fs.length := by have : ¬ k < fs.length := by assumption
                                   omega
      subst e
      exact ricast h (by rw [List.take_length])

set_option maxHeartbeats 400000 in
theorem alloc_any (hT : Tab w bT bL fs) (who : Int)
    (h : ∀ f e fs' w', Hid (tAlloc fs who = (f, e, fs')) → Kp [bL] w w' → Tab w' bT bL fs' → R (.returned (.tuple #[.int .i64 f, .int .i64 e])) w') :
    Calls Tryz.prog 109 #[.pointer (some ⟨bT, 0, none⟩), .int .i64 who] w R := by
  have H := Lib.hid h
  clear h
  have hn := hT.n1
  have hc := hT.hc
  have hfr := hT.free
  cases he : envB who with
  | false =>
    go_enter Tryz.func109, Tryz.ntmps109
    go_wp2_with (go_at_call 146; refine env_any _ _ ?_)
    exact H.out 0 1 fs w (by simp [Hid, tAlloc, he]) (Kp.refl _ _) hT
  | true =>
    go_enter Tryz.func109, Tryz.ntmps109
    go_wp2_with (go_at_call 146; refine env_any _ _ ?_)
    go_loop [6, 19] (fun _ i => ∃ k : Nat, k ≤ fs.length ∧ i = .int .i64 k ∧ Hid ((fs.take k).findIdx? (fun x => x.ow == 0) = none)) (fun _ i => fs.length - (intOf i).toNat)
    case atStart => exact ⟨0, Nat.zero_le _, rfl, rfl⟩
    case round =>
      obtain ⟨k, hk, rfl, hf⟩ := hrel
      by_cases hlt : k < fs.length
      · have hx : fs[k]? = some fs[k] := List.getElem?_eq_getElem hlt
        have hc2 := hT.ow hx
        generalize fs[k] = x at hx hc2
        have HX := Lib.hid hx
        clear hx
        go_wp2
        · have e : (x.ow == 0) = true := by assumption
          have e1 : tAlloc fs who = ((k : Int), 0, fs.set k { x with ow := who }) := by simp [tAlloc, he, find_first (p := fun x => x.ow == 0) hf.out HX.out e, HX.out]
          exact H.out _ _ _ _ e1 ((Kp.refl _ _).setCell (.inl (by simp)) _) (hT.putOw HX.out who)
        · have e : (x.ow == 0) = false := by assumption
          exact ⟨⟨k + 1, by omega, by go_num, Lib.hid (find_next (p := fun x => x.ow == 0) hf.out HX.out e)⟩, by simp [intOf]; omega⟩
      · go_wp2
        have e : fs.take k = fs := List.take_of_length_le (by omega)
        have e1 : tAlloc fs who = (0, 10, fs) := by have := hf.out; rw [e] at this; simp only [tAlloc, he, this, if_true]
        exact H.out _ _ _ _ e1 (Kp.refl _ _) hT

theorem info_one : (Tryz.prog.info? 239).map (fun i => (i.zero, i.size, i.bytes)) = some (some (.agg zz), 258, 272) := by kernel_rfl
theorem made_pieces {z : Array Value} {K : Nat} (hz : z.size = K) (h0 : 0 < K) (n : Nat) : (madeCells z (n * K)).toList = (List.replicate n z).flatMap (·.toList) := by
  apply List.ext_getElem?
  intro i
  rcases Nat.lt_or_ge i (n * K) with h | h
  · have hq : i / K < n := Nat.div_lt_of_lt_mul (by rw [Nat.mul_comm]; exact h)
    have hm : i % K < K := Nat.mod_lt _ h0
    have e : i / K * K + i % K = i := Nat.div_add_mod' i K
    have hpad : ∀ x : Array Value, (fit K x.toList).length = K := fun x => fit_len _ _
    have e1 : (List.replicate n z).flatMap (·.toList) = (List.replicate n z).flatMap (fun x => fit K x.toList) := by
      simp only [List.flatMap_replicate]
      rw [fit_eq (by simpa using hz)]
    rw [e1]
    conv => rhs; rw [← e]
    rw [flat_get (F := fun x : Array Value => fit K x.toList) hpad (i := i / K) (x := z) (by simp [hq]) hm, fit_eq (by simpa using hz)]
    have hi : i % K < z.size := by omega
    simp [madeCells, h, hz]
    rw [getElem!_pos z _ hi, Array.getElem?_eq_getElem hi]
  · rw [List.getElem?_eq_none (by simpa [madeCells] using h)]
    symm
    apply List.getElem?_eq_none
    rw [List.length_flatMap]
    simp [hz]
    exact h

set_option maxHeartbeats 400000 in
theorem new_any (n : Nat) (h1 : 1 ≤ n) (h2 : n ≤ 256) (h : ∀ bT bL w', w.heap.size ≤ bT → w.heap.size ≤ bL → Kp [] w w' → Tab w' bT bL (List.replicate n fz) → R (.returned (.tuple #[.pointer (some ⟨bT, 0, none⟩), .int .i64 0])) w') :
    Calls Tryz.prog 40 #[.int .i64 n] w R := by
  have H := Lib.hid h
  clear h
  obtain ⟨i0, hi, hz0, hz1, hz2⟩ := info_parts info_one
  have hmk := fun W => run_make (P := Tryz.prog) W 193 239 i0 _ Tryz.underlying193 hi hz0 .i64 .i64 n n (by omega) (by omega) (by rw [hz2]; omega) (by omega)
  simp only [Value.cells, hz1, Int.toNat_natCast] at hmk
  clear hi hz0 hz1 hz2
  go_enter Tryz.func40, Tryz.ntmps40
  go_wp2
  have e : (madeCells zz (n * 258)).toList = (List.replicate n fz).flatMap fcells := by
    rw [made_pieces zz_len (by omega), List.flatMap_replicate, List.flatMap_replicate, fcells_eq fz_len]
    rfl
  refine H.out (w.heap.size + 1) w.heap.size _ (by omega) (Nat.le_refl _) (((Kp.refl _ _).alloc _).alloc _) ⟨?_, ?_, ?_, by simpa using h2⟩
  · rw [List.length_replicate]
    exact Bk.newAt (by simp) _ _
  · exact ((Bk.new' w _ _).alloc _).cast e
  · intro x hx
    rw [List.eq_of_mem_replicate hx]
    exact fz_len
end
end
end Go.Proofs.YtedblbpmlbjnhaaGreat
