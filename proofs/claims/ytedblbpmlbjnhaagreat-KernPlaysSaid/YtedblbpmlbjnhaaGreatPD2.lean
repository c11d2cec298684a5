/- bytes.Clone, over slices of bytes. The walks of package frame, more. -/
import Derived.Test.YtedblbpmlbjnhaaGreatPD1
import Derived.Test.YtedblbpmlbjnhaaGreatRows
import Derived.Lib.SliceRun
import Derived.Lib.ConvBytes
import Derived.Lib.BufferRead
import Derived.Deep.DeepFit
namespace Go.Proofs.YtedblbpmlbjnhaaGreat
/-! ### bytes.Clone, over slices of bytes. -/
section
open Go.RowKit
set_option linter.unusedVariables false
set_option maxRecDepth 100000

theorem elt_u8 : Elt Tryz.prog 37 5 (.int .u8 0) 1 1 := ⟨Tryz.underlying37, by kernel_rfl, rfl, by decide, by decide⟩

theorem Elt.one {P : Program} {t e : Nat} {z : Value} {sz by_ : Nat} (h : Elt P t e z sz by_) : (P.info? e).map (·.size) = some sz := by
  obtain ⟨_, hi, _⟩ := h
  obtain ⟨i, hi, _, hs, _⟩ := info_parts hi
  simp [hi, hs]

set_option maxHeartbeats 400000 in
theorem clone_some {R : Ending → World → Prop} {w : World} {N : List Nat} {ad : Addr} {n c : Nat} {xs : List Value} (hr : Rd w N (some ad) xs) (h1 : ∀ u ∈ xs, u.oneCell' = true) (hl : xs.length = n) (hn : n ≤ 2000000)
    (h : ∀ g c' w', w.heap.size ≤ g → Ow w' 5 1 (some ⟨g, 0, none⟩) n c' xs → Kp [] w w' → R (.returned (.slice (some ⟨g, 0, none⟩) n c')) w') :
    Calls Tryz.prog 60 #[.slice (some ad) n c] w R := by
  have hq := fun W => Lib.run_eql_slice_nil (P := Tryz.prog) W 37 5 (some ad) n c 0 0 Tryz.underlying37
  have H := Lib.hid h
  have HL := Lib.hid hl
  clear h hl
  go_enter Tryz.func60, Tryz.ntmps60
  go_wp2_with (at_builtin; refine wpList_app _ rfl (.tmp 5) (.tmp 6) _ rfl elt_u8 _ 0 0 [] rfl (Ow.lit w _ 1 #[] 0 (by decide) rfl) N (some ad) n c xs rfl (hr.below (Kp.below_nil ((Kp.refl _ _).alloc _))) (by rw [HL.out, Nat.mul_one]) h1 (by omega) ?_; intro A' c' w' ho hk hA)
  rcases hA with rfl | rfl
  · exact H.out _ _ _ (Nat.le_refl _) (ho.cast (Nat.zero_add n) (List.nil_append xs)) (((Kp.refl [] w).alloc _).thn hk (by simp [bks]))
  · exact H.out _ _ _ (by simp) (ho.cast (Nat.zero_add n) (List.nil_append xs)) (((Kp.refl [] w).alloc _).thn hk (by simp [bks]))

/-! ### strings and bytes -/
section
variable {w w' a : World} {S N : List Nat}
theorem conv_sb (W : World) (s : ByteArray) : (convert 9 37 (.string s)).run Tryz.prog W = .ok (.slice (some ⟨W.heap.size, 0, none⟩) s.size (grownCap W s.size 0 5)) (Lib.bytesWorld W 5 s) :=
  Lib.run_convert_string_bytes W _ _ _ s Tryz.underlying9 Tryz.underlying37 Tryz.underlying5
theorem Kp.bytesWorld (h : Kp S a w) (e : Nat) (s : ByteArray) : Kp S a (Lib.bytesWorld w e s) :=
  ⟨h.os, h.tape, h.output, by rw [Lib.bytesWorld_size]; have := h.size; omega, fun k hk hn => (Lib.bytesWorld_at_old w e s k (Nat.lt_of_lt_of_le hk h.size)).trans (h.block k hk hn)⟩
theorem rd_bytesWorld (w : World) (e : Nat) (s : ByteArray) {g : Nat} (hg : g = w.heap.size) (hN : g ∉ N) : Rd (Lib.bytesWorld w e s) N (some ⟨g, 0, none⟩) (bts s.data.toList) := fun _ =>
  ⟨g, 0, rfl, hN, by rw [Lib.bytesWorld_size]; omega, fun j u hu => by
    subst hg
    rw [bts_get] at hu
    have hj : j < s.size := by
      rcases Nat.lt_or_ge j s.size with h | h
      · exact h
      · rw [List.getElem?_eq_none (by simpa using h)] at hu; cases hu
    rw [Nat.zero_add, Lib.bytesWorld_cell w e s j hj]
    have hj' : j < s.data.toList.length := by simpa using hj
    rw [List.getElem?_eq_getElem hj'] at hu
    rw [← hu]
    have e2 : s.data[j]? = some s.data[j] := Array.getElem?_eq_getElem hj
    simp [List.getD, e2]⟩
theorem conv_bs {A : Option Addr} {n c : Nat} {l : List UInt8} (hr : Rd w N A (bts l)) (hl : l.length = n) : (convert 37 9 (.slice A n c)).run Tryz.prog w = .ok (.string ⟨l.toArray⟩) w := by
  subst hl
  rcases A with _ | ad
  · have e : l = [] := by
      cases l with
      | nil => rfl
      | cons x l => obtain ⟨_, _, h, _⟩ := hr (by simp [bts]); cases h
    subst e
    exact Lib.run_convert_nil_bytes w _ _ _ c Tryz.underlying37 Tryz.underlying5 Tryz.underlying9
  · refine run_convert_bytes_back w _ _ _ ad c l Tryz.underlying37 Tryz.underlying5 Tryz.underlying9 fun j hj => ?_
    obtain ⟨ad', h, hc⟩ := hr.src (by intro e; simp [bts] at e; subst e; simp at hj)
    cases h
    exact hc j _ (by rw [bts_get, List.getElem?_eq_getElem hj]; rfl)
end
end
/-! ### The walks of package frame, more. -/
section
open Go.RowKit
set_option linter.unusedVariables false
set_option maxRecDepth 100000
section
variable {R : Ending → World → Prop} {bT bL : Nat} {fs : List Fr} {w : World}

/-! ### what the calls do -/
def tFree (fs : List Fr) (who f : Int) : Int × List Fr := if quietE fs who f = 0 then (0, fs.set f.toNat fz) else (quietE fs who f, fs)
def tGive (fs : List Fr) (who f to : Int) : Int × List Fr :=
  if ownE fs who f = 0 then
    if envB to = false then (1, fs) else
    match fat fs f with
    | none => (1, fs)
    | some x => if 0 < x.ho then (21, fs) else (0, fs.set f.toNat { x with ow := to })
  else (ownE fs who f, fs)
def tHold (fs : List Fr) (who f : Int) : Int × List Fr :=
  if ownE fs who f = 0 then match fat fs f with | none => (1, fs) | some x => (0, fs.set f.toNat { x with ho := x.ho + 1 }) else (ownE fs who f, fs)
def tDrop (fs : List Fr) (f : Int) : Int × List Fr :=
  if heldE fs f = 0 then match fat fs f with | none => (1, fs) | some x => (0, fs.set f.toNat { x with ho := x.ho - 1 }) else (heldE fs f, fs)
def cutB (l : List UInt8) (off n : Int) : List UInt8 := (l.drop off.toNat).take n.toNat
def tRead (fs : List Fr) (who f off n : Int) : Int × List UInt8 :=
  if ownE fs who f = 0 then if spanB off n = false then (1, []) else match fat fs f with | none => (1, []) | some x => (0, cutB x.bs off n) else (ownE fs who f, [])
def tFetch (fs : List Fr) (f off n : Int) : Int × List UInt8 :=
  if heldE fs f = 0 then if spanB off n = false then (1, []) else match fat fs f with | none => (1, []) | some x => (0, cutB x.bs off n) else (heldE fs f, [])
def putB (l : List UInt8) (off : Int) (s : List UInt8) : List UInt8 := l.take off.toNat ++ s ++ l.drop (off.toNat + s.length)
def tWrite (fs : List Fr) (who f off : Int) (s : List UInt8) : Int × List Fr :=
  if ownE fs who f = 0 then
    if spanB off s.length = false then (1, fs) else
    match fat fs f with
    | none => (1, fs)
    | some x => if 0 < x.ho then (21, fs) else (0, fs.set f.toNat { x with bs := putB x.bs off s })
  else (ownE fs who f, fs)
def tOwner (fs : List Fr) (f : Int) : Int := match fat fs f with | none => 0 | some x => x.ow
def tHolds (fs : List Fr) (f : Int) : Int := match fat fs f with | none => 0 | some x => x.ho
def tCount (fs : List Fr) : Nat := (fs.filter fun x => x.ow == 0).length
def tAlloc (fs : List Fr) (who : Int) : Int × Int × List Fr :=
  if envB who then match fs.findIdx? (fun x => x.ow == 0) with
    | none => (0, 10, fs)
    | some i => (i, 0, match fs[i]? with | none => fs | some x => fs.set i { x with ow := who })
  else (0, 1, fs)

theorem ownE_ok {who f : Int} (h : ownE fs who f = 0) : ∃ x, fat fs f = some x ∧ x.ow = who ∧ envB who = true := by
  unfold ownE at h
  split at h
  · split at h
    · omega
    · rename_i x hx; split at h
      · exact ⟨x, hx, ‹_›, ‹_›⟩
      · omega
  · omega
theorem heldE_ok {f : Int} (h : heldE fs f = 0) : ∃ x, fat fs f = some x ∧ x.ho ≠ 0 := by
  unfold heldE at h
  split at h
  · omega
  · rename_i x hx; split at h
    · omega
    · exact ⟨x, hx, ‹_›⟩


set_option maxHeartbeats 400000 in
theorem quiet_any (hT : Tab w bT bL fs) (who f : Int)
    (h1 : ∀ e, Hid (quietE fs who f = e) → e ≠ 0 → R (.returned (.tuple #[.pointer none, .int .i64 e])) w)
    (h2 : ∀ x, Hid (quietE fs who f = 0) → Hid (fat fs f = some x) → 0 ≤ f → Hid (fs[f.toNat]? = some x) → R (.returned (.tuple #[.pointer (some ⟨bL, f.toNat * 258, none⟩), .int .i64 0])) w) :
    Calls Tryz.prog 147 #[.pointer (some ⟨bT, 0, none⟩), .int .i64 who, .int .i64 f] w R := by
  have H1 := Lib.hid h1
  have H2 := Lib.hid h2
  clear h1 h2
  go_enter Tryz.func147, Tryz.ntmps147
  go_wp2_with (go_at_call 128; refine own_any hT _ _ (fun e g1 g2 => ?_) (fun x g1 g2 g3 g4 g5 => ?_); rotate_left; have g6 := hT.ho g4)
  · exact H1.out 21 (by simp [Hid, quietE, g1.out, g2.out]; omega) (by omega)
  · exact H2.out x (by simp [Hid, quietE, g1.out, g2.out]; omega) g2 g3 g4
  · exact H1.out e (by simp [Hid, quietE, g1.out, g2]) g2

set_option maxHeartbeats 400000 in
theorem held_any (hT : Tab w bT bL fs) (f : Int)
    (h1 : ∀ e, Hid (heldE fs f = e) → e ≠ 0 → R (.returned (.tuple #[.pointer none, .int .i64 e])) w)
    (h2 : ∀ x, Hid (heldE fs f = 0) → Hid (fat fs f = some x) → 0 ≤ f → Hid (fs[f.toNat]? = some x) → R (.returned (.tuple #[.pointer (some ⟨bL, f.toNat * 258, none⟩), .int .i64 0])) w) :
    Calls Tryz.prog 150 #[.pointer (some ⟨bT, 0, none⟩), .int .i64 f] w R := by
  have H1 := Lib.hid h1
  have H2 := Lib.hid h2
  clear h1 h2
  cases hx : fat fs f with
  | none =>
    have HX := Lib.hid hx
    clear hx
    go_enter Tryz.func150, Tryz.ntmps150
    go_wp2_with (go_at_call 127; refine find_none hT _ HX.out ?_)
    exact H1.out 1 (by simp [Hid, heldE, HX.out]) (by omega)
  | some x =>
    obtain ⟨h0, hi⟩ := fat_some hx
    have hc := hT.ho hi
    have HX := Lib.hid hx
    clear hx
    go_enter Tryz.func150, Tryz.ntmps150
    go_wp2_with (go_at_call 127; refine find_some hT _ HX.out ?_)
    · exact H1.out 1 (by simp [Hid, heldE, HX.out]; simp_all) (by omega)
    · exact H2.out x (by simp [Hid, heldE, HX.out]; simp_all) HX h0 hi

set_option maxHeartbeats 400000 in
theorem give_any (hT : Tab w bT bL fs) (who f to : Int)
    (h : ∀ e fs' w', Hid (tGive fs who f to = (e, fs')) → Kp [bL] w w' → Tab w' bT bL fs' → R (.returned (.int .i64 e)) w') :
    Calls Tryz.prog 111 #[.pointer (some ⟨bT, 0, none⟩), .int .i64 who, .int .i64 f, .int .i64 to] w R := by
  have H := Lib.hid h
  clear h
  cases hto : envB to
  all_goals
    go_enter Tryz.func111, Tryz.ntmps111
    go_wp2_with (first | (go_at_call 146; refine env_any _ _ ?_) | (go_at_call 128; refine own_any hT _ _ (fun e g1 g2 => ?_) (fun x g1 g2 g3 g4 g5 => ?_); rotate_left; have g6 := hT.ho g4; have g7 := hT.ow g4; have g8 := hT.free))
  · exact H.out 1 fs w (by simp [Hid, tGive, g1.out, hto]) (Kp.refl _ _) hT
  · exact H.out e fs w (by simp [Hid, tGive, g1.out, g2]) (Kp.refl _ _) hT
  · exact H.out 21 fs w (by simp [Hid, tGive, g1.out, g2.out, hto]; omega) (Kp.refl _ _) hT
  · exact H.out 0 _ _ (by simp [Hid, tGive, g1.out, g2.out, hto]; omega) ((Kp.refl _ _).setCell (.inl (by simp)) _) (hT.putOw g4 to)
  · exact H.out e fs w (by simp [Hid, tGive, g1.out, g2]) (Kp.refl _ _) hT

set_option maxHeartbeats 400000 in
theorem hold_any (hT : Tab w bT bL fs) (who f : Int) (hb : ∀ x, fat fs f = some x → -1000000000 ≤ x.ho ∧ x.ho ≤ 1000000000)
    (h : ∀ e fs' w', Hid (tHold fs who f = (e, fs')) → Kp [bL] w w' → Tab w' bT bL fs' → R (.returned (.int .i64 e)) w') :
    Calls Tryz.prog 125 #[.pointer (some ⟨bT, 0, none⟩), .int .i64 who, .int .i64 f] w R := by
  have H := Lib.hid h
  have HB := Lib.hid hb
  clear h hb
  go_enter Tryz.func125, Tryz.ntmps125
  go_wp2_with (go_at_call 128; refine own_any hT _ _ (fun e g1 g2 => ?_) (fun x g1 g2 g3 g4 g5 => ?_); rotate_left; have g6 := hT.ho g4; have g8 := hT.free; have ⟨g9, g10⟩ := HB.out x g2)
  · exact H.out 0 _ _ (by simp [Hid, tHold, g1.out, g2.out]) ((Kp.refl _ _).setCell (.inl (by simp)) _) (hT.putHo g4 (x.ho + 1))
  · exact H.out e fs w (by simp [Hid, tHold, g1.out, g2]) (Kp.refl _ _) hT

set_option maxHeartbeats 400000 in
theorem drop_any (hT : Tab w bT bL fs) (f : Int) (hb : ∀ x, fat fs f = some x → -1000000000 ≤ x.ho ∧ x.ho ≤ 1000000000)
    (h : ∀ e fs' w', Hid (tDrop fs f = (e, fs')) → Kp [bL] w w' → Tab w' bT bL fs' → R (.returned (.int .i64 e)) w') :
    Calls Tryz.prog 126 #[.pointer (some ⟨bT, 0, none⟩), .int .i64 f] w R := by
  have H := Lib.hid h
  have HB := Lib.hid hb
  clear h hb
  go_enter Tryz.func126, Tryz.ntmps126
  go_wp2_with (go_at_call 150; refine held_any hT _ (fun e g1 g2 => ?_) (fun x g1 g2 g3 g4 => ?_); rotate_left; have g6 := hT.ho g4; have g8 := hT.free; have ⟨g9, g10⟩ := HB.out x g2)
  · exact H.out 0 _ _ (by simp [Hid, tDrop, g1.out, g2.out]) ((Kp.refl _ _).setCell (.inl (by simp)) _) (hT.putHo g4 (x.ho - 1))
  · exact H.out e fs w (by simp [Hid, tDrop, g1.out, g2]) (Kp.refl _ _) hT

set_option maxHeartbeats 400000 in
theorem owner_any (hT : Tab w bT bL fs) (f : Int) (h : ∀ n, Hid (tOwner fs f = n) → R (.returned (.int .i64 n)) w) :
    Calls Tryz.prog 70 #[.pointer (some ⟨bT, 0, none⟩), .int .i64 f] w R := by
  have H := Lib.hid h
  clear h
  cases hx : fat fs f with
  | none =>
    have HX := Lib.hid hx
    clear hx
    go_enter Tryz.func70, Tryz.ntmps70
    go_wp2_with (go_at_call 127; refine find_none hT _ HX.out ?_)
    exact H.out 0 (by simp [Hid, tOwner, HX.out])
  | some x =>
    obtain ⟨h0, hi⟩ := fat_some hx
    have hc := hT.ow hi
    have HX := Lib.hid hx
    clear hx
    go_enter Tryz.func70, Tryz.ntmps70
    go_wp2_with (go_at_call 127; refine find_some hT _ HX.out ?_)
    exact H.out _ (by simp [Hid, tOwner, HX.out])

set_option maxHeartbeats 400000 in
theorem holds_any (hT : Tab w bT bL fs) (f : Int) (h : ∀ n, Hid (tHolds fs f = n) → R (.returned (.int .i64 n)) w) :
    Calls Tryz.prog 71 #[.pointer (some ⟨bT, 0, none⟩), .int .i64 f] w R := by
  have H := Lib.hid h
  clear h
  cases hx : fat fs f with
  | none =>
    have HX := Lib.hid hx
    clear hx
    go_enter Tryz.func71, Tryz.ntmps71
    go_wp2_with (go_at_call 127; refine find_none hT _ HX.out ?_)
    exact H.out 0 (by simp [Hid, tHolds, HX.out])
  | some x =>
    obtain ⟨h0, hi⟩ := fat_some hx
    have hc := hT.ho hi
    have HX := Lib.hid hx
    clear hx
    go_enter Tryz.func71, Tryz.ntmps71
    go_wp2_with (go_at_call 127; refine find_some hT _ HX.out ?_)
    exact H.out _ (by simp [Hid, tHolds, HX.out])

set_option maxHeartbeats 400000 in
theorem size_any (hT : Tab w bT bL fs) (h : R (.returned (.int .i64 fs.length)) w) :
    Calls Tryz.prog 67 #[.pointer (some ⟨bT, 0, none⟩)] w R := by
  have hc := hT.hc
  go_enter Tryz.func67, Tryz.ntmps67
  go_wp2
  exact h
end
end
end Go.Proofs.YtedblbpmlbjnhaaGreat
