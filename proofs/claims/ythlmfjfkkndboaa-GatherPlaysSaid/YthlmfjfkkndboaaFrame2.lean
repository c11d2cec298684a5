/- The walks of package frame, more. -/
import Derived.Test.YthlmfjfkkndboaaFrame
import Derived.Test.YthlmfjfkkndboaaBytes
import Derived.Deep.DeepFit
namespace Go.Proofs.Ythlmfjfkkndboaa
open Go.RowKit
set_option linter.unusedVariables false
set_option maxRecDepth 100000
section
variable {R : Ending → World → Prop} {bT bL : Nat} {fs : List Fr} {w : World}

/-! ### what the calls do -/
def tFree (fs : List Fr) (who f : Int) : Int × List Fr := if quietE fs who f = 0 then (0, fs.set f.toNat fz) else (quietE fs who f, fs)
def tGive (fs : List Fr) (who f to : Int) : Int × List Fr :=
  if ownE fs who f = 0 then
    if envB to = false then (1, fs) else
    match fat fs f with
    | none => (1, fs)
    | some x => if 0 < x.ho then (21, fs) else (0, fs.set f.toNat { x with ow := to })
  else (ownE fs who f, fs)
def tHold (fs : List Fr) (who f : Int) : Int × List Fr :=
  if ownE fs who f = 0 then match fat fs f with | none => (1, fs) | some x => (0, fs.set f.toNat { x with ho := x.ho + 1 }) else (ownE fs who f, fs)
def tDrop (fs : List Fr) (f : Int) : Int × List Fr :=
  if heldE fs f = 0 then match fat fs f with | none => (1, fs) | some x => (0, fs.set f.toNat { x with ho := x.ho - 1 }) else (heldE fs f, fs)
def cutB (l : List UInt8) (off n : Int) : List UInt8 := (l.drop off.toNat).take n.toNat
def tRead (fs : List Fr) (who f off n : Int) : Int × List UInt8 :=
  if ownE fs who f = 0 then if spanB off n = false then (1, []) else match fat fs f with | none => (1, []) | some x => (0, cutB x.bs off n) else (ownE fs who f, [])
def tFetch (fs : List Fr) (f off n : Int) : Int × List UInt8 :=
  if heldE fs f = 0 then if spanB off n = false then (1, []) else match fat fs f with | none => (1, []) | some x => (0, cutB x.bs off n) else (heldE fs f, [])
def putB (l : List UInt8) (off : Int) (s : List UInt8) : List UInt8 := l.take off.toNat ++ s ++ l.drop (off.toNat + s.length)
def tWrite (fs : List Fr) (who f off : Int) (s : List UInt8) : Int × List Fr :=
  if ownE fs who f = 0 then
    if spanB off s.length = false then (1, fs) else
    match fat fs f with
    | none => (1, fs)
    | some x => if 0 < x.ho then (21, fs) else (0, fs.set f.toNat { x with bs := putB x.bs off s })
  else (ownE fs who f, fs)
def tOwner (fs : List Fr) (f : Int) : Int := match fat fs f with | none => 0 | some x => x.ow
def tHolds (fs : List Fr) (f : Int) : Int := match fat fs f with | none => 0 | some x => x.ho
def tCount (fs : List Fr) : Nat := (fs.filter fun x => x.ow == 0).length
def tAlloc (fs : List Fr) (who : Int) : Int × Int × List Fr :=
  if envB who then match fs.findIdx? (fun x => x.ow == 0) with
    | none => (0, 10, fs)
    | some i => (i, 0, match fs[i]? with | none => fs | some x => fs.set i { x with ow := who })
  else (0, 1, fs)

theorem ownE_ok {who f : Int} (h : ownE fs who f = 0) : ∃ x, fat fs f = some x ∧ x.ow = who ∧ envB who = true := by
  unfold ownE at h
  split at h
  · split at h
    · omega
    · rename_i x hx; split at h
      · exact ⟨x, hx, ‹_›, ‹_›⟩
      · omega
  · omega
theorem heldE_ok {f : Int} (h : heldE fs f = 0) : ∃ x, fat fs f = some x ∧ x.ho ≠ 0 := by
  unfold heldE at h
  split at h
  · omega
  · rename_i x hx; split at h
    · omega
    · exact ⟨x, hx, ‹_›⟩


set_option maxHeartbeats 400000 in
theorem quiet_any (hT : Tab w bT bL fs) (who f : Int)
    (h1 : ∀ e, Hid (quietE fs who f = e) → e ≠ 0 → R (.returned (.tuple #[.pointer none, .int .i64 e])) w)
    (h2 : ∀ x, Hid (quietE fs who f = 0) → Hid (fat fs f = some x) → 0 ≤ f → Hid (fs[f.toNat]? = some x) → R (.returned (.tuple #[.pointer (some ⟨bL, f.toNat * 258, none⟩), .int .i64 0])) w) :
    Calls Try.prog 89 #[.pointer (some ⟨bT, 0, none⟩), .int .i64 who, .int .i64 f] w R := by
  have H1 := Lib.hid h1
  have H2 := Lib.hid h2
  clear h1 h2
  go_enter Try.func89, Try.ntmps89
  go_wp2_with (go_at_call 74; refine own_any hT _ _ (fun e g1 g2 => ?_) (fun x g1 g2 g3 g4 g5 => ?_); rotate_left; have g6 := hT.ho g4)
  · exact H1.out 21 (by simp [Hid, quietE, g1.out, g2.out]; omega) (by omega)
  · exact H2.out x (by simp [Hid, quietE, g1.out, g2.out]; omega) g2 g3 g4
  · exact H1.out e (by simp [Hid, quietE, g1.out, g2]) g2

set_option maxHeartbeats 400000 in
theorem held_any (hT : Tab w bT bL fs) (f : Int)
    (h1 : ∀ e, Hid (heldE fs f = e) → e ≠ 0 → R (.returned (.tuple #[.pointer none, .int .i64 e])) w)
    (h2 : ∀ x, Hid (heldE fs f = 0) → Hid (fat fs f = some x) → 0 ≤ f → Hid (fs[f.toNat]? = some x) → R (.returned (.tuple #[.pointer (some ⟨bL, f.toNat * 258, none⟩), .int .i64 0])) w) :
    Calls Try.prog 90 #[.pointer (some ⟨bT, 0, none⟩), .int .i64 f] w R := by
  have H1 := Lib.hid h1
  have H2 := Lib.hid h2
  clear h1 h2
  cases hx : fat fs f with
  | none =>
    have HX := Lib.hid hx
    clear hx
    go_enter Try.func90, Try.ntmps90
    go_wp2_with (go_at_call 91; refine find_none hT _ HX.out ?_)
    exact H1.out 1 (by simp [Hid, heldE, HX.out]) (by omega)
  | some x =>
    obtain ⟨h0, hi⟩ := fat_some hx
    have hc := hT.ho hi
    have HX := Lib.hid hx
    clear hx
    go_enter Try.func90, Try.ntmps90
    go_wp2_with (go_at_call 91; refine find_some hT _ HX.out ?_)
    · exact H1.out 1 (by simp [Hid, heldE, HX.out]; simp_all) (by omega)
    · exact H2.out x (by simp [Hid, heldE, HX.out]; simp_all) HX h0 hi

set_option maxHeartbeats 400000 in
theorem give_any (hT : Tab w bT bL fs) (who f to : Int)
    (h : ∀ e fs' w', Hid (tGive fs who f to = (e, fs')) → Kp [bL] w w' → Tab w' bT bL fs' → R (.returned (.int .i64 e)) w') :
    Calls Try.prog 50 #[.pointer (some ⟨bT, 0, none⟩), .int .i64 who, .int .i64 f, .int .i64 to] w R := by
  have H := Lib.hid h
  clear h
  cases hto : envB to
  all_goals
    go_enter Try.func50, Try.ntmps50
    go_wp2_with (first | (go_at_call 88; refine env_any _ _ ?_) | (go_at_call 74; refine own_any hT _ _ (fun e g1 g2 => ?_) (fun x g1 g2 g3 g4 g5 => ?_); rotate_left; have g6 := hT.ho g4; have g7 := hT.ow g4; have g8 := hT.free))
  · exact H.out 1 fs w (by simp [Hid, tGive, g1.out, hto]) (Kp.refl _ _) hT
  · exact H.out e fs w (by simp [Hid, tGive, g1.out, g2]) (Kp.refl _ _) hT
  · exact H.out 21 fs w (by simp [Hid, tGive, g1.out, g2.out, hto]; omega) (Kp.refl _ _) hT
  · exact H.out 0 _ _ (by simp [Hid, tGive, g1.out, g2.out, hto]; omega) ((Kp.refl _ _).setCell (.inl (by simp)) _) (hT.putOw g4 to)
  · exact H.out e fs w (by simp [Hid, tGive, g1.out, g2]) (Kp.refl _ _) hT

set_option maxHeartbeats 400000 in
theorem hold_any (hT : Tab w bT bL fs) (who f : Int) (hb : ∀ x, fat fs f = some x → -1000000000 ≤ x.ho ∧ x.ho ≤ 1000000000)
    (h : ∀ e fs' w', Hid (tHold fs who f = (e, fs')) → Kp [bL] w w' → Tab w' bT bL fs' → R (.returned (.int .i64 e)) w') :
    Calls Try.prog 52 #[.pointer (some ⟨bT, 0, none⟩), .int .i64 who, .int .i64 f] w R := by
  have H := Lib.hid h
  have HB := Lib.hid hb
  clear h hb
  go_enter Try.func52, Try.ntmps52
  go_wp2_with (go_at_call 74; refine own_any hT _ _ (fun e g1 g2 => ?_) (fun x g1 g2 g3 g4 g5 => ?_); rotate_left; have g6 := hT.ho g4; have g8 := hT.free; have ⟨g9, g10⟩ := HB.out x g2)
  · exact H.out 0 _ _ (by simp [Hid, tHold, g1.out, g2.out]) ((Kp.refl _ _).setCell (.inl (by simp)) _) (hT.putHo g4 (x.ho + 1))
  · exact H.out e fs w (by simp [Hid, tHold, g1.out, g2]) (Kp.refl _ _) hT

set_option maxHeartbeats 400000 in
theorem drop_any (hT : Tab w bT bL fs) (f : Int) (hb : ∀ x, fat fs f = some x → -1000000000 ≤ x.ho ∧ x.ho ≤ 1000000000)
    (h : ∀ e fs' w', Hid (tDrop fs f = (e, fs')) → Kp [bL] w w' → Tab w' bT bL fs' → R (.returned (.int .i64 e)) w') :
    Calls Try.prog 53 #[.pointer (some ⟨bT, 0, none⟩), .int .i64 f] w R := by
  have H := Lib.hid h
  have HB := Lib.hid hb
  clear h hb
  go_enter Try.func53, Try.ntmps53
  go_wp2_with (go_at_call 90; refine held_any hT _ (fun e g1 g2 => ?_) (fun x g1 g2 g3 g4 => ?_); rotate_left; have g6 := hT.ho g4; have g8 := hT.free; have ⟨g9, g10⟩ := HB.out x g2)
  · exact H.out 0 _ _ (by simp [Hid, tDrop, g1.out, g2.out]) ((Kp.refl _ _).setCell (.inl (by simp)) _) (hT.putHo g4 (x.ho - 1))
  · exact H.out e fs w (by simp [Hid, tDrop, g1.out, g2]) (Kp.refl _ _) hT

set_option maxHeartbeats 400000 in
theorem owner_any (hT : Tab w bT bL fs) (f : Int) (h : ∀ n, Hid (tOwner fs f = n) → R (.returned (.int .i64 n)) w) :
    Calls Try.prog 58 #[.pointer (some ⟨bT, 0, none⟩), .int .i64 f] w R := by
  have H := Lib.hid h
  clear h
  cases hx : fat fs f with
  | none =>
    have HX := Lib.hid hx
    clear hx
    go_enter Try.func58, Try.ntmps58
    go_wp2_with (go_at_call 91; refine find_none hT _ HX.out ?_)
    exact H.out 0 (by simp [Hid, tOwner, HX.out])
  | some x =>
    obtain ⟨h0, hi⟩ := fat_some hx
    have hc := hT.ow hi
    have HX := Lib.hid hx
    clear hx
    go_enter Try.func58, Try.ntmps58
    go_wp2_with (go_at_call 91; refine find_some hT _ HX.out ?_)
    exact H.out _ (by simp [Hid, tOwner, HX.out])

set_option maxHeartbeats 400000 in
theorem holds_any (hT : Tab w bT bL fs) (f : Int) (h : ∀ n, Hid (tHolds fs f = n) → R (.returned (.int .i64 n)) w) :
    Calls Try.prog 62 #[.pointer (some ⟨bT, 0, none⟩), .int .i64 f] w R := by
  have H := Lib.hid h
  clear h
  cases hx : fat fs f with
  | none =>
    have HX := Lib.hid hx
    clear hx
    go_enter Try.func62, Try.ntmps62
    go_wp2_with (go_at_call 91; refine find_none hT _ HX.out ?_)
    exact H.out 0 (by simp [Hid, tHolds, HX.out])
  | some x =>
    obtain ⟨h0, hi⟩ := fat_some hx
    have hc := hT.ho hi
    have HX := Lib.hid hx
    clear hx
    go_enter Try.func62, Try.ntmps62
    go_wp2_with (go_at_call 91; refine find_some hT _ HX.out ?_)
    exact H.out _ (by simp [Hid, tHolds, HX.out])

set_option maxHeartbeats 400000 in
theorem size_any (hT : Tab w bT bL fs) (h : R (.returned (.int .i64 fs.length)) w) :
    Calls Try.prog 57 #[.pointer (some ⟨bT, 0, none⟩)] w R := by
  have hc := hT.hc
  go_enter Try.func57, Try.ntmps57
  go_wp2
  exact h
end
end Go.Proofs.Ythlmfjfkkndboaa
