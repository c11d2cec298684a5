/- pantlerlaw05: alive, FrameBlank. -/
import Derived.Test.YtilhjohoahgefaaFrame4
import Derived.Lib.SliceRun
namespace Go.Proofs.Ytilhjohoahgefaa
open Go.RowKit
set_option linter.unusedVariables false
set_option linter.unusedSimpArgs false
set_option maxRecDepth 100000
section
variable {R : Ending → World → Prop} {w : World}

theorem hid_eq {α : Type} {a b : α} (h : Hid (a = b)) {c : α} (e : a = c) : b = c := h.out.symm.trans e

def fw (o : Int) : Fr := { fz with ow := o }
theorem al1 : tAlloc (List.replicate 2 fz) 1 = (0, 0, [fw 1, fz]) := by rfl
theorem al2 : tAlloc [fw 1, fz] 2 = (1, 0, [fw 1, fw 2]) := by rfl
theorem al3 : tAlloc [fw 1, fw 2] 1 = (0, 10, [fw 1, fw 2]) := by rfl
theorem al4 : tFree [fw 1, fw 2] 1 1 = (20, [fw 1, fw 2]) := by rfl

theorem fz_get {k : Nat} (hk : k < 256) : (bts fz.bs)[k]? = some (.int .u8 0) := by
  unfold fz
  rw [bts_get, List.getElem?_replicate_of_lt hk]
  rfl
theorem alloc_is {bT bL : Nat} {fs fs' : List Fr} {f e : Int} (hT : Tab w bT bL fs) (who : Int) (hq : tAlloc fs who = (f, e, fs')) (h : ∀ w', Kp [bL] w w' → Tab w' bT bL fs' → R (.returned (.tuple #[.int .i64 f, .int .i64 e])) w') :
    Calls Try.prog 17 #[.pointer (some ⟨bT, 0, none⟩), .int .i64 who] w R :=
  alloc_any hT who fun f' e' fs'' w' q k t => by
    have := q.out.symm.trans hq
    simp only [Prod.mk.injEq] at this
    obtain ⟨rfl, rfl, rfl⟩ := this
    exact h w' k t
theorem free_is {bT bL : Nat} {fs fs' : List Fr} {e : Int} (hT : Tab w bT bL fs) (who f : Int) (hq : tFree fs who f = (e, fs')) (h : ∀ w', Kp [bL] w w' → Tab w' bT bL fs' → R (.returned (.int .i64 e)) w') :
    Calls Try.prog 19 #[.pointer (some ⟨bT, 0, none⟩), .int .i64 who, .int .i64 f] w R :=
  free_any hT who f fun e' fs'' w' q k t => by
    have := q.out.symm.trans hq
    simp only [Prod.mk.injEq] at this
    obtain ⟨rfl, rfl⟩ := this
    exact h w' k t
theorem hold_is {bT bL : Nat} {fs fs' : List Fr} {e : Int} (hT : Tab w bT bL fs) (who f : Int) (hb : ∀ x, fat fs f = some x → -1000000000 ≤ x.ho ∧ x.ho ≤ 1000000000) (hq : tHold fs who f = (e, fs')) (h : ∀ w', Kp [bL] w w' → Tab w' bT bL fs' → R (.returned (.int .i64 e)) w') :
    Calls Try.prog 24 #[.pointer (some ⟨bT, 0, none⟩), .int .i64 who, .int .i64 f] w R :=
  hold_any hT who f hb fun e' fs'' w' q k t => by
    have := q.out.symm.trans hq
    simp only [Prod.mk.injEq] at this
    obtain ⟨rfl, rfl⟩ := this
    exact h w' k t
theorem write_is {bT bL : Nat} {fs fs' : List Fr} {e : Int} (hT : Tab w bT bL fs) (who f off : Int) {A : Option Addr} {n c : Nat} {l : List UInt8} (hr : Rd w [bL] A (bts l)) (hl : l.length = n) (hn : n ≤ 1000000) (hnil : A = none → n = 0 ∧ c = 0)
    (hq : tWrite fs who f off l = (e, fs')) (h : ∀ w', Kp [bL] w w' → Tab w' bT bL fs' → R (.returned (.int .i64 e)) w') :
    Calls Try.prog 18 #[.pointer (some ⟨bT, 0, none⟩), .int .i64 who, .int .i64 f, .int .i64 off, .slice A n c] w R :=
  write_any hT who f off hr hl hn hnil fun e' fs'' w' q k t => by
    have := q.out.symm.trans hq
    simp only [Prod.mk.injEq] at this
    obtain ⟨rfl, rfl⟩ := this
    exact h w' k t
theorem read_is {bT bL : Nat} {fs : List Fr} {e : Int} {l : List UInt8} (hT : Tab w bT bL fs) (who f off n : Int) (hq : tRead fs who f off n = (e, l))
    (h : ∀ A c w', Kp [] w w' → Ow w' 5 1 A l.length c (bts l) → (∀ b ∈ bks A, w.heap.size ≤ b) → R (.returned (.tuple #[.slice A l.length c, .int .i64 e])) w') :
    Calls Try.prog 20 #[.pointer (some ⟨bT, 0, none⟩), .int .i64 who, .int .i64 f, .int .i64 off, .int .i64 n] w R :=
  read_any hT who f off n fun e' l' A c w' q k o b => by
    have := q.out.symm.trans hq
    simp only [Prod.mk.injEq] at this
    obtain ⟨rfl, rfl⟩ := this
    exact h A c w' k o b

set_option maxHeartbeats 400000 in
theorem alive05 (h : ∀ w', Kp [] w w' → R (.returned (.bool true)) w') : Calls Try.prog 15 #[] w R := by
  have H := Lib.hid h
  clear h
  go_enter Try.func15, Try.ntmps15
  go_wp2_with (go_at_call 16; refine new_any 2 (by omega) (by omega) (fun bT bL w1 a1 a2 k1 t1 => ?_))
  refine alloc_is t1 _ al1 (fun w2 k2 t2 => ?_)
  go_wp2_with fail
  refine alloc_is t2 _ al2 (fun w3 k3 t3 => ?_)
  go_wp2_with fail
  refine alloc_is t3 _ al3 (fun w4 k4 t4 => ?_)
  go_wp2_with fail
  refine free_is t4 _ _ al4 (fun w5 k5 t5 => ?_)
  go_wp2_with fail
  exact H.out w5 ((((k1.thn k2 (by simp [a2])).thn k3 (by simp [a2])).thn k4 (by simp [a2])).thn k5 (by simp [a2]))

/-! ### FrameBlank -/
set_option maxHeartbeats 400000 in
theorem blank_walk (s : ByteArray) (off : Int) (h0 : 0 ≤ off) (h1 : off ≤ 255) (hs : s.size ≤ 9223372036854775807) (h : ∀ w', Kp [] w w' → R (.returned (.bool true)) w') :
    Calls Try.prog 4 #[.string s, .int .u8 off] w R := by
  have H := Lib.hid h
  clear h
  by_cases hlt : 256 - off < (s.size : Int)
  · go_enter Try.func4, Try.ntmps4
    go_wp2_with (go_at_call 15; refine alive05 (fun w1 k1 => ?_))
    exact H.out w1 k1
  · go_enter Try.func4, Try.ntmps4
    go_wp2_with (first | (go_at_call 15; refine alive05 (fun w1 k1 => ?_)) | (go_at_call 16; refine new_any 1 (by omega) (by omega) (fun bT bL w2 a1 a2 k2 t2 => ?_)))
    refine alloc_is t2 _ (f := 0) (e := 0) (fs' := [fw 1]) rfl (fun w3 k3 t3 => ?_)
    have hcv := conv_sb w3 s
    go_wp2_with fail
    have e1 : tWrite [fw 1] 1 0 off s.data.toList = (0, [Fr.mk 1 0 (putB fz.bs off s.data.toList)]) := by
      have e2 : spanB off s.size = true := by simp [spanB]; omega
      simp [tWrite, ownE, envB, fat, fw, e2, fz]
    refine write_is (t3.kp ((Kp.refl [] w3).bytesWorld _ _) (by simp) (by simp)) _ _ _ (rd_bytesWorld w3 _ s rfl (by simp; have := t3.l.lt; omega)) (by simp) (by omega) (by simp) e1 (fun w4 k4 t4 => ?_)
    clear hcv
    go_wp2_with fail
    refine free_is t4 _ _ (e := 0) (fs' := [fz]) rfl (fun w5 k5 t5 => ?_)
    go_wp2_with fail
    refine alloc_is t5 _ (f := 0) (e := 0) (fs' := [fw 2]) rfl (fun w6 k6 t6 => ?_)
    go_wp2_with fail
    refine read_is t6 _ _ _ _ (e := 0) (l := fz.bs) rfl (fun A c w7 k7 o7 b7 => ?_)
    have el := fz_len
    go_wp2_with fail
    obtain ⟨g, rfl, hg⟩ := o7.form (by omega)
    have hz : ∀ k, k < 256 → w7.cell? ⟨g, k, none⟩ = some (.int .u8 0) := by
      intro k hk
      obtain ⟨b, o, e, _, _, hc⟩ := o7.rd (N := []) (by simp) (by intro e; have := congrArg List.length e; rw [bts_len, fz_len] at this; simp at this)
      cases e
      have := hc k (.int .u8 0) (fz_get hk)
      rwa [Nat.zero_add] at this
    go_loop [13] (fun i => ∃ k : Nat, k ≤ 256 ∧ i = .int .i64 k) (fun i => 256 - (intOf i).toNat)
    case atStart => exact ⟨0, by omega, rfl⟩
    case round =>
      obtain ⟨k, hk, rfl⟩ := hrel
      by_cases hlt : k < 256
      · have hc := hz k hlt
        go_wp2
        exact ⟨⟨k + 1, by omega, by go_num⟩, by simp [intOf]; omega⟩
      · have hk : k = 256 := by omega
        subst hk
        have e3 : tCount [fw 2] = 0 := rfl
        go_wp2_with fail
        refine count_any (t6.kp k7 (by simp) (by simp)) ?_
        go_wp2_with fail
        refine size_any (t6.kp k7 (by simp) (by simp)) ?_
        go_wp2_with fail
        have hb : ∀ s ∈ [bL], s ∈ ([] : List Nat) ∨ w.heap.size ≤ s := by have := k1.size; simp; omega
        exact H.out w7 (((((((k1.trans k2).thn k3 hb).bytesWorld _ _).thn k4 hb).thn k5 hb).thn k6 hb).trans k7)
end
end Go.Proofs.Ytilhjohoahgefaa
