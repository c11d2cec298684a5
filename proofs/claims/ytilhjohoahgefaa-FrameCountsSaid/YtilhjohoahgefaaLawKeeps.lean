/- pantlerlaw05.FrameKeeps: the law's walk. -/
import Derived.Test.YtilhjohoahgefaaKeeps
namespace Go.Proofs.Ytilhjohoahgefaa
open Go.RowKit
set_option linter.unusedVariables false
set_option linter.unusedSimpArgs false
set_option maxRecDepth 100000
section
variable {R : Ending → World → Prop} {w : World}
theorem cut_put {l s : List UInt8} {off : Int} (hl : l.length = 256) (hs : spanB off s.length = true) : cutB (putB l off s) off s.length = s := by
  have ⟨s1, s2, s3⟩ : 0 ≤ off ∧ 0 ≤ (s.length : Int) ∧ off + s.length ≤ 256 := by simpa [spanB] using hs
  have h : (l.take off.toNat).length = off.toNat := by simp [hl]; omega
  unfold cutB putB
  rw [List.append_assoc, List.drop_append_of_le_length (by omega), List.drop_of_length_le (by omega), List.nil_append, Int.toNat_natCast, List.take_left]

theorem str_eq (s : ByteArray) : (⟨s.data.toList.toArray⟩ : ByteArray) = s := by cases s; simp
theorem fetch_is {bT bL : Nat} {fs : List Fr} {e : Int} {l : List UInt8} (hT : Tab w bT bL fs) (f off n : Int) (hq : tFetch fs f off n = (e, l))
    (h : ∀ A c w', Kp [] w w' → Ow w' 5 1 A l.length c (bts l) → (∀ b ∈ bks A, w.heap.size ≤ b) → R (.returned (.tuple #[.slice A l.length c, .int .i64 e])) w') :
    Calls Try.prog 26 #[.pointer (some ⟨bT, 0, none⟩), .int .i64 f, .int .i64 off, .int .i64 n] w R :=
  fetch_any hT f off n fun e' l' A c w' q k o b => by
    have := q.out.symm.trans hq
    simp only [Prod.mk.injEq] at this
    obtain ⟨rfl, rfl⟩ := this
    exact h A c w' k o b
theorem owner_is {bT bL : Nat} {fs : List Fr} {n : Int} (hT : Tab w bT bL fs) (f : Int) (hq : tOwner fs f = n) (h : R (.returned (.int .i64 n)) w) :
    Calls Try.prog 27 #[.pointer (some ⟨bT, 0, none⟩), .int .i64 f] w R := owner_any hT f fun n' q => by rw [← q.out, hq]; exact h
theorem kept_reads {B s : List UInt8} {fs : List Fr} {off : Int} (h : Kept B fs) {n : Nat} (hs : spanB off n = true) (hc : cutB B off s.length = s) (hn : s.length = n) :
    tFetch fs 0 off n = (0, s) ∧ tRead fs 2 0 0 1 = (20, []) ∧ tOwner fs 0 = 1 := by
  subst hn
  obtain ⟨x, hx, h1, h2, h3⟩ := h
  have hf : fat fs 0 = some x := by simp [fat, hx]
  have hh : ¬ x.ho = 0 := by omega
  refine ⟨?_, ?_, ?_⟩
  · simp [tFetch, heldE, hf, hh, hs, h3, hc]
  · simp [tRead, ownE, envB, hf, h1]
  · simp [tOwner, hf, h1]

set_option maxHeartbeats 1000000 in
theorem keeps_walk (a : Sin Ac) (s : ByteArray) (off : Int) (ha : a.ok w Ac.vals (fun x => x.s.size ≤ 9223372036854775807)) (h0 : 0 ≤ off) (h1 : off ≤ 255) (hs : s.size ≤ 9223372036854775807) (h : ∀ w', Kp [] w w' → R (.returned (.bool true)) w') :
    Calls Try.prog 5 #[.slice a.A a.n a.c, .string s, .int .u8 off] w R := by
  have H := Lib.hid h
  obtain ⟨A, n, c, l⟩ := a
  obtain ⟨hl, hcap, hmax, hall, hrd, _⟩ := ha
  simp only at hl hcap hmax hall hrd
  unfold maxLen at hmax
  have HL := Lib.hid hl
  clear h hl
  cases hf : farB l with
  | true =>
    go_enter Try.func5, Try.ntmps5
    go_wp2_with (first | (go_at_call 15; refine alive05 (fun w1 k1 => ?_)) | (go_at_call 23; refine far_any (hrd.to k1 (by simp) (N' := []) (by simp)) HL.out (by omega) hall ?_; rw [hf]))
    exact H.out _ k1
  | false =>
    by_cases hlt : 256 - off < (s.size : Int)
    · go_enter Try.func5, Try.ntmps5
      go_wp2_with (first | (go_at_call 15; refine alive05 (fun w1 k1 => ?_)) | (go_at_call 23; refine far_any (hrd.to k1 (by simp) (N' := []) (by simp)) HL.out (by omega) hall ?_; rw [hf]))
      exact H.out _ k1
    · have hf2 := hf
      simp only [farB, Bool.or_eq_false_iff, decide_eq_false_iff_not] at hf2
      rw [HL.out] at hf2
      have hn150 : n ≤ 150 := by omega
      have hsz : ∀ x ∈ l, x.s.size ≤ 1000 := by
        intro x hx
        have := List.any_eq_false.1 hf2.2 x hx
        simpa using this
      clear hf2
      go_enter Try.func5, Try.ntmps5
      go_wp2_with (first | (go_at_call 15; refine alive05 (fun w1 k1 => ?_)) | (go_at_call 23; refine far_any (hrd.to k1 (by simp) (N' := []) (by simp)) HL.out (by omega) hall ?_; rw [hf]) | (go_at_call 16; refine new_any 4 (by omega) (by omega) (fun bT bL w2 a1 a2 k2 t2 => ?_)))
      refine alloc_is t2 _ (f := 0) (e := 0) (fs' := [fw 1, fz, fz, fz]) rfl (fun w3 k3 t3 => ?_)
      have hcv := conv_sb w3 s
      go_wp2_with fail
      have e0 : spanB off s.size = true := by simp [spanB]; omega
      have e1 : tWrite [fw 1, fz, fz, fz] 1 0 off s.data.toList = (0, [Fr.mk 1 0 (putB fz.bs off s.data.toList), fz, fz, fz]) := by
        simp [tWrite, ownE, envB, fat, fw, e0, fz]
      refine write_is (t3.kp ((Kp.refl [] w3).bytesWorld _ _) (by simp) (by simp)) _ _ _ (rd_bytesWorld w3 _ s rfl (by simp; have := t3.l.lt; omega)) (by simp) (by omega) (by simp) e1 (fun w4 k4 t4 => ?_)
      clear hcv
      go_wp2_with fail
      have e2 : tHold [Fr.mk 1 0 (putB fz.bs off s.data.toList), fz, fz, fz] 1 0 = (0, [Fr.mk 1 1 (putB fz.bs off s.data.toList), fz, fz, fz]) := by
        simp [tHold, ownE, envB, fat]
      refine hold_is t4 _ _ (by intro x hx; simp [fat] at hx; subst hx; simp) e2 (fun w5 k5 t5 => ?_)
      have hb : ∀ s ∈ [bL], s ∈ ([] : List Nat) ∨ w.heap.size ≤ s := by have := k1.size; simp; omega
      have hb0 := hb
      have kk : Kp [] w w5 := ((((k1.trans k2).thn k3 hb).bytesWorld _ _).thn k4 hb).thn k5 hb
      clear k1 k2 k3 k4 k5 t2 t3 t4 e1 e2
      generalize hB : putB fz.bs off s.data.toList = B at t5
      have hcut : cutB B off s.data.toList.length = s.data.toList := by rw [← hB]; exact cut_put fz_len (by simpa using e0)
      have HC := Lib.hid hcut
      have E0 := Lib.hid e0
      have kp5 : Kept B [Fr.mk 1 1 B, fz, fz, fz] := ⟨_, rfl, rfl, by simp, rfl⟩
      have hb5 : Hb 1 [Fr.mk 1 1 B, fz, fz, fz] := by intro x hx; simp at hx; rcases hx with rfl | rfl <;> simp [fz]
      generalize ([Fr.mk 1 1 B, fz, fz, fz] : List Fr) = fs5 at t5 kp5 hb5
      clear hB hcut e0 a1 a2
      go_wp2_with fail
      go_loopw [11] (fun i wr => ∃ (k : Nat) (fs : List Fr), k ≤ n ∧ i = .int .i64 k ∧ Kp [] w wr ∧ Tab wr bT bL fs ∧ Kept B fs ∧ Hb (k + 1) fs) (fun i _ => n - (intOf i).toNat)
      case atStart => exact ⟨0, fs5, Nat.zero_le _, rfl, kk, t5, kp5, hb5⟩
      case round =>
        obtain ⟨k, fs, hk, rfl, kr, tr, kp, hb⟩ := hrel
        by_cases hlt2 : k < n
        · have hx : l[k]? = some (l[k]'(by have := HL.out; omega)) := List.getElem?_eq_getElem _
          generalize (l[k]'(by have := HL.out; omega)) = x at hx
          have hsx := hsz x (List.mem_of_getElem? hx)
          have hrr := hrd.to kr (by simp) (N' := []) (by simp)
          obtain ⟨b, o, rfl, _, _, hc⟩ := rd_at hrr avals_len (by omega) hx
          have c0 := hc 0 _ rfl
          have c1 := hc 1 _ rfl
          have c2 := hc 2 _ rfl
          have c3 := hc 3 _ rfl
          have c4 := hc 4 _ rfl
          have c5 := hc 5 _ rfl
          clear hc hx hrr
          rw [Nat.add_zero] at c0
          by_cases hsk : x.k = 6 ∧ x.f = 0
          · obtain ⟨hs1, hs2⟩ := hsk
            rw [hs1] at c0
            rw [hs2] at c2
            clear hs1 hs2
            go_wp2
            exact ⟨⟨k + 1, fs, by omega, by go_num, kr, tr, kp, hb.up⟩, by simp [intOf]; omega⟩
          · have hd : (x.k == 6) = false ∨ ((x.k == 6) = true ∧ (x.f == 0) = false) := by
              by_cases hk6 : x.k = 6
              · right; exact ⟨by simp [hk6], by simp; intro hf0; exact hsk ⟨hk6, hf0⟩⟩
              · left; simp [hk6]
            have HS := Lib.hid hsk
            clear hsk
            rcases hd with hd | ⟨hd, hd2⟩
            all_goals
              go_wp2_with fail
              refine do_any tr x hsx (hb.at_ (by omega)) (fun n' s' e' fs' w6 q6 k6 t6 => ?_)
              have ht6 : Turn fs x fs' := by have := dDo_turn tr.pg x; rw [q6.out] at this; exact this
              have kp6 := kp.turn (fun y hy => by have := hb y hy; omega) HS.out ht6
              have hb6 := hb.turn (by omega) ht6
              obtain ⟨f1, f2, f3⟩ := kept_reads kp6 E0.out HC.out (by simp)
              go_wp2_with fail
              refine fetch_is t6 _ _ _ f1 (fun A7 c7 w7 k7 o7 b7 => ?_)
              have hcv := conv_bs (c := c7) (o7.rd (N := []) (by simp)) rfl
              rw [str_eq] at hcv
              have hlen : s.data.toList.length = s.size := by simp
              rw [hlen] at hcv ⊢
              go_wp2_with fail
              refine read_is (t6.kp k7 (by simp) (by simp)) _ _ _ _ f2 (fun A8 c8 w8 k8 o8 b8 => ?_)
              have hcv8 := conv_bs (c := c7) ((o7.kp k8 (by simp)).rd (N := []) (by simp)) rfl
              rw [str_eq, hlen] at hcv8
              clear hcv hlen
              go_wp2_with fail
              refine owner_is ((t6.kp k7 (by simp) (by simp)).kp k8 (by simp) (by simp)) _ f3 ?_
              go_wp2_with fail
              exact ⟨⟨k + 1, fs', by omega, by go_num, ((kr.thn k6 hb0).trans k7).trans k8, (t6.kp k7 (by simp) (by simp)).kp k8 (by simp) (by simp), kp6, hb6⟩, by simp [intOf]; omega⟩
        · go_wp2
          exact H.out _ kr
end
end Go.Proofs.Ytilhjohoahgefaa
