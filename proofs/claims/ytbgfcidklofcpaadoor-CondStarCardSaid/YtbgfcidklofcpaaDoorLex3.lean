/- The document's lex. -/
import Derived.Test.YtbgfcidklofcpaaDoorLex2
import Derived.Deep.Cut
namespace Go.Proofs.YtbgfcidklofcpaaDoor
open Go.RowKit
set_option linter.unusedVariables false
set_option linter.unusedSimpArgs false
set_option maxRecDepth 100000

def tokK : List UInt8 := [97, 98, 99, 100, 101, 102, 103, 104, 105, 106, 107, 108, 109, 110, 111, 112, 113, 114, 115, 116, 117, 118, 119, 120, 121, 122, 65, 66, 67, 68, 69, 70, 71, 72, 73, 74, 75, 76, 77, 78, 79, 80, 81, 82, 83, 84, 85, 86, 87, 88, 89, 90, 48, 49, 50, 51, 52, 53, 54, 55, 56, 57, 33, 35, 36, 37, 38, 39, 42, 43, 45, 46, 94, 95, 96, 124, 126]
theorem tokK_is (c : UInt8) : tokK.contains c = wordB c := by
  have : ∀ n : Fin 256, tokK.contains (UInt8.ofNat n.1) = wordB (UInt8.ofNat n.1) := by decide +kernel
  have h := this ⟨c.toNat, c.toNat_lt⟩
  simpa using h
theorem cont_snoc1 (l : List UInt8) (c : UInt8) (k : Nat) (h : k < l.length) : (l.take (k + 1)).contains c = ((l.take k).contains c || (l[k] == c)) := by
  rw [List.take_succ_eq_append_getElem h, List.contains_eq_any_beq, List.contains_eq_any_beq, List.any_append]
  simp [Bool.beq_comm]
set_option maxHeartbeats 1000000 in
theorem rhas_any {R : Ending → World → Prop} (K : List UInt8) (c : UInt8) (w : World) (hK : K.length ≤ 1000000) (h : R (.returned (.bool (K.contains c))) w) : Calls Tryd.prog 35 #[.string (S K), .int .u8 c.toNat] w R := by
  have H := Lib.hid h
  clear h
  go_enter Tryd.func35, Tryd.ntmps35
  go_wp2
  go_loop [5] (fun i => ∃ k : Nat, k ≤ K.length ∧ i = .int .i64 k ∧ Hid ((K.take k).contains c = false)) (fun i => K.length - (intOf i).toNat)
  case atStart => exact ⟨0, Nat.zero_le _, rfl, Lib.hid rfl⟩
  case round =>
    obtain ⟨k, hk, rfl, ha⟩ := hrel
    by_cases hlt : k < K.length
    · obtain ⟨x, hx⟩ : ∃ x, K[k]'hlt = x := ⟨_, rfl⟩
      by_cases hc : x = c
      · have b : ((x.toNat : Int) == (c.toNat : Int)) = true := (u8_beq x c).trans (by simpa using hc)
        have HH := Lib.hid (show K.contains c = true by rw [List.contains_iff_mem, ← hc, ← hx]; exact List.getElem_mem hlt)
        clear hc
        go_wp2
        exact rcast H.out (congrArg Value.bool HH.out)
      · have b : ((x.toNat : Int) == (c.toNat : Int)) = false := (u8_beq x c).trans (by simpa using hc)
        have HX : Hid ((K.take (k + 1)).contains c = false) := by
          refine Lib.hid ?_
          rw [cont_snoc1 K c k hlt, ha.out, hx]; simpa using hc
        clear hc
        go_wp2
        go_round
        case rel => exact ⟨k + 1, by omega, by go_num, HX⟩
        case measure => simp [intOf]; omega
    · go_wp2
      refine rcast H.out (congrArg Value.bool ?_)
      have := ha.out
      rwa [List.take_of_length_le (by omega)] at this
theorem rhas_tok {R : Ending → World → Prop} (c : UInt8) (w : World) (h : R (.returned (.bool (wordB c))) w) : Calls Tryd.prog 35 #[.string (S tokK), .int .u8 c.toNat] w R :=
  rhas_any tokK c w (by decide) (by rw [tokK_is]; exact h)
set_option maxHeartbeats 1000000 in
theorem rtoken_any {R : Ending → World → Prop} (l : List UInt8) (w : World) (hl : l.length ≤ 1000000) (h : R (.returned (.bool (tokB l))) w) : Calls Tryd.prog 19 #[.string (S l)] w R := by
  have H := Lib.hid h
  clear h
  go_enter Tryd.func19, Tryd.ntmps19
  go_wp2
  go_loop [3] (fun i => ∃ k : Nat, k ≤ l.length ∧ i = .int .i64 k ∧ Hid ((l.take k).all wordB = true)) (fun i => l.length - (intOf i).toNat)
  case atStart => exact ⟨0, Nat.zero_le _, rfl, Lib.hid rfl⟩
  case round =>
    obtain ⟨k, hk, rfl, ha⟩ := hrel
    by_cases hlt : k < l.length
    · obtain ⟨x, hx⟩ : ∃ x, l[k]'hlt = x := ⟨_, rfl⟩
      cases hp : wordB x
      · have HP := Lib.hid hp
        have HS := Lib.hid (show tokB l = false by unfold tokB; rw [show l.all wordB = false from by rw [List.all_eq_false]; exact ⟨x, hx ▸ List.getElem_mem hlt, by simp [hp]⟩, Bool.and_false])
        clear hp
        go_wp2_with (go_at_call 35; (refine rhas_tok _ _ ?_); rw [HP.out])
        exact rcast H.out (congrArg Value.bool HS.out)
      · have HP := Lib.hid hp
        have HX : Hid ((l.take (k + 1)).all wordB = true) := by
          refine Lib.hid ?_
          rw [all_snoc' l wordB k hlt, ha.out, hx, hp]; rfl
        clear hp
        go_wp2_with (go_at_call 35; (refine rhas_tok _ _ ?_); rw [HP.out])
        go_round
        case rel => exact ⟨k + 1, by omega, by go_num, HX⟩
        case measure => simp [intOf]; omega
    · have := ha.out
      rw [List.take_of_length_le (by omega)] at this
      have HT := Lib.hid (show tokB l = decide (0 < l.length) by
        unfold tokB; rw [this, Bool.and_true]
        cases l <;> simp)
      clear this
      go_wp2
      exact rcast H.out (congrArg Value.bool HT.out)
set_option maxHeartbeats 1000000 in
theorem rvalue_any {R : Ending → World → Prop} (l : List UInt8) (w : World) (hl : l.length ≤ 1000000) (h : R (.returned (.bool (l.all valB))) w) : Calls Tryd.prog 20 #[.string (S l)] w R := by
  have H := Lib.hid h
  clear h
  go_enter Tryd.func20, Tryd.ntmps20
  go_wp2
  go_loop [3] (fun i => ∃ k : Nat, k ≤ l.length ∧ i = .int .i64 k ∧ Hid ((l.take k).all valB = true)) (fun i => l.length - (intOf i).toNat)
  case atStart => exact ⟨0, Nat.zero_le _, rfl, Lib.hid rfl⟩
  case round =>
    obtain ⟨k, hk, rfl, ha⟩ := hrel
    by_cases hlt : k < l.length
    · obtain ⟨x, hx⟩ : ∃ x, l[k]'hlt = x := ⟨_, rfl⟩
      have HX : Hid (valB x = true → (l.take (k + 1)).all valB = true) := Lib.hid (fun h => by rw [all_snoc' l valB k hlt, ha.out, hx, h]; rfl)
      have HS : Hid (valB x = false → l.all valB = false) := Lib.hid (fun h => by rw [List.all_eq_false]; exact ⟨x, hx ▸ List.getElem_mem hlt, by simp [h]⟩)
      by_cases c9 : x.toNat = 9
      · have HV := Lib.hid (HX.out (by simp [valB, c9]))
        have e1 : ((x.toNat : Int) != 9) = false := by simp [c9]
        have e2 : ((x.toNat : Int) == 127) = false := by simp [c9]
        clear c9
        go_wp2
        all_goals exact ⟨⟨k + 1, by omega, by go_num, HV⟩, by simp [intOf]; omega⟩
      · have e1 : ((x.toNat : Int) != 9) = true := by simp; omega
        by_cases c32 : x.toNat < 32
        · have HV := Lib.hid (HS.out (by simp [valB]; omega))
          clear c9
          go_wp2
          exact rcast H.out (congrArg Value.bool HV.out)
        · have c32' : 32 ≤ x.toNat := by omega
          by_cases c127 : x.toNat = 127
          · have e2 : ((x.toNat : Int) == 127) = true := by simp [c127]
            have HV := Lib.hid (HS.out (by simp [valB, c127]))
            clear c9 c127 c32
            go_wp2
            exact rcast H.out (congrArg Value.bool HV.out)
          · have e2 : ((x.toNat : Int) == 127) = false := by simp; omega
            have HV := Lib.hid (HX.out (by simp [valB]; omega))
            clear c9 c127 c32
            go_wp2
            go_round
            case rel => exact ⟨k + 1, by omega, by go_num, HV⟩
            case measure => simp [intOf]; omega
    · go_wp2
      refine rcast H.out (congrArg Value.bool ?_)
      have := ha.out
      rwa [List.take_of_length_le (by omega)] at this
def blkB (c : UInt8) : Bool := ([32, 9] : List UInt8).contains c
def rdropB (l : List UInt8) : List UInt8 := (l.reverse.dropWhile blkB).reverse
theorem rdropB_snoc (l : List UInt8) (c : UInt8) : rdropB (l ++ [c]) = if blkB c then rdropB l else l ++ [c] := by
  unfold rdropB
  rw [List.reverse_append, List.reverse_singleton, List.singleton_append, List.dropWhile_cons]
  split <;> simp
theorem rdropB_cons (x : UInt8) (r : List UInt8) : rdropB (x :: r) = if rdropB r = [] then (if blkB x then [] else [x]) else x :: rdropB r := by
  have h : rdropB r = (r.reverse.dropWhile blkB).reverse := rfl
  unfold rdropB
  rw [List.reverse_cons, List.dropWhile_append]
  cases hd : r.reverse.dropWhile blkB with
  | nil => simp [List.dropWhile_cons]; split <;> simp
  | cons y ys => simp
theorem drop_rdrop (l : List UInt8) : rdropB (l.dropWhile blkB) = (rdropB l).dropWhile blkB := by
  induction l with
  | nil => rfl
  | cons x r ih =>
    rw [List.dropWhile_cons]
    cases hx : blkB x
    · simp only [Bool.false_eq_true, if_false]
      rw [rdropB_cons, hx]
      split <;> simp [List.dropWhile_cons, hx]
    · simp only [if_true]
      rw [ih, rdropB_cons, hx]
      split
      · rename_i h; rw [h]; rfl
      · rw [List.dropWhile_cons, hx]; rfl
theorem trimL_eq (l : List UInt8) : trimL l = rdropB (l.dropWhile blkB) := (drop_rdrop l).symm
theorem snocCases {α : Type} (l : List α) : l = [] ∨ ∃ rs x, l = rs ++ [x] := by
  rcases h : l.reverse with _ | ⟨x, rs⟩
  · left; simpa using h
  · right; exact ⟨rs.reverse, x, by have := congrArg List.reverse h; simpa using this⟩
def strLen1 : Value → Nat
  | .string s => s.size
  | _ => 0
set_option maxHeartbeats 1000000 in
theorem rtrim_any {R : Ending → World → Prop} (l : List UInt8) (w : World) (hl : l.length ≤ 1000000) (h : R (.returned (.string (S (trimL l)))) w) : Calls Tryd.prog 23 #[.string (S l)] w R := by
  have H := Lib.hid h
  clear h
  have HT := Lib.hid (trimL_eq l)
  generalize trimL l = res at *
  have hdl : (l.dropWhile blkB).length ≤ 1000000 := Nat.le_trans (List.dropWhile_sublist _).length_le hl
  go_enter Tryd.func23, Tryd.ntmps23
  go_upto_block 0 with (fail)
  go_cut [0] from 3 (fun s w' => s = .string (S (l.dropWhile blkB)) ∧ w' = w)
  case rest =>
    obtain ⟨rfl, rfl⟩ := hcut
    generalize l.dropWhile blkB = d at *
    go_wp2
    go_loop [0] (fun s => ∃ r : List UInt8, s = .string (S r) ∧ r.length ≤ 1000000 ∧ Hid (rdropB d = rdropB r)) (fun s => strLen1 s)
    case atStart => exact ⟨d, rfl, hdl, Lib.hid rfl⟩
    case round =>
      obtain ⟨r, rfl, hrl, hd⟩ := hrel
      rcases snocCases r with rfl | ⟨rs, x, rfl⟩
      · have HR := Lib.hid (show res = [] by rw [HT.out, hd.out]; rfl)
        clear hd
        go_wp2
        exact rcast H.out (by rw [HR.out])
      · have hrl' : rs.length + 1 ≤ 1000000 := by simpa using hrl
        clear hrl
        by_cases hb : blkB x = true
        · have hb' : x.toNat = 32 ∨ x.toNat = 9 := by
            unfold blkB at hb; simp at hb
            rcases hb with rfl | rfl
            · left; rfl
            · right; rfl
          have HD : Hid (rdropB d = rdropB rs) := Lib.hid (by rw [hd.out, rdropB_snoc, hb]; rfl)
          clear hb hd
          rcases hb' with hb | hb
          · have e1 : ((x.toNat : Int) == 32) = true := by simp [hb]
            clear hb
            go_wp2
            exact ⟨⟨rs, rfl, by omega, HD⟩, by simp [strLen1, S_size]⟩
          · have e0 : ((x.toNat : Int) == 32) = false := by simp [hb]
            have e1 : ((x.toNat : Int) == 9) = true := by simp [hb]
            clear hb
            go_wp2
            exact ⟨⟨rs, rfl, by omega, HD⟩, by simp [strLen1, S_size]⟩
        · have hb' : blkB x = false := by simpa using hb
          have HR := Lib.hid (show res = rs ++ [x] by rw [HT.out, hd.out, rdropB_snoc, hb']; rfl)
          have h32 : ¬ x.toNat = 32 ∧ ¬ x.toNat = 9 := by
            constructor
            · intro e; apply hb; have : x = 32 := UInt8.toNat_inj.1 e; rw [this]; rfl
            · intro e; apply hb; have : x = 9 := UInt8.toNat_inj.1 e; rw [this]; rfl
          have e0 : ((x.toNat : Int) == 32) = false := by simp; omega
          have e1 : ((x.toNat : Int) == 9) = false := by simp; omega
          clear hb hb' h32 hd
          go_wp2
          exact rcast H.out (by rw [HR.out])
  case first =>
    go_wp2
    go_loop [0] (fun s => ∃ r : List UInt8, s = .string (S r) ∧ r.length ≤ 1000000 ∧ Hid (l.dropWhile blkB = r.dropWhile blkB)) (fun s => strLen1 s)
    case atStart => exact ⟨l, rfl, hl, Lib.hid rfl⟩
    case round =>
      obtain ⟨r, rfl, hrl, hd⟩ := hrel
      match r with
      | [] =>
        have HR := Lib.hid (show l.dropWhile blkB = [] from hd.out)
        clear hd
        go_wp2
        go_meet
        case rel => exact ⟨by rw [HR.out], rfl⟩
      | x :: rs =>
        have hrl' : rs.length + 1 ≤ 1000000 := by simpa using hrl
        by_cases hb : blkB x = true
        · have hb' : x.toNat = 32 ∨ x.toNat = 9 := by
            unfold blkB at hb; simp at hb
            rcases hb with rfl | rfl
            · left; rfl
            · right; rfl
          have HD : Hid (l.dropWhile blkB = rs.dropWhile blkB) := Lib.hid (by rw [hd.out, List.dropWhile_cons, hb]; rfl)
          clear hb hd
          rcases hb' with hb | hb
          · have e1 : ((x.toNat : Int) == 32) = true := by simp [hb]
            clear hb
            go_wp2
            exact ⟨⟨rs, rfl, by omega, HD⟩, by simp [strLen1, S_size]⟩
          · have e0 : ((x.toNat : Int) == 32) = false := by simp [hb]
            have e1 : ((x.toNat : Int) == 9) = true := by simp [hb]
            clear hb
            go_wp2
            exact ⟨⟨rs, rfl, by omega, HD⟩, by simp [strLen1, S_size]⟩
        · have hb' : blkB x = false := by simpa using hb
          have HR := Lib.hid (show l.dropWhile blkB = x :: rs by rw [hd.out, List.dropWhile_cons, hb']; rfl)
          have h32 : ¬ x.toNat = 32 ∧ ¬ x.toNat = 9 := by
            constructor
            · intro e; apply hb; have : x = 32 := UInt8.toNat_inj.1 e; rw [this]; rfl
            · intro e; apply hb; have : x = 9 := UInt8.toNat_inj.1 e; rw [this]; rfl
          have e0 : ((x.toNat : Int) == 32) = false := by simp; omega
          have e1 : ((x.toNat : Int) == 9) = false := by simp; omega
          clear hb hb' h32 hd
          go_wp2
          go_meet
          case rel => exact ⟨by rw [HR.out], rfl⟩
set_option maxHeartbeats 1000000 in
theorem rlower_any {R : Ending → World → Prop} (l : List UInt8) (w : World) (hl : l.length ≤ 1000000) (h : ∀ w', Kp [] w w' → R (.returned (.string (S (lowL l)))) w') : Calls Tryd.prog 21 #[.string (S l)] w R := by
  have H := Lib.hid h
  clear h
  go_enter Tryd.func21, Tryd.ntmps21
  go_wp2
  go_loopw [3, 4] (fun b i wr => ∃ (k : Nat) (A : Option Addr) (c : Nat), k ≤ l.length ∧ i = .int .i64 k ∧ b = .slice A k c ∧ Kp [] w wr ∧ Ow wr 5 1 A k c (bts (lowL (l.take k))) ∧ (∀ b ∈ bks A, w.heap.size ≤ b)) (fun _ i _ => l.length - (intOf i).toNat)
  case atStart => exact ⟨0, none, 0, Nat.zero_le _, rfl, rfl, Kp.refl _ _, Ow.nil, by simp [bks]⟩
  case round =>
    obtain ⟨k, A, c, hk, rfl, rfl, kr, ho, hA⟩ := hrel
    by_cases hlt : k < l.length
    · obtain ⟨x, hx⟩ : ∃ x, l[k]'hlt = x := ⟨_, rfl⟩
      have hxl := x.toNat_lt
      have HT : Hid (bts (lowL (l.take k)) ++ bts [lowC x] = bts (lowL (l.take (k + 1)))) := by
        refine Lib.hid ?_
        rw [← bts_append, List.take_succ_eq_append_getElem hlt, hx]
        unfold lowL
        rw [List.map_append]; rfl
      by_cases hup : 65 ≤ x.toNat ∧ x.toNat ≤ 90
      · obtain ⟨u1, u2⟩ := hup
        have HX : Hid ((lowC x).toNat = x.toNat + 32) := by
          refine Lib.hid ?_
          unfold lowC
          rw [if_pos ⟨u1, u2⟩, UInt8.toNat_ofNat']
          omega
        go_wp2_with (at_builtin; refine wpList_app _ rfl (.tmp 23) (.tmp 25) _ rfl elt_u8 A k c _ rfl (ho.alloc _) [] (some ⟨wr.heap.size, 0, none⟩) 1 1 (bts [lowC x]) rfl (Rd.of_bk ((Bk.newAt rfl _ _).cast (by have := HX.out; simp [bts, this])) (by simp)) rfl (bts_one _) (by omega) ?_; intro A2 c2 w2 ho2 hk2 hA2)
        exact ⟨⟨k + 1, A2, c2, by omega, by go_num, rfl, (kr.alloc _).thn hk2 (fun s hs => .inr (hA s hs)), ho2.cast rfl HT.out, bks_app hA2 hA (by have := kr.size; simp; omega)⟩, by simp [intOf]; omega⟩
      · have HX : Hid ((lowC x).toNat = x.toNat) := by
          refine Lib.hid ?_
          unfold lowC
          rw [if_neg hup]
        by_cases h65 : x.toNat < 65
        · clear hup
          go_wp2_with (at_builtin; refine wpList_app _ rfl (.tmp 23) (.tmp 25) _ rfl elt_u8 A k c _ rfl (ho.alloc _) [] (some ⟨wr.heap.size, 0, none⟩) 1 1 (bts [lowC x]) rfl (Rd.of_bk ((Bk.newAt rfl _ _).cast (by have := HX.out; simp [bts, this])) (by simp)) rfl (bts_one _) (by omega) ?_; intro A2 c2 w2 ho2 hk2 hA2)
          exact ⟨⟨k + 1, A2, c2, by omega, by go_num, rfl, (kr.alloc _).thn hk2 (fun s hs => .inr (hA s hs)), ho2.cast rfl HT.out, bks_app hA2 hA (by have := kr.size; simp; omega)⟩, by simp [intOf]; omega⟩
        · have h90 : 90 < x.toNat := by omega
          clear hup
          go_wp2_with (at_builtin; refine wpList_app _ rfl (.tmp 23) (.tmp 25) _ rfl elt_u8 A k c _ rfl (ho.alloc _) [] (some ⟨wr.heap.size, 0, none⟩) 1 1 (bts [lowC x]) rfl (Rd.of_bk ((Bk.newAt rfl _ _).cast (by have := HX.out; simp [bts, this])) (by simp)) rfl (bts_one _) (by omega) ?_; intro A2 c2 w2 ho2 hk2 hA2)
          exact ⟨⟨k + 1, A2, c2, by omega, by go_num, rfl, (kr.alloc _).thn hk2 (fun s hs => .inr (hA s hs)), ho2.cast rfl HT.out, bks_app hA2 hA (by have := kr.size; simp; omega)⟩, by simp [intOf]; omega⟩
    · have e1 : l.take k = l := List.take_of_length_le (by omega)
      rw [e1] at ho
      have hkl : k = l.length := by omega
      have hcv := conv_bs (c := c) (n := k) (ho.rd (N := []) (by simp)) (by simp [lowL]; omega)
      have HK := Lib.hid kr
      clear e1 ho kr hkl
      go_wp2
      exact H.out _ HK.out
end Go.Proofs.YtbgfcidklofcpaaDoor
