/- The document's Of. -/
import Derived.Test.YthppknpeagjcpaaDoorLawNames
import Derived.Deep.Cut
namespace Go.Proofs.YthppknpeagjcpaaDoor
open Go.RowKit
set_option linter.unusedVariables false
set_option maxRecDepth 100000

def badR (a b : UInt8) : Bool := decide (digI a < 0) || decide (digI b < 0) || (hexB a b == 47)
def decR : List UInt8 → Option (List UInt8)
  | [] => some []
  | [c] => if c.toNat = 37 then none else some [c]
  | [c, d] => if c.toNat = 37 then none else (decR [d]).map (c :: ·)
  | c :: a :: b :: r => if c.toNat = 37 then (if badR a b then none else (decR r).map (hexB a b :: ·)) else (decR (a :: b :: r)).map (c :: ·)
theorem decR_ne {c : UInt8} (r : List UInt8) (h : ¬ c.toNat = 37) : decR (c :: r) = (decR r).map (c :: ·) := by
  match r with
  | [] => simp [decR, h]
  | [d] => simp [decR, h]
  | a :: b :: r => simp [decR, h]
theorem decR_short {c : UInt8} {r : List UInt8} (h : c.toNat = 37) (hr : r.length < 2) : decR (c :: r) = none := by
  match r with
  | [] => rw [decR, if_pos h]
  | [d] => rw [decR, if_pos h]
  | a :: b :: r => simp at hr; omega
theorem decR_hex {c a b : UInt8} (r : List UInt8) (h : c.toNat = 37) : decR (c :: a :: b :: r) = if badR a b then none else (decR r).map (hexB a b :: ·) := by rw [decR, if_pos h]
def DD (l : List UInt8) : Prop := (∃ n, dec l = some n ∧ decR l = some n) ∨ (dec l = none ∧ (decR l = none ∨ ∃ n x, decR l = some n ∧ x ∈ n ∧ x ≠ 47 ∧ plainB x = false))
theorem DD_cons {c : UInt8} {r : List UInt8} (h : ¬ c.toNat = 37) (hr : DD r) : DD (c :: r) := by
  unfold DD
  rw [dec_ne _ h, decR_ne _ h]
  rcases hr with ⟨n, h1, h2⟩ | ⟨h1, h2 | ⟨n, x, h2, h3, h4, h5⟩⟩
  · exact .inl ⟨c :: n, by rw [h1]; rfl, by rw [h2]; rfl⟩
  · exact .inr ⟨by rw [h1]; rfl, .inl (by rw [h2]; rfl)⟩
  · exact .inr ⟨by rw [h1]; rfl, .inr ⟨c :: n, x, by rw [h2]; rfl, by simp [h3], h4, h5⟩⟩
theorem bad_cases (a b : UInt8) : (badB a b = false ∧ badR a b = false) ∨ (badB a b = true ∧ badR a b = true) ∨ (badB a b = true ∧ badR a b = false ∧ hexB a b ≠ 47 ∧ plainB (hexB a b) = false) := by
  unfold badB badR
  cases decide (digI a < 0)
  · cases decide (digI b < 0)
    · by_cases h : hexB a b = 47
      · right; left; rw [h]; exact ⟨by decide, by decide⟩
      · have h' : (hexB a b == 47) = false := by simpa using h
        cases hp : plainB (hexB a b)
        · right; right; exact ⟨rfl, by rw [h']; rfl, h, rfl⟩
        · left; exact ⟨rfl, by rw [h']; rfl⟩
    · right; left; exact ⟨rfl, rfl⟩
  · right; left; exact ⟨rfl, rfl⟩
theorem dec_decR : ∀ l, DD l
  | [] => .inl ⟨[], rfl, rfl⟩
  | [c] => by
    by_cases h : c.toNat = 37
    · exact .inr ⟨dec_short h (by simp), .inl (decR_short h (by simp))⟩
    · exact DD_cons h (.inl ⟨[], rfl, rfl⟩)
  | [c, d] => by
    by_cases h : c.toNat = 37
    · exact .inr ⟨dec_short h (by simp), .inl (decR_short h (by simp))⟩
    · exact DD_cons h (dec_decR [d])
  | c :: a :: b :: r => by
    by_cases h : c.toNat = 37
    · unfold DD
      rw [dec_hex _ h, decR_hex _ h]
      have hr := dec_decR r
      rcases bad_cases a b with ⟨b1, b2⟩ | ⟨b1, b2⟩ | ⟨b1, b2, b3, b4⟩
      · rw [b1, b2]
        simp only [Bool.false_eq_true, if_false]
        rcases hr with ⟨n, h1, h2⟩ | ⟨h1, h2 | ⟨n, x, h2, h3, h4, h5⟩⟩
        · exact .inl ⟨hexB a b :: n, by rw [h1]; rfl, by rw [h2]; rfl⟩
        · exact .inr ⟨by rw [h1]; rfl, .inl (by rw [h2]; rfl)⟩
        · exact .inr ⟨by rw [h1]; rfl, .inr ⟨hexB a b :: n, x, by rw [h2]; rfl, by simp [h3], h4, h5⟩⟩
      · rw [b1, b2]
        exact .inr ⟨rfl, .inl rfl⟩
      · rw [b1, b2]
        refine .inr ⟨rfl, ?_⟩
        simp only [Bool.false_eq_true, if_false]
        rcases hr with ⟨n, h1, h2⟩ | ⟨h1, h2 | ⟨n, x, h2, h3, h4, h5⟩⟩
        · exact .inr ⟨hexB a b :: n, hexB a b, by rw [h2]; rfl, by simp, b3, b4⟩
        · exact .inl (by rw [h2]; rfl)
        · exact .inr ⟨hexB a b :: n, x, by rw [h2]; rfl, by simp [h3], h4, h5⟩
    · exact DD_cons h (dec_decR (a :: b :: r))
theorem nameB_bad {n : List UInt8} {x : UInt8} (hx : x ∈ n) (h47 : x ≠ 47) (hp : plainB x = false) : nameB n = false := by
  cases h : nameB n
  · rfl
  · have := spl_mem_plain h hx h47
    rw [hp] at this; cases this
def decV : Option (List UInt8) → List UInt8 × Int
  | none => ([], 70)
  | some n => if nameB n then (n, 0) else ([], 70)
theorem decV_eq (l : List UInt8) : decV (dec l) = decV (decR l) := by
  rcases dec_decR l with ⟨n, h1, h2⟩ | ⟨h1, h2 | ⟨n, x, h2, h3, h4, h5⟩⟩
  · rw [h1, h2]
  · rw [h1, h2]
  · rw [h1, h2]
    show ([], 70) = if nameB n then (n, 0) else ([], 70)
    rw [nameB_bad h3 h4 h5]; rfl
theorem ofL_R (l : List UInt8) : ofL l = if 128 < l.length then ([], 2) else if ((bef 63 l).head? == some 47) = false then ([], 70) else if bef 63 l = [47] then (indexS, 0) else decV (decR ((bef 63 l).drop 1)) := by
  rw [← decV_eq]; rfl
def strLen : Value → Nat
  | .string s => s.size
  | _ => 0
set_option maxHeartbeats 4000000 in
theorem rof_any {R : Ending → World → Prop} (l : List UInt8) (w : World) (h : ∀ w', Kp [] w w' → R (.returned (ofV (ofL l))) w') : Calls Tryd.prog 16 #[.string (S l)] w R := by
  have H := Lib.hid h
  clear h
  by_cases hl : l.length ≤ 128
  · go_enter Tryd.func16, Tryd.ntmps16
    go_upto_block 0 with (fail)
    go_cut [0] from 5 (fun s w' => s = .string (S (bef 63 l)) ∧ w' = w)
    case rest =>
      obtain ⟨rfl, rfl⟩ := hcut
      have hb := bef_len 63 l
      have HO := ofL_R l
      rw [if_neg (by omega)] at HO
      generalize ofL l = res at *
      generalize bef 63 l = t at *
      match t with
      | [] =>
        have HR := Lib.hid (show res = ([], 70) from HO)
        clear HO
        go_wp2
        exact rcast (H.out _ (Kp.refl _ _)) (by rw [HR.out]; rfl)
      | x :: r =>
        by_cases h47 : x = 47
        · subst h47
          rw [if_neg (by simp)] at HO
          by_cases hr0 : r = []
          · subst hr0
            have HR := Lib.hid (show res = (indexS, 0) from HO)
            clear HO
            go_wp2
            exact rcast (H.out _ (Kp.refl _ _)) (by rw [HR.out]; rfl)
          · have b1 : r.isEmpty = false := by simpa using hr0
            rw [if_neg (by simpa using hr0)] at HO
            have HR := Lib.hid (show res = decV (decR r) from HO)
            have hrl : r.length ≤ 127 := by simp at hb; omega
            clear HO hr0 hb
            go_wp2
            go_loopw [0, 5] (fun s nm wr => ∃ rest out : List UInt8, s = .string (S rest) ∧ nm = .string (S out) ∧ rest.length ≤ 127 ∧ out.length + rest.length ≤ 127 ∧ Hid (decR r = (decR rest).map (out ++ ·)) ∧ Kp [] wc wr) (fun s _ _ => strLen s)
            case atStart => exact ⟨r, [], rfl, rfl, hrl, by simpa using hrl, Lib.hid (by simp), Kp.refl _ _⟩
            case round =>
              obtain ⟨rest, out, rfl, rfl, h1, h2, hd, kr⟩ := hrel
              match rest with
              | [] =>
                have HR2 : Hid (res = if nameB out then (out, 0) else ([], 70)) := by
                  refine Lib.hid ?_
                  rw [HR.out, hd.out]; simp [decR, decV]
                clear hd
                cases hn : nameB out
                · have HN := Lib.hid hn
                  have HR3 := Lib.hid (show res = ([], 70) by rw [HR2.out, hn]; rfl)
                  clear hn
                  go_wp2_with (go_at_call 20; (with_reducible refine rname_any out _ ?_); rw [HN.out])
                  exact rcast (H.out _ kr) (by rw [HR3.out]; rfl)
                · have HN := Lib.hid hn
                  have HR3 := Lib.hid (show res = (out, 0) by rw [HR2.out, hn]; rfl)
                  clear hn
                  go_wp2_with (go_at_call 20; (with_reducible refine rname_any out _ ?_); rw [HN.out])
                  exact rcast (H.out _ kr) (by rw [HR3.out]; rfl)
              | c :: rs =>
                have h1' : rs.length ≤ 126 := by simp at h1; omega
                have h2' : out.length + rs.length ≤ 126 := by simp at h2; omega
                by_cases h37 : c.toNat = 37
                · have b37 : ((c.toNat : Int) != 37) = false := by simp [h37]
                  by_cases hsh : rs.length < 2
                  · have HR3 := Lib.hid (show res = ([], 70) by rw [HR.out, hd.out, decR_short h37 hsh]; rfl)
                    clear hd h37
                    go_wp2
                    exact rcast (H.out _ kr) (by rw [HR3.out]; rfl)
                  · match rs with
                    | [] => simp at hsh
                    | [_] => simp at hsh
                    | p :: q :: rs =>
                      obtain ⟨pa, pb⟩ := digI_bd p
                      obtain ⟨qa, qb⟩ := digI_bd q
                      have hl3 : rs.length ≤ 124 := by simp at h1'; omega
                      have hl4 : out.length + rs.length ≤ 124 := by simp at h2'; omega
                      have HX : Hid (0 ≤ digI p → 0 ≤ digI q → 16 * digI p + digI q = ((hexB p q).toNat : Int)) := by
                        refine Lib.hid fun h1 h2 => ?_
                        unfold hexB
                        rw [UInt8.toNat_ofNat']
                        omega
                      have HBad : Hid (badR p q = (decide (digI p < 0) || decide (digI q < 0) || (hexB p q == 47))) := Lib.hid rfl
                      have HD2 : Hid (decR r = if badR p q then none else (decR rs).map (fun y => out ++ hexB p q :: y)) := by
                        refine Lib.hid ?_
                        rw [hd.out, decR_hex _ h37]
                        split
                        · rfl
                        · cases decR rs <;> simp
                      clear hd h37 hsh
                      have HB1 : Hid (badR p q = true → res = ([], 70)) := Lib.hid (fun hb1 => by rw [HR.out, HD2.out, if_pos hb1]; rfl)
                      have ED : Hid (∀ w R, R (.returned (.int .i64 (digI p))) w → Calls Tryd.prog 52 #[.int .u8 p.toNat] w R) := Lib.hid fun w R h => rdigit_any p w h
                      have EQ : Hid (∀ w R, R (.returned (.int .i64 (digI q))) w → Calls Tryd.prog 52 #[.int .u8 q.toNat] w R) := Lib.hid fun w R h => rdigit_any q w h
                      generalize hexB p q = h at *
                      generalize badR p q = bad at *
                      generalize digI p = di at *
                      generalize digI q = dj at *
                      by_cases hi : di < 0
                      · have g1 : decide (di < 0) = true := by simpa using hi
                        go_wp2_with (go_at_call 52; first | with_reducible refine ED.out _ _ ?_ | with_reducible refine EQ.out _ _ ?_)
                        exact rcast (H.out _ kr) (by rw [HB1.out (by rw [HBad.out, g1]; rfl)]; rfl)
                      have g1 : decide (di < 0) = false := by simpa using hi
                      by_cases hj : dj < 0
                      · have g2 : decide (dj < 0) = true := by simpa using hj
                        go_wp2_with (go_at_call 52; first | with_reducible refine ED.out _ _ ?_ | with_reducible refine EQ.out _ _ ?_)
                        exact rcast (H.out _ kr) (by rw [HB1.out (by rw [HBad.out, g1, g2]; rfl)]; rfl)
                      have g2 : decide (dj < 0) = false := by simpa using hj
                      have hv := HX.out (by omega) (by omega)
                      have hb255 := h.toNat_lt
                      have q1 : 0 ≤ 16 * di + dj := by omega
                      have q2 : 16 * di + dj ≤ 255 := by omega
                      have HV := Lib.hid hv
                      clear hv hb255
                      go_wp2_with (go_at_call 52; first | with_reducible refine ED.out _ _ ?_ | with_reducible refine EQ.out _ _ ?_)
                      have hE : di * 16 + dj = (h.toNat : Int) := by have := HV.out; omega
                      have s1 : IntKind.i64.wrap (di * 16) = di * 16 := IntWalk.i64_in _ (by omega)
                      have s2 : IntKind.i64.wrap (h.toNat : Int) = (h.toNat : Int) := IntWalk.i64_in _ (by have := h.toNat_lt; omega)
                      have s3 : IntKind.u8.wrap (h.toNat : Int) = (h.toNat : Int) := IntWalk.u8_in _ (by have := h.toNat_lt; omega)
                      clear q1 q2
                      refine wp_region_kp (by kernel_rfl) (by kernel_rfl) ?_
                      repeat (quiet_step (((go_at_call 52; first | with_reducible refine ED.out _ _ ?_ | with_reducible refine EQ.out _ _ ?_); exact ⟨rfl, _, rfl⟩)))
                      refine wpQuiet_nil ?_
                      intro w4 k4
                      have kr4 := kr.trans k4
                      clear hE s1 s2 s3 kr k4
                      by_cases h47 : h = 47
                      · have b47 : ((h.toNat : Int) == 47) = true := (u8_beq h 47).trans (by simpa using h47)
                        have HR3 := Lib.hid (HB1.out (by rw [HBad.out, g1, g2, h47]; rfl))
                        clear h47
                        go_wp2
                        exact rcast (H.out _ kr4) (by rw [HR3.out]; rfl)
                      · have b47 : ((h.toNat : Int) == 47) = false := (u8_beq h 47).trans (by simpa using h47)
                        have b47' : (h == 47) = false := by simpa using h47
                        have HD : Hid (decR r = (decR rs).map ((out ++ [h]) ++ ·)) := by
                          refine Lib.hid ?_
                          rw [HD2.out, if_neg (by rw [HBad.out, g1, g2, b47']; decide)]
                          cases decR rs <;> simp
                        have hcv : (convert 36 9 (.slice (some ⟨w4.heap.size, 0, none⟩) 1 1)).run Tryd.prog (w4.alloc (.cells #[.int .u8 h.toNat] 5)) = .ok (.string (S [h])) (w4.alloc (.cells #[.int .u8 h.toNat] 5)) :=
                          conv_bS (N := []) (l := [h]) (Rd.of_bk (Bk.newAt rfl _ _) (by simp)) rfl
                        clear h47 b47'
                        go_wp2
                        exact ⟨⟨rs, out ++ [h], rfl, rfl, by omega, by simp; omega, HD, kr4.alloc _⟩, by simp [strLen, S_size]; omega⟩
                · have b37 : ((c.toNat : Int) != 37) = true := by simp; omega
                  have HD : Hid (decR r = (decR rs).map ((out ++ [c]) ++ ·)) := by
                    refine Lib.hid ?_
                    rw [hd.out, decR_ne _ h37]
                    cases decR rs <;> simp
                  clear hd h37
                  go_wp2
                  exact ⟨⟨rs, out ++ [c], rfl, rfl, by omega, by simp; omega, HD, kr⟩, by simp [strLen, S_size]⟩
        · have b0 : ((x.toNat : Int) == 47) = false := (u8_beq x 47).trans (by simpa using h47)
          have b1 : ((x.toNat : Int) != 47) = true := (u8_bne x 47).trans (by simpa using h47)
          have b2 : (x :: r == [47]) = false := by simp [h47]
          have b3 : (x == 47) = false := by simpa using h47
          rw [if_pos (by simpa using h47)] at HO
          have HR := Lib.hid HO
          clear HO h47
          go_wp2
          exact rcast (H.out _ (Kp.refl _ _)) (by rw [HR.out]; rfl)
    case first =>
      go_wp2
      go_loop [0, 4] (fun s i => s = .string (S l) ∧ ∃ k : Nat, k ≤ l.length ∧ i = .int .i64 k ∧ Hid ((l.take k).contains 63 = false)) (fun _ i => l.length - (intOf i).toNat)
      case atStart => exact ⟨rfl, 0, Nat.zero_le _, rfl, Lib.hid rfl⟩
      case round =>
        obtain ⟨rfl, k, hk, rfl, ha⟩ := hrel
        by_cases hlt : k < l.length
        · obtain ⟨x, hx⟩ : ∃ x, l[k]'hlt = x := ⟨_, rfl⟩
          by_cases hc : x = 63
          · have b : ((x.toNat : Int) == 63) = true := (u8_beq x 63).trans (by simpa using hc)
            have hh : bef 63 l = l.take k := by
              have e : l = l.take k ++ 63 :: l.drop (k + 1) := by
                rw [← hc, ← hx, ← List.drop_eq_getElem_cons hlt, List.take_append_drop]
              conv => lhs; rw [e]
              exact bef_app ha.out
            have HH := Lib.hid hh
            clear hc hh
            go_wp2
            go_meet
            case rel => exact ⟨by rw [HH.out], rfl⟩
          · have b : ((x.toNat : Int) == 63) = false := (u8_beq x 63).trans (by simpa using hc)
            have HX : Hid ((l.take (k + 1)).contains 63 = false) := by
              refine Lib.hid ?_
              rw [cont_snoc l 63 k hlt, ha.out, hx]; simpa using hc
            clear hc
            go_wp2
            go_round
            case rel => exact ⟨rfl, k + 1, by omega, by go_num, HX⟩
            case measure => simp [intOf]; omega
        · have hh : bef 63 l = l := by
            have := ha.out
            rw [List.take_of_length_le (by omega)] at this
            exact (bef_self this).1
          have HH := Lib.hid hh
          clear hh
          go_wp2
          go_meet
          case rel => exact ⟨by rw [HH.out], rfl⟩
  · have HO : Hid (ofL l = ([], 2)) := by
      refine Lib.hid ?_
      unfold ofL; rw [if_pos (by omega)]
    go_enter Tryd.func16, Tryd.ntmps16
    go_wp2
    exact rcast (H.out w (Kp.refl _ _)) (by rw [HO.out]; rfl)
end Go.Proofs.YthppknpeagjcpaaDoor
