/- path.Of. -/
import Derived.Test.YthppknpeagjcpaaDoorPath3
import Derived.Test.YthppknpeagjcpaaDoorGoto
import Derived.Test.YthppknpeagjcpaaDoorBytes
import Derived.Test.YthppknpeagjcpaaDoorQuiet
import Derived.IntWalk
namespace Go.Proofs.YthppknpeagjcpaaDoor
open Go.RowKit
set_option linter.unusedVariables false
set_option maxRecDepth 100000
def hexB (a b : UInt8) : UInt8 := UInt8.ofNat (16 * (digI a).toNat + (digI b).toNat)
def badB (a b : UInt8) : Bool := decide (digI a < 0) || decide (digI b < 0) || !plainB (hexB a b)
/-- A target's name, its %-forms read. -/
def dec : List UInt8 → Option (List UInt8)
  | [] => some []
  | [c] => if c.toNat = 37 then none else some [c]
  | [c, d] => if c.toNat = 37 then none else (dec [d]).map (c :: ·)
  | c :: a :: b :: r => if c.toNat = 37 then (if badB a b then none else (dec r).map (hexB a b :: ·)) else (dec (a :: b :: r)).map (c :: ·)
theorem dec_ne {c : UInt8} (r : List UInt8) (h : ¬ c.toNat = 37) : dec (c :: r) = (dec r).map (c :: ·) := by
  match r with
  | [] => simp [dec, h]
  | [d] => simp [dec, h]
  | a :: b :: r => simp [dec, h]
theorem dec_short {c : UInt8} {r : List UInt8} (h : c.toNat = 37) (hr : r.length < 2) : dec (c :: r) = none := by
  match r with
  | [] => rw [dec, if_pos h]
  | [d] => rw [dec, if_pos h]
  | a :: b :: r => simp at hr; omega
theorem dec_hex {c a b : UInt8} (r : List UInt8) (h : c.toNat = 37) : dec (c :: a :: b :: r) = if badB a b then none else (dec r).map (hexB a b :: ·) := by rw [dec, if_pos h]
def indexS : List UInt8 := [105, 110, 100, 101, 120, 46, 104, 116, 109, 108]
def ofL (l : List UInt8) : List UInt8 × Int :=
  if 128 < l.length then ([], 2) else if ((bef 63 l).head? == some 47) = false then ([], 70) else if bef 63 l = [47] then (indexS, 0) else
    match dec ((bef 63 l).drop 1) with
    | none => ([], 70)
    | some n => if nameB n then (n, 0) else ([], 70)
def ofV (x : List UInt8 × Int) : Value := .tuple #[.string (S x.1), .int .i64 x.2]
theorem digI_bd (c : UInt8) : -1 ≤ digI c ∧ digI c ≤ 15 := by
  unfold digI; have := c.toNat_lt; (repeat' split) <;> omega
theorem plain_int {R : Ending → World → Prop} (v : Int) (c : UInt8) (w : World) (hv : v = c.toNat) (h : R (.returned (.bool (plainB c))) w) : Calls Tryd.prog 51 #[.int .u8 v] w R := by
  subst hv; exact plain_any c w h
theorem conv_bS {w : World} {N : List Nat} {A : Option Addr} {n c : Nat} {l : List UInt8} (hr : Rd w N A (bts l)) (hl : l.length = n) : (convert 36 9 (.slice A n c)).run Tryd.prog w = .ok (.string (S l)) w := conv_bs hr hl

set_option maxHeartbeats 1000000 in
theorem of_any {R : Ending → World → Prop} (l : List UInt8) (w : World) (hm : Ml w)
    (h : ∀ w', Kp [] w w' → R (.returned (ofV (ofL l))) w') : Calls Tryd.prog 15 #[.string (S l)] w R := by
  have H := Lib.hid h
  clear h
  by_cases hl : l.length ≤ 128
  · have hb := bef_len 63 l
    cases hs : (bef 63 l).head? == some 47
    · have HS := Lib.hid hs
      clear hs
      go_enter Tryd.func15, Tryd.ntmps15
      go_wp2
      refine wp_scope_fwd 0 (by rfl) ?_
      intro J HJ
      go_wp2_with (first | (go_at_call 48; ((with_reducible refine cut_any l 63 hm (by omega) ?_); intro n)) | (go_at_call 49; ((with_reducible refine pre_any _ 47 ?_); rw [HS.out])))
      go_step3
      refine ⟨rfl, HJ.out _ _ ?_⟩
      go_wp2
      refine rcast (H.out _ ((Kp.refl _ _).drewN _)) ?_
      unfold ofL; rw [if_neg (by omega), if_pos HS.out]; rfl
    · have HS := Lib.hid hs
      clear hs
      by_cases hr0 : bef 63 l = [47]
      · have HR := Lib.hid hr0
        have hres : ofL l = (indexS, 0) := by
          unfold ofL
          rw [if_neg (by omega), if_neg (by rw [HS.out]; decide), if_pos hr0]
        have HO := Lib.hid hres
        clear hr0 hres hb
        go_enter Tryd.func15, Tryd.ntmps15
        go_wp2
        refine wp_scope_fwd 0 (by rfl) ?_
        intro J HJ
        go_wp2_with (first | (go_at_call 48; ((with_reducible refine cut_any l 63 hm (by omega) ?_); intro n; rw [HR.out])) | (go_at_call 49; ((with_reducible refine pre_any _ 47 ?_))))
        refine rcast (H.out _ ((Kp.refl _ _).drewN _)) ?_
        rw [HO.out]; rfl
      · have HO : Hid (ofL l = match dec ((bef 63 l).drop 1) with
          | none => ([], 70)
          | some n => if nameB n then (n, 0) else ([], 70)) := by
          refine Lib.hid ?_
          unfold ofL
          rw [if_neg (by omega), if_neg (by rw [HS.out]; decide), if_neg hr0]
        have b1 : (bef 63 l == [47]) = false := by simpa using hr0
        generalize ofL l = res at *
        obtain ⟨t, ht⟩ : ∃ t, bef 63 l = t := ⟨_, rfl⟩
        rw [ht] at HS HO b1 hb
        have HT := Lib.hid ht
        clear ht hr0
        go_enter Tryd.func15, Tryd.ntmps15
        go_wp2
        refine wp_scope_fwd 0 (by rfl) ?_
        intro J HJ
        go_wp2_with (first | (go_at_call 48; ((with_reducible refine cut_any l 63 hm (by omega) ?_); intro n; rw [HT.out])) | (go_at_call 49; ((with_reducible refine pre_any _ 47 ?_); rw [HS.out])))
        have hm0 := hm.drewN n
        have k0 : Kp [] w (w.drewN n) := (Kp.refl _ _).drewN n
        generalize w.drewN n = w0 at *
        go_loopw [4, 7] (fun nm i wr => ∃ (k : Nat) (out : List UInt8) (A : Option Addr) (c : Nat), 1 ≤ k ∧ k ≤ t.length ∧ i = .int .i64 k ∧ nm = .slice A out.length c ∧ out.length ≤ k ∧ Hid (dec (t.drop 1) = (dec (t.drop k)).map (out ++ ·)) ∧ Kp [] w wr ∧ Ow wr 5 1 A out.length c (bts out) ∧ (∀ b ∈ bks A, w.heap.size ≤ b)) (fun _ i _ => t.length - (intOf i).toNat)
        case atStart => exact ⟨1, [], none, 0, Nat.le_refl _, by
          have := HS.out
          cases t with
          | nil => cases this
          | cons => simp, rfl, rfl, by simp, Lib.hid (by simp), k0, Ow.nil, by simp [bks]⟩
        case round =>
          obtain ⟨k, out, A, c, hk1, hk2, rfl, rfl, hout, hd, kr, ho, hA⟩ := hrel
          by_cases hlt : k < t.length
          · obtain ⟨x, hx⟩ : ∃ x, t[k]'hlt = x := ⟨_, rfl⟩
            have hdr : t.drop k = x :: t.drop (k + 1) := by rw [List.drop_eq_getElem_cons hlt, hx]
            by_cases h37 : x.toNat = 37
            · have b37 : ((x.toNat : Int) != 37) = false := by simp [h37]
              have H37 := Lib.hid h37
              clear h37
              by_cases hlen : k + 2 < t.length
              · obtain ⟨p, hp⟩ : ∃ p, t[k + 1]'(by omega) = p := ⟨_, rfl⟩
                obtain ⟨q, hq⟩ : ∃ q, t[k + 2]'hlen = q := ⟨_, rfl⟩
                have hdr2 : t.drop k = x :: p :: q :: t.drop (k + 3) := by
                  rw [hdr, List.drop_eq_getElem_cons (by omega : k + 1 < t.length), hp, List.drop_eq_getElem_cons hlen, hq]
                have HD2 : Hid (dec (t.drop 1) = if badB p q then none else (dec (t.drop (k + 3))).map (fun y => out ++ hexB p q :: y)) := by
                  refine Lib.hid ?_
                  rw [hd.out, hdr2, dec_hex _ H37.out]
                  split
                  · rfl
                  · cases dec (t.drop (k + 3)) <;> simp
                clear hdr hdr2 hd
                obtain ⟨pa, pb⟩ := digI_bd p
                obtain ⟨qa, qb⟩ := digI_bd q
                have HX : Hid (0 ≤ digI p → 0 ≤ digI q → 16 * digI p + digI q = ((hexB p q).toNat : Int)) := by
                  refine Lib.hid fun h1 h2 => ?_
                  unfold hexB
                  rw [UInt8.toNat_ofNat']
                  omega
                have HBad : Hid (badB p q = (decide (digI p < 0) || decide (digI q < 0) || !plainB (hexB p q))) := Lib.hid rfl
                generalize hexB p q = h at *
                generalize badB p q = bad at *
                go_wp2
                have s1 : IntKind.i64.wrap ((k : Int) + 1) = (k : Int) + 1 := IntWalk.i64_in _ (by omega)
                have s2 : IntKind.i64.wrap ((k : Int) + 2) = (k : Int) + 2 := IntWalk.i64_in _ (by omega)
                have s3 : ((k : Int) + 1).toNat = k + 1 := by omega
                have s4 : ((k : Int) + 2).toNat = k + 2 := by omega
                have s5 : (0 : Int) ≤ (k : Int) + 1 := by omega
                have s6 : (0 : Int) ≤ (k : Int) + 2 := by omega
                have s7 : (k : Int) + 1 < t.length := by omega
                have s8 : (k : Int) + 2 < t.length := by omega
                refine wp_region_kp (by kernel_rfl) (by kernel_rfl) ?_
                repeat (quiet_step (((go_at_call 50; refine digit_any _ _ ?_); exact ⟨rfl, _, rfl⟩)))
                refine wpQuiet_nil ?_
                intro w4 k4
                have kr4 := kr.trans k4
                have ho4 := ho.kp k4 (by simp)
                clear kr ho k4
                generalize digI p = di at *
                generalize digI q = dj at *
                have hbad : bad = true → res = ([], 70) := by
                  intro hb1
                  rw [HO.out, HD2.out, if_pos hb1]
                have HB1 := Lib.hid hbad
                clear hbad
                by_cases hi : di < 0
                · have g1 : decide (di < 0) = true := by simpa using hi
                  go_wp2
                  go_step3
                  refine ⟨rfl, HJ.out _ _ ?_⟩
                  go_wp2
                  refine rcast (H.out _ kr4) ?_
                  rw [HB1.out (by rw [HBad.out, g1]; rfl)]; rfl
                have g1 : decide (di < 0) = false := by simpa using hi
                by_cases hj : dj < 0
                · have g2 : decide (dj < 0) = true := by simpa using hj
                  go_wp2
                  go_step3
                  refine ⟨rfl, HJ.out _ _ ?_⟩
                  go_wp2
                  refine rcast (H.out _ kr4) ?_
                  rw [HB1.out (by rw [HBad.out, g1, g2]; rfl)]; rfl
                have g2 : decide (dj < 0) = false := by simpa using hj
                have hv := HX.out (by omega) (by omega)
                have hb255 := h.toNat_lt
                have h1 : 0 ≤ 16 * di + dj := by omega
                have h2 : 16 * di + dj ≤ 255 := by omega
                have HV := Lib.hid hv
                clear hv hb255
                cases hp : plainB h
                · have HP := Lib.hid hp
                  clear hp
                  go_wp2_with (go_at_call 51; ((refine plain_int _ h _ (by have := HV.out; omega) ?_); rw [HP.out]))
                  go_step3
                  refine ⟨rfl, HJ.out _ _ ?_⟩
                  go_wp2
                  refine rcast (H.out _ kr4) ?_
                  rw [HB1.out (by rw [HBad.out, g1, g2, HP.out]; rfl)]; rfl
                · have HP := Lib.hid hp
                  clear hp
                  have HD3 : Hid (dec (t.drop 1) = (dec (t.drop (k + 3))).map ((out ++ [h]) ++ ·)) := by
                    refine Lib.hid ?_
                    rw [HD2.out, if_neg (by rw [HBad.out, g1, g2, HP.out]; decide)]
                    cases dec (t.drop (k + 3)) <;> simp
                  go_wp2_with (first | (go_at_call 51; ((refine plain_int _ h _ (by have := HV.out; omega) ?_); rw [HP.out])) | (at_builtin; refine wpList_app _ rfl (.tmp 68) (.tmp 74) _ rfl elt_u8 A out.length c _ rfl (ho4.alloc _) [] (some ⟨w4.heap.size, 0, none⟩) 1 1 (bts [h]) rfl (Rd.of_bk ((Bk.newAt rfl _ _).cast (by have := HV.out; simp [bts]; omega)) (by simp)) rfl (bts_one _) (by omega) ?_; intro A2 c2 w2 ho2 hk2 hA2))
                  exact ⟨⟨k + 3, out ++ [h], A2, c2, by omega, by omega, by go_num, by simp, by simp; omega, HD3, (kr4.alloc _).thn hk2 (fun s hs => .inr (hA s hs)), ho2.cast (by simp) (bts_append _ _).symm, bks_app hA2 hA (by have := kr4.size; simp; omega)⟩, by simp [intOf]; omega⟩
              · have HN : Hid (dec (t.drop 1) = none) := by
                  refine Lib.hid ?_
                  rw [hd.out, hdr, dec_short H37.out (by rw [List.length_drop]; omega)]
                  rfl
                clear hdr hd
                go_wp2
                go_step3
                refine ⟨rfl, HJ.out _ _ ?_⟩
                go_wp2
                refine rcast (H.out _ kr) ?_
                rw [HO.out, HN.out]; rfl
            · have b37 : ((x.toNat : Int) != 37) = true := by simp; omega
              have HD : Hid (dec (t.drop 1) = (dec (t.drop (k + 1))).map ((out ++ [x]) ++ ·)) := by
                refine Lib.hid ?_
                rw [hd.out, hdr, dec_ne _ h37]
                cases dec (t.drop (k + 1)) <;> simp
              clear h37 hdr hd
              go_wp2_with (at_builtin; refine wpList_app _ rfl (.tmp 32) (.tmp 36) _ rfl elt_u8 A out.length c _ rfl (ho.alloc _) [] (some ⟨wr.heap.size, 0, none⟩) 1 1 (bts [x]) rfl (Rd.of_bk (Bk.newAt rfl _ _) (by simp)) rfl (bts_one _) (by omega) ?_; intro A2 c2 w2 ho2 hk2 hA2)
              exact ⟨⟨k + 1, out ++ [x], A2, c2, by omega, by omega, by go_num, by simp, by simp; omega, HD, (kr.alloc _).thn hk2 (fun s hs => .inr (hA s hs)), ho2.cast (by simp) (bts_append _ _).symm, bks_app hA2 hA (by have := kr.size; simp; omega)⟩, by simp [intOf]; omega⟩
          · have hdn : dec (t.drop 1) = some out := by
              rw [hd.out, List.drop_eq_nil_of_le (by omega)]; simp [dec]
            have HD := Lib.hid hdn
            have hcv := conv_bS (c := c) (ho.rd (N := []) (by simp)) rfl
            have mr := hm.kp kr
            clear hd hdn
            cases hn : nameB out
            · have HN := Lib.hid hn
              clear hn
              go_wp2_with (go_at_call 17; (with_reducible refine name_any out _ mr ?_); intro w5 k5; rw [HN.out])
              go_step3
              refine ⟨rfl, HJ.out _ _ ?_⟩
              go_wp2
              refine rcast (H.out _ (kr.trans k5)) ?_
              rw [HO.out, HD.out]
              simp only [HN.out]
              rfl
            · have HN := Lib.hid hn
              clear hn
              go_wp2_with (go_at_call 17; (with_reducible refine name_any out _ mr ?_); intro w5 k5; have hcv5 := conv_bS (c := c) ((ho.kp k5 (by simp)).rd (N := []) (by simp)) rfl; rw [HN.out])
              refine rcast (H.out _ (kr.trans k5)) ?_
              rw [HO.out, HD.out]
              simp only [HN.out]
              rfl
  · go_enter Tryd.func15, Tryd.ntmps15
    go_wp2
    refine wp_scope_fwd 0 (by rfl) ?_
    intro J HJ
    go_wp2
    refine rcast (H.out w (Kp.refl _ _)) ?_
    unfold ofL; rw [if_pos (by omega)]; rfl
end Go.Proofs.YthppknpeagjcpaaDoor
