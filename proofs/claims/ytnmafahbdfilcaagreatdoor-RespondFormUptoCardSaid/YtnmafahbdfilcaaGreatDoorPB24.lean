/- The walks of package path's small functions. path.Name. path.Target, path.Kind. path.Of. serve: a talk in memory; New, Feed, next. serve: next, Ask. -/
import Derived.Test.YtnmafahbdfilcaaGreatDoorPB1
import Derived.Test.YtnmafahbdfilcaaGreatDoorPB2
import Derived.Test.YtnmafahbdfilcaaGreatDoorPB10
import Derived.IntWalk
import Derived.Test.YtnmafahbdfilcaaGreatDoorPB13
import Derived.Test.YtnmafahbdfilcaaGreatDoorPB7
namespace Go.Proofs.YtnmafahbdfilcaaGreatDoor
/-! ### The walks of package path's small functions. -/
section
open Go.RowKit
set_option linter.unusedVariables false

/-- May a byte stand in a segment? -/
def plainB (c : UInt8) : Bool := (decide (97 ≤ c.toNat) && decide (c.toNat ≤ 122)) || (decide (65 ≤ c.toNat) && decide (c.toNat ≤ 90)) || (decide (48 ≤ c.toNat) && decide (c.toNat ≤ 57)) || decide (c.toNat = 46) || decide (c.toNat = 45) || decide (c.toNat = 95)
def segB (l : List UInt8) : Bool := !(l == []) && !(l == [46]) && !(l == [46, 46]) && l.all plainB
/-- A digit of base 16. -/
def digI (c : UInt8) : Int :=
  if 48 ≤ c.toNat ∧ c.toNat ≤ 57 then c.toNat - 48 else if 97 ≤ c.toNat ∧ c.toNat ≤ 102 then c.toNat - 87 else if 65 ≤ c.toNat ∧ c.toNat ≤ 70 then c.toNat - 55 else -1

set_option maxHeartbeats 400000 in
theorem plain_any {R : Ending → World → Prop} (c : UInt8) (w : World) (h : R (.returned (.bool (plainB c))) w) : Calls Tryz.prog 86 #[.int .u8 c.toNat] w R := by
  go_enter Tryz.func86, Tryz.ntmps86
  go_wp2
  all_goals (refine rcast h (congrArg Value.bool ?_); rw [Bool.eq_iff_iff]; simp [plainB] <;> omega)

set_option maxHeartbeats 400000 in
theorem digit_any {R : Ending → World → Prop} (c : UInt8) (w : World) (h : R (.returned (.int .i64 (digI c))) w) : Calls Tryz.prog 85 #[.int .u8 c.toNat] w R := by
  have hc := c.toNat_lt
  go_enter Tryz.func85, Tryz.ntmps85
  go_wp2
  all_goals (refine ricast h ?_; unfold digI; (repeat' split) <;> omega)
theorem all_snoc (l : List UInt8) (p : UInt8 → Bool) (k : Nat) (h : k < l.length) : (l.take (k + 1)).all p = ((l.take k).all p && p l[k]) := by
  rw [List.take_succ_eq_append_getElem h, List.all_append]; simp
theorem all_stop {l : List UInt8} {p : UInt8 → Bool} {k : Nat} {h : k < l.length} (hn : p l[k] = false) : l.all p = false := by
  rw [List.all_eq_false]; exact ⟨_, List.getElem_mem h, by simp [hn]⟩
set_option maxHeartbeats 800000 in
theorem seg_any {R : Ending → World → Prop} (l : List UInt8) (w : World) (h0 : l.length ≤ 2000000) (h : R (.returned (.bool (segB l))) w) : Calls Tryz.prog 124 #[.string (S l)] w R := by
  have H := Lib.hid h
  clear h
  by_cases e1 : l = []
  · subst e1
    go_enter Tryz.func124, Tryz.ntmps124
    go_wp2
    exact H.out
  by_cases e2 : l = [46]
  · subst e2
    go_enter Tryz.func124, Tryz.ntmps124
    go_wp2
    exact H.out
  by_cases e3 : l = [46, 46]
  · subst e3
    go_enter Tryz.func124, Tryz.ntmps124
    go_wp2
    exact H.out
  have b1 : l.isEmpty = false := by simpa using e1
  have b2 : (l == [46]) = false := by simpa using e2
  have b3 : (l == [46, 46]) = false := by simpa using e3
  have E1 := Lib.hid e1
  clear e1 e2 e3
  go_enter Tryz.func124, Tryz.ntmps124
  go_wp2
  have G2 := Lib.hid b2
  have G3 := Lib.hid b3
  clear b1 b2 b3
  go_loop [16] (fun k => ∃ n : Nat, n ≤ l.length ∧ k = .int .i64 n ∧ (l.take n).all plainB = true) (fun k => l.length - (intOf k).toNat)
  case atStart => exact ⟨0, Nat.zero_le _, rfl, by simp⟩
  case round =>
    obtain ⟨n, hn, rfl, ha⟩ := hrel
    have HA := Lib.hid ha
    clear ha
    by_cases hlt : n < l.length
    · cases hp : plainB l[n]
      · have HP := Lib.hid hp
        clear hp
        go_wp2_with (go_at_call 86; refine plain_any _ _ ?_; rw [HP.out])
        refine rcast H.out (congrArg Value.bool ?_)
        rw [segB, all_stop HP.out, Bool.and_false]
      · have HP := Lib.hid hp
        clear hp
        go_wp2_with (go_at_call 86; refine plain_any _ _ ?_; rw [HP.out])
        go_round
        case rel => exact ⟨n + 1, by omega, by go_num, by rw [all_snoc l _ n hlt, HA.out, HP.out]; rfl⟩
        case measure => simp [intOf]; omega
    · go_wp2
      refine rcast H.out (congrArg Value.bool ?_)
      have e : n = l.length := by omega
      subst e
      have := HA.out
      rw [List.take_length] at this
      rw [segB, G2.out, G3.out, this]
      have := E1.out
      simp [this]
end
/-! ### path.Name. -/
section
open Go.RowKit
set_option linter.unusedVariables false

def nameB (l : List UInt8) : Bool := decide (l.length ≤ 24) && (spl 47 l).all segB
theorem strs_at {ps : List (List UInt8)} {n : Nat} {p : List UInt8} (h : ps[n]? = some p) : (strs ps)[n]? = some (.string (S p)) := by simp [strs, h]
theorem allof_snoc {α : Type} (l : List α) (p : α → Bool) (k : Nat) {x : α} (h : l[k]? = some x) : (l.take (k + 1)).all p = ((l.take k).all p && p x) := by
  obtain ⟨hk, hx⟩ := List.getElem?_eq_some_iff.1 h
  rw [List.take_succ_eq_append_getElem hk, List.all_append, hx]; simp
theorem allof_stop {α : Type} {l : List α} {p : α → Bool} {x : α} {k : Nat} (h : l[k]? = some x) (hn : p x = false) : l.all p = false := by
  rw [List.all_eq_false]; exact ⟨x, List.mem_of_getElem? h, by simp [hn]⟩
set_option maxHeartbeats 800000 in
theorem name_any {R : Ending → World → Prop} (l : List UInt8) (w : World) (hm : Ml w) (h : ∀ w', Kp [] w w' → R (.returned (.bool (nameB l))) w') : Calls Tryz.prog 87 #[.string (S l)] w R := by
  have H := Lib.hid h
  clear h
  by_cases hl : l.length ≤ 24
  · go_enter Tryz.func87, Tryz.ntmps87
    go_wp2_with (go_at_call 120; refine split_any l 47 hm (by omega) ?_; intro g w1 hg hb hk)
    have HK := Lib.hid hk
    clear hk
    have hml := spl_mem_len 47 l
    have HM := Lib.hid hml
    clear hml
    have hnn : (spl 47 l).length ≤ l.length + 1 := by rw [spl_len]; have := List.count_le_length (a := (47 : UInt8)) (l := l); omega
    have HN : nameB l = (spl 47 l).all segB := by unfold nameB; rw [decide_eq_true hl, Bool.true_and]
    have HN := Lib.hid HN
    generalize spl 47 l = ps at *
    go_loop [11] (fun k => ∃ n : Nat, n ≤ ps.length ∧ k = .int .i64 n ∧ (ps.take n).all segB = true) (fun k => ps.length - (intOf k).toNat)
    case atStart => exact ⟨0, Nat.zero_le _, rfl, by simp⟩
    case round =>
      obtain ⟨n, hn, rfl, ha⟩ := hrel
      have HA := Lib.hid ha
      clear ha
      by_cases hlt : n < ps.length
      · obtain ⟨p, hp⟩ : ∃ p, ps[n]? = some p := ⟨_, List.getElem?_eq_getElem hlt⟩
        have HP := Lib.hid hp
        have hc : w1.cell? ⟨g, n, none⟩ = some (.string (S p)) := by rw [hb.cell, strs_at hp]
        have hpl := HM.out p (List.mem_of_getElem? hp)
        clear hp
        cases hs : segB p
        · have HS := Lib.hid hs
          clear hs
          go_wp2_with (go_at_call 124; refine seg_any _ _ (by omega) ?_; rw [HS.out])
          refine rcast (H.out w1 HK.out) (congrArg Value.bool ?_)
          rw [HN.out, allof_stop HP.out HS.out]
        · have HS := Lib.hid hs
          clear hs
          go_wp2_with (go_at_call 124; refine seg_any _ _ (by omega) ?_; rw [HS.out])
          go_round
          case rel => exact ⟨n + 1, by omega, by go_num, by rw [allof_snoc ps _ n HP.out, HA.out, HS.out]; rfl⟩
          case measure => simp [intOf]; omega
      · go_wp2
        refine rcast (H.out w1 HK.out) (congrArg Value.bool ?_)
        have e : n = ps.length := by omega
        subst e
        have := HA.out
        rw [List.take_length] at this
        rw [HN.out, this]
  · go_enter Tryz.func87, Tryz.ntmps87
    go_wp2
    refine rcast (H.out w (Kp.refl _ _)) (congrArg Value.bool ?_)
    unfold nameB; rw [decide_eq_false hl, Bool.false_and]
end
/-! ### path.Target, path.Kind. -/
section
open Go.RowKit
set_option linter.unusedVariables false
set_option maxRecDepth 100000

theorem last_j (l : List UInt8) (c : UInt8) : ∃ j : Nat, Lib.lastIndex l [c] = (j : Int) - 1 ∧ j ≤ l.length ∧ l.drop j = lst c l := by
  have h := last_lst l c
  rcases last_cases l c with ⟨e, _⟩ | ⟨i, e, hi, _⟩
  · exact ⟨0, by rw [e]; rfl, Nat.zero_le _, by rw [← h, e]; rfl⟩
  · exact ⟨i + 1, by rw [e]; omega, hi, by rw [← h, e]; rfl⟩
def octS : List UInt8 := [97, 112, 112, 108, 105, 99, 97, 116, 105, 111, 110, 47, 111, 99, 116, 101, 116, 45, 115, 116, 114, 101, 97, 109]
def extK (x : List UInt8) : List UInt8 :=
  if x = [104, 116, 109, 108] then [116, 101, 120, 116, 47, 104, 116, 109, 108] else if x = [99, 115, 115] then [116, 101, 120, 116, 47, 99, 115, 115] else if x = [116, 120, 116] then [116, 101, 120, 116, 47, 112, 108, 97, 105, 110] else if x = [106, 115] then [116, 101, 120, 116, 47, 106, 97, 118, 97, 115, 99, 114, 105, 112, 116] else if x = [112, 110, 103] then [105, 109, 97, 103, 101, 47, 112, 110, 103] else if x = [106, 115, 111, 110] then [97, 112, 112, 108, 105, 99, 97, 116, 105, 111, 110, 47, 106, 115, 111, 110] else octS
def kindL (l : List UInt8) : List UInt8 := if (lst 47 l).contains 46 then extK (lst 46 (lst 47 l)) else octS
theorem cat_lit (a b : List UInt8) : (⟨a.toArray⟩ : ByteArray) ++ S b = S (a ++ b) := S_append a b
theorem lst_len (c : UInt8) (l : List UInt8) : (lst c l).length ≤ l.length := by
  obtain ⟨j, _, _, h⟩ := last_j l c
  rw [← h, List.length_drop]; omega
end
/-! ### path.Of. -/
section
open Go.RowKit
set_option linter.unusedVariables false
set_option maxRecDepth 100000
def hexB (a b : UInt8) : UInt8 := UInt8.ofNat (16 * (digI a).toNat + (digI b).toNat)
def badB (a b : UInt8) : Bool := decide (digI a < 0) || decide (digI b < 0) || !plainB (hexB a b)
/-- A target's name, its %-forms read. -/
def dec : List UInt8 → Option (List UInt8)
  | [] => some []
  | [c] => if c.toNat = 37 then none else some [c]
  | [c, d] => if c.toNat = 37 then none else (dec [d]).map (c :: ·)
  | c :: a :: b :: r => if c.toNat = 37 then (if badB a b then none else (dec r).map (hexB a b :: ·)) else (dec (a :: b :: r)).map (c :: ·)
theorem dec_ne {c : UInt8} (r : List UInt8) (h : ¬ c.toNat = 37) : dec (c :: r) = (dec r).map (c :: ·) := by
  match r with
  | [] => simp [dec, h]
  | [d] => simp [dec, h]
  | a :: b :: r => simp [dec, h]
theorem dec_short {c : UInt8} {r : List UInt8} (h : c.toNat = 37) (hr : r.length < 2) : dec (c :: r) = none := by
  match r with
  | [] => rw [dec, if_pos h]
  | [d] => rw [dec, if_pos h]
  | a :: b :: r => simp at hr; omega
theorem dec_hex {c a b : UInt8} (r : List UInt8) (h : c.toNat = 37) : dec (c :: a :: b :: r) = if badB a b then none else (dec r).map (hexB a b :: ·) := by rw [dec, if_pos h]
def indexS : List UInt8 := [105, 110, 100, 101, 120, 46, 104, 116, 109, 108]
def ofL (l : List UInt8) : List UInt8 × Int :=
  if 128 < l.length then ([], 2) else if ((bef 63 l).head? == some 47) = false then ([], 70) else if bef 63 l = [47] then (indexS, 0) else
    match dec ((bef 63 l).drop 1) with
    | none => ([], 70)
    | some n => if nameB n then (n, 0) else ([], 70)
def ofV (x : List UInt8 × Int) : Value := .tuple #[.string (S x.1), .int .i64 x.2]
theorem digI_bd (c : UInt8) : -1 ≤ digI c ∧ digI c ≤ 15 := by
  unfold digI; have := c.toNat_lt; (repeat' split) <;> omega
theorem plain_int {R : Ending → World → Prop} (v : Int) (c : UInt8) (w : World) (hv : v = c.toNat) (h : R (.returned (.bool (plainB c))) w) : Calls Tryz.prog 86 #[.int .u8 v] w R := by
  subst hv; exact plain_any c w h
theorem conv_bS {w : World} {N : List Nat} {A : Option Addr} {n c : Nat} {l : List UInt8} (hr : Rd w N A (bts l)) (hl : l.length = n) : (convert 52 9 (.slice A n c)).run Tryz.prog w = .ok (.string (S l)) w := conv_bs hr hl

set_option maxHeartbeats 1000000 in
theorem pof_any {R : Ending → World → Prop} (l : List UInt8) (w : World) (hm : Ml w)
    (h : ∀ w', Kp [] w w' → R (.returned (ofV (ofL l))) w') : Calls Tryz.prog 49 #[.string (S l)] w R := by
  have H := Lib.hid h
  clear h
  by_cases hl : l.length ≤ 128
  · have hb := bef_len 63 l
    cases hs : (bef 63 l).head? == some 47
    · have HS := Lib.hid hs
      clear hs
      go_enter Tryz.func49, Tryz.ntmps49
      go_wp2
      refine wp_scope_fwd 0 (by rfl) ?_
      intro J HJ
      go_wp2_with (first | (go_at_call 68; ((with_reducible refine cut_any l 63 hm (by omega) ?_); intro n)) | (go_at_call 42; ((with_reducible refine pre_any _ 47 ?_); rw [HS.out])))
      go_step3
      refine ⟨rfl, HJ.out _ _ ?_⟩
      go_wp2
      refine rcast (H.out _ ((Kp.refl _ _).drewN _)) ?_
      unfold ofL; rw [if_neg (by omega), if_pos HS.out]; rfl
    · have HS := Lib.hid hs
      clear hs
      by_cases hr0 : bef 63 l = [47]
      · have HR := Lib.hid hr0
        have hres : ofL l = (indexS, 0) := by
          unfold ofL
          rw [if_neg (by omega), if_neg (by rw [HS.out]; decide), if_pos hr0]
        have HO := Lib.hid hres
        clear hr0 hres hb
        go_enter Tryz.func49, Tryz.ntmps49
        go_wp2
        refine wp_scope_fwd 0 (by rfl) ?_
        intro J HJ
        go_wp2_with (first | (go_at_call 68; ((with_reducible refine cut_any l 63 hm (by omega) ?_); intro n; rw [HR.out])) | (go_at_call 42; ((with_reducible refine pre_any _ 47 ?_))))
        refine rcast (H.out _ ((Kp.refl _ _).drewN _)) ?_
        rw [HO.out]; rfl
      · have HO : Hid (ofL l = match dec ((bef 63 l).drop 1) with
          | none => ([], 70)
          | some n => if nameB n then (n, 0) else ([], 70)) := by
          refine Lib.hid ?_
          unfold ofL
          rw [if_neg (by omega), if_neg (by rw [HS.out]; decide), if_neg hr0]
        have b1 : (bef 63 l == [47]) = false := by simpa using hr0
        generalize ofL l = res at *
        obtain ⟨t, ht⟩ : ∃ t, bef 63 l = t := ⟨_, rfl⟩
        rw [ht] at HS HO b1 hb
        have HT := Lib.hid ht
        clear ht hr0
        go_enter Tryz.func49, Tryz.ntmps49
        go_wp2
        refine wp_scope_fwd 0 (by rfl) ?_
        intro J HJ
        go_wp2_with (first | (go_at_call 68; ((with_reducible refine cut_any l 63 hm (by omega) ?_); intro n; rw [HT.out])) | (go_at_call 42; ((with_reducible refine pre_any _ 47 ?_); rw [HS.out])))
        have hm0 := hm.drewN n
        have k0 : Kp [] w (w.drewN n) := (Kp.refl _ _).drewN n
        generalize w.drewN n = w0 at *
        go_loopw [4, 7] (fun nm i wr => ∃ (k : Nat) (out : List UInt8) (A : Option Addr) (c : Nat), 1 ≤ k ∧ k ≤ t.length ∧ i = .int .i64 k ∧ nm = .slice A out.length c ∧ out.length ≤ k ∧ Hid (dec (t.drop 1) = (dec (t.drop k)).map (out ++ ·)) ∧ Kp [] w wr ∧ Ow wr 5 1 A out.length c (bts out) ∧ (∀ b ∈ bks A, w.heap.size ≤ b)) (fun _ i _ => t.length - (intOf i).toNat)
        case atStart => exact ⟨1, [], none, 0, Nat.le_refl _, by
          have := HS.out
          cases t with
          | nil => cases this
          | cons => simp, rfl, rfl, by simp, Lib.hid (by simp), k0, Ow.nil, by simp [bks]⟩
        case round =>
          obtain ⟨k, out, A, c, hk1, hk2, rfl, rfl, hout, hd, kr, ho, hA⟩ := hrel
          by_cases hlt : k < t.length
          · obtain ⟨x, hx⟩ : ∃ x, t[k]'hlt = x := ⟨_, rfl⟩
            have hdr : t.drop k = x :: t.drop (k + 1) := by rw [List.drop_eq_getElem_cons hlt, hx]
            by_cases h37 : x.toNat = 37
            · have b37 : ((x.toNat : Int) != 37) = false := by simp [h37]
              have H37 := Lib.hid h37
              clear h37
              by_cases hlen : k + 2 < t.length
              · obtain ⟨p, hp⟩ : ∃ p, t[k + 1]'(by omega) = p := ⟨_, rfl⟩
                obtain ⟨q, hq⟩ : ∃ q, t[k + 2]'hlen = q := ⟨_, rfl⟩
                have hdr2 : t.drop k = x :: p :: q :: t.drop (k + 3) := by
                  rw [hdr, List.drop_eq_getElem_cons (by omega : k + 1 < t.length), hp, List.drop_eq_getElem_cons hlen, hq]
                have HD2 : Hid (dec (t.drop 1) = if badB p q then none else (dec (t.drop (k + 3))).map (fun y => out ++ hexB p q :: y)) := by
                  refine Lib.hid ?_
                  rw [hd.out, hdr2, dec_hex _ H37.out]
                  split
                  · rfl
                  · cases dec (t.drop (k + 3)) <;> simp
                clear hdr hdr2 hd
                obtain ⟨pa, pb⟩ := digI_bd p
                obtain ⟨qa, qb⟩ := digI_bd q
                have HX : Hid (0 ≤ digI p → 0 ≤ digI q → 16 * digI p + digI q = ((hexB p q).toNat : Int)) := by
                  refine Lib.hid fun h1 h2 => ?_
                  unfold hexB
                  rw [UInt8.toNat_ofNat']
                  omega
                have HBad : Hid (badB p q = (decide (digI p < 0) || decide (digI q < 0) || !plainB (hexB p q))) := Lib.hid rfl
                generalize hexB p q = h at *
                generalize badB p q = bad at *
                go_wp2
                have s1 : IntKind.i64.wrap ((k : Int) + 1) = (k : Int) + 1 := IntWalk.i64_in _ (by omega)
                have s2 : IntKind.i64.wrap ((k : Int) + 2) = (k : Int) + 2 := IntWalk.i64_in _ (by omega)
                have s3 : ((k : Int) + 1).toNat = k + 1 := by omega
                have s4 : ((k : Int) + 2).toNat = k + 2 := by omega
                have s5 : (0 : Int) ≤ (k : Int) + 1 := by omega
                have s6 : (0 : Int) ≤ (k : Int) + 2 := by omega
                have s7 : (k : Int) + 1 < t.length := by omega
                have s8 : (k : Int) + 2 < t.length := by omega
                refine wp_region_kp (by kernel_rfl) (by kernel_rfl) ?_
                repeat (quiet_step (((go_at_call 85; refine digit_any _ _ ?_); exact ⟨rfl, _, rfl⟩)))
                refine wpQuiet_nil ?_
                intro w4 k4
                have kr4 := kr.trans k4
                have ho4 := ho.kp k4 (by simp)
                clear kr ho k4
                generalize digI p = di at *
                generalize digI q = dj at *
                have hbad : bad = true → res = ([], 70) := by
                  intro hb1
                  rw [HO.out, HD2.out, if_pos hb1]
                have HB1 := Lib.hid hbad
                clear hbad
                by_cases hi : di < 0
                · have g1 : decide (di < 0) = true := by simpa using hi
                  go_wp2
                  go_step3
                  refine ⟨rfl, HJ.out _ _ ?_⟩
                  go_wp2
                  refine rcast (H.out _ kr4) ?_
                  rw [HB1.out (by rw [HBad.out, g1]; rfl)]; rfl
                have g1 : decide (di < 0) = false := by simpa using hi
                by_cases hj : dj < 0
                · have g2 : decide (dj < 0) = true := by simpa using hj
                  go_wp2
                  go_step3
                  refine ⟨rfl, HJ.out _ _ ?_⟩
                  go_wp2
                  refine rcast (H.out _ kr4) ?_
                  rw [HB1.out (by rw [HBad.out, g1, g2]; rfl)]; rfl
                have g2 : decide (dj < 0) = false := by simpa using hj
                have hv := HX.out (by omega) (by omega)
                have hb255 := h.toNat_lt
                have h1 : 0 ≤ 16 * di + dj := by omega
                have h2 : 16 * di + dj ≤ 255 := by omega
                have HV := Lib.hid hv
                clear hv hb255
                cases hp : plainB h
                · have HP := Lib.hid hp
                  clear hp
                  go_wp2_with (go_at_call 86; ((refine plain_int _ h _ (by have := HV.out; omega) ?_); rw [HP.out]))
                  go_step3
                  refine ⟨rfl, HJ.out _ _ ?_⟩
                  go_wp2
                  refine rcast (H.out _ kr4) ?_
                  rw [HB1.out (by rw [HBad.out, g1, g2, HP.out]; rfl)]; rfl
                · have HP := Lib.hid hp
                  clear hp
                  have HD3 : Hid (dec (t.drop 1) = (dec (t.drop (k + 3))).map ((out ++ [h]) ++ ·)) := by
                    refine Lib.hid ?_
                    rw [HD2.out, if_neg (by rw [HBad.out, g1, g2, HP.out]; decide)]
                    cases dec (t.drop (k + 3)) <;> simp
                  go_wp2_with (first | (go_at_call 86; ((refine plain_int _ h _ (by have := HV.out; omega) ?_); rw [HP.out])) | (at_builtin; refine wpList_app _ rfl (.tmp 68) (.tmp 74) _ rfl elt_u8 A out.length c _ rfl (ho4.alloc _) [] (some ⟨w4.heap.size, 0, none⟩) 1 1 (bts [h]) rfl (Rd.of_bk ((Bk.newAt rfl _ _).cast (by have := HV.out; simp [bts]; omega)) (by simp)) rfl (bts_one _) (by omega) ?_; intro A2 c2 w2 ho2 hk2 hA2))
                  exact ⟨⟨k + 3, out ++ [h], A2, c2, by omega, by omega, by go_num, by simp, by simp; omega, HD3, (kr4.alloc _).thn hk2 (fun s hs => .inr (hA s hs)), ho2.cast (by simp) (bts_append _ _).symm, bks_app hA2 hA (by have := kr4.size; simp; omega)⟩, by simp [intOf]; omega⟩
              · have HN : Hid (dec (t.drop 1) = none) := by
                  refine Lib.hid ?_
                  rw [hd.out, hdr, dec_short H37.out (by rw [List.length_drop]; omega)]
                  rfl
                clear hdr hd
                go_wp2
                go_step3
                refine ⟨rfl, HJ.out _ _ ?_⟩
                go_wp2
                refine rcast (H.out _ kr) ?_
                rw [HO.out, HN.out]; rfl
            · have b37 : ((x.toNat : Int) != 37) = true := by simp; omega
              have HD : Hid (dec (t.drop 1) = (dec (t.drop (k + 1))).map ((out ++ [x]) ++ ·)) := by
                refine Lib.hid ?_
                rw [hd.out, hdr, dec_ne _ h37]
                cases dec (t.drop (k + 1)) <;> simp
              clear h37 hdr hd
              go_wp2_with (at_builtin; refine wpList_app _ rfl (.tmp 32) (.tmp 36) _ rfl elt_u8 A out.length c _ rfl (ho.alloc _) [] (some ⟨wr.heap.size, 0, none⟩) 1 1 (bts [x]) rfl (Rd.of_bk (Bk.newAt rfl _ _) (by simp)) rfl (bts_one _) (by omega) ?_; intro A2 c2 w2 ho2 hk2 hA2)
              exact ⟨⟨k + 1, out ++ [x], A2, c2, by omega, by omega, by go_num, by simp, by simp; omega, HD, (kr.alloc _).thn hk2 (fun s hs => .inr (hA s hs)), ho2.cast (by simp) (bts_append _ _).symm, bks_app hA2 hA (by have := kr.size; simp; omega)⟩, by simp [intOf]; omega⟩
          · have hdn : dec (t.drop 1) = some out := by
              rw [hd.out, List.drop_eq_nil_of_le (by omega)]; simp [dec]
            have HD := Lib.hid hdn
            have hcv := conv_bS (c := c) (ho.rd (N := []) (by simp)) rfl
            have mr := hm.kp kr
            clear hd hdn
            cases hn : nameB out
            · have HN := Lib.hid hn
              clear hn
              go_wp2_with (go_at_call 87; (with_reducible refine name_any out _ mr ?_); intro w5 k5; rw [HN.out])
              go_step3
              refine ⟨rfl, HJ.out _ _ ?_⟩
              go_wp2
              refine rcast (H.out _ (kr.trans k5)) ?_
              rw [HO.out, HD.out]
              simp only [HN.out]
              rfl
            · have HN := Lib.hid hn
              clear hn
              go_wp2_with (go_at_call 87; (with_reducible refine name_any out _ mr ?_); intro w5 k5; have hcv5 := conv_bS (c := c) ((ho.kp k5 (by simp)).rd (N := []) (by simp)) rfl; rw [HN.out])
              refine rcast (H.out _ (kr.trans k5)) ?_
              rw [HO.out, HD.out]
              simp only [HN.out]
              rfl
  · go_enter Tryz.func49, Tryz.ntmps49
    go_wp2
    refine wp_scope_fwd 0 (by rfl) ?_
    intro J HJ
    go_wp2
    refine rcast (H.out w (Kp.refl _ _)) ?_
    unfold ofL; rw [if_pos (by omega)]; rfl
end
/-! ### serve: a talk in memory; New, Feed, next. -/
section
open Go.RowKit Go.Shelf
set_option linter.unusedVariables false
set_option linter.unusedSimpArgs false
set_option maxRecDepth 100000
/-- An ask in plain words: the name, the status, the request. -/
abbrev AskP := List UInt8 × Int × Req
def askC (a : AskP) (A : Option Addr) (c : Nat) : List Value := [.string (S a.1), .int .i64 a.2.1, .string (S a.2.2.m), .string (S a.2.2.t), .int .i64 a.2.2.minor, .slice A a.2.2.fs.length c, .bool a.2.2.close]
/-- A talk in plain words: the parser's bytes, is it over, the open ask, is the talk over. -/
structure TkS where
  b : List UInt8
  ov : Bool
  op : Option AskP
  over : Bool
/-- The open ask in memory. -/
def OpA (w : World) (N : List Nat) (op : Option AskP) (oa : Option Addr) : Prop :=
  match op with
  | none => oa = none
  | some a => ∃ ag A c, oa = some ⟨ag, 0, none⟩ ∧ ag ∉ N ∧ Bk w ag 54 (askC a A c) ∧ Rd w N A (a.2.2.fs.flatMap fldC) ∧ a.2.2.fs.length ≤ c
theorem OpA.kp {w w' : World} {N S : List Nat} {op : Option AskP} {oa : Option Addr} (h : OpA w N op oa) (k : Kp S w w') (hs : ∀ s ∈ S, s ∈ N) : OpA w' N op oa := by
  unfold OpA at h ⊢
  cases op with
  | none => exact h
  | some a =>
    obtain ⟨ag, A, c, h1, h2, h3, h4, h5⟩ := h
    exact ⟨ag, A, c, h1, h2, h3.kp k (fun hm => h2 (hs _ hm)), h4.kp k (fun s hm => .inl (hs s hm)), h5⟩
/-- The talk in memory: its block, the parser's, the open ask. -/
structure Tk (w : World) (tg pg : Nat) (s : TkS) : Prop where
  ne : tg ≠ pg
  ps : Ps w pg s.b s.ov
  tk : ∃ oa, Bk w tg 85 [.pointer (some ⟨pg, 0, none⟩), .pointer oa, .bool s.over] ∧ OpA w [tg, pg] s.op oa
theorem Tk.kp {w w' : World} {tg pg : Nat} {s : TkS} (h : Tk w tg pg s) (k : Kp [] w w') : Tk w' tg pg s := by
  obtain ⟨oa, h1, h2⟩ := h.tk
  exact ⟨h.ne, Bk.kp h.ps k (by simp), oa, h1.kp k (by simp), h2.kp k (by simp)⟩
section
variable {R : Ending → World → Prop} {w : World} {tg pg : Nat} {s : TkS}
theorem snew_any (h : ∀ tg pg w', w.heap.size ≤ tg → w.heap.size ≤ pg → Tk w' tg pg ⟨[], false, none, false⟩ → Kp [] w w' → R (.returned (.pointer (some ⟨tg, 0, none⟩))) w') : Calls Tryz.prog 19 #[] w R := by
  have H := Lib.hid h
  clear h
  go_enter Tryz.func19, Tryz.ntmps19
  go_wp2_with (go_at_call 32; ((refine new24_any _ ?_); intro pg w1 hg p1 k1))
  exact H.out _ pg _ k1.size hg ⟨by have := Bk.lt p1; omega, Bk.alloc p1 _, none, (Bk.new' _ _ _).cast rfl, rfl⟩ (k1.alloc _)
set_option maxHeartbeats 1000000 in
theorem sfeed_any (ht : Tk w tg pg s) (x : List UInt8) {A : Option Addr} {n c : Nat} (hx : Rd w [] A (bts x)) (hn : x.length = n) (hl : s.b.length + n ≤ 2000000)
    (h : ∀ w', Tk w' tg pg { s with b := if s.over || s.ov then s.b else s.b ++ x } → Kp [tg, pg] w w' → R (.returned (.tuple #[])) w') :
    Calls Tryz.prog 20 #[.pointer (some ⟨tg, 0, none⟩), .slice A n c] w R := by
  have H := Lib.hid h
  obtain ⟨oa, b1, o1⟩ := ht.tk
  obtain ⟨b, ov, op, over⟩ := s
  have c0 : w.cell? ⟨tg, 0, none⟩ = some (.pointer (some ⟨pg, 0, none⟩)) := b1.cell 0
  have c2 : w.cell? ⟨tg, 2, none⟩ = some (.bool over) := b1.cell 2
  have HT := Lib.hid ht
  have HB := Lib.hid b1
  have HO := Lib.hid o1
  have HF : Hid (∀ (R : Ending → World → Prop), (∀ w', Ps w' pg (if ov then b else b ++ x) ov → Kp [pg] w w' → R (.returned (.tuple #[])) w') → Calls Tryz.prog 33 #[.pointer (some ⟨pg, 0, none⟩), .slice A n c] w R) := Lib.hid (fun R h => feed_any ht.ps x hx hn hl h)
  clear h ht b1 o1
  cases over with
  | true =>
    go_enter Tryz.func20, Tryz.ntmps20
    go_wp2
    go_end0
    exact H.out w HT.out (Kp.refl _ _)
  | false =>
    go_enter Tryz.func20, Tryz.ntmps20
    go_wp2_with (go_at_call 33; ((refine HF.out _ ?_); intro w1 p1 k1))
    go_end0
    exact H.out w1 ⟨HT.out.ne, p1, oa, HB.out.kp k1 (by have := HT.out.ne; simp; omega), HO.out.kp k1 (by simp)⟩ (k1.mono (by simp))
theorem sfeed_nil {A : Option Addr} {n c : Nat} (h : R (.returned (.tuple #[])) w) : Calls Tryz.prog 20 #[.pointer none, .slice A n c] w R := by
  have H := Lib.hid h
  clear h
  go_enter Tryz.func20, Tryz.ntmps20
  go_wp2
  go_end0
  exact H.out
/-- What the parser tells next, over or not. -/
def nxt (b : List UInt8) (ov : Bool) : Req × Int × List UInt8 × Bool := if ov then (noReq, -1, b, true) else nextF b
theorem nxt_any (hm : Ml w) {b : List UInt8} {ov : Bool} (hp : Ps w pg b ov) (hl : b.length ≤ 10000) (h : NextK R w pg (nxt b ov)) : Calls Tryz.prog 40 #[.pointer (some ⟨pg, 0, none⟩)] w R := by
  cases ov with
  | true => exact next_over hp h
  | false => exact next_any hm hp hl h
end
end
/-! ### serve: next, Ask. -/
section
open Go.RowKit Go.Shelf
set_option linter.unusedVariables false
set_option linter.unusedSimpArgs false
set_option maxRecDepth 100000
theorem ofL_nm {l : List UInt8} (h : (ofL l).2 ≠ 0) : (ofL l).1 = [] := by
  unfold ofL at h ⊢
  split
  · rfl
  · rename_i h1
    rw [if_neg h1] at h
    split
    · rfl
    · rename_i h2
      rw [if_neg h2] at h
      split
      · rename_i h3; rw [if_pos h3] at h; exact absurd rfl h
      · rename_i h3
        rw [if_neg h3] at h
        cases hd : dec ((bef 63 l).drop 1) with
        | none => rfl
        | some n =>
          rw [hd] at h
          simp only at h ⊢
          split
          · rename_i h4; rw [if_pos h4] at h; exact absurd rfl h
          · rfl
/-- What is asked next. -/
def nxtOp (b : List UInt8) (ov : Bool) : Option AskP := if (nxt b ov).2.1 < 0 then none else some (if (nxt b ov).2.1 = 0 then (ofL (nxt b ov).1.t).1 else [], (nxt b ov).2.1, (nxt b ov).1)
theorem bk7r {w : World} {g tt : Nat} {a b c d e f k : Value} (h : Bk w g tt [a, b, c, d, e, f, k]) : (w.cell? ⟨g, 0, none⟩ = some a ∧ w.cell? ⟨g, 1, none⟩ = some b ∧ w.cell? ⟨g, 2, none⟩ = some c ∧ w.cell? ⟨g, 3, none⟩ = some d ∧ w.cell? ⟨g, 4, none⟩ = some e ∧ w.cell? ⟨g, 5, none⟩ = some f ∧ w.cell? ⟨g, 6, none⟩ = some k) ∧ (w.frozen? ⟨g, 0, none⟩ = false ∧ w.frozen? ⟨g, 1, none⟩ = false ∧ w.frozen? ⟨g, 2, none⟩ = false ∧ w.frozen? ⟨g, 3, none⟩ = false ∧ w.frozen? ⟨g, 4, none⟩ = false ∧ w.frozen? ⟨g, 5, none⟩ = false ∧ w.frozen? ⟨g, 6, none⟩ = false) :=
  ⟨⟨h.cell 0, h.cell 1, h.cell 2, h.cell 3, h.cell 4, h.cell 5, h.cell 6⟩, h.frozen 0, h.frozen 1, h.frozen 2, h.frozen 3, h.frozen 4, h.frozen 5, h.frozen 6⟩
theorem Rd.wide {w : World} {N N' : List Nat} {A : Option Addr} {xs : List Value} (h : Rd w N A xs) (hn : ∀ x ∈ N', x ∈ N ∨ w.heap.size ≤ x) : Rd w N' A xs := fun hx => by
  obtain ⟨b, off, rfl, hN, hb, rest⟩ := h hx
  exact ⟨b, off, rfl, fun hm => (hn b hm).elim hN (fun e => by omega), hb, rest⟩
section
variable {R : Ending → World → Prop} {w : World} {tg pg : Nat} {s : TkS}
set_option maxHeartbeats 4000000 in
theorem snext_any {w0 : World} (k0 : Kp [] w0 w) (hpg : w0.heap.size ≤ pg) (hm : Ml w0) {oa : Option Addr} {b : List UInt8} {ov over : Bool} (hb : Bk w tg 85 [.pointer (some ⟨pg, 0, none⟩), .pointer oa, .bool over]) (hp : Ps w pg b ov) (hl : b.length ≤ 10000) (N : List Nat) (hN : ∀ x ∈ N, x < w.heap.size)
    (h : ∀ oa' w', Ps w' pg (nxt b ov).2.2.1 (nxt b ov).2.2.2 → OpA w' N (nxtOp b ov) oa' → Kp [pg] w w' → R (.returned (.pointer oa')) w') : Calls Tryz.prog 34 #[.pointer (some ⟨tg, 0, none⟩)] w R := by
  have H := Lib.hid h
  have c0 : w.cell? ⟨tg, 0, none⟩ = some (.pointer (some ⟨pg, 0, none⟩)) := hb.cell 0
  have HLT : Hid (tg < w.heap.size ∧ pg < w.heap.size) := Lib.hid ⟨hb.lt, Bk.lt hp⟩
  have HN : Hid (∀ (R : Ending → World → Prop), NextK R w pg (nxt b ov) → Calls Tryz.prog 40 #[.pointer (some ⟨pg, 0, none⟩)] w R) := Lib.hid (fun R h => nxt_any (hm.kp k0) hp hl h)
  have HNN := Lib.hid hN
  unfold nxtOp at H
  obtain ⟨r, st, rest, ov', hq⟩ : ∃ r st rest ov', nxt b ov = (r, st, rest, ov') := ⟨_, _, _, _, rfl⟩
  rw [hq] at H HN
  simp only [NextK, reqV] at H HN
  clear h hb hp hl hq hN
  rcases (by omega : st < 0 ∨ st = 0 ∨ 0 < st) with h1 | h1 | h1
  · have g1 : decide (st < 0) = true := by simp; omega
    rw [if_pos h1] at H
    clear h1
    go_enter Tryz.func34, Tryz.ntmps34
    go_wp2_with (go_at_call 40; ((refine HN.out _ ?_); intro A c w1 p1 k1 r1 f1 n1))
    exact H.out none _ (Bk.alloc p1 _) rfl (k1.alloc _)
  · subst h1
    rw [if_neg (by omega), if_pos rfl] at H
    have HNM := Lib.hid (ofL_nm (l := r.t))
    have HP : Hid (∀ (R : Ending → World → Prop) (w1 : World), Ml w1 → (∀ w', Kp [] w1 w' → R (.returned (.tuple #[.string (S (ofL r.t).1), .int .i64 (ofL r.t).2])) w') → Calls Tryz.prog 49 #[.string (S r.t)] w1 R) := Lib.hid (fun R w1 h1 h => pof_any r.t w1 h1 h)
    obtain ⟨nm, e, hof⟩ : ∃ nm e, ofL r.t = (nm, e) := ⟨_, _, rfl⟩
    rw [hof] at H HNM HP
    simp only at H HNM HP
    clear hof
    go_enter Tryz.func34, Tryz.ntmps34
    go_upto_region 5 with (go_at_call 40; ((refine HN.out _ ?_); intro A c w1 p1 k1 r1 f1 n1))
    refine gen_worldC (fun W => ∃ g1 ag, w1.heap.size = g1 ∧ g1 + 1 = ag ∧ Hid (Kp [pg] w W ∧ Ps W pg rest ov' ∧ Bk W g1 35 [.string (S r.m), .string (S r.t), .int .i64 r.minor, .slice A r.fs.length c, .bool r.close] ∧ Bk W ag 54 (askC ([], 0, r) A c) ∧ Rd W (ag :: N) A (r.fs.flatMap fldC) ∧ w.heap.size ≤ g1)) ⟨_, _, rfl, rfl, Lib.hid ⟨(k1.alloc _).alloc _, Bk.alloc (Bk.alloc p1 _) _, ((Bk.new' _ _ _).alloc _).cast rfl, (Bk.newAt (by simp) _ _).cast rfl, ((((r1.off f1 (N' := N) HNN.out).wide (N' := (w1.heap.size + 1) :: N) (by intro x hx; simp at hx; rcases hx with rfl | hx; exact .inr (by omega); exact .inl hx)).kp (S := []) ((Kp.refl _ _).alloc _) (by simp)).kp (S := []) ((Kp.refl _ _).alloc _) (by simp)), k1.size⟩⟩ ?_
    rintro W ⟨g1, ag, hg1, hag, hW⟩
    rw [hg1, hag]
    have HAG : Hid (tg < ag ∧ pg < ag ∧ g1 < ag ∧ w.heap.size ≤ ag) := Lib.hid (by have := HLT.out; have := hW.out.2.2.2.2.2; omega)
    have NC := Lib.hid n1
    clear hg1 hag p1 k1 r1 f1 n1
    have q1 : W.cell? ⟨g1, 1, none⟩ = some (.string (S r.t)) := hW.out.2.2.1.cell 1
    by_cases he : e = 0
    · subst he
      go_upto_region 8 with (go_at_call 49; ((refine HP.out _ _ (hm.kp (k0.thn hW.out.1 (fun s hs => .inr (by simp at hs; omega)))) ?_); intro w2 k2; have a0 := (hW.out.2.2.2.1.kp k2 (by simp)).frozen 0; have a1 : w2.cell? ⟨ag, 0, none⟩ = some (.string (S [])) := (hW.out.2.2.2.1.kp k2 (by simp)).cell 0))
      go_wp2
      have ks : Kp [ag] w2 (w2.setCell ⟨ag, 0, none⟩ (.string (S nm))) := (Kp.refl _ _).setCell (.inl (by simp)) _
      have hne := HAG.out
      refine H.out (some ⟨ag, 0, none⟩) _ (Bk.kp (Bk.kp hW.out.2.1 k2 (by simp)) ks (by simp; omega)) ?_ ((hW.out.1.trans (k2.mono (by simp))).thn ks (fun s hs => .inr (by simp at hs; omega)))
      refine ⟨ag, A, c, rfl, fun hm => by have := HNN.out _ hm; omega, ((hW.out.2.2.2.1.kp k2 (by simp)).set_ 0 _).cast rfl, ?_, NC.out⟩
      exact ((hW.out.2.2.2.2.1.kp k2 (by simp)).kp ks (by simp)).sub (fun x hx => List.mem_cons_of_mem _ hx)
    · have hz : (e == 0) = false := by simpa using he
      have HE : Hid (nm = []) := Lib.hid (HNM.out he)
      clear he
      go_wp2_with (go_at_call 49; ((refine HP.out _ _ (hm.kp (k0.thn hW.out.1 (fun s hs => .inr (by simp at hs; omega)))) ?_); intro w2 k2))
      have hne := HAG.out
      refine H.out (some ⟨ag, 0, none⟩) _ (Bk.kp hW.out.2.1 k2 (by simp)) ?_ (hW.out.1.trans (k2.mono (by simp)))
      exact ⟨ag, A, c, rfl, fun hm => by have := HNN.out _ hm; omega, (hW.out.2.2.2.1.kp k2 (by simp)).cast (by rw [HE.out]), (hW.out.2.2.2.2.1.kp k2 (by simp)).sub (fun x hx => List.mem_cons_of_mem _ hx), NC.out⟩
  · have g1 : decide (st < 0) = false := by simp; omega
    have g2 : (st == 0) = false := by simp; omega
    rw [if_neg (by omega), if_neg (by omega)] at H
    clear h1
    go_enter Tryz.func34, Tryz.ntmps34
    go_wp2_with (go_at_call 40; ((refine HN.out _ ?_); intro A c w1 p1 k1 r1 f1 n1))
    have hlt := HLT.out
    have hsz := k1.size
    refine H.out _ _ (Bk.alloc (Bk.alloc p1 _) _) ?_ ((k1.alloc _).alloc _)
    refine ⟨_, A, c, rfl, ?_, (Bk.newAt (by simp) _ _).cast rfl, ((r1.off f1 (N' := N) HNN.out).kp (S := []) ((Kp.refl _ _).alloc _) (by simp)).kp (S := []) ((Kp.refl _ _).alloc _) (by simp), n1⟩
    intro hm
    have h9 := HNN.out _ hm
    omega
end
end
end Go.Proofs.YtnmafahbdfilcaaGreatDoor
