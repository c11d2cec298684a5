/- path.Of. serve: a talk in memory; New, Feed, next. serve: next, Ask. serve: Ask, ends, Done, Over. serve: ends, Done, Over. serve: Plan. -/
import Derived.Test.YtnmafahbdfilcaaGreatDoorPC26
import Derived.Test.YtnmafahbdfilcaaGreatDoorPC15
import Derived.Test.YtnmafahbdfilcaaGreatDoorPC2
import Derived.Test.YtnmafahbdfilcaaGreatDoorPC1
import Derived.IntWalk
import Derived.Test.YtnmafahbdfilcaaGreatDoorPC18
import Derived.Test.YtnmafahbdfilcaaGreatDoorPC9
import Derived.Test.YtnmafahbdfilcaaGreatDoorPC19
import Derived.Deep.CutBlock
import Derived.Deep.DeepCutAuto
import Derived.Test.YtnmafahbdfilcaaGreatDoorPC24
namespace Go.Proofs.YtnmafahbdfilcaaGreatDoor
/-! ### path.Of. -/
section
open Go.RowKit
set_option linter.unusedVariables false
set_option maxRecDepth 100000
def hexB (a b : UInt8) : UInt8 := UInt8.ofNat (16 * (digI a).toNat + (digI b).toNat)
def badB (a b : UInt8) : Bool := decide (digI a < 0) || decide (digI b < 0) || !plainB (hexB a b)
/-- A target's name, its %-forms read. -/
def dec : List UInt8 → Option (List UInt8)
  | [] => some []
  | [c] => if c.toNat = 37 then none else some [c]
  | [c, d] => if c.toNat = 37 then none else (dec [d]).map (c :: ·)
  | c :: a :: b :: r => if c.toNat = 37 then (if badB a b then none else (dec r).map (hexB a b :: ·)) else (dec (a :: b :: r)).map (c :: ·)
theorem dec_ne {c : UInt8} (r : List UInt8) (h : ¬ c.toNat = 37) : dec (c :: r) = (dec r).map (c :: ·) := by
  match r with
  | [] => simp [dec, h]
  | [d] => simp [dec, h]
  | a :: b :: r => simp [dec, h]
theorem dec_short {c : UInt8} {r : List UInt8} (h : c.toNat = 37) (hr : r.length < 2) : dec (c :: r) = none := by
  match r with
  | [] => rw [dec, if_pos h]
  | [d] => rw [dec, if_pos h]
  | a :: b :: r => simp at hr; omega
theorem dec_hex {c a b : UInt8} (r : List UInt8) (h : c.toNat = 37) : dec (c :: a :: b :: r) = if badB a b then none else (dec r).map (hexB a b :: ·) := by rw [dec, if_pos h]
def indexS : List UInt8 := [105, 110, 100, 101, 120, 46, 104, 116, 109, 108]
def ofL (l : List UInt8) : List UInt8 × Int :=
  if 128 < l.length then ([], 2) else if ((bef 63 l).head? == some 47) = false then ([], 70) else if bef 63 l = [47] then (indexS, 0) else
    match dec ((bef 63 l).drop 1) with
    | none => ([], 70)
    | some n => if nameB n then (n, 0) else ([], 70)
def ofV (x : List UInt8 × Int) : Value := .tuple #[.string (S x.1), .int .i64 x.2]
theorem digI_bd (c : UInt8) : -1 ≤ digI c ∧ digI c ≤ 15 := by
  unfold digI; have := c.toNat_lt; (repeat' split) <;> omega
theorem plain_int {R : Ending → World → Prop} (v : Int) (c : UInt8) (w : World) (hv : v = c.toNat) (h : R (.returned (.bool (plainB c))) w) : Calls Tryz.prog 86 #[.int .u8 v] w R := by
  subst hv; exact plain_any c w h
theorem conv_bS {w : World} {N : List Nat} {A : Option Addr} {n c : Nat} {l : List UInt8} (hr : Rd w N A (bts l)) (hl : l.length = n) : (convert 52 9 (.slice A n c)).run Tryz.prog w = .ok (.string (S l)) w := conv_bs hr hl

set_option maxHeartbeats 1000000 in
theorem pof_any {R : Ending → World → Prop} (l : List UInt8) (w : World) (hm : Ml w)
    (h : ∀ w', Kp [] w w' → R (.returned (ofV (ofL l))) w') : Calls Tryz.prog 49 #[.string (S l)] w R := by
  have H := Lib.hid h
  clear h
  by_cases hl : l.length ≤ 128
  · have hb := bef_len 63 l
    cases hs : (bef 63 l).head? == some 47
    · have HS := Lib.hid hs
      clear hs
      go_enter Tryz.func49, Tryz.ntmps49
      go_wp2
      refine wp_scope_fwd 0 (by rfl) ?_
      intro J HJ
      go_wp2_with (first | (go_at_call 68; ((with_reducible refine cut_any l 63 hm (by omega) ?_); intro n)) | (go_at_call 42; ((with_reducible refine pre_any _ 47 ?_); rw [HS.out])))
      go_step3
      refine ⟨rfl, HJ.out _ _ ?_⟩
      go_wp2
      refine rcast (H.out _ ((Kp.refl _ _).drewN _)) ?_
      unfold ofL; rw [if_neg (by omega), if_pos HS.out]; rfl
    · have HS := Lib.hid hs
      clear hs
      by_cases hr0 : bef 63 l = [47]
      · have HR := Lib.hid hr0
        have hres : ofL l = (indexS, 0) := by
          unfold ofL
          rw [if_neg (by omega), if_neg (by rw [HS.out]; decide), if_pos hr0]
        have HO := Lib.hid hres
        clear hr0 hres hb
        go_enter Tryz.func49, Tryz.ntmps49
        go_wp2
        refine wp_scope_fwd 0 (by rfl) ?_
        intro J HJ
        go_wp2_with (first | (go_at_call 68; ((with_reducible refine cut_any l 63 hm (by omega) ?_); intro n; rw [HR.out])) | (go_at_call 42; ((with_reducible refine pre_any _ 47 ?_))))
        refine rcast (H.out _ ((Kp.refl _ _).drewN _)) ?_
        rw [HO.out]; rfl
      · have HO : Hid (ofL l = match dec ((bef 63 l).drop 1) with
          | none => ([], 70)
          | some n => if nameB n then (n, 0) else ([], 70)) := by
          refine Lib.hid ?_
          unfold ofL
          rw [if_neg (by omega), if_neg (by rw [HS.out]; decide), if_neg hr0]
        have b1 : (bef 63 l == [47]) = false := by simpa using hr0
        generalize ofL l = res at *
        obtain ⟨t, ht⟩ : ∃ t, bef 63 l = t := ⟨_, rfl⟩
        rw [ht] at HS HO b1 hb
        have HT := Lib.hid ht
        clear ht hr0
        go_enter Tryz.func49, Tryz.ntmps49
        go_wp2
        refine wp_scope_fwd 0 (by rfl) ?_
        intro J HJ
        go_wp2_with (first | (go_at_call 68; ((with_reducible refine cut_any l 63 hm (by omega) ?_); intro n; rw [HT.out])) | (go_at_call 42; ((with_reducible refine pre_any _ 47 ?_); rw [HS.out])))
        have hm0 := hm.drewN n
        have k0 : Kp [] w (w.drewN n) := (Kp.refl _ _).drewN n
        generalize w.drewN n = w0 at *
        go_loopw [4, 7] (fun nm i wr => ∃ (k : Nat) (out : List UInt8) (A : Option Addr) (c : Nat), 1 ≤ k ∧ k ≤ t.length ∧ i = .int .i64 k ∧ nm = .slice A out.length c ∧ out.length ≤ k ∧ Hid (dec (t.drop 1) = (dec (t.drop k)).map (out ++ ·)) ∧ Kp [] w wr ∧ Ow wr 5 1 A out.length c (bts out) ∧ (∀ b ∈ bks A, w.heap.size ≤ b)) (fun _ i _ => t.length - (intOf i).toNat)
        case atStart => exact ⟨1, [], none, 0, Nat.le_refl _, by
          have := HS.out
          cases t with
          | nil => cases this
          | cons => simp, rfl, rfl, by simp, Lib.hid (by simp), k0, Ow.nil, by simp [bks]⟩
        case round =>
          obtain ⟨k, out, A, c, hk1, hk2, rfl, rfl, hout, hd, kr, ho, hA⟩ := hrel
          by_cases hlt : k < t.length
          · obtain ⟨x, hx⟩ : ∃ x, t[k]'hlt = x := ⟨_, rfl⟩
            have hdr : t.drop k = x :: t.drop (k + 1) := by rw [List.drop_eq_getElem_cons hlt, hx]
            by_cases h37 : x.toNat = 37
            · have b37 : ((x.toNat : Int) != 37) = false := by simp [h37]
              have H37 := Lib.hid h37
              clear h37
              by_cases hlen : k + 2 < t.length
              · obtain ⟨p, hp⟩ : ∃ p, t[k + 1]'(by omega) = p := ⟨_, rfl⟩
                obtain ⟨q, hq⟩ : ∃ q, t[k + 2]'hlen = q := ⟨_, rfl⟩
                have hdr2 : t.drop k = x :: p :: q :: t.drop (k + 3) := by
                  rw [hdr, List.drop_eq_getElem_cons (by omega : k + 1 < t.length), hp, List.drop_eq_getElem_cons hlen, hq]
                have HD2 : Hid (dec (t.drop 1) = if badB p q then none else (dec (t.drop (k + 3))).map (fun y => out ++ hexB p q :: y)) := by
                  refine Lib.hid ?_
                  rw [hd.out, hdr2, dec_hex _ H37.out]
                  split
                  · rfl
                  · cases dec (t.drop (k + 3)) <;> simp
                clear hdr hdr2 hd
                obtain ⟨pa, pb⟩ := digI_bd p
                obtain ⟨qa, qb⟩ := digI_bd q
                have HX : Hid (0 ≤ digI p → 0 ≤ digI q → 16 * digI p + digI q = ((hexB p q).toNat : Int)) := by
                  refine Lib.hid fun h1 h2 => ?_
                  unfold hexB
                  rw [UInt8.toNat_ofNat']
                  omega
                have HBad : Hid (badB p q = (decide (digI p < 0) || decide (digI q < 0) || !plainB (hexB p q))) := Lib.hid rfl
                generalize hexB p q = h at *
                generalize badB p q = bad at *
                go_wp2
                have s1 : IntKind.i64.wrap ((k : Int) + 1) = (k : Int) + 1 := IntWalk.i64_in _ (by omega)
                have s2 : IntKind.i64.wrap ((k : Int) + 2) = (k : Int) + 2 := IntWalk.i64_in _ (by omega)
                have s3 : ((k : Int) + 1).toNat = k + 1 := by omega
                have s4 : ((k : Int) + 2).toNat = k + 2 := by omega
                have s5 : (0 : Int) ≤ (k : Int) + 1 := by omega
                have s6 : (0 : Int) ≤ (k : Int) + 2 := by omega
                have s7 : (k : Int) + 1 < t.length := by omega
                have s8 : (k : Int) + 2 < t.length := by omega
                refine wp_region_kp (by kernel_rfl) (by kernel_rfl) ?_
                repeat (quiet_step (((go_at_call 85; refine digit_any _ _ ?_); exact ⟨rfl, _, rfl⟩)))
                refine wpQuiet_nil ?_
                intro w4 k4
                have kr4 := kr.trans k4
                have ho4 := ho.kp k4 (by simp)
                clear kr ho k4
                generalize digI p = di at *
                generalize digI q = dj at *
                have hbad : bad = true → res = ([], 70) := by
                  intro hb1
                  rw [HO.out, HD2.out, if_pos hb1]
                have HB1 := Lib.hid hbad
                clear hbad
                by_cases hi : di < 0
                · have g1 : decide (di < 0) = true := by simpa using hi
                  go_wp2
                  go_step3
                  refine ⟨rfl, HJ.out _ _ ?_⟩
                  go_wp2
                  refine rcast (H.out _ kr4) ?_
                  rw [HB1.out (by rw [HBad.out, g1]; rfl)]; rfl
                have g1 : decide (di < 0) = false := by simpa using hi
                by_cases hj : dj < 0
                · have g2 : decide (dj < 0) = true := by simpa using hj
                  go_wp2
                  go_step3
                  refine ⟨rfl, HJ.out _ _ ?_⟩
                  go_wp2
                  refine rcast (H.out _ kr4) ?_
                  rw [HB1.out (by rw [HBad.out, g1, g2]; rfl)]; rfl
                have g2 : decide (dj < 0) = false := by simpa using hj
                have hv := HX.out (by omega) (by omega)
                have hb255 := h.toNat_lt
                have h1 : 0 ≤ 16 * di + dj := by omega
                have h2 : 16 * di + dj ≤ 255 := by omega
                have HV := Lib.hid hv
                clear hv hb255
                cases hp : plainB h
                · have HP := Lib.hid hp
                  clear hp
                  go_wp2_with (go_at_call 86; ((refine plain_int _ h _ (by have := HV.out; omega) ?_); rw [HP.out]))
                  go_step3
                  refine ⟨rfl, HJ.out _ _ ?_⟩
                  go_wp2
                  refine rcast (H.out _ kr4) ?_
                  rw [HB1.out (by rw [HBad.out, g1, g2, HP.out]; rfl)]; rfl
                · have HP := Lib.hid hp
                  clear hp
                  have HD3 : Hid (dec (t.drop 1) = (dec (t.drop (k + 3))).map ((out ++ [h]) ++ ·)) := by
                    refine Lib.hid ?_
                    rw [HD2.out, if_neg (by rw [HBad.out, g1, g2, HP.out]; decide)]
                    cases dec (t.drop (k + 3)) <;> simp
                  go_wp2_with (first | (go_at_call 86; ((refine plain_int _ h _ (by have := HV.out; omega) ?_); rw [HP.out])) | (at_builtin; refine wpList_app _ rfl (.tmp 68) (.tmp 74) _ rfl elt_u8 A out.length c _ rfl (ho4.alloc _) [] (some ⟨w4.heap.size, 0, none⟩) 1 1 (bts [h]) rfl (Rd.of_bk ((Bk.newAt rfl _ _).cast (by have := HV.out; simp [bts]; omega)) (by simp)) rfl (bts_one _) (by omega) ?_; intro A2 c2 w2 ho2 hk2 hA2))
                  exact ⟨⟨k + 3, out ++ [h], A2, c2, by omega, by omega, by go_num, by simp, by simp; omega, HD3, (kr4.alloc _).thn hk2 (fun s hs => .inr (hA s hs)), ho2.cast (by simp) (bts_append _ _).symm, bks_app hA2 hA (by have := kr4.size; simp; omega)⟩, by simp [intOf]; omega⟩
              · have HN : Hid (dec (t.drop 1) = none) := by
                  refine Lib.hid ?_
                  rw [hd.out, hdr, dec_short H37.out (by rw [List.length_drop]; omega)]
                  rfl
                clear hdr hd
                go_wp2
                go_step3
                refine ⟨rfl, HJ.out _ _ ?_⟩
                go_wp2
                refine rcast (H.out _ kr) ?_
                rw [HO.out, HN.out]; rfl
            · have b37 : ((x.toNat : Int) != 37) = true := by simp; omega
              have HD : Hid (dec (t.drop 1) = (dec (t.drop (k + 1))).map ((out ++ [x]) ++ ·)) := by
                refine Lib.hid ?_
                rw [hd.out, hdr, dec_ne _ h37]
                cases dec (t.drop (k + 1)) <;> simp
              clear h37 hdr hd
              go_wp2_with (at_builtin; refine wpList_app _ rfl (.tmp 32) (.tmp 36) _ rfl elt_u8 A out.length c _ rfl (ho.alloc _) [] (some ⟨wr.heap.size, 0, none⟩) 1 1 (bts [x]) rfl (Rd.of_bk (Bk.newAt rfl _ _) (by simp)) rfl (bts_one _) (by omega) ?_; intro A2 c2 w2 ho2 hk2 hA2)
              exact ⟨⟨k + 1, out ++ [x], A2, c2, by omega, by omega, by go_num, by simp, by simp; omega, HD, (kr.alloc _).thn hk2 (fun s hs => .inr (hA s hs)), ho2.cast (by simp) (bts_append _ _).symm, bks_app hA2 hA (by have := kr.size; simp; omega)⟩, by simp [intOf]; omega⟩
          · have hdn : dec (t.drop 1) = some out := by
              rw [hd.out, List.drop_eq_nil_of_le (by omega)]; simp [dec]
            have HD := Lib.hid hdn
            have hcv := conv_bS (c := c) (ho.rd (N := []) (by simp)) rfl
            have mr := hm.kp kr
            clear hd hdn
            cases hn : nameB out
            · have HN := Lib.hid hn
              clear hn
              go_wp2_with (go_at_call 87; (with_reducible refine name_any out _ mr ?_); intro w5 k5; rw [HN.out])
              go_step3
              refine ⟨rfl, HJ.out _ _ ?_⟩
              go_wp2
              refine rcast (H.out _ (kr.trans k5)) ?_
              rw [HO.out, HD.out]
              simp only [HN.out]
              rfl
            · have HN := Lib.hid hn
              clear hn
              go_wp2_with (go_at_call 87; (with_reducible refine name_any out _ mr ?_); intro w5 k5; have hcv5 := conv_bS (c := c) ((ho.kp k5 (by simp)).rd (N := []) (by simp)) rfl; rw [HN.out])
              refine rcast (H.out _ (kr.trans k5)) ?_
              rw [HO.out, HD.out]
              simp only [HN.out]
              rfl
  · go_enter Tryz.func49, Tryz.ntmps49
    go_wp2
    refine wp_scope_fwd 0 (by rfl) ?_
    intro J HJ
    go_wp2
    refine rcast (H.out w (Kp.refl _ _)) ?_
    unfold ofL; rw [if_pos (by omega)]; rfl
end
/-! ### serve: a talk in memory; New, Feed, next. -/
section
open Go.RowKit Go.Shelf
set_option linter.unusedVariables false
set_option linter.unusedSimpArgs false
set_option maxRecDepth 100000
/-- An ask in plain words: the name, the status, the request. -/
abbrev AskP := List UInt8 × Int × Req
def askC (a : AskP) (A : Option Addr) (c : Nat) : List Value := [.string (S a.1), .int .i64 a.2.1, .string (S a.2.2.m), .string (S a.2.2.t), .int .i64 a.2.2.minor, .slice A a.2.2.fs.length c, .bool a.2.2.close]
/-- A talk in plain words: the parser's bytes, is it over, the open ask, is the talk over. -/
structure TkS where
  b : List UInt8
  ov : Bool
  op : Option AskP
  over : Bool
/-- The open ask in memory. -/
def OpA (w : World) (N : List Nat) (op : Option AskP) (oa : Option Addr) : Prop :=
  match op with
  | none => oa = none
  | some a => ∃ ag A c, oa = some ⟨ag, 0, none⟩ ∧ ag ∉ N ∧ Bk w ag 54 (askC a A c) ∧ Rd w N A (a.2.2.fs.flatMap fldC) ∧ a.2.2.fs.length ≤ c
theorem OpA.kp {w w' : World} {N S : List Nat} {op : Option AskP} {oa : Option Addr} (h : OpA w N op oa) (k : Kp S w w') (hs : ∀ s ∈ S, s ∈ N) : OpA w' N op oa := by
  unfold OpA at h ⊢
  cases op with
  | none => exact h
  | some a =>
    obtain ⟨ag, A, c, h1, h2, h3, h4, h5⟩ := h
    exact ⟨ag, A, c, h1, h2, h3.kp k (fun hm => h2 (hs _ hm)), h4.kp k (fun s hm => .inl (hs s hm)), h5⟩
/-- The talk in memory: its block, the parser's, the open ask. -/
structure Tk (w : World) (tg pg : Nat) (s : TkS) : Prop where
  ne : tg ≠ pg
  ps : Ps w pg s.b s.ov
  tk : ∃ oa, Bk w tg 85 [.pointer (some ⟨pg, 0, none⟩), .pointer oa, .bool s.over] ∧ OpA w [tg, pg] s.op oa
theorem Tk.kp {w w' : World} {tg pg : Nat} {s : TkS} (h : Tk w tg pg s) (k : Kp [] w w') : Tk w' tg pg s := by
  obtain ⟨oa, h1, h2⟩ := h.tk
  exact ⟨h.ne, Bk.kp h.ps k (by simp), oa, h1.kp k (by simp), h2.kp k (by simp)⟩
section
variable {R : Ending → World → Prop} {w : World} {tg pg : Nat} {s : TkS}
theorem snew_any (h : ∀ tg pg w', w.heap.size ≤ tg → w.heap.size ≤ pg → Tk w' tg pg ⟨[], false, none, false⟩ → Kp [] w w' → R (.returned (.pointer (some ⟨tg, 0, none⟩))) w') : Calls Tryz.prog 19 #[] w R := by
  have H := Lib.hid h
  clear h
  go_enter Tryz.func19, Tryz.ntmps19
  go_wp2_with (go_at_call 32; ((refine new24_any _ ?_); intro pg w1 hg p1 k1))
  exact H.out _ pg _ k1.size hg ⟨by have := Bk.lt p1; omega, Bk.alloc p1 _, none, (Bk.new' _ _ _).cast rfl, rfl⟩ (k1.alloc _)
set_option maxHeartbeats 1000000 in
theorem sfeed_any (ht : Tk w tg pg s) (x : List UInt8) {A : Option Addr} {n c : Nat} (hx : Rd w [] A (bts x)) (hn : x.length = n) (hl : s.b.length + n ≤ 2000000)
    (h : ∀ w', Tk w' tg pg { s with b := if s.over || s.ov then s.b else s.b ++ x } → Kp [tg, pg] w w' → R (.returned (.tuple #[])) w') :
    Calls Tryz.prog 20 #[.pointer (some ⟨tg, 0, none⟩), .slice A n c] w R := by
  have H := Lib.hid h
  obtain ⟨oa, b1, o1⟩ := ht.tk
  obtain ⟨b, ov, op, over⟩ := s
  have c0 : w.cell? ⟨tg, 0, none⟩ = some (.pointer (some ⟨pg, 0, none⟩)) := b1.cell 0
  have c2 : w.cell? ⟨tg, 2, none⟩ = some (.bool over) := b1.cell 2
  have HT := Lib.hid ht
  have HB := Lib.hid b1
  have HO := Lib.hid o1
  have HF : Hid (∀ (R : Ending → World → Prop), (∀ w', Ps w' pg (if ov then b else b ++ x) ov → Kp [pg] w w' → R (.returned (.tuple #[])) w') → Calls Tryz.prog 33 #[.pointer (some ⟨pg, 0, none⟩), .slice A n c] w R) := Lib.hid (fun R h => feed_any ht.ps x hx hn hl h)
  clear h ht b1 o1
  cases over with
  | true =>
    go_enter Tryz.func20, Tryz.ntmps20
    go_wp2
    go_end0
    exact H.out w HT.out (Kp.refl _ _)
  | false =>
    go_enter Tryz.func20, Tryz.ntmps20
    go_wp2_with (go_at_call 33; ((refine HF.out _ ?_); intro w1 p1 k1))
    go_end0
    exact H.out w1 ⟨HT.out.ne, p1, oa, HB.out.kp k1 (by have := HT.out.ne; simp; omega), HO.out.kp k1 (by simp)⟩ (k1.mono (by simp))
theorem sfeed_nil {A : Option Addr} {n c : Nat} (h : R (.returned (.tuple #[])) w) : Calls Tryz.prog 20 #[.pointer none, .slice A n c] w R := by
  have H := Lib.hid h
  clear h
  go_enter Tryz.func20, Tryz.ntmps20
  go_wp2
  go_end0
  exact H.out
/-- What the parser tells next, over or not. -/
def nxt (b : List UInt8) (ov : Bool) : Req × Int × List UInt8 × Bool := if ov then (noReq, -1, b, true) else nextF b
theorem nxt_any (hm : Ml w) {b : List UInt8} {ov : Bool} (hp : Ps w pg b ov) (hl : b.length ≤ 10000) (h : NextK R w pg (nxt b ov)) : Calls Tryz.prog 40 #[.pointer (some ⟨pg, 0, none⟩)] w R := by
  cases ov with
  | true => exact next_over hp h
  | false => exact next_any hm hp hl h
end
end
/-! ### serve: next, Ask. -/
section
open Go.RowKit Go.Shelf
set_option linter.unusedVariables false
set_option linter.unusedSimpArgs false
set_option maxRecDepth 100000
theorem ofL_nm {l : List UInt8} (h : (ofL l).2 ≠ 0) : (ofL l).1 = [] := by
  unfold ofL at h ⊢
  split
  · rfl
  · rename_i h1
    rw [if_neg h1] at h
    split
    · rfl
    · rename_i h2
      rw [if_neg h2] at h
      split
      · rename_i h3; rw [if_pos h3] at h; exact absurd rfl h
      · rename_i h3
        rw [if_neg h3] at h
        cases hd : dec ((bef 63 l).drop 1) with
        | none => rfl
        | some n =>
          rw [hd] at h
          simp only at h ⊢
          split
          · rename_i h4; rw [if_pos h4] at h; exact absurd rfl h
          · rfl
/-- What is asked next. -/
def nxtOp (b : List UInt8) (ov : Bool) : Option AskP := if (nxt b ov).2.1 < 0 then none else some (if (nxt b ov).2.1 = 0 then (ofL (nxt b ov).1.t).1 else [], (nxt b ov).2.1, (nxt b ov).1)
theorem bk7r {w : World} {g tt : Nat} {a b c d e f k : Value} (h : Bk w g tt [a, b, c, d, e, f, k]) : (w.cell? ⟨g, 0, none⟩ = some a ∧ w.cell? ⟨g, 1, none⟩ = some b ∧ w.cell? ⟨g, 2, none⟩ = some c ∧ w.cell? ⟨g, 3, none⟩ = some d ∧ w.cell? ⟨g, 4, none⟩ = some e ∧ w.cell? ⟨g, 5, none⟩ = some f ∧ w.cell? ⟨g, 6, none⟩ = some k) ∧ (w.frozen? ⟨g, 0, none⟩ = false ∧ w.frozen? ⟨g, 1, none⟩ = false ∧ w.frozen? ⟨g, 2, none⟩ = false ∧ w.frozen? ⟨g, 3, none⟩ = false ∧ w.frozen? ⟨g, 4, none⟩ = false ∧ w.frozen? ⟨g, 5, none⟩ = false ∧ w.frozen? ⟨g, 6, none⟩ = false) :=
  ⟨⟨h.cell 0, h.cell 1, h.cell 2, h.cell 3, h.cell 4, h.cell 5, h.cell 6⟩, h.frozen 0, h.frozen 1, h.frozen 2, h.frozen 3, h.frozen 4, h.frozen 5, h.frozen 6⟩
theorem Rd.wide {w : World} {N N' : List Nat} {A : Option Addr} {xs : List Value} (h : Rd w N A xs) (hn : ∀ x ∈ N', x ∈ N ∨ w.heap.size ≤ x) : Rd w N' A xs := fun hx => by
  obtain ⟨b, off, rfl, hN, hb, rest⟩ := h hx
  exact ⟨b, off, rfl, fun hm => (hn b hm).elim hN (fun e => by omega), hb, rest⟩
section
variable {R : Ending → World → Prop} {w : World} {tg pg : Nat} {s : TkS}
set_option maxHeartbeats 4000000 in
theorem snext_any {w0 : World} (k0 : Kp [] w0 w) (hpg : w0.heap.size ≤ pg) (hm : Ml w0) {oa : Option Addr} {b : List UInt8} {ov over : Bool} (hb : Bk w tg 85 [.pointer (some ⟨pg, 0, none⟩), .pointer oa, .bool over]) (hp : Ps w pg b ov) (hl : b.length ≤ 10000) (N : List Nat) (hN : ∀ x ∈ N, x < w.heap.size)
    (h : ∀ oa' w', Ps w' pg (nxt b ov).2.2.1 (nxt b ov).2.2.2 → OpA w' N (nxtOp b ov) oa' → Kp [pg] w w' → R (.returned (.pointer oa')) w') : Calls Tryz.prog 34 #[.pointer (some ⟨tg, 0, none⟩)] w R := by
  have H := Lib.hid h
  have c0 : w.cell? ⟨tg, 0, none⟩ = some (.pointer (some ⟨pg, 0, none⟩)) := hb.cell 0
  have HLT : Hid (tg < w.heap.size ∧ pg < w.heap.size) := Lib.hid ⟨hb.lt, Bk.lt hp⟩
  have HN : Hid (∀ (R : Ending → World → Prop), NextK R w pg (nxt b ov) → Calls Tryz.prog 40 #[.pointer (some ⟨pg, 0, none⟩)] w R) := Lib.hid (fun R h => nxt_any (hm.kp k0) hp hl h)
  have HNN := Lib.hid hN
  unfold nxtOp at H
  obtain ⟨r, st, rest, ov', hq⟩ : ∃ r st rest ov', nxt b ov = (r, st, rest, ov') := ⟨_, _, _, _, rfl⟩
  rw [hq] at H HN
  simp only [NextK, reqV] at H HN
  clear h hb hp hl hq hN
  rcases (by omega : st < 0 ∨ st = 0 ∨ 0 < st) with h1 | h1 | h1
  · have g1 : decide (st < 0) = true := by simp; omega
    rw [if_pos h1] at H
    clear h1
    go_enter Tryz.func34, Tryz.ntmps34
    go_wp2_with (go_at_call 40; ((refine HN.out _ ?_); intro A c w1 p1 k1 r1 f1 n1))
    exact H.out none _ (Bk.alloc p1 _) rfl (k1.alloc _)
  · subst h1
    rw [if_neg (by omega), if_pos rfl] at H
    have HNM := Lib.hid (ofL_nm (l := r.t))
    have HP : Hid (∀ (R : Ending → World → Prop) (w1 : World), Ml w1 → (∀ w', Kp [] w1 w' → R (.returned (.tuple #[.string (S (ofL r.t).1), .int .i64 (ofL r.t).2])) w') → Calls Tryz.prog 49 #[.string (S r.t)] w1 R) := Lib.hid (fun R w1 h1 h => pof_any r.t w1 h1 h)
    obtain ⟨nm, e, hof⟩ : ∃ nm e, ofL r.t = (nm, e) := ⟨_, _, rfl⟩
    rw [hof] at H HNM HP
    simp only at H HNM HP
    clear hof
    go_enter Tryz.func34, Tryz.ntmps34
    go_upto_region 5 with (go_at_call 40; ((refine HN.out _ ?_); intro A c w1 p1 k1 r1 f1 n1))
    refine gen_worldC (fun W => ∃ g1 ag, w1.heap.size = g1 ∧ g1 + 1 = ag ∧ Hid (Kp [pg] w W ∧ Ps W pg rest ov' ∧ Bk W g1 35 [.string (S r.m), .string (S r.t), .int .i64 r.minor, .slice A r.fs.length c, .bool r.close] ∧ Bk W ag 54 (askC ([], 0, r) A c) ∧ Rd W (ag :: N) A (r.fs.flatMap fldC) ∧ w.heap.size ≤ g1)) ⟨_, _, rfl, rfl, Lib.hid ⟨(k1.alloc _).alloc _, Bk.alloc (Bk.alloc p1 _) _, ((Bk.new' _ _ _).alloc _).cast rfl, (Bk.newAt (by simp) _ _).cast rfl, ((((r1.off f1 (N' := N) HNN.out).wide (N' := (w1.heap.size + 1) :: N) (by intro x hx; simp at hx; rcases hx with rfl | hx; exact .inr (by omega); exact .inl hx)).kp (S := []) ((Kp.refl _ _).alloc _) (by simp)).kp (S := []) ((Kp.refl _ _).alloc _) (by simp)), k1.size⟩⟩ ?_
    rintro W ⟨g1, ag, hg1, hag, hW⟩
    rw [hg1, hag]
    have HAG : Hid (tg < ag ∧ pg < ag ∧ g1 < ag ∧ w.heap.size ≤ ag) := Lib.hid (by have := HLT.out; have := hW.out.2.2.2.2.2; omega)
    have NC := Lib.hid n1
    clear hg1 hag p1 k1 r1 f1 n1
    have q1 : W.cell? ⟨g1, 1, none⟩ = some (.string (S r.t)) := hW.out.2.2.1.cell 1
    by_cases he : e = 0
    · subst he
      go_upto_region 8 with (go_at_call 49; ((refine HP.out _ _ (hm.kp (k0.thn hW.out.1 (fun s hs => .inr (by simp at hs; omega)))) ?_); intro w2 k2; have a0 := (hW.out.2.2.2.1.kp k2 (by simp)).frozen 0; have a1 : w2.cell? ⟨ag, 0, none⟩ = some (.string (S [])) := (hW.out.2.2.2.1.kp k2 (by simp)).cell 0))
      go_wp2
      have ks : Kp [ag] w2 (w2.setCell ⟨ag, 0, none⟩ (.string (S nm))) := (Kp.refl _ _).setCell (.inl (by simp)) _
      have hne := HAG.out
      refine H.out (some ⟨ag, 0, none⟩) _ (Bk.kp (Bk.kp hW.out.2.1 k2 (by simp)) ks (by simp; omega)) ?_ ((hW.out.1.trans (k2.mono (by simp))).thn ks (fun s hs => .inr (by simp at hs; omega)))
      refine ⟨ag, A, c, rfl, fun hm => by have := HNN.out _ hm; omega, ((hW.out.2.2.2.1.kp k2 (by simp)).set_ 0 _).cast rfl, ?_, NC.out⟩
      exact ((hW.out.2.2.2.2.1.kp k2 (by simp)).kp ks (by simp)).sub (fun x hx => List.mem_cons_of_mem _ hx)
    · have hz : (e == 0) = false := by simpa using he
      have HE : Hid (nm = []) := Lib.hid (HNM.out he)
      clear he
      go_wp2_with (go_at_call 49; ((refine HP.out _ _ (hm.kp (k0.thn hW.out.1 (fun s hs => .inr (by simp at hs; omega)))) ?_); intro w2 k2))
      have hne := HAG.out
      refine H.out (some ⟨ag, 0, none⟩) _ (Bk.kp hW.out.2.1 k2 (by simp)) ?_ (hW.out.1.trans (k2.mono (by simp)))
      exact ⟨ag, A, c, rfl, fun hm => by have := HNN.out _ hm; omega, (hW.out.2.2.2.1.kp k2 (by simp)).cast (by rw [HE.out]), (hW.out.2.2.2.2.1.kp k2 (by simp)).sub (fun x hx => List.mem_cons_of_mem _ hx), NC.out⟩
  · have g1 : decide (st < 0) = false := by simp; omega
    have g2 : (st == 0) = false := by simp; omega
    rw [if_neg (by omega), if_neg (by omega)] at H
    clear h1
    go_enter Tryz.func34, Tryz.ntmps34
    go_wp2_with (go_at_call 40; ((refine HN.out _ ?_); intro A c w1 p1 k1 r1 f1 n1))
    have hlt := HLT.out
    have hsz := k1.size
    refine H.out _ _ (Bk.alloc (Bk.alloc p1 _) _) ?_ ((k1.alloc _).alloc _)
    refine ⟨_, A, c, rfl, ?_, (Bk.newAt (by simp) _ _).cast rfl, ((r1.off f1 (N' := N) HNN.out).kp (S := []) ((Kp.refl _ _).alloc _) (by simp)).kp (S := []) ((Kp.refl _ _).alloc _) (by simp), n1⟩
    intro hm
    have h9 := HNN.out _ hm
    omega
end
end
/-! ### serve: Ask, ends, Done, Over. -/
section
open Go.RowKit Go.Shelf
set_option linter.unusedVariables false
set_option linter.unusedSimpArgs false
set_option maxRecDepth 100000
/-- A talk in memory, over the world in which it began. -/
structure TB (w0 w : World) (tg pg : Nat) (s : TkS) : Prop where
  kp : Kp [] w0 w
  gt : w0.heap.size ≤ tg
  gp : w0.heap.size ≤ pg
  tk : Tk w tg pg s
theorem TB.step {w0 w w' : World} {tg pg : Nat} {s s' : TkS} (h : TB w0 w tg pg s) (t : Tk w' tg pg s') (k : Kp [tg, pg] w w') : TB w0 w' tg pg s' :=
  ⟨h.kp.thn k (fun x hx => .inr (by have := h.gt; have := h.gp; simp at hx; omega)), h.gt, h.gp, t⟩
theorem TB.kp' {w0 w w' : World} {tg pg : Nat} {s : TkS} (h : TB w0 w tg pg s) (k : Kp [] w w') : TB w0 w' tg pg s := ⟨h.kp.trans k, h.gt, h.gp, h.tk.kp k⟩
theorem OpA.lt {w : World} {N : List Nat} {a : AskP} {oa : Option Addr} (h : OpA w N (some a) oa) : ∃ ag A c, oa = some ⟨ag, 0, none⟩ ∧ ag ∉ N ∧ Bk w ag 54 (askC a A c) ∧ Rd w N A (a.2.2.fs.flatMap fldC) ∧ a.2.2.fs.length ≤ c := h
/-- What Ask does, and tells. -/
def askS (s : TkS) : TkS × Option AskP :=
  if s.over then (s, none) else match s.op with
  | some a => (s, some a)
  | none => (⟨(nxt s.b s.ov).2.2.1, (nxt s.b s.ov).2.2.2, nxtOp s.b s.ov, false⟩, nxtOp s.b s.ov)
def noAsk : Value := .agg #[.string ⟨#[]⟩, .int .i64 0, .string ⟨#[]⟩, .string ⟨#[]⟩, .int .i64 0, .slice none 0 0, .bool false]
theorem put7 {w2 : World} {rb tt : Nat} {a0 a1 a2 a3 a4 a5 a6 : Value} (br : Bk w2 rb tt [a0, a1, a2, a3, a4, a5, a6]) (b0 b1 b2 b3 b4 b5 b6 : Value) :
    ∃ W', (((((((w2.setCell ⟨rb, 0, none⟩ b0).setCell ⟨rb, 1, none⟩ b1).setCell ⟨rb, 2, none⟩ b2).setCell ⟨rb, 3, none⟩ b3).setCell ⟨rb, 4, none⟩ b4).setCell ⟨rb, 5, none⟩ b5).setCell ⟨rb, 6, none⟩ b6) = W' ∧ Kp [rb] w2 W' ∧ Bk W' rb tt [b0, b1, b2, b3, b4, b5, b6] :=
  ⟨_, rfl, (((((((Kp.refl _ _).setCell (.inl (by simp)) _).setCell (.inl (by simp)) _).setCell (.inl (by simp)) _).setCell (.inl (by simp)) _).setCell (.inl (by simp)) _).setCell (.inl (by simp)) _).setCell (.inl (by simp)) _, (((((((br.set_ 0 _).set_ 1 _).set_ 2 _).set_ 3 _).set_ 4 _).set_ 5 _).set_ 6 _).cast rfl⟩
section
variable {R : Ending → World → Prop} {w0 w : World} {tg pg : Nat} {s : TkS}
theorem sask_nil (h : ∀ w', Kp [] w w' → R (.returned (.tuple #[noAsk, .bool false])) w') : Calls Tryz.prog 21 #[.pointer none] w R := by
  have H := Lib.hid h
  clear h
  go_enter Tryz.func21, Tryz.ntmps21
  go_wp2
  exact bodyPost_ret (v := .tuple #[noAsk, .bool false]) (by simp [results, Tryz.results21, go_sem, noAsk]; try rfl) rfl (H.out _ ((Kp.refl _ _).alloc _))
/-- Ask's result block, ahead of the walk. -/
def zA : List Value := [.string ⟨#[]⟩, .int .i64 0, .string ⟨#[]⟩, .string ⟨#[]⟩, .int .i64 0, .slice none 0 0, .bool false]
theorem ownTy {w : World} {g t : Nat} {cs : List Value} (h : Bk w g t cs) : g < w.heap.size := h.lt
set_option maxHeartbeats 4000000 in
theorem sask_any (hm : Ml w0) (ht : TB w0 w tg pg s) (hl : s.op = none → s.b.length ≤ 10000)
    (h0 : (askS s).2 = none → ∀ w', TB w0 w' tg pg (askS s).1 → Kp [tg, pg] w w' → R (.returned (.tuple #[noAsk, .bool false])) w')
    (h1 : ∀ a, (askS s).2 = some a → ∀ A c w', TB w0 w' tg pg (askS s).1 → Kp [tg, pg] w w' → R (.returned (.tuple #[.agg (askC a A c).toArray, .bool true])) w') :
    Calls Tryz.prog 21 #[.pointer (some ⟨tg, 0, none⟩)] w R := by
  have H0 := Lib.hid h0
  have H1 := Lib.hid h1
  have HT := Lib.hid ht
  obtain ⟨oa, b1, o1⟩ := ht.tk.tk
  obtain ⟨b, ov, op, over⟩ := s
  simp only at b1 o1 hl
  have HHL : Hid (op = none → b.length ≤ 10000) := Lib.hid hl
  clear hl
  have HB := Lib.hid b1
  have HO := Lib.hid o1
  have hgt := ht.gt
  have hgp := ht.gp
  have hne := ht.tk.ne
  have hlt := b1.lt
  have hpl : pg < w.heap.size := Bk.lt ht.tk.ps
  have HNx : Hid (∀ (R : Ending → World → Prop) (w1 : World) (rb : Nat), Kp [] w w1 → b.length ≤ 10000 → rb < w1.heap.size → (∀ oa' w', Ps w' pg (nxt b ov).2.2.1 (nxt b ov).2.2.2 → OpA w' [tg, pg, rb] (nxtOp b ov) oa' → Kp [pg] w1 w' → R (.returned (.pointer oa')) w') → Calls Tryz.prog 34 #[.pointer (some ⟨tg, 0, none⟩)] w1 R) := Lib.hid (fun R w1 rb k hl hrb h => snext_any (ht.kp.trans k) hgp hm (b1.kp k (by simp)) (Bk.kp ht.tk.ps k (by simp)) hl [tg, pg, rb] (by have := k.size; intro x hx; simp at hx; omega) h)
  clear h0 h1 ht b1 o1
  unfold askS at H0 H1
  simp only at H0 H1
  go_enter Tryz.func21, Tryz.ntmps21
  go_upto_region 1 with (fail)
  refine gen_worldC (fun W => ∃ rb, w.heap.size = rb ∧ Hid (Kp [] w W ∧ Bk W rb 54 zA ∧ Bk W tg 85 [.pointer (some ⟨pg, 0, none⟩), .pointer oa, .bool over] ∧ OpA W [tg, pg] op oa)) ⟨_, rfl, Lib.hid ⟨(Kp.refl _ _).alloc _, (Bk.new' _ _ _).cast rfl, HB.out.alloc _, HO.out.kp (S := []) ((Kp.refl _ _).alloc _) (by simp)⟩⟩ ?_
  rintro W ⟨rb, hrb, hW⟩
  rw [hrb]
  have HRB : Hid (tg < rb ∧ pg < rb ∧ w.heap.size ≤ rb) := Lib.hid (by omega)
  clear hrb
  have t1 : W.cell? ⟨tg, 1, none⟩ = some (.pointer oa) := hW.out.2.2.1.cell 1
  have t2 : W.cell? ⟨tg, 2, none⟩ = some (.bool over) := hW.out.2.2.1.cell 2
  obtain ⟨⟨z0, z1, z2, z3, z4, z5, z6⟩, ⟨f0, f1, f2, f3, f4, f5, f6⟩⟩ := bk7r hW.out.2.1
  cases over with
  | true =>
    replace H0 : Hid (∀ w', TB w0 w' tg pg ⟨b, ov, op, true⟩ → Kp [tg, pg] w w' → R (.returned (.tuple #[noAsk, .bool false])) w') := Lib.hid (fun w' h1 h2 => H0.out (by rw [if_pos rfl]) w' (by rw [if_pos rfl]; exact h1) h2)
    clear H1
    go_wp2
    obtain ⟨W', hW', kW, bW⟩ := put7 hW.out.2.1 (.string ⟨#[]⟩) (.int .i64 0) (.string ⟨#[]⟩) (.string ⟨#[]⟩) (.int .i64 0) (.slice none 0 0) (.bool false)
    rw [hW']
    obtain ⟨⟨c0, c1, c2, c3, c4, c5, c6⟩, _⟩ := bk7r bW
    have kF : Kp [] w W' := hW.out.1.thn kW (fun s hs => .inr (by have := HRB.out; simp at hs; omega))
    exact bodyPost_ret (v := .tuple #[noAsk, .bool false]) (by simp [results, Tryz.results21, go_sem, noAsk, c0, c1, c2, c3, c4, c5, c6]; try rfl) rfl (H0.out _ (HT.out.kp' kF) (kF.mono (by simp)))
  | false =>
    rw [if_neg (by simp)] at H0 H1
    cases op with
    | some a =>
      obtain ⟨ag, A, c, rfl, hna, hba, hra, hca⟩ := hW.out.2.2.2.lt
      obtain ⟨⟨x0, x1, x2, x3, x4, x5, x6⟩, _⟩ := bk7r hba
      clear hba hra
      go_wp2
      obtain ⟨W', hW', kW, bW⟩ := put7 hW.out.2.1 (.string (S a.1)) (.int .i64 a.2.1) (.string (S a.2.2.m)) (.string (S a.2.2.t)) (.int .i64 a.2.2.minor) (.slice A a.2.2.fs.length c) (.bool a.2.2.close)
      rw [hW']
      obtain ⟨⟨c0, c1, c2, c3, c4, c5, c6⟩, _⟩ := bk7r bW
      have kF : Kp [] w W' := hW.out.1.thn kW (fun s hs => .inr (by have := HRB.out; simp at hs; omega))
      exact bodyPost_ret (v := .tuple #[.agg (askC a A c).toArray, .bool true]) (by simp [results, Tryz.results21, go_sem, askC, c0, c1, c2, c3, c4, c5, c6]; try rfl) rfl (H1.out a rfl A c _ (HT.out.kp' kF) (kF.mono (by simp)))
    | none =>
      have hoa : oa = none := hW.out.2.2.2
      have hbl : Hid (b.length ≤ 10000) := Lib.hid (HHL.out rfl)
      subst hoa
      have HTS : Hid (∀ oa2 w2 W', Ps w2 pg (nxt b ov).2.2.1 (nxt b ov).2.2.2 → OpA w2 [tg, pg, rb] (nxtOp b ov) oa2 → Kp [pg] W w2 → Kp [rb] (w2.setCell ⟨tg, 1, none⟩ (.pointer oa2)) W' → TB w0 W' tg pg ⟨(nxt b ov).2.2.1, (nxt b ov).2.2.2, nxtOp b ov, false⟩ ∧ Kp [tg, pg] w W') := Lib.hid (fun oa2 w2 W' p2 o2 k2 k3 => by
        have hh := HRB.out
        have hbt := (hW.out.2.2.1.kp k2 (by simp; omega)).set_ 1 (.pointer oa2)
        have ks : Kp [tg] w2 (w2.setCell ⟨tg, 1, none⟩ (.pointer oa2)) := (Kp.refl _ _).setCell (.inl (by simp)) _
        have hrs : w2.heap.size ≤ w2.heap.size := Nat.le_refl _
        have kk : Kp [tg, pg] w W' := (((hW.out.1.mono (S' := [tg, pg]) (by simp)).thn k2 (fun s hs => .inl (by simp at hs; simp [hs]))).thn ks (fun s hs => .inl (by simp at hs; simp [hs]))).thn k3 (fun s hs => .inr (by simp at hs; omega))
        refine ⟨HT.out.step ⟨hne, Bk.kp (Bk.kp p2 ks (by simp; omega)) k3 (by simp; omega), oa2, (hbt.cast rfl).kp k3 (by simp; omega), ?_⟩ kk, kk⟩
        have ho := o2.kp ks (by simp)
        cases hq : nxtOp b ov with
        | none => rw [hq] at ho; exact ho
        | some a =>
          rw [hq] at ho
          obtain ⟨ag, A, c, e1, e2, e3, e4, e5⟩ := ho.lt
          exact ⟨ag, A, c, e1, fun hm => e2 (by simp at hm; simp; omega), e3.kp k3 (fun hm => e2 (by simp at hm; simp [hm])), (e4.kp k3 (fun x hx => .inl (by simp at hx; simp [hx]))).sub (by intro x hx; simp at hx; simp; omega), e5⟩)
      have hh := HRB.out
      obtain ⟨opn, hopn⟩ : ∃ x, nxtOp b ov = x := ⟨_, rfl⟩
      rw [hopn] at HNx H0 H1 HTS
      clear hopn
      cases opn with
      | none =>
        go_wp2_with (go_at_call 34; ((refine HNx.out _ _ rb hW.out.1 hbl.out hW.out.2.1.lt ?_); intro oa2 w2 p2 o2 k2; have ho2 : oa2 = none := o2; subst ho2; have bt2 := hW.out.2.2.1.kp k2 (by simp; omega); have t21 : w2.cell? ⟨tg, 1, none⟩ = some (.pointer none) := bt2.cell 1; have t2f := bt2.frozen 1; have br2 := hW.out.2.1.kp k2 (by simp; omega); obtain ⟨⟨y0, y1, y2, y3, y4, y5, y6⟩, ⟨n0, n1, n2, n3, n4, n5, n6⟩⟩ := bk7r br2))
        have ks : Kp [tg] w2 (w2.setCell ⟨tg, 1, none⟩ (.pointer none)) := (Kp.refl _ _).setCell (.inl (by simp)) _
        obtain ⟨W', hW', kW, bW⟩ := put7 (br2.kp ks (by simp; omega)) (.string ⟨#[]⟩) (.int .i64 0) (.string ⟨#[]⟩) (.string ⟨#[]⟩) (.int .i64 0) (.slice none 0 0) (.bool false)
        rw [hW']
        obtain ⟨⟨c0, c1, c2, c3, c4, c5, c6⟩, _⟩ := bk7r bW
        obtain ⟨hT, hK⟩ := HTS.out none w2 W' p2 o2 k2 kW
        exact bodyPost_ret (v := .tuple #[noAsk, .bool false]) (by simp [results, Tryz.results21, go_sem, noAsk, c0, c1, c2, c3, c4, c5, c6]; try rfl) rfl (H0.out (by trivial) _ hT hK)
      | some a =>
        go_wp2_with (go_at_call 34; ((refine HNx.out _ _ rb hW.out.1 hbl.out hW.out.2.1.lt ?_); intro oa2 w2 p2 o2 k2; obtain ⟨ag, A, c, rfl, hna, hba, hra, hca⟩ := o2.lt; have bt2 := hW.out.2.2.1.kp k2 (by simp; omega); have t21 : w2.cell? ⟨tg, 1, none⟩ = some (.pointer none) := bt2.cell 1; have t2f := bt2.frozen 1; have br2 := hW.out.2.1.kp k2 (by simp; omega); obtain ⟨⟨y0, y1, y2, y3, y4, y5, y6⟩, ⟨n0, n1, n2, n3, n4, n5, n6⟩⟩ := bk7r br2; obtain ⟨⟨x0, x1, x2, x3, x4, x5, x6⟩, _⟩ := bk7r hba; have hat : tg ≠ ag := (fun e => hna (by simp [e]))))
        have ks : Kp [tg] w2 (w2.setCell ⟨tg, 1, none⟩ (.pointer (some ⟨ag, 0, none⟩))) := (Kp.refl _ _).setCell (.inl (by simp)) _
        obtain ⟨W', hW', kW, bW⟩ := put7 (br2.kp ks (by simp; omega)) (.string (S a.1)) (.int .i64 a.2.1) (.string (S a.2.2.m)) (.string (S a.2.2.t)) (.int .i64 a.2.2.minor) (.slice A a.2.2.fs.length c) (.bool a.2.2.close)
        rw [hW']
        obtain ⟨⟨c0, c1, c2, c3, c4, c5, c6⟩, _⟩ := bk7r bW
        obtain ⟨hT, hK⟩ := HTS.out _ w2 W' p2 o2 k2 kW
        exact bodyPost_ret (v := .tuple #[.agg (askC a A c).toArray, .bool true]) (by simp [results, Tryz.results21, go_sem, askC, c0, c1, c2, c3, c4, c5, c6]; try rfl) rfl (H1.out a rfl A c _ hT hK)
end
end
/-! ### serve: ends, Done, Over. -/
section
open Go.RowKit Go.Shelf
set_option linter.unusedVariables false
set_option linter.unusedSimpArgs false
set_option maxRecDepth 100000
/-- Is the talk over behind an ask? -/
def endsB (a : AskP) : Bool := !(a.2.1 == 0) || a.2.2.close || (readsM a.2.2.m && !(a.2.2.t.head? == some 47))
def doneS (s : TkS) : TkS := match s.op with | none => s | some a => { s with op := none, over := endsB a }
section
variable {R : Ending → World → Prop} {w0 w : World} {tg pg : Nat} {s : TkS}
set_option maxHeartbeats 4000000 in
theorem ends_any (a : AskP) {ag c : Nat} {A : Option Addr} (hb : Bk w ag 54 (askC a A c)) (h : ∀ w', Kp [] w w' → R (.returned (.bool (endsB a))) w') : Calls Tryz.prog 35 #[.pointer (some ⟨ag, 0, none⟩)] w R := by
  have H := Lib.hid h
  obtain ⟨nm, st, r⟩ := a
  obtain ⟨⟨x0, x1, x2, x3, x4, x5, x6⟩, _⟩ := bk7r hb
  simp only at x0 x1 x2 x3 x4 x5 x6
  unfold endsB readsM at H
  simp only at H
  clear h hb
  obtain ⟨hd, hhd⟩ : ∃ x, (r.t.head? == some 47) = x := ⟨_, rfl⟩
  have HPre : Hid (∀ (R : Ending → World → Prop) (W : World), R (.returned (.bool hd)) W → Calls Tryz.prog 42 #[.string (S r.t), .string ⟨#[47]⟩] W R) := Lib.hid (fun R W h => pre_any _ 47 (by rw [hhd]; exact h))
  obtain ⟨b1, h1⟩ : ∃ x, (r.m == [71, 69, 84]) = x := ⟨_, rfl⟩
  obtain ⟨b2, h2⟩ : ∃ x, (r.m == [72, 69, 65, 68]) = x := ⟨_, rfl⟩
  obtain ⟨cl, hcl⟩ : ∃ x, r.close = x := ⟨_, rfl⟩
  rw [hhd, h1, h2, hcl] at H
  rw [hcl] at x6
  clear hhd hcl
  by_cases h0 : st = 0
  · subst h0
    replace H : Hid (∀ w', Kp [] w w' → R (.returned (.bool (cl || ((b1 || b2) && !hd)))) w') := Lib.hid (fun w' k => by have := H.out w' k; simpa using this)
    cases cl with
    | true =>
      go_enter Tryz.func35, Tryz.ntmps35
      go_wp2
      exact H.out w (Kp.refl _ _)
    | false =>
      cases b1 <;> cases b2
      all_goals
        go_enter Tryz.func35, Tryz.ntmps35
        go_wp2_with (go_at_call 42; (refine HPre.out _ _ ?_))
        exact H.out w (Kp.refl _ _)
  · have hz : (st == 0) = false := by simpa using h0
    have hz2 : (st != 0) = true := by simpa using h0
    replace H : Hid (∀ w', Kp [] w w' → R (.returned (.bool true)) w') := Lib.hid (fun w' k => by have := H.out w' k; rw [hz] at this; simpa using this)
    clear h0
    go_enter Tryz.func35, Tryz.ntmps35
    go_wp2
    exact H.out w (Kp.refl _ _)
set_option maxHeartbeats 2000000 in
theorem sdone_any (ht : TB w0 w tg pg s) (h : ∀ w', TB w0 w' tg pg (doneS s) → Kp [tg, pg] w w' → R (.returned (.tuple #[])) w') : Calls Tryz.prog 26 #[.pointer (some ⟨tg, 0, none⟩)] w R := by
  have H := Lib.hid h
  have HT := Lib.hid ht
  obtain ⟨oa, b1, o1⟩ := ht.tk.tk
  obtain ⟨b, ov, op, over⟩ := s
  simp only at b1 o1
  have t1 : w.cell? ⟨tg, 1, none⟩ = some (.pointer oa) := b1.cell 1
  have t2 : w.cell? ⟨tg, 2, none⟩ = some (.bool over) := b1.cell 2
  have f1 := b1.frozen 1
  have f2 := b1.frozen 2
  have HB := Lib.hid b1
  have hne := ht.tk.ne
  have hps := Lib.hid ht.tk.ps
  clear h ht
  cases op with
  | none =>
    have hoa : oa = none := o1
    subst hoa
    clear b1 o1
    go_enter Tryz.func26, Tryz.ntmps26
    go_wp2
    go_end0
    exact H.out w HT.out (Kp.refl _ _)
  | some a =>
    obtain ⟨ag, A, c, rfl, hna, hba, hra, hca⟩ := o1.lt
    have HE : Hid (∀ (R : Ending → World → Prop), (∀ w', Kp [] w w' → R (.returned (.bool (endsB a))) w') → Calls Tryz.prog 35 #[.pointer (some ⟨ag, 0, none⟩)] w R) := Lib.hid (fun R h => ends_any a hba h)
    obtain ⟨e, he⟩ : ∃ e, endsB a = e := ⟨_, rfl⟩
    unfold doneS at H
    simp only at H
    rw [he] at HE H
    clear b1 o1 hba hra hca he
    go_enter Tryz.func26, Tryz.ntmps26
    go_wp2_with (go_at_call 35; ((refine HE.out _ ?_); intro w1 k1; have bt1 := HB.out.kp k1 (by simp); have y1 : w1.cell? ⟨tg, 1, none⟩ = some (.pointer (some ⟨ag, 0, none⟩)) := bt1.cell 1; have y2 : w1.cell? ⟨tg, 2, none⟩ = some (.bool over) := bt1.cell 2; have g1 := bt1.frozen 1; have g2 := bt1.frozen 2))
    go_end0
    have ks : Kp [tg] w1 ((w1.setCell ⟨tg, 2, none⟩ (.bool e)).setCell ⟨tg, 1, none⟩ (.pointer none)) := ((Kp.refl _ _).setCell (.inl (by simp)) _).setCell (.inl (by simp)) _
    have kk : Kp [tg, pg] w ((w1.setCell ⟨tg, 2, none⟩ (.bool e)).setCell ⟨tg, 1, none⟩ (.pointer none)) := (k1.mono (by simp)).thn ks (fun s hs => .inl (by simp at hs; simp [hs]))
    exact H.out _ (HT.out.step ⟨hne, Bk.kp (Bk.kp hps.out k1 (by simp)) ks (by simp; omega), none, ((bt1.set_ 2 _).set_ 1 _).cast rfl, rfl⟩ kk) kk
theorem sover_any (ht : Tk w tg pg s) (h : R (.returned (.bool s.over)) w) : Calls Tryz.prog 27 #[.pointer (some ⟨tg, 0, none⟩)] w R := by
  have H := Lib.hid h
  obtain ⟨oa, b1, o1⟩ := ht.tk
  have t2 : w.cell? ⟨tg, 2, none⟩ = some (.bool s.over) := b1.cell 2
  clear h ht b1 o1
  go_enter Tryz.func27, Tryz.ntmps27
  go_wp2
  exact H.out
theorem sover_nil (h : R (.returned (.bool false)) w) : Calls Tryz.prog 27 #[.pointer none] w R := by
  have H := Lib.hid h
  clear h
  go_enter Tryz.func27, Tryz.ntmps27
  go_wp2
  exact H.out
theorem sdone_nil (h : R (.returned (.tuple #[])) w) : Calls Tryz.prog 26 #[.pointer none] w R := by
  have H := Lib.hid h
  clear h
  go_enter Tryz.func26, Tryz.ntmps26
  go_wp2
  go_end0
  exact H.out
end
end
/-! ### serve: Plan. -/
section
open Go.RowKit Go.Shelf
set_option linter.unusedVariables false
set_option linter.unusedSimpArgs false
set_option maxRecDepth 100000
/-- What a plan tells: status, head, parts, does it close. -/
noncomputable def planT (a : AskP) (there : Bool) (v mt len : Int) (kd : List UInt8) (now : Int) : Int × List UInt8 × List Pt × Bool :=
  if a.2.1 = 0 then ((chooseM a.2.2 (there && !(a.1 == [])) v mt len).1, ofH a.2.2 (there && !(a.1 == [])) v mt len kd now, ofP a.2.2 (there && !(a.1 == [])) v mt len kd, a.2.2.close || (chooseM a.2.2 (there && !(a.1 == [])) v mt len).1 == 400)
  else (wrS a.2.1, wrH a.2.1 now, partsG (wrS a.2.1) 0 [] [], true)
/-- A request whose fields are few and short. -/
def okR (r : Req) : Prop := r.fs.length ≤ 2000 ∧ ∀ nm, (allF r.fs nm).length ≤ 2000000
section
variable {R : Ending → World → Prop} {w0 w : World} {tg pg : Nat} {s : TkS}
theorem splan_nil (there : Bool) (v mt len now : Int) (kd : List UInt8) (h : ∀ w', Kp [] w w' → R (.returned (.agg #[.int .i64 0, .string ⟨#[]⟩, .slice none 0 0, .bool false])) w') : Calls Tryz.prog 23 #[.pointer none, .bool there, .agg #[.int .i64 v, .int .i64 mt, .int .i64 len, .string (S kd)], .int .i64 now] w R := by
  have H := Lib.hid h
  clear h
  go_enter Tryz.func23, Tryz.ntmps23
  go_wp2
  exact bodyPost_ret (v := .agg #[.int .i64 0, .string ⟨#[]⟩, .slice none 0 0, .bool false]) (by simp [results, Tryz.results23, go_sem]; try rfl) rfl (H.out _ (((Kp.refl _ _).alloc _).alloc _))
theorem splan_none (ht : Tk w tg pg s) (hs : s.op = none) (there : Bool) (v mt len now : Int) (kd : List UInt8) (h : ∀ w', Kp [] w w' → R (.returned (.agg #[.int .i64 0, .string ⟨#[]⟩, .slice none 0 0, .bool false])) w') : Calls Tryz.prog 23 #[.pointer (some ⟨tg, 0, none⟩), .bool there, .agg #[.int .i64 v, .int .i64 mt, .int .i64 len, .string (S kd)], .int .i64 now] w R := by
  have H := Lib.hid h
  obtain ⟨oa, b1, o1⟩ := ht.tk
  rw [hs] at o1
  have hoa : oa = none := o1
  subst hoa
  have t1 : w.cell? ⟨tg, 1, none⟩ = some (.pointer none) := b1.cell 1
  have hlt := b1.lt
  clear h ht b1 o1
  go_enter Tryz.func23, Tryz.ntmps23
  go_wp2
  exact bodyPost_ret (v := .agg #[.int .i64 0, .string ⟨#[]⟩, .slice none 0 0, .bool false]) (by simp [results, Tryz.results23, go_sem]; try rfl) rfl (H.out _ (((Kp.refl _ _).alloc _).alloc _))
set_option maxHeartbeats 8000000 in
theorem splan_any (hw : Lw w0) (ht : TB w0 w tg pg s) {a : AskP} (hs : s.op = some a) (hok : okR a.2.2) (there : Bool) (v mt len now : Int) (kd : List UInt8) (hv : 0 ≤ v ∧ v ≤ 9223372036854775807) (hmt : 0 ≤ mt ∧ mt ≤ 9223372036854775807) (hlen : 0 ≤ len ∧ len ≤ 35184372088832) (hkd : kd.length ≤ 300)
    (h : ∀ A n c w', Kp [] w w' → Hid (Rd w' [] A ((planT a there v mt len kd now).2.2.1.flatMap ptV) ∧ (planT a there v mt len kd now).2.2.1.length = n ∧ n ≤ 21) → R (.returned (.agg #[.int .i64 (planT a there v mt len kd now).1, .string (S (planT a there v mt len kd now).2.1), .slice A n c, .bool (planT a there v mt len kd now).2.2.2])) w') :
    Calls Tryz.prog 23 #[.pointer (some ⟨tg, 0, none⟩), .bool there, .agg #[.int .i64 v, .int .i64 mt, .int .i64 len, .string (S kd)], .int .i64 now] w R := by
  have H := Lib.hid h
  obtain ⟨oa, b1, o1⟩ := ht.tk.tk
  rw [hs] at o1
  obtain ⟨ag, A, c, rfl, hna, hba, hra, hca⟩ := o1.lt
  have hlw := hw.kp ht.kp
  have HB := Lib.hid b1
  have HA := Lib.hid hba
  obtain ⟨nm, st, r⟩ := a
  simp only at hba hra hca hok
  have hlt := b1.lt
  have hla := hba.lt
  unfold planT at H
  simp only at H
  clear h
  by_cases h0 : st = 0
  · subst h0
    rw [if_pos rfl] at H
    simp only at H
    have HOf : Hid (∀ (R : Ending → World → Prop) (w1 : World), Kp [] w w1 → (∀ A' n c' w', Kp [] w1 w' → Hid (Rd w' [] A' ((ofP r (there && !(nm == [])) v mt len kd).flatMap ptV) ∧ (ofP r (there && !(nm == [])) v mt len kd).length = n ∧ n ≤ 21) → R (.returned (.agg #[.int .i64 (chooseM r (there && !(nm == [])) v mt len).1, .string (S (ofH r (there && !(nm == [])) v mt len kd now)), .slice A' n c', .bool (r.close || (chooseM r (there && !(nm == [])) v mt len).1 == 400)])) w') → Calls Tryz.prog 11 #[.agg #[.string (S r.m), .string (S r.t), .int .i64 r.minor, .slice A r.fs.length c, .bool r.close], .bool (there && !(nm == [])), .agg #[.int .i64 v, .int .i64 mt, .int .i64 len, .string (S kd)], .int .i64 now] w1 R) := Lib.hid (fun R w1 k h => rof_gen r _ v mt len kd now ((hra.sub (by simp)).kp k (by simp)) hok.1 hca hv hmt hlen hkd (hlw.kp k) hok.2 h)
    obtain ⟨st2, e1⟩ : ∃ x, (chooseM r (there && !(nm == [])) v mt len).1 = x := ⟨_, rfl⟩
    obtain ⟨hd, e2⟩ : ∃ x, ofH r (there && !(nm == [])) v mt len kd now = x := ⟨_, rfl⟩
    obtain ⟨ps, e3⟩ : ∃ x, ofP r (there && !(nm == [])) v mt len kd = x := ⟨_, rfl⟩
    obtain ⟨cl, e4⟩ : ∃ x, (r.close || st2 == 400) = x := ⟨_, rfl⟩
    rw [e1] at H HOf
    rw [e4] at H HOf
    rw [e2, e3] at H HOf
    obtain ⟨ne, hne⟩ : ∃ x, (nm == []) = x := ⟨_, rfl⟩
    rw [hne] at HOf
    clear e1 e2 e3 e4 ht hs b1 o1 hba hra hca hok
    go_enter Tryz.func23, Tryz.ntmps23
    go_upto_region 1 with (fail)
    refine gen_worldC (fun W => ∃ g1 rb, w.heap.size = g1 ∧ g1 + 1 = rb ∧ Hid (Kp [] w W ∧ Bk W g1 37 [.int .i64 v, .int .i64 mt, .int .i64 len, .string (S kd)] ∧ Bk W rb 31 [.int .i64 0, .string ⟨#[]⟩, .slice none 0 0, .bool false])) ⟨_, _, rfl, rfl, Lib.hid ⟨((Kp.refl _ _).alloc _).alloc _, ((Bk.new' _ _ _).alloc _).cast rfl, (Bk.newAt (by simp) _ _).cast rfl⟩⟩ ?_
    rintro W ⟨g1, rb, hg1, hrb, hW⟩
    rw [hg1, hrb]
    have HRB : Hid (w.heap.size ≤ g1 ∧ g1 < rb) := Lib.hid (by omega)
    have HS : Hid (∀ W', Kp [rb] W W' → W'.cell? ⟨tg, 1, none⟩ = some (.pointer (some ⟨ag, 0, none⟩)) ∧ (W'.cell? ⟨ag, 0, none⟩ = some (.string (S nm)) ∧ W'.cell? ⟨ag, 1, none⟩ = some (.int .i64 0) ∧ W'.cell? ⟨ag, 2, none⟩ = some (.string (S r.m)) ∧ W'.cell? ⟨ag, 3, none⟩ = some (.string (S r.t)) ∧ W'.cell? ⟨ag, 4, none⟩ = some (.int .i64 r.minor) ∧ W'.cell? ⟨ag, 5, none⟩ = some (.slice A r.fs.length c) ∧ W'.cell? ⟨ag, 6, none⟩ = some (.bool r.close)) ∧ (W'.cell? ⟨g1, 0, none⟩ = some (.int .i64 v) ∧ W'.cell? ⟨g1, 1, none⟩ = some (.int .i64 mt) ∧ W'.cell? ⟨g1, 2, none⟩ = some (.int .i64 len) ∧ W'.cell? ⟨g1, 3, none⟩ = some (.string (S kd)))) := Lib.hid (fun W' k' => ⟨((HB.out.kp hW.out.1 (by simp)).kp k' (by have := HRB.out; simp; omega)).cell 1, (bk7r ((HA.out.kp hW.out.1 (by simp)).kp k' (by have := HRB.out; simp; omega))).1, (bk4r (hW.out.2.1.kp k' (by have := HRB.out; simp; omega))).1⟩)
    clear hg1 hrb
    obtain ⟨t1, ⟨a0, a1, a2, a3, a4, a5, a6⟩, ⟨q0, q1, q2, q3⟩⟩ := HS.out W (Kp.refl _ _)
    go_upto_region 5 with (fail)
    have HWD : Hid (Kp [] W W.drew) := Lib.hid (Kp.refl _ _).drew
    have HWDm : Hid (Kp [rb] W W.drew) := Lib.hid (Kp.refl _ _).drew
    have HPB : Hid (∀ W', Kp [] W W' → Bk W' rb 31 [.int .i64 0, .string ⟨#[]⟩, .slice none 0 0, .bool false]) := Lib.hid (fun W' k => hW.out.2.2.kp k (by simp))
    have HOf2 : Hid (∀ (b : Bool), (there && !ne) = b → ∀ (R : Ending → World → Prop), (∀ A' n c' w', Kp [] W w' → Hid (Rd w' [] A' (ps.flatMap ptV) ∧ ps.length = n ∧ n ≤ 21) → R (.returned (.agg #[.int .i64 st2, .string (S hd), .slice A' n c', .bool cl])) w') → Calls Tryz.prog 11 #[.agg #[.string (S r.m), .string (S r.t), .int .i64 r.minor, .slice A r.fs.length c, .bool r.close], .bool b, .agg #[.int .i64 v, .int .i64 mt, .int .i64 len, .string (S kd)], .int .i64 now] W.drew R) := Lib.hid (fun b e R h => by rw [← e]; exact HOf.out R _ (hW.out.1.trans HWD.out) (fun A' n c' w' k hh => h A' n c' w' (HWD.out.trans k) hh))
    clear HOf
    cases there with
    | true =>
      have HOf3 := Lib.hid (HOf2.out (!ne) rfl)
      clear HOf2
      have hne2 : ((nm == []) = ne) := hne
      go_region_held_law (fun W' => W'.cell? ⟨tg, 1, none⟩ = some (.pointer (some ⟨ag, 0, none⟩)) ∧ (W'.cell? ⟨ag, 0, none⟩ = some (.string (S nm)) ∧ W'.cell? ⟨ag, 1, none⟩ = some (.int .i64 0) ∧ W'.cell? ⟨ag, 2, none⟩ = some (.string (S r.m)) ∧ W'.cell? ⟨ag, 3, none⟩ = some (.string (S r.t)) ∧ W'.cell? ⟨ag, 4, none⟩ = some (.int .i64 r.minor) ∧ W'.cell? ⟨ag, 5, none⟩ = some (.slice A r.fs.length c) ∧ W'.cell? ⟨ag, 6, none⟩ = some (.bool r.close)) ∧ (W'.cell? ⟨g1, 0, none⟩ = some (.int .i64 v) ∧ W'.cell? ⟨g1, 1, none⟩ = some (.int .i64 mt) ∧ W'.cell? ⟨g1, 2, none⟩ = some (.int .i64 len) ∧ W'.cell? ⟨g1, 3, none⟩ = some (.string (S kd)))) (first | with_reducible exact HS.out _ kk5m | with_reducible exact HS.out _ HWDm.out | (refine HS.out _ ?_; repeat (first | with_reducible exact kk5m | refine Kp.setCell ?_ (.inl (by simp)) _))) (first | (go_simp; go_at_call 11; (refine HOf3.out _ ?_); intro A5 n5 c5 w5 kk5 h5; have kk5m : Kp [rb] W w5 := kk5.mono (by simp); have br := HPB.out _ kk5; obtain ⟨⟨s0, s1, s2, s3⟩, ⟨f0, f1, f2, f3⟩⟩ := bk4r br))
      all_goals
        go_wp2
        obtain ⟨W', hW', kW, bW⟩ := put4 br (.int .i64 st2) (.string (S hd)) (.slice A5 n5 c5) (.bool cl)
        rw [hW']
        obtain ⟨⟨c0, c1, c2, c3⟩, _⟩ := bk4r bW
        have kF : Kp [] w W' := (hW.out.1.trans kk5).thn kW (fun s hs => .inr (by have := HRB.out; simp at hs; omega))
        exact bodyPost_ret (v := .agg #[.int .i64 st2, .string (S hd), .slice A5 n5 c5, .bool cl]) (by simp [results, Tryz.results23, go_sem, c0, c1, c2, c3]; try rfl) rfl (H.out A5 n5 c5 _ kF (Lib.hid ⟨((rd_notP h5.out.1 br).kp kW (by simp)).sub (by simp), h5.out.2⟩))
    | false =>
      have HOf3 := Lib.hid (HOf2.out false rfl)
      clear HOf2
      refine wp_region_held_drew (S := fun W' => W'.cell? ⟨tg, 1, none⟩ = some (.pointer (some ⟨ag, 0, none⟩)) ∧ (W'.cell? ⟨ag, 0, none⟩ = some (.string (S nm)) ∧ W'.cell? ⟨ag, 1, none⟩ = some (.int .i64 0) ∧ W'.cell? ⟨ag, 2, none⟩ = some (.string (S r.m)) ∧ W'.cell? ⟨ag, 3, none⟩ = some (.string (S r.t)) ∧ W'.cell? ⟨ag, 4, none⟩ = some (.int .i64 r.minor) ∧ W'.cell? ⟨ag, 5, none⟩ = some (.slice A r.fs.length c) ∧ W'.cell? ⟨ag, 6, none⟩ = some (.bool r.close)) ∧ (W'.cell? ⟨g1, 0, none⟩ = some (.int .i64 v) ∧ W'.cell? ⟨g1, 1, none⟩ = some (.int .i64 mt) ∧ W'.cell? ⟨g1, 2, none⟩ = some (.int .i64 len) ∧ W'.cell? ⟨g1, 3, none⟩ = some (.string (S kd)))) (by kernel_rfl) (HS.out _ HWDm.out) (fun hHeld => ?_)
      refine wpAnyH_take (i := 0) (oi := { dst := some 38, op := Op.move (Operand.tmp 0), type := 49, pos := "serve.go:74", after := #[], guard := none }) (v := ?_) rfl (by kernel_rfl) (by kernel_rfl) (by kernel_rfl) (fun _ _ _ h => h) (Or.inl ⟨by rfl, ?_⟩) hHeld ?_
      rotate_left
      · intro w hSw; (try dsimp only at hSw); go_split_ands; go_simp; (try with_reducible rfl)
      (try simp only [Act.put, List.setIfInBounds_toArray, List.set_cons_zero, List.set_cons_succ])
      refine wpAnyH_take (i := 1) (oi := { dst := some 39, op := Op.nilCheck (Operand.tmp 38), type := 0, pos := "serve.go:74", after := #[{ on := 0, ground := Ground.data }], guard := none }) (v := ?_) rfl (by kernel_rfl) (by kernel_rfl) (by kernel_rfl) (fun _ _ _ h => h) (Or.inl ⟨by rfl, ?_⟩) hHeld ?_
      rotate_left
      · intro w hSw; (try dsimp only at hSw); go_split_ands; go_simp; (try with_reducible rfl)
      (try simp only [Act.put, List.setIfInBounds_toArray, List.set_cons_zero, List.set_cons_succ])
      refine wpAnyH_take (i := 2) (oi := { dst := some 40, op := Op.fieldAddr 85 (Operand.tmp 39) 1, type := 0, pos := "serve.go:74", after := #[{ on := 1, ground := Ground.data }], guard := none }) (v := ?_) rfl (by kernel_rfl) (by kernel_rfl) (by kernel_rfl) (fun _ _ _ h => h) (Or.inl ⟨by rfl, ?_⟩) hHeld ?_
      rotate_left
      · intro w hSw; (try dsimp only at hSw); go_split_ands; go_simp; (try with_reducible rfl)
      (try simp only [Act.put, List.setIfInBounds_toArray, List.set_cons_zero, List.set_cons_succ])
      refine wpAnyH_take (i := 3) (oi := { dst := some 41, op := Op.load 83 (Operand.tmp 40), type := 83, pos := "serve.go:74", after := #[{ on := 2, ground := Ground.data }], guard := none }) (v := ?_) rfl (by kernel_rfl) (by kernel_rfl) (by kernel_rfl) (fun _ _ _ h => h) (Or.inl ⟨by rfl, ?_⟩) hHeld ?_
      rotate_left
      · intro w hSw; (try dsimp only at hSw); go_split_ands; go_simp; (try with_reducible rfl)
      (try simp only [Act.put, List.setIfInBounds_toArray, List.set_cons_zero, List.set_cons_succ])
      refine wpAnyH_take (i := 4) (oi := { dst := some 42, op := Op.nilCheck (Operand.tmp 41), type := 0, pos := "serve.go:74", after := #[{ on := 3, ground := Ground.data }], guard := none }) (v := ?_) rfl (by kernel_rfl) (by kernel_rfl) (by kernel_rfl) (fun _ _ _ h => h) (Or.inl ⟨by rfl, ?_⟩) hHeld ?_
      rotate_left
      · intro w hSw; (try dsimp only at hSw); go_split_ands; go_simp; (try with_reducible rfl)
      (try simp only [Act.put, List.setIfInBounds_toArray, List.set_cons_zero, List.set_cons_succ])
      refine wpAnyH_take (i := 5) (oi := { dst := some 43, op := Op.fieldAddr 54 (Operand.tmp 42) 2, type := 0, pos := "serve.go:74", after := #[{ on := 4, ground := Ground.data }], guard := none }) (v := ?_) rfl (by kernel_rfl) (by kernel_rfl) (by kernel_rfl) (fun _ _ _ h => h) (Or.inl ⟨by rfl, ?_⟩) hHeld ?_
      rotate_left
      · intro w hSw; (try dsimp only at hSw); go_split_ands; go_simp; (try with_reducible rfl)
      (try simp only [Act.put, List.setIfInBounds_toArray, List.set_cons_zero, List.set_cons_succ])
      refine wpAnyH_take (i := 6) (oi := { dst := some 44, op := Op.load 35 (Operand.tmp 43), type := 35, pos := "serve.go:74", after := #[{ on := 5, ground := Ground.data }], guard := none }) (v := ?_) rfl (by kernel_rfl) (by kernel_rfl) (by kernel_rfl) (fun _ _ _ h => h) (Or.inl ⟨by rfl, ?_⟩) hHeld ?_
      rotate_left
      · intro w hSw; (try dsimp only at hSw); go_split_ands; go_simp; (try with_reducible rfl)
      (try simp only [Act.put, List.setIfInBounds_toArray, List.set_cons_zero, List.set_cons_succ])
      refine wpAnyH_take (i := 7) (oi := { dst := some 45, op := Op.move (Operand.tmp 1), type := 4, pos := "serve.go:74", after := #[], guard := none }) (v := ?_) rfl (by kernel_rfl) (by kernel_rfl) (by kernel_rfl) (fun _ _ _ h => h) (Or.inl ⟨by rfl, ?_⟩) hHeld ?_
      rotate_left
      · intro w hSw; (try dsimp only at hSw); go_split_ands; go_simp; (try with_reducible rfl)
      (try simp only [Act.put, List.setIfInBounds_toArray, List.set_cons_zero, List.set_cons_succ])
      refine wpAnyH_take (i := 8) (oi := { dst := some 46, op := Op.move (Operand.tmp 45), type := 4, pos := "serve.go:74", after := #[{ on := 7, ground := Ground.data }], guard := none }) (v := ?_) rfl (by kernel_rfl) (by kernel_rfl) (by kernel_rfl) (fun _ _ _ h => h) (Or.inl ⟨by rfl, ?_⟩) hHeld ?_
      rotate_left
      · intro w hSw; (try dsimp only at hSw); go_split_ands; go_simp; (try with_reducible rfl)
      (try simp only [Act.put, List.setIfInBounds_toArray, List.set_cons_zero, List.set_cons_succ])
      refine wpAnyH_take (i := 9) (oi := { dst := some 47, op := Op.move (Operand.tmp 0), type := 49, pos := "serve.go:74", after := #[{ on := 8, ground := Ground.guard }], guard := some (8, true) }) (v := undef) rfl (by kernel_rfl) (by kernel_rfl) (by kernel_rfl) (fun _ _ _ h => h) (Or.inr ⟨by rfl, rfl⟩) hHeld ?_
      (try simp only [Act.put, List.setIfInBounds_toArray, List.set_cons_zero, List.set_cons_succ])
      refine wpAnyH_take (i := 10) (oi := { dst := some 48, op := Op.nilCheck (Operand.tmp 47), type := 0, pos := "serve.go:74", after := #[{ on := 9, ground := Ground.data }, { on := 8, ground := Ground.guard }], guard := some (8, true) }) (v := undef) rfl (by kernel_rfl) (by kernel_rfl) (by kernel_rfl) (fun _ _ _ h => h) (Or.inr ⟨by rfl, rfl⟩) hHeld ?_
      (try simp only [Act.put, List.setIfInBounds_toArray, List.set_cons_zero, List.set_cons_succ])
      refine wpAnyH_take (i := 11) (oi := { dst := some 49, op := Op.fieldAddr 85 (Operand.tmp 48) 1, type := 0, pos := "serve.go:74", after := #[{ on := 10, ground := Ground.data }, { on := 8, ground := Ground.guard }], guard := some (8, true) }) (v := undef) rfl (by kernel_rfl) (by kernel_rfl) (by kernel_rfl) (fun _ _ _ h => h) (Or.inr ⟨by rfl, rfl⟩) hHeld ?_
      (try simp only [Act.put, List.setIfInBounds_toArray, List.set_cons_zero, List.set_cons_succ])
      refine wpAnyH_take (i := 12) (oi := { dst := some 50, op := Op.load 83 (Operand.tmp 49), type := 83, pos := "serve.go:74", after := #[{ on := 11, ground := Ground.data }, { on := 8, ground := Ground.guard }], guard := some (8, true) }) (v := undef) rfl (by kernel_rfl) (by kernel_rfl) (by kernel_rfl) (fun _ _ _ h => h) (Or.inr ⟨by rfl, rfl⟩) hHeld ?_
      (try simp only [Act.put, List.setIfInBounds_toArray, List.set_cons_zero, List.set_cons_succ])
      refine wpAnyH_take (i := 13) (oi := { dst := some 51, op := Op.nilCheck (Operand.tmp 50), type := 0, pos := "serve.go:74", after := #[{ on := 12, ground := Ground.data }, { on := 8, ground := Ground.guard }], guard := some (8, true) }) (v := undef) rfl (by kernel_rfl) (by kernel_rfl) (by kernel_rfl) (fun _ _ _ h => h) (Or.inr ⟨by rfl, rfl⟩) hHeld ?_
      (try simp only [Act.put, List.setIfInBounds_toArray, List.set_cons_zero, List.set_cons_succ])
      refine wpAnyH_take (i := 14) (oi := { dst := some 52, op := Op.fieldAddr 54 (Operand.tmp 51) 0, type := 0, pos := "serve.go:74", after := #[{ on := 13, ground := Ground.data }, { on := 8, ground := Ground.guard }], guard := some (8, true) }) (v := undef) rfl (by kernel_rfl) (by kernel_rfl) (by kernel_rfl) (fun _ _ _ h => h) (Or.inr ⟨by rfl, rfl⟩) hHeld ?_
      (try simp only [Act.put, List.setIfInBounds_toArray, List.set_cons_zero, List.set_cons_succ])
      refine wpAnyH_take (i := 15) (oi := { dst := some 53, op := Op.load 9 (Operand.tmp 52), type := 9, pos := "serve.go:74", after := #[{ on := 14, ground := Ground.data }, { on := 8, ground := Ground.guard }], guard := some (8, true) }) (v := undef) rfl (by kernel_rfl) (by kernel_rfl) (by kernel_rfl) (fun _ _ _ h => h) (Or.inr ⟨by rfl, rfl⟩) hHeld ?_
      (try simp only [Act.put, List.setIfInBounds_toArray, List.set_cons_zero, List.set_cons_succ])
      refine wpAnyH_take (i := 16) (oi := { dst := some 54, op := Op.binOp BinOp.neq 9 (Operand.tmp 53) (Operand.const (Value.string { data := #[] })) 9, type := 4, pos := "serve.go:74", after := #[{ on := 15, ground := Ground.data }, { on := 8, ground := Ground.guard }], guard := some (8, true) }) (v := undef) rfl (by kernel_rfl) (by kernel_rfl) (by kernel_rfl) (fun _ _ _ h => h) (Or.inr ⟨by rfl, rfl⟩) hHeld ?_
      (try simp only [Act.put, List.setIfInBounds_toArray, List.set_cons_zero, List.set_cons_succ])
      refine wpAnyH_take (i := 17) (oi := { dst := some 55, op := Op.pick (Operand.tmp 46) (Operand.tmp 54) (Operand.const (Value.bool false)), type := 4, pos := "serve.go:74", after := #[{ on := 8, ground := Ground.data }, { on := 16, ground := Ground.data }], guard := none }) (v := ?_) rfl (by kernel_rfl) (by kernel_rfl) (by kernel_rfl) (fun _ _ _ h => h) (Or.inl ⟨by rfl, ?_⟩) hHeld ?_
      rotate_left
      · intro w hSw; (try dsimp only at hSw); go_split_ands; go_simp; (try with_reducible rfl)
      (try simp only [Act.put, List.setIfInBounds_toArray, List.set_cons_zero, List.set_cons_succ])
      refine wpAnyH_take (i := 18) (oi := { dst := some 56, op := Op.load 37 (Operand.tmp 6), type := 37, pos := "serve.go:74", after := #[], guard := none }) (v := ?_) rfl (by kernel_rfl) (by kernel_rfl) (by kernel_rfl) (fun _ _ _ h => h) (Or.inl ⟨by rfl, ?_⟩) hHeld ?_
      rotate_left
      · intro w hSw; (try dsimp only at hSw); go_split_ands; go_simp; (try with_reducible rfl)
      (try simp only [Act.put, List.setIfInBounds_toArray, List.set_cons_zero, List.set_cons_succ])
      refine wpAnyH_take (i := 19) (oi := { dst := some 57, op := Op.move (Operand.tmp 3), type := 2, pos := "serve.go:74", after := #[], guard := none }) (v := ?_) rfl (by kernel_rfl) (by kernel_rfl) (by kernel_rfl) (fun _ _ _ h => h) (Or.inl ⟨by rfl, ?_⟩) hHeld ?_
      rotate_left
      · intro w hSw; (try dsimp only at hSw); go_split_ands; go_simp; (try with_reducible rfl)
      (try simp only [Act.put, List.setIfInBounds_toArray, List.set_cons_zero, List.set_cons_succ])
      refine wpAnyH_ready (rs := [20]) (by kernel_rfl) (by simp) ?_
      refine AllReadyH.cons rfl (fun K hK => ?_) AllReadyH.nil
      rw [if_pos (by rfl)]
      go_simp
      go_at_call 11
      refine HOf3.out _ ?_
      intro A5 n5 c5 w5 kk5 h5
      have kk5m : Kp [rb] W w5 := kk5.mono (by simp)
      have br := HPB.out _ kk5
      obtain ⟨⟨s0, s1, s2, s3⟩, ⟨f0, f1, f2, f3⟩⟩ := bk4r br
      go_wp2
      refine hK.out _ _ (HS.out _ kk5m) (fun hHeld => ?_)
      clear hK K
      (try simp only [Act.put, List.setIfInBounds_toArray, List.set_cons_zero, List.set_cons_succ])
      refine wpAnyH_ready (rs := [21]) (by kernel_rfl) (by simp) ?_
      refine AllReadyH.cons rfl (fun K hK => ?_) AllReadyH.nil
      rw [if_pos (by rfl)]
      go_simp
      refine hK.out _ _ (HS.out _ ((((kk5m.setCell (.inl (by simp)) _).setCell (.inl (by simp)) _).setCell (.inl (by simp)) _).setCell (.inl (by simp)) _)) (fun hHeld => ?_)
      clear hK K
      (try simp only [Act.put, List.setIfInBounds_toArray, List.set_cons_zero, List.set_cons_succ])
      refine wpAnyH_done (by kernel_rfl) ?_ _
      go_wp2
      obtain ⟨W', hW', kW, bW⟩ := put4 br (.int .i64 st2) (.string (S hd)) (.slice A5 n5 c5) (.bool cl)
      rw [hW']
      obtain ⟨⟨c0, c1, c2, c3⟩, _⟩ := bk4r bW
      have kF : Kp [] w W' := (hW.out.1.trans kk5).thn kW (fun s hs => .inr (by have := HRB.out; simp at hs; omega))
      exact bodyPost_ret (v := .agg #[.int .i64 st2, .string (S hd), .slice A5 n5 c5, .bool cl]) (by simp [results, Tryz.results23, go_sem, c0, c1, c2, c3]; try rfl) rfl (H.out A5 n5 c5 _ kF (Lib.hid ⟨((rd_notP h5.out.1 br).kp kW (by simp)).sub (by simp), h5.out.2⟩))
  · have hz : (st != 0) = true := by simpa using h0
    rw [if_neg h0] at H
    simp only at H
    have HWr : Hid (∀ (R : Ending → World → Prop) (w1 : World), Kp [] w w1 → (∀ A n c w', Kp [] w1 w' → Hid (Rd w' [] A ((partsG (wrS st) 0 [] []).flatMap ptV) ∧ (partsG (wrS st) 0 [] []).length = n ∧ n ≤ 21) → R (.returned (.agg #[.int .i64 (wrS st), .string (S (wrH st now)), .slice A n c, .bool true])) w') → Calls Tryz.prog 15 #[.int .i64 st, .int .i64 now] w1 R) := Lib.hid (fun R w1 k h => rwrong_gen st now (hlw.kp k) h)
    obtain ⟨st2, e1⟩ : ∃ x, wrS st = x := ⟨_, rfl⟩
    obtain ⟨hd, e2⟩ : ∃ x, wrH st now = x := ⟨_, rfl⟩
    obtain ⟨ps, e3⟩ : ∃ x, partsG (wrS st) 0 [] [] = x := ⟨_, rfl⟩
    rw [e2, e3] at H HWr
    rw [e1] at H HWr
    clear e1 e2 e3 ht hs b1 o1 hba hra hca hok h0
    go_enter Tryz.func23, Tryz.ntmps23
    go_upto_region 1 with (fail)
    refine gen_worldC (fun W => ∃ g1 rb, w.heap.size = g1 ∧ g1 + 1 = rb ∧ Hid (Kp [] w W ∧ Bk W rb 31 [.int .i64 0, .string ⟨#[]⟩, .slice none 0 0, .bool false])) ⟨_, _, rfl, rfl, Lib.hid ⟨((Kp.refl _ _).alloc _).alloc _, (Bk.newAt (by simp) _ _).cast rfl⟩⟩ ?_
    rintro W ⟨g1, rb, hg1, hrb, hW⟩
    rw [hg1, hrb]
    have HRB : Hid (w.heap.size ≤ g1 ∧ g1 < rb) := Lib.hid (by omega)
    have t1 : W.cell? ⟨tg, 1, none⟩ = some (.pointer (some ⟨ag, 0, none⟩)) := (HB.out.kp hW.out.1 (by simp)).cell 1
    have a1 : W.cell? ⟨ag, 1, none⟩ = some (.int .i64 st) := (HA.out.kp hW.out.1 (by simp)).cell 1
    clear hg1 hrb
    go_wp2_with (go_at_call 15; ((refine HWr.out _ _ hW.out.1 ?_); intro A5 n5 c5 w5 kk5 h5; have br := hW.out.2.kp kk5 (by simp); obtain ⟨⟨s0, s1, s2, s3⟩, ⟨f0, f1, f2, f3⟩⟩ := bk4r br))
    obtain ⟨W', hW', kW, bW⟩ := put4 br (.int .i64 st2) (.string (S hd)) (.slice A5 n5 c5) (.bool true)
    rw [hW']
    obtain ⟨⟨c0, c1, c2, c3⟩, _⟩ := bk4r bW
    have kF : Kp [] w W' := (hW.out.1.trans kk5).thn kW (fun s hs => .inr (by have := HRB.out; simp at hs; omega))
    exact bodyPost_ret (v := .agg #[.int .i64 st2, .string (S hd), .slice A5 n5 c5, .bool true]) (by simp [results, Tryz.results23, go_sem, c0, c1, c2, c3]; try rfl) rfl (H.out A5 n5 c5 _ kF (Lib.hid ⟨((rd_notP h5.out.1 br).kp kW (by simp)).sub (by simp), h5.out.2⟩))
end
end
end Go.Proofs.YtnmafahbdfilcaaGreatDoor
