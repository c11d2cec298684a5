/- path.Target, path.Kind. A scope whose one label is jumped to from ahead: the rest behind the label is walked at each jump. bytes.Clone, over slices of bytes. Drawn regions whose callees write nowhere but in blocks of their own: the class of worlds that keep all there was. path.Of. Decimal numbers; rows of texts; what is joined. -/
import Derived.Test.YtnmafahbdfilcaaGreatDoorPA1
import Derived.ScopeJumps
import Derived.WalkMore
import Derived.Test.YtnmafahbdfilcaaGreatDoorRows
import Derived.Lib.SliceRun
import Derived.Lib.ConvBytes
import Derived.Lib.BufferRead
import Derived.Deep.QuietTactic
import Derived.IntWalk
import Derived.Test.YtnmafahbdfilcaaGreatDoorShelfI
import Derived.Lib.SmallJoins
namespace Go.Proofs.YtnmafahbdfilcaaGreatDoor
/-! ### path.Target, path.Kind. -/
section
open Go.RowKit
set_option linter.unusedVariables false
set_option maxRecDepth 100000

theorem last_j (l : List UInt8) (c : UInt8) : ∃ j : Nat, Lib.lastIndex l [c] = (j : Int) - 1 ∧ j ≤ l.length ∧ l.drop j = lst c l := by
  have h := last_lst l c
  rcases last_cases l c with ⟨e, _⟩ | ⟨i, e, hi, _⟩
  · exact ⟨0, by rw [e]; rfl, Nat.zero_le _, by rw [← h, e]; rfl⟩
  · exact ⟨i + 1, by rw [e]; omega, hi, by rw [← h, e]; rfl⟩
def octS : List UInt8 := [97, 112, 112, 108, 105, 99, 97, 116, 105, 111, 110, 47, 111, 99, 116, 101, 116, 45, 115, 116, 114, 101, 97, 109]
def extK (x : List UInt8) : List UInt8 :=
  if x = [104, 116, 109, 108] then [116, 101, 120, 116, 47, 104, 116, 109, 108] else if x = [99, 115, 115] then [116, 101, 120, 116, 47, 99, 115, 115] else if x = [116, 120, 116] then [116, 101, 120, 116, 47, 112, 108, 97, 105, 110] else if x = [106, 115] then [116, 101, 120, 116, 47, 106, 97, 118, 97, 115, 99, 114, 105, 112, 116] else if x = [112, 110, 103] then [105, 109, 97, 103, 101, 47, 112, 110, 103] else if x = [106, 115, 111, 110] then [97, 112, 112, 108, 105, 99, 97, 116, 105, 111, 110, 47, 106, 115, 111, 110] else octS
def kindL (l : List UInt8) : List UInt8 := if (lst 47 l).contains 46 then extK (lst 46 (lst 47 l)) else octS
theorem cat_lit (a b : List UInt8) : (⟨a.toArray⟩ : ByteArray) ++ S b = S (a ++ b) := S_append a b
theorem lst_len (c : UInt8) (l : List UInt8) : (lst c l).length ≤ l.length := by
  obtain ⟨j, _, _, h⟩ := last_j l c
  rw [← h, List.length_drop]; omega
end
/-! ### A scope whose one label is jumped to from ahead: the rest behind the label is walked at each jump. -/
section
open Go.RowKit
set_option linter.unusedVariables false

theorem wp_scope_fwd {P : Program} {a : Act} {w : World} {fn : Func} {R : Ending → World → Prop} {c rest : Code} (l : Nat) (hf : findLabel c l = some rest)
    (h : ∀ J : Act → World → Prop, Hid (∀ a w, rest.wp P (bodyPost P fn R) a w → J a w) → c.wp P (Exit.jump l J (bodyPost P fn R)) a w) : (Code.scope c).wp P (bodyPost P fn R) a w :=
  wp_scope_jumps l (fun a w => rest.wp P (bodyPost P fn R) a w) (fun _ _ => 0) hf (h _ (Lib.hid fun _ _ h => h)) (fun a w hJ => wp_mono hJ (fun e a' w' hq => by
    cases e with
    | goto l' => exact hq.elim
    | _ => exact hq))
end
/-! ### bytes.Clone, over slices of bytes. -/
section
open Go.RowKit
set_option linter.unusedVariables false
set_option maxRecDepth 100000

theorem elt_u8 : Elt Tryz.prog 52 5 (.int .u8 0) 1 1 := ⟨Tryz.underlying52, by kernel_rfl, rfl, by decide, by decide⟩

theorem Elt.one {P : Program} {t e : Nat} {z : Value} {sz by_ : Nat} (h : Elt P t e z sz by_) : (P.info? e).map (·.size) = some sz := by
  obtain ⟨_, hi, _⟩ := h
  obtain ⟨i, hi, _, hs, _⟩ := info_parts hi
  simp [hi, hs]

/-! ### strings and bytes -/
section
variable {w w' a : World} {S N : List Nat}
theorem conv_sb (W : World) (s : ByteArray) : (convert 9 52 (.string s)).run Tryz.prog W = .ok (.slice (some ⟨W.heap.size, 0, none⟩) s.size (grownCap W s.size 0 5)) (Lib.bytesWorld W 5 s) :=
  Lib.run_convert_string_bytes W _ _ _ s Tryz.underlying9 Tryz.underlying52 Tryz.underlying5
theorem Kp.bytesWorld (h : Kp S a w) (e : Nat) (s : ByteArray) : Kp S a (Lib.bytesWorld w e s) :=
  ⟨h.os, h.tape, h.output, by rw [Lib.bytesWorld_size]; have := h.size; omega, fun k hk hn => (Lib.bytesWorld_at_old w e s k (Nat.lt_of_lt_of_le hk h.size)).trans (h.block k hk hn)⟩
theorem rd_bytesWorld (w : World) (e : Nat) (s : ByteArray) {g : Nat} (hg : g = w.heap.size) (hN : g ∉ N) : Rd (Lib.bytesWorld w e s) N (some ⟨g, 0, none⟩) (bts s.data.toList) := fun _ =>
  ⟨g, 0, rfl, hN, by rw [Lib.bytesWorld_size]; omega, fun j u hu => by
    subst hg
    rw [bts_get] at hu
    have hj : j < s.size := by
      rcases Nat.lt_or_ge j s.size with h | h
      · exact h
      · rw [List.getElem?_eq_none (by simpa using h)] at hu; cases hu
    rw [Nat.zero_add, Lib.bytesWorld_cell w e s j hj]
    have hj' : j < s.data.toList.length := by simpa using hj
    rw [List.getElem?_eq_getElem hj'] at hu
    rw [← hu]
    have e2 : s.data[j]? = some s.data[j] := Array.getElem?_eq_getElem hj
    simp [List.getD, e2]⟩
theorem conv_bs {A : Option Addr} {n c : Nat} {l : List UInt8} (hr : Rd w N A (bts l)) (hl : l.length = n) : (convert 52 9 (.slice A n c)).run Tryz.prog w = .ok (.string ⟨l.toArray⟩) w := by
  subst hl
  rcases A with _ | ad
  · have e : l = [] := by
      cases l with
      | nil => rfl
      | cons x l => obtain ⟨_, _, h, _⟩ := hr (by simp [bts]); cases h
    subst e
    exact Lib.run_convert_nil_bytes w _ _ _ c Tryz.underlying52 Tryz.underlying5 Tryz.underlying9
  · refine run_convert_bytes_back w _ _ _ ad c l Tryz.underlying52 Tryz.underlying5 Tryz.underlying9 fun j hj => ?_
    obtain ⟨ad', h, hc⟩ := hr.src (by intro e; simp [bts] at e; subst e; simp at hj)
    cases h
    exact hc j _ (by rw [bts_get, List.getElem?_eq_getElem hj]; rfl)
end
end
/-! ### Drawn regions whose callees write nowhere but in blocks of their own: the class of worlds that keep all there was. -/
section
open Go.RowKit
set_option linter.unusedVariables false

def KpX (w : World) : Type := {w' : World // Kp [] w w'}
instance (w : World) : Nonempty (KpX w) := ⟨⟨w, Kp.refl [] w⟩⟩
def kpw (w : World) (x : KpX w) : World := x.1
theorem kpw_kp (w : World) (x : KpX w) : Kp [] w (kpw w x) := x.2
@[go_sem] theorem kpw_cell {w : World} {x : KpX w} {p : Addr} (h : (w.cell? p).isSome = true) : (kpw w x).cell? p = w.cell? p := by
  obtain ⟨u, hu⟩ := Option.isSome_iff_exists.1 h
  exact (kpw_kp w x).cell (World.block_lt_of_cell? w p hu) (by simp)

theorem wp_region_kp {P : Program} {id : Nat} {Q : Exit → Act → World → Prop} {a : Act} {w : World} {l : List Oper} (hm : P.follows .mixedOrders = true) (hB : Region.lexB .any l.toArray = true)
    (h : wpQuiet P l.toArray (fun w' => ∃ x : KpX w, w' = kpw w x) (fun a' => ∀ w', Kp [] w w' → Q .normal a' w') l a) : (Code.region id l.toArray true).wp P Q a w :=
  wp_region_quiet (C := fun w' => ∃ x : KpX w, w' = kpw w x) hm hB ⟨⟨_, (Kp.refl [] w).drew⟩, rfl⟩ (by
    have e : (fun a' : Act => ∀ w', Kp [] w w' → Q .normal a' w') = (fun a' => ∀ w', (∃ x : KpX w, w' = kpw w x) → Q .normal a' w') := by
      funext a'; apply propext
      exact ⟨fun h w' ⟨x, hx⟩ => by rw [hx]; exact h _ x.2, fun h w' hw => h w' ⟨⟨w', hw⟩, rfl⟩⟩
    rw [← e]; simpa using h)
theorem kpx_mk {w w' : World} {x : KpX w} {v : Value} (h : Kp [] (kpw w x) w') : (Ending.returned v = Ending.returned v) ∧ ∃ y : KpX w, w' = kpw w y := ⟨rfl, ⟨w', (kpw_kp w x).trans h⟩, rfl⟩
end
/-! ### path.Of. -/
section
open Go.RowKit
set_option linter.unusedVariables false
set_option maxRecDepth 100000
def hexB (a b : UInt8) : UInt8 := UInt8.ofNat (16 * (digI a).toNat + (digI b).toNat)
def badB (a b : UInt8) : Bool := decide (digI a < 0) || decide (digI b < 0) || !plainB (hexB a b)
/-- A target's name, its %-forms read. -/
def dec : List UInt8 → Option (List UInt8)
  | [] => some []
  | [c] => if c.toNat = 37 then none else some [c]
  | [c, d] => if c.toNat = 37 then none else (dec [d]).map (c :: ·)
  | c :: a :: b :: r => if c.toNat = 37 then (if badB a b then none else (dec r).map (hexB a b :: ·)) else (dec (a :: b :: r)).map (c :: ·)
theorem dec_ne {c : UInt8} (r : List UInt8) (h : ¬ c.toNat = 37) : dec (c :: r) = (dec r).map (c :: ·) := by
  match r with
  | [] => simp [dec, h]
  | [d] => simp [dec, h]
  | a :: b :: r => simp [dec, h]
theorem dec_short {c : UInt8} {r : List UInt8} (h : c.toNat = 37) (hr : r.length < 2) : dec (c :: r) = none := by
  match r with
  | [] => rw [dec, if_pos h]
  | [d] => rw [dec, if_pos h]
  | a :: b :: r => simp at hr; omega
theorem dec_hex {c a b : UInt8} (r : List UInt8) (h : c.toNat = 37) : dec (c :: a :: b :: r) = if badB a b then none else (dec r).map (hexB a b :: ·) := by rw [dec, if_pos h]
def indexS : List UInt8 := [105, 110, 100, 101, 120, 46, 104, 116, 109, 108]
def ofL (l : List UInt8) : List UInt8 × Int :=
  if 128 < l.length then ([], 2) else if ((bef 63 l).head? == some 47) = false then ([], 70) else if bef 63 l = [47] then (indexS, 0) else
    match dec ((bef 63 l).drop 1) with
    | none => ([], 70)
    | some n => if nameB n then (n, 0) else ([], 70)
def ofV (x : List UInt8 × Int) : Value := .tuple #[.string (S x.1), .int .i64 x.2]
theorem digI_bd (c : UInt8) : -1 ≤ digI c ∧ digI c ≤ 15 := by
  unfold digI; have := c.toNat_lt; (repeat' split) <;> omega
theorem plain_int {R : Ending → World → Prop} (v : Int) (c : UInt8) (w : World) (hv : v = c.toNat) (h : R (.returned (.bool (plainB c))) w) : Calls Tryz.prog 86 #[.int .u8 v] w R := by
  subst hv; exact plain_any c w h
theorem conv_bS {w : World} {N : List Nat} {A : Option Addr} {n c : Nat} {l : List UInt8} (hr : Rd w N A (bts l)) (hl : l.length = n) : (convert 52 9 (.slice A n c)).run Tryz.prog w = .ok (.string (S l)) w := conv_bs hr hl

set_option maxHeartbeats 1000000 in
theorem pof_any {R : Ending → World → Prop} (l : List UInt8) (w : World) (hm : Ml w)
    (h : ∀ w', Kp [] w w' → R (.returned (ofV (ofL l))) w') : Calls Tryz.prog 49 #[.string (S l)] w R := by
  have H := Lib.hid h
  clear h
  by_cases hl : l.length ≤ 128
  · have hb := bef_len 63 l
    cases hs : (bef 63 l).head? == some 47
    · have HS := Lib.hid hs
      clear hs
      go_enter Tryz.func49, Tryz.ntmps49
      go_wp2
      refine wp_scope_fwd 0 (by rfl) ?_
      intro J HJ
      go_wp2_with (first | (go_at_call 68; ((with_reducible refine cut_any l 63 hm (by omega) ?_); intro n)) | (go_at_call 42; ((with_reducible refine pre_any _ 47 ?_); rw [HS.out])))
      go_step3
      refine ⟨rfl, HJ.out _ _ ?_⟩
      go_wp2
      refine rcast (H.out _ ((Kp.refl _ _).drewN _)) ?_
      unfold ofL; rw [if_neg (by omega), if_pos HS.out]; rfl
    · have HS := Lib.hid hs
      clear hs
      by_cases hr0 : bef 63 l = [47]
      · have HR := Lib.hid hr0
        have hres : ofL l = (indexS, 0) := by
          unfold ofL
          rw [if_neg (by omega), if_neg (by rw [HS.out]; decide), if_pos hr0]
        have HO := Lib.hid hres
        clear hr0 hres hb
        go_enter Tryz.func49, Tryz.ntmps49
        go_wp2
        refine wp_scope_fwd 0 (by rfl) ?_
        intro J HJ
        go_wp2_with (first | (go_at_call 68; ((with_reducible refine cut_any l 63 hm (by omega) ?_); intro n; rw [HR.out])) | (go_at_call 42; ((with_reducible refine pre_any _ 47 ?_))))
        refine rcast (H.out _ ((Kp.refl _ _).drewN _)) ?_
        rw [HO.out]; rfl
      · have HO : Hid (ofL l = match dec ((bef 63 l).drop 1) with
          | none => ([], 70)
          | some n => if nameB n then (n, 0) else ([], 70)) := by
          refine Lib.hid ?_
          unfold ofL
          rw [if_neg (by omega), if_neg (by rw [HS.out]; decide), if_neg hr0]
        have b1 : (bef 63 l == [47]) = false := by simpa using hr0
        generalize ofL l = res at *
        obtain ⟨t, ht⟩ : ∃ t, bef 63 l = t := ⟨_, rfl⟩
        rw [ht] at HS HO b1 hb
        have HT := Lib.hid ht
        clear ht hr0
        go_enter Tryz.func49, Tryz.ntmps49
        go_wp2
        refine wp_scope_fwd 0 (by rfl) ?_
        intro J HJ
        go_wp2_with (first | (go_at_call 68; ((with_reducible refine cut_any l 63 hm (by omega) ?_); intro n; rw [HT.out])) | (go_at_call 42; ((with_reducible refine pre_any _ 47 ?_); rw [HS.out])))
        have hm0 := hm.drewN n
        have k0 : Kp [] w (w.drewN n) := (Kp.refl _ _).drewN n
        generalize w.drewN n = w0 at *
        go_loopw [4, 7] (fun nm i wr => ∃ (k : Nat) (out : List UInt8) (A : Option Addr) (c : Nat), 1 ≤ k ∧ k ≤ t.length ∧ i = .int .i64 k ∧ nm = .slice A out.length c ∧ out.length ≤ k ∧ Hid (dec (t.drop 1) = (dec (t.drop k)).map (out ++ ·)) ∧ Kp [] w wr ∧ Ow wr 5 1 A out.length c (bts out) ∧ (∀ b ∈ bks A, w.heap.size ≤ b)) (fun _ i _ => t.length - (intOf i).toNat)
        case atStart => exact ⟨1, [], none, 0, Nat.le_refl _, by
          have := HS.out
          cases t with
          | nil => cases this
          | cons => simp, rfl, rfl, by simp, Lib.hid (by simp), k0, Ow.nil, by simp [bks]⟩
        case round =>
          obtain ⟨k, out, A, c, hk1, hk2, rfl, rfl, hout, hd, kr, ho, hA⟩ := hrel
          by_cases hlt : k < t.length
          · obtain ⟨x, hx⟩ : ∃ x, t[k]'hlt = x := ⟨_, rfl⟩
            have hdr : t.drop k = x :: t.drop (k + 1) := by rw [List.drop_eq_getElem_cons hlt, hx]
            by_cases h37 : x.toNat = 37
            · have b37 : ((x.toNat : Int) != 37) = false := by simp [h37]
              have H37 := Lib.hid h37
              clear h37
              by_cases hlen : k + 2 < t.length
              · obtain ⟨p, hp⟩ : ∃ p, t[k + 1]'(by omega) = p := ⟨_, rfl⟩
                obtain ⟨q, hq⟩ : ∃ q, t[k + 2]'hlen = q := ⟨_, rfl⟩
                have hdr2 : t.drop k = x :: p :: q :: t.drop (k + 3) := by
                  rw [hdr, List.drop_eq_getElem_cons (by omega : k + 1 < t.length), hp, List.drop_eq_getElem_cons hlen, hq]
                have HD2 : Hid (dec (t.drop 1) = if badB p q then none else (dec (t.drop (k + 3))).map (fun y => out ++ hexB p q :: y)) := by
                  refine Lib.hid ?_
                  rw [hd.out, hdr2, dec_hex _ H37.out]
                  split
                  · rfl
                  · cases dec (t.drop (k + 3)) <;> simp
                clear hdr hdr2 hd
                obtain ⟨pa, pb⟩ := digI_bd p
                obtain ⟨qa, qb⟩ := digI_bd q
                have HX : Hid (0 ≤ digI p → 0 ≤ digI q → 16 * digI p + digI q = ((hexB p q).toNat : Int)) := by
                  refine Lib.hid fun h1 h2 => ?_
                  unfold hexB
                  rw [UInt8.toNat_ofNat']
                  omega
                have HBad : Hid (badB p q = (decide (digI p < 0) || decide (digI q < 0) || !plainB (hexB p q))) := Lib.hid rfl
                generalize hexB p q = h at *
                generalize badB p q = bad at *
                go_wp2
                have s1 : IntKind.i64.wrap ((k : Int) + 1) = (k : Int) + 1 := IntWalk.i64_in _ (by omega)
                have s2 : IntKind.i64.wrap ((k : Int) + 2) = (k : Int) + 2 := IntWalk.i64_in _ (by omega)
                have s3 : ((k : Int) + 1).toNat = k + 1 := by omega
                have s4 : ((k : Int) + 2).toNat = k + 2 := by omega
                have s5 : (0 : Int) ≤ (k : Int) + 1 := by omega
                have s6 : (0 : Int) ≤ (k : Int) + 2 := by omega
                have s7 : (k : Int) + 1 < t.length := by omega
                have s8 : (k : Int) + 2 < t.length := by omega
                refine wp_region_kp (by kernel_rfl) (by kernel_rfl) ?_
                repeat (quiet_step (((go_at_call 85; refine digit_any _ _ ?_); exact ⟨rfl, _, rfl⟩)))
                refine wpQuiet_nil ?_
                intro w4 k4
                have kr4 := kr.trans k4
                have ho4 := ho.kp k4 (by simp)
                clear kr ho k4
                generalize digI p = di at *
                generalize digI q = dj at *
                have hbad : bad = true → res = ([], 70) := by
                  intro hb1
                  rw [HO.out, HD2.out, if_pos hb1]
                have HB1 := Lib.hid hbad
                clear hbad
                by_cases hi : di < 0
                · have g1 : decide (di < 0) = true := by simpa using hi
                  go_wp2
                  go_step3
                  refine ⟨rfl, HJ.out _ _ ?_⟩
                  go_wp2
                  refine rcast (H.out _ kr4) ?_
                  rw [HB1.out (by rw [HBad.out, g1]; rfl)]; rfl
                have g1 : decide (di < 0) = false := by simpa using hi
                by_cases hj : dj < 0
                · have g2 : decide (dj < 0) = true := by simpa using hj
                  go_wp2
                  go_step3
                  refine ⟨rfl, HJ.out _ _ ?_⟩
                  go_wp2
                  refine rcast (H.out _ kr4) ?_
                  rw [HB1.out (by rw [HBad.out, g1, g2]; rfl)]; rfl
                have g2 : decide (dj < 0) = false := by simpa using hj
                have hv := HX.out (by omega) (by omega)
                have hb255 := h.toNat_lt
                have h1 : 0 ≤ 16 * di + dj := by omega
                have h2 : 16 * di + dj ≤ 255 := by omega
                have HV := Lib.hid hv
                clear hv hb255
                cases hp : plainB h
                · have HP := Lib.hid hp
                  clear hp
                  go_wp2_with (go_at_call 86; ((refine plain_int _ h _ (by have := HV.out; omega) ?_); rw [HP.out]))
                  go_step3
                  refine ⟨rfl, HJ.out _ _ ?_⟩
                  go_wp2
                  refine rcast (H.out _ kr4) ?_
                  rw [HB1.out (by rw [HBad.out, g1, g2, HP.out]; rfl)]; rfl
                · have HP := Lib.hid hp
                  clear hp
                  have HD3 : Hid (dec (t.drop 1) = (dec (t.drop (k + 3))).map ((out ++ [h]) ++ ·)) := by
                    refine Lib.hid ?_
                    rw [HD2.out, if_neg (by rw [HBad.out, g1, g2, HP.out]; decide)]
                    cases dec (t.drop (k + 3)) <;> simp
                  go_wp2_with (first | (go_at_call 86; ((refine plain_int _ h _ (by have := HV.out; omega) ?_); rw [HP.out])) | (at_builtin; refine wpList_app _ rfl (.tmp 68) (.tmp 74) _ rfl elt_u8 A out.length c _ rfl (ho4.alloc _) [] (some ⟨w4.heap.size, 0, none⟩) 1 1 (bts [h]) rfl (Rd.of_bk ((Bk.newAt rfl _ _).cast (by have := HV.out; simp [bts]; omega)) (by simp)) rfl (bts_one _) (by omega) ?_; intro A2 c2 w2 ho2 hk2 hA2))
                  exact ⟨⟨k + 3, out ++ [h], A2, c2, by omega, by omega, by go_num, by simp, by simp; omega, HD3, (kr4.alloc _).thn hk2 (fun s hs => .inr (hA s hs)), ho2.cast (by simp) (bts_append _ _).symm, bks_app hA2 hA (by have := kr4.size; simp; omega)⟩, by simp [intOf]; omega⟩
              · have HN : Hid (dec (t.drop 1) = none) := by
                  refine Lib.hid ?_
                  rw [hd.out, hdr, dec_short H37.out (by rw [List.length_drop]; omega)]
                  rfl
                clear hdr hd
                go_wp2
                go_step3
                refine ⟨rfl, HJ.out _ _ ?_⟩
                go_wp2
                refine rcast (H.out _ kr) ?_
                rw [HO.out, HN.out]; rfl
            · have b37 : ((x.toNat : Int) != 37) = true := by simp; omega
              have HD : Hid (dec (t.drop 1) = (dec (t.drop (k + 1))).map ((out ++ [x]) ++ ·)) := by
                refine Lib.hid ?_
                rw [hd.out, hdr, dec_ne _ h37]
                cases dec (t.drop (k + 1)) <;> simp
              clear h37 hdr hd
              go_wp2_with (at_builtin; refine wpList_app _ rfl (.tmp 32) (.tmp 36) _ rfl elt_u8 A out.length c _ rfl (ho.alloc _) [] (some ⟨wr.heap.size, 0, none⟩) 1 1 (bts [x]) rfl (Rd.of_bk (Bk.newAt rfl _ _) (by simp)) rfl (bts_one _) (by omega) ?_; intro A2 c2 w2 ho2 hk2 hA2)
              exact ⟨⟨k + 1, out ++ [x], A2, c2, by omega, by omega, by go_num, by simp, by simp; omega, HD, (kr.alloc _).thn hk2 (fun s hs => .inr (hA s hs)), ho2.cast (by simp) (bts_append _ _).symm, bks_app hA2 hA (by have := kr.size; simp; omega)⟩, by simp [intOf]; omega⟩
          · have hdn : dec (t.drop 1) = some out := by
              rw [hd.out, List.drop_eq_nil_of_le (by omega)]; simp [dec]
            have HD := Lib.hid hdn
            have hcv := conv_bS (c := c) (ho.rd (N := []) (by simp)) rfl
            have mr := hm.kp kr
            clear hd hdn
            cases hn : nameB out
            · have HN := Lib.hid hn
              clear hn
              go_wp2_with (go_at_call 87; (with_reducible refine name_any out _ mr ?_); intro w5 k5; rw [HN.out])
              go_step3
              refine ⟨rfl, HJ.out _ _ ?_⟩
              go_wp2
              refine rcast (H.out _ (kr.trans k5)) ?_
              rw [HO.out, HD.out]
              simp only [HN.out]
              rfl
            · have HN := Lib.hid hn
              clear hn
              go_wp2_with (go_at_call 87; (with_reducible refine name_any out _ mr ?_); intro w5 k5; have hcv5 := conv_bS (c := c) ((ho.kp k5 (by simp)).rd (N := []) (by simp)) rfl; rw [HN.out])
              refine rcast (H.out _ (kr.trans k5)) ?_
              rw [HO.out, HD.out]
              simp only [HN.out]
              rfl
  · go_enter Tryz.func49, Tryz.ntmps49
    go_wp2
    refine wp_scope_fwd 0 (by rfl) ?_
    intro J HJ
    go_wp2
    refine rcast (H.out w (Kp.refl _ _)) ?_
    unfold ofL; rw [if_pos (by omega)]; rfl
end
/-! ### Decimal numbers; rows of texts; what is joined. -/
section
open Go.RowKit Go.Shelf
set_option linter.unusedVariables false
set_option linter.unusedSimpArgs false
set_option maxRecDepth 100000

/-- strconv's table lies as its text lays it. -/
def Pw (w : World) : Prop := Lib.TabIs Tryz.prog w "internal/strconv.uint64pow10" .u64 Lib.pow10Tab
theorem Pw.kp {w w' : World} (h : Pw w) (hk : Kp [] w w') : Pw w' :=
  Go.Joins.tab_stays (g := 1) (by kernel_rfl) h hk.below_nil (Nat.le_refl _)
structure Lw (w : World) : Prop where
  ml : Ml w
  pw : Pw w
theorem Lw.kp {w w' : World} (h : Lw w) (hk : Kp [] w w') : Lw w' := ⟨h.ml.kp hk, h.pw.kp hk⟩
theorem Kp.grow {S : List Nat} {a w : World} (h : Kp S a w) (os : Array Obj) : Kp S a (Go.Sort.grow w os) :=
  ⟨h.os, h.tape, h.output, by show a.heap.size ≤ (w.heap ++ os).size; rw [Array.size_append]; have := h.size; omega, fun k hk hn => by
    show (w.heap ++ os)[k]? = _
    rw [Array.getElem?_append_left (by have := h.size; omega)]; exact h.block k hk hn⟩
/-- The digits of a number. -/
def decL (n : Nat) : List UInt8 := Lib.decDigits n
theorem decL_small {n : Nat} (h : n < 10) : decL n = [UInt8.ofNat (48 + n)] := by unfold decL; rw [Lib.decDigits, dif_pos h]
theorem decL_big {n : Nat} (h : ¬ n < 10) : decL n = decL (n / 10) ++ [UInt8.ofNat (48 + n % 10)] := by unfold decL; rw [Lib.decDigits, dif_neg h]
theorem decL_len {k : Nat} : ∀ n : Nat, n < 10 ^ k → (decL n).length ≤ k + 1 := by
  induction k with
  | zero => intro n h; rw [decL_small (by omega)]; simp
  | succ k ih =>
    intro n h
    by_cases h1 : n < 10
    · rw [decL_small h1]; simp
    · rw [decL_big h1]
      have := ih (n / 10) (by rw [Nat.pow_succ] at h; omega)
      simp; omega
theorem decL_len20 {n : Nat} (h : n ≤ 9223372036854775807) : (decL n).length ≤ 20 := by
  have e : (10 : Nat) ^ 19 = 10000000000000000000 := by decide
  exact decL_len (k := 19) n (by omega)
theorem itoa_any {R : Ending → World → Prop} (n : Nat) (w : World) (hn : n ≤ 9223372036854775807) (hw : Lw w) (h : ∀ w', Kp [] w w' → R (.returned (.string (S (decL n)))) w') : Calls Tryz.prog 77 #[.int .i64 n] w R := by
  refine (Tryz.strconv_Itoa n (by omega) (by omega) w hw.pw).mono fun e w' ⟨he, k, os, hw'⟩ => ?_
  have e1 : Lib.itoa (n : Int) = decL n := by
    unfold Lib.itoa decL
    rw [if_neg (by omega), Int.toNat_natCast]
  rw [e1] at he
  subst he; subst hw'
  exact h _ (((Kp.refl _ _).drewN _).grow _)
theorem itoa_int {R : Ending → World → Prop} (v : Int) (n : Nat) (w : World) (hv : v = n) (hn : n ≤ 9223372036854775807) (hw : Lw w) (h : ∀ w', Kp [] w w' → R (.returned (.string (S (decL n)))) w') : Calls Tryz.prog 77 #[.int .i64 v] w R := by
  subst hv; exact itoa_any n w hn hw h
theorem elt_str : Elt Tryz.prog 46 9 (.string ByteArray.empty) 1 16 := ⟨Tryz.underlying46, by kernel_rfl, rfl, by decide, by decide⟩
theorem strs_one (ps : List (List UInt8)) : ∀ u ∈ strs ps, u.oneCell' = true := by
  intro u hu; simp only [strs, List.mem_map] at hu; obtain ⟨c, _, rfl⟩ := hu; rfl
theorem strs_append (a b : List (List UInt8)) : strs (a ++ b) = strs a ++ strs b := by simp [strs]
theorem strs_len (a : List (List UInt8)) : (strs a).length = a.length := by simp [strs]
theorem strs_get (a : List (List UInt8)) (i : Nat) : (strs a)[i]? = (a[i]?).map fun p => .string (S p) := by simp [strs]
theorem join_any {R : Ending → World → Prop} {w : World} {A : Option Addr} {n c : Nat} (ps : List (List UInt8)) (x : List UInt8) (ho : Ow w 9 1 A n c (strs ps)) (hn : 0 < n) (hc : n ≤ 1000) (hlen : (Lib.join ps x).length ≤ 2000000)
    (h : ∀ w', Kp [] w w' → R (.returned (.string (S (Lib.join ps x)))) w') : Calls Tryz.prog 73 #[.slice A n c, .string ⟨x.toArray⟩] w R := by
  have hl := ho.len
  simp only [strs, List.length_map, Nat.mul_one] at hl
  obtain ⟨g, rfl, hg⟩ := ho.form hn
  have hcap : n ≤ c := by
    rcases ho.2 with ⟨hv, h0⟩ | ⟨g', cap, cur, hv, _, _, hnc, _⟩
    · omega
    · injection hv with _ _ hc'; omega
  have hcells : ∀ (j : Nat) y, (ps.map S)[j]? = some y → w.cell? ⟨g, 0 + j, none⟩ = some (.string y) := by
    intro j y hy
    obtain ⟨b, off, hb, _, _, hcc⟩ := ho.rd (N := []) (by simp) (by intro e; simp [strs] at e; subst e; simp at hl; omega)
    cases hb
    refine hcc j _ ?_
    simp only [strs, List.getElem?_map] at hy ⊢
    cases hp : ps[j]? with
    | none => rw [hp] at hy; cases hy
    | some p => rw [hp] at hy; simp at hy; subst hy; simp
  have e1 : (ps.map S).map (·.data.toList) = ps := by
    rw [List.map_map]; conv => rhs; rw [← List.map_id ps]
    exact List.map_congr_left (fun s _ => S_data s)
  have e2 : ((⟨x.toArray⟩ : ByteArray)).data.toList = x := by simp
  have hcon := Tryz.strings_Join g 0 c (ps.map S) ⟨x.toArray⟩ w hcells hg (by rw [List.length_map]; omega) (by rw [List.length_map]; omega) (by rw [e1, e2]; omega)
  rw [List.length_map, hl, e1, e2] at hcon
  refine hcon.mono fun e w' ⟨he, hw⟩ => ?_
  subst he
  exact h w' (Kp.of_below hw)
end
end Go.Proofs.YtnmafahbdfilcaaGreatDoor
