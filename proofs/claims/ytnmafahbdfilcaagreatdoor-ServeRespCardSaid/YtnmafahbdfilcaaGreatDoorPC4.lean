/- The walks of package lex. Numbers of digits. The document's lex. The items of a list: lex.Items, and the document's. -/
import Derived.Test.YtnmafahbdfilcaaGreatDoorPC2
import Derived.Shelf.Strings.SlTrimAscii
import Derived.Deep.Cut
namespace Go.Proofs.YtnmafahbdfilcaaGreatDoor
/-! ### The walks of package lex. -/
section
open Go.RowKit Go.Shelf
set_option linter.unusedVariables false
set_option linter.unusedSimpArgs false
set_option maxRecDepth 100000

def alnumB (c : UInt8) : Bool := (decide (97 ≤ c.toNat) && decide (c.toNat ≤ 122)) || (decide (65 ≤ c.toNat) && decide (c.toNat ≤ 90)) || (decide (48 ≤ c.toNat) && decide (c.toNat ≤ 57))
def markK : List UInt8 := [33, 35, 36, 37, 38, 39, 42, 43, 45, 46, 94, 95, 96, 124, 126]
def wordB (c : UInt8) : Bool := alnumB c || markK.contains c
def valB (c : UInt8) : Bool := (decide (32 ≤ c.toNat) && !decide (c.toNat = 127)) || decide (c.toNat = 9)
def lowC (c : UInt8) : UInt8 := if 65 ≤ c.toNat ∧ c.toNat ≤ 90 then UInt8.ofNat (c.toNat + 32) else c
def tokB (l : List UInt8) : Bool := !(l == []) && l.all wordB
theorem idx_ge (l : List UInt8) (c : UInt8) : decide (0 ≤ Lib.indexByte l c) = l.contains c := by
  induction l with
  | nil => rfl
  | cons x r ih =>
    rw [List.contains_cons, ← ih]
    have hg := Lib.indexByte_ge r c
    by_cases h : x = c
    · subst h; simp [Lib.indexByte]
    · have e2 : (c == x) = false := by simpa using Ne.symm h
      rw [e2, Bool.false_or, Bool.eq_iff_iff, decide_eq_true_iff, decide_eq_true_iff]
      rw [show Lib.indexByte (x :: r) c = (if x == c then 0 else if Lib.indexByte r c == -1 then -1 else Lib.indexByte r c + 1) from rfl]
      have e1 : (x == c) = false := by simpa using h
      simp only [e1, Bool.false_eq_true, if_false]
      generalize Lib.indexByte r c = v at *
      split
      · rename_i hv; have := beq_iff_eq.1 hv; omega
      · rename_i hv
        have : ¬ v = -1 := by simpa using hv
        omega
theorem index_any {R : Ending → World → Prop} (l : List UInt8) (c : UInt8) (w : World) (h : R (.returned (.int .i64 (Lib.indexByte l c))) w) : Calls Tryz.prog 184 #[.string (S l), .int .u8 c.toNat] w R := by
  refine (Tryz.strings_IndexByte (S l) c.toNat w).mono fun e w' ⟨he, hw⟩ => ?_
  rw [S_data, show ((c.toNat : Int).toNat).toUInt8 = c by simp] at he
  subst he; subst hw
  exact h
theorem mark_any {R : Ending → World → Prop} (c : UInt8) (w : World) (h : R (.returned (.int .i64 (Lib.indexByte markK c))) w) : Calls Tryz.prog 184 #[.string ⟨#[33, 35, 36, 37, 38, 39, 42, 43, 45, 46, 94, 95, 96, 124, 126]⟩, .int .u8 c.toNat] w R := index_any markK c w h
set_option maxHeartbeats 800000 in
theorem word_any {R : Ending → World → Prop} (c : UInt8) (w : World) (h : R (.returned (.bool (wordB c))) w) : Calls Tryz.prog 154 #[.int .u8 c.toNat] w R := by
  have hi := idx_ge markK c
  have HI := Lib.hid hi
  clear hi
  go_enter Tryz.func154, Tryz.ntmps154
  go_wp2_with (go_at_call 184; (with_reducible refine mark_any c _ ?_))
  all_goals first
    | exact rcast h (congrArg Value.bool (by rw [wordB, show alnumB c = true from by simp [alnumB]; omega]; rfl))
    | exact rcast h (congrArg Value.bool (by rw [wordB, show alnumB c = false from by simp [alnumB]; omega, ← HI.out]; rfl))
set_option maxHeartbeats 800000 in
theorem val_any {R : Ending → World → Prop} (c : UInt8) (w : World) (h : R (.returned (.bool (valB c))) w) : Calls Tryz.prog 156 #[.int .u8 c.toNat] w R := by
  go_enter Tryz.func156, Tryz.ntmps156
  go_wp2
  all_goals (refine rcast h (congrArg Value.bool ?_); rw [Bool.eq_iff_iff]; simp [valB] <;> omega)
theorem all_snoc' (l : List UInt8) (p : UInt8 → Bool) (k : Nat) (h : k < l.length) : (l.take (k + 1)).all p = ((l.take k).all p && p l[k]) := by
  rw [List.take_succ_eq_append_getElem h, List.all_append]; simp
set_option maxHeartbeats 800000 in
theorem all_any {R : Ending → World → Prop} (f : Nat) (p : UInt8 → Bool) (hf : ∀ (c : UInt8) (w : World) (R : Ending → World → Prop), R (.returned (.bool (p c))) w → Calls Tryz.prog f #[.int .u8 c.toNat] w R)
    (he : ∀ (args : Array Value) (w : World), (callFunc f args).run Tryz.prog w = .ok (.enter f args) w)
    (l : List UInt8) (w : World) (hl : l.length ≤ 2000000) (h : R (.returned (.bool (l.all p))) w) : Calls Tryz.prog 153 #[.string (S l), .func (.func f) #[] #[]] w R := by
  have H := Lib.hid h
  have HF := Lib.hid hf
  clear h hf
  go_enter Tryz.func153, Tryz.ntmps153
  go_wp2
  go_loop [8] (fun i => ∃ k : Nat, k ≤ l.length ∧ i = .int .i64 k ∧ Hid ((l.take k).all p = true)) (fun i => l.length - (intOf i).toNat)
  case atStart => exact ⟨0, Nat.zero_le _, rfl, Lib.hid rfl⟩
  case round =>
    obtain ⟨k, hk, rfl, ha⟩ := hrel
    by_cases hlt : k < l.length
    · obtain ⟨x, hx⟩ : ∃ x, l[k]'hlt = x := ⟨_, rfl⟩
      cases hp : p x
      · have HP := Lib.hid hp
        have HS := Lib.hid (show l.all p = false by rw [List.all_eq_false]; exact ⟨x, hx ▸ List.getElem_mem hlt, by simp [hp]⟩)
        clear hp
        go_wp2_with (refine HF.out _ _ _ ?_; rw [HP.out])
        exact rcast H.out (congrArg Value.bool HS.out)
      · have HP := Lib.hid hp
        have HX : Hid ((l.take (k + 1)).all p = true) := by
          refine Lib.hid ?_
          rw [all_snoc' l p k hlt, ha.out, hx, hp]; rfl
        clear hp
        go_wp2_with (refine HF.out _ _ _ ?_; rw [HP.out])
        go_round
        case rel => exact ⟨k + 1, by omega, by go_num, HX⟩
        case measure => simp [intOf]; omega
    · go_wp2
      refine rcast H.out (congrArg Value.bool ?_)
      have := ha.out
      rwa [List.take_of_length_le (by omega)] at this
theorem all_word {R : Ending → World → Prop} (l : List UInt8) (w : World) (hl : l.length ≤ 2000000) (h : R (.returned (.bool (l.all wordB))) w) : Calls Tryz.prog 153 #[.string (S l), .func (.func 154) #[] #[]] w R :=
  all_any 154 wordB (fun c w R h => word_any c w h) (enters_of Tryz.func154 (by kernel_rfl) rfl) l w hl h
theorem all_val {R : Ending → World → Prop} (l : List UInt8) (w : World) (hl : l.length ≤ 2000000) (h : R (.returned (.bool (l.all valB))) w) : Calls Tryz.prog 153 #[.string (S l), .func (.func 156) #[] #[]] w R :=
  all_any 156 valB (fun c w R h => val_any c w h) (enters_of Tryz.func156 (by kernel_rfl) rfl) l w hl h
set_option maxHeartbeats 800000 in
theorem token_any {R : Ending → World → Prop} (l : List UInt8) (w : World) (hl : l.length ≤ 2000000) (h : R (.returned (.bool (tokB l))) w) : Calls Tryz.prog 132 #[.string (S l)] w R := by
  have H := Lib.hid h
  clear h
  by_cases hn : l = []
  · subst hn
    go_enter Tryz.func132, Tryz.ntmps132
    go_wp2
    exact H.out
  · have b1 : l.isEmpty = false := by simpa using hn
    have HT := Lib.hid (show tokB l = l.all wordB by unfold tokB; rw [show (l == []) = false by simpa using hn]; rfl)
    go_enter Tryz.func132, Tryz.ntmps132
    go_wp2_with (go_at_call 153; (with_reducible refine all_word l _ hl ?_); rw [← HT.out])
    exact H.out
set_option maxHeartbeats 800000 in
theorem value_any {R : Ending → World → Prop} (l : List UInt8) (w : World) (hl : l.length ≤ 2000000) (h : R (.returned (.bool (l.all valB))) w) : Calls Tryz.prog 135 #[.string (S l)] w R := by
  have H := Lib.hid h
  clear h
  go_enter Tryz.func135, Tryz.ntmps135
  go_wp2_with (go_at_call 153; (with_reducible refine all_val l _ hl ?_))
  exact H.out
def trimL (l : List UInt8) : List UInt8 := Lib.trimS l [32, 9]
theorem strim_any {R : Ending → World → Prop} (l : List UInt8) (w : World) (hl : l.length ≤ 2000000) (h : ∀ w', Kp [] w w' → R (.returned (.string (S (trimL l)))) w') : Calls Tryz.prog 140 #[.string (S l), .string ⟨#[32, 9]⟩] w R := by
  have hcon := Any.strings_Trim_laid Tryz.lays160 (by kernel_rfl) (S l) ⟨#[32, 9]⟩ w (by rw [S_size]; omega) (by decide) (ascii_of_all (by decide))
  refine hcon.mono fun e w' ⟨he, hw⟩ => ?_
  rw [S_data] at he
  subst he
  exact h w' (Kp.of_below hw)
set_option maxHeartbeats 800000 in
theorem trim_any {R : Ending → World → Prop} (l : List UInt8) (w : World) (hl : l.length ≤ 2000000) (h : ∀ w', Kp [] w w' → R (.returned (.string (S (trimL l)))) w') : Calls Tryz.prog 113 #[.string (S l)] w R := by
  have H := Lib.hid h
  clear h
  go_enter Tryz.func113, Tryz.ntmps113
  go_wp2_with (go_at_call 140; (with_reducible refine strim_any l _ hl ?_); intro w1 k1)
  exact H.out _ k1
/-- A block whose marks lie behind its cells. -/
def Bf (w : World) (g t : Nat) (cs : List Value) : Prop := ∃ f1 f2, w.heap[g]? = some (.cells cs.toArray t (f1, f2)) ∧ cs.length ≤ f1
section
variable {w w' : World} {g t : Nat} {cs : List Value}
theorem Bf.lt (h : Bf w g t cs) : g < w.heap.size := by
  obtain ⟨f1, f2, h, _⟩ := h
  exact (Array.getElem?_eq_some_iff.1 h).1
theorem Bf.cell (h : Bf w g t cs) (i : Nat) : w.cell? ⟨g, i, none⟩ = cs[i]? := by
  obtain ⟨f1, f2, h, _⟩ := h
  rw [cell_of_row w g i _ t (f1, f2) h]; simp
theorem Bf.frozen (h : Bf w g t cs) (i : Nat) (hi : i < cs.length) : w.frozen? ⟨g, i, none⟩ = false := by
  obtain ⟨f1, f2, h, h1⟩ := h
  simp [World.frozen?, h]
  omega
theorem Bf.set_ (h : Bf w g t cs) (i : Nat) (u : Value) : Bf (w.setCell ⟨g, i, none⟩ u) g t (cs.set i u) := by
  obtain ⟨f1, f2, h, h1⟩ := h
  refine ⟨f1, f2, ?_, by simpa using h1⟩
  simp [World.setCell, Array.getElem?_modify, h]
theorem Bf.rd (h : Bf w g t cs) : Rd w [] (some ⟨g, 0, none⟩) cs := fun _ =>
  ⟨g, 0, rfl, by simp, h.lt, fun j u hu => by rw [Nat.zero_add, h.cell, hu]⟩
end
theorem bf_bytes (w : World) (e : Nat) (l : List UInt8) : ∃ pad : List Value, Bf (Lib.bytesWorld w e (S l)) w.heap.size e (bts l ++ pad) := by
  have hc : Lib.bytesCells w e (S l) = (bts l ++ List.replicate (grownCap w (S l).size 0 e - (S l).size) (Value.int .u8 0)).toArray := by
    apply Array.toList_inj.1
    simp [Lib.bytesCells, bts, S]
  refine ⟨List.replicate (grownCap w (S l).size 0 e - (S l).size) (.int .u8 0), (Lib.bytesCells w e (S l)).size, (Lib.bytesCells w e (S l)).size + 1, ?_, Nat.le_of_eq ?_⟩
  · rw [Lib.bytesWorld_at_new, hc]
  · rw [hc]; simp
def lowL (l : List UInt8) : List UInt8 := l.map lowC
set_option maxHeartbeats 800000 in
theorem lower_any {R : Ending → World → Prop} (l : List UInt8) (w : World) (hl : l.length ≤ 2000000) (h : ∀ w', Kp [] w w' → R (.returned (.string (S (lowL l)))) w') : Calls Tryz.prog 70 #[.string (S l)] w R := by
  have H := Lib.hid h
  clear h
  have hcv := conv_sb w (S l)
  obtain ⟨pad, hb⟩ := bf_bytes w 5 l
  have kb := (Kp.refl [] w).bytesWorld 5 (S l)
  generalize Lib.bytesWorld w 5 (S l) = w0 at *
  have hg := hb.lt
  have kb1 := kb.size
  have hgl : w.heap.size ≤ w.heap.size := Nat.le_refl _
  generalize hgg : w.heap.size = g at hcv hb hg
  have hcc : Hid (w.heap.size = g) := Lib.hid hgg
  have hcv2 : (convert 9 52 (.string (S l))).run Tryz.prog w = .ok (.slice (some ⟨g, 0, none⟩) l.length (grownCap w (S l).size 0 5)) w0 := by rw [hcv, S_size]
  generalize grownCap w (S l).size 0 5 = cc at hcv2
  clear hcv hgg hgl
  go_enter Tryz.func70, Tryz.ntmps70
  go_wp2
  have KB := Lib.hid kb
  clear kb kb1 hcv2
  go_loopw [10] (fun i wr => ∃ k : Nat, k ≤ l.length ∧ i = .int .i64 k ∧ Kp [] w wr ∧ Bf wr g 5 (bts (lowL (l.take k) ++ l.drop k) ++ pad)) (fun i _ => l.length - (intOf i).toNat)
  case atStart => exact ⟨0, Nat.zero_le _, rfl, KB.out, by simpa [lowL] using hb⟩
  case round =>
    obtain ⟨k, hk, rfl, kr, hbr⟩ := hrel
    by_cases hlt : k < l.length
    · obtain ⟨x, hx⟩ : ∃ x, l[k]'hlt = x := ⟨_, rfl⟩
      have hxl := x.toNat_lt
      have hdr : l.drop k = x :: l.drop (k + 1) := by rw [List.drop_eq_getElem_cons hlt, hx]
      have hlk : (lowL (l.take k)).length = k := by simp [lowL]; omega
      have hc : wr.cell? ⟨g, k, none⟩ = some (.int .u8 x.toNat) := by
        rw [hbr.cell, List.getElem?_append_left (by rw [bts_len]; simp [lowL]; omega), bts_get, List.getElem?_append_right (by rw [hlk]; exact Nat.le_refl _), hlk, Nat.sub_self, hdr]
        rfl
      have hf : wr.frozen? ⟨g, k, none⟩ = false := hbr.frozen k (by rw [List.length_append, bts_len]; simp [lowL]; omega)
      have htk : lowL (l.take (k + 1)) = lowL (l.take k) ++ [lowC x] := by
        unfold lowL
        rw [List.take_succ_eq_append_getElem hlt, hx, List.map_append]; rfl
      by_cases hup : 65 ≤ x.toNat ∧ x.toNat ≤ 90
      · obtain ⟨u1, u2⟩ := hup
        have HB : Hid (Bf (wr.setCell ⟨g, k, none⟩ (.int .u8 ((x.toNat : Int) + 97 - 65))) g 5 (bts (lowL (l.take (k + 1)) ++ l.drop (k + 1)) ++ pad)) := by
          refine Lib.hid ?_
          have := hbr.set_ k (.int .u8 ((x.toNat : Int) + 97 - 65))
          have e : (bts (lowL (l.take k) ++ l.drop k) ++ pad).set k (.int .u8 ((x.toNat : Int) + 97 - 65)) = bts (lowL (l.take (k + 1)) ++ l.drop (k + 1)) ++ pad := by
            rw [List.set_append_left _ _ (by rw [bts_len]; simp [lowL]; omega)]
            congr 1
            rw [htk, hdr, List.append_assoc, bts_append, bts_append, List.set_append_right _ _ (by rw [bts_len, hlk]; exact Nat.le_refl _), bts_len, hlk, Nat.sub_self]
            congr 1
            show _ :: _ = _ :: _
            congr 1
            unfold lowC
            rw [if_pos ⟨u1, u2⟩]
            show Value.int .u8 _ = Value.int .u8 (((UInt8.ofNat (x.toNat + 32)).toNat : Nat) : Int)
            rw [UInt8.toNat_ofNat', show (x.toNat + 32) % 2 ^ 8 = x.toNat + 32 by omega]
            exact congrArg (Value.int .u8) (by omega)
          rwa [e] at this
        have HK : Hid (Kp [] w (wr.setCell ⟨g, k, none⟩ (.int .u8 ((x.toNat : Int) + 97 - 65)))) := Lib.hid (kr.setCell (.inr (by have := hcc.out; simp; omega)) _)
        clear hdr htk hlk hbr kr
        go_wp2
        exact ⟨⟨k + 1, by omega, by go_num, HK.out, HB.out⟩, by simp [intOf]; omega⟩
      · have HB : Hid (Bf wr g 5 (bts (lowL (l.take (k + 1)) ++ l.drop (k + 1)) ++ pad)) := by
          refine Lib.hid ?_
          have e : lowL (l.take (k + 1)) ++ l.drop (k + 1) = lowL (l.take k) ++ l.drop k := by
            rw [htk, hdr, List.append_assoc]
            unfold lowC
            rw [if_neg hup]; rfl
          rw [e]; exact hbr
        have HK := Lib.hid kr
        clear hdr htk hlk hbr kr
        by_cases h65 : x.toNat < 65
        · clear hup
          go_wp2
          exact ⟨⟨k + 1, by omega, by go_num, HK.out, HB.out⟩, by simp [intOf]; omega⟩
        · have h90 : 90 < x.toNat := by omega
          clear hup
          go_wp2
          exact ⟨⟨k + 1, by omega, by go_num, HK.out, HB.out⟩, by simp [intOf]; omega⟩
    · have e1 : l.take k = l := List.take_of_length_le (by omega)
      have e2 : l.drop k = [] := List.drop_eq_nil_of_le (by omega)
      rw [e1, e2, List.append_nil] at hbr
      have hr : Rd wr [] (some ⟨g, 0, none⟩) (bts (lowL l)) := by
        have := (hbr.rd).take (bts (lowL l)).length
        rwa [List.take_left] at this
      have hcv3 := conv_bs (c := cc) hr (n := l.length) (by simp [lowL])
      have HK := Lib.hid kr
      clear e1 e2 hbr hr kr
      go_wp2
      exact H.out _ HK.out
def fieldL (l : List UInt8) : List UInt8 × List UInt8 × Int :=
  if l.contains 58 && tokB (bef 58 l) && (aft 58 l).all valB then (lowL (bef 58 l), trimL (aft 58 l), 0) else ([], [], 50)
def fieldV (x : List UInt8 × List UInt8 × Int) : Value := .tuple #[.string (S x.1), .string (S x.2.1), .int .i64 x.2.2]
set_option maxHeartbeats 1000000 in
theorem field_any {R : Ending → World → Prop} (l : List UInt8) (w : World) (hl : l.length ≤ 2000000) (hm : Ml w) (h : ∀ w', Kp [] w w' → R (.returned (fieldV (fieldL l))) w') : Calls Tryz.prog 105 #[.string (S l)] w R := by
  have H := Lib.hid h
  clear h
  have hb := bef_len 58 l
  have ha := aft_len 58 l
  have HO : Hid (fieldL l = if l.contains 58 && tokB (bef 58 l) && (aft 58 l).all valB then (lowL (bef 58 l), trimL (aft 58 l), 0) else ([], [], 50)) := Lib.hid rfl
  have hcut : ∀ (w : World) (R : Ending → World → Prop), Ml w → (∀ n, R (.returned (.tuple #[.string (S (bef 58 l)), .string (S (aft 58 l)), .bool (l.contains 58)])) (w.drewN n)) → Calls Tryz.prog 68 #[.string (S l), .string ⟨#[58]⟩] w R := fun w R hm h => cut_any l 58 hm hl h
  have HC := Lib.hid hcut
  clear hcut
  generalize fieldL l = res at *
  generalize bef 58 l = b at *
  generalize aft 58 l = a at *
  generalize l.contains 58 = c at *
  have bad : (c && tokB b && a.all valB) = false → res = ([], [], 50) := fun e => by rw [HO.out, e]; rfl
  have HB := Lib.hid bad
  clear bad
  cases c
  · have HR := Lib.hid (HB.out rfl)
    go_enter Tryz.func105, Tryz.ntmps105
    go_wp2_with (go_at_call 68; ((with_reducible refine HC.out _ _ hm ?_); intro n))
    exact bodyPost_ret (v := .tuple #[.string ⟨#[]⟩, .string ⟨#[]⟩, .int .i64 50]) (by simp [results, Tryz.results105, go_sem]) rfl (rcast (H.out _ ((Kp.refl _ _).drewN _)) (by rw [HR.out]; rfl))
  cases ht : tokB b
  · have HT := Lib.hid ht
    have HR := Lib.hid (HB.out (by rw [ht]; rfl))
    clear ht
    go_enter Tryz.func105, Tryz.ntmps105
    go_wp2_with (first | (go_at_call 68; ((with_reducible refine HC.out _ _ hm ?_); intro n)) | (go_at_call 132; ((with_reducible refine token_any b _ (by omega) ?_); rw [HT.out])))
    exact bodyPost_ret (v := .tuple #[.string ⟨#[]⟩, .string ⟨#[]⟩, .int .i64 50]) (by simp [results, Tryz.results105, go_sem]) rfl (rcast (H.out _ ((Kp.refl _ _).drewN _)) (by rw [HR.out]; rfl))
  cases hv : a.all valB
  · have HT := Lib.hid ht
    have HV := Lib.hid hv
    have HR := Lib.hid (HB.out (by rw [ht, hv]; rfl))
    clear ht hv
    go_enter Tryz.func105, Tryz.ntmps105
    go_wp2_with (first | (go_at_call 68; ((with_reducible refine HC.out _ _ hm ?_); intro n)) | (go_at_call 132; ((with_reducible refine token_any b _ (by omega) ?_); rw [HT.out])) | (go_at_call 135; ((with_reducible refine value_any a _ (by omega) ?_); rw [HV.out])))
    exact bodyPost_ret (v := .tuple #[.string ⟨#[]⟩, .string ⟨#[]⟩, .int .i64 50]) (by simp [results, Tryz.results105, go_sem]) rfl (rcast (H.out _ ((Kp.refl _ _).drewN _)) (by rw [HR.out]; rfl))
  · have HT := Lib.hid ht
    have HV := Lib.hid hv
    have HR := Lib.hid (show res = (lowL b, trimL a, 0) by rw [HO.out, ht, hv]; rfl)
    clear ht hv
    go_enter Tryz.func105, Tryz.ntmps105
    go_wp2_with (first | (go_at_call 68; ((with_reducible refine HC.out _ _ hm ?_); intro n)) | (go_at_call 132; ((with_reducible refine token_any b _ (by omega) ?_); rw [HT.out])) | (go_at_call 135; ((with_reducible refine value_any a _ (by omega) ?_); rw [HV.out])) | (go_at_call 70; ((with_reducible refine lower_any b _ (by omega) ?_); intro w1 k1)) | (go_at_call 113; ((with_reducible refine trim_any a _ (by omega) ?_); intro w2 k2)))
    exact bodyPost_ret (v := .tuple #[.string (S (lowL b)), .string (S (trimL a)), .int .i64 0]) (by simp [results, Tryz.results105, go_sem]) rfl (rcast (H.out _ ((((Kp.refl _ _).drewN _).trans k1).trans k2)) (by rw [HR.out]; rfl))
end
/-! ### Numbers of digits. -/
section
open Go.RowKit
set_option linter.unusedVariables false
set_option linter.unusedSimpArgs false
set_option maxRecDepth 100000

def digB (c : UInt8) : Bool := decide (48 ≤ c.toNat) && decide (c.toNat ≤ 57)
def numN (l : List UInt8) : Nat := l.foldl (fun n c => 10 * n + (c.toNat - 48)) 0
def numR (l : List UInt8) (most : Int) : Int × Bool := if !(l == []) && l.all digB && decide ((numN l : Int) ≤ most) then ((numN l : Int), true) else (0, false)
def numV (x : Int × Bool) : Value := .tuple #[.int .i64 x.1, .bool x.2]
theorem numN_snoc (l : List UInt8) (c : UInt8) : numN (l ++ [c]) = 10 * numN l + (c.toNat - 48) := by simp [numN]
theorem numN_append (a b : List UInt8) : numN a ≤ numN (a ++ b) := by
  induction b generalizing a with
  | nil => simp
  | cons x b ih =>
    have h := ih (a ++ [x])
    rw [numN_snoc, List.append_assoc] at h
    exact Nat.le_trans (by omega) h
theorem numN_take (l : List UInt8) (k : Nat) : numN (l.take k) ≤ numN l := by
  have := numN_append (l.take k) (l.drop k)
  rwa [List.take_append_drop] at this
theorem numR_bad {l : List UInt8} {most : Int} (h : l = [] ∨ l.all digB = false ∨ most < (numN l : Int)) : numR l most = (0, false) := by
  unfold numR
  rcases h with h | h | h
  · rw [h]; rfl
  · rw [h, Bool.and_false, Bool.false_and]; rfl
  · rw [decide_eq_false (by omega), Bool.and_false]; rfl
theorem numR_good {l : List UInt8} {most : Int} (h0 : l ≠ []) (h1 : l.all digB = true) (h2 : (numN l : Int) ≤ most) : numR l most = ((numN l : Int), true) := by
  unfold numR
  rw [h1, decide_eq_true h2, show (l == []) = false by simpa using h0]; rfl
theorem take_snoc' {l : List UInt8} {k : Nat} (h : k < l.length) : l.take (k + 1) = l.take k ++ [l[k]] := List.take_succ_eq_append_getElem h
theorem digB_stop {l : List UInt8} {k : Nat} (h : k < l.length) (hd : digB l[k] = false) : l.all digB = false := by
  rw [List.all_eq_false]; exact ⟨_, List.getElem_mem h, by simp [hd]⟩
set_option maxHeartbeats 2000000 in
theorem number_any {R : Ending → World → Prop} (l : List UInt8) (most : Int) (w : World) (hl : l.length ≤ 2000000) (hm1 : -9223372036854775808 ≤ most) (hm2 : most ≤ 9223372036854775807)
    (h : R (.returned (numV (numR l most))) w) : Calls Tryz.prog 106 #[.string (S l), .int .i64 most] w R := by
  have H := Lib.hid h
  clear h
  by_cases h0 : l = []
  · have HR := Lib.hid (numR_bad (most := most) (.inl h0))
    subst h0
    go_enter Tryz.func106, Tryz.ntmps106
    go_wp2
    exact rcast H.out (by rw [HR.out]; rfl)
  · have b0 : l.isEmpty = false := by simpa using h0
    have H0 := Lib.hid h0
    clear h0
    go_enter Tryz.func106, Tryz.ntmps106
    go_wp2
    go_loop [6, 13] (fun nn i => ∃ (k m : Nat), k ≤ l.length ∧ i = .int .i64 k ∧ nn = .int .i64 m ∧ Hid ((l.take k).all digB = true) ∧ Hid (numN (l.take k) = m) ∧ (0 < k → (m : Int) ≤ most) ∧ (k = 0 → m = 0)) (fun _ i => l.length - (intOf i).toNat)
    case atStart => exact ⟨0, 0, Nat.zero_le _, rfl, rfl, Lib.hid rfl, Lib.hid rfl, by omega, fun _ => rfl⟩
    case round =>
      obtain ⟨k, m, hk, rfl, rfl, ha, hn, hm, hz⟩ := hrel
      by_cases hlt : k < l.length
      · obtain ⟨x, hx⟩ : ∃ x, l[k]'hlt = x := ⟨_, rfl⟩
        have hx255 := x.toNat_lt
        have hmb : (m : Int) ≤ 9223372036854775807 := by
          rcases Nat.eq_zero_or_pos k with h | h
          · rw [hz h]; decide
          · have := hm h; omega
        have HT : Hid (l.take (k + 1) = l.take k ++ [x]) := Lib.hid (by rw [take_snoc' hlt, hx])
        have HM := Lib.hid hm
        clear hm hz
        by_cases hd : digB x = true
        · have hd' := hd
          unfold digB at hd'
          simp at hd'
          obtain ⟨d1, d2⟩ := hd'
          have HD := Lib.hid hd
          have hnx : numN (l.take (k + 1)) = 10 * m + (x.toNat - 48) := by rw [HT.out, numN_snoc, hn.out]
          have HN := Lib.hid hnx
          have hle := numN_take l (k + 1)
          have HL := Lib.hid hle
          clear hd hnx hle
          by_cases hbig : (10 * m + (x.toNat - 48) : Int) ≤ most
          · have c1 : (m : Int) ≤ (most - ((x.toNat : Int) - 48)) / 10 := by omega
            have c2 : (x.toNat : Int) - 48 ≤ most := by omega
            have c3 : 0 ≤ most - ((x.toNat : Int) - 48) := by omega
            have c4 : most - ((x.toNat : Int) - 48) ≤ 9223372036854775807 := by omega
            have HA2 : Hid ((l.take (k + 1)).all digB = true) := by
              refine Lib.hid ?_
              rw [HT.out, List.all_append, ha.out]; simp [HD.out]
            go_wp2
            exact ⟨⟨k + 1, 10 * m + (x.toNat - 48), by omega, by go_num, icast (by omega), HA2, HN, fun _ => by omega, fun h => by omega⟩, by simp [intOf]; omega⟩
          · have HR := Lib.hid (numR_bad (l := l) (most := most) (.inr (.inr (by have := HL.out; have := HN.out; omega))))
            by_cases c2 : most < (x.toNat : Int) - 48
            · clear hbig
              go_wp2
              all_goals exact rcast H.out (by rw [HR.out]; rfl)
            · have c3 : 0 ≤ most - ((x.toNat : Int) - 48) := by omega
              have c4 : most - ((x.toNat : Int) - 48) ≤ 9223372036854775807 := by omega
              have c1 : (most - ((x.toNat : Int) - 48)) / 10 < (m : Int) := by omega
              clear hbig
              go_wp2
              exact rcast H.out (by rw [HR.out]; rfl)
        · have hdf : digB x = false := by simpa using hd
          have HR := Lib.hid (numR_bad (l := l) (most := most) (.inr (.inl (digB_stop hlt (by rw [hx]; exact hdf)))))
          unfold digB at hdf
          simp at hdf
          clear hd
          by_cases h48 : x.toNat < 48
          · clear hdf
            go_wp2
            exact rcast H.out (by rw [HR.out]; rfl)
          · have h57 : 57 < x.toNat := hdf (by omega)
            clear hdf
            go_wp2
            exact rcast H.out (by rw [HR.out]; rfl)
      · have e : l.take k = l := List.take_of_length_le (by omega)
        have h00 : 0 < k := by
          rcases Nat.eq_zero_or_pos k with h | h
          · exact absurd (List.length_eq_zero_iff.1 (by omega)) H0.out
          · exact h
        have hq := hm h00
        have ha' := ha.out
        have hn' := hn.out
        rw [e] at ha' hn'
        have HR := Lib.hid (numR_good (most := most) H0.out ha' (by rw [hn']; exact hq))
        have HN := Lib.hid hn'
        clear e ha' hn' hm hz ha hn
        go_wp2
        exact rcast H.out (by rw [HR.out, HN.out]; rfl)
set_option maxHeartbeats 2000000 in
theorem rnumber_any {R : Ending → World → Prop} (l : List UInt8) (most : Int) (w : World) (hl : l.length ≤ 2000000) (hm1 : -9223372036854775808 ≤ most) (hm2 : most ≤ 9223372036854775807)
    (h : R (.returned (numV (numR l most))) w) : Calls Tryz.prog 53 #[.string (S l), .int .i64 most] w R := by
  have H := Lib.hid h
  clear h
  go_enter Tryz.func53, Tryz.ntmps53
  go_wp2
  go_loop [6, 7] (fun nn i => ∃ (k m : Nat), k ≤ l.length ∧ i = .int .i64 k ∧ nn = .int .u64 m ∧ Hid ((l.take k).all digB = true) ∧ Hid (numN (l.take k) = m) ∧ (m : Int) ≤ 9223372036854775807) (fun _ i => l.length - (intOf i).toNat)
  case atStart => exact ⟨0, 0, Nat.zero_le _, rfl, rfl, Lib.hid rfl, Lib.hid rfl, by omega⟩
  case round =>
    obtain ⟨k, m, hk, rfl, rfl, ha, hn, hm⟩ := hrel
    by_cases hlt : k < l.length
    · obtain ⟨x, hx⟩ : ∃ x, l[k]'hlt = x := ⟨_, rfl⟩
      have hx255 := x.toNat_lt
      have HT : Hid (l.take (k + 1) = l.take k ++ [x]) := Lib.hid (by rw [take_snoc' hlt, hx])
      by_cases hd : digB x = true
      · have hd' := hd
        unfold digB at hd'
        simp at hd'
        obtain ⟨d1, d2⟩ := hd'
        have HA2 : Hid ((l.take (k + 1)).all digB = true) := by
          refine Lib.hid ?_
          rw [HT.out, List.all_append, ha.out]; simp [hd]
        have hnx : numN (l.take (k + 1)) = 10 * m + (x.toNat - 48) := by rw [HT.out, numN_snoc, hn.out]
        have HN := Lib.hid hnx
        have hle := numN_take l (k + 1)
        have HL := Lib.hid hle
        clear hd hnx hle
        by_cases hbig : (10 * m + (x.toNat - 48) : Int) ≤ 9223372036854775807
        · have c1 : (m : Int) ≤ (9223372036854775807 - ((x.toNat : Int) - 48)) / 10 := by omega
          go_wp2
          exact ⟨⟨k + 1, 10 * m + (x.toNat - 48), by omega, by go_num, congrArg (Value.int .u64) (by omega), HA2, HN, by omega⟩, by simp [intOf]; omega⟩
        · have HR := Lib.hid (numR_bad (l := l) (most := most) (.inr (.inr (by have := HL.out; have := HN.out; omega))))
          have c1 : (9223372036854775807 - ((x.toNat : Int) - 48)) / 10 < (m : Int) := by omega
          clear hbig
          go_wp2
          exact rcast H.out (by rw [HR.out]; rfl)
      · have hdf : digB x = false := by simpa using hd
        have HR := Lib.hid (numR_bad (l := l) (most := most) (.inr (.inl (digB_stop hlt (by rw [hx]; exact hdf)))))
        unfold digB at hdf
        simp at hdf
        clear hd
        by_cases h48 : x.toNat < 48
        · clear hdf
          go_wp2
          exact rcast H.out (by rw [HR.out]; rfl)
        · have h57 : 57 < x.toNat := hdf (by omega)
          clear hdf
          go_wp2
          exact rcast H.out (by rw [HR.out]; rfl)
    · have e : l.take k = l := List.take_of_length_le (by omega)
      have ha' := ha.out
      have hn' := hn.out
      rw [e] at ha' hn'
      by_cases h0 : l = []
      · have HR := Lib.hid (numR_bad (most := most) (.inl h0))
        subst h0
        clear e ha' hn' ha hn
        go_wp2
        exact rcast H.out (by rw [HR.out]; rfl)
      · have b0 : l.isEmpty = false := by simpa using h0
        have HN := Lib.hid hn'
        by_cases hneg : most < 0
        · have HR := Lib.hid (numR_bad (l := l) (most := most) (.inr (.inr (by omega))))
          clear e ha' hn' ha hn h0
          go_wp2
          exact rcast H.out (by rw [HR.out]; rfl)
        · by_cases hgt : most < m
          · have HR := Lib.hid (numR_bad (l := l) (most := most) (.inr (.inr (by rw [hn']; exact hgt))))
            have hp : 0 ≤ most := by omega
            clear e ha' hn' ha hn h0 hneg
            go_wp2
            exact rcast H.out (by rw [HR.out]; rfl)
          · have HR := Lib.hid (numR_good (most := most) h0 ha' (by rw [hn']; omega))
            have hp : 0 ≤ most := by omega
            have hq : (m : Int) ≤ most := by omega
            clear e ha' hn' ha hn h0 hneg hgt
            go_wp2
            exact rcast H.out (by rw [HR.out, HN.out]; rfl)
end
/-! ### The document's lex. -/
section
open Go.RowKit
set_option linter.unusedVariables false
set_option linter.unusedSimpArgs false
set_option maxRecDepth 100000

def tokK : List UInt8 := [97, 98, 99, 100, 101, 102, 103, 104, 105, 106, 107, 108, 109, 110, 111, 112, 113, 114, 115, 116, 117, 118, 119, 120, 121, 122, 65, 66, 67, 68, 69, 70, 71, 72, 73, 74, 75, 76, 77, 78, 79, 80, 81, 82, 83, 84, 85, 86, 87, 88, 89, 90, 48, 49, 50, 51, 52, 53, 54, 55, 56, 57, 33, 35, 36, 37, 38, 39, 42, 43, 45, 46, 94, 95, 96, 124, 126]
theorem tokK_is (c : UInt8) : tokK.contains c = wordB c := by
  have : ∀ n : Fin 256, tokK.contains (UInt8.ofNat n.1) = wordB (UInt8.ofNat n.1) := by decide +kernel
  have h := this ⟨c.toNat, c.toNat_lt⟩
  simpa using h
theorem cont_snoc1 (l : List UInt8) (c : UInt8) (k : Nat) (h : k < l.length) : (l.take (k + 1)).contains c = ((l.take k).contains c || (l[k] == c)) := by
  rw [List.take_succ_eq_append_getElem h, List.contains_eq_any_beq, List.contains_eq_any_beq, List.any_append]
  simp [Bool.beq_comm]
set_option maxHeartbeats 1000000 in
theorem rhas_any {R : Ending → World → Prop} (K : List UInt8) (c : UInt8) (w : World) (hK : K.length ≤ 2000000) (h : R (.returned (.bool (K.contains c))) w) : Calls Tryz.prog 125 #[.string (S K), .int .u8 c.toNat] w R := by
  have H := Lib.hid h
  clear h
  go_enter Tryz.func125, Tryz.ntmps125
  go_wp2
  go_loop [5] (fun i => ∃ k : Nat, k ≤ K.length ∧ i = .int .i64 k ∧ Hid ((K.take k).contains c = false)) (fun i => K.length - (intOf i).toNat)
  case atStart => exact ⟨0, Nat.zero_le _, rfl, Lib.hid rfl⟩
  case round =>
    obtain ⟨k, hk, rfl, ha⟩ := hrel
    by_cases hlt : k < K.length
    · obtain ⟨x, hx⟩ : ∃ x, K[k]'hlt = x := ⟨_, rfl⟩
      by_cases hc : x = c
      · have b : ((x.toNat : Int) == (c.toNat : Int)) = true := (u8_beq x c).trans (by simpa using hc)
        have HH := Lib.hid (show K.contains c = true by rw [List.contains_iff_mem, ← hc, ← hx]; exact List.getElem_mem hlt)
        clear hc
        go_wp2
        exact rcast H.out (congrArg Value.bool HH.out)
      · have b : ((x.toNat : Int) == (c.toNat : Int)) = false := (u8_beq x c).trans (by simpa using hc)
        have HX : Hid ((K.take (k + 1)).contains c = false) := by
          refine Lib.hid ?_
          rw [cont_snoc1 K c k hlt, ha.out, hx]; simpa using hc
        clear hc
        go_wp2
        go_round
        case rel => exact ⟨k + 1, by omega, by go_num, HX⟩
        case measure => simp [intOf]; omega
    · go_wp2
      refine rcast H.out (congrArg Value.bool ?_)
      have := ha.out
      rwa [List.take_of_length_le (by omega)] at this
theorem rhas_tok {R : Ending → World → Prop} (c : UInt8) (w : World) (h : R (.returned (.bool (wordB c))) w) : Calls Tryz.prog 125 #[.string (S tokK), .int .u8 c.toNat] w R :=
  rhas_any tokK c w (by decide) (by rw [tokK_is]; exact h)
set_option maxHeartbeats 1000000 in
theorem rtoken_any {R : Ending → World → Prop} (l : List UInt8) (w : World) (hl : l.length ≤ 2000000) (h : R (.returned (.bool (tokB l))) w) : Calls Tryz.prog 88 #[.string (S l)] w R := by
  have H := Lib.hid h
  clear h
  go_enter Tryz.func88, Tryz.ntmps88
  go_wp2
  go_loop [3] (fun i => ∃ k : Nat, k ≤ l.length ∧ i = .int .i64 k ∧ Hid ((l.take k).all wordB = true)) (fun i => l.length - (intOf i).toNat)
  case atStart => exact ⟨0, Nat.zero_le _, rfl, Lib.hid rfl⟩
  case round =>
    obtain ⟨k, hk, rfl, ha⟩ := hrel
    by_cases hlt : k < l.length
    · obtain ⟨x, hx⟩ : ∃ x, l[k]'hlt = x := ⟨_, rfl⟩
      cases hp : wordB x
      · have HP := Lib.hid hp
        have HS := Lib.hid (show tokB l = false by unfold tokB; rw [show l.all wordB = false from by rw [List.all_eq_false]; exact ⟨x, hx ▸ List.getElem_mem hlt, by simp [hp]⟩, Bool.and_false])
        clear hp
        go_wp2_with (go_at_call 125; (refine rhas_tok _ _ ?_); rw [HP.out])
        exact rcast H.out (congrArg Value.bool HS.out)
      · have HP := Lib.hid hp
        have HX : Hid ((l.take (k + 1)).all wordB = true) := by
          refine Lib.hid ?_
          rw [all_snoc' l wordB k hlt, ha.out, hx, hp]; rfl
        clear hp
        go_wp2_with (go_at_call 125; (refine rhas_tok _ _ ?_); rw [HP.out])
        go_round
        case rel => exact ⟨k + 1, by omega, by go_num, HX⟩
        case measure => simp [intOf]; omega
    · have := ha.out
      rw [List.take_of_length_le (by omega)] at this
      have HT := Lib.hid (show tokB l = decide (0 < l.length) by
        unfold tokB; rw [this, Bool.and_true]
        cases l <;> simp)
      clear this
      go_wp2
      exact rcast H.out (congrArg Value.bool HT.out)
set_option maxHeartbeats 1000000 in
theorem rvalue_any {R : Ending → World → Prop} (l : List UInt8) (w : World) (hl : l.length ≤ 2000000) (h : R (.returned (.bool (l.all valB))) w) : Calls Tryz.prog 89 #[.string (S l)] w R := by
  have H := Lib.hid h
  clear h
  go_enter Tryz.func89, Tryz.ntmps89
  go_wp2
  go_loop [3] (fun i => ∃ k : Nat, k ≤ l.length ∧ i = .int .i64 k ∧ Hid ((l.take k).all valB = true)) (fun i => l.length - (intOf i).toNat)
  case atStart => exact ⟨0, Nat.zero_le _, rfl, Lib.hid rfl⟩
  case round =>
    obtain ⟨k, hk, rfl, ha⟩ := hrel
    by_cases hlt : k < l.length
    · obtain ⟨x, hx⟩ : ∃ x, l[k]'hlt = x := ⟨_, rfl⟩
      have HX : Hid (valB x = true → (l.take (k + 1)).all valB = true) := Lib.hid (fun h => by rw [all_snoc' l valB k hlt, ha.out, hx, h]; rfl)
      have HS : Hid (valB x = false → l.all valB = false) := Lib.hid (fun h => by rw [List.all_eq_false]; exact ⟨x, hx ▸ List.getElem_mem hlt, by simp [h]⟩)
      by_cases c9 : x.toNat = 9
      · have HV := Lib.hid (HX.out (by simp [valB, c9]))
        have e1 : ((x.toNat : Int) != 9) = false := by simp [c9]
        have e2 : ((x.toNat : Int) == 127) = false := by simp [c9]
        clear c9
        go_wp2
        all_goals exact ⟨⟨k + 1, by omega, by go_num, HV⟩, by simp [intOf]; omega⟩
      · have e1 : ((x.toNat : Int) != 9) = true := by simp; omega
        by_cases c32 : x.toNat < 32
        · have HV := Lib.hid (HS.out (by simp [valB]; omega))
          clear c9
          go_wp2
          exact rcast H.out (congrArg Value.bool HV.out)
        · have c32' : 32 ≤ x.toNat := by omega
          by_cases c127 : x.toNat = 127
          · have e2 : ((x.toNat : Int) == 127) = true := by simp [c127]
            have HV := Lib.hid (HS.out (by simp [valB, c127]))
            clear c9 c127 c32
            go_wp2
            exact rcast H.out (congrArg Value.bool HV.out)
          · have e2 : ((x.toNat : Int) == 127) = false := by simp; omega
            have HV := Lib.hid (HX.out (by simp [valB]; omega))
            clear c9 c127 c32
            go_wp2
            go_round
            case rel => exact ⟨k + 1, by omega, by go_num, HV⟩
            case measure => simp [intOf]; omega
    · go_wp2
      refine rcast H.out (congrArg Value.bool ?_)
      have := ha.out
      rwa [List.take_of_length_le (by omega)] at this
def blkB (c : UInt8) : Bool := ([32, 9] : List UInt8).contains c
def rdropB (l : List UInt8) : List UInt8 := (l.reverse.dropWhile blkB).reverse
theorem rdropB_snoc (l : List UInt8) (c : UInt8) : rdropB (l ++ [c]) = if blkB c then rdropB l else l ++ [c] := by
  unfold rdropB
  rw [List.reverse_append, List.reverse_singleton, List.singleton_append, List.dropWhile_cons]
  split <;> simp
theorem rdropB_cons (x : UInt8) (r : List UInt8) : rdropB (x :: r) = if rdropB r = [] then (if blkB x then [] else [x]) else x :: rdropB r := by
  have h : rdropB r = (r.reverse.dropWhile blkB).reverse := rfl
  unfold rdropB
  rw [List.reverse_cons, List.dropWhile_append]
  cases hd : r.reverse.dropWhile blkB with
  | nil => simp [List.dropWhile_cons]; split <;> simp
  | cons y ys => simp
theorem drop_rdrop (l : List UInt8) : rdropB (l.dropWhile blkB) = (rdropB l).dropWhile blkB := by
  induction l with
  | nil => rfl
  | cons x r ih =>
    rw [List.dropWhile_cons]
    cases hx : blkB x
    · simp only [Bool.false_eq_true, if_false]
      rw [rdropB_cons, hx]
      split <;> simp [List.dropWhile_cons, hx]
    · simp only [if_true]
      rw [ih, rdropB_cons, hx]
      split
      · rename_i h; rw [h]; rfl
      · rw [List.dropWhile_cons, hx]; rfl
theorem trimL_eq (l : List UInt8) : trimL l = rdropB (l.dropWhile blkB) := (drop_rdrop l).symm
theorem snocCases {α : Type} (l : List α) : l = [] ∨ ∃ rs x, l = rs ++ [x] := by
  rcases h : l.reverse with _ | ⟨x, rs⟩
  · left; simpa using h
  · right; exact ⟨rs.reverse, x, by have := congrArg List.reverse h; simpa using this⟩
def strLen1 : Value → Nat
  | .string s => s.size
  | _ => 0
set_option maxHeartbeats 1000000 in
theorem rtrim_any {R : Ending → World → Prop} (l : List UInt8) (w : World) (hl : l.length ≤ 2000000) (h : R (.returned (.string (S (trimL l)))) w) : Calls Tryz.prog 91 #[.string (S l)] w R := by
  have H := Lib.hid h
  clear h
  have HT := Lib.hid (trimL_eq l)
  generalize trimL l = res at *
  have hdl : (l.dropWhile blkB).length ≤ 2000000 := Nat.le_trans (List.dropWhile_sublist _).length_le hl
  go_enter Tryz.func91, Tryz.ntmps91
  go_upto_block 0 with (fail)
  go_cut [0] from 3 (fun s w' => s = .string (S (l.dropWhile blkB)) ∧ w' = w)
  case rest =>
    obtain ⟨rfl, rfl⟩ := hcut
    generalize l.dropWhile blkB = d at *
    go_wp2
    go_loop [0] (fun s => ∃ r : List UInt8, s = .string (S r) ∧ r.length ≤ 2000000 ∧ Hid (rdropB d = rdropB r)) (fun s => strLen1 s)
    case atStart => exact ⟨d, rfl, hdl, Lib.hid rfl⟩
    case round =>
      obtain ⟨r, rfl, hrl, hd⟩ := hrel
      rcases snocCases r with rfl | ⟨rs, x, rfl⟩
      · have HR := Lib.hid (show res = [] by rw [HT.out, hd.out]; rfl)
        clear hd
        go_wp2
        exact rcast H.out (by rw [HR.out])
      · have hrl' : rs.length + 1 ≤ 2000000 := by simpa using hrl
        clear hrl
        by_cases hb : blkB x = true
        · have hb' : x.toNat = 32 ∨ x.toNat = 9 := by
            unfold blkB at hb; simp at hb
            rcases hb with rfl | rfl
            · left; rfl
            · right; rfl
          have HD : Hid (rdropB d = rdropB rs) := Lib.hid (by rw [hd.out, rdropB_snoc, hb]; rfl)
          clear hb hd
          rcases hb' with hb | hb
          · have e1 : ((x.toNat : Int) == 32) = true := by simp [hb]
            clear hb
            go_wp2
            exact ⟨⟨rs, rfl, by omega, HD⟩, by simp [strLen1, S_size]⟩
          · have e0 : ((x.toNat : Int) == 32) = false := by simp [hb]
            have e1 : ((x.toNat : Int) == 9) = true := by simp [hb]
            clear hb
            go_wp2
            exact ⟨⟨rs, rfl, by omega, HD⟩, by simp [strLen1, S_size]⟩
        · have hb' : blkB x = false := by simpa using hb
          have HR := Lib.hid (show res = rs ++ [x] by rw [HT.out, hd.out, rdropB_snoc, hb']; rfl)
          have h32 : ¬ x.toNat = 32 ∧ ¬ x.toNat = 9 := by
            constructor
            · intro e; apply hb; have : x = 32 := UInt8.toNat_inj.1 e; rw [this]; rfl
            · intro e; apply hb; have : x = 9 := UInt8.toNat_inj.1 e; rw [this]; rfl
          have e0 : ((x.toNat : Int) == 32) = false := by simp; omega
          have e1 : ((x.toNat : Int) == 9) = false := by simp; omega
          clear hb hb' h32 hd
          go_wp2
          exact rcast H.out (by rw [HR.out])
  case first =>
    go_wp2
    go_loop [0] (fun s => ∃ r : List UInt8, s = .string (S r) ∧ r.length ≤ 2000000 ∧ Hid (l.dropWhile blkB = r.dropWhile blkB)) (fun s => strLen1 s)
    case atStart => exact ⟨l, rfl, hl, Lib.hid rfl⟩
    case round =>
      obtain ⟨r, rfl, hrl, hd⟩ := hrel
      match r with
      | [] =>
        have HR := Lib.hid (show l.dropWhile blkB = [] from hd.out)
        clear hd
        go_wp2
        go_meet
        case rel => exact ⟨by rw [HR.out], rfl⟩
      | x :: rs =>
        have hrl' : rs.length + 1 ≤ 2000000 := by simpa using hrl
        by_cases hb : blkB x = true
        · have hb' : x.toNat = 32 ∨ x.toNat = 9 := by
            unfold blkB at hb; simp at hb
            rcases hb with rfl | rfl
            · left; rfl
            · right; rfl
          have HD : Hid (l.dropWhile blkB = rs.dropWhile blkB) := Lib.hid (by rw [hd.out, List.dropWhile_cons, hb]; rfl)
          clear hb hd
          rcases hb' with hb | hb
          · have e1 : ((x.toNat : Int) == 32) = true := by simp [hb]
            clear hb
            go_wp2
            exact ⟨⟨rs, rfl, by omega, HD⟩, by simp [strLen1, S_size]⟩
          · have e0 : ((x.toNat : Int) == 32) = false := by simp [hb]
            have e1 : ((x.toNat : Int) == 9) = true := by simp [hb]
            clear hb
            go_wp2
            exact ⟨⟨rs, rfl, by omega, HD⟩, by simp [strLen1, S_size]⟩
        · have hb' : blkB x = false := by simpa using hb
          have HR := Lib.hid (show l.dropWhile blkB = x :: rs by rw [hd.out, List.dropWhile_cons, hb']; rfl)
          have h32 : ¬ x.toNat = 32 ∧ ¬ x.toNat = 9 := by
            constructor
            · intro e; apply hb; have : x = 32 := UInt8.toNat_inj.1 e; rw [this]; rfl
            · intro e; apply hb; have : x = 9 := UInt8.toNat_inj.1 e; rw [this]; rfl
          have e0 : ((x.toNat : Int) == 32) = false := by simp; omega
          have e1 : ((x.toNat : Int) == 9) = false := by simp; omega
          clear hb hb' h32 hd
          go_wp2
          go_meet
          case rel => exact ⟨by rw [HR.out], rfl⟩
set_option maxHeartbeats 1000000 in
theorem rlower_any {R : Ending → World → Prop} (l : List UInt8) (w : World) (hl : l.length ≤ 2000000) (h : ∀ w', Kp [] w w' → R (.returned (.string (S (lowL l)))) w') : Calls Tryz.prog 90 #[.string (S l)] w R := by
  have H := Lib.hid h
  clear h
  go_enter Tryz.func90, Tryz.ntmps90
  go_wp2
  go_loopw [3, 4] (fun b i wr => ∃ (k : Nat) (A : Option Addr) (c : Nat), k ≤ l.length ∧ i = .int .i64 k ∧ b = .slice A k c ∧ Kp [] w wr ∧ Ow wr 5 1 A k c (bts (lowL (l.take k))) ∧ (∀ b ∈ bks A, w.heap.size ≤ b)) (fun _ i _ => l.length - (intOf i).toNat)
  case atStart => exact ⟨0, none, 0, Nat.zero_le _, rfl, rfl, Kp.refl _ _, Ow.nil, by simp [bks]⟩
  case round =>
    obtain ⟨k, A, c, hk, rfl, rfl, kr, ho, hA⟩ := hrel
    by_cases hlt : k < l.length
    · obtain ⟨x, hx⟩ : ∃ x, l[k]'hlt = x := ⟨_, rfl⟩
      have hxl := x.toNat_lt
      have HT : Hid (bts (lowL (l.take k)) ++ bts [lowC x] = bts (lowL (l.take (k + 1)))) := by
        refine Lib.hid ?_
        rw [← bts_append, List.take_succ_eq_append_getElem hlt, hx]
        unfold lowL
        rw [List.map_append]; rfl
      by_cases hup : 65 ≤ x.toNat ∧ x.toNat ≤ 90
      · obtain ⟨u1, u2⟩ := hup
        have HX : Hid ((lowC x).toNat = x.toNat + 32) := by
          refine Lib.hid ?_
          unfold lowC
          rw [if_pos ⟨u1, u2⟩, UInt8.toNat_ofNat']
          omega
        go_wp2_with (at_builtin; refine wpList_app _ rfl (.tmp 23) (.tmp 25) _ rfl elt_u8 A k c _ rfl (ho.alloc _) [] (some ⟨wr.heap.size, 0, none⟩) 1 1 (bts [lowC x]) rfl (Rd.of_bk ((Bk.newAt rfl _ _).cast (by have := HX.out; simp [bts, this])) (by simp)) rfl (bts_one _) (by omega) ?_; intro A2 c2 w2 ho2 hk2 hA2)
        exact ⟨⟨k + 1, A2, c2, by omega, by go_num, rfl, (kr.alloc _).thn hk2 (fun s hs => .inr (hA s hs)), ho2.cast rfl HT.out, bks_app hA2 hA (by have := kr.size; simp; omega)⟩, by simp [intOf]; omega⟩
      · have HX : Hid ((lowC x).toNat = x.toNat) := by
          refine Lib.hid ?_
          unfold lowC
          rw [if_neg hup]
        by_cases h65 : x.toNat < 65
        · clear hup
          go_wp2_with (at_builtin; refine wpList_app _ rfl (.tmp 23) (.tmp 25) _ rfl elt_u8 A k c _ rfl (ho.alloc _) [] (some ⟨wr.heap.size, 0, none⟩) 1 1 (bts [lowC x]) rfl (Rd.of_bk ((Bk.newAt rfl _ _).cast (by have := HX.out; simp [bts, this])) (by simp)) rfl (bts_one _) (by omega) ?_; intro A2 c2 w2 ho2 hk2 hA2)
          exact ⟨⟨k + 1, A2, c2, by omega, by go_num, rfl, (kr.alloc _).thn hk2 (fun s hs => .inr (hA s hs)), ho2.cast rfl HT.out, bks_app hA2 hA (by have := kr.size; simp; omega)⟩, by simp [intOf]; omega⟩
        · have h90 : 90 < x.toNat := by omega
          clear hup
          go_wp2_with (at_builtin; refine wpList_app _ rfl (.tmp 23) (.tmp 25) _ rfl elt_u8 A k c _ rfl (ho.alloc _) [] (some ⟨wr.heap.size, 0, none⟩) 1 1 (bts [lowC x]) rfl (Rd.of_bk ((Bk.newAt rfl _ _).cast (by have := HX.out; simp [bts, this])) (by simp)) rfl (bts_one _) (by omega) ?_; intro A2 c2 w2 ho2 hk2 hA2)
          exact ⟨⟨k + 1, A2, c2, by omega, by go_num, rfl, (kr.alloc _).thn hk2 (fun s hs => .inr (hA s hs)), ho2.cast rfl HT.out, bks_app hA2 hA (by have := kr.size; simp; omega)⟩, by simp [intOf]; omega⟩
    · have e1 : l.take k = l := List.take_of_length_le (by omega)
      rw [e1] at ho
      have hkl : k = l.length := by omega
      have hcv := conv_bs (c := c) (n := k) (ho.rd (N := []) (by simp)) (by simp [lowL]; omega)
      have HK := Lib.hid kr
      clear e1 ho kr hkl
      go_wp2
      exact H.out _ HK.out
end
/-! ### The items of a list: lex.Items, and the document's. -/
section
open Go.RowKit Go.Shelf
set_option linter.unusedVariables false
set_option linter.unusedSimpArgs false
set_option maxRecDepth 100000

/-- One piece's item, where it has one. -/
def oneI (p : List UInt8) : List (List UInt8) := if trimL p = [] then [] else [trimL p]
def itemsL (l : List UInt8) : List (List UInt8) := (spl 44 l).flatMap oneI
theorem itemsL_none {p : List UInt8} (h : p.contains 44 = false) : itemsL p = oneI p := by
  unfold itemsL; rw [spl_eq, h]; simp
theorem itemsL_cut (p r : List UInt8) (h : p.contains 44 = false) : itemsL (p ++ 44 :: r) = oneI p ++ itemsL r := by
  have hb : bef 44 (p ++ 44 :: r) = p ∧ aft 44 (p ++ 44 :: r) = r ∧ (p ++ 44 :: r).contains 44 = true := by
    induction p with
    | nil => simp [bef, aft]
    | cons x p ih =>
      rw [List.contains_cons, Bool.or_eq_false_iff] at h
      have e : ¬ x = 44 := by have := h.1; simp at this; exact Ne.symm this
      obtain ⟨h1, h2, h3⟩ := ih h.2
      rw [List.cons_append, bef, aft, if_neg e, if_neg e, h1, h2, List.contains_cons, h3, Bool.or_true]
      exact ⟨rfl, rfl, rfl⟩
  obtain ⟨h1, h2, h3⟩ := hb
  unfold itemsL
  rw [spl_eq, h3, h1, h2]; simp
theorem flat_snocI {l : List (List UInt8)} {k : Nat} {x : List UInt8} (hx : l[k]? = some x) : (l.take (k + 1)).flatMap oneI = (l.take k).flatMap oneI ++ oneI x := by
  have hk : k < l.length := (List.getElem?_eq_some_iff.1 hx).1
  have e : l[k] = x := (List.getElem?_eq_some_iff.1 hx).2
  rw [List.take_succ_eq_append_getElem hk, e]
  simp
theorem trim_len (p : List UInt8) : (trimL p).length ≤ p.length := by
  rw [trimL_eq]
  unfold rdropB
  rw [List.length_reverse]
  have h1 : ((List.dropWhile blkB p).reverse.dropWhile blkB).length ≤ (List.dropWhile blkB p).reverse.length := (List.dropWhile_sublist _).length_le
  have h2 : (List.dropWhile blkB p).length ≤ p.length := (List.dropWhile_sublist _).length_le
  rw [List.length_reverse] at h1
  omega
theorem oneI_len (p : List UInt8) : (oneI p).length ≤ 1 := by unfold oneI; split <;> simp
theorem flat_one_len (ps : List (List UInt8)) : (ps.flatMap oneI).length ≤ ps.length := by
  induction ps with
  | nil => simp
  | cons p ps ih => rw [List.flatMap_cons, List.length_append, List.length_cons]; have := oneI_len p; omega
theorem itemsL_len (l : List UInt8) : (itemsL l).length ≤ l.length + 1 := by
  refine Nat.le_trans (flat_one_len _) ?_
  rw [spl_len]
  have := List.count_le_length (a := (44 : UInt8)) (l := l)
  omega
theorem items_mem_len {l p : List UInt8} (h : p ∈ itemsL l) : p.length ≤ l.length := by
  unfold itemsL at h
  rw [List.mem_flatMap] at h
  obtain ⟨q, hq, hp⟩ := h
  have h1 := spl_mem_len 44 l q hq
  have h2 := trim_len q
  unfold oneI at hp
  split at hp
  · cases hp
  · simp at hp; subst hp; omega
theorem items_mem_ne {l p : List UInt8} (h : p ∈ itemsL l) : p ≠ [] := by
  unfold itemsL at h
  rw [List.mem_flatMap] at h
  obtain ⟨q, hq, hp⟩ := h
  unfold oneI at hp
  split at hp
  · cases hp
  · simp at hp; subst hp; assumption
theorem app_one {w : World} {x : List UInt8} : Rd (w.alloc (.cells #[.string (S x)] 9)) [] (some ⟨w.heap.size, 0, none⟩) (strs [x]) := Rd.of_bk (Bk.newAt rfl _ _) (by simp)

set_option maxHeartbeats 1000000 in
theorem items_any {R : Ending → World → Prop} (l : List UInt8) (w : World) (hl : l.length ≤ 2000000) (hm : Ml w)
    (h : ∀ A c w', Ow w' 9 1 A (itemsL l).length c (strs (itemsL l)) → (∀ b ∈ bks A, w.heap.size ≤ b) → Kp [] w w' → R (.returned (.slice A (itemsL l).length c)) w') :
    Calls Tryz.prog 69 #[.string (S l)] w R := by
  have H := Lib.hid h
  clear h
  have HI := Lib.hid (show itemsL l = (spl 44 l).flatMap oneI from rfl)
  have HSL := Lib.hid (spl_mem_len 44 l)
  have hcnt : (spl 44 l).length ≤ 2000001 := by
    rw [spl_len]
    have := List.count_le_length (a := (44 : UInt8)) (l := l)
    omega
  go_enter Tryz.func69, Tryz.ntmps69
  go_wp2_with (go_at_call 120; ((refine split_any l 44 hm hl ?_); intro g w1 hg hb k1))
  have hr := Rd.of_bk (N := []) hb (by simp)
  clear hb
  generalize itemsL l = its at *
  generalize spl 44 l = ps at *
  go_loopw [3, 9] (fun sv iv wr => ∃ (k m : Nat) (A : Option Addr) (c : Nat), k ≤ ps.length ∧ iv = .int .i64 k ∧ sv = .slice A m c ∧ m ≤ k ∧ Hid (m = ((ps.take k).flatMap oneI).length) ∧ Ow wr 9 1 A m c (strs ((ps.take k).flatMap oneI)) ∧ (∀ b ∈ bks A, w1.heap.size ≤ b) ∧ Kp [] w1 wr) (fun _ iv _ => ps.length - (intOf iv).toNat)
  case atStart => exact ⟨0, 0, none, 0, Nat.zero_le _, rfl, rfl, Nat.zero_le _, Lib.hid rfl, Ow.nil, by simp [bks], Kp.refl _ _⟩
  case round =>
    obtain ⟨k, m, A, c, hk, rfl, rfl, hmk, hmm, ho, hA, kr⟩ := hrel
    by_cases hlt : k < ps.length
    · obtain ⟨x, hx⟩ : ∃ x, ps[k]? = some x := ⟨_, List.getElem?_eq_getElem hlt⟩
      have hxl : x.length ≤ 2000000 := Nat.le_trans (HSL.out x (List.mem_of_getElem? hx)) hl
      have hsn := flat_snocI hx
      obtain ⟨b0, off, hg0, _, hgl, hc⟩ := hr (by intro e; simp [strs] at e; subst e; simp at hlt)
      obtain rfl : b0 = g := by injection hg0 with h; injection h with h _; exact h.symm
      obtain rfl : off = 0 := by injection hg0 with h; injection h with _ h; exact h.symm
      have hc1 : wr.cell? ⟨b0, k, none⟩ = some (.string (S x)) := by
        have := hc k (.string (S x)) (by rw [strs_get, hx]; rfl)
        rw [Nat.zero_add] at this
        rw [kr.cell (p := ⟨b0, k, none⟩) hgl (by simp)]; exact this
      clear hc hg0 hgl hr
      by_cases ht : trimL x = []
      · have HO := Lib.hid (show oneI x = [] by unfold oneI; rw [if_pos ht])
        have HT := Lib.hid ht
        clear ht
        go_wp2_with (go_at_call 113; ((refine trim_any x _ hxl ?_); intro w2 k2; rw [HT.out]))
        refine ⟨⟨k + 1, m, A, c, by omega, by go_num, rfl, by omega, Lib.hid ?_, ?_, hA, kr.trans k2⟩, by simp [intOf]; omega⟩
        · rw [hsn, HO.out, List.append_nil]; exact hmm.out
        · rw [hsn, HO.out, List.append_nil]; exact ho.kp k2 (by simp)
      · have HO := Lib.hid (show oneI x = [trimL x] by unfold oneI; rw [if_neg ht])
        obtain ⟨t, htx⟩ : ∃ t, trimL x = t := ⟨_, rfl⟩
        rw [htx] at HO ht
        have HT := Lib.hid htx
        have hte : t.isEmpty = false := by simpa using ht
        clear ht htx
        go_wp2_with (first | (go_at_call 113; ((refine trim_any x _ hxl ?_); intro w2 k2; rw [HT.out]; have ho2 := ho.kp k2 (by simp); have k12 := kr.trans k2)) | (at_builtin; refine wpList_app _ rfl (.tmp 17) (.tmp 19) _ rfl elt_str A m c _ rfl (ho2.alloc _) [] (some ⟨w2.heap.size, 0, none⟩) 1 1 (strs [t]) rfl app_one rfl (strs_one _) (by omega) ?_; intro A2 c2 w3 ho3 hk3 hA3))
        refine ⟨⟨k + 1, m + 1, A2, c2, by omega, by go_num, rfl, by omega, Lib.hid ?_, ho3.cast rfl ?_, bks_app hA3 hA (by have := k12.size; simp; omega), (k12.alloc _).thn hk3 (fun s hs => .inr (hA s hs))⟩, by simp [intOf]; omega⟩
        · rw [hsn, HO.out, List.length_append, ← hmm.out]; rfl
        · rw [hsn, HO.out, strs_append]
    · have e : ps.take k = ps := List.take_of_length_le (by omega)
      rw [e, ← HI.out] at hmm ho
      have HM := hmm.out
      clear e
      subst HM
      go_wp2
      exact H.out A c _ ho (fun b hb => Nat.le_trans k1.size (hA b hb)) (k1.trans kr)

set_option maxHeartbeats 1000000 in
theorem ritems_any {R : Ending → World → Prop} (l : List UInt8) (w : World) (hl : l.length ≤ 2000000)
    (h : ∀ A c w', Ow w' 9 1 A (itemsL l).length c (strs (itemsL l)) → (∀ b ∈ bks A, w.heap.size ≤ b) → Kp [] w w' → R (.returned (.slice A (itemsL l).length c)) w') :
    Calls Tryz.prog 92 #[.string (S l)] w R := by
  have H := Lib.hid h
  clear h
  obtain ⟨its, hits⟩ : ∃ its, itemsL l = its := ⟨_, rfl⟩
  rw [hits] at H
  have hil : its.length ≤ l.length + 1 := by rw [← hits]; exact itemsL_len l
  have HI := Lib.hid hits
  clear hits
  go_enter Tryz.func92, Tryz.ntmps92
  go_wp2
  go_loopw [3, 4, 5] (fun sv fv iv wr => ∃ (k f : Nat) (A : Option Addr) (c : Nat) (o r : List (List UInt8)), k ≤ l.length + 1 ∧ f ≤ k ∧ f ≤ l.length + 1 ∧ iv = .int .i64 k ∧ fv = .int .i64 f ∧ sv = .slice A o.length c ∧ Hid (its = o ++ r) ∧ Hid (k ≤ l.length → f ≤ l.length ∧ r = itemsL (l.drop f) ∧ ((l.take k).drop f).contains 44 = false) ∧ Hid (l.length < k → r = []) ∧ Ow wr 9 1 A o.length c (strs o) ∧ (∀ b ∈ bks A, w.heap.size ≤ b) ∧ Kp [] w wr) (fun _ _ iv _ => l.length + 1 - (intOf iv).toNat)
  case atStart => exact ⟨0, 0, none, 0, [], its, by omega, by omega, by omega, rfl, rfl, rfl, Lib.hid rfl, Lib.hid (fun _ => ⟨by omega, by rw [← HI.out]; rfl, by simp⟩), Lib.hid (fun h => by omega), Ow.nil, by simp [bks], Kp.refl _ _⟩
  case round =>
    obtain ⟨k, f, A, c, o, r, hk, hfk, hfl, rfl, rfl, rfl, hio, hq, hq2, ho, hA, kr⟩ := hrel
    have hol : o.length ≤ its.length := by rw [hio.out, List.length_append]; omega
    by_cases hlt : k ≤ l.length
    · obtain ⟨q1, q2, q3⟩ := hq.out hlt
      clear hq hq2
      obtain ⟨p, hp⟩ : ∃ p, (l.take k).drop f = p := ⟨_, rfl⟩
      have hpl : p.length ≤ 2000000 := by rw [← hp]; simp; omega
      have q3' := q3
      rw [hp] at q3'
      by_cases hkl : k = l.length
      · subst hkl
        have hr1 : r = oneI p := by
          rw [q2, ← hp, List.take_length, itemsL_none (by rw [List.take_length] at q3; exact q3)]
        have HP := Lib.hid (show l.drop f = p by rw [← hp, List.take_length])
        clear hp q2 q3 q3'
        by_cases ht : trimL p = []
        · have hr0 : r = [] := by rw [hr1]; unfold oneI; rw [if_pos ht]
          have HT := Lib.hid ht
          have HR := Lib.hid hr0
          clear ht hr1 hr0
          go_wp2_with (go_at_call 91; ((refine rtrim_any _ _ (by rw [HP.out]; exact hpl) ?_); rw [HP.out, HT.out]))
          exact ⟨⟨l.length + 1, l.length + 1, A, c, o, r, by omega, by omega, by omega, by go_num, by go_num, rfl, hio, Lib.hid (fun h => by omega), Lib.hid (fun _ => HR.out), ho, hA, kr⟩, by simp [intOf]⟩
        · obtain ⟨t, htx⟩ : ∃ t, trimL p = t := ⟨_, rfl⟩
          have hr0 : r = [t] := by rw [hr1]; unfold oneI; rw [if_neg ht, htx]
          rw [htx] at ht
          have HT := Lib.hid htx
          have HR := Lib.hid hr0
          have hte : (t.length == 0) = false := by simpa using ht
          have hte2 : t.isEmpty = false := by simpa using ht
          clear ht hr1 hr0 htx
          go_wp2_with (first | (go_at_call 91; ((refine rtrim_any _ _ (by rw [HP.out]; exact hpl) ?_); rw [HP.out, HT.out])) | (at_builtin; refine wpList_app _ rfl (.tmp 30) (.tmp 32) _ rfl elt_str A o.length c _ rfl (ho.alloc _) [] (some ⟨wr.heap.size, 0, none⟩) 1 1 (strs [t]) rfl app_one rfl (strs_one _) (by omega) ?_; intro A2 c2 w3 ho3 hk3 hA3))
          have e1 : o.length + 1 = (o ++ [t]).length := by simp
          exact ⟨⟨l.length + 1, l.length + 1, A2, c2, o ++ [t], [], by omega, by omega, by omega, by go_num, by go_num, by rw [e1], Lib.hid (by rw [hio.out, HR.out]; simp), Lib.hid (fun h => by omega), Lib.hid (fun _ => rfl), ho3.cast e1 (strs_append _ _).symm, bks_app hA3 hA (by have := kr.size; simp; omega), (kr.alloc _).thn hk3 (fun s hs => .inr (hA s hs))⟩, by simp [intOf]⟩
      · have hk2 : k < l.length := by omega
        clear hkl
        obtain ⟨x, hx⟩ : ∃ x, l[k]'hk2 = x := ⟨_, rfl⟩
        by_cases hc : x = 44
        · have hcut : l.drop f = p ++ 44 :: l.drop (k + 1) := by
            have h1 : l = l.take k ++ 44 :: l.drop (k + 1) := by
              rw [← hc, ← hx, ← List.drop_eq_getElem_cons hk2, List.take_append_drop]
            conv => lhs; rw [h1]
            rw [List.drop_append_of_le_length (by simp; omega), hp]
          have hr1 : r = oneI p ++ itemsL (l.drop (k + 1)) := by rw [q2, hcut, itemsL_cut _ _ q3']
          have b1 : ((x.toNat : Int) == 44) = true := by rw [hc]; rfl
          have HP := Lib.hid hp
          have HQ : ∀ z, Hid (z = itemsL (l.drop (k + 1))) → Hid (k + 1 ≤ l.length → k + 1 ≤ l.length ∧ z = itemsL (l.drop (k + 1)) ∧ ((l.take (k + 1)).drop (k + 1)).contains 44 = false) := fun z hz => Lib.hid (fun h => ⟨h, hz.out, by rw [List.drop_eq_nil_of_le (by simp; omega)]; rfl⟩)
          clear hp q2 q3 q3' hcut hc
          by_cases ht : trimL p = []
          · have hr0 : r = itemsL (l.drop (k + 1)) := by rw [hr1]; unfold oneI; rw [if_pos ht]; rfl
            have HT := Lib.hid ht
            have HR := Lib.hid hr0
            clear ht hr1 hr0
            go_wp2_with (go_at_call 91; ((refine rtrim_any _ _ (by rw [HP.out]; exact hpl) ?_); rw [HP.out, HT.out]))
            exact ⟨⟨k + 1, k + 1, A, c, o, itemsL (l.drop (k + 1)), by omega, by omega, by omega, by go_num, by go_num, rfl, Lib.hid (by rw [hio.out, HR.out]), HQ _ rfl, Lib.hid (fun _ => by omega), ho, hA, kr⟩, by simp [intOf]; omega⟩
          · obtain ⟨t, htx⟩ : ∃ t, trimL p = t := ⟨_, rfl⟩
            have hr0 : r = [t] ++ itemsL (l.drop (k + 1)) := by rw [hr1]; unfold oneI; rw [if_neg ht, htx]
            rw [htx] at ht
            have HT := Lib.hid htx
            have HR := Lib.hid hr0
            have hte : (t.length == 0) = false := by simpa using ht
            have hte2 : t.isEmpty = false := by simpa using ht
            clear ht hr1 hr0 htx
            go_wp2_with (first | (go_at_call 91; ((refine rtrim_any _ _ (by rw [HP.out]; exact hpl) ?_); rw [HP.out, HT.out])) | (at_builtin; refine wpList_app _ rfl (.tmp 30) (.tmp 32) _ rfl elt_str A o.length c _ rfl (ho.alloc _) [] (some ⟨wr.heap.size, 0, none⟩) 1 1 (strs [t]) rfl app_one rfl (strs_one _) (by omega) ?_; intro A2 c2 w3 ho3 hk3 hA3))
            have e1 : o.length + 1 = (o ++ [t]).length := by simp
            exact ⟨⟨k + 1, k + 1, A2, c2, o ++ [t], itemsL (l.drop (k + 1)), by omega, by omega, by omega, by go_num, by go_num, by rw [e1], Lib.hid (by rw [hio.out, HR.out]; simp), HQ _ rfl, Lib.hid (fun _ => by omega), ho3.cast e1 (strs_append _ _).symm, bks_app hA3 hA (by have := kr.size; simp; omega), (kr.alloc _).thn hk3 (fun s hs => .inr (hA s hs))⟩, by simp [intOf]; omega⟩
        · have b1 : ((x.toNat : Int) == 44) = false := (u8_beq x 44).trans (by simpa using hc)
          have HQ : Hid (k + 1 ≤ l.length → f ≤ l.length ∧ r = itemsL (l.drop f) ∧ ((l.take (k + 1)).drop f).contains 44 = false) := Lib.hid (fun h => ⟨q1, q2, by
            rw [List.take_succ_eq_append_getElem hk2, hx, List.drop_append_of_le_length (by simp; omega)]
            rw [List.contains_eq_any_beq, List.any_append, ← List.contains_eq_any_beq, q3]
            simp; exact fun h => hc h.symm⟩)
          clear hp q2 q3 q3' hc
          go_wp2
          exact ⟨⟨k + 1, f, A, c, o, r, by omega, by omega, by omega, by go_num, rfl, rfl, hio, HQ, Lib.hid (fun _ => by omega), ho, hA, kr⟩, by simp [intOf]; omega⟩
    · have HR := hq2.out (by omega)
      have HE := hio.out
      rw [HR, List.append_nil] at HE
      subst HE
      clear hq hq2 hio
      go_wp2
      exact H.out A c _ ho hA kr
end
end Go.Proofs.YtnmafahbdfilcaaGreatDoor
