/- The walks of package lex. -/
import Derived.Test.YtjjigngighneeaaDoorLib
import Derived.Test.YtjjigngighneeaaDoorBytes
import Derived.Shelf.Strings.SlTrimAscii
namespace Go.Proofs.YtjjigngighneeaaDoor
open Go.RowKit Go.Shelf
set_option linter.unusedVariables false
set_option linter.unusedSimpArgs false
set_option maxRecDepth 100000

def alnumB (c : UInt8) : Bool := (decide (97 ≤ c.toNat) && decide (c.toNat ≤ 122)) || (decide (65 ≤ c.toNat) && decide (c.toNat ≤ 90)) || (decide (48 ≤ c.toNat) && decide (c.toNat ≤ 57))
def markK : List UInt8 := [33, 35, 36, 37, 38, 39, 42, 43, 45, 46, 94, 95, 96, 124, 126]
def wordB (c : UInt8) : Bool := alnumB c || markK.contains c
def valB (c : UInt8) : Bool := (decide (32 ≤ c.toNat) && !decide (c.toNat = 127)) || decide (c.toNat = 9)
def lowC (c : UInt8) : UInt8 := if 65 ≤ c.toNat ∧ c.toNat ≤ 90 then UInt8.ofNat (c.toNat + 32) else c
def tokB (l : List UInt8) : Bool := !(l == []) && l.all wordB
theorem idx_ge (l : List UInt8) (c : UInt8) : decide (0 ≤ Lib.indexByte l c) = l.contains c := by
  induction l with
  | nil => rfl
  | cons x r ih =>
    rw [List.contains_cons, ← ih]
    have hg := Lib.indexByte_ge r c
    by_cases h : x = c
    · subst h; simp [Lib.indexByte]
    · have e2 : (c == x) = false := by simpa using Ne.symm h
      rw [e2, Bool.false_or, Bool.eq_iff_iff, decide_eq_true_iff, decide_eq_true_iff]
      rw [show Lib.indexByte (x :: r) c = (if x == c then 0 else if Lib.indexByte r c == -1 then -1 else Lib.indexByte r c + 1) from rfl]
      have e1 : (x == c) = false := by simpa using h
      simp only [e1, Bool.false_eq_true, if_false]
      generalize Lib.indexByte r c = v at *
      split
      · rename_i hv; have := beq_iff_eq.1 hv; omega
      · rename_i hv
        have : ¬ v = -1 := by simpa using hv
        omega
theorem index_any {R : Ending → World → Prop} (l : List UInt8) (c : UInt8) (w : World) (h : R (.returned (.int .i64 (Lib.indexByte l c))) w) : Calls Tryd.prog 139 #[.string (S l), .int .u8 c.toNat] w R := by
  refine (Tryd.strings_IndexByte (S l) c.toNat w).mono fun e w' ⟨he, hw⟩ => ?_
  rw [S_data, show ((c.toNat : Int).toNat).toUInt8 = c by simp] at he
  subst he; subst hw
  exact h
theorem mark_any {R : Ending → World → Prop} (c : UInt8) (w : World) (h : R (.returned (.int .i64 (Lib.indexByte markK c))) w) : Calls Tryd.prog 139 #[.string ⟨#[33, 35, 36, 37, 38, 39, 42, 43, 45, 46, 94, 95, 96, 124, 126]⟩, .int .u8 c.toNat] w R := index_any markK c w h
set_option maxHeartbeats 800000 in
theorem word_any {R : Ending → World → Prop} (c : UInt8) (w : World) (h : R (.returned (.bool (wordB c))) w) : Calls Tryd.prog 122 #[.int .u8 c.toNat] w R := by
  have hi := idx_ge markK c
  have HI := Lib.hid hi
  clear hi
  go_enter Tryd.func122, Tryd.ntmps122
  go_wp2_with (go_at_call 139; (with_reducible refine mark_any c _ ?_))
  all_goals first
    | exact rcast h (congrArg Value.bool (by rw [wordB, show alnumB c = true from by simp [alnumB]; omega]; rfl))
    | exact rcast h (congrArg Value.bool (by rw [wordB, show alnumB c = false from by simp [alnumB]; omega, ← HI.out]; rfl))
set_option maxHeartbeats 800000 in
theorem val_any {R : Ending → World → Prop} (c : UInt8) (w : World) (h : R (.returned (.bool (valB c))) w) : Calls Tryd.prog 125 #[.int .u8 c.toNat] w R := by
  go_enter Tryd.func125, Tryd.ntmps125
  go_wp2
  all_goals (refine rcast h (congrArg Value.bool ?_); rw [Bool.eq_iff_iff]; simp [valB] <;> omega)
theorem all_snoc' (l : List UInt8) (p : UInt8 → Bool) (k : Nat) (h : k < l.length) : (l.take (k + 1)).all p = ((l.take k).all p && p l[k]) := by
  rw [List.take_succ_eq_append_getElem h, List.all_append]; simp
set_option maxHeartbeats 800000 in
theorem all_any {R : Ending → World → Prop} (f : Nat) (p : UInt8 → Bool) (hf : ∀ (c : UInt8) (w : World) (R : Ending → World → Prop), R (.returned (.bool (p c))) w → Calls Tryd.prog f #[.int .u8 c.toNat] w R)
    (he : ∀ (args : Array Value) (w : World), (callFunc f args).run Tryd.prog w = .ok (.enter f args) w)
    (l : List UInt8) (w : World) (hl : l.length ≤ 1000000) (h : R (.returned (.bool (l.all p))) w) : Calls Tryd.prog 121 #[.string (S l), .func (.func f) #[] #[]] w R := by
  have H := Lib.hid h
  have HF := Lib.hid hf
  clear h hf
  go_enter Tryd.func121, Tryd.ntmps121
  go_wp2
  go_loop [8] (fun i => ∃ k : Nat, k ≤ l.length ∧ i = .int .i64 k ∧ Hid ((l.take k).all p = true)) (fun i => l.length - (intOf i).toNat)
  case atStart => exact ⟨0, Nat.zero_le _, rfl, Lib.hid rfl⟩
  case round =>
    obtain ⟨k, hk, rfl, ha⟩ := hrel
    by_cases hlt : k < l.length
    · obtain ⟨x, hx⟩ : ∃ x, l[k]'hlt = x := ⟨_, rfl⟩
      cases hp : p x
      · have HP := Lib.hid hp
        have HS := Lib.hid (show l.all p = false by rw [List.all_eq_false]; exact ⟨x, hx ▸ List.getElem_mem hlt, by simp [hp]⟩)
        clear hp
        go_wp2_with (refine HF.out _ _ _ ?_; rw [HP.out])
        exact rcast H.out (congrArg Value.bool HS.out)
      · have HP := Lib.hid hp
        have HX : Hid ((l.take (k + 1)).all p = true) := by
          refine Lib.hid ?_
          rw [all_snoc' l p k hlt, ha.out, hx, hp]; rfl
        clear hp
        go_wp2_with (refine HF.out _ _ _ ?_; rw [HP.out])
        go_round
        case rel => exact ⟨k + 1, by omega, by go_num, HX⟩
        case measure => simp [intOf]; omega
    · go_wp2
      refine rcast H.out (congrArg Value.bool ?_)
      have := ha.out
      rwa [List.take_of_length_le (by omega)] at this
theorem all_word {R : Ending → World → Prop} (l : List UInt8) (w : World) (hl : l.length ≤ 1000000) (h : R (.returned (.bool (l.all wordB))) w) : Calls Tryd.prog 121 #[.string (S l), .func (.func 122) #[] #[]] w R :=
  all_any 122 wordB (fun c w R h => word_any c w h) (enters_of Tryd.func122 (by kernel_rfl) rfl) l w hl h
theorem all_val {R : Ending → World → Prop} (l : List UInt8) (w : World) (hl : l.length ≤ 1000000) (h : R (.returned (.bool (l.all valB))) w) : Calls Tryd.prog 121 #[.string (S l), .func (.func 125) #[] #[]] w R :=
  all_any 125 valB (fun c w R h => val_any c w h) (enters_of Tryd.func125 (by kernel_rfl) rfl) l w hl h
set_option maxHeartbeats 800000 in
theorem token_any {R : Ending → World → Prop} (l : List UInt8) (w : World) (hl : l.length ≤ 1000000) (h : R (.returned (.bool (tokB l))) w) : Calls Tryd.prog 94 #[.string (S l)] w R := by
  have H := Lib.hid h
  clear h
  by_cases hn : l = []
  · subst hn
    go_enter Tryd.func94, Tryd.ntmps94
    go_wp2
    exact H.out
  · have b1 : l.isEmpty = false := by simpa using hn
    have HT := Lib.hid (show tokB l = l.all wordB by unfold tokB; rw [show (l == []) = false by simpa using hn]; rfl)
    go_enter Tryd.func94, Tryd.ntmps94
    go_wp2_with (go_at_call 121; (with_reducible refine all_word l _ hl ?_); rw [← HT.out])
    exact H.out
set_option maxHeartbeats 800000 in
theorem value_any {R : Ending → World → Prop} (l : List UInt8) (w : World) (hl : l.length ≤ 1000000) (h : R (.returned (.bool (l.all valB))) w) : Calls Tryd.prog 98 #[.string (S l)] w R := by
  have H := Lib.hid h
  clear h
  go_enter Tryd.func98, Tryd.ntmps98
  go_wp2_with (go_at_call 121; (with_reducible refine all_val l _ hl ?_))
  exact H.out
def trimL (l : List UInt8) : List UInt8 := Lib.trimS l [32, 9]
theorem strim_any {R : Ending → World → Prop} (l : List UInt8) (w : World) (hl : l.length ≤ 1000000) (h : ∀ w', Kp [] w w' → R (.returned (.string (S (trimL l)))) w') : Calls Tryd.prog 80 #[.string (S l), .string ⟨#[32, 9]⟩] w R := by
  have hcon := Any.strings_Trim_laid Tryd.lays160 (by kernel_rfl) (S l) ⟨#[32, 9]⟩ w (by rw [S_size]; omega) (by decide) (ascii_of_all (by decide))
  refine hcon.mono fun e w' ⟨he, hw⟩ => ?_
  rw [S_data] at he
  subst he
  exact h w' (Kp.of_below hw)
set_option maxHeartbeats 800000 in
theorem trim_any {R : Ending → World → Prop} (l : List UInt8) (w : World) (hl : l.length ≤ 1000000) (h : ∀ w', Kp [] w w' → R (.returned (.string (S (trimL l)))) w') : Calls Tryd.prog 53 #[.string (S l)] w R := by
  have H := Lib.hid h
  clear h
  go_enter Tryd.func53, Tryd.ntmps53
  go_wp2_with (go_at_call 80; (with_reducible refine strim_any l _ hl ?_); intro w1 k1)
  exact H.out _ k1
/-- A block whose marks lie behind its cells. -/
def Bf (w : World) (g t : Nat) (cs : List Value) : Prop := ∃ f1 f2, w.heap[g]? = some (.cells cs.toArray t (f1, f2)) ∧ cs.length ≤ f1
section
variable {w w' : World} {g t : Nat} {cs : List Value}
theorem Bf.lt (h : Bf w g t cs) : g < w.heap.size := by
  obtain ⟨f1, f2, h, _⟩ := h
  exact (Array.getElem?_eq_some_iff.1 h).1
theorem Bf.cell (h : Bf w g t cs) (i : Nat) : w.cell? ⟨g, i, none⟩ = cs[i]? := by
  obtain ⟨f1, f2, h, _⟩ := h
  rw [cell_of_row w g i _ t (f1, f2) h]; simp
theorem Bf.frozen (h : Bf w g t cs) (i : Nat) (hi : i < cs.length) : w.frozen? ⟨g, i, none⟩ = false := by
  obtain ⟨f1, f2, h, h1⟩ := h
  simp [World.frozen?, h]
  omega
theorem Bf.set_ (h : Bf w g t cs) (i : Nat) (u : Value) : Bf (w.setCell ⟨g, i, none⟩ u) g t (cs.set i u) := by
  obtain ⟨f1, f2, h, h1⟩ := h
  refine ⟨f1, f2, ?_, by simpa using h1⟩
  simp [World.setCell, Array.getElem?_modify, h]
theorem Bf.rd (h : Bf w g t cs) : Rd w [] (some ⟨g, 0, none⟩) cs := fun _ =>
  ⟨g, 0, rfl, by simp, h.lt, fun j u hu => by rw [Nat.zero_add, h.cell, hu]⟩
end
theorem bf_bytes (w : World) (e : Nat) (l : List UInt8) : ∃ pad : List Value, Bf (Lib.bytesWorld w e (S l)) w.heap.size e (bts l ++ pad) := by
  have hc : Lib.bytesCells w e (S l) = (bts l ++ List.replicate (grownCap w (S l).size 0 e - (S l).size) (Value.int .u8 0)).toArray := by
    apply Array.toList_inj.1
    simp [Lib.bytesCells, bts, S]
  refine ⟨List.replicate (grownCap w (S l).size 0 e - (S l).size) (.int .u8 0), (Lib.bytesCells w e (S l)).size, (Lib.bytesCells w e (S l)).size + 1, ?_, Nat.le_of_eq ?_⟩
  · rw [Lib.bytesWorld_at_new, hc]
  · rw [hc]; simp
def lowL (l : List UInt8) : List UInt8 := l.map lowC
set_option maxHeartbeats 800000 in
theorem lower_any {R : Ending → World → Prop} (l : List UInt8) (w : World) (hl : l.length ≤ 1000000) (h : ∀ w', Kp [] w w' → R (.returned (.string (S (lowL l)))) w') : Calls Tryd.prog 99 #[.string (S l)] w R := by
  have H := Lib.hid h
  clear h
  have hcv := conv_sb w (S l)
  obtain ⟨pad, hb⟩ := bf_bytes w 5 l
  have kb := (Kp.refl [] w).bytesWorld 5 (S l)
  generalize Lib.bytesWorld w 5 (S l) = w0 at *
  have hg := hb.lt
  have kb1 := kb.size
  have hgl : w.heap.size ≤ w.heap.size := Nat.le_refl _
  generalize hgg : w.heap.size = g at hcv hb hg
  have hcc : Hid (w.heap.size = g) := Lib.hid hgg
  have hcv2 : (convert 9 73 (.string (S l))).run Tryd.prog w = .ok (.slice (some ⟨g, 0, none⟩) l.length (grownCap w (S l).size 0 5)) w0 := by rw [hcv, S_size]
  generalize grownCap w (S l).size 0 5 = cc at hcv2
  clear hcv hgg hgl
  go_enter Tryd.func99, Tryd.ntmps99
  go_wp2
  have KB := Lib.hid kb
  clear kb kb1 hcv2
  go_loopw [10] (fun i wr => ∃ k : Nat, k ≤ l.length ∧ i = .int .i64 k ∧ Kp [] w wr ∧ Bf wr g 5 (bts (lowL (l.take k) ++ l.drop k) ++ pad)) (fun i _ => l.length - (intOf i).toNat)
  case atStart => exact ⟨0, Nat.zero_le _, rfl, KB.out, by simpa [lowL] using hb⟩
  case round =>
    obtain ⟨k, hk, rfl, kr, hbr⟩ := hrel
    by_cases hlt : k < l.length
    · obtain ⟨x, hx⟩ : ∃ x, l[k]'hlt = x := ⟨_, rfl⟩
      have hxl := x.toNat_lt
      have hdr : l.drop k = x :: l.drop (k + 1) := by rw [List.drop_eq_getElem_cons hlt, hx]
      have hlk : (lowL (l.take k)).length = k := by simp [lowL]; omega
      have hc : wr.cell? ⟨g, k, none⟩ = some (.int .u8 x.toNat) := by
        rw [hbr.cell, List.getElem?_append_left (by rw [bts_len]; simp [lowL]; omega), bts_get, List.getElem?_append_right (by rw [hlk]; exact Nat.le_refl _), hlk, Nat.sub_self, hdr]
        rfl
      have hf : wr.frozen? ⟨g, k, none⟩ = false := hbr.frozen k (by rw [List.length_append, bts_len]; simp [lowL]; omega)
      have htk : lowL (l.take (k + 1)) = lowL (l.take k) ++ [lowC x] := by
        unfold lowL
        rw [List.take_succ_eq_append_getElem hlt, hx, List.map_append]; rfl
      by_cases hup : 65 ≤ x.toNat ∧ x.toNat ≤ 90
      · obtain ⟨u1, u2⟩ := hup
        have HB : Hid (Bf (wr.setCell ⟨g, k, none⟩ (.int .u8 ((x.toNat : Int) + 97 - 65))) g 5 (bts (lowL (l.take (k + 1)) ++ l.drop (k + 1)) ++ pad)) := by
          refine Lib.hid ?_
          have := hbr.set_ k (.int .u8 ((x.toNat : Int) + 97 - 65))
          have e : (bts (lowL (l.take k) ++ l.drop k) ++ pad).set k (.int .u8 ((x.toNat : Int) + 97 - 65)) = bts (lowL (l.take (k + 1)) ++ l.drop (k + 1)) ++ pad := by
            rw [List.set_append_left _ _ (by rw [bts_len]; simp [lowL]; omega)]
            congr 1
            rw [htk, hdr, List.append_assoc, bts_append, bts_append, List.set_append_right _ _ (by rw [bts_len, hlk]; exact Nat.le_refl _), bts_len, hlk, Nat.sub_self]
            congr 1
            show _ :: _ = _ :: _
            congr 1
            unfold lowC
            rw [if_pos ⟨u1, u2⟩]
            show Value.int .u8 _ = Value.int .u8 (((UInt8.ofNat (x.toNat + 32)).toNat : Nat) : Int)
            rw [UInt8.toNat_ofNat', show (x.toNat + 32) % 2 ^ 8 = x.toNat + 32 by omega]
            exact congrArg (Value.int .u8) (by omega)
          rwa [e] at this
        have HK : Hid (Kp [] w (wr.setCell ⟨g, k, none⟩ (.int .u8 ((x.toNat : Int) + 97 - 65)))) := Lib.hid (kr.setCell (.inr (by have := hcc.out; simp; omega)) _)
        clear hdr htk hlk hbr kr
        go_wp2
        exact ⟨⟨k + 1, by omega, by go_num, HK.out, HB.out⟩, by simp [intOf]; omega⟩
      · have HB : Hid (Bf wr g 5 (bts (lowL (l.take (k + 1)) ++ l.drop (k + 1)) ++ pad)) := by
          refine Lib.hid ?_
          have e : lowL (l.take (k + 1)) ++ l.drop (k + 1) = lowL (l.take k) ++ l.drop k := by
            rw [htk, hdr, List.append_assoc]
            unfold lowC
            rw [if_neg hup]; rfl
          rw [e]; exact hbr
        have HK := Lib.hid kr
        clear hdr htk hlk hbr kr
        by_cases h65 : x.toNat < 65
        · clear hup
          go_wp2
          exact ⟨⟨k + 1, by omega, by go_num, HK.out, HB.out⟩, by simp [intOf]; omega⟩
        · have h90 : 90 < x.toNat := by omega
          clear hup
          go_wp2
          exact ⟨⟨k + 1, by omega, by go_num, HK.out, HB.out⟩, by simp [intOf]; omega⟩
    · have e1 : l.take k = l := List.take_of_length_le (by omega)
      have e2 : l.drop k = [] := List.drop_eq_nil_of_le (by omega)
      rw [e1, e2, List.append_nil] at hbr
      have hr : Rd wr [] (some ⟨g, 0, none⟩) (bts (lowL l)) := by
        have := (hbr.rd).take (bts (lowL l)).length
        rwa [List.take_left] at this
      have hcv3 := conv_bs (c := cc) hr (n := l.length) (by simp [lowL])
      have HK := Lib.hid kr
      clear e1 e2 hbr hr kr
      go_wp2
      exact H.out _ HK.out
def fieldL (l : List UInt8) : List UInt8 × List UInt8 × Int :=
  if l.contains 58 && tokB (bef 58 l) && (aft 58 l).all valB then (lowL (bef 58 l), trimL (aft 58 l), 0) else ([], [], 50)
def fieldV (x : List UInt8 × List UInt8 × Int) : Value := .tuple #[.string (S x.1), .string (S x.2.1), .int .i64 x.2.2]
set_option maxHeartbeats 1000000 in
theorem field_any {R : Ending → World → Prop} (l : List UInt8) (w : World) (hl : l.length ≤ 1000000) (hm : Ml w) (h : ∀ w', Kp [] w w' → R (.returned (fieldV (fieldL l))) w') : Calls Tryd.prog 74 #[.string (S l)] w R := by
  have H := Lib.hid h
  clear h
  have hb := bef_len 58 l
  have ha := aft_len 58 l
  have HO : Hid (fieldL l = if l.contains 58 && tokB (bef 58 l) && (aft 58 l).all valB then (lowL (bef 58 l), trimL (aft 58 l), 0) else ([], [], 50)) := Lib.hid rfl
  have hcut : ∀ (w : World) (R : Ending → World → Prop), Ml w → (∀ n, R (.returned (.tuple #[.string (S (bef 58 l)), .string (S (aft 58 l)), .bool (l.contains 58)])) (w.drewN n)) → Calls Tryd.prog 97 #[.string (S l), .string ⟨#[58]⟩] w R := fun w R hm h => cut_any l 58 hm hl h
  have HC := Lib.hid hcut
  clear hcut
  generalize fieldL l = res at *
  generalize bef 58 l = b at *
  generalize aft 58 l = a at *
  generalize l.contains 58 = c at *
  have bad : (c && tokB b && a.all valB) = false → res = ([], [], 50) := fun e => by rw [HO.out, e]; rfl
  have HB := Lib.hid bad
  clear bad
  cases c
  · have HR := Lib.hid (HB.out rfl)
    go_enter Tryd.func74, Tryd.ntmps74
    go_wp2_with (go_at_call 97; ((with_reducible refine HC.out _ _ hm ?_); intro n))
    exact bodyPost_ret (v := .tuple #[.string ⟨#[]⟩, .string ⟨#[]⟩, .int .i64 50]) (by simp [results, Tryd.results74, go_sem]) rfl (rcast (H.out _ ((Kp.refl _ _).drewN _)) (by rw [HR.out]; rfl))
  cases ht : tokB b
  · have HT := Lib.hid ht
    have HR := Lib.hid (HB.out (by rw [ht]; rfl))
    clear ht
    go_enter Tryd.func74, Tryd.ntmps74
    go_wp2_with (first | (go_at_call 97; ((with_reducible refine HC.out _ _ hm ?_); intro n)) | (go_at_call 94; ((with_reducible refine token_any b _ (by omega) ?_); rw [HT.out])))
    exact bodyPost_ret (v := .tuple #[.string ⟨#[]⟩, .string ⟨#[]⟩, .int .i64 50]) (by simp [results, Tryd.results74, go_sem]) rfl (rcast (H.out _ ((Kp.refl _ _).drewN _)) (by rw [HR.out]; rfl))
  cases hv : a.all valB
  · have HT := Lib.hid ht
    have HV := Lib.hid hv
    have HR := Lib.hid (HB.out (by rw [ht, hv]; rfl))
    clear ht hv
    go_enter Tryd.func74, Tryd.ntmps74
    go_wp2_with (first | (go_at_call 97; ((with_reducible refine HC.out _ _ hm ?_); intro n)) | (go_at_call 94; ((with_reducible refine token_any b _ (by omega) ?_); rw [HT.out])) | (go_at_call 98; ((with_reducible refine value_any a _ (by omega) ?_); rw [HV.out])))
    exact bodyPost_ret (v := .tuple #[.string ⟨#[]⟩, .string ⟨#[]⟩, .int .i64 50]) (by simp [results, Tryd.results74, go_sem]) rfl (rcast (H.out _ ((Kp.refl _ _).drewN _)) (by rw [HR.out]; rfl))
  · have HT := Lib.hid ht
    have HV := Lib.hid hv
    have HR := Lib.hid (show res = (lowL b, trimL a, 0) by rw [HO.out, ht, hv]; rfl)
    clear ht hv
    go_enter Tryd.func74, Tryd.ntmps74
    go_wp2_with (first | (go_at_call 97; ((with_reducible refine HC.out _ _ hm ?_); intro n)) | (go_at_call 94; ((with_reducible refine token_any b _ (by omega) ?_); rw [HT.out])) | (go_at_call 98; ((with_reducible refine value_any a _ (by omega) ?_); rw [HV.out])) | (go_at_call 99; ((with_reducible refine lower_any b _ (by omega) ?_); intro w1 k1)) | (go_at_call 53; ((with_reducible refine trim_any a _ (by omega) ?_); intro w2 k2)))
    exact bodyPost_ret (v := .tuple #[.string (S (lowL b)), .string (S (trimL a)), .int .i64 0]) (by simp [results, Tryd.results74, go_sem]) rfl (rcast (H.out _ ((((Kp.refl _ _).drewN _).trans k1).trans k2)) (by rw [HR.out]; rfl))
end Go.Proofs.YtjjigngighneeaaDoor
