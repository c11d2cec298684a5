/- Addresses read. -/
import Derived.Test.YthppknpeagjcpaaDoorOct2
namespace Go.Proofs.YthppknpeagjcpaaDoor
open Go.RowKit Go.Shelf
set_option linter.unusedVariables false
set_option linter.unusedSimpArgs false
set_option maxRecDepth 100000

def wnF (n : Int) (c : UInt8) : Int := 10 * n + (c.toNat : Int) - 48
def wn (p : List UInt8) : Int := p.foldl wnF 0
def stepA (a : Nat) (p : List UInt8) : Nat := (a * 256 + (wn (p.take 4) % 256).toNat) % 4294967296
def pipA (s : List UInt8) : Nat := (spl 46 s).foldl stepA 0
def pipV (s : List UInt8) : Nat × Int := if ipL (pipA s) = s then (pipA s, 0) else (0, 50)
theorem foldl_take {α β : Type} (f : β → α → β) (b : β) {l : List α} {k : Nat} {x : α} (h : l[k]? = some x) : (l.take (k + 1)).foldl f b = f ((l.take k).foldl f b) x := by
  obtain ⟨hk, hx⟩ := List.getElem?_eq_some_iff.1 h
  rw [List.take_succ_eq_append_getElem hk, List.foldl_append, hx]; rfl
theorem wn_bd (q : List UInt8) (h : q.length ≤ 4) : -60000 ≤ wn q ∧ wn q ≤ 300000 := by
  unfold wn
  match q, h with
  | [], _ => decide
  | [a], _ => have := a.toNat_lt; simp [wnF]; omega
  | [a, b], _ => have := a.toNat_lt; have := b.toNat_lt; simp [wnF]; omega
  | [a, b, c], _ => have := a.toNat_lt; have := b.toNat_lt; have := c.toNat_lt; simp [wnF]; omega
  | [a, b, c, d], _ => have := a.toNat_lt; have := b.toNat_lt; have := c.toNat_lt; have := d.toNat_lt; simp [wnF]; omega
theorem pipv (a : Nat) (m : Int) (ha : a < 4294967296) : bits .or .u32 ((a : Int) * 256 % 4294967296) (bits .and .u32 (m % 4294967296) 255) = (((a * 256 + (m % 256).toNat) % 4294967296 : Nat) : Int) := by
  obtain ⟨x, hx⟩ : ∃ x : Nat, m % 4294967296 = x := ⟨(m % 4294967296).toNat, by omega⟩
  have hxl : x < 4294967296 := by omega
  have hx2 : x % 256 = (m % 256).toNat := by omega
  rw [hx, and255 x hxl, hx2]
  have hy : (m % 256).toNat < 256 := by omega
  generalize (m % 256).toNat = y at *
  have e1 : (a : Int) * 256 % 4294967296 = ((2 ^ 8 * (a % 16777216) : Nat) : Int) := by omega
  rw [e1, u32_or_nat _ _ (by omega) (by omega), ← Nat.two_pow_add_eq_or_of_lt (by omega)]
  omega
set_option maxHeartbeats 2000000 in
theorem pip_any {R : Ending → World → Prop} (l : List UInt8) (w : World) (hl : l.length ≤ 1000000) (hw : Lw w) (h : ∀ w', Kp [] w w' → R (.returned (.tuple #[.int .u32 (pipV l).1, .int .i64 (pipV l).2])) w') : Calls Tryd.prog 44 #[.string (S l)] w R := by
  have H := Lib.hid h
  clear h
  have HV : Hid (pipV l = if ipL (pipA l) = l then (pipA l, 0) else (0, 50)) := Lib.hid rfl
  have HP : Hid (pipA l = (spl 46 l).foldl stepA 0) := Lib.hid rfl
  have hsp := spl_mem_len 46 l
  have HSP := Lib.hid hsp
  clear hsp
  have hcnt : (spl 46 l).length ≤ 1000001 := by
    rw [spl_len]; have := List.count_le_length (a := (46 : UInt8)) (l := l); omega
  generalize pipV l = v at *
  go_enter Tryd.func44, Tryd.ntmps44
  go_wp2_with (go_at_call 53; ((with_reducible refine split_any l 46 hw.ml hl ?_); intro g w1 hg hb hk1))
  have hw1 := hw.kp hk1
  have HK := Lib.hid hk1
  clear hk1
  generalize spl 46 l = ps at *
  go_loop [4, 12] (fun av i => ∃ (k a : Nat), k ≤ ps.length ∧ i = .int .i64 k ∧ av = .int .u32 a ∧ a < 4294967296 ∧ Hid ((ps.take k).foldl stepA 0 = a)) (fun _ i => ps.length - (intOf i).toNat)
  case atStart => exact ⟨0, 0, Nat.zero_le _, rfl, rfl, by omega, Lib.hid rfl⟩
  case round =>
    obtain ⟨k, a, hk, rfl, rfl, ha, hf⟩ := hrel
    by_cases hlt : k < ps.length
    · obtain ⟨p, hp⟩ : ∃ p, ps[k]? = some p := ⟨_, List.getElem?_eq_getElem hlt⟩
      have hc : w1.cell? ⟨g, k, none⟩ = some (.string (S p)) := by rw [hb.cell]; simp [strs, hp]
      have hpl := HSP.out p (List.mem_of_getElem? hp)
      have HF : Hid ((ps.take (k + 1)).foldl stepA 0 = stepA a p) := Lib.hid (by rw [foldl_take _ _ hp, hf.out])
      clear hp hf
      go_wp2
      go_loop [7, 8] (fun nv iv => ∃ (i : Nat) (m : Int), i ≤ 4 ∧ i ≤ p.length ∧ iv = .int .i64 i ∧ nv = .int .i64 m ∧ Hid (wn (p.take i) = m)) (fun _ iv => p.length - (intOf iv).toNat)
      case atStart => exact ⟨0, 0, by omega, Nat.zero_le _, rfl, rfl, Lib.hid rfl⟩
      case round =>
        obtain ⟨i, m, hi4, hip, rfl, rfl, hm⟩ := hrel
        have hmb := wn_bd (p.take i) (by rw [List.length_take]; omega)
        rw [hm.out] at hmb
        obtain ⟨mb1, mb2⟩ := hmb
        by_cases hin : i < p.length ∧ i < 4
        · obtain ⟨hi1, hi2⟩ := hin
          obtain ⟨x, hx⟩ : ∃ x, p[i]'hi1 = x := ⟨_, rfl⟩
          have hxl := x.toNat_lt
          have HM : Hid (wn (p.take (i + 1)) = 10 * m + (x.toNat : Int) - 48) := by
            refine Lib.hid ?_
            unfold wn
            rw [foldl_take _ _ (List.getElem?_eq_some_iff.2 ⟨hi1, hx⟩)]
            show wnF (wn (p.take i)) x = _
            rw [hm.out]; rfl
          clear hm
          go_wp2
          go_round
          case rel => exact ⟨i + 1, 10 * m + (x.toNat : Int) - 48, by omega, by omega, by go_num, rfl, HM⟩
          case measure => simp [intOf]; omega
        · have HM : Hid (wn (p.take 4) = m) := by
            refine Lib.hid ?_
            rw [← hm.out]
            rcases Nat.lt_or_ge i p.length with h | h
            · obtain rfl : i = 4 := by omega
              rfl
            · rw [List.take_of_length_le (l := p) (i := 4) (by omega), List.take_of_length_le (l := p) (i := i) h]
          clear hm
          rcases Nat.lt_or_ge i p.length with h | h
          · have hi4' : 4 ≤ i := by omega
            clear hin
            go_wp2
            exact ⟨⟨k + 1, stepA a p, by omega, by go_num, congrArg (Value.int .u32) (by rw [pipv a m ha]; unfold stepA; rw [HM.out]), Nat.mod_lt _ (by decide), HF⟩, by simp [intOf]; omega⟩
          · clear hin
            go_wp2
            exact ⟨⟨k + 1, stepA a p, by omega, by go_num, congrArg (Value.int .u32) (by rw [pipv a m ha]; unfold stepA; rw [HM.out]), Nat.mod_lt _ (by decide), HF⟩, by simp [intOf]; omega⟩
    · have e : ps.take k = ps := List.take_of_length_le (by omega)
      have hP : pipA l = a := by rw [HP.out, ← hf.out, e]
      rw [hP] at HV
      clear HP hf e
      by_cases heq : ipL a = l
      · have HR := Lib.hid (show v = (a, 0) by rw [HV.out, if_pos heq])
        have HE := Lib.hid heq
        clear heq hP
        go_wp2_with (go_at_call 45; ((with_reducible refine ip_any a _ ha hw1 ?_); intro w2 k2; rw [HE.out]))
        exact rcast (H.out _ (HK.out.trans k2)) (by rw [HR.out]; rfl)
      · have HR := Lib.hid (show v = (0, 50) by rw [HV.out, if_neg heq])
        have b1 : (ipL a == l) = false := by simpa using heq
        have b2 : (ipL a != l) = true := by simpa using heq
        clear heq hP
        go_wp2_with (go_at_call 45; ((with_reducible refine ip_any a _ ha hw1 ?_); intro w2 k2))
        exact rcast (H.out _ (HK.out.trans k2)) (by rw [HR.out]; rfl)
end Go.Proofs.YthppknpeagjcpaaDoor
