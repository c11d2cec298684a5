/- The document's ranges: Parse (for r11). -/
import Derived.Test.YtnmafahbdfilcaaGreatDoorPC33
import Derived.Test.YtnmafahbdfilcaaGreatDoorPC2
import Derived.BigQuiet
namespace Go.Proofs.YtnmafahbdfilcaaGreatDoor
/-! ### The document's ranges: Parse (for r11). -/
section
open Go.RowKit Go.Shelf
set_option linter.unusedVariables false
set_option linter.unusedSimpArgs false
set_option maxRecDepth 100000

theorem elt_rspan : Elt Tryz.prog 161 162 (.agg #[.int .i64 0, .int .i64 0]) 2 16 := ⟨Tryz.underlying161, by kernel_rfl, rfl, by decide, by decide⟩
theorem rspan_one {w : World} {u v : Int} : Rd (w.alloc (.cells #[.int .i64 u, .int .i64 v] 162)) [] (some ⟨w.heap.size, 0, none⟩) [.int .i64 u, .int .i64 v] := Rd.of_bk (Bk.newAt rfl _ _) (by simp)
theorem rnumber_m {R : Ending → World → Prop} (l : List UInt8) (v : Int) (b : Bool) (w : World) (hl : l.length ≤ 2000000) (hv : numR l mostR = (v, b)) (h : R (.returned (.tuple #[.int .i64 v, .bool b])) w) : Calls Tryz.prog 53 #[.string (S l), .int .i64 1099511627776] w R := by
  have h2 : R (.returned (numV (numR l mostR))) w := by rw [hv]; exact h
  exact rnumber_any l mostR w hl (by decide) (by decide) h2
theorem bef_at {c : UInt8} {l : List UInt8} {k : Nat} (hk : k < l.length) (h1 : (l.take k).contains c = false) (h2 : l[k]'hk = c) : bef c l = l.take k ∧ aft c l = l.drop (k + 1) ∧ l.contains c = true := by
  have e : l = l.take k ++ c :: l.drop (k + 1) := by rw [← h2, ← List.drop_eq_getElem_cons hk, List.take_append_drop]
  have := cut_at (l.take k) (l.drop (k + 1)) h1
  rw [← e] at this
  exact this
theorem cont_next {c x : UInt8} {l : List UInt8} {k : Nat} (hk : k < l.length) (h1 : (l.take k).contains c = false) (hx : l[k]'hk = x) (h2 : ¬ x = c) : (l.take (k + 1)).contains c = false := by
  rw [List.take_succ_eq_append_getElem hk, hx]
  exact nc h1 (by simpa using Ne.symm h2)
set_option maxHeartbeats 8000000 in
theorem rparse_any {R : Ending → World → Prop} (l : List UInt8) (n : Int) (w : World) (hl : l.length ≤ 100000) (hn : n ≤ 35184372088832) (hn0 : -9223372036854775808 ≤ n)
    (h0 : ∀ w', Hid (parseM l n = none) → Kp [] w w' → R (.returned (.tuple #[.slice none 0 0, .bool false])) w')
    (h1 : ∀ zs A c w', Hid (parseM l n = some zs) → Ow w' 162 2 A zs.length c (zs.flatMap spV) → (∀ b ∈ bks A, w.heap.size ≤ b) → Kp [] w w' → R (.returned (.tuple #[.slice A zs.length c, .bool true])) w') :
    Calls Tryz.prog 131 #[.string (S l), .int .i64 n] w R := by
  have H0 := Lib.hid h0
  have H1 := Lib.hid h1
  clear h0 h1
  by_cases hz : 0 ≤ n
  · go_enter Tryz.func131, Tryz.ntmps131
    go_wp2
    go_loop [6] (fun dv => ∃ k : Nat, k ≤ l.length ∧ dv = .int .i64 k ∧ Hid ((l.take k).contains 61 = false)) (fun dv => l.length - (intOf dv).toNat)
    case atStart => exact ⟨0, Nat.zero_le _, rfl, Lib.hid (by simp)⟩
    case round =>
      obtain ⟨k, hk, rfl, hkc⟩ := hrel
      by_cases hlt : k < l.length
      · obtain ⟨x, hx⟩ : ∃ x, l[k]'hlt = x := ⟨_, rfl⟩
        by_cases hc : x = 61
        · subst hc
          obtain ⟨e1, e2, e3⟩ := bef_at hlt hkc.out hx
          obtain ⟨p, hp⟩ : ∃ p, l.take k = p := ⟨_, rfl⟩
          obtain ⟨q, hq⟩ : ∃ q, l.drop (k + 1) = q := ⟨_, rfl⟩
          have HM := Lib.hid (show parseM l n = if (decide (0 ≤ n) && l.contains 61 && (lowL p == bytesL) && decide (1 ≤ (itemsL q).length) && decide ((itemsL q).length ≤ 4)) then goS n (itemsL q) else none by rw [← hp, ← hq, ← e1, ← e2]; rfl)
          have hpl : p.length ≤ 2000000 := by rw [← hp]; simp; omega
          have hql : q.length ≤ 2000000 := by rw [← hq]; simp; omega
          rw [e3] at HM
          clear e1 e2 e3 hkc
          by_cases hb : lowL p = bytesL
          · obtain ⟨its, hits⟩ : ∃ its, itemsL q = its := ⟨_, rfl⟩
            have hmem : ∀ x ∈ its, x.length ≤ 2000000 := fun x hx => by
              have := items_mem_len (l := q) (p := x) (by rw [hits]; exact hx)
              omega
            have HI : Hid (∀ (R : Ending → World → Prop) (w1 : World), (∀ A c w', Ow w' 9 1 A its.length c (strs its) → (∀ b ∈ bks A, w1.heap.size ≤ b) → Kp [] w1 w' → R (.returned (.slice A its.length c)) w') → Calls Tryz.prog 92 #[.string (S q)] w1 R) := Lib.hid (by
              intro R w1 h
              refine ritems_any q w1 hql ?_
              rw [hits]; exact h)
            have HMM := Lib.hid hmem
            have HL5 : Hid (lowL p = [98, 121, 116, 101, 115]) := Lib.hid hb
            rw [hits] at HM
            clear hits hmem
            by_cases h14 : 1 ≤ its.length ∧ its.length ≤ 4
            · obtain ⟨h1, h4⟩ := h14
              have HG : Hid (parseM l n = goS n its) := Lib.hid (by rw [HM.out, if_pos (by simp [hz, hb, h1, h4])])
              have b0 : ((its.length : Int) == 0) = false := by simp; intro h; subst h; simp at h1
              have b1 : (its.length == 0) = false := by simp; intro h; subst h; simp at h1
              have b2 : its.isEmpty = false := by simp; intro h; subst h; simp at h1
              clear HM hb
              go_wp2_with (first | (go_at_call 92; ((refine HI.out _ _ ?_); intro A c w2 ho hA k2)) | (go_at_call 90; ((refine rlower_any p _ hpl ?_); intro w3 k3; rw [HL5.out])))
              obtain ⟨g, rfl, hg⟩ := ho.form (by omega)
              have hr := ho.rd (N := []) (by simp)
              have k23 := k3.trans k2
              clear ho hA k2 k3 hp hq
              go_loopw [8, 9] (fun ov iv wr => ∃ (k : Nat) (zs : List (Int × Int)) (A' : Option Addr) (c' : Nat), k ≤ its.length ∧ iv = .int .i64 k ∧ ov = .slice A' zs.length c' ∧ zs.length ≤ k ∧ Hid (goS n (its.take k) = some zs) ∧ Ow wr 162 2 A' zs.length c' (zs.flatMap spV) ∧ (∀ b ∈ bks A', w2.heap.size ≤ b) ∧ Kp [] w2 wr) (fun _ iv _ => its.length - (intOf iv).toNat)
              case atStart => exact ⟨0, [], none, 0, Nat.zero_le _, rfl, rfl, Nat.zero_le _, Lib.hid rfl, Ow.nil, by simp [bks], Kp.refl _ _⟩
              case round =>
                obtain ⟨j, zs, A', c', hj, rfl, rfl, hzk, hgo, hor, hA', kr⟩ := hrel
                by_cases hlt2 : j < its.length
                · obtain ⟨x, hx2⟩ : ∃ x, its[j]? = some x := ⟨_, List.getElem?_eq_getElem hlt2⟩
                  have hxl := HMM.out x (List.mem_of_getElem? hx2)
                  obtain ⟨b0, off, hg0, _, hgl, hcc⟩ := hr (by intro e; simp [strs] at e; subst e; simp at hlt2)
                  obtain rfl : b0 = g := by injection hg0 with h; injection h with h _; exact h.symm
                  obtain rfl : off = 0 := by injection hg0 with h; injection h with _ h; exact h.symm
                  have hc1 : wr.cell? ⟨b0, j, none⟩ = some (.string (S x)) := by
                    have := hcc j (.string (S x)) (by rw [strs_get, hx2]; rfl)
                    rw [Nat.zero_add] at this
                    rw [kr.cell (p := ⟨b0, j, none⟩) hgl (by simp)]; exact this
                  clear hcc hg0 hgl hr
                  have HX2 := Lib.hid hx2
                  clear hx2
                  go_wp2
                  go_loop [10] (fun dv => ∃ d : Nat, d ≤ x.length ∧ dv = .int .i64 d ∧ Hid ((x.take d).contains 45 = false)) (fun dv => x.length - (intOf dv).toNat)
                  case atStart => exact ⟨0, Nat.zero_le _, rfl, Lib.hid (by simp)⟩
                  case round =>
                    obtain ⟨d, hd, rfl, hdc⟩ := hrel
                    by_cases hdl : d < x.length
                    · obtain ⟨y, hy⟩ : ∃ y, x[d]'hdl = y := ⟨_, rfl⟩
                      by_cases hyc : y = 45
                      · subst hyc
                        obtain ⟨f1, f2, f3⟩ := bef_at hdl hdc.out hy
                        obtain ⟨p, hp⟩ : ∃ p, x.take d = p := ⟨_, rfl⟩
                        obtain ⟨q, hq⟩ : ∃ q, x.drop (d + 1) = q := ⟨_, rfl⟩
                        have HR : Hid (readM x = readPQ p q) := Lib.hid (by unfold readM; rw [f3, f1, f2, hp, hq]; rfl)
                        clear f1 f2 f3 hdc
                        have hpl2 : p.length ≤ 2000000 := by rw [← hp]; simp; omega
                        have hql2 : q.length ≤ 2000000 := by rw [← hq]; simp; omega
                        have hpb := numR_bd p
                        have hqb := numR_bd q
                        obtain ⟨⟨u, bu⟩, hu⟩ : ∃ v, numR p mostR = v := ⟨_, rfl⟩
                        obtain ⟨⟨v, bv⟩, hv⟩ : ∃ z, numR q mostR = z := ⟨_, rfl⟩
                        rw [hu] at hpb
                        rw [hv] at hqb
                        have HU := Lib.hid hu
                        have HV := Lib.hid hv
                        unfold mostR at hpb hqb
                        simp only at hpb hqb
                        obtain ⟨hu0, hu1⟩ := hpb
                        obtain ⟨hv0, hv1⟩ := hqb
                        clear hu hv
                        have HNO : Hid (readPQ p q = none → parseM l n = none) := Lib.hid (fun h => by rw [HG.out, goS_stop HX2.out (by rw [HR.out, h])])
                        have HYES : Hid (∀ a b s t, readPQ p q = some (a, b) → spanM (a, b) n = (s, t) → goS n (its.take (j + 1)) = some (if 0 < t then zs ++ [(s, t)] else zs)) := Lib.hid (fun a b s t h e => by
                          rw [goS_take HX2.out, hgo.out]
                          unfold stepS
                          rw [HR.out, h]
                          simp only [e])
                        go_wp2
                        go_quiet (fail)
                        by_cases hp0 : p = []
                        · subst hp0
                          have eu := HU.out
                          rw [numR_nil] at eu
                          obtain ⟨rfl, rfl⟩ : u = 0 ∧ bu = false := by injection eu with e1 e2; exact ⟨e1.symm, e2.symm⟩
                          clear eu
                          by_cases hq0 : q = []
                          · subst hq0
                            have ev := HV.out
                            rw [numR_nil] at ev
                            obtain ⟨rfl, rfl⟩ : v = 0 ∧ bv = false := by injection ev with e1 e2; exact ⟨e1.symm, e2.symm⟩
                            clear ev
                            go_wp2_with (first | (go_at_call 53; ((with_reducible refine rnumber_m [] 0 false _ hpl2 HU.out ?_))) | (go_at_call 53; ((with_reducible refine rnumber_m [] 0 false _ hql2 HV.out ?_))))
                            exact H0.out _ (Lib.hid (HNO.out (pq0))) (k23.trans (kr.drewN _))
                          · have bq : q.isEmpty = false := by simpa using hq0
                            cases bv
                            · go_wp2_with (first | (go_at_call 53; ((with_reducible refine rnumber_m [] 0 false _ hpl2 HU.out ?_))) | (go_at_call 53; ((with_reducible refine rnumber_m q v false _ hql2 HV.out ?_))))
                              exact H0.out _ (Lib.hid (HNO.out (pq1 hq0 HV.out))) (k23.trans (kr.drewN _))
                            · by_cases hnv : n < v
                              · by_cases hn1 : 0 < n
                                · have hst := HYES.out (-1) v 0 n (pq2 hq0 HV.out) (by unfold spanM; rw [if_pos (by simp)]; exact Prod.ext (by simp only; omega) (by simp only; omega))
                                  rw [if_pos (by omega)] at hst
                                  have HST := Lib.hid hst
                                  clear hst
                                  go_wp2_with (first | (go_at_call 53; ((with_reducible refine rnumber_m [] 0 false _ hpl2 HU.out ?_))) | (go_at_call 53; ((with_reducible refine rnumber_m q v true _ hql2 HV.out ?_))) | (at_builtin; refine wpList_app _ rfl (.tmp 173) (.tmp 180) _ rfl elt_rspan A' zs.length c' _ rfl ((hor.drewN _).alloc _) [] (some ⟨_, 0, none⟩) 1 1 [.int .i64 _, .int .i64 _] rfl rspan_one rfl (by simp [Value.oneCell']) (by omega) ?_; intro A2 c2 w6 ho6 hk6 hA6))
                                  have e1 : zs.length + 1 = (zs ++ [(0, n)]).length := by simp
                                  exact ⟨⟨j + 1, zs ++ [(0, n)], A2, c2, by omega, by go_num, by rw [e1], by simp; omega, HST, ho6.cast e1 (by rw [List.flatMap_append]; simp [spV] <;> omega), bks_app hA6 hA' (by have := kr.size; simp; omega), ((kr.drewN _).alloc _).thn hk6 (fun s hs => .inr (hA' s hs))⟩, by simp [intOf]; omega⟩
                                · have hst := HYES.out (-1) v 0 n (pq2 hq0 HV.out) (by unfold spanM; rw [if_pos (by simp)]; exact Prod.ext (by simp only; omega) (by simp only; omega))
                                  rw [if_neg (by omega)] at hst
                                  have HST := Lib.hid hst
                                  clear hst
                                  go_wp2_with (first | (go_at_call 53; ((with_reducible refine rnumber_m [] 0 false _ hpl2 HU.out ?_))) | (go_at_call 53; ((with_reducible refine rnumber_m q v true _ hql2 HV.out ?_))))
                                  exact ⟨⟨j + 1, zs, A', c', by omega, by go_num, rfl, by omega, HST, hor.drewN _, hA', kr.drewN _⟩, by simp [intOf]; omega⟩
                              · by_cases hv2 : 0 < v
                                · have hst := HYES.out (-1) v (n - v) v (pq2 hq0 HV.out) (by unfold spanM; rw [if_pos (by simp)]; exact Prod.ext (by simp only; omega) (by simp only; omega))
                                  rw [if_pos (by omega)] at hst
                                  have HST := Lib.hid hst
                                  clear hst
                                  go_wp2_with (first | (go_at_call 53; ((with_reducible refine rnumber_m [] 0 false _ hpl2 HU.out ?_))) | (go_at_call 53; ((with_reducible refine rnumber_m q v true _ hql2 HV.out ?_))) | (at_builtin; refine wpList_app _ rfl (.tmp 173) (.tmp 180) _ rfl elt_rspan A' zs.length c' _ rfl ((hor.drewN _).alloc _) [] (some ⟨_, 0, none⟩) 1 1 [.int .i64 _, .int .i64 _] rfl rspan_one rfl (by simp [Value.oneCell']) (by omega) ?_; intro A2 c2 w6 ho6 hk6 hA6))
                                  have e1 : zs.length + 1 = (zs ++ [((n - v), v)]).length := by simp
                                  exact ⟨⟨j + 1, zs ++ [((n - v), v)], A2, c2, by omega, by go_num, by rw [e1], by simp; omega, HST, ho6.cast e1 (by rw [List.flatMap_append]; simp [spV] <;> omega), bks_app hA6 hA' (by have := kr.size; simp; omega), ((kr.drewN _).alloc _).thn hk6 (fun s hs => .inr (hA' s hs))⟩, by simp [intOf]; omega⟩
                                · have hst := HYES.out (-1) v (n - v) v (pq2 hq0 HV.out) (by unfold spanM; rw [if_pos (by simp)]; exact Prod.ext (by simp only; omega) (by simp only; omega))
                                  rw [if_neg (by omega)] at hst
                                  have HST := Lib.hid hst
                                  clear hst
                                  go_wp2_with (first | (go_at_call 53; ((with_reducible refine rnumber_m [] 0 false _ hpl2 HU.out ?_))) | (go_at_call 53; ((with_reducible refine rnumber_m q v true _ hql2 HV.out ?_))))
                                  exact ⟨⟨j + 1, zs, A', c', by omega, by go_num, rfl, by omega, HST, hor.drewN _, hA', kr.drewN _⟩, by simp [intOf]; omega⟩
                        · have bp : p.isEmpty = false := by simpa using hp0
                          cases bu
                          · by_cases hq0 : q = []
                            · subst hq0
                              have ev := HV.out
                              rw [numR_nil] at ev
                              obtain ⟨rfl, rfl⟩ : v = 0 ∧ bv = false := by injection ev with e1 e2; exact ⟨e1.symm, e2.symm⟩
                              clear ev
                              go_wp2_with (first | (go_at_call 53; ((with_reducible refine rnumber_m p u false _ hpl2 HU.out ?_))) | (go_at_call 53; ((with_reducible refine rnumber_m [] 0 false _ hql2 HV.out ?_))))
                              exact H0.out _ (Lib.hid (HNO.out (pq3 hp0 HU.out))) (k23.trans (kr.drewN _))
                            · have bq : q.isEmpty = false := by simpa using hq0
                              cases bv
                              · go_wp2_with (first | (go_at_call 53; ((with_reducible refine rnumber_m p u false _ hpl2 HU.out ?_))) | (go_at_call 53; ((with_reducible refine rnumber_m q v false _ hql2 HV.out ?_))))
                                exact H0.out _ (Lib.hid (HNO.out (pq3 hp0 HU.out))) (k23.trans (kr.drewN _))
                              · go_wp2_with (first | (go_at_call 53; ((with_reducible refine rnumber_m p u false _ hpl2 HU.out ?_))) | (go_at_call 53; ((with_reducible refine rnumber_m q v true _ hql2 HV.out ?_))))
                                exact H0.out _ (Lib.hid (HNO.out (pq3 hp0 HU.out))) (k23.trans (kr.drewN _))
                          · by_cases hq0 : q = []
                            · subst hq0
                              have ev := HV.out
                              rw [numR_nil] at ev
                              obtain ⟨rfl, rfl⟩ : v = 0 ∧ bv = false := by injection ev with e1 e2; exact ⟨e1.symm, e2.symm⟩
                              clear ev
                              by_cases hun : u < n
                              · have hst := HYES.out u (-1) u (n - u) (pq4 hp0 HU.out) (by unfold spanM; rw [if_neg (by simp only; omega), if_neg (by simp)]; exact Prod.ext rfl (by simp only; omega))
                                rw [if_pos (by omega)] at hst
                                have HST := Lib.hid hst
                                clear hst
                                go_wp2_with (first | (go_at_call 53; ((with_reducible refine rnumber_m p u true _ hpl2 HU.out ?_))) | (go_at_call 53; ((with_reducible refine rnumber_m [] 0 false _ hql2 HV.out ?_))) | (at_builtin; refine wpList_app _ rfl (.tmp 173) (.tmp 180) _ rfl elt_rspan A' zs.length c' _ rfl ((hor.drewN _).alloc _) [] (some ⟨_, 0, none⟩) 1 1 [.int .i64 _, .int .i64 _] rfl rspan_one rfl (by simp [Value.oneCell']) (by omega) ?_; intro A2 c2 w6 ho6 hk6 hA6))
                                have e1 : zs.length + 1 = (zs ++ [(u, (n - u))]).length := by simp
                                exact ⟨⟨j + 1, zs ++ [(u, (n - u))], A2, c2, by omega, by go_num, by rw [e1], by simp; omega, HST, ho6.cast e1 (by rw [List.flatMap_append]; simp [spV] <;> omega), bks_app hA6 hA' (by have := kr.size; simp; omega), ((kr.drewN _).alloc _).thn hk6 (fun s hs => .inr (hA' s hs))⟩, by simp [intOf]; omega⟩
                              · have hst := HYES.out u (-1) u 0 (pq4 hp0 HU.out) (by unfold spanM; rw [if_neg (by simp only; omega), if_neg (by simp)]; exact Prod.ext rfl (by simp only; omega))
                                rw [if_neg (by omega)] at hst
                                have HST := Lib.hid hst
                                clear hst
                                go_wp2_with (first | (go_at_call 53; ((with_reducible refine rnumber_m p u true _ hpl2 HU.out ?_))) | (go_at_call 53; ((with_reducible refine rnumber_m [] 0 false _ hql2 HV.out ?_))))
                                exact ⟨⟨j + 1, zs, A', c', by omega, by go_num, rfl, by omega, HST, hor.drewN _, hA', kr.drewN _⟩, by simp [intOf]; omega⟩
                            · have bq : q.isEmpty = false := by simpa using hq0
                              cases bv
                              · go_wp2_with (first | (go_at_call 53; ((with_reducible refine rnumber_m p u true _ hpl2 HU.out ?_))) | (go_at_call 53; ((with_reducible refine rnumber_m q v false _ hql2 HV.out ?_))))
                                exact H0.out _ (Lib.hid (HNO.out (pq5 hp0 hq0 HU.out HV.out))) (k23.trans (kr.drewN _))
                              · have e6 := pq6 hp0 hq0 HU.out HV.out
                                by_cases hle : u ≤ v
                                · rw [if_pos hle] at e6
                                  by_cases hvn : v < n - 1
                                  · have hst := HYES.out u v u (v + 1 - u) (e6) (by unfold spanM; rw [if_neg (by simp only; omega), if_pos (by simp only; omega)]; exact Prod.ext rfl (by simp only; omega))
                                    rw [if_pos (by omega)] at hst
                                    have HST := Lib.hid hst
                                    clear hst
                                    go_wp2_with (first | (go_at_call 53; ((with_reducible refine rnumber_m p u true _ hpl2 HU.out ?_))) | (go_at_call 53; ((with_reducible refine rnumber_m q v true _ hql2 HV.out ?_))) | (at_builtin; refine wpList_app _ rfl (.tmp 173) (.tmp 180) _ rfl elt_rspan A' zs.length c' _ rfl ((hor.drewN _).alloc _) [] (some ⟨_, 0, none⟩) 1 1 [.int .i64 _, .int .i64 _] rfl rspan_one rfl (by simp [Value.oneCell']) (by omega) ?_; intro A2 c2 w6 ho6 hk6 hA6))
                                    have e1 : zs.length + 1 = (zs ++ [(u, (v + 1 - u))]).length := by simp
                                    exact ⟨⟨j + 1, zs ++ [(u, (v + 1 - u))], A2, c2, by omega, by go_num, by rw [e1], by simp; omega, HST, ho6.cast e1 (by rw [List.flatMap_append]; simp [spV] <;> omega), bks_app hA6 hA' (by have := kr.size; simp; omega), ((kr.drewN _).alloc _).thn hk6 (fun s hs => .inr (hA' s hs))⟩, by simp [intOf]; omega⟩
                                  · by_cases hun : u < n
                                    · have hst := HYES.out u v u (n - u) (e6) (by unfold spanM; rw [if_neg (by simp only; omega), if_pos (by simp only; omega)]; exact Prod.ext rfl (by simp only; omega))
                                      rw [if_pos (by omega)] at hst
                                      have HST := Lib.hid hst
                                      clear hst
                                      go_wp2_with (first | (go_at_call 53; ((with_reducible refine rnumber_m p u true _ hpl2 HU.out ?_))) | (go_at_call 53; ((with_reducible refine rnumber_m q v true _ hql2 HV.out ?_))) | (at_builtin; refine wpList_app _ rfl (.tmp 173) (.tmp 180) _ rfl elt_rspan A' zs.length c' _ rfl ((hor.drewN _).alloc _) [] (some ⟨_, 0, none⟩) 1 1 [.int .i64 _, .int .i64 _] rfl rspan_one rfl (by simp [Value.oneCell']) (by omega) ?_; intro A2 c2 w6 ho6 hk6 hA6))
                                      have e1 : zs.length + 1 = (zs ++ [(u, (n - u))]).length := by simp
                                      exact ⟨⟨j + 1, zs ++ [(u, (n - u))], A2, c2, by omega, by go_num, by rw [e1], by simp; omega, HST, ho6.cast e1 (by rw [List.flatMap_append]; simp [spV] <;> omega), bks_app hA6 hA' (by have := kr.size; simp; omega), ((kr.drewN _).alloc _).thn hk6 (fun s hs => .inr (hA' s hs))⟩, by simp [intOf]; omega⟩
                                    · have hst := HYES.out u v u 0 (e6) (by unfold spanM; rw [if_neg (by simp only; omega), if_pos (by simp only; omega)]; exact Prod.ext rfl (by simp only; omega))
                                      rw [if_neg (by omega)] at hst
                                      have HST := Lib.hid hst
                                      clear hst
                                      go_wp2_with (first | (go_at_call 53; ((with_reducible refine rnumber_m p u true _ hpl2 HU.out ?_))) | (go_at_call 53; ((with_reducible refine rnumber_m q v true _ hql2 HV.out ?_))))
                                      exact ⟨⟨j + 1, zs, A', c', by omega, by go_num, rfl, by omega, HST, hor.drewN _, hA', kr.drewN _⟩, by simp [intOf]; omega⟩
                                · rw [if_neg hle] at e6
                                  go_wp2_with (first | (go_at_call 53; ((with_reducible refine rnumber_m p u true _ hpl2 HU.out ?_))) | (go_at_call 53; ((with_reducible refine rnumber_m q v true _ hql2 HV.out ?_))))
                                  exact H0.out _ (Lib.hid (HNO.out (e6))) (k23.trans (kr.drewN _))
                      · have b1 : ((y.toNat : Int) != 45) = true := (u8_bne y 45).trans (by simpa using hyc)
                        have HN := Lib.hid (cont_next hdl hdc.out hy hyc)
                        clear hyc
                        go_wp2
                        exact ⟨⟨d + 1, by omega, by go_num, HN⟩, by simp [intOf]; omega⟩
                    · obtain rfl : d = x.length := by omega
                      have HN : Hid (parseM l n = none) := Lib.hid (by
                        have h := hdc.out
                        rw [List.take_length] at h
                        rw [HG.out, goS_stop HX2.out (by unfold readM; rw [h]; rfl)])
                      go_wp2
                      exact H0.out _ HN (k23.trans kr)
                · have e : its.take j = its := List.take_of_length_le (by omega)
                  rw [e] at hgo
                  have HS : Hid (parseM l n = some zs) := Lib.hid (by rw [HG.out, hgo.out])
                  have ks := k23.size
                  go_wp2
                  exact H1.out zs A' c' _ HS hor (fun b hb => Nat.le_trans ks (hA' b hb)) (k23.trans kr)
            · have HN : Hid (parseM l n = none) := Lib.hid (by rw [HM.out, if_neg (by simp; omega)])
              have hlen : its.length = 0 ∨ (¬ its.length = 0 ∧ 4 < its.length) := by omega
              clear HM hb h14
              rcases hlen with h | ⟨h, h5⟩
              all_goals
                go_wp2_with (first | (go_at_call 92; ((refine HI.out _ _ ?_); intro A c w2 ho hA k2)) | (go_at_call 90; ((refine rlower_any p _ hpl ?_); intro w3 k3; rw [HL5.out])))
                exact H0.out _ HN (k3.trans k2)
          · have HN : Hid (parseM l n = none) := Lib.hid (by rw [HM.out, show (lowL p == bytesL) = false by simpa using hb]; simp)
            have bb : (lowL p != [98, 121, 116, 101, 115]) = true := by simpa [bytesL] using hb
            have bb2 : (lowL p == [98, 121, 116, 101, 115]) = false := by simpa [bytesL] using hb
            clear HM
            go_wp2_with (go_at_call 90; ((refine rlower_any p _ hpl ?_); intro w3 k3))
            exact H0.out _ HN k3
        · have b1 : ((x.toNat : Int) != 61) = true := (u8_bne x 61).trans (by simpa using hc)
          have HN := Lib.hid (cont_next hlt hkc.out hx hc)
          clear hc
          go_wp2
          exact ⟨⟨k + 1, by omega, by go_num, HN⟩, by simp [intOf]; omega⟩
      · obtain rfl : k = l.length := by omega
        have HN : Hid (parseM l n = none) := Lib.hid (by
          have h := hkc.out
          rw [List.take_length] at h
          unfold parseM okP; rw [h]; simp)
        go_wp2
        exact H0.out _ HN (Kp.refl _ _)
  · have HN : Hid (parseM l n = none) := Lib.hid (by unfold parseM okP; simp [hz])
    go_enter Tryz.func131, Tryz.ntmps131
    go_wp2
    exact H0.out _ HN (Kp.refl _ _)
end
end Go.Proofs.YtnmafahbdfilcaaGreatDoor
