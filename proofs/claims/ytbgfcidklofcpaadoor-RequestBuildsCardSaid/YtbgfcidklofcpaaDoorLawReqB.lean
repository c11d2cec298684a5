/- RequestBuilds walked. -/
import Derived.Test.YtbgfcidklofcpaaDoorReqAl
import Derived.Test.YtbgfcidklofcpaaDoorReqBd
import Derived.Test.YtbgfcidklofcpaaDoorLex3
namespace Go.Proofs.YtbgfcidklofcpaaDoor
open Go.RowKit Go.Shelf
set_option linter.unusedVariables false
set_option linter.unusedSimpArgs false
set_option maxRecDepth 100000

def okP (p : List UInt8 × List UInt8) : Prop := (okN p.1 = true ∧ p.2.all valB = true) ∧ p.1.length ≤ 20 ∧ p.2.length ≤ 60
theorem built_snoc (head : Bool) (t : List UInt8) (ps : List (List UInt8 × List UInt8)) (p : List UInt8 × List UInt8) : builtL head t (ps ++ [p]) = ((((builtL head t ps ++ p.1) ++ [58]) ++ p.2) ++ [13, 10]) := by
  unfold builtL
  rw [List.flatMap_append]
  simp
theorem built_bd {head : Bool} {t : List UInt8} {ps : List (List UInt8 × List UInt8)} (ht : t.length ≤ 100) (h : ∀ p ∈ ps, okP p) (hn : ps.length ≤ 6) : (builtL head t ps).length ≤ 1000 := by
  have h1 := built_len ps (fun p hp => (h p hp).2)
  have hw : (wantL head).length ≤ 4 := by cases head <;> decide
  unfold builtL
  simp only [List.length_append, List.length_cons, List.length_nil]
  omega
theorem strs_rd {w : World} {N : List Nat} {A : Option Addr} {ps : List (List UInt8)} (hr : Rd w N A (strs ps)) {k : Nat} {x : List UInt8} (hx : ps[k]? = some x) :
    ∃ b off, A = some ⟨b, off, none⟩ ∧ b ∉ N ∧ b < w.heap.size ∧ w.cell? ⟨b, off + k, none⟩ = some (.string (S x)) := by
  obtain ⟨b, off, hA, hN, hb, hc⟩ := hr (by
    intro e
    have := congrArg List.length e
    rw [strs_len] at this
    have hk := (List.getElem?_eq_some_iff.1 hx).1
    simp at this; rw [this] at hk; simp at hk)
  exact ⟨b, off, hA, hN, hb, hc k _ (by rw [strs_get, hx]; rfl)⟩
theorem zip_get {ns vs : List (List UInt8)} {k : Nat} {n v : List UInt8} (h1 : ns[k]? = some n) (h2 : vs[k]? = some v) : (ns.zip vs)[k]? = some (n, v) := by
  rw [List.getElem?_zip_eq_some]; exact ⟨h1, h2⟩
def allSeen (t : List UInt8) (k : Nat) : Prop := (t.take k).all seenB = true
theorem start_get (t : List UInt8) : (⟨#[71, 69, 84]⟩ : ByteArray) ++ ⟨#[32, 47]⟩ ++ S t ++ ⟨#[32, 72, 84, 84, 80, 47, 49, 46, 49, 13, 10, 72, 111, 115, 116, 58, 32, 120, 13, 10]⟩ = S (builtL false t []) := by
  show S [71, 69, 84] ++ S [32, 47] ++ S t ++ S [32, 72, 84, 84, 80, 47, 49, 46, 49, 13, 10, 72, 111, 115, 116, 58, 32, 120, 13, 10] = _
  rw [S_append, S_append, S_append]
  simp [builtL, wantL, getL]
theorem start_head (t : List UInt8) : (⟨#[72, 69, 65, 68]⟩ : ByteArray) ++ ⟨#[32, 47]⟩ ++ S t ++ ⟨#[32, 72, 84, 84, 80, 47, 49, 46, 49, 13, 10, 72, 111, 115, 116, 58, 32, 120, 13, 10]⟩ = S (builtL true t []) := by
  show S [72, 69, 65, 68] ++ S [32, 47] ++ S t ++ S [32, 72, 84, 84, 80, 47, 49, 46, 49, 13, 10, 72, 111, 115, 116, 58, 32, 120, 13, 10] = _
  rw [S_append, S_append, S_append]
  simp [builtL, wantL, headLL]
set_option maxHeartbeats 8000000 in
theorem builds_walk {R : Ending → World → Prop} (head : Bool) (t : List UInt8) (ns vs : List (List UInt8)) {A1 A2 : Option Addr} {c1 c2 : Nat} (w : World) (hm : Ml w) (r1 : Rd w [] A1 (strs ns)) (r2 : Rd w [] A2 (strs vs))
    (ht : t.length ≤ 9223372036854775807) (h1 : ns.length ≤ 9223372036854775807) (h2 : vs.length ≤ 9223372036854775807) (hb1 : ∀ x ∈ ns, x.length ≤ 9223372036854775807) (hb2 : ∀ x ∈ vs, x.length ≤ 9223372036854775807)
    (h : ∀ w', Kp [] w w' → R (.returned (.bool true)) w') :
    Calls Tryd.prog 5 #[.bool head, .string (S t), .slice A1 ns.length c1, .slice A2 vs.length c2] w R := by
  have H := Lib.hid h
  clear h
  have R1 := Lib.hid r1
  have R2 := Lib.hid r2
  have B1 := Lib.hid hb1
  have B2 := Lib.hid hb2
  clear r1 r2 hb1 hb2
  by_cases hc : t.length ≤ 100 ∧ ns.length ≤ 6 ∧ ns.length ≤ vs.length
  · obtain ⟨k1, k2, k3⟩ := hc
    obtain ⟨ps, hps⟩ : ∃ ps, ns.zip vs = ps := ⟨_, rfl⟩
    have hpl : ps.length = ns.length := by rw [← hps, List.length_zip]; omega
    have HPS := Lib.hid hps
    have HPL := Lib.hid hpl
    have d1 : decide (vs.length < ns.length) = false := by simpa using k3
    have d2 : decide (100 < (t.length : Int)) = false := by simp; omega
    have d3 : decide (6 < (ns.length : Int)) = false := by simp; omega
    clear hps hpl
    go_enter Tryd.func5, Tryd.ntmps5
    go_wp2_with (go_at_call 8; ((refine alive24_any _ hm ?_); intro w1 k1'; have K1 := Lib.hid k1'; clear k1'))
    go_loop [9] (fun iv => ∃ k : Nat, k ≤ t.length ∧ iv = .int .i64 k ∧ Hid (allSeen t k)) (fun iv => t.length - (intOf iv).toNat)
    case atStart => exact ⟨0, Nat.zero_le _, rfl, Lib.hid rfl⟩
    case round =>
      obtain ⟨k, hk, rfl, ha⟩ := hrel
      by_cases hlt : k < t.length
      · obtain ⟨x, hx⟩ : ∃ x, t[k]'hlt = x := ⟨_, rfl⟩
        have hxl := x.toNat_lt
        have HS := Lib.hid (all_snoc' t seenB k hlt)
        by_cases hs1 : x.toNat ≤ 32
        · go_wp2
          exact H.out _ K1.out
        · by_cases hs2 : 127 ≤ x.toNat
          · go_wp2
            exact H.out _ K1.out
          · have HX : Hid (allSeen t (k + 1)) := Lib.hid (by
              unfold allSeen
              rw [HS.out, show (t.take k).all seenB = true from ha.out, hx]; simp [seenB]; omega)
            go_wp2
            go_round
            case rel => exact ⟨k + 1, by omega, by go_num, HX⟩
            case measure => simp [intOf]; omega
      · have HA : Hid (t.all seenB = true) := Lib.hid (by
          have := ha.out
          unfold allSeen at this
          rwa [List.take_of_length_le (by omega)] at this)
        clear ha
        go_upto_if 51 with (fail)
        go_cut [10] from 400 (fun sv w' => sv = .string (S (wantL head)) ∧ w' = w1)
        case first =>
          cases head
          · go_wp2
            go_meet
            case rel => exact ⟨rfl, rfl⟩
          · go_wp2
            go_meet
            case rel => exact ⟨rfl, rfl⟩
        case rest =>
          obtain ⟨rfl, rfl⟩ := hcut
          have hwl : (wantL head).length ≤ 4 := by cases head <;> decide
          go_wp2
          go_loopw [10, 12] (fun sv iv wr => ∃ k : Nat, k ≤ ns.length ∧ iv = .int .i64 k ∧ sv = .string (S (builtL head t (ps.take k))) ∧ Hid (∀ p ∈ ps.take k, okP p) ∧ Kp [] w wr) (fun _ iv _ => ns.length - (intOf iv).toNat)
          case atStart => exact ⟨0, Nat.zero_le _, rfl, congrArg (fun l => Value.string (S l)) (by simp [builtL]), Lib.hid (by simp), K1.out⟩
          case round =>
            obtain ⟨k, hk, rfl, rfl, hok, kr⟩ := hrel
            have KR := Lib.hid kr
            clear kr
            by_cases hlt2 : k < ns.length
            · obtain ⟨n, hn⟩ : ∃ n, ns[k]? = some n := ⟨_, List.getElem?_eq_getElem hlt2⟩
              obtain ⟨v, hv⟩ : ∃ v, vs[k]? = some v := ⟨_, List.getElem?_eq_getElem (by omega)⟩
              have hzp : ps[k]? = some (n, v) := by rw [← HPS.out]; exact zip_get hn hv
              have HZ := Lib.hid hzp
              obtain ⟨b1, o1, rfl, _, hl1, hc1⟩ := strs_rd (R1.out.kp KR.out (by simp)) hn
              obtain ⟨b2, o2, rfl, _, hl2, hc2⟩ := strs_rd (R2.out.kp KR.out (by simp)) hv
              have hnl := B1.out n (List.mem_of_getElem? hn)
              have hvl := B2.out v (List.mem_of_getElem? hv)
              clear hn hv hzp
              by_cases g1 : 20 < n.length
              · go_wp2
                exact H.out _ KR.out
              · by_cases g2 : 60 < v.length
                · go_wp2
                  exact H.out _ KR.out
                · cases g3 : tokB n
                  · have G3 := Lib.hid g3
                    clear g3
                    go_wp2_with (go_at_call 19; ((refine rtoken_any n _ (by omega) ?_); rw [G3.out]))
                    exact H.out _ KR.out
                  · have G3 := Lib.hid g3
                    clear g3
                    cases g4 : v.all valB
                    · have G4 := Lib.hid g4
                      clear g4
                      go_wp2_with (first | (go_at_call 19; ((refine rtoken_any n _ (by omega) ?_); rw [G3.out])) | (go_at_call 20; ((refine rvalue_any v _ (by omega) ?_); rw [G4.out])))
                      exact H.out _ KR.out
                    · have G4 := Lib.hid g4
                      clear g4
                      obtain ⟨m, hmm⟩ : ∃ m, lowL n = m := ⟨_, rfl⟩
                      have HLw : Hid (∀ (R : Ending → World → Prop) (w1 : World), (∀ w', Kp [] w1 w' → R (.returned (.string (S m))) w') → Calls Tryd.prog 21 #[.string (S n)] w1 R) := Lib.hid (fun R w1 h => rlower_any n w1 (by omega) (by rw [hmm]; exact h))
                      have HMM := Lib.hid hmm
                      clear hmm
                      have KRn : ∀ w5, Kp [] wr w5 → w5.cell? ⟨b1, o1 + k, none⟩ = some (.string (S n)) ∧ w5.cell? ⟨b2, o2 + k, none⟩ = some (.string (S v)) := fun w5 k5 => ⟨(k5.cell (p := ⟨b1, o1 + k, none⟩) hl1 (by simp)).trans hc1, (k5.cell (p := ⟨b2, o2 + k, none⟩) hl2 (by simp)).trans hc2⟩
                      have HCC := Lib.hid KRn
                      clear KRn
                      by_cases hbad : okN n = true
                      · obtain ⟨q1, q2, q3, q4⟩ := okN_ne hbad
                        rw [HMM.out] at q1 q2 q3 q4
                        unfold hostL at q1
                        unfold teL at q2
                        unfold clL at q3
                        unfold connL at q4
                        have HOK : Hid (okP (n, v)) := Lib.hid ⟨⟨hbad, G4.out⟩, by show n.length ≤ 20; omega, by show v.length ≤ 60; omega⟩
                        have HTK : Hid (ps.take (k + 1) = ps.take k ++ [(n, v)]) := Lib.hid (by
                          have hkp : k < ps.length := by rw [HPL.out]; exact hlt2
                          rw [List.take_succ_eq_append_getElem hkp, (List.getElem?_eq_some_iff.1 HZ.out).2])
                        have hbd := built_bd (head := head) k1 hok.out (by rw [List.length_take, HPL.out]; omega)
                        have HSN := Lib.hid (built_snoc head t (ps.take k) (n, v))
                        obtain ⟨sb, hsb⟩ : ∃ sb, builtL head t (ps.take k) = sb := ⟨_, rfl⟩
                        rw [hsb] at hbd HSN ⊢
                        clear hsb hbad
                        go_wp2_with (first | (go_at_call 19; ((refine rtoken_any n _ (by omega) ?_); rw [G3.out])) | (go_at_call 20; ((refine rvalue_any v _ (by omega) ?_); rw [G4.out])) | (go_at_call 21; ((refine HLw.out _ _ ?_); intro w5 k5; obtain ⟨hd1, hd2⟩ := HCC.out w5 k5; have K5 := Lib.hid (KR.out.trans k5); clear k5)))
                        go_quiet (fail)
                        go_wp2
                        refine ⟨⟨k + 1, by omega, by go_num, ?_, ?_, K5.out.drewN _⟩, by simp [intOf]; omega⟩
                        · rw [HTK.out, HSN.out]; simp
                        · refine Lib.hid ?_
                          rw [HTK.out]
                          intro p hp
                          rcases List.mem_append.1 hp with hp | hp
                          · exact hok.out p hp
                          · simp at hp; subst hp; exact HOK.out
                      · have hq : (m == [104, 111, 115, 116]) = true ∨ ((m == [104, 111, 115, 116]) = false ∧ (m == [116, 114, 97, 110, 115, 102, 101, 114, 45, 101, 110, 99, 111, 100, 105, 110, 103]) = true) ∨ ((m == [104, 111, 115, 116]) = false ∧ (m == [116, 114, 97, 110, 115, 102, 101, 114, 45, 101, 110, 99, 111, 100, 105, 110, 103]) = false ∧ (m == [99, 111, 110, 116, 101, 110, 116, 45, 108, 101, 110, 103, 116, 104]) = true) ∨ ((m == [104, 111, 115, 116]) = false ∧ (m == [116, 114, 97, 110, 115, 102, 101, 114, 45, 101, 110, 99, 111, 100, 105, 110, 103]) = false ∧ (m == [99, 111, 110, 116, 101, 110, 116, 45, 108, 101, 110, 103, 116, 104]) = false ∧ (m == [99, 111, 110, 110, 101, 99, 116, 105, 111, 110]) = true) := by
                          unfold okN at hbad
                          rw [G3.out, HMM.out, show (m == hostL) = (m == [104, 111, 115, 116]) from rfl, show (m == teL) = (m == [116, 114, 97, 110, 115, 102, 101, 114, 45, 101, 110, 99, 111, 100, 105, 110, 103]) from rfl, show (m == clL) = (m == [99, 111, 110, 116, 101, 110, 116, 45, 108, 101, 110, 103, 116, 104]) from rfl, show (m == connL) = (m == [99, 111, 110, 110, 101, 99, 116, 105, 111, 110]) from rfl] at hbad
                          revert hbad
                          cases (m == [104, 111, 115, 116]) <;> cases (m == [116, 114, 97, 110, 115, 102, 101, 114, 45, 101, 110, 99, 111, 100, 105, 110, 103]) <;> cases (m == [99, 111, 110, 116, 101, 110, 116, 45, 108, 101, 110, 103, 116, 104]) <;> cases (m == [99, 111, 110, 110, 101, 99, 116, 105, 111, 110]) <;> simp
                        clear hbad
                        obtain ⟨sb, hsb⟩ : ∃ sb, builtL head t (ps.take k) = sb := ⟨_, rfl⟩
                        rw [hsb]
                        clear hsb
                        go_upto_region 21 with (first | (go_at_call 19; ((refine rtoken_any n _ (by omega) ?_); rw [G3.out])) | (go_at_call 20; ((refine rvalue_any v _ (by omega) ?_); rw [G4.out])) | (go_at_call 21; ((refine HLw.out _ _ ?_); intro w5 k5)))
                        rcases hq with q1 | ⟨q1, q2⟩ | ⟨q1, q2, q3⟩ | ⟨q1, q2, q3, q4⟩
                        all_goals
                          go_wp2
                          exact H.out _ (KR.out.trans k5)
            · obtain rfl : k = ns.length := by omega
              have e : ps.take ns.length = ps := List.take_of_length_le (by rw [HPL.out]; exact Nat.le_refl _)
              rw [e] at hok ⊢
              have HNX := next_build head HA.out k1 ps (fun p hp => (hok.out p hp).1) (fun p hp => (hok.out p hp).2) (by rw [HPL.out]; exact k2)
              have hbd := built_bd (head := head) k1 hok.out (by rw [HPL.out]; exact k2)
              obtain ⟨sb, hsb⟩ : ∃ sb, builtL head t ps = sb := ⟨_, rfl⟩
              rw [hsb] at HNX hbd ⊢
              obtain ⟨fs, hfs⟩ : ∃ fs, (hostL, [120]) :: ps.map (fun p => (lowL p.1, trimL p.2)) = fs := ⟨_, rfl⟩
              have hfl : fs.length = ns.length + 1 := by rw [← hfs, List.length_cons, List.length_map, HPL.out]
              rw [hfs] at HNX
              have HFG : Hid (∀ k n v, ps[k]? = some (n, v) → fs[k + 1]? = some (lowL n, trimL v)) := Lib.hid (fun k n v h => by rw [← hfs, List.getElem?_cons_succ, List.getElem?_map, h]; rfl)
              have HNXc : Hid (∀ (R : Ending → World → Prop) (g : Nat) (w1 : World), Ml w1 → Ps w1 g (sb ++ [13, 10]) false → (∀ A c w', Ps w' g [] false → Kp [g] w1 w' → Rd w' [g] A (fs.flatMap fldC) → (∀ x ∈ bks A, w1.heap.size ≤ x) → ns.length + 1 ≤ c → R (.returned (.tuple #[.agg #[.string (S (wantL head)), .string (S (47 :: t)), .int .i64 1, .slice A (ns.length + 1) c, .bool false], .int .i64 0])) w') → Calls Tryd.prog 16 #[.pointer (some ⟨g, 0, none⟩)] w1 R) := Lib.hid (fun R g w1 h1 h2 h => next_any h1 h2 (by simp; omega) (by
                rw [HNX]
                intro A c w' a1 a2 a3 a4 a5
                have a5' : fs.length ≤ c := a5
                rw [hfl] at a5'
                have := h A c w' a1 a2 a3 a4 a5'
                show R (.returned (.tuple #[.agg #[.string (S (wantL head)), .string (S (47 :: t)), .int .i64 1, .slice A fs.length c, .bool false], .int .i64 0])) w'
                rw [hfl]; exact this))
              have HFL := Lib.hid hfl
              have HOA := hok
              clear HNX hsb hfs hfl e hok hlt2
              go_upto_region 25 with (go_at_call 14; ((refine new24_any _ ?_); intro g w5 hg hp5 k5; have hgw : w.heap.size ≤ g := Nat.le_trans KR.out.size hg; have HP5 := Lib.hid hp5; have K5 := Lib.hid (KR.out.trans k5); clear hp5 k5))
              have hcv0 := conv_sb w5 (S (sb ++ [13, 10]))
              have kb := (Kp.refl [] w5).bytesWorld 5 (S (sb ++ [13, 10]))
              have rb := rd_bytesWorld (N := []) w5 5 (S (sb ++ [13, 10])) rfl (by simp)
              rw [S_data] at rb
              rw [S_size] at hcv0
              have hcv2 : (convert 9 40 (.string (S (sb ++ [13, 10])))).run Tryd.prog w5 = .ok (.slice (some ⟨w5.heap.size, 0, none⟩) (sb.length + 2) (grownCap w5 (sb ++ [13, 10]).length 0 5)) (Lib.bytesWorld w5 5 (S (sb ++ [13, 10]))) := by
                rw [hcv0]; simp
              clear hcv0
              generalize Lib.bytesWorld w5 5 (S (sb ++ [13, 10])) = w6 at *
              generalize grownCap w5 (sb ++ [13, 10]).length 0 5 = cc at *
              have RB := Lib.hid rb
              have KB := Lib.hid kb
              have hlsb : ¬ (9223372036854775807 < sb.length + 2) := by omega
              clear rb kb
              go_upto_region 26 with (go_at_call 15; ((refine feed_any (Bk.kp HP5.out KB.out (by simp)) (sb ++ [13, 10]) RB.out (by simp) (by simp; omega) ?_); intro w7 hp7 k7; have HP7 := Lib.hid (show Ps w7 g (sb ++ [13, 10]) false from hp7); have K7 := Lib.hid ((K5.out.trans KB.out).thn k7 (fun s hs => .inr (by simp at hs; omega))); clear hp7 k7))
              clear hcv2
              go_upto_region 27 with (go_at_call 16; ((refine HNXc.out _ _ _ (hm.kp K7.out) HP7.out ?_); intro A8 c8 w8 hp8 k8 rd8 fr8 nc8; have HP8 := Lib.hid hp8; have K8 := Lib.hid (K7.out.thn k8 (fun s hs => .inr (by simp at hs; omega))); have RD8 := Lib.hid (rd8.sub (N' := []) (by simp)); clear hp8 k8 rd8 fr8))
              refine gen_world (fun W => Kp [] w W ∧ Ps W g [] false ∧ Rd W [] A8 (fs.flatMap fldC) ∧ Bk W w8.heap.size 29 [.string (S (wantL head)), .string (S (47 :: t)), .int .i64 1, .slice A8 (ns.length + 1) c8, .bool false]) ⟨K8.out.alloc _, Bk.alloc HP8.out _, RD8.out.kp ((Kp.refl [] _).alloc _) (by simp), Bk.newAt rfl _ _⟩ ?_
              rintro W ⟨kW, pW, rW, bW⟩
              obtain ⟨gr, hgr⟩ : ∃ gr, w8.heap.size = gr := ⟨_, rfl⟩
              rw [hgr] at bW ⊢
              have KW := Lib.hid kW
              have PW := Lib.hid pW
              have RW := Lib.hid rW
              have BW := Lib.hid bW
              obtain ⟨⟨q0, q1, q2, q3, q4⟩, _⟩ := bk5 bW
              clear kW pW rW bW hgr
              go_wp2_with (go_at_call 22; (refine held24_any PW.out (by simp) ?_))
              go_loopw [17] (fun iv wr => ∃ k : Nat, k ≤ ns.length ∧ iv = .int .i64 k ∧ Kp [] W wr) (fun iv _ => ns.length - (intOf iv).toNat)
              case atStart => exact ⟨0, Nat.zero_le _, rfl, Kp.refl _ _⟩
              case round =>
                obtain ⟨k, hk, rfl, kr2⟩ := hrel
                have KR2 := Lib.hid kr2
                by_cases hlt3 : k < ns.length
                · obtain ⟨n, hn⟩ : ∃ n, ns[k]? = some n := ⟨_, List.getElem?_eq_getElem hlt3⟩
                  obtain ⟨v, hv⟩ : ∃ v, vs[k]? = some v := ⟨_, List.getElem?_eq_getElem (by omega)⟩
                  have hf := HFG.out k n v (by rw [← HPS.out]; exact zip_get hn hv)
                  obtain ⟨b1, o1, rfl, _, hl1, hc1⟩ := strs_rd (R1.out.kp (KW.out.trans kr2) (by simp)) hn
                  obtain ⟨b2, o2, rfl, _, hl2, hc2⟩ := strs_rd (R2.out.kp (KW.out.trans kr2) (by simp)) hv
                  obtain ⟨b3, o3, rfl, _, hl3, hc3⟩ := rd_at (RW.out.kp kr2 (by simp)) fldC_len (by decide) hf
                  have hx0 := hc3 0 _ rfl
                  have hx1 := hc3 1 _ rfl
                  rw [Nat.add_zero] at hx0
                  have hnl := B1.out n (List.mem_of_getElem? hn)
                  have hvl := B2.out v (List.mem_of_getElem? hv)
                  have hr3 := (kr2.cell (p := ⟨gr, 3, none⟩) (World.block_lt_of_cell? W _ q3) (by simp)).trans q3
                  have HN3 := Lib.hid hn; have HV3 := Lib.hid hv; clear hc3 hn hv hf kr2
                  have hokp := HOA.out (n, v) (List.mem_of_getElem? (by rw [← HPS.out]; exact zip_get HN3.out HV3.out))
                  have hn20 : n.length ≤ 20 := hokp.2.1
                  have hv60 : v.length ≤ 60 := hokp.2.2
                  have hw1 : IntKind.i64.wrap ((k : Int) + 1) = (k : Int) + 1 := IntWalk.i64_in _ (by omega)
                  have hw2 : ((k : Int) + 1).toNat = k + 1 := by omega
                  clear hokp
                  go_wp2
                  refine wp_region_kp (by kernel_rfl) (by kernel_rfl) ?_
                  repeat (go_big_quiet_step ((first | (go_at_call 21; (refine rlower_any n _ (by omega) (fun w3 k3 => ?_); exact kpx_mk k3)) | (go_at_call 23; (refine rtrim_any v _ (by omega) ?_; exact kpx_mk (Kp.refl _ _))))))
                  refine wpQuiet_nil ?_
                  intro w9 k9
                  go_wp2
                  exact ⟨⟨k + 1, by omega, by go_num, KR2.out.trans k9⟩, by simp [intOf]; omega⟩
                · go_wp2
                  exact H.out _ (KW.out.trans kr2)
  · by_cases e1 : 100 < t.length
    · clear hc
      go_enter Tryd.func5, Tryd.ntmps5
      go_wp2_with (go_at_call 8; ((refine alive24_any _ hm ?_); intro w1 k1))
      exact H.out _ k1
    · by_cases e2 : 6 < ns.length
      · clear hc
        go_enter Tryd.func5, Tryd.ntmps5
        go_wp2_with (go_at_call 8; ((refine alive24_any _ hm ?_); intro w1 k1))
        exact H.out _ k1
      · have e3 : vs.length < ns.length := by omega
        clear hc
        go_enter Tryd.func5, Tryd.ntmps5
        go_wp2_with (go_at_call 8; ((refine alive24_any _ hm ?_); intro w1 k1))
        exact H.out _ k1
end Go.Proofs.YtbgfcidklofcpaaDoor
