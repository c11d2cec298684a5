/- The document's table: a frame is taken. -/
import Derived.Test.YthlmfjfkkndboaaRDo2
namespace Go.Proofs.Ythlmfjfkkndboaa
open Go.RowKit
set_option linter.unusedVariables false
set_option linter.unusedSimpArgs false
set_option maxRecDepth 100000
section
variable {R : Ending → World → Prop} {bM bO bH bB : Nat} {fs : List Fr} {w : World}
set_option maxHeartbeats 1600000 in
theorem rdo_alloc (hT : RT w bM bO bH bB fs) (e f o n : Int) (s : ByteArray) (he : e = 1 ∨ e = 2)
    (h : ∀ g er fs' w', Hid (tAlloc fs e = (g, er, fs')) → Kp [bO, bH, bB] w w' → RT w' bM bO bH bB fs' → R (.returned (.tuple #[.int .i64 g, .string ⟨#[]⟩, .int .i64 er])) w') :
    Calls Try.prog 13 #[.pointer (some ⟨bM, 0, none⟩), .agg #[.int .i64 0, .int .i64 e, .int .i64 f, .int .i64 o, .int .i64 n, .string s]] w R := by
  have H := Lib.hid h
  clear h
  have hn := hT.n1
  have HT := Lib.hid hT
  have HE := Lib.hid (show envB e = true by rcases he with rfl | rfl <;> rfl)
  clear hT
  rcases he with rfl | rfl
  all_goals
    go_enter Try.func13, Try.ntmps13
    go_upto_region 1 with (fail)
    refine gen_world (fun W => Kp [] w W ∧ RT W bM bO bH bB fs ∧ Bk W w.heap.size 33 [.int .i64 0, .int .i64 _, .int .i64 f, .int .i64 o, .int .i64 n, .string s]) ⟨(Kp.refl _ _).alloc _, HT.out.kp ((Kp.refl [] w).alloc _) (by simp) (by simp) (by simp) (by simp), Bk.newAt rfl _ _⟩ ?_
    rintro W ⟨kW, tW, bW⟩
    obtain ⟨cc0, cc1, cc2, ht⟩ := tW.t
    have q0 := ht.cell 0
    have c0 := bW.cell 0
    have c1 := bW.cell 1
    simp only [List.getElem?_cons_zero, List.getElem?_cons_succ] at q0 c0 c1
    have TW := Lib.hid tW
    have KW := Lib.hid kW
    clear tW kW ht bW
    go_wp2
    go_loop [8] (fun iv => ∃ k : Nat, k ≤ fs.length ∧ iv = .int .i64 k ∧ Hid ((fs.take k).findIdx? (fun x => x.ow == 0) = none)) (fun iv => fs.length - (intOf iv).toNat)
    case atStart => exact ⟨0, Nat.zero_le _, rfl, rfl⟩
    case round =>
      obtain ⟨k, hk, rfl, hf⟩ := hrel
      by_cases hlt : k < fs.length
      · have hx : fs[k]? = some fs[k] := List.getElem?_eq_getElem hlt
        have hc2 := TW.out.ow hx
        have hz2 := TW.out.o.frozen k
        generalize fs[k] = x at hx hc2
        have HX := Lib.hid hx
        clear hx
        cases hb : (x.ow == 0)
        · have HF : Hid ((fs.take (k + 1)).findIdx? (fun x => x.ow == 0) = none) := Lib.hid (find_next (p := fun x => x.ow == 0) hf.out HX.out hb)
          go_wp2
          exact ⟨⟨k + 1, by omega, by go_num, HF⟩, by simp [intOf]; omega⟩
        · have HA : ∀ e, Hid (envB e = true) → Hid (tAlloc fs e = ((k : Int), 0, fs.set k { x with ow := e })) := fun e he => Lib.hid (by simp [tAlloc, he.out, find_first (p := fun x => x.ow == 0) hf.out HX.out hb, HX.out])
          go_wp2
          go_region
          all_goals go_wp2
          all_goals go_ret3
          all_goals exact H.out _ _ _ _ (HA _ HE) (by have k3 : Kp [bO, bH, bB] w W := KW.out.mono (by simp)
                                                      repeat first | exact k3 | refine Kp.setCell ?_ (.inl (by simp)) _ | refine Kp.drewN ?_ _ | refine Kp.drew ?_) (by repeat first | exact TW.out | refine RT.putOw ?_ HX.out _ | refine RT.drewN ?_ _ | refine RT.drew ?_)
      · have HA : ∀ e, Hid (envB e = true) → Hid (tAlloc fs e = (0, 10, fs)) := fun e he => Lib.hid (by
          have h2 := hf.out
          rw [List.take_of_length_le (by omega)] at h2
          simp [tAlloc, he.out, h2])
        go_wp2
        go_ret3
        exact H.out _ _ _ _ (HA _ HE) (KW.out.mono (by simp)) TW.out
end
end Go.Proofs.Ythlmfjfkkndboaa
