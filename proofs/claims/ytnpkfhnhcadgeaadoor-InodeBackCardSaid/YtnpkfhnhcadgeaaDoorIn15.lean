/- What is packed is parsed, in plain words; and a turned byte breaks the sum. -/
import Derived.Test.YtnpkfhnhcadgeaaDoorIn14
import Derived.Test.YtnpkfhnhcadgeaaDoorFb
namespace Go.Proofs.YtnpkfhnhcadgeaaDoor
open Go.RowKit
set_option linter.unusedVariables false
set_option linter.unusedSimpArgs false
set_option maxRecDepth 100000
theorem fold_put (N w : Nat) : ∀ a, (putL N w).foldl (fun n (c : UInt8) => n * 256 + c.toNat) a = a * 256 ^ w + N % 256 ^ w := by
  induction w with
  | zero => intro a; simp [putL, Nat.mod_one]
  | succ w ih =>
    intro a
    simp only [putL, List.foldl_cons]
    have e : N % 256 ^ (w + 1) = N % 256 ^ w + 256 ^ w * (N / 256 ^ w % 256) := Nat.mod_pow_succ
    rw [ih, UInt8.toNat_ofNat', e]
    generalize hx : N / 256 ^ w = x
    generalize N % 256 ^ w = y
    have e2 : (256 : Nat) ^ (w + 1) = 256 * 256 ^ w := by rw [Nat.pow_succ, Nat.mul_comm]
    rw [e2, show (2 : Nat) ^ 8 = 256 from rfl, Nat.add_mul, ← Nat.mul_assoc, Nat.mul_comm (x % 256)]
    omega
theorem numB_put {N k : Nat} (h : N < 256 ^ k) : numB (putL N k) = N := by
  unfold numB
  rw [fold_put, Nat.zero_mul, Nat.zero_add, Nat.mod_eq_of_lt h]
theorem cut_at {α : Type} (a b c : List α) {k m : Nat} (ha : a.length = k) (hb : b.length = m) : ((a ++ (b ++ c)).drop k).take m = b := by rw [List.drop_left' ha, List.take_left' hb]
theorem flat_split {α : Type} (f : α → List UInt8) (m : Nat) : ∀ (l : List α) (hf : ∀ a ∈ l, (f a).length = m) (k : Nat) (hk : k < l.length) (z : List UInt8), ∃ r, (l.flatMap f ++ z).drop (m * k) = f (l[k]'hk) ++ r
  | a :: l, hf, 0, hk, z => ⟨l.flatMap f ++ z, by simp⟩
  | a :: l, hf, k + 1, hk, z => by
    obtain ⟨r, hr⟩ := flat_split f m l (fun x hx => hf x (by simp [hx])) k (by simpa using hk) z
    refine ⟨r, ?_⟩
    rw [List.flatMap_cons, List.append_assoc, show m * (k + 1) = m + m * k by rw [Nat.mul_succ, Nat.add_comm], ← List.drop_drop, List.drop_left' (hf a (by simp)), hr]
    rfl
theorem seal_take {t : List UInt8} (h : t.length ≤ 254) : (sealB t).take 254 = t ++ List.replicate (254 - t.length) 0 := by
  unfold sealB
  rw [List.take_left' (padB_len h)]
  rfl
theorem all_take {α : Type} (l : List α) (f : Nat → List α) (h0 : f 0 = []) (hs : ∀ k (hk : k < l.length), f (k + 1) = f k ++ [l[k]'hk]) : f l.length = l := by
  have : ∀ k, k ≤ l.length → f k = l.take k := by
    intro k
    induction k with
    | zero => intro _; rw [h0]; rfl
    | succ k ih =>
      intro hk
      rw [hs k (by omega), ih (by omega), List.take_succ_eq_append_getElem (by omega)]
  rw [this _ (Nat.le_refl _), List.take_length]
theorem root_back {gen : Int} {l : List Int} (h : rootB gen l = true) : isRoot (sealB (rootT gen l)) ∧ (genP ((sealB (rootT gen l)).take 254) : Int) = gen ∧ cntP ((sealB (rootT gen l)).take 254) = l.length ∧
    dirsP ((sealB (rootT gen l)).take 254) l.length = l := by
  have hb := h
  unfold rootB at hb
  simp only [Bool.and_eq_true, decide_eq_true_eq, List.all_eq_true] at hb
  obtain ⟨⟨g1, g2, g3⟩, hbl⟩ := hb
  have hlen : (rootT gen l).length = 9 + 2 * l.length := by unfold rootT; simp only [List.length_append, putL_len, put2_len, List.length_cons, List.length_nil]
  obtain ⟨z, hz⟩ : ∃ z, (sealB (rootT gen l)).take 254 = rootT gen l ++ z := ⟨_, seal_take (by omega)⟩
  rw [hz]
  have hgen : (genP (rootT gen l ++ z) : Int) = gen := by
    have e : rootT gen l ++ z = [80, 82, 79, 84] ++ (putL gen.toNat 4 ++ (putL l.length 1 ++ l.flatMap put2 ++ z)) := by unfold rootT; simp only [List.append_assoc]
    unfold genP
    rw [e, cut_at (k := 4) _ _ _ rfl (putL_len _ _), numB_put (by show gen.toNat < 4294967296; omega)]
    omega
  have hcnt : cntP (rootT gen l ++ z) = l.length := by
    have e : rootT gen l ++ z = ([80, 82, 79, 84] ++ putL gen.toNat 4) ++ (putL l.length 1 ++ (l.flatMap put2 ++ z)) := by unfold rootT; simp only [List.append_assoc]
    unfold cntP
    rw [e, cut_at _ _ _ (by rw [List.length_append, putL_len]; rfl) (putL_len _ _), numB_put (by show l.length < 256; omega)]
    omega
  have hdirs : dirsP (rootT gen l ++ z) l.length = l := by
    refine all_take l _ rfl (fun k hk => ?_)
    show dirsP _ k ++ [_] = _
    congr 2
    obtain ⟨r, hr⟩ := flat_split put2 2 l (fun a _ => putL_len _ _) k hk z
    have hv := hbl _ (List.getElem_mem hk)
    simp only [blkB, decide_eq_true_eq] at hv
    unfold dirV
    have e : rootT gen l ++ z = ([80, 82, 79, 84] ++ putL gen.toNat 4 ++ putL l.length 1) ++ (l.flatMap put2 ++ z) := by unfold rootT; simp only [List.append_assoc]
    rw [e, ← List.drop_drop, List.drop_left' (by simp only [List.length_append, putL_len]; rfl), hr]
    unfold put2
    rw [List.take_left' (putL_len _ _), numB_put (by show _ < 65536; omega)]
    omega
  refine ⟨⟨sealB_len (by omega), seal_good (by omega), ?_, ?_⟩, hgen, hcnt, hdirs⟩
  · rw [hz, hgen, hcnt, hdirs]; exact h
  · rw [hz, hgen, hcnt, hdirs]
theorem dir_back {l : List (List UInt8 × Int)} (h : dirB l = true) : isDir (sealB (dirT l)) ∧ cntD ((sealB (dirT l)).take 254) = l.length ∧ entsP ((sealB (dirT l)).take 254) l.length = l := by
  have hb := h
  unfold dirB at hb
  simp only [Bool.and_eq_true, decide_eq_true_eq, List.all_eq_true] at hb
  obtain ⟨hen, h1, h8⟩ := hb
  have hen2 : ∀ e ∈ l, e.1.length ≤ 24 ∧ 2 ≤ e.2 ∧ e.2 < 512 := by
    intro e he
    have := hen e he
    unfold entB at this
    simp only [Bool.and_eq_true, blkB, decide_eq_true_eq] at this
    exact ⟨nameB_len this.1, this.2⟩
  have hlen : (dirT l).length = 2 + 27 * l.length := by
    unfold dirT
    simp only [List.length_append, putL_len, List.length_cons, List.length_nil]
    rw [dirT_len (fun e he => (hen2 e he).1)]
  obtain ⟨z, hz⟩ : ∃ z, (sealB (dirT l)).take 254 = dirT l ++ z := ⟨_, seal_take (by omega)⟩
  rw [hz]
  have hcnt : cntD (dirT l ++ z) = l.length := by
    have e : dirT l ++ z = [68] ++ (putL l.length 1 ++ (l.flatMap entT ++ z)) := by unfold dirT; simp only [List.append_assoc]
    unfold cntD
    rw [e, cut_at (k := 1) _ _ _ rfl (putL_len _ _), numB_put (by show l.length < 256; omega)]
    omega
  have hents : entsP (dirT l ++ z) l.length = l := by
    refine all_take l _ rfl (fun k hk => ?_)
    show entsP _ k ++ [_] = _
    congr 2
    obtain ⟨n24, i1, i2⟩ := hen2 _ (List.getElem_mem hk)
    obtain ⟨r, hr⟩ := flat_split entT 27 l (fun a ha => entT_len (hen2 a ha).1) k hk z
    generalize l[k] = e at hr n24 i1 i2
    have e0 : (dirT l ++ z).drop (2 + 27 * k) = entT e ++ r := by
      have e1 : dirT l ++ z = ([68] ++ putL l.length 1) ++ (l.flatMap entT ++ z) := by unfold dirT; simp only [List.append_assoc]
      rw [e1, ← List.drop_drop, List.drop_left' (by simp only [List.length_append, putL_len]; rfl), hr]
    have hl : lenD (dirT l ++ z) k = e.1.length := by
      unfold lenD
      rw [e0]
      unfold entT
      simp only [List.append_assoc]
      rw [List.take_left' (putL_len _ _), numB_put (by show e.1.length < 256; omega)]
      omega
    refine Prod.ext ?_ ?_
    · show nameD _ _ = _
      unfold nameD
      rw [hl, ← List.drop_drop, e0]
      unfold entT
      simp only [List.append_assoc]
      rw [List.drop_left' (putL_len _ _), List.take_take, Nat.min_eq_left n24, List.take_left' rfl]
    · show (inoD _ _ : Int) = _
      unfold inoD
      rw [← List.drop_drop, e0]
      unfold entT
      have e2 : putL e.1.length 1 ++ e.1 ++ List.replicate (24 - e.1.length) 0 ++ putL e.2.toNat 2 ++ r = (putL e.1.length 1 ++ e.1 ++ List.replicate (24 - e.1.length) 0) ++ (putL e.2.toNat 2 ++ r) := by simp only [List.append_assoc]
      rw [e2, cut_at _ _ _ (by simp only [List.length_append, putL_len, List.length_replicate]; omega) (putL_len _ _), numB_put (by show _ < 65536; omega)]
      omega
  refine ⟨⟨sealB_len (by omega), seal_good (by omega), ?_, ?_⟩, hcnt, hents⟩
  · rw [hz, hcnt, hents]; exact h
  · rw [hz, hcnt, hents]
theorem rows_split (V : Nat → Nat) (bl : List Int) (pa : List (Nat × Nat)) : ∀ (n k : Nat) (hk : k < n) (z : List UInt8), ∃ r, (rowsT V bl pa n ++ z).drop (6 * k) = putL (bl.getD k 0).toNat 2 ++ (putL (V (pa.getD k (0, 0)).1) 2 ++ (putL (V (pa.getD k (0, 0)).2) 2 ++ r))
  | n + 1, k, hk, z => by
    show ∃ r, (rowsT V bl pa n ++ _ ++ _ ++ _ ++ z).drop (6 * k) = _
    by_cases h : k = n
    · subst h
      refine ⟨z, ?_⟩
      simp only [List.append_assoc]
      rw [List.drop_left' (rowsT_len _ _ _ _)]
    · simp only [List.append_assoc]
      exact rows_split V bl pa n k (by omega) _
/-- Which doubles are a part's word. -/
noncomputable def wordF (x : Nat) : Bool := by
  classical exact if (∃ a, a < 65536 ∧ x = fl a) then true else false
theorem wordF_fl {n : Nat} (hn : n < 2 ^ 53) : wordF (fl n) = decide (n ≤ 65535) := by
  unfold wordF
  by_cases h : n ≤ 65535
  · have h2 : ∃ a, a < 65536 ∧ fl n = fl a := ⟨n, by omega, rfl⟩
    rw [decide_eq_true h, if_pos h2]
  · have h2 : ¬ ∃ a, a < 65536 ∧ fl n = fl a := by
      rintro ⟨a, ha, e⟩
      have := fl_inj hn (by omega) e
      omega
    rw [decide_eq_false h, if_neg h2]
theorem wordF_vF {x : Nat} (h : wordF x = true) : vF x < 65536 ∧ x = fl (vF x) := by
  unfold wordF at h
  split at h
  · rename_i h2
    obtain ⟨a, ha, rfl⟩ := h2
    rw [vF_fl ha]
    exact ⟨ha, rfl⟩
  · cases h
theorem file_back {W : Nat → Bool} {ver mt len : Int} {bl : List Int} {pa : List (Nat × Nat)} (hW : ∀ x, W x = true → vF x < 65536 ∧ x = fl (vF x)) (h : fileB W ver mt len bl pa = true) :
    let l := sealB (fileT vF ver mt len bl pa)
    isFile l ∧ (verF (l.take 254) : Int) = ver ∧ mtF (l.take 254) = mt ∧ (lenF (l.take 254) : Int) = len ∧ cntL (l.take 254) = bl.length ∧ blksF (l.take 254) bl.length = bl ∧ partsF (l.take 254) bl.length = pa ∧ pa.length = bl.length ∧ bl.length = cntF len.toNat ∧ bl.length ≤ 32 := by
  intro l
  have hb := h
  unfold fileB at hb
  simp only [Bool.and_eq_true, decide_eq_true_eq, List.all_eq_true] at hb
  obtain ⟨⟨v1, v2, m1, m2, l1, l2, hn, hm⟩, hbl, hpa⟩ := hb
  have hn32 : bl.length ≤ 32 := by rw [hn]; unfold cntF; omega
  have hlen : (fileT vF ver mt len bl pa).length = 15 + 6 * bl.length := by
    unfold fileT
    simp only [List.length_append, putL_len, rowsT_len, List.length_cons, List.length_nil]
  obtain ⟨z, hz⟩ : ∃ z, l.take 254 = fileT vF ver mt len bl pa ++ z := ⟨_, seal_take (by omega)⟩
  rw [hz]
  obtain ⟨T, hT⟩ : ∃ T, fileT vF ver mt len bl pa = T := ⟨_, rfl⟩
  have hver : (verF (T ++ z) : Int) = ver := by
    have e : T ++ z = [70] ++ (putL ver.toNat 4 ++ (putL mt.toNat 8 ++ putL len.toNat 2 ++ rowsT vF bl pa bl.length ++ z)) := by rw [← hT]; unfold fileT; simp only [List.append_assoc]
    unfold verF
    rw [e, cut_at (k := 1) _ _ _ rfl (putL_len _ _), numB_put (by show _ < 4294967296; omega)]
    omega
  have hmt : mtF (T ++ z) = mt := by
    have e : T ++ z = ([70] ++ putL ver.toNat 4) ++ (putL mt.toNat 8 ++ (putL len.toNat 2 ++ rowsT vF bl pa bl.length ++ z)) := by rw [← hT]; unfold fileT; simp only [List.append_assoc]
    unfold mtF
    rw [e, cut_at _ _ _ (by simp only [List.length_append, putL_len]; rfl) (putL_len _ _), numB_put (by show _ < 18446744073709551616; omega), IntKind.wrap_i64]
    omega
  have hle : (lenF (T ++ z) : Int) = len := by
    have e : T ++ z = ([70] ++ putL ver.toNat 4 ++ putL mt.toNat 8) ++ (putL len.toNat 2 ++ (rowsT vF bl pa bl.length ++ z)) := by rw [← hT]; unfold fileT; simp only [List.append_assoc]
    unfold lenF
    rw [e, cut_at _ _ _ (by simp only [List.length_append, putL_len]; rfl) (putL_len _ _), numB_put (by show _ < 65536; omega)]
    omega
  have hcnt : cntL (T ++ z) = bl.length := by
    unfold cntL
    rw [hn, show lenF (T ++ z) = len.toNat by omega]
    rw [hn] at hn32
    exact Nat.min_eq_left hn32
  have hrow : ∀ k, k < bl.length → ∃ r, (T ++ z).drop (15 + 6 * k) = putL (bl.getD k 0).toNat 2 ++ (putL (vF (pa.getD k (0, 0)).1) 2 ++ (putL (vF (pa.getD k (0, 0)).2) 2 ++ r)) := by
    intro k hk
    obtain ⟨r, hr⟩ := rows_split vF bl pa bl.length k hk z
    refine ⟨r, ?_⟩
    have e : T ++ z = ([70] ++ putL ver.toNat 4 ++ putL mt.toNat 8 ++ putL len.toNat 2) ++ (rowsT vF bl pa bl.length ++ z) := by rw [← hT]; unfold fileT; simp only [List.append_assoc]
    rw [e, ← List.drop_drop, List.drop_left' (by simp only [List.length_append, putL_len]; rfl), hr]
  have hbk : blksF (T ++ z) bl.length = bl := by
    refine all_take bl _ rfl (fun k hk => ?_)
    show blksF _ k ++ [_] = _
    congr 2
    obtain ⟨r, hr⟩ := hrow k hk
    have hv := hbl _ (List.getElem_mem hk)
    simp only [blkB, decide_eq_true_eq] at hv
    unfold blkF
    rw [hr, List.take_left' (putL_len _ _), List.getD_eq_getElem?_getD, List.getElem?_eq_getElem hk, Option.getD_some, numB_put (by show _ < 65536; omega)]
    omega
  have hpk : partsF (T ++ z) bl.length = pa := by
    rw [← hm]
    refine all_take pa _ rfl (fun k hk => ?_)
    show partsF _ k ++ [_] = _
    congr 2
    obtain ⟨r, hr⟩ := hrow k (by omega)
    have hv := hpa _ (List.getElem_mem hk)
    have g1 := hW _ hv.1
    have g2 := hW _ hv.2
    have eg : pa.getD k (0, 0) = pa[k] := by rw [List.getD_eq_getElem?_getD, List.getElem?_eq_getElem hk]; rfl
    rw [eg] at hr
    generalize pa[k] = p at hr g1 g2
    unfold evF odF
    rw [show (T ++ z).drop (15 + 6 * k + 2) = ((T ++ z).drop (15 + 6 * k)).drop 2 from List.drop_drop.symm, show (T ++ z).drop (15 + 6 * k + 4) = ((T ++ z).drop (15 + 6 * k)).drop 4 from List.drop_drop.symm, hr, cut_at _ _ _ (putL_len _ _) (putL_len _ _), numB_put (by show _ < 65536; exact g1.1)]
    have e2 : putL (bl.getD k 0).toNat 2 ++ (putL (vF p.1) 2 ++ (putL (vF p.2) 2 ++ r)) = (putL (bl.getD k 0).toNat 2 ++ putL (vF p.1) 2) ++ (putL (vF p.2) 2 ++ r) := by simp only [List.append_assoc]
    rw [e2, cut_at _ _ _ (by simp only [List.length_append, putL_len]) (putL_len _ _), numB_put (by show _ < 65536; exact g2.1)]
    exact Prod.ext g1.2.symm g2.2.symm
  rw [← hT] at *
  refine ⟨⟨sealB_len (by omega), seal_good (by omega), ?_, ?_⟩, hver, hmt, hle, hcnt, hbk, hpk, hm, hn, hn32⟩
  · rw [hz, hver, hmt, hle, hcnt, hbk, hpk]
    unfold fileB at h ⊢
    simp only [Bool.and_eq_true, decide_eq_true_eq, List.all_eq_true] at h ⊢
    exact ⟨h.1, h.2.1, fun p _ => ⟨rfl, rfl⟩⟩
  · rw [hz, hver, hmt, hle, hcnt, hbk, hpk]
theorem pr_set : ∀ (l : List UInt8) (i : Nat) (hi : i < l.length) (v : UInt8), (i % 2 = 0 → (pr (l.set i v)).1 + (l[i]'hi).toNat = (pr l).1 + v.toNat ∧ (pr (l.set i v)).2 = (pr l).2) ∧ (i % 2 = 1 → (pr (l.set i v)).2 + (l[i]'hi).toNat = (pr l).2 + v.toNat ∧ (pr (l.set i v)).1 = (pr l).1)
  | c :: l, 0, hi, v => ⟨fun _ => ⟨by show v.toNat + (pr l).2 + c.toNat = c.toNat + (pr l).2 + v.toNat; omega, rfl⟩, fun h => by omega⟩
  | c :: l, i + 1, hi, v => by
    obtain ⟨h1, h2⟩ := pr_set l i (by simpa using hi) v
    simp only [List.set_cons_succ, pr, List.getElem_cons_succ]
    exact ⟨fun h => by have := h2 (by omega); omega, fun h => by have := h1 (by omega); omega⟩
/-- A turned byte breaks the sum. -/
theorem good_set {l : List UInt8} (h : goodB l = true) (i : Nat) (hi : i < l.length) (v : UInt8) (hv : v ≠ l[i]'hi) : goodB (l.set i v) = false := by
  obtain ⟨h1, h2⟩ := pr_set l i hi v
  have hne : v.toNat ≠ (l[i]'hi).toNat := fun e => hv (UInt8.toNat_inj.1 e)
  have b1 := v.toNat_lt
  have b2 := (l[i]'hi).toNat_lt
  unfold goodB at h ⊢
  rw [beq_iff_eq] at h
  rw [beq_eq_false_iff_ne]
  unfold fo at h ⊢
  unfold sm at h ⊢
  rcases Nat.mod_two_eq_zero_or_one i with hp | hp
  · obtain ⟨a, b⟩ := h1 hp
    rw [b]
    split at h
    · exact absurd h (by decide)
    · split
      · decide
      · omega
  · obtain ⟨a, b⟩ := h2 hp
    rw [b]
    split at h
    · exact absurd h (by decide)
    · split
      · decide
      · omega
end Go.Proofs.YtnpkfhnhcadgeaaDoor
