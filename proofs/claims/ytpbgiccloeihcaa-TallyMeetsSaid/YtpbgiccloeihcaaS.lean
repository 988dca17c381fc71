import Derived.Test.YtpbgiccloeihcaaF
open Go Go.Tl
set_option linter.unusedSimpArgs false
set_option linter.unusedVariables false
set_option linter.unnecessarySimpa false
namespace Go.Proofs.Ytpbgiccloeihcaa
abbrev int (n : Int) : M := .v (.int .i64 n)
def cnt (k : Int) (said : List Int) : Int := (said.countP (· == k) : Nat)
abbrev obj (fr : Bool) (at_ : Nat) (said : List Int) (need : Int) : Ob := .cells fr [.sr at_ 0 said.length 1, int (cnt 0 said), int (cnt 1 said), int (cnt 2 said), int need]
abbrev arr (fr : Bool) (said : List Int) : Ob := .cells fr (said.map int)
def put (what : Int) (said : List Int) (n : Int) : List Int := if n < 0 ∨ (said.length : Int) ≤ n ∨ rd said n.toNat ≠ 0 then said else said.set n.toNat what
def says (w : Int) (nodes said : List Int) : List Int := nodes.foldl (put w) said
theorem put_length (what : Int) (said : List Int) (n : Int) : (put what said n).length = said.length := by
  unfold put; split <;> simp

theorem cnt_lo (k : Int) (said : List Int) : 0 ≤ cnt k said := by unfold cnt; omega
theorem cnt_hi (k : Int) (said : List Int) : cnt k said ≤ said.length := by
  unfold cnt
  have := List.countP_le_length (p := (· == k)) (l := said)
  omega
theorem cnt_set (k what : Int) (said : List Int) (n : Nat) (h : n < said.length) (h0 : rd said n = 0) : cnt k (said.set n what) = cnt k said - (if k = 0 then 1 else 0) + (if k = what then 1 else 0) := by
  unfold cnt
  rw [rd_lt h] at h0
  have hp : k = 0 → 0 < said.countP (· == k) := fun hk => by
    rw [List.countP_pos_iff]
    exact ⟨said[n], List.getElem_mem h, by simp [h0, hk]⟩
  rw [List.countP_set h, h0]
  have e1 : ((0 : Int) == k) = true ↔ k = 0 := by rw [beq_iff_eq]; exact eq_comm
  have e2 : (what == k) = true ↔ k = what := by rw [beq_iff_eq]; exact eq_comm
  simp only [e1, e2]
  by_cases h1 : k = 0
  · have := hp h1
    rw [if_pos h1, if_pos h1]; split <;> omega
  · rw [if_neg h1, if_neg h1]; split <;> omega
theorem put_no (what : Int) (s : List Int) (n : Int) (h : n < 0 ∨ (s.length : Int) ≤ n ∨ rd s n.toNat ≠ 0) : put what s n = s := by unfold put; rw [if_pos h]
theorem put_yes (what : Int) (s : List Int) (n : Int) (h1 : 0 ≤ n) (h2 : n < s.length) (h3 : rd s n.toNat = 0) : put what s n = s.set n.toNat what := by
  unfold put; rw [if_neg]; rintro (h | h | h) <;> omega
theorem fold_step {α : Type} {f : α → Int → α} {s : α} {nodes : List Int} {j : Nat} (hj : j < nodes.length) : (nodes.drop j).foldl f s = (nodes.drop (j + 1)).foldl f (f s (rd nodes j)) := by
  rw [List.drop_eq_getElem_cons hj, List.foldl_cons, rd_lt hj]

set_option maxRecDepth 10000 in
theorem say (fr : Bool) (what : Int) (hw : what = 1 ∨ what = 2) (nodes said : List Int) (need : Int) (h8 : said.length ≤ 8) (hn : nodes.length ≤ 1000000) :
    Con Try.prog 25 [.ref 0 0, int what, .sl fr (nodes.map int) nodes.length] [obj false 1 said need, arr false said] fun m T' =>
      m = .tup [] ∧ T' = [obj false 1 (says what nodes said) need, arr false (says what nodes said)] := by
  refine Con.by Try.func25 en25 rfl (by simp [Try.ntmps25]) fun R hR hF hU => ?_; rw [Try.ntmps25]
  repeat' (first
    | refine WpC.seqC lv25 rfl ?_
    | refine WpC.blockC rfl ?_
    | (refine WpC.reg rfl rfl ?_; simp -implicitDefEqProofs -dsimp [-List.map_set, -List.map_append, -List.map_replicate, fold_int, fold_ints, fold_u8, fold_u8s, lv25])
    | (refine WpC.regP rfl (by decide +kernel) fol (by decide +kernel) (by decide +kernel) ?_; simp -implicitDefEqProofs -dsimp [-List.map_set, -List.map_append, -List.map_replicate, fold_int, fold_ints, fold_u8, fold_u8s, lv25])
    | (refine WpC.regI dr25 rfl rfl (by decide +kernel) fol ?_; simp -implicitDefEqProofs -dsimp [dr25, -List.map_set, -List.map_append, -List.map_replicate, fold_int, fold_ints, fold_u8, fold_u8s, lv25])
    | (refine WpC.regM dm25 rfl rfl (by decide +kernel) fol ?_; simp -implicitDefEqProofs -dsimp [dm25, -List.map_set, -List.map_append, -List.map_replicate, fold_int, fold_ints, fold_u8, fold_u8s, lv25])
    | (refine WpC.regQ dq25 rfl rfl (by decide +kernel) fol ?_; simp -implicitDefEqProofs -dsimp [dq25, -List.map_set, -List.map_append, -List.map_replicate, fold_int, fold_ints, fold_u8, fold_u8s, lv25])
    | (refine WpC.skipC rfl ?_; try simp -implicitDefEqProofs -dsimp [-List.map_set, -List.map_append, -List.map_replicate, fold_int, fold_ints, fold_u8, fold_u8s, lv25])
    | (refine WpC.retC rfl ?_; try simp -implicitDefEqProofs -dsimp [-List.map_set, -List.map_append, -List.map_replicate, fold_int, fold_ints, fold_u8, fold_u8s, lv25])
    | (refine WpC.exitC rfl ?_; try simp -implicitDefEqProofs -dsimp [-List.map_set, -List.map_append, -List.map_replicate, fold_int, fold_ints, fold_u8, fold_u8s, lv25])
    | (refine WpC.condK rfl ?_; simp -implicitDefEqProofs -dsimp [-List.map_set, -List.map_append, -List.map_replicate, fold_int, fold_ints, fold_u8, fold_u8s, lv25])
    | with_reducible refine And.intro (fun _ => ?_) (fun _ => ?_)
    | (with_reducible refine And.intro (by omega) ?_))
  refine WpC.loopC rfl (fun s => s.1 ≤ nodes.length ∧ s.2.length = said.length ∧ (nodes.drop s.1).foldl (put what) s.2 = nodes.foldl (put what) said)
    (fun s => ([(0, .ref 0 0), (1, int what), (8, .sl fr (nodes.map int) nodes.length), (9, int nodes.length), (10, int s.1)], [obj false 1 s.2 need, arr false s.2])) (fun s => nodes.length - s.1) (0, said) (by simp) ?_ ?_
  · refine Gh.envL ?_
    simp [leM, envL]
  · rintro ⟨j, s⟩ ⟨hj, hl, hf⟩ R' hR1 hR2
    simp only at hj hl hf hR1 ⊢
    have c0 := cnt_lo 0 s
    have c1 := cnt_lo 1 s
    have c2 := cnt_lo 2 s
    have d0 := cnt_hi 0 s
    have d1 := cnt_hi 1 s
    have d2 := cnt_hi 2 s
    rcases hw with rfl | rfl
    · repeat' (first
    | refine WpC.seqC lv25 rfl ?_
    | refine WpC.blockC rfl ?_
    | (refine WpC.reg rfl rfl ?_; simp -implicitDefEqProofs -dsimp [-List.map_set, -List.map_append, -List.map_replicate, fold_int, fold_ints, fold_u8, fold_u8s, lv25])
    | (refine WpC.regP rfl (by decide +kernel) fol (by decide +kernel) (by decide +kernel) ?_; simp -implicitDefEqProofs -dsimp [-List.map_set, -List.map_append, -List.map_replicate, fold_int, fold_ints, fold_u8, fold_u8s, lv25])
    | (refine WpC.regI dr25 rfl rfl (by decide +kernel) fol ?_; simp -implicitDefEqProofs -dsimp [dr25, -List.map_set, -List.map_append, -List.map_replicate, fold_int, fold_ints, fold_u8, fold_u8s, lv25])
    | (refine WpC.regM dm25 rfl rfl (by decide +kernel) fol ?_; simp -implicitDefEqProofs -dsimp [dm25, -List.map_set, -List.map_append, -List.map_replicate, fold_int, fold_ints, fold_u8, fold_u8s, lv25])
    | (refine WpC.regQ dq25 rfl rfl (by decide +kernel) fol ?_; simp -implicitDefEqProofs -dsimp [dq25, -List.map_set, -List.map_append, -List.map_replicate, fold_int, fold_ints, fold_u8, fold_u8s, lv25])
    | (refine WpC.skipC rfl ?_; try simp -implicitDefEqProofs -dsimp [-List.map_set, -List.map_append, -List.map_replicate, fold_int, fold_ints, fold_u8, fold_u8s, lv25])
    | (refine WpC.retC rfl ?_; try simp -implicitDefEqProofs -dsimp [-List.map_set, -List.map_append, -List.map_replicate, fold_int, fold_ints, fold_u8, fold_u8s, lv25])
    | (refine WpC.exitC rfl ?_; try simp -implicitDefEqProofs -dsimp [-List.map_set, -List.map_append, -List.map_replicate, fold_int, fold_ints, fold_u8, fold_u8s, lv25])
    | (refine WpC.condK rfl ?_; simp -implicitDefEqProofs -dsimp [-List.map_set, -List.map_append, -List.map_replicate, fold_int, fold_ints, fold_u8, fold_u8s, lv25])
    | with_reducible refine And.intro (fun _ => ?_) (fun _ => ?_)
    | (with_reducible refine And.intro (by omega) ?_))
      · refine hR1 (j + 1, s) _ _ ?_ (Gh.round [0, 1] (by simp) (by simp) rfl ?_ ?_) (by simp only; omega)
        · rw [fold_step (by omega : j < nodes.length), put_no _ _ _ (.inr (.inr (by assumption)))] at hf
          exact ⟨by omega, hl, hf⟩
        · simp -implicitDefEqProofs -dsimp [-List.map_set, -List.map_append, -List.map_replicate, fold_int, fold_ints, fold_u8, fold_u8s, obMp, keepG, List.idxOf?_cons, leM, envL, i64w]
        · simp -implicitDefEqProofs -dsimp [-List.map_set, -List.map_append, -List.map_replicate, fold_int, fold_ints, fold_u8, fold_u8s, obMp, keepG, List.idxOf?_cons, leM, envL, i64w]; rw [i64w] <;> omega
      · refine hR1 (j + 1, s.set (rd nodes j).toNat 1) _ _ ?_ (Gh.round [0, 1] (by simp) (by simp) rfl ?_ ?_) (by simp only; omega)
        · rw [fold_step (by omega : j < nodes.length), put_yes _ _ _ (by omega) (by omega) (by assumption)] at hf
          simp only [List.length_set]
          exact ⟨by omega, hl, hf⟩
        · rename_i h1 h2 h3 h4
          have e0 := cnt_set 0 1 s (rd nodes j).toNat (by omega) h4
          have e1 := cnt_set 1 1 s (rd nodes j).toNat (by omega) h4
          have e2 := cnt_set 2 1 s (rd nodes j).toNat (by omega) h4
          simp at e0 e1 e2
          simp -implicitDefEqProofs -dsimp [-List.map_set, -List.map_append, -List.map_replicate, fold_int, fold_ints, fold_u8, fold_u8s, obMp, keepG, List.idxOf?_cons, leM, envL, i64w, e0, e1, e2]
          rw [i64w, i64w] <;> first | omega | simp
        · simp -implicitDefEqProofs -dsimp [-List.map_set, -List.map_append, -List.map_replicate, fold_int, fold_ints, fold_u8, fold_u8s, obMp, keepG, List.idxOf?_cons, leM, envL, i64w]; rw [i64w] <;> omega
      · refine hR1 (j + 1, s) _ _ ?_ (Gh.round [0, 1] (by simp) (by simp) rfl ?_ ?_) (by simp only; omega)
        · rw [fold_step (by omega : j < nodes.length), put_no _ _ _ (.inr (.inl (by omega)))] at hf
          exact ⟨by omega, hl, hf⟩
        · simp -implicitDefEqProofs -dsimp [-List.map_set, -List.map_append, -List.map_replicate, fold_int, fold_ints, fold_u8, fold_u8s, obMp, keepG, List.idxOf?_cons, leM, envL, i64w]
        · simp -implicitDefEqProofs -dsimp [-List.map_set, -List.map_append, -List.map_replicate, fold_int, fold_ints, fold_u8, fold_u8s, obMp, keepG, List.idxOf?_cons, leM, envL, i64w]; rw [i64w] <;> omega
      · refine hR1 (j + 1, s) _ _ ?_ (Gh.round [0, 1] (by simp) (by simp) rfl ?_ ?_) (by simp only; omega)
        · rw [fold_step (by omega : j < nodes.length), put_no _ _ _ (.inl (by omega))] at hf
          exact ⟨by omega, hl, hf⟩
        · simp -implicitDefEqProofs -dsimp [-List.map_set, -List.map_append, -List.map_replicate, fold_int, fold_ints, fold_u8, fold_u8s, obMp, keepG, List.idxOf?_cons, leM, envL, i64w]
        · simp -implicitDefEqProofs -dsimp [-List.map_set, -List.map_append, -List.map_replicate, fold_int, fold_ints, fold_u8, fold_u8s, obMp, keepG, List.idxOf?_cons, leM, envL, i64w]; rw [i64w] <;> omega
      · refine hR2 _ _ _ (by simp) ?_
        simp
        refine (hR _ _ ?_).2
        simp [Try.f25]
        have : nodes.drop j = [] := List.drop_eq_nil_of_le (by omega)
        rw [this] at hf
        simp only [List.foldl_nil] at hf
        simp [says, ← hf]
    · repeat' (first
    | refine WpC.seqC lv25 rfl ?_
    | refine WpC.blockC rfl ?_
    | (refine WpC.reg rfl rfl ?_; simp -implicitDefEqProofs -dsimp [-List.map_set, -List.map_append, -List.map_replicate, fold_int, fold_ints, fold_u8, fold_u8s, lv25])
    | (refine WpC.regP rfl (by decide +kernel) fol (by decide +kernel) (by decide +kernel) ?_; simp -implicitDefEqProofs -dsimp [-List.map_set, -List.map_append, -List.map_replicate, fold_int, fold_ints, fold_u8, fold_u8s, lv25])
    | (refine WpC.regI dr25 rfl rfl (by decide +kernel) fol ?_; simp -implicitDefEqProofs -dsimp [dr25, -List.map_set, -List.map_append, -List.map_replicate, fold_int, fold_ints, fold_u8, fold_u8s, lv25])
    | (refine WpC.regM dm25 rfl rfl (by decide +kernel) fol ?_; simp -implicitDefEqProofs -dsimp [dm25, -List.map_set, -List.map_append, -List.map_replicate, fold_int, fold_ints, fold_u8, fold_u8s, lv25])
    | (refine WpC.regQ dq25 rfl rfl (by decide +kernel) fol ?_; simp -implicitDefEqProofs -dsimp [dq25, -List.map_set, -List.map_append, -List.map_replicate, fold_int, fold_ints, fold_u8, fold_u8s, lv25])
    | (refine WpC.skipC rfl ?_; try simp -implicitDefEqProofs -dsimp [-List.map_set, -List.map_append, -List.map_replicate, fold_int, fold_ints, fold_u8, fold_u8s, lv25])
    | (refine WpC.retC rfl ?_; try simp -implicitDefEqProofs -dsimp [-List.map_set, -List.map_append, -List.map_replicate, fold_int, fold_ints, fold_u8, fold_u8s, lv25])
    | (refine WpC.exitC rfl ?_; try simp -implicitDefEqProofs -dsimp [-List.map_set, -List.map_append, -List.map_replicate, fold_int, fold_ints, fold_u8, fold_u8s, lv25])
    | (refine WpC.condK rfl ?_; simp -implicitDefEqProofs -dsimp [-List.map_set, -List.map_append, -List.map_replicate, fold_int, fold_ints, fold_u8, fold_u8s, lv25])
    | with_reducible refine And.intro (fun _ => ?_) (fun _ => ?_)
    | (with_reducible refine And.intro (by omega) ?_))
      · refine hR1 (j + 1, s) _ _ ?_ (Gh.round [0, 1] (by simp) (by simp) rfl ?_ ?_) (by simp only; omega)
        · rw [fold_step (by omega : j < nodes.length), put_no _ _ _ (.inr (.inr (by assumption)))] at hf
          exact ⟨by omega, hl, hf⟩
        · simp -implicitDefEqProofs -dsimp [-List.map_set, -List.map_append, -List.map_replicate, fold_int, fold_ints, fold_u8, fold_u8s, obMp, keepG, List.idxOf?_cons, leM, envL, i64w]
        · simp -implicitDefEqProofs -dsimp [-List.map_set, -List.map_append, -List.map_replicate, fold_int, fold_ints, fold_u8, fold_u8s, obMp, keepG, List.idxOf?_cons, leM, envL, i64w]; rw [i64w] <;> omega
      · refine hR1 (j + 1, s.set (rd nodes j).toNat 2) _ _ ?_ (Gh.round [0, 1] (by simp) (by simp) rfl ?_ ?_) (by simp only; omega)
        · rw [fold_step (by omega : j < nodes.length), put_yes _ _ _ (by omega) (by omega) (by assumption)] at hf
          simp only [List.length_set]
          exact ⟨by omega, hl, hf⟩
        · rename_i h1 h2 h3 h4
          have e0 := cnt_set 0 2 s (rd nodes j).toNat (by omega) h4
          have e1 := cnt_set 1 2 s (rd nodes j).toNat (by omega) h4
          have e2 := cnt_set 2 2 s (rd nodes j).toNat (by omega) h4
          simp at e0 e1 e2
          simp -implicitDefEqProofs -dsimp [-List.map_set, -List.map_append, -List.map_replicate, fold_int, fold_ints, fold_u8, fold_u8s, obMp, keepG, List.idxOf?_cons, leM, envL, i64w, e0, e1, e2]
          rw [i64w, i64w] <;> first | omega | simp
        · simp -implicitDefEqProofs -dsimp [-List.map_set, -List.map_append, -List.map_replicate, fold_int, fold_ints, fold_u8, fold_u8s, obMp, keepG, List.idxOf?_cons, leM, envL, i64w]; rw [i64w] <;> omega
      · refine hR1 (j + 1, s) _ _ ?_ (Gh.round [0, 1] (by simp) (by simp) rfl ?_ ?_) (by simp only; omega)
        · rw [fold_step (by omega : j < nodes.length), put_no _ _ _ (.inr (.inl (by omega)))] at hf
          exact ⟨by omega, hl, hf⟩
        · simp -implicitDefEqProofs -dsimp [-List.map_set, -List.map_append, -List.map_replicate, fold_int, fold_ints, fold_u8, fold_u8s, obMp, keepG, List.idxOf?_cons, leM, envL, i64w]
        · simp -implicitDefEqProofs -dsimp [-List.map_set, -List.map_append, -List.map_replicate, fold_int, fold_ints, fold_u8, fold_u8s, obMp, keepG, List.idxOf?_cons, leM, envL, i64w]; rw [i64w] <;> omega
      · refine hR1 (j + 1, s) _ _ ?_ (Gh.round [0, 1] (by simp) (by simp) rfl ?_ ?_) (by simp only; omega)
        · rw [fold_step (by omega : j < nodes.length), put_no _ _ _ (.inl (by omega))] at hf
          exact ⟨by omega, hl, hf⟩
        · simp -implicitDefEqProofs -dsimp [-List.map_set, -List.map_append, -List.map_replicate, fold_int, fold_ints, fold_u8, fold_u8s, obMp, keepG, List.idxOf?_cons, leM, envL, i64w]
        · simp -implicitDefEqProofs -dsimp [-List.map_set, -List.map_append, -List.map_replicate, fold_int, fold_ints, fold_u8, fold_u8s, obMp, keepG, List.idxOf?_cons, leM, envL, i64w]; rw [i64w] <;> omega
      · refine hR2 _ _ _ (by simp) ?_
        simp
        refine (hR _ _ ?_).2
        simp [Try.f25]
        have : nodes.drop j = [] := List.drop_eq_nil_of_le (by omega)
        rw [this] at hf
        simp only [List.foldl_nil] at hf
        simp [says, ← hf]
end Go.Proofs.Ytpbgiccloeihcaa
