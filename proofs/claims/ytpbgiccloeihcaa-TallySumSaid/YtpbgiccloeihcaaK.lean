import Derived.Test.YtpbgiccloeihcaaGA
open Go Go.Tl
set_option linter.unusedSimpArgs false
set_option linter.unusedVariables false
set_option linter.unnecessarySimpa false
namespace Go.Proofs.Ytpbgiccloeihcaa

theorem WaitingO (said : List Int) (need : Int) (h8 : said.length ≤ 8) :
    Con Try.prog 21 [tre said need] [] fun m T' => m = .sr 0 0 (whr 0 said).length 1 ∧ T' = [.cells true ((whr 0 said).map int)] := by
  refine Con.by Try.func21 en21 rfl (by simp [Try.ntmps21]) fun R hR hF hU => ?_; rw [Try.ntmps21]
  repeat' (first
    | refine WpC.seqC lv21 rfl ?_
    | refine WpC.blockC rfl ?_
    | (refine WpC.reg rfl rfl ?_; simp -implicitDefEqProofs -dsimp [-List.map_set, -List.map_append, -List.map_replicate, fold_int, fold_ints, fold_u8, fold_u8s, lv21])
    | (refine WpC.regP rfl (by decide +kernel) fol (by decide +kernel) (by decide +kernel) ?_; simp -implicitDefEqProofs -dsimp [-List.map_set, -List.map_append, -List.map_replicate, fold_int, fold_ints, fold_u8, fold_u8s, lv21])
    | (refine WpC.regI dr21 rfl rfl (by decide +kernel) fol ?_; simp -implicitDefEqProofs -dsimp [dr21, -List.map_set, -List.map_append, -List.map_replicate, fold_int, fold_ints, fold_u8, fold_u8s, lv21])
    | (refine WpC.regM dm21 rfl rfl (by decide +kernel) fol ?_; simp -implicitDefEqProofs -dsimp [dm21, -List.map_set, -List.map_append, -List.map_replicate, fold_int, fold_ints, fold_u8, fold_u8s, lv21])
    | (refine WpC.regQ dq21 rfl rfl (by decide +kernel) fol ?_; simp -implicitDefEqProofs -dsimp [dq21, -List.map_set, -List.map_append, -List.map_replicate, fold_int, fold_ints, fold_u8, fold_u8s, lv21])
    | (refine WpC.skipC rfl ?_; try simp -implicitDefEqProofs -dsimp [-List.map_set, -List.map_append, -List.map_replicate, fold_int, fold_ints, fold_u8, fold_u8s, lv21])
    | (refine WpC.retC rfl ?_; try simp -implicitDefEqProofs -dsimp [-List.map_set, -List.map_append, -List.map_replicate, fold_int, fold_ints, fold_u8, fold_u8s, lv21])
    | (refine WpC.exitC rfl ?_; try simp -implicitDefEqProofs -dsimp [-List.map_set, -List.map_append, -List.map_replicate, fold_int, fold_ints, fold_u8, fold_u8s, lv21])
    | (refine WpC.condK rfl ?_; simp -implicitDefEqProofs -dsimp [-List.map_set, -List.map_append, -List.map_replicate, fold_int, fold_ints, fold_u8, fold_u8s, lv21])
    | with_reducible refine And.intro (fun _ => ?_) (fun _ => ?_)
    | (with_reducible refine And.intro (by omega) ?_))
  refine WpC.loopC rfl (fun j => j ≤ said.length)
    (fun j => ([(3, .sr 0 0 (whrTo 0 said j).length 1), (9, .sl false (said.map int) said.length), (10, int said.length), (11, int j)], [.cells true ((whrTo 0 said j).map int)])) (fun j => said.length - j) 0 (by simp) ?_ ?_
  · exact Gh.begin 3 1 rfl (by simp [whrTo]) (by simp -implicitDefEqProofs -dsimp [-List.map_set, -List.map_append, -List.map_replicate, fold_int, fold_ints, fold_u8, fold_u8s, obMp, keepG, List.idxOf?_cons, leM, envL, i64w, whrTo])
  · intro j hj R' hR1 hR2
    have hw := whrTo_le 0 said j
    simp only at hj hR1 ⊢
    repeat' (first
    | refine WpC.seqC lv21 rfl ?_
    | refine WpC.blockC rfl ?_
    | (refine WpC.reg rfl rfl ?_; simp -implicitDefEqProofs -dsimp [-List.map_set, -List.map_append, -List.map_replicate, fold_int, fold_ints, fold_u8, fold_u8s, lv21])
    | (refine WpC.regP rfl (by decide +kernel) fol (by decide +kernel) (by decide +kernel) ?_; simp -implicitDefEqProofs -dsimp [-List.map_set, -List.map_append, -List.map_replicate, fold_int, fold_ints, fold_u8, fold_u8s, lv21])
    | (refine WpC.regI dr21 rfl rfl (by decide +kernel) fol ?_; simp -implicitDefEqProofs -dsimp [dr21, -List.map_set, -List.map_append, -List.map_replicate, fold_int, fold_ints, fold_u8, fold_u8s, lv21])
    | (refine WpC.regM dm21 rfl rfl (by decide +kernel) fol ?_; simp -implicitDefEqProofs -dsimp [dm21, -List.map_set, -List.map_append, -List.map_replicate, fold_int, fold_ints, fold_u8, fold_u8s, lv21])
    | (refine WpC.regQ dq21 rfl rfl (by decide +kernel) fol ?_; simp -implicitDefEqProofs -dsimp [dq21, -List.map_set, -List.map_append, -List.map_replicate, fold_int, fold_ints, fold_u8, fold_u8s, lv21])
    | (refine WpC.skipC rfl ?_; try simp -implicitDefEqProofs -dsimp [-List.map_set, -List.map_append, -List.map_replicate, fold_int, fold_ints, fold_u8, fold_u8s, lv21])
    | (refine WpC.retC rfl ?_; try simp -implicitDefEqProofs -dsimp [-List.map_set, -List.map_append, -List.map_replicate, fold_int, fold_ints, fold_u8, fold_u8s, lv21])
    | (refine WpC.exitC rfl ?_; try simp -implicitDefEqProofs -dsimp [-List.map_set, -List.map_append, -List.map_replicate, fold_int, fold_ints, fold_u8, fold_u8s, lv21])
    | (refine WpC.condK rfl ?_; simp -implicitDefEqProofs -dsimp [-List.map_set, -List.map_append, -List.map_replicate, fold_int, fold_ints, fold_u8, fold_u8s, lv21])
    | with_reducible refine And.intro (fun _ => ?_) (fun _ => ?_)
    | (with_reducible refine And.intro (by omega) ?_))
    · refine hR1 (j + 1) _ _ (by omega) (Gh.round [2] (by simp) (by simp) rfl (by simp -implicitDefEqProofs -dsimp [-List.map_set, -List.map_append, -List.map_replicate, fold_int, fold_ints, fold_u8, fold_u8s, obMp, keepG, List.idxOf?_cons, leM, envL, i64w, whrTo_succ, *] <;> (try simp (disch := omega) only [i64w])) (by simp -implicitDefEqProofs -dsimp [-List.map_set, -List.map_append, -List.map_replicate, fold_int, fold_ints, fold_u8, fold_u8s, obMp, keepG, List.idxOf?_cons, leM, envL, i64w, whrTo_succ, *] <;> (try simp (disch := omega) only [i64w]))) (by omega)
    · refine hR1 (j + 1) _ _ (by omega) (Gh.round [0] (by simp) (by simp) rfl (by simp -implicitDefEqProofs -dsimp [-List.map_set, -List.map_append, -List.map_replicate, fold_int, fold_ints, fold_u8, fold_u8s, obMp, keepG, List.idxOf?_cons, leM, envL, i64w, whrTo_succ, *] <;> (try simp (disch := omega) only [i64w])) (by simp -implicitDefEqProofs -dsimp [-List.map_set, -List.map_append, -List.map_replicate, fold_int, fold_ints, fold_u8, fold_u8s, obMp, keepG, List.idxOf?_cons, leM, envL, i64w, whrTo_succ, *] <;> (try simp (disch := omega) only [i64w]))) (by omega)
    · refine hR2 _ _ _ (by simp) ?_
      simp
      repeat' (first
    | refine WpC.seqC lv21 rfl ?_
    | refine WpC.blockC rfl ?_
    | (refine WpC.reg rfl rfl ?_; simp -implicitDefEqProofs -dsimp [-List.map_set, -List.map_append, -List.map_replicate, fold_int, fold_ints, fold_u8, fold_u8s, lv21])
    | (refine WpC.regP rfl (by decide +kernel) fol (by decide +kernel) (by decide +kernel) ?_; simp -implicitDefEqProofs -dsimp [-List.map_set, -List.map_append, -List.map_replicate, fold_int, fold_ints, fold_u8, fold_u8s, lv21])
    | (refine WpC.regI dr21 rfl rfl (by decide +kernel) fol ?_; simp -implicitDefEqProofs -dsimp [dr21, -List.map_set, -List.map_append, -List.map_replicate, fold_int, fold_ints, fold_u8, fold_u8s, lv21])
    | (refine WpC.regM dm21 rfl rfl (by decide +kernel) fol ?_; simp -implicitDefEqProofs -dsimp [dm21, -List.map_set, -List.map_append, -List.map_replicate, fold_int, fold_ints, fold_u8, fold_u8s, lv21])
    | (refine WpC.regQ dq21 rfl rfl (by decide +kernel) fol ?_; simp -implicitDefEqProofs -dsimp [dq21, -List.map_set, -List.map_append, -List.map_replicate, fold_int, fold_ints, fold_u8, fold_u8s, lv21])
    | (refine WpC.skipC rfl ?_; try simp -implicitDefEqProofs -dsimp [-List.map_set, -List.map_append, -List.map_replicate, fold_int, fold_ints, fold_u8, fold_u8s, lv21])
    | (refine WpC.retC rfl ?_; try simp -implicitDefEqProofs -dsimp [-List.map_set, -List.map_append, -List.map_replicate, fold_int, fold_ints, fold_u8, fold_u8s, lv21])
    | (refine WpC.exitC rfl ?_; try simp -implicitDefEqProofs -dsimp [-List.map_set, -List.map_append, -List.map_replicate, fold_int, fold_ints, fold_u8, fold_u8s, lv21])
    | (refine WpC.condK rfl ?_; simp -implicitDefEqProofs -dsimp [-List.map_set, -List.map_append, -List.map_replicate, fold_int, fold_ints, fold_u8, fold_u8s, lv21])
    | with_reducible refine And.intro (fun _ => ?_) (fun _ => ?_)
    | (with_reducible refine And.intro (by omega) ?_))
      refine (hR _ _ ?_).1; simp -implicitDefEqProofs -dsimp [-List.map_set, -List.map_append, -List.map_replicate, fold_int, fold_ints, fold_u8, fold_u8s, Try.f21, envL]
      have : j = said.length := by omega
      subst this
      exact ⟨rfl, rfl⟩

/-- The places of those that are waited for are places, one greater than the other. -/
theorem whrTo_mem (k : Int) (said : List Int) (j : Nat) : ∀ x ∈ whrTo k said j, 0 ≤ x ∧ x < j := by
  intro x hx
  unfold whrTo at hx
  rw [List.mem_filterMap] at hx
  obtain ⟨a, h1, h2⟩ := hx
  have := List.mem_range.1 h1
  split at h2
  · cases h2; omega
  · cases h2
theorem whrTo_sorted (k : Int) (said : List Int) (j : Nat) : (whrTo k said j).Pairwise (· < ·) := by
  induction j with
  | zero => simp [whrTo]
  | succ j ih =>
    rw [whrTo_succ]
    split
    · rw [List.pairwise_append]
      refine ⟨ih, by simp, fun a ha b hb => ?_⟩
      have := whrTo_mem k said j a ha
      simp at hb
      omega
    · exact ih
theorem whr_at (said : List Int) (j : Nat) (h : j < (whr 0 said).length) : 0 ≤ rd (whr 0 said) j ∧ rd (whr 0 said) j < said.length ∧ (0 < j → rd (whr 0 said) (j - 1) < rd (whr 0 said) j) := by
  have h1 := whrTo_mem 0 said said.length (rd (whr 0 said) j) (by rw [rd_lt h]; exact List.getElem_mem h)
  refine ⟨h1.1, h1.2, fun h0 => ?_⟩
  have := List.pairwise_iff_getElem.1 (whrTo_sorted 0 said said.length) (j - 1) j (by show j - 1 < (whr 0 said).length; omega) h (by omega)
  rw [rd_lt h, rd_lt (by omega)]
  exact this
theorem cnt_all (nodes : Int) (s : List Int) : True := trivial

set_option maxRecDepth 100000 in
set_option maxHeartbeats 4000000 in
theorem lawSum (nodes need : Int) (list : List (Bool × List Int)) : Con Try.prog 7 [int nodes, int need, .sl false (list.flatMap sy) list.length] [] fun m _ => m = .v (.bool true) := by
  have h8 := many_le nodes
  have hn0 := none0_length nodes
  have hc0 : cnt 0 (none0 nodes) + cnt 1 (none0 nodes) + cnt 2 (none0 nodes) = many nodes := by simp [cnt_none]
  refine Con.by Try.func7 en7 rfl (by simp [Try.ntmps7]) fun R hR hF hU => ?_; rw [Try.ntmps7]
  repeat' (first
    | refine WpC.seqC lv7 rfl ?_
    | refine WpC.blockC rfl ?_
    | (refine WpC.reg rfl rfl ?_; simp -implicitDefEqProofs -dsimp [-List.map_set, -List.map_append, -List.map_replicate, fold_int, fold_ints, fold_u8, fold_u8s, lv7])
    | (refine WpC.regP rfl (by decide +kernel) fol (by decide +kernel) (by decide +kernel) ?_; simp -implicitDefEqProofs -dsimp [-List.map_set, -List.map_append, -List.map_replicate, fold_int, fold_ints, fold_u8, fold_u8s, lv7])
    | (refine WpC.regI dr7 rfl rfl (by decide +kernel) fol ?_; simp -implicitDefEqProofs -dsimp [dr7, -List.map_set, -List.map_append, -List.map_replicate, fold_int, fold_ints, fold_u8, fold_u8s, lv7])
    | (refine WpC.regM dm7 rfl rfl (by decide +kernel) fol ?_; simp -implicitDefEqProofs -dsimp [dm7, -List.map_set, -List.map_append, -List.map_replicate, fold_int, fold_ints, fold_u8, fold_u8s, lv7])
    | (refine WpC.regQ dq7 rfl rfl (by decide +kernel) fol ?_; simp -implicitDefEqProofs -dsimp [dq7, -List.map_set, -List.map_append, -List.map_replicate, fold_int, fold_ints, fold_u8, fold_u8s, lv7])
    | (refine WpC.skipC rfl ?_; try simp -implicitDefEqProofs -dsimp [-List.map_set, -List.map_append, -List.map_replicate, fold_int, fold_ints, fold_u8, fold_u8s, lv7])
    | (refine WpC.retC rfl ?_; try simp -implicitDefEqProofs -dsimp [-List.map_set, -List.map_append, -List.map_replicate, fold_int, fold_ints, fold_u8, fold_u8s, lv7])
    | (refine WpC.exitC rfl ?_; try simp -implicitDefEqProofs -dsimp [-List.map_set, -List.map_append, -List.map_replicate, fold_int, fold_ints, fold_u8, fold_u8s, lv7])
    | (refine WpC.condK rfl ?_; simp -implicitDefEqProofs -dsimp [-List.map_set, -List.map_append, -List.map_replicate, fold_int, fold_ints, fold_u8, fold_u8s, lv7])
    | with_reducible refine And.intro (fun _ => ?_) (fun _ => ?_)
    | (with_reducible refine And.intro (by omega) ?_))
  refine CallX.by4 (alive) false [] 6 (by simp) (by simp) (by simp) (by simp -implicitDefEqProofs [-List.map_set, -List.map_append, -List.map_replicate, fold_int, fold_ints, fold_u8, fold_u8s, rs, rsOb, List.idxOf?_cons]) (by simp -implicitDefEqProofs [-List.map_set, -List.map_append, -List.map_replicate, fold_int, fold_ints, fold_u8, fold_u8s, rs, rsOb, List.idxOf?_cons]) ?_; rintro m T' ⟨rfl, rfl⟩ -; simp -implicitDefEqProofs -dsimp [-List.map_set, -List.map_append, -List.map_replicate, fold_int, fold_ints, fold_u8, fold_u8s, frOb, obMp, setAll, setOb, gMap, lv7]
  repeat' (first
    | refine WpC.seqC lv7 rfl ?_
    | refine WpC.blockC rfl ?_
    | (refine WpC.reg rfl rfl ?_; simp -implicitDefEqProofs -dsimp [-List.map_set, -List.map_append, -List.map_replicate, fold_int, fold_ints, fold_u8, fold_u8s, lv7])
    | (refine WpC.regP rfl (by decide +kernel) fol (by decide +kernel) (by decide +kernel) ?_; simp -implicitDefEqProofs -dsimp [-List.map_set, -List.map_append, -List.map_replicate, fold_int, fold_ints, fold_u8, fold_u8s, lv7])
    | (refine WpC.regI dr7 rfl rfl (by decide +kernel) fol ?_; simp -implicitDefEqProofs -dsimp [dr7, -List.map_set, -List.map_append, -List.map_replicate, fold_int, fold_ints, fold_u8, fold_u8s, lv7])
    | (refine WpC.regM dm7 rfl rfl (by decide +kernel) fol ?_; simp -implicitDefEqProofs -dsimp [dm7, -List.map_set, -List.map_append, -List.map_replicate, fold_int, fold_ints, fold_u8, fold_u8s, lv7])
    | (refine WpC.regQ dq7 rfl rfl (by decide +kernel) fol ?_; simp -implicitDefEqProofs -dsimp [dq7, -List.map_set, -List.map_append, -List.map_replicate, fold_int, fold_ints, fold_u8, fold_u8s, lv7])
    | (refine WpC.skipC rfl ?_; try simp -implicitDefEqProofs -dsimp [-List.map_set, -List.map_append, -List.map_replicate, fold_int, fold_ints, fold_u8, fold_u8s, lv7])
    | (refine WpC.retC rfl ?_; try simp -implicitDefEqProofs -dsimp [-List.map_set, -List.map_append, -List.map_replicate, fold_int, fold_ints, fold_u8, fold_u8s, lv7])
    | (refine WpC.exitC rfl ?_; try simp -implicitDefEqProofs -dsimp [-List.map_set, -List.map_append, -List.map_replicate, fold_int, fold_ints, fold_u8, fold_u8s, lv7])
    | (refine WpC.condK rfl ?_; simp -implicitDefEqProofs -dsimp [-List.map_set, -List.map_append, -List.map_replicate, fold_int, fold_ints, fold_u8, fold_u8s, lv7])
    | with_reducible refine And.intro (fun _ => ?_) (fun _ => ?_)
    | (with_reducible refine And.intro (by omega) ?_))
  refine CallX.by4 (New nodes need) false [] 6 (by simp) (by simp) (by simp) (by simp -implicitDefEqProofs [-List.map_set, -List.map_append, -List.map_replicate, fold_int, fold_ints, fold_u8, fold_u8s, rs, rsOb, List.idxOf?_cons]) (by simp -implicitDefEqProofs [-List.map_set, -List.map_append, -List.map_replicate, fold_int, fold_ints, fold_u8, fold_u8s, rs, rsOb, List.idxOf?_cons]) ?_; rintro m T' ⟨rfl, rfl⟩ -; simp -implicitDefEqProofs -dsimp [-List.map_set, -List.map_append, -List.map_replicate, fold_int, fold_ints, fold_u8, fold_u8s, frOb, obMp, setAll, setOb, gMap, lv7]
  repeat' (first
    | refine WpC.seqC lv7 rfl ?_
    | refine WpC.blockC rfl ?_
    | (refine WpC.reg rfl rfl ?_; simp -implicitDefEqProofs -dsimp [-List.map_set, -List.map_append, -List.map_replicate, fold_int, fold_ints, fold_u8, fold_u8s, lv7])
    | (refine WpC.regP rfl (by decide +kernel) fol (by decide +kernel) (by decide +kernel) ?_; simp -implicitDefEqProofs -dsimp [-List.map_set, -List.map_append, -List.map_replicate, fold_int, fold_ints, fold_u8, fold_u8s, lv7])
    | (refine WpC.regI dr7 rfl rfl (by decide +kernel) fol ?_; simp -implicitDefEqProofs -dsimp [dr7, -List.map_set, -List.map_append, -List.map_replicate, fold_int, fold_ints, fold_u8, fold_u8s, lv7])
    | (refine WpC.regM dm7 rfl rfl (by decide +kernel) fol ?_; simp -implicitDefEqProofs -dsimp [dm7, -List.map_set, -List.map_append, -List.map_replicate, fold_int, fold_ints, fold_u8, fold_u8s, lv7])
    | (refine WpC.regQ dq7 rfl rfl (by decide +kernel) fol ?_; simp -implicitDefEqProofs -dsimp [dq7, -List.map_set, -List.map_append, -List.map_replicate, fold_int, fold_ints, fold_u8, fold_u8s, lv7])
    | (refine WpC.skipC rfl ?_; try simp -implicitDefEqProofs -dsimp [-List.map_set, -List.map_append, -List.map_replicate, fold_int, fold_ints, fold_u8, fold_u8s, lv7])
    | (refine WpC.retC rfl ?_; try simp -implicitDefEqProofs -dsimp [-List.map_set, -List.map_append, -List.map_replicate, fold_int, fold_ints, fold_u8, fold_u8s, lv7])
    | (refine WpC.exitC rfl ?_; try simp -implicitDefEqProofs -dsimp [-List.map_set, -List.map_append, -List.map_replicate, fold_int, fold_ints, fold_u8, fold_u8s, lv7])
    | (refine WpC.condK rfl ?_; simp -implicitDefEqProofs -dsimp [-List.map_set, -List.map_append, -List.map_replicate, fold_int, fold_ints, fold_u8, fold_u8s, lv7])
    | with_reducible refine And.intro (fun _ => ?_) (fun _ => ?_)
    | (with_reducible refine And.intro (by omega) ?_))
  refine CallX.by4 (lcut list) true [] 6 (by simp) (by simp) (by simp) (by simp -implicitDefEqProofs [-List.map_set, -List.map_append, -List.map_replicate, fold_int, fold_ints, fold_u8, fold_u8s, rs, rsOb, List.idxOf?_cons]) (by simp -implicitDefEqProofs [-List.map_set, -List.map_append, -List.map_replicate, fold_int, fold_ints, fold_u8, fold_u8s, rs, rsOb, List.idxOf?_cons]) ?_; rintro m T' ⟨rfl, rfl⟩ -; simp -implicitDefEqProofs -dsimp [-List.map_set, -List.map_append, -List.map_replicate, fold_int, fold_ints, fold_u8, fold_u8s, frOb, obMp, setAll, setOb, gMap, lv7]
  have hl50 := cut50_length list
  generalize cut50 list = l at hl50 ⊢
  repeat' (first
    | refine WpC.seqC lv7 rfl ?_
    | refine WpC.blockC rfl ?_
    | (refine WpC.reg rfl rfl ?_; simp -implicitDefEqProofs -dsimp [-List.map_set, -List.map_append, -List.map_replicate, fold_int, fold_ints, fold_u8, fold_u8s, lv7])
    | (refine WpC.regP rfl (by decide +kernel) fol (by decide +kernel) (by decide +kernel) ?_; simp -implicitDefEqProofs -dsimp [-List.map_set, -List.map_append, -List.map_replicate, fold_int, fold_ints, fold_u8, fold_u8s, lv7])
    | (refine WpC.regI dr7 rfl rfl (by decide +kernel) fol ?_; simp -implicitDefEqProofs -dsimp [dr7, -List.map_set, -List.map_append, -List.map_replicate, fold_int, fold_ints, fold_u8, fold_u8s, lv7])
    | (refine WpC.regM dm7 rfl rfl (by decide +kernel) fol ?_; simp -implicitDefEqProofs -dsimp [dm7, -List.map_set, -List.map_append, -List.map_replicate, fold_int, fold_ints, fold_u8, fold_u8s, lv7])
    | (refine WpC.regQ dq7 rfl rfl (by decide +kernel) fol ?_; simp -implicitDefEqProofs -dsimp [dq7, -List.map_set, -List.map_append, -List.map_replicate, fold_int, fold_ints, fold_u8, fold_u8s, lv7])
    | (refine WpC.skipC rfl ?_; try simp -implicitDefEqProofs -dsimp [-List.map_set, -List.map_append, -List.map_replicate, fold_int, fold_ints, fold_u8, fold_u8s, lv7])
    | (refine WpC.retC rfl ?_; try simp -implicitDefEqProofs -dsimp [-List.map_set, -List.map_append, -List.map_replicate, fold_int, fold_ints, fold_u8, fold_u8s, lv7])
    | (refine WpC.exitC rfl ?_; try simp -implicitDefEqProofs -dsimp [-List.map_set, -List.map_append, -List.map_replicate, fold_int, fold_ints, fold_u8, fold_u8s, lv7])
    | (refine WpC.condK rfl ?_; simp -implicitDefEqProofs -dsimp [-List.map_set, -List.map_append, -List.map_replicate, fold_int, fold_ints, fold_u8, fold_u8s, lv7])
    | with_reducible refine And.intro (fun _ => ?_) (fun _ => ?_)
    | (with_reducible refine And.intro (by omega) ?_))
  refine WpC.loopC rfl (fun s => s.1 ≤ l.length ∧ s.2.length = many nodes ∧ cnt 0 s.2 + cnt 1 s.2 + cnt 2 s.2 = many nodes) (fun s => ([(0, int nodes), (2, .sl false (l.flatMap sy) l.length), (7, .ref 1 0), (8, int s.1)],
    [.cells true (s.2.map int), obj true 0 s.2 need])) (fun s => l.length - s.1) (0, none0 nodes) ⟨by simp, by simp only; omega, hc0⟩ ?_ ?_
  · refine Gh.envL ?_
    simp -implicitDefEqProofs -dsimp [-List.map_set, -List.map_append, -List.map_replicate, fold_int, fold_ints, fold_u8, fold_u8s, obMp, keepG, List.idxOf?_cons, leM, envL, i64w]
  · rintro ⟨i, s⟩ ⟨hi, hs, hcs⟩ R' hR1 hR2
    simp only at hi hs hcs hR1 ⊢
    repeat' (first
    | refine WpC.seqC lv7 rfl ?_
    | refine WpC.blockC rfl ?_
    | (refine WpC.reg rfl rfl ?_; simp -implicitDefEqProofs -dsimp [-List.map_set, -List.map_append, -List.map_replicate, fold_int, fold_ints, fold_u8, fold_u8s, lv7])
    | (refine WpC.regP rfl (by decide +kernel) fol (by decide +kernel) (by decide +kernel) ?_; simp -implicitDefEqProofs -dsimp [-List.map_set, -List.map_append, -List.map_replicate, fold_int, fold_ints, fold_u8, fold_u8s, lv7])
    | (refine WpC.regI dr7 rfl rfl (by decide +kernel) fol ?_; simp -implicitDefEqProofs -dsimp [dr7, -List.map_set, -List.map_append, -List.map_replicate, fold_int, fold_ints, fold_u8, fold_u8s, lv7])
    | (refine WpC.regM dm7 rfl rfl (by decide +kernel) fol ?_; simp -implicitDefEqProofs -dsimp [dm7, -List.map_set, -List.map_append, -List.map_replicate, fold_int, fold_ints, fold_u8, fold_u8s, lv7])
    | (refine WpC.regQ dq7 rfl rfl (by decide +kernel) fol ?_; simp -implicitDefEqProofs -dsimp [dq7, -List.map_set, -List.map_append, -List.map_replicate, fold_int, fold_ints, fold_u8, fold_u8s, lv7])
    | (refine WpC.skipC rfl ?_; try simp -implicitDefEqProofs -dsimp [-List.map_set, -List.map_append, -List.map_replicate, fold_int, fold_ints, fold_u8, fold_u8s, lv7])
    | (refine WpC.retC rfl ?_; try simp -implicitDefEqProofs -dsimp [-List.map_set, -List.map_append, -List.map_replicate, fold_int, fold_ints, fold_u8, fold_u8s, lv7])
    | (refine WpC.exitC rfl ?_; try simp -implicitDefEqProofs -dsimp [-List.map_set, -List.map_append, -List.map_replicate, fold_int, fold_ints, fold_u8, fold_u8s, lv7])
    | (refine WpC.condK rfl ?_; simp -implicitDefEqProofs -dsimp [-List.map_set, -List.map_append, -List.map_replicate, fold_int, fold_ints, fold_u8, fold_u8s, lv7])
    | with_reducible refine And.intro (fun _ => ?_) (fun _ => ?_)
    | (with_reducible refine And.intro (by omega) ?_))
    · refine hR2 _ _ _ (by simp) ?_
      simp -implicitDefEqProofs -dsimp [-List.map_set, -List.map_append, -List.map_replicate, fold_int, fold_ints, fold_u8, fold_u8s, lv7]
      refine (hR _ _ ?_).1; simp -implicitDefEqProofs -dsimp [-List.map_set, -List.map_append, -List.map_replicate, fold_int, fold_ints, fold_u8, fold_u8s, Try.f7, envL]
    · refine CallX.by4 (lsay (rd l i) s need (by omega) (by omega)) false [1, 0] 6 (by simp) (by simp) (by simp) (by simp -implicitDefEqProofs [-List.map_set, -List.map_append, -List.map_replicate, fold_int, fold_ints, fold_u8, fold_u8s, rs, rsOb, List.idxOf?_cons]) (by simp -implicitDefEqProofs [-List.map_set, -List.map_append, -List.map_replicate, fold_int, fold_ints, fold_u8, fold_u8s, rs, rsOb, List.idxOf?_cons]) ?_; rintro m T' ⟨rfl, rfl⟩ -; simp -implicitDefEqProofs -dsimp [-List.map_set, -List.map_append, -List.map_replicate, fold_int, fold_ints, fold_u8, fold_u8s, frOb, obMp, setAll, setOb, gMap, lv7]
      have hs2 := says_length (wh (rd l i).1) (rd l i).2 s
      have hc := says_cnt (wh (rd l i).1) (wh_or _) (rd l i).2 s
      generalize says (wh (rd l i).1) (rd l i).2 s = u at hs2 hc ⊢
      repeat' (first
    | refine WpC.seqC lv7 rfl ?_
    | refine WpC.blockC rfl ?_
    | (refine WpC.reg rfl rfl ?_; simp -implicitDefEqProofs -dsimp [-List.map_set, -List.map_append, -List.map_replicate, fold_int, fold_ints, fold_u8, fold_u8s, lv7])
    | (refine WpC.regP rfl (by decide +kernel) fol (by decide +kernel) (by decide +kernel) ?_; simp -implicitDefEqProofs -dsimp [-List.map_set, -List.map_append, -List.map_replicate, fold_int, fold_ints, fold_u8, fold_u8s, lv7])
    | (refine WpC.regI dr7 rfl rfl (by decide +kernel) fol ?_; simp -implicitDefEqProofs -dsimp [dr7, -List.map_set, -List.map_append, -List.map_replicate, fold_int, fold_ints, fold_u8, fold_u8s, lv7])
    | (refine WpC.regM dm7 rfl rfl (by decide +kernel) fol ?_; simp -implicitDefEqProofs -dsimp [dm7, -List.map_set, -List.map_append, -List.map_replicate, fold_int, fold_ints, fold_u8, fold_u8s, lv7])
    | (refine WpC.regQ dq7 rfl rfl (by decide +kernel) fol ?_; simp -implicitDefEqProofs -dsimp [dq7, -List.map_set, -List.map_append, -List.map_replicate, fold_int, fold_ints, fold_u8, fold_u8s, lv7])
    | (refine WpC.skipC rfl ?_; try simp -implicitDefEqProofs -dsimp [-List.map_set, -List.map_append, -List.map_replicate, fold_int, fold_ints, fold_u8, fold_u8s, lv7])
    | (refine WpC.retC rfl ?_; try simp -implicitDefEqProofs -dsimp [-List.map_set, -List.map_append, -List.map_replicate, fold_int, fold_ints, fold_u8, fold_u8s, lv7])
    | (refine WpC.exitC rfl ?_; try simp -implicitDefEqProofs -dsimp [-List.map_set, -List.map_append, -List.map_replicate, fold_int, fold_ints, fold_u8, fold_u8s, lv7])
    | (refine WpC.condK rfl ?_; simp -implicitDefEqProofs -dsimp [-List.map_set, -List.map_append, -List.map_replicate, fold_int, fold_ints, fold_u8, fold_u8s, lv7])
    | with_reducible refine And.intro (fun _ => ?_) (fun _ => ?_)
    | (with_reducible refine And.intro (by omega) ?_))
      refine hR1 (i + 1, u) _ _ ⟨by simp only; omega, by simp only; omega, by simp only; omega⟩ (Gh.round [0, 1] (by simp) (by simp) rfl (by simp -implicitDefEqProofs -dsimp [-List.map_set, -List.map_append, -List.map_replicate, fold_int, fold_ints, fold_u8, fold_u8s, obMp, keepG, List.idxOf?_cons, leM, envL, i64w] <;> (try simp (disch := omega) only [i64w])) (by simp -implicitDefEqProofs -dsimp [-List.map_set, -List.map_append, -List.map_replicate, fold_int, fold_ints, fold_u8, fold_u8s, obMp, keepG, List.idxOf?_cons, leM, envL, i64w] <;> (try simp (disch := omega) only [i64w]))) (by simp only; omega)
    · refine hR2 _ _ _ (by simp) ?_
      simp -implicitDefEqProofs -dsimp [-List.map_set, -List.map_append, -List.map_replicate, fold_int, fold_ints, fold_u8, fold_u8s, lv7]
      have hs8 : s.length ≤ 8 := by omega
      have tail : ∀ a : Int, a = many nodes → WpC Try.prog 126 0 (cd Try.f7 [1, 1, 1, 1, 1, 1, 1, 1, 1]) R (envL [(7, .ref 1 0), (9, int a)]) [.cells true (s.map int), obj true 0 s need] := by
        rintro a rfl
        repeat' (first
    | refine WpC.seqC lv7 rfl ?_
    | refine WpC.blockC rfl ?_
    | (refine WpC.reg rfl rfl ?_; simp -implicitDefEqProofs -dsimp [-List.map_set, -List.map_append, -List.map_replicate, fold_int, fold_ints, fold_u8, fold_u8s, lv7])
    | (refine WpC.regP rfl (by decide +kernel) fol (by decide +kernel) (by decide +kernel) ?_; simp -implicitDefEqProofs -dsimp [-List.map_set, -List.map_append, -List.map_replicate, fold_int, fold_ints, fold_u8, fold_u8s, lv7])
    | (refine WpC.regI dr7 rfl rfl (by decide +kernel) fol ?_; simp -implicitDefEqProofs -dsimp [dr7, -List.map_set, -List.map_append, -List.map_replicate, fold_int, fold_ints, fold_u8, fold_u8s, lv7])
    | (refine WpC.regM dm7 rfl rfl (by decide +kernel) fol ?_; simp -implicitDefEqProofs -dsimp [dm7, -List.map_set, -List.map_append, -List.map_replicate, fold_int, fold_ints, fold_u8, fold_u8s, lv7])
    | (refine WpC.regQ dq7 rfl rfl (by decide +kernel) fol ?_; simp -implicitDefEqProofs -dsimp [dq7, -List.map_set, -List.map_append, -List.map_replicate, fold_int, fold_ints, fold_u8, fold_u8s, lv7])
    | (refine WpC.skipC rfl ?_; try simp -implicitDefEqProofs -dsimp [-List.map_set, -List.map_append, -List.map_replicate, fold_int, fold_ints, fold_u8, fold_u8s, lv7])
    | (refine WpC.retC rfl ?_; try simp -implicitDefEqProofs -dsimp [-List.map_set, -List.map_append, -List.map_replicate, fold_int, fold_ints, fold_u8, fold_u8s, lv7])
    | (refine WpC.exitC rfl ?_; try simp -implicitDefEqProofs -dsimp [-List.map_set, -List.map_append, -List.map_replicate, fold_int, fold_ints, fold_u8, fold_u8s, lv7])
    | (refine WpC.condK rfl ?_; simp -implicitDefEqProofs -dsimp [-List.map_set, -List.map_append, -List.map_replicate, fold_int, fold_ints, fold_u8, fold_u8s, lv7])
    | with_reducible refine And.intro (fun _ => ?_) (fun _ => ?_)
    | (with_reducible refine And.intro (by omega) ?_))
        refine CallX.by4 (Count s need) false [] 6 (by simp) (by simp) (by simp) (by simp -implicitDefEqProofs [-List.map_set, -List.map_append, -List.map_replicate, fold_int, fold_ints, fold_u8, fold_u8s, rs, rsOb, List.idxOf?_cons]) (by simp -implicitDefEqProofs [-List.map_set, -List.map_append, -List.map_replicate, fold_int, fold_ints, fold_u8, fold_u8s, rs, rsOb, List.idxOf?_cons]) ?_; rintro m T' ⟨rfl, rfl⟩ -; simp -implicitDefEqProofs -dsimp [-List.map_set, -List.map_append, -List.map_replicate, fold_int, fold_ints, fold_u8, fold_u8s, frOb, obMp, setAll, setOb, gMap, lv7]
        repeat' (first
    | refine WpC.seqC lv7 rfl ?_
    | refine WpC.blockC rfl ?_
    | (refine WpC.reg rfl rfl ?_; simp -implicitDefEqProofs -dsimp [-List.map_set, -List.map_append, -List.map_replicate, fold_int, fold_ints, fold_u8, fold_u8s, lv7])
    | (refine WpC.regP rfl (by decide +kernel) fol (by decide +kernel) (by decide +kernel) ?_; simp -implicitDefEqProofs -dsimp [-List.map_set, -List.map_append, -List.map_replicate, fold_int, fold_ints, fold_u8, fold_u8s, lv7])
    | (refine WpC.regI dr7 rfl rfl (by decide +kernel) fol ?_; simp -implicitDefEqProofs -dsimp [dr7, -List.map_set, -List.map_append, -List.map_replicate, fold_int, fold_ints, fold_u8, fold_u8s, lv7])
    | (refine WpC.regM dm7 rfl rfl (by decide +kernel) fol ?_; simp -implicitDefEqProofs -dsimp [dm7, -List.map_set, -List.map_append, -List.map_replicate, fold_int, fold_ints, fold_u8, fold_u8s, lv7])
    | (refine WpC.regQ dq7 rfl rfl (by decide +kernel) fol ?_; simp -implicitDefEqProofs -dsimp [dq7, -List.map_set, -List.map_append, -List.map_replicate, fold_int, fold_ints, fold_u8, fold_u8s, lv7])
    | (refine WpC.skipC rfl ?_; try simp -implicitDefEqProofs -dsimp [-List.map_set, -List.map_append, -List.map_replicate, fold_int, fold_ints, fold_u8, fold_u8s, lv7])
    | (refine WpC.retC rfl ?_; try simp -implicitDefEqProofs -dsimp [-List.map_set, -List.map_append, -List.map_replicate, fold_int, fold_ints, fold_u8, fold_u8s, lv7])
    | (refine WpC.exitC rfl ?_; try simp -implicitDefEqProofs -dsimp [-List.map_set, -List.map_append, -List.map_replicate, fold_int, fold_ints, fold_u8, fold_u8s, lv7])
    | (refine WpC.condK rfl ?_; simp -implicitDefEqProofs -dsimp [-List.map_set, -List.map_append, -List.map_replicate, fold_int, fold_ints, fold_u8, fold_u8s, lv7])
    | with_reducible refine And.intro (fun _ => ?_) (fun _ => ?_)
    | (with_reducible refine And.intro (by omega) ?_))
        refine CallX.by4 (WaitingO s need hs8) false [] 6 (by simp) (by simp) (by simp) (by simp -implicitDefEqProofs [-List.map_set, -List.map_append, -List.map_replicate, fold_int, fold_ints, fold_u8, fold_u8s, rs, rsOb, List.idxOf?_cons]) (by simp -implicitDefEqProofs [-List.map_set, -List.map_append, -List.map_replicate, fold_int, fold_ints, fold_u8, fold_u8s, rs, rsOb, List.idxOf?_cons]) ?_; rintro m T' ⟨rfl, rfl⟩ -; simp -implicitDefEqProofs -dsimp [-List.map_set, -List.map_append, -List.map_replicate, fold_int, fold_ints, fold_u8, fold_u8s, frOb, obMp, setAll, setOb, gMap, lv7]
        repeat' (first
    | refine WpC.seqC lv7 rfl ?_
    | refine WpC.blockC rfl ?_
    | (refine WpC.reg rfl rfl ?_; simp -implicitDefEqProofs -dsimp [-List.map_set, -List.map_append, -List.map_replicate, fold_int, fold_ints, fold_u8, fold_u8s, lv7])
    | (refine WpC.regP rfl (by decide +kernel) fol (by decide +kernel) (by decide +kernel) ?_; simp -implicitDefEqProofs -dsimp [-List.map_set, -List.map_append, -List.map_replicate, fold_int, fold_ints, fold_u8, fold_u8s, lv7])
    | (refine WpC.regI dr7 rfl rfl (by decide +kernel) fol ?_; simp -implicitDefEqProofs -dsimp [dr7, -List.map_set, -List.map_append, -List.map_replicate, fold_int, fold_ints, fold_u8, fold_u8s, lv7])
    | (refine WpC.regM dm7 rfl rfl (by decide +kernel) fol ?_; simp -implicitDefEqProofs -dsimp [dm7, -List.map_set, -List.map_append, -List.map_replicate, fold_int, fold_ints, fold_u8, fold_u8s, lv7])
    | (refine WpC.regQ dq7 rfl rfl (by decide +kernel) fol ?_; simp -implicitDefEqProofs -dsimp [dq7, -List.map_set, -List.map_append, -List.map_replicate, fold_int, fold_ints, fold_u8, fold_u8s, lv7])
    | (refine WpC.skipC rfl ?_; try simp -implicitDefEqProofs -dsimp [-List.map_set, -List.map_append, -List.map_replicate, fold_int, fold_ints, fold_u8, fold_u8s, lv7])
    | (refine WpC.retC rfl ?_; try simp -implicitDefEqProofs -dsimp [-List.map_set, -List.map_append, -List.map_replicate, fold_int, fold_ints, fold_u8, fold_u8s, lv7])
    | (refine WpC.exitC rfl ?_; try simp -implicitDefEqProofs -dsimp [-List.map_set, -List.map_append, -List.map_replicate, fold_int, fold_ints, fold_u8, fold_u8s, lv7])
    | (refine WpC.condK rfl ?_; simp -implicitDefEqProofs -dsimp [-List.map_set, -List.map_append, -List.map_replicate, fold_int, fold_ints, fold_u8, fold_u8s, lv7])
    | with_reducible refine And.intro (fun _ => ?_) (fun _ => ?_)
    | (with_reducible refine And.intro (by omega) ?_))
        have hwl := whr_length 0 s
        have k0 := cnt_lo 0 s
        have k1 := cnt_lo 1 s
        have k2 := cnt_lo 2 s
        refine WpC.loopC rfl (fun j => j ≤ (whr 0 s).length) (fun j => ([(7, .ref 1 0), (9, int (many nodes)), (10, int (cnt 1 s)), (11, int (cnt 2 s)), (12, .sr 2 0 (whr 0 s).length 1), (13, int (whr 0 s).length), (14, int j)],
          [.cells true (s.map int), obj true 0 s need, .cells true ((whr 0 s).map int)])) (fun j => (whr 0 s).length - j) 0 (by simp) ?_ ?_
        · refine Gh.envL ?_
          simp -implicitDefEqProofs -dsimp [-List.map_set, -List.map_append, -List.map_replicate, fold_int, fold_ints, fold_u8, fold_u8s, obMp, keepG, List.idxOf?_cons, leM, envL, i64w]
        · intro j hj R3 hR3 hR4
          simp only at hj hR3 ⊢
          by_cases hlt : j < (whr 0 s).length
          · obtain ⟨b1, b2, b3⟩ := whr_at s j hlt
            have b1' : ¬ rd (whr 0 s) j < 0 := by omega
            have b2' : ¬ (many nodes : Int) ≤ rd (whr 0 s) j := by omega
            rcases j with _ | j
            · repeat' (first
    | refine WpC.seqC lv7 rfl ?_
    | refine WpC.blockC rfl ?_
    | (refine WpC.reg rfl rfl ?_; simp -implicitDefEqProofs -dsimp [-List.map_set, -List.map_append, -List.map_replicate, fold_int, fold_ints, fold_u8, fold_u8s, lv7, hlt, b1', b2'])
    | (refine WpC.regP rfl (by decide +kernel) fol (by decide +kernel) (by decide +kernel) ?_; simp -implicitDefEqProofs -dsimp [-List.map_set, -List.map_append, -List.map_replicate, fold_int, fold_ints, fold_u8, fold_u8s, lv7, hlt, b1', b2'])
    | (refine WpC.regI dr7 rfl rfl (by decide +kernel) fol ?_; simp -implicitDefEqProofs -dsimp [dr7, -List.map_set, -List.map_append, -List.map_replicate, fold_int, fold_ints, fold_u8, fold_u8s, lv7, hlt, b1', b2'])
    | (refine WpC.regM dm7 rfl rfl (by decide +kernel) fol ?_; simp -implicitDefEqProofs -dsimp [dm7, -List.map_set, -List.map_append, -List.map_replicate, fold_int, fold_ints, fold_u8, fold_u8s, lv7, hlt, b1', b2'])
    | (refine WpC.regQ dq7 rfl rfl (by decide +kernel) fol ?_; simp -implicitDefEqProofs -dsimp [dq7, -List.map_set, -List.map_append, -List.map_replicate, fold_int, fold_ints, fold_u8, fold_u8s, lv7, hlt, b1', b2'])
    | (refine WpC.skipC rfl ?_; try simp -implicitDefEqProofs -dsimp [-List.map_set, -List.map_append, -List.map_replicate, fold_int, fold_ints, fold_u8, fold_u8s, lv7, hlt, b1', b2'])
    | (refine WpC.retC rfl ?_; try simp -implicitDefEqProofs -dsimp [-List.map_set, -List.map_append, -List.map_replicate, fold_int, fold_ints, fold_u8, fold_u8s, lv7, hlt, b1', b2'])
    | (refine WpC.exitC rfl ?_; try simp -implicitDefEqProofs -dsimp [-List.map_set, -List.map_append, -List.map_replicate, fold_int, fold_ints, fold_u8, fold_u8s, lv7, hlt, b1', b2'])
    | (refine WpC.condK rfl ?_; simp -implicitDefEqProofs -dsimp [-List.map_set, -List.map_append, -List.map_replicate, fold_int, fold_ints, fold_u8, fold_u8s, lv7, hlt, b1', b2'])
    | with_reducible refine And.intro (fun _ => ?_) (fun _ => ?_)
    | (with_reducible refine And.intro (by omega) ?_))
              refine hR3 1 _ _ (by omega) (Gh.round [0, 1, 2] (by simp) (by simp) rfl (by simp -implicitDefEqProofs -dsimp [-List.map_set, -List.map_append, -List.map_replicate, fold_int, fold_ints, fold_u8, fold_u8s, obMp, keepG, List.idxOf?_cons, leM, envL, i64w] <;> (try simp (disch := omega) only [i64w])) (by simp -implicitDefEqProofs -dsimp [-List.map_set, -List.map_append, -List.map_replicate, fold_int, fold_ints, fold_u8, fold_u8s, obMp, keepG, List.idxOf?_cons, leM, envL, i64w] <;> (try simp (disch := omega) only [i64w]))) (by omega)
            · have b4 : IntKind.i64.wrap (j : Int) = j := i64w (by omega) (by omega)
              have b3' : ¬ rd (whr 0 s) (j + 1) ≤ rd (whr 0 s) j := by have := b3 (by omega); simp at this; omega
              repeat' (first
    | refine WpC.seqC lv7 rfl ?_
    | refine WpC.blockC rfl ?_
    | (refine WpC.reg rfl rfl ?_; simp -implicitDefEqProofs -dsimp [-List.map_set, -List.map_append, -List.map_replicate, fold_int, fold_ints, fold_u8, fold_u8s, lv7, hlt, b1', b2', b4, b3'])
    | (refine WpC.regP rfl (by decide +kernel) fol (by decide +kernel) (by decide +kernel) ?_; simp -implicitDefEqProofs -dsimp [-List.map_set, -List.map_append, -List.map_replicate, fold_int, fold_ints, fold_u8, fold_u8s, lv7, hlt, b1', b2', b4, b3'])
    | (refine WpC.regI dr7 rfl rfl (by decide +kernel) fol ?_; simp -implicitDefEqProofs -dsimp [dr7, -List.map_set, -List.map_append, -List.map_replicate, fold_int, fold_ints, fold_u8, fold_u8s, lv7, hlt, b1', b2', b4, b3'])
    | (refine WpC.regM dm7 rfl rfl (by decide +kernel) fol ?_; simp -implicitDefEqProofs -dsimp [dm7, -List.map_set, -List.map_append, -List.map_replicate, fold_int, fold_ints, fold_u8, fold_u8s, lv7, hlt, b1', b2', b4, b3'])
    | (refine WpC.regQ dq7 rfl rfl (by decide +kernel) fol ?_; simp -implicitDefEqProofs -dsimp [dq7, -List.map_set, -List.map_append, -List.map_replicate, fold_int, fold_ints, fold_u8, fold_u8s, lv7, hlt, b1', b2', b4, b3'])
    | (refine WpC.skipC rfl ?_; try simp -implicitDefEqProofs -dsimp [-List.map_set, -List.map_append, -List.map_replicate, fold_int, fold_ints, fold_u8, fold_u8s, lv7, hlt, b1', b2', b4, b3'])
    | (refine WpC.retC rfl ?_; try simp -implicitDefEqProofs -dsimp [-List.map_set, -List.map_append, -List.map_replicate, fold_int, fold_ints, fold_u8, fold_u8s, lv7, hlt, b1', b2', b4, b3'])
    | (refine WpC.exitC rfl ?_; try simp -implicitDefEqProofs -dsimp [-List.map_set, -List.map_append, -List.map_replicate, fold_int, fold_ints, fold_u8, fold_u8s, lv7, hlt, b1', b2', b4, b3'])
    | (refine WpC.condK rfl ?_; simp -implicitDefEqProofs -dsimp [-List.map_set, -List.map_append, -List.map_replicate, fold_int, fold_ints, fold_u8, fold_u8s, lv7, hlt, b1', b2', b4, b3'])
    | with_reducible refine And.intro (fun _ => ?_) (fun _ => ?_)
    | (with_reducible refine And.intro (by omega) ?_))
              · have b5 : IntKind.i64.wrap ((j : Int) + 1 + 1) = (j : Int) + 2 := by rw [i64w] <;> omega
                refine hR3 (j + 2) _ _ (by omega) (Gh.round [0, 1, 2] (by simp) (by simp) rfl (by simp -implicitDefEqProofs -dsimp [-List.map_set, -List.map_append, -List.map_replicate, fold_int, fold_ints, fold_u8, fold_u8s, obMp, keepG, List.idxOf?_cons, leM, envL, i64w, b5] <;> (try simp (disch := omega) only [i64w])) (by simp -implicitDefEqProofs -dsimp [-List.map_set, -List.map_append, -List.map_replicate, fold_int, fold_ints, fold_u8, fold_u8s, obMp, keepG, List.idxOf?_cons, leM, envL, i64w, b5] <;> (try simp (disch := omega) only [i64w]))) (by omega)
              · omega
          · repeat' (first
    | refine WpC.seqC lv7 rfl ?_
    | refine WpC.blockC rfl ?_
    | (refine WpC.reg rfl rfl ?_; simp -implicitDefEqProofs -dsimp [-List.map_set, -List.map_append, -List.map_replicate, fold_int, fold_ints, fold_u8, fold_u8s, lv7, hlt])
    | (refine WpC.regP rfl (by decide +kernel) fol (by decide +kernel) (by decide +kernel) ?_; simp -implicitDefEqProofs -dsimp [-List.map_set, -List.map_append, -List.map_replicate, fold_int, fold_ints, fold_u8, fold_u8s, lv7, hlt])
    | (refine WpC.regI dr7 rfl rfl (by decide +kernel) fol ?_; simp -implicitDefEqProofs -dsimp [dr7, -List.map_set, -List.map_append, -List.map_replicate, fold_int, fold_ints, fold_u8, fold_u8s, lv7, hlt])
    | (refine WpC.regM dm7 rfl rfl (by decide +kernel) fol ?_; simp -implicitDefEqProofs -dsimp [dm7, -List.map_set, -List.map_append, -List.map_replicate, fold_int, fold_ints, fold_u8, fold_u8s, lv7, hlt])
    | (refine WpC.regQ dq7 rfl rfl (by decide +kernel) fol ?_; simp -implicitDefEqProofs -dsimp [dq7, -List.map_set, -List.map_append, -List.map_replicate, fold_int, fold_ints, fold_u8, fold_u8s, lv7, hlt])
    | (refine WpC.skipC rfl ?_; try simp -implicitDefEqProofs -dsimp [-List.map_set, -List.map_append, -List.map_replicate, fold_int, fold_ints, fold_u8, fold_u8s, lv7, hlt])
    | (refine WpC.retC rfl ?_; try simp -implicitDefEqProofs -dsimp [-List.map_set, -List.map_append, -List.map_replicate, fold_int, fold_ints, fold_u8, fold_u8s, lv7, hlt])
    | (refine WpC.exitC rfl ?_; try simp -implicitDefEqProofs -dsimp [-List.map_set, -List.map_append, -List.map_replicate, fold_int, fold_ints, fold_u8, fold_u8s, lv7, hlt])
    | (refine WpC.condK rfl ?_; simp -implicitDefEqProofs -dsimp [-List.map_set, -List.map_append, -List.map_replicate, fold_int, fold_ints, fold_u8, fold_u8s, lv7, hlt])
    | with_reducible refine And.intro (fun _ => ?_) (fun _ => ?_)
    | (with_reducible refine And.intro (by omega) ?_))
            refine hR4 _ _ _ (by simp) ?_
            simp -implicitDefEqProofs -dsimp [-List.map_set, -List.map_append, -List.map_replicate, fold_int, fold_ints, fold_u8, fold_u8s, lv7]
            repeat' (first
    | refine WpC.seqC lv7 rfl ?_
    | refine WpC.blockC rfl ?_
    | (refine WpC.reg rfl rfl ?_; simp -implicitDefEqProofs -dsimp [-List.map_set, -List.map_append, -List.map_replicate, fold_int, fold_ints, fold_u8, fold_u8s, lv7])
    | (refine WpC.regP rfl (by decide +kernel) fol (by decide +kernel) (by decide +kernel) ?_; simp -implicitDefEqProofs -dsimp [-List.map_set, -List.map_append, -List.map_replicate, fold_int, fold_ints, fold_u8, fold_u8s, lv7])
    | (refine WpC.regI dr7 rfl rfl (by decide +kernel) fol ?_; simp -implicitDefEqProofs -dsimp [dr7, -List.map_set, -List.map_append, -List.map_replicate, fold_int, fold_ints, fold_u8, fold_u8s, lv7])
    | (refine WpC.regM dm7 rfl rfl (by decide +kernel) fol ?_; simp -implicitDefEqProofs -dsimp [dm7, -List.map_set, -List.map_append, -List.map_replicate, fold_int, fold_ints, fold_u8, fold_u8s, lv7])
    | (refine WpC.regQ dq7 rfl rfl (by decide +kernel) fol ?_; simp -implicitDefEqProofs -dsimp [dq7, -List.map_set, -List.map_append, -List.map_replicate, fold_int, fold_ints, fold_u8, fold_u8s, lv7])
    | (refine WpC.skipC rfl ?_; try simp -implicitDefEqProofs -dsimp [-List.map_set, -List.map_append, -List.map_replicate, fold_int, fold_ints, fold_u8, fold_u8s, lv7])
    | (refine WpC.retC rfl ?_; try simp -implicitDefEqProofs -dsimp [-List.map_set, -List.map_append, -List.map_replicate, fold_int, fold_ints, fold_u8, fold_u8s, lv7])
    | (refine WpC.exitC rfl ?_; try simp -implicitDefEqProofs -dsimp [-List.map_set, -List.map_append, -List.map_replicate, fold_int, fold_ints, fold_u8, fold_u8s, lv7])
    | (refine WpC.condK rfl ?_; simp -implicitDefEqProofs -dsimp [-List.map_set, -List.map_append, -List.map_replicate, fold_int, fold_ints, fold_u8, fold_u8s, lv7])
    | with_reducible refine And.intro (fun _ => ?_) (fun _ => ?_)
    | (with_reducible refine And.intro (by omega) ?_))
            refine WpC.loopC rfl (fun i => i ≤ (whr 0 s).length) (fun i => ([(7, .ref 1 0), (9, int (many nodes)), (10, int (cnt 1 s)), (11, int (cnt 2 s)), (12, .sr 2 0 (whr 0 s).length 1), (13, int (whr 0 s).length), (15, int i)],
              [.cells true (s.map int), obj true 0 s need, .cells true ((List.replicate i (99 : Int) ++ (whr 0 s).drop i).map int)])) (fun i => (whr 0 s).length - i) 0 (by simp) ?_ ?_
            · refine Gh.envL ?_
              simp -implicitDefEqProofs -dsimp [-List.map_set, -List.map_append, -List.map_replicate, fold_int, fold_ints, fold_u8, fold_u8s, obMp, keepG, List.idxOf?_cons, leM, envL, i64w]
            · intro i hi R5 hR5 hR6
              simp only at hi hR5 ⊢
              repeat' (first
    | refine WpC.seqC lv7 rfl ?_
    | refine WpC.blockC rfl ?_
    | (refine WpC.reg rfl rfl ?_; simp -implicitDefEqProofs -dsimp [-List.map_set, -List.map_append, -List.map_replicate, fold_int, fold_ints, fold_u8, fold_u8s, lv7])
    | (refine WpC.regP rfl (by decide +kernel) fol (by decide +kernel) (by decide +kernel) ?_; simp -implicitDefEqProofs -dsimp [-List.map_set, -List.map_append, -List.map_replicate, fold_int, fold_ints, fold_u8, fold_u8s, lv7])
    | (refine WpC.regI dr7 rfl rfl (by decide +kernel) fol ?_; simp -implicitDefEqProofs -dsimp [dr7, -List.map_set, -List.map_append, -List.map_replicate, fold_int, fold_ints, fold_u8, fold_u8s, lv7])
    | (refine WpC.regM dm7 rfl rfl (by decide +kernel) fol ?_; simp -implicitDefEqProofs -dsimp [dm7, -List.map_set, -List.map_append, -List.map_replicate, fold_int, fold_ints, fold_u8, fold_u8s, lv7])
    | (refine WpC.regQ dq7 rfl rfl (by decide +kernel) fol ?_; simp -implicitDefEqProofs -dsimp [dq7, -List.map_set, -List.map_append, -List.map_replicate, fold_int, fold_ints, fold_u8, fold_u8s, lv7])
    | (refine WpC.skipC rfl ?_; try simp -implicitDefEqProofs -dsimp [-List.map_set, -List.map_append, -List.map_replicate, fold_int, fold_ints, fold_u8, fold_u8s, lv7])
    | (refine WpC.retC rfl ?_; try simp -implicitDefEqProofs -dsimp [-List.map_set, -List.map_append, -List.map_replicate, fold_int, fold_ints, fold_u8, fold_u8s, lv7])
    | (refine WpC.exitC rfl ?_; try simp -implicitDefEqProofs -dsimp [-List.map_set, -List.map_append, -List.map_replicate, fold_int, fold_ints, fold_u8, fold_u8s, lv7])
    | (refine WpC.condK rfl ?_; simp -implicitDefEqProofs -dsimp [-List.map_set, -List.map_append, -List.map_replicate, fold_int, fold_ints, fold_u8, fold_u8s, lv7])
    | with_reducible refine And.intro (fun _ => ?_) (fun _ => ?_)
    | (with_reducible refine And.intro (by omega) ?_))
              · have b6 : List.replicate i (99 : Int) ++ ((whr 0 s).drop i).set 0 99 = List.replicate (i + 1) 99 ++ (whr 0 s).drop (i + 1) := by
                  rw [List.drop_eq_getElem_cons (by omega), List.set_cons_zero, List.replicate_succ', List.append_assoc]; rfl
                rw [b6]
                refine hR5 (i + 1) _ _ (by omega) (Gh.round [0, 1, 2] (by simp) (by simp) rfl (by simp -implicitDefEqProofs -dsimp [-List.map_set, -List.map_append, -List.map_replicate, fold_int, fold_ints, fold_u8, fold_u8s, obMp, keepG, List.idxOf?_cons, leM, envL, i64w] <;> (try simp (disch := omega) only [i64w])) (by simp -implicitDefEqProofs -dsimp [-List.map_set, -List.map_append, -List.map_replicate, fold_int, fold_ints, fold_u8, fold_u8s, obMp, keepG, List.idxOf?_cons, leM, envL, i64w] <;> (try simp (disch := omega) only [i64w]))) (by omega)
              · refine hR6 _ _ _ (by simp) ?_
                simp -implicitDefEqProofs -dsimp [-List.map_set, -List.map_append, -List.map_replicate, fold_int, fold_ints, fold_u8, fold_u8s, lv7]
                repeat' (first
    | refine WpC.seqC lv7 rfl ?_
    | refine WpC.blockC rfl ?_
    | (refine WpC.reg rfl rfl ?_; simp -implicitDefEqProofs -dsimp [-List.map_set, -List.map_append, -List.map_replicate, fold_int, fold_ints, fold_u8, fold_u8s, lv7])
    | (refine WpC.regP rfl (by decide +kernel) fol (by decide +kernel) (by decide +kernel) ?_; simp -implicitDefEqProofs -dsimp [-List.map_set, -List.map_append, -List.map_replicate, fold_int, fold_ints, fold_u8, fold_u8s, lv7])
    | (refine WpC.regI dr7 rfl rfl (by decide +kernel) fol ?_; simp -implicitDefEqProofs -dsimp [dr7, -List.map_set, -List.map_append, -List.map_replicate, fold_int, fold_ints, fold_u8, fold_u8s, lv7])
    | (refine WpC.regM dm7 rfl rfl (by decide +kernel) fol ?_; simp -implicitDefEqProofs -dsimp [dm7, -List.map_set, -List.map_append, -List.map_replicate, fold_int, fold_ints, fold_u8, fold_u8s, lv7])
    | (refine WpC.regQ dq7 rfl rfl (by decide +kernel) fol ?_; simp -implicitDefEqProofs -dsimp [dq7, -List.map_set, -List.map_append, -List.map_replicate, fold_int, fold_ints, fold_u8, fold_u8s, lv7])
    | (refine WpC.skipC rfl ?_; try simp -implicitDefEqProofs -dsimp [-List.map_set, -List.map_append, -List.map_replicate, fold_int, fold_ints, fold_u8, fold_u8s, lv7])
    | (refine WpC.retC rfl ?_; try simp -implicitDefEqProofs -dsimp [-List.map_set, -List.map_append, -List.map_replicate, fold_int, fold_ints, fold_u8, fold_u8s, lv7])
    | (refine WpC.exitC rfl ?_; try simp -implicitDefEqProofs -dsimp [-List.map_set, -List.map_append, -List.map_replicate, fold_int, fold_ints, fold_u8, fold_u8s, lv7])
    | (refine WpC.condK rfl ?_; simp -implicitDefEqProofs -dsimp [-List.map_set, -List.map_append, -List.map_replicate, fold_int, fold_ints, fold_u8, fold_u8s, lv7])
    | with_reducible refine And.intro (fun _ => ?_) (fun _ => ?_)
    | (with_reducible refine And.intro (by omega) ?_))
                refine CallX.by4 (Waiting s need hs8) false [] 6 (by simp) (by simp) (by simp) (by simp -implicitDefEqProofs [-List.map_set, -List.map_append, -List.map_replicate, fold_int, fold_ints, fold_u8, fold_u8s, rs, rsOb, List.idxOf?_cons]) (by simp -implicitDefEqProofs [-List.map_set, -List.map_append, -List.map_replicate, fold_int, fold_ints, fold_u8, fold_u8s, rs, rsOb, List.idxOf?_cons]) ?_; rintro m T' ⟨rfl, rfl⟩ -; simp -implicitDefEqProofs -dsimp [-List.map_set, -List.map_append, -List.map_replicate, fold_int, fold_ints, fold_u8, fold_u8s, frOb, obMp, setAll, setOb, gMap, lv7]
                have w1 : IntKind.i64.wrap (cnt 1 s + cnt 2 s) = cnt 1 s + cnt 2 s := by rw [i64w] <;> omega
                have w2 : IntKind.i64.wrap (cnt 1 s + cnt 2 s + ((whr 0 s).length : Int)) = many nodes := by rw [i64w] <;> omega
                by_cases hk : (whr 0 s).length = 0
                · have w3 : cnt 1 s + cnt 2 s = (many nodes : Int) := by omega
                  have w4 : IntKind.i64.wrap (many nodes : Int) = (many nodes : Int) := by rw [i64w] <;> omega
                  repeat' (first
    | refine WpC.seqC lv7 rfl ?_
    | refine WpC.blockC rfl ?_
    | (refine WpC.reg rfl rfl ?_; simp -implicitDefEqProofs -dsimp [-List.map_set, -List.map_append, -List.map_replicate, fold_int, fold_ints, fold_u8, fold_u8s, lv7, hk, w3, w4])
    | (refine WpC.regP rfl (by decide +kernel) fol (by decide +kernel) (by decide +kernel) ?_; simp -implicitDefEqProofs -dsimp [-List.map_set, -List.map_append, -List.map_replicate, fold_int, fold_ints, fold_u8, fold_u8s, lv7, hk, w3, w4])
    | (refine WpC.regI dr7 rfl rfl (by decide +kernel) fol ?_; simp -implicitDefEqProofs -dsimp [dr7, -List.map_set, -List.map_append, -List.map_replicate, fold_int, fold_ints, fold_u8, fold_u8s, lv7, hk, w3, w4])
    | (refine WpC.regM dm7 rfl rfl (by decide +kernel) fol ?_; simp -implicitDefEqProofs -dsimp [dm7, -List.map_set, -List.map_append, -List.map_replicate, fold_int, fold_ints, fold_u8, fold_u8s, lv7, hk, w3, w4])
    | (refine WpC.regQ dq7 rfl rfl (by decide +kernel) fol ?_; simp -implicitDefEqProofs -dsimp [dq7, -List.map_set, -List.map_append, -List.map_replicate, fold_int, fold_ints, fold_u8, fold_u8s, lv7, hk, w3, w4])
    | (refine WpC.skipC rfl ?_; try simp -implicitDefEqProofs -dsimp [-List.map_set, -List.map_append, -List.map_replicate, fold_int, fold_ints, fold_u8, fold_u8s, lv7, hk, w3, w4])
    | (refine WpC.retC rfl ?_; try simp -implicitDefEqProofs -dsimp [-List.map_set, -List.map_append, -List.map_replicate, fold_int, fold_ints, fold_u8, fold_u8s, lv7, hk, w3, w4])
    | (refine WpC.exitC rfl ?_; try simp -implicitDefEqProofs -dsimp [-List.map_set, -List.map_append, -List.map_replicate, fold_int, fold_ints, fold_u8, fold_u8s, lv7, hk, w3, w4])
    | (refine WpC.condK rfl ?_; simp -implicitDefEqProofs -dsimp [-List.map_set, -List.map_append, -List.map_replicate, fold_int, fold_ints, fold_u8, fold_u8s, lv7, hk, w3, w4])
    | with_reducible refine And.intro (fun _ => ?_) (fun _ => ?_)
    | (with_reducible refine And.intro (by omega) ?_))
                  refine (hR _ _ ?_).1; simp -implicitDefEqProofs -dsimp [-List.map_set, -List.map_append, -List.map_replicate, fold_int, fold_ints, fold_u8, fold_u8s, Try.f7, envL]
                · obtain ⟨d1, d2, _⟩ := whr_at s 0 (by omega)
                  have d3 : rd (whr 0 s) 0 < 99 := by omega
                  repeat' (first
    | refine WpC.seqC lv7 rfl ?_
    | refine WpC.blockC rfl ?_
    | (refine WpC.reg rfl rfl ?_; simp -implicitDefEqProofs -dsimp [-List.map_set, -List.map_append, -List.map_replicate, fold_int, fold_ints, fold_u8, fold_u8s, lv7, w1, w2, hk, d3])
    | (refine WpC.regP rfl (by decide +kernel) fol (by decide +kernel) (by decide +kernel) ?_; simp -implicitDefEqProofs -dsimp [-List.map_set, -List.map_append, -List.map_replicate, fold_int, fold_ints, fold_u8, fold_u8s, lv7, w1, w2, hk, d3])
    | (refine WpC.regI dr7 rfl rfl (by decide +kernel) fol ?_; simp -implicitDefEqProofs -dsimp [dr7, -List.map_set, -List.map_append, -List.map_replicate, fold_int, fold_ints, fold_u8, fold_u8s, lv7, w1, w2, hk, d3])
    | (refine WpC.regM dm7 rfl rfl (by decide +kernel) fol ?_; simp -implicitDefEqProofs -dsimp [dm7, -List.map_set, -List.map_append, -List.map_replicate, fold_int, fold_ints, fold_u8, fold_u8s, lv7, w1, w2, hk, d3])
    | (refine WpC.regQ dq7 rfl rfl (by decide +kernel) fol ?_; simp -implicitDefEqProofs -dsimp [dq7, -List.map_set, -List.map_append, -List.map_replicate, fold_int, fold_ints, fold_u8, fold_u8s, lv7, w1, w2, hk, d3])
    | (refine WpC.skipC rfl ?_; try simp -implicitDefEqProofs -dsimp [-List.map_set, -List.map_append, -List.map_replicate, fold_int, fold_ints, fold_u8, fold_u8s, lv7, w1, w2, hk, d3])
    | (refine WpC.retC rfl ?_; try simp -implicitDefEqProofs -dsimp [-List.map_set, -List.map_append, -List.map_replicate, fold_int, fold_ints, fold_u8, fold_u8s, lv7, w1, w2, hk, d3])
    | (refine WpC.exitC rfl ?_; try simp -implicitDefEqProofs -dsimp [-List.map_set, -List.map_append, -List.map_replicate, fold_int, fold_ints, fold_u8, fold_u8s, lv7, w1, w2, hk, d3])
    | (refine WpC.condK rfl ?_; simp -implicitDefEqProofs -dsimp [-List.map_set, -List.map_append, -List.map_replicate, fold_int, fold_ints, fold_u8, fold_u8s, lv7, w1, w2, hk, d3])
    | with_reducible refine And.intro (fun _ => ?_) (fun _ => ?_)
    | (with_reducible refine And.intro (by omega) ?_))
                  refine (hR _ _ ?_).1; simp -implicitDefEqProofs -dsimp [-List.map_set, -List.map_append, -List.map_replicate, fold_int, fold_ints, fold_u8, fold_u8s, Try.f7, envL]
      repeat' (first
    | (exact tail _ (by unfold many; omega))
    | refine WpC.seqC lv7 rfl ?_
    | refine WpC.blockC rfl ?_
    | (refine WpC.reg rfl rfl ?_; simp -implicitDefEqProofs -dsimp [-List.map_set, -List.map_append, -List.map_replicate, fold_int, fold_ints, fold_u8, fold_u8s, lv7])
    | (refine WpC.regP rfl (by decide +kernel) fol (by decide +kernel) (by decide +kernel) ?_; simp -implicitDefEqProofs -dsimp [-List.map_set, -List.map_append, -List.map_replicate, fold_int, fold_ints, fold_u8, fold_u8s, lv7])
    | (refine WpC.regI dr7 rfl rfl (by decide +kernel) fol ?_; simp -implicitDefEqProofs -dsimp [dr7, -List.map_set, -List.map_append, -List.map_replicate, fold_int, fold_ints, fold_u8, fold_u8s, lv7])
    | (refine WpC.regM dm7 rfl rfl (by decide +kernel) fol ?_; simp -implicitDefEqProofs -dsimp [dm7, -List.map_set, -List.map_append, -List.map_replicate, fold_int, fold_ints, fold_u8, fold_u8s, lv7])
    | (refine WpC.regQ dq7 rfl rfl (by decide +kernel) fol ?_; simp -implicitDefEqProofs -dsimp [dq7, -List.map_set, -List.map_append, -List.map_replicate, fold_int, fold_ints, fold_u8, fold_u8s, lv7])
    | (refine WpC.skipC rfl ?_; try simp -implicitDefEqProofs -dsimp [-List.map_set, -List.map_append, -List.map_replicate, fold_int, fold_ints, fold_u8, fold_u8s, lv7])
    | (refine WpC.retC rfl ?_; try simp -implicitDefEqProofs -dsimp [-List.map_set, -List.map_append, -List.map_replicate, fold_int, fold_ints, fold_u8, fold_u8s, lv7])
    | (refine WpC.exitC rfl ?_; try simp -implicitDefEqProofs -dsimp [-List.map_set, -List.map_append, -List.map_replicate, fold_int, fold_ints, fold_u8, fold_u8s, lv7])
    | (refine WpC.condK rfl ?_; simp -implicitDefEqProofs -dsimp [-List.map_set, -List.map_append, -List.map_replicate, fold_int, fold_ints, fold_u8, fold_u8s, lv7])
    | with_reducible refine And.intro (fun _ => ?_) (fun _ => ?_)
    | (with_reducible refine And.intro (by omega) ?_))
end Go.Proofs.Ytpbgiccloeihcaa
