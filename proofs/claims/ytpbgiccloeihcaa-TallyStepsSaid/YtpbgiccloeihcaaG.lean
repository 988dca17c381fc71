import Derived.Test.YtpbgiccloeihcaaE
open Go Go.Tl
set_option linter.unusedSimpArgs false
set_option linter.unusedVariables false
set_option linter.unnecessarySimpa false
namespace Go.Proofs.Ytpbgiccloeihcaa

instance : Inhabited (Bool × List Int) := ⟨(false, [])⟩

theorem say_tree (xs : List M) (h : Tree (.pair .bool (.pair (.sl (.int .i64)) .unit)) xs) : ∃ s : Bool × List Int, xs = sy s := by
  obtain ⟨a, b, rfl, ⟨x, rfl⟩, c, d, rfl, h1, h2⟩ := h
  obtain ⟨l, rfl, _, _⟩ := tree_ints h1
  rw [show d = [] from h2]
  exact ⟨(x, l), rfl⟩

theorem says_length (w : Int) (nodes : List Int) : ∀ said : List Int, (says w nodes said).length = said.length := by
  induction nodes with
  | nil => intro _; rfl
  | cons n nodes ih => intro s; rw [says, List.foldl_cons]; exact (ih _).trans (put_length _ _ _)
theorem says_take (w : Int) (nodes said : List Int) (j : Nat) (h : j < nodes.length) : says w (nodes.take (j + 1)) said = put w (says w (nodes.take j) said) (rd nodes j) := by
  rw [List.take_succ_eq_append_getElem h, says, says, List.foldl_append, rd_lt h]; rfl

theorem whr_small (k : Int) (u : List Int) (h : u.length ≤ 8) : (whr k u).length ≤ 1000000 := by
  have := whr_length k u
  have := cnt_hi k u
  omega

set_option maxRecDepth 100000 in
set_option maxHeartbeats 4000000 in
theorem lawSteps (nodes need : Int) (list : List (Bool × List Int)) : Con Try.prog 3 [int nodes, int need, .sl false (list.flatMap sy) list.length] [] fun m _ => m = .v (.bool true) := by
  have h8 := many_le nodes
  refine Con.by Try.func3 en3 rfl (by simp [Try.ntmps3]) fun R hR hF hU => ?_; rw [Try.ntmps3]
  repeat' (first
    | refine WpC.seqC lv3 rfl ?_
    | refine WpC.blockC rfl ?_
    | (refine WpC.reg rfl rfl ?_; simp -implicitDefEqProofs -dsimp [-List.map_set, -List.map_append, -List.map_replicate, fold_int, fold_ints, fold_u8, fold_u8s, lv3])
    | (refine WpC.regP rfl (by decide +kernel) fol (by decide +kernel) (by decide +kernel) ?_; simp -implicitDefEqProofs -dsimp [-List.map_set, -List.map_append, -List.map_replicate, fold_int, fold_ints, fold_u8, fold_u8s, lv3])
    | (refine WpC.regI dr3 rfl rfl (by decide +kernel) fol ?_; simp -implicitDefEqProofs -dsimp [dr3, -List.map_set, -List.map_append, -List.map_replicate, fold_int, fold_ints, fold_u8, fold_u8s, lv3])
    | (refine WpC.regM dm3 rfl rfl (by decide +kernel) fol ?_; simp -implicitDefEqProofs -dsimp [dm3, -List.map_set, -List.map_append, -List.map_replicate, fold_int, fold_ints, fold_u8, fold_u8s, lv3])
    | (refine WpC.regQ dq3 rfl rfl (by decide +kernel) fol ?_; simp -implicitDefEqProofs -dsimp [dq3, -List.map_set, -List.map_append, -List.map_replicate, fold_int, fold_ints, fold_u8, fold_u8s, lv3])
    | (refine WpC.skipC rfl ?_; try simp -implicitDefEqProofs -dsimp [-List.map_set, -List.map_append, -List.map_replicate, fold_int, fold_ints, fold_u8, fold_u8s, lv3])
    | (refine WpC.retC rfl ?_; try simp -implicitDefEqProofs -dsimp [-List.map_set, -List.map_append, -List.map_replicate, fold_int, fold_ints, fold_u8, fold_u8s, lv3])
    | (refine WpC.exitC rfl ?_; try simp -implicitDefEqProofs -dsimp [-List.map_set, -List.map_append, -List.map_replicate, fold_int, fold_ints, fold_u8, fold_u8s, lv3])
    | (refine WpC.condK rfl ?_; simp -implicitDefEqProofs -dsimp [-List.map_set, -List.map_append, -List.map_replicate, fold_int, fold_ints, fold_u8, fold_u8s, lv3])
    | with_reducible refine And.intro (fun _ => ?_) (fun _ => ?_)
    | (with_reducible refine And.intro (by omega) ?_))
  refine CallX.by4 (alive) false [] 6 (by simp) (by simp) (by simp) (by simp -implicitDefEqProofs [-List.map_set, -List.map_append, -List.map_replicate, fold_int, fold_ints, fold_u8, fold_u8s, rs, rsOb, List.idxOf?_cons]) (by simp -implicitDefEqProofs [-List.map_set, -List.map_append, -List.map_replicate, fold_int, fold_ints, fold_u8, fold_u8s, rs, rsOb, List.idxOf?_cons]) ?_; rintro m T' ⟨rfl, rfl⟩ -; simp -implicitDefEqProofs -dsimp [-List.map_set, -List.map_append, -List.map_replicate, fold_int, fold_ints, fold_u8, fold_u8s, frOb, obMp, setAll, setOb, gMap, lv3]
  repeat' (first
    | refine WpC.seqC lv3 rfl ?_
    | refine WpC.blockC rfl ?_
    | (refine WpC.reg rfl rfl ?_; simp -implicitDefEqProofs -dsimp [-List.map_set, -List.map_append, -List.map_replicate, fold_int, fold_ints, fold_u8, fold_u8s, lv3])
    | (refine WpC.regP rfl (by decide +kernel) fol (by decide +kernel) (by decide +kernel) ?_; simp -implicitDefEqProofs -dsimp [-List.map_set, -List.map_append, -List.map_replicate, fold_int, fold_ints, fold_u8, fold_u8s, lv3])
    | (refine WpC.regI dr3 rfl rfl (by decide +kernel) fol ?_; simp -implicitDefEqProofs -dsimp [dr3, -List.map_set, -List.map_append, -List.map_replicate, fold_int, fold_ints, fold_u8, fold_u8s, lv3])
    | (refine WpC.regM dm3 rfl rfl (by decide +kernel) fol ?_; simp -implicitDefEqProofs -dsimp [dm3, -List.map_set, -List.map_append, -List.map_replicate, fold_int, fold_ints, fold_u8, fold_u8s, lv3])
    | (refine WpC.regQ dq3 rfl rfl (by decide +kernel) fol ?_; simp -implicitDefEqProofs -dsimp [dq3, -List.map_set, -List.map_append, -List.map_replicate, fold_int, fold_ints, fold_u8, fold_u8s, lv3])
    | (refine WpC.skipC rfl ?_; try simp -implicitDefEqProofs -dsimp [-List.map_set, -List.map_append, -List.map_replicate, fold_int, fold_ints, fold_u8, fold_u8s, lv3])
    | (refine WpC.retC rfl ?_; try simp -implicitDefEqProofs -dsimp [-List.map_set, -List.map_append, -List.map_replicate, fold_int, fold_ints, fold_u8, fold_u8s, lv3])
    | (refine WpC.exitC rfl ?_; try simp -implicitDefEqProofs -dsimp [-List.map_set, -List.map_append, -List.map_replicate, fold_int, fold_ints, fold_u8, fold_u8s, lv3])
    | (refine WpC.condK rfl ?_; simp -implicitDefEqProofs -dsimp [-List.map_set, -List.map_append, -List.map_replicate, fold_int, fold_ints, fold_u8, fold_u8s, lv3])
    | with_reducible refine And.intro (fun _ => ?_) (fun _ => ?_)
    | (with_reducible refine And.intro (by omega) ?_))
  refine CallX.by4 (New nodes need) false [] 6 (by simp) (by simp) (by simp) (by simp -implicitDefEqProofs [-List.map_set, -List.map_append, -List.map_replicate, fold_int, fold_ints, fold_u8, fold_u8s, rs, rsOb, List.idxOf?_cons]) (by simp -implicitDefEqProofs [-List.map_set, -List.map_append, -List.map_replicate, fold_int, fold_ints, fold_u8, fold_u8s, rs, rsOb, List.idxOf?_cons]) ?_; rintro m T' ⟨rfl, rfl⟩ -; simp -implicitDefEqProofs -dsimp [-List.map_set, -List.map_append, -List.map_replicate, fold_int, fold_ints, fold_u8, fold_u8s, frOb, obMp, setAll, setOb, gMap, lv3]
  repeat' (first
    | refine WpC.seqC lv3 rfl ?_
    | refine WpC.blockC rfl ?_
    | (refine WpC.reg rfl rfl ?_; simp -implicitDefEqProofs -dsimp [-List.map_set, -List.map_append, -List.map_replicate, fold_int, fold_ints, fold_u8, fold_u8s, lv3])
    | (refine WpC.regP rfl (by decide +kernel) fol (by decide +kernel) (by decide +kernel) ?_; simp -implicitDefEqProofs -dsimp [-List.map_set, -List.map_append, -List.map_replicate, fold_int, fold_ints, fold_u8, fold_u8s, lv3])
    | (refine WpC.regI dr3 rfl rfl (by decide +kernel) fol ?_; simp -implicitDefEqProofs -dsimp [dr3, -List.map_set, -List.map_append, -List.map_replicate, fold_int, fold_ints, fold_u8, fold_u8s, lv3])
    | (refine WpC.regM dm3 rfl rfl (by decide +kernel) fol ?_; simp -implicitDefEqProofs -dsimp [dm3, -List.map_set, -List.map_append, -List.map_replicate, fold_int, fold_ints, fold_u8, fold_u8s, lv3])
    | (refine WpC.regQ dq3 rfl rfl (by decide +kernel) fol ?_; simp -implicitDefEqProofs -dsimp [dq3, -List.map_set, -List.map_append, -List.map_replicate, fold_int, fold_ints, fold_u8, fold_u8s, lv3])
    | (refine WpC.skipC rfl ?_; try simp -implicitDefEqProofs -dsimp [-List.map_set, -List.map_append, -List.map_replicate, fold_int, fold_ints, fold_u8, fold_u8s, lv3])
    | (refine WpC.retC rfl ?_; try simp -implicitDefEqProofs -dsimp [-List.map_set, -List.map_append, -List.map_replicate, fold_int, fold_ints, fold_u8, fold_u8s, lv3])
    | (refine WpC.exitC rfl ?_; try simp -implicitDefEqProofs -dsimp [-List.map_set, -List.map_append, -List.map_replicate, fold_int, fold_ints, fold_u8, fold_u8s, lv3])
    | (refine WpC.condK rfl ?_; simp -implicitDefEqProofs -dsimp [-List.map_set, -List.map_append, -List.map_replicate, fold_int, fold_ints, fold_u8, fold_u8s, lv3])
    | with_reducible refine And.intro (fun _ => ?_) (fun _ => ?_)
    | (with_reducible refine And.intro (by omega) ?_))
  refine CallX.by4 (refNew nodes need) false [] 6 (by simp) (by simp) (by simp) (by simp -implicitDefEqProofs [-List.map_set, -List.map_append, -List.map_replicate, fold_int, fold_ints, fold_u8, fold_u8s, rs, rsOb, List.idxOf?_cons]) (by simp -implicitDefEqProofs [-List.map_set, -List.map_append, -List.map_replicate, fold_int, fold_ints, fold_u8, fold_u8s, rs, rsOb, List.idxOf?_cons]) ?_; rintro m T' ⟨rfl, rfl⟩ -; simp -implicitDefEqProofs -dsimp [-List.map_set, -List.map_append, -List.map_replicate, fold_int, fold_ints, fold_u8, fold_u8s, frOb, obMp, setAll, setOb, gMap, lv3]
  repeat' (first
    | refine WpC.seqC lv3 rfl ?_
    | refine WpC.blockC rfl ?_
    | (refine WpC.reg rfl rfl ?_; simp -implicitDefEqProofs -dsimp [-List.map_set, -List.map_append, -List.map_replicate, fold_int, fold_ints, fold_u8, fold_u8s, lv3])
    | (refine WpC.regP rfl (by decide +kernel) fol (by decide +kernel) (by decide +kernel) ?_; simp -implicitDefEqProofs -dsimp [-List.map_set, -List.map_append, -List.map_replicate, fold_int, fold_ints, fold_u8, fold_u8s, lv3])
    | (refine WpC.regI dr3 rfl rfl (by decide +kernel) fol ?_; simp -implicitDefEqProofs -dsimp [dr3, -List.map_set, -List.map_append, -List.map_replicate, fold_int, fold_ints, fold_u8, fold_u8s, lv3])
    | (refine WpC.regM dm3 rfl rfl (by decide +kernel) fol ?_; simp -implicitDefEqProofs -dsimp [dm3, -List.map_set, -List.map_append, -List.map_replicate, fold_int, fold_ints, fold_u8, fold_u8s, lv3])
    | (refine WpC.regQ dq3 rfl rfl (by decide +kernel) fol ?_; simp -implicitDefEqProofs -dsimp [dq3, -List.map_set, -List.map_append, -List.map_replicate, fold_int, fold_ints, fold_u8, fold_u8s, lv3])
    | (refine WpC.skipC rfl ?_; try simp -implicitDefEqProofs -dsimp [-List.map_set, -List.map_append, -List.map_replicate, fold_int, fold_ints, fold_u8, fold_u8s, lv3])
    | (refine WpC.retC rfl ?_; try simp -implicitDefEqProofs -dsimp [-List.map_set, -List.map_append, -List.map_replicate, fold_int, fold_ints, fold_u8, fold_u8s, lv3])
    | (refine WpC.exitC rfl ?_; try simp -implicitDefEqProofs -dsimp [-List.map_set, -List.map_append, -List.map_replicate, fold_int, fold_ints, fold_u8, fold_u8s, lv3])
    | (refine WpC.condK rfl ?_; simp -implicitDefEqProofs -dsimp [-List.map_set, -List.map_append, -List.map_replicate, fold_int, fold_ints, fold_u8, fold_u8s, lv3])
    | with_reducible refine And.intro (fun _ => ?_) (fun _ => ?_)
    | (with_reducible refine And.intro (by omega) ?_))
  refine CallX.by4 (lcut list) true [] 6 (by simp) (by simp) (by simp) (by simp -implicitDefEqProofs [-List.map_set, -List.map_append, -List.map_replicate, fold_int, fold_ints, fold_u8, fold_u8s, rs, rsOb, List.idxOf?_cons]) (by simp -implicitDefEqProofs [-List.map_set, -List.map_append, -List.map_replicate, fold_int, fold_ints, fold_u8, fold_u8s, rs, rsOb, List.idxOf?_cons]) ?_; rintro m T' ⟨rfl, rfl⟩ -; simp -implicitDefEqProofs -dsimp [-List.map_set, -List.map_append, -List.map_replicate, fold_int, fold_ints, fold_u8, fold_u8s, frOb, obMp, setAll, setOb, gMap, lv3]
  have hl50 := cut50_length list
  generalize cut50 list = l at hl50 ⊢
  repeat' (first
    | refine WpC.seqC lv3 rfl ?_
    | refine WpC.blockC rfl ?_
    | (refine WpC.reg rfl rfl ?_; simp -implicitDefEqProofs -dsimp [-List.map_set, -List.map_append, -List.map_replicate, fold_int, fold_ints, fold_u8, fold_u8s, lv3])
    | (refine WpC.regP rfl (by decide +kernel) fol (by decide +kernel) (by decide +kernel) ?_; simp -implicitDefEqProofs -dsimp [-List.map_set, -List.map_append, -List.map_replicate, fold_int, fold_ints, fold_u8, fold_u8s, lv3])
    | (refine WpC.regI dr3 rfl rfl (by decide +kernel) fol ?_; simp -implicitDefEqProofs -dsimp [dr3, -List.map_set, -List.map_append, -List.map_replicate, fold_int, fold_ints, fold_u8, fold_u8s, lv3])
    | (refine WpC.regM dm3 rfl rfl (by decide +kernel) fol ?_; simp -implicitDefEqProofs -dsimp [dm3, -List.map_set, -List.map_append, -List.map_replicate, fold_int, fold_ints, fold_u8, fold_u8s, lv3])
    | (refine WpC.regQ dq3 rfl rfl (by decide +kernel) fol ?_; simp -implicitDefEqProofs -dsimp [dq3, -List.map_set, -List.map_append, -List.map_replicate, fold_int, fold_ints, fold_u8, fold_u8s, lv3])
    | (refine WpC.skipC rfl ?_; try simp -implicitDefEqProofs -dsimp [-List.map_set, -List.map_append, -List.map_replicate, fold_int, fold_ints, fold_u8, fold_u8s, lv3])
    | (refine WpC.retC rfl ?_; try simp -implicitDefEqProofs -dsimp [-List.map_set, -List.map_append, -List.map_replicate, fold_int, fold_ints, fold_u8, fold_u8s, lv3])
    | (refine WpC.exitC rfl ?_; try simp -implicitDefEqProofs -dsimp [-List.map_set, -List.map_append, -List.map_replicate, fold_int, fold_ints, fold_u8, fold_u8s, lv3])
    | (refine WpC.condK rfl ?_; simp -implicitDefEqProofs -dsimp [-List.map_set, -List.map_append, -List.map_replicate, fold_int, fold_ints, fold_u8, fold_u8s, lv3])
    | with_reducible refine And.intro (fun _ => ?_) (fun _ => ?_)
    | (with_reducible refine And.intro (by omega) ?_))
  have hn0 := none0_length nodes
  refine WpC.loopC rfl (fun s => s.1 ≤ l.length ∧ s.2.length ≤ 8) (fun s => ([(2, .sl false (l.flatMap sy) l.length), (7, .ref 1 0), (8, .ref 2 0), (9, int s.1)],
    [.cells true (s.2.map int), obj true 0 s.2 need, .cells true [.sl false (s.2.map int) s.2.length, int need]])) (fun s => l.length - s.1) (0, none0 nodes) ⟨by simp, by simp only; omega⟩ ?_ ?_
  · refine (Gh.unfrAt 2 rfl).trans ?_
    simp -implicitDefEqProofs -dsimp [-List.map_set, -List.map_append, -List.map_replicate, fold_int, fold_ints, fold_u8, fold_u8s, lv3]
    refine Gh.envL ?_
    simp -implicitDefEqProofs -dsimp [-List.map_set, -List.map_append, -List.map_replicate, fold_int, fold_ints, fold_u8, fold_u8s, obMp, keepG, List.idxOf?_cons, leM, envL, i64w]
  · rintro ⟨i, s⟩ ⟨hi, hs⟩ R' hR1 hR2
    simp only at hi hs hR1 ⊢
    repeat' (first
    | refine WpC.seqC lv3 rfl ?_
    | refine WpC.blockC rfl ?_
    | (refine WpC.reg rfl rfl ?_; simp -implicitDefEqProofs -dsimp [-List.map_set, -List.map_append, -List.map_replicate, fold_int, fold_ints, fold_u8, fold_u8s, lv3])
    | (refine WpC.regP rfl (by decide +kernel) fol (by decide +kernel) (by decide +kernel) ?_; simp -implicitDefEqProofs -dsimp [-List.map_set, -List.map_append, -List.map_replicate, fold_int, fold_ints, fold_u8, fold_u8s, lv3])
    | (refine WpC.regI dr3 rfl rfl (by decide +kernel) fol ?_; simp -implicitDefEqProofs -dsimp [dr3, -List.map_set, -List.map_append, -List.map_replicate, fold_int, fold_ints, fold_u8, fold_u8s, lv3])
    | (refine WpC.regM dm3 rfl rfl (by decide +kernel) fol ?_; simp -implicitDefEqProofs -dsimp [dm3, -List.map_set, -List.map_append, -List.map_replicate, fold_int, fold_ints, fold_u8, fold_u8s, lv3])
    | (refine WpC.regQ dq3 rfl rfl (by decide +kernel) fol ?_; simp -implicitDefEqProofs -dsimp [dq3, -List.map_set, -List.map_append, -List.map_replicate, fold_int, fold_ints, fold_u8, fold_u8s, lv3])
    | (refine WpC.skipC rfl ?_; try simp -implicitDefEqProofs -dsimp [-List.map_set, -List.map_append, -List.map_replicate, fold_int, fold_ints, fold_u8, fold_u8s, lv3])
    | (refine WpC.retC rfl ?_; try simp -implicitDefEqProofs -dsimp [-List.map_set, -List.map_append, -List.map_replicate, fold_int, fold_ints, fold_u8, fold_u8s, lv3])
    | (refine WpC.exitC rfl ?_; try simp -implicitDefEqProofs -dsimp [-List.map_set, -List.map_append, -List.map_replicate, fold_int, fold_ints, fold_u8, fold_u8s, lv3])
    | (refine WpC.condK rfl ?_; simp -implicitDefEqProofs -dsimp [-List.map_set, -List.map_append, -List.map_replicate, fold_int, fold_ints, fold_u8, fold_u8s, lv3])
    | with_reducible refine And.intro (fun _ => ?_) (fun _ => ?_)
    | (with_reducible refine And.intro (by omega) ?_))
    · refine hR2 _ _ _ (by simp) ?_
      simp -implicitDefEqProofs -dsimp [-List.map_set, -List.map_append, -List.map_replicate, fold_int, fold_ints, fold_u8, fold_u8s, lv3]
      refine (hR _ _ ?_).1
      simp -implicitDefEqProofs -dsimp [-List.map_set, -List.map_append, -List.map_replicate, fold_int, fold_ints, fold_u8, fold_u8s, lv3, Try.f3, envL]
    · refine CallX.by4 (lsay (rd l i) s need hs (by omega)) false [1, 0] 6 (by simp) (by simp) (by simp) (by simp -implicitDefEqProofs [-List.map_set, -List.map_append, -List.map_replicate, fold_int, fold_ints, fold_u8, fold_u8s, rs, rsOb, List.idxOf?_cons]) (by simp -implicitDefEqProofs [-List.map_set, -List.map_append, -List.map_replicate, fold_int, fold_ints, fold_u8, fold_u8s, rs, rsOb, List.idxOf?_cons]) ?_; rintro m T' ⟨rfl, rfl⟩ -; simp -implicitDefEqProofs -dsimp [-List.map_set, -List.map_append, -List.map_replicate, fold_int, fold_ints, fold_u8, fold_u8s, frOb, obMp, setAll, setOb, gMap, lv3]
      repeat' (first
    | refine WpC.seqC lv3 rfl ?_
    | refine WpC.blockC rfl ?_
    | (refine WpC.reg rfl rfl ?_; simp -implicitDefEqProofs -dsimp [-List.map_set, -List.map_append, -List.map_replicate, fold_int, fold_ints, fold_u8, fold_u8s, lv3])
    | (refine WpC.regP rfl (by decide +kernel) fol (by decide +kernel) (by decide +kernel) ?_; simp -implicitDefEqProofs -dsimp [-List.map_set, -List.map_append, -List.map_replicate, fold_int, fold_ints, fold_u8, fold_u8s, lv3])
    | (refine WpC.regI dr3 rfl rfl (by decide +kernel) fol ?_; simp -implicitDefEqProofs -dsimp [dr3, -List.map_set, -List.map_append, -List.map_replicate, fold_int, fold_ints, fold_u8, fold_u8s, lv3])
    | (refine WpC.regM dm3 rfl rfl (by decide +kernel) fol ?_; simp -implicitDefEqProofs -dsimp [dm3, -List.map_set, -List.map_append, -List.map_replicate, fold_int, fold_ints, fold_u8, fold_u8s, lv3])
    | (refine WpC.regQ dq3 rfl rfl (by decide +kernel) fol ?_; simp -implicitDefEqProofs -dsimp [dq3, -List.map_set, -List.map_append, -List.map_replicate, fold_int, fold_ints, fold_u8, fold_u8s, lv3])
    | (refine WpC.skipC rfl ?_; try simp -implicitDefEqProofs -dsimp [-List.map_set, -List.map_append, -List.map_replicate, fold_int, fold_ints, fold_u8, fold_u8s, lv3])
    | (refine WpC.retC rfl ?_; try simp -implicitDefEqProofs -dsimp [-List.map_set, -List.map_append, -List.map_replicate, fold_int, fold_ints, fold_u8, fold_u8s, lv3])
    | (refine WpC.exitC rfl ?_; try simp -implicitDefEqProofs -dsimp [-List.map_set, -List.map_append, -List.map_replicate, fold_int, fold_ints, fold_u8, fold_u8s, lv3])
    | (refine WpC.condK rfl ?_; simp -implicitDefEqProofs -dsimp [-List.map_set, -List.map_append, -List.map_replicate, fold_int, fold_ints, fold_u8, fold_u8s, lv3])
    | with_reducible refine And.intro (fun _ => ?_) (fun _ => ?_)
    | (with_reducible refine And.intro (by omega) ?_))
      have hs2 := says_length (wh (rd l i).1) (rd l i).2 s
      have hw : ∀ j, (says (wh (rd l i).1) ((rd l i).2.take j) s).length ≤ 8 := fun j => by rw [says_length]; exact hs
      refine WpC.loopC rfl (fun j => j ≤ (rd l i).2.length) (fun j => ([(2, .sl false (l.flatMap sy) l.length), (7, .ref 1 0), (8, .ref 2 0), (9, int i), (10, int j)],
        [.cells true ((says (wh (rd l i).1) (rd l i).2 s).map int), obj true 0 (says (wh (rd l i).1) (rd l i).2 s) need, .cells true [.sl false ((says (wh (rd l i).1) ((rd l i).2.take j) s).map int) (says (wh (rd l i).1) ((rd l i).2.take j) s).length, int need]])) (fun j => (rd l i).2.length - j) 0 (by simp) ?_ ?_
      · refine Gh.envL ?_
        simp -implicitDefEqProofs -dsimp [-List.map_set, -List.map_append, -List.map_replicate, fold_int, fold_ints, fold_u8, fold_u8s, obMp, keepG, List.idxOf?_cons, leM, envL, i64w, says]
      · intro j hj R2 hR3 hR4
        simp only at hj hR3 ⊢
        repeat' (first
    | refine WpC.seqC lv3 rfl ?_
    | refine WpC.blockC rfl ?_
    | (refine WpC.reg rfl rfl ?_; simp -implicitDefEqProofs -dsimp [-List.map_set, -List.map_append, -List.map_replicate, fold_int, fold_ints, fold_u8, fold_u8s, lv3])
    | (refine WpC.regP rfl (by decide +kernel) fol (by decide +kernel) (by decide +kernel) ?_; simp -implicitDefEqProofs -dsimp [-List.map_set, -List.map_append, -List.map_replicate, fold_int, fold_ints, fold_u8, fold_u8s, lv3])
    | (refine WpC.regI dr3 rfl rfl (by decide +kernel) fol ?_; simp -implicitDefEqProofs -dsimp [dr3, -List.map_set, -List.map_append, -List.map_replicate, fold_int, fold_ints, fold_u8, fold_u8s, lv3])
    | (refine WpC.regM dm3 rfl rfl (by decide +kernel) fol ?_; simp -implicitDefEqProofs -dsimp [dm3, -List.map_set, -List.map_append, -List.map_replicate, fold_int, fold_ints, fold_u8, fold_u8s, lv3])
    | (refine WpC.regQ dq3 rfl rfl (by decide +kernel) fol ?_; simp -implicitDefEqProofs -dsimp [dq3, -List.map_set, -List.map_append, -List.map_replicate, fold_int, fold_ints, fold_u8, fold_u8s, lv3])
    | (refine WpC.skipC rfl ?_; try simp -implicitDefEqProofs -dsimp [-List.map_set, -List.map_append, -List.map_replicate, fold_int, fold_ints, fold_u8, fold_u8s, lv3])
    | (refine WpC.retC rfl ?_; try simp -implicitDefEqProofs -dsimp [-List.map_set, -List.map_append, -List.map_replicate, fold_int, fold_ints, fold_u8, fold_u8s, lv3])
    | (refine WpC.exitC rfl ?_; try simp -implicitDefEqProofs -dsimp [-List.map_set, -List.map_append, -List.map_replicate, fold_int, fold_ints, fold_u8, fold_u8s, lv3])
    | (refine WpC.condK rfl ?_; simp -implicitDefEqProofs -dsimp [-List.map_set, -List.map_append, -List.map_replicate, fold_int, fold_ints, fold_u8, fold_u8s, lv3])
    | with_reducible refine And.intro (fun _ => ?_) (fun _ => ?_)
    | (with_reducible refine And.intro (by omega) ?_))
        · have hwt : wh (rd l i).1 = 1 := by simp [wh, *]
          refine CallX.by4 (refSay (says (wh (rd l i).1) ((rd l i).2.take j) s) need (rd (rd l i).2 j) 1 (hw j)) true [] 6 (by simp) (by simp) (by simp) (by simp -implicitDefEqProofs [-List.map_set, -List.map_append, -List.map_replicate, fold_int, fold_ints, fold_u8, fold_u8s, rs, rsOb, List.idxOf?_cons]) (by simp -implicitDefEqProofs [-List.map_set, -List.map_append, -List.map_replicate, fold_int, fold_ints, fold_u8, fold_u8s, rs, rsOb, List.idxOf?_cons]) ?_; rintro m T' ⟨rfl, rfl⟩ -; simp -implicitDefEqProofs -dsimp [-List.map_set, -List.map_append, -List.map_replicate, fold_int, fold_ints, fold_u8, fold_u8s, frOb, obMp, setAll, setOb, gMap, lv3]
          repeat' (first
    | refine WpC.seqC lv3 rfl ?_
    | refine WpC.blockC rfl ?_
    | (refine WpC.reg rfl rfl ?_; simp -implicitDefEqProofs -dsimp [-List.map_set, -List.map_append, -List.map_replicate, fold_int, fold_ints, fold_u8, fold_u8s, lv3])
    | (refine WpC.regP rfl (by decide +kernel) fol (by decide +kernel) (by decide +kernel) ?_; simp -implicitDefEqProofs -dsimp [-List.map_set, -List.map_append, -List.map_replicate, fold_int, fold_ints, fold_u8, fold_u8s, lv3])
    | (refine WpC.regI dr3 rfl rfl (by decide +kernel) fol ?_; simp -implicitDefEqProofs -dsimp [dr3, -List.map_set, -List.map_append, -List.map_replicate, fold_int, fold_ints, fold_u8, fold_u8s, lv3])
    | (refine WpC.regM dm3 rfl rfl (by decide +kernel) fol ?_; simp -implicitDefEqProofs -dsimp [dm3, -List.map_set, -List.map_append, -List.map_replicate, fold_int, fold_ints, fold_u8, fold_u8s, lv3])
    | (refine WpC.regQ dq3 rfl rfl (by decide +kernel) fol ?_; simp -implicitDefEqProofs -dsimp [dq3, -List.map_set, -List.map_append, -List.map_replicate, fold_int, fold_ints, fold_u8, fold_u8s, lv3])
    | (refine WpC.skipC rfl ?_; try simp -implicitDefEqProofs -dsimp [-List.map_set, -List.map_append, -List.map_replicate, fold_int, fold_ints, fold_u8, fold_u8s, lv3])
    | (refine WpC.retC rfl ?_; try simp -implicitDefEqProofs -dsimp [-List.map_set, -List.map_append, -List.map_replicate, fold_int, fold_ints, fold_u8, fold_u8s, lv3])
    | (refine WpC.exitC rfl ?_; try simp -implicitDefEqProofs -dsimp [-List.map_set, -List.map_append, -List.map_replicate, fold_int, fold_ints, fold_u8, fold_u8s, lv3])
    | (refine WpC.condK rfl ?_; simp -implicitDefEqProofs -dsimp [-List.map_set, -List.map_append, -List.map_replicate, fold_int, fold_ints, fold_u8, fold_u8s, lv3])
    | with_reducible refine And.intro (fun _ => ?_) (fun _ => ?_)
    | (with_reducible refine And.intro (by omega) ?_))
          have hst := says_take (wh (rd l i).1) (rd l i).2 s j (by omega)
          rw [hwt] at hst
          refine hR3 (j + 1) _ _ (by omega) (Gh.round [0, 1, 2] (by simp) (by simp) rfl (by simp -implicitDefEqProofs -dsimp [-List.map_set, -List.map_append, -List.map_replicate, fold_int, fold_ints, fold_u8, fold_u8s, obMp, keepG, List.idxOf?_cons, leM, envL, i64w, hwt, hst] <;> (try simp (disch := omega) only [i64w])) (by simp -implicitDefEqProofs -dsimp [-List.map_set, -List.map_append, -List.map_replicate, fold_int, fold_ints, fold_u8, fold_u8s, obMp, keepG, List.idxOf?_cons, leM, envL, i64w, hwt, hst] <;> (try simp (disch := omega) only [i64w]))) (by omega)
        · have hwt : wh (rd l i).1 = 2 := by simp [wh, *]
          refine CallX.by4 (refSay (says (wh (rd l i).1) ((rd l i).2.take j) s) need (rd (rd l i).2 j) 2 (hw j)) true [] 6 (by simp) (by simp) (by simp) (by simp -implicitDefEqProofs [-List.map_set, -List.map_append, -List.map_replicate, fold_int, fold_ints, fold_u8, fold_u8s, rs, rsOb, List.idxOf?_cons]) (by simp -implicitDefEqProofs [-List.map_set, -List.map_append, -List.map_replicate, fold_int, fold_ints, fold_u8, fold_u8s, rs, rsOb, List.idxOf?_cons]) ?_; rintro m T' ⟨rfl, rfl⟩ -; simp -implicitDefEqProofs -dsimp [-List.map_set, -List.map_append, -List.map_replicate, fold_int, fold_ints, fold_u8, fold_u8s, frOb, obMp, setAll, setOb, gMap, lv3]
          repeat' (first
    | refine WpC.seqC lv3 rfl ?_
    | refine WpC.blockC rfl ?_
    | (refine WpC.reg rfl rfl ?_; simp -implicitDefEqProofs -dsimp [-List.map_set, -List.map_append, -List.map_replicate, fold_int, fold_ints, fold_u8, fold_u8s, lv3])
    | (refine WpC.regP rfl (by decide +kernel) fol (by decide +kernel) (by decide +kernel) ?_; simp -implicitDefEqProofs -dsimp [-List.map_set, -List.map_append, -List.map_replicate, fold_int, fold_ints, fold_u8, fold_u8s, lv3])
    | (refine WpC.regI dr3 rfl rfl (by decide +kernel) fol ?_; simp -implicitDefEqProofs -dsimp [dr3, -List.map_set, -List.map_append, -List.map_replicate, fold_int, fold_ints, fold_u8, fold_u8s, lv3])
    | (refine WpC.regM dm3 rfl rfl (by decide +kernel) fol ?_; simp -implicitDefEqProofs -dsimp [dm3, -List.map_set, -List.map_append, -List.map_replicate, fold_int, fold_ints, fold_u8, fold_u8s, lv3])
    | (refine WpC.regQ dq3 rfl rfl (by decide +kernel) fol ?_; simp -implicitDefEqProofs -dsimp [dq3, -List.map_set, -List.map_append, -List.map_replicate, fold_int, fold_ints, fold_u8, fold_u8s, lv3])
    | (refine WpC.skipC rfl ?_; try simp -implicitDefEqProofs -dsimp [-List.map_set, -List.map_append, -List.map_replicate, fold_int, fold_ints, fold_u8, fold_u8s, lv3])
    | (refine WpC.retC rfl ?_; try simp -implicitDefEqProofs -dsimp [-List.map_set, -List.map_append, -List.map_replicate, fold_int, fold_ints, fold_u8, fold_u8s, lv3])
    | (refine WpC.exitC rfl ?_; try simp -implicitDefEqProofs -dsimp [-List.map_set, -List.map_append, -List.map_replicate, fold_int, fold_ints, fold_u8, fold_u8s, lv3])
    | (refine WpC.condK rfl ?_; simp -implicitDefEqProofs -dsimp [-List.map_set, -List.map_append, -List.map_replicate, fold_int, fold_ints, fold_u8, fold_u8s, lv3])
    | with_reducible refine And.intro (fun _ => ?_) (fun _ => ?_)
    | (with_reducible refine And.intro (by omega) ?_))
          have hst := says_take (wh (rd l i).1) (rd l i).2 s j (by omega)
          rw [hwt] at hst
          refine hR3 (j + 1) _ _ (by omega) (Gh.round [0, 1, 2] (by simp) (by simp) rfl (by simp -implicitDefEqProofs -dsimp [-List.map_set, -List.map_append, -List.map_replicate, fold_int, fold_ints, fold_u8, fold_u8s, obMp, keepG, List.idxOf?_cons, leM, envL, i64w, hwt, hst] <;> (try simp (disch := omega) only [i64w])) (by simp -implicitDefEqProofs -dsimp [-List.map_set, -List.map_append, -List.map_replicate, fold_int, fold_ints, fold_u8, fold_u8s, obMp, keepG, List.idxOf?_cons, leM, envL, i64w, hwt, hst] <;> (try simp (disch := omega) only [i64w]))) (by omega)
        · refine hR4 _ _ _ (by simp) ?_
          simp -implicitDefEqProofs -dsimp [-List.map_set, -List.map_append, -List.map_replicate, fold_int, fold_ints, fold_u8, fold_u8s, lv3]
          have hj2 : (rd l i).2.take j = (rd l i).2 := List.take_of_length_le (by omega)
          rw [hj2]
          have hs3 : (says (wh (rd l i).1) (rd l i).2 s).length ≤ 8 := by omega
          generalize says (wh (rd l i).1) (rd l i).2 s = u at hs3 ⊢
          have u1 := whr_length 1 u
          have u2 := whr_length 2 u
          repeat' (first
    | refine WpC.seqC lv3 rfl ?_
    | refine WpC.blockC rfl ?_
    | (refine WpC.reg rfl rfl ?_; simp -implicitDefEqProofs -dsimp [-List.map_set, -List.map_append, -List.map_replicate, fold_int, fold_ints, fold_u8, fold_u8s, lv3])
    | (refine WpC.regP rfl (by decide +kernel) fol (by decide +kernel) (by decide +kernel) ?_; simp -implicitDefEqProofs -dsimp [-List.map_set, -List.map_append, -List.map_replicate, fold_int, fold_ints, fold_u8, fold_u8s, lv3])
    | (refine WpC.regI dr3 rfl rfl (by decide +kernel) fol ?_; simp -implicitDefEqProofs -dsimp [dr3, -List.map_set, -List.map_append, -List.map_replicate, fold_int, fold_ints, fold_u8, fold_u8s, lv3])
    | (refine WpC.regM dm3 rfl rfl (by decide +kernel) fol ?_; simp -implicitDefEqProofs -dsimp [dm3, -List.map_set, -List.map_append, -List.map_replicate, fold_int, fold_ints, fold_u8, fold_u8s, lv3])
    | (refine WpC.regQ dq3 rfl rfl (by decide +kernel) fol ?_; simp -implicitDefEqProofs -dsimp [dq3, -List.map_set, -List.map_append, -List.map_replicate, fold_int, fold_ints, fold_u8, fold_u8s, lv3])
    | (refine WpC.skipC rfl ?_; try simp -implicitDefEqProofs -dsimp [-List.map_set, -List.map_append, -List.map_replicate, fold_int, fold_ints, fold_u8, fold_u8s, lv3])
    | (refine WpC.retC rfl ?_; try simp -implicitDefEqProofs -dsimp [-List.map_set, -List.map_append, -List.map_replicate, fold_int, fold_ints, fold_u8, fold_u8s, lv3])
    | (refine WpC.exitC rfl ?_; try simp -implicitDefEqProofs -dsimp [-List.map_set, -List.map_append, -List.map_replicate, fold_int, fold_ints, fold_u8, fold_u8s, lv3])
    | (refine WpC.condK rfl ?_; simp -implicitDefEqProofs -dsimp [-List.map_set, -List.map_append, -List.map_replicate, fold_int, fold_ints, fold_u8, fold_u8s, lv3])
    | with_reducible refine And.intro (fun _ => ?_) (fun _ => ?_)
    | (with_reducible refine And.intro (by omega) ?_))
          refine CallX.by4 (Count u need) false [] 6 (by simp) (by simp) (by simp) (by simp -implicitDefEqProofs [-List.map_set, -List.map_append, -List.map_replicate, fold_int, fold_ints, fold_u8, fold_u8s, rs, rsOb, List.idxOf?_cons]) (by simp -implicitDefEqProofs [-List.map_set, -List.map_append, -List.map_replicate, fold_int, fold_ints, fold_u8, fold_u8s, rs, rsOb, List.idxOf?_cons]) ?_; rintro m T' ⟨rfl, rfl⟩ -; simp -implicitDefEqProofs -dsimp [-List.map_set, -List.map_append, -List.map_replicate, fold_int, fold_ints, fold_u8, fold_u8s, frOb, obMp, setAll, setOb, gMap, lv3]
          repeat' (first
    | refine WpC.seqC lv3 rfl ?_
    | refine WpC.blockC rfl ?_
    | (refine WpC.reg rfl rfl ?_; simp -implicitDefEqProofs -dsimp [-List.map_set, -List.map_append, -List.map_replicate, fold_int, fold_ints, fold_u8, fold_u8s, lv3])
    | (refine WpC.regP rfl (by decide +kernel) fol (by decide +kernel) (by decide +kernel) ?_; simp -implicitDefEqProofs -dsimp [-List.map_set, -List.map_append, -List.map_replicate, fold_int, fold_ints, fold_u8, fold_u8s, lv3])
    | (refine WpC.regI dr3 rfl rfl (by decide +kernel) fol ?_; simp -implicitDefEqProofs -dsimp [dr3, -List.map_set, -List.map_append, -List.map_replicate, fold_int, fold_ints, fold_u8, fold_u8s, lv3])
    | (refine WpC.regM dm3 rfl rfl (by decide +kernel) fol ?_; simp -implicitDefEqProofs -dsimp [dm3, -List.map_set, -List.map_append, -List.map_replicate, fold_int, fold_ints, fold_u8, fold_u8s, lv3])
    | (refine WpC.regQ dq3 rfl rfl (by decide +kernel) fol ?_; simp -implicitDefEqProofs -dsimp [dq3, -List.map_set, -List.map_append, -List.map_replicate, fold_int, fold_ints, fold_u8, fold_u8s, lv3])
    | (refine WpC.skipC rfl ?_; try simp -implicitDefEqProofs -dsimp [-List.map_set, -List.map_append, -List.map_replicate, fold_int, fold_ints, fold_u8, fold_u8s, lv3])
    | (refine WpC.retC rfl ?_; try simp -implicitDefEqProofs -dsimp [-List.map_set, -List.map_append, -List.map_replicate, fold_int, fold_ints, fold_u8, fold_u8s, lv3])
    | (refine WpC.exitC rfl ?_; try simp -implicitDefEqProofs -dsimp [-List.map_set, -List.map_append, -List.map_replicate, fold_int, fold_ints, fold_u8, fold_u8s, lv3])
    | (refine WpC.condK rfl ?_; simp -implicitDefEqProofs -dsimp [-List.map_set, -List.map_append, -List.map_replicate, fold_int, fold_ints, fold_u8, fold_u8s, lv3])
    | with_reducible refine And.intro (fun _ => ?_) (fun _ => ?_)
    | (with_reducible refine And.intro (by omega) ?_))
          refine CallX.by4 (Of u need 1 hs3) false [] 6 (by simp) (by simp) (by simp) (by simp -implicitDefEqProofs [-List.map_set, -List.map_append, -List.map_replicate, fold_int, fold_ints, fold_u8, fold_u8s, rs, rsOb, List.idxOf?_cons, u1]) (by simp -implicitDefEqProofs [-List.map_set, -List.map_append, -List.map_replicate, fold_int, fold_ints, fold_u8, fold_u8s, rs, rsOb, List.idxOf?_cons, u1]) ?_; rintro m T' ⟨rfl, rfl⟩ -; simp -implicitDefEqProofs -dsimp [-List.map_set, -List.map_append, -List.map_replicate, fold_int, fold_ints, fold_u8, fold_u8s, frOb, obMp, setAll, setOb, gMap, lv3, u1]
          refine CallX.by4 (Of u need 2 hs3) false [] 6 (by simp) (by simp) (by simp) (by simp -implicitDefEqProofs [-List.map_set, -List.map_append, -List.map_replicate, fold_int, fold_ints, fold_u8, fold_u8s, rs, rsOb, List.idxOf?_cons, u2]) (by simp -implicitDefEqProofs [-List.map_set, -List.map_append, -List.map_replicate, fold_int, fold_ints, fold_u8, fold_u8s, rs, rsOb, List.idxOf?_cons, u2]) ?_; rintro m T' ⟨rfl, rfl⟩ -; simp -implicitDefEqProofs -dsimp [-List.map_set, -List.map_append, -List.map_replicate, fold_int, fold_ints, fold_u8, fold_u8s, frOb, obMp, setAll, setOb, gMap, lv3, u2]
          refine CallX.by4 (Done u need) false [] 6 (by simp) (by simp) (by simp) (by simp -implicitDefEqProofs [-List.map_set, -List.map_append, -List.map_replicate, fold_int, fold_ints, fold_u8, fold_u8s, rs, rsOb, List.idxOf?_cons]) (by simp -implicitDefEqProofs [-List.map_set, -List.map_append, -List.map_replicate, fold_int, fold_ints, fold_u8, fold_u8s, rs, rsOb, List.idxOf?_cons]) ?_; rintro m T' ⟨rfl, rfl⟩ -; simp -implicitDefEqProofs -dsimp [-List.map_set, -List.map_append, -List.map_replicate, fold_int, fold_ints, fold_u8, fold_u8s, frOb, obMp, setAll, setOb, gMap, lv3]
          refine CallX.by4 (refDone u need hs3) false [] 6 (by simp) (by simp) (by simp) (by simp -implicitDefEqProofs [-List.map_set, -List.map_append, -List.map_replicate, fold_int, fold_ints, fold_u8, fold_u8s, rs, rsOb, List.idxOf?_cons]) (by simp -implicitDefEqProofs [-List.map_set, -List.map_append, -List.map_replicate, fold_int, fold_ints, fold_u8, fold_u8s, rs, rsOb, List.idxOf?_cons]) ?_; rintro m T' ⟨rfl, rfl⟩ -; simp -implicitDefEqProofs -dsimp [-List.map_set, -List.map_append, -List.map_replicate, fold_int, fold_ints, fold_u8, fold_u8s, frOb, obMp, setAll, setOb, gMap, lv3]
          refine CallX.by4 (Lost u need hs3) false [] 6 (by simp) (by simp) (by simp) (by simp -implicitDefEqProofs [-List.map_set, -List.map_append, -List.map_replicate, fold_int, fold_ints, fold_u8, fold_u8s, rs, rsOb, List.idxOf?_cons]) (by simp -implicitDefEqProofs [-List.map_set, -List.map_append, -List.map_replicate, fold_int, fold_ints, fold_u8, fold_u8s, rs, rsOb, List.idxOf?_cons]) ?_; rintro m T' ⟨rfl, rfl⟩ -; simp -implicitDefEqProofs -dsimp [-List.map_set, -List.map_append, -List.map_replicate, fold_int, fold_ints, fold_u8, fold_u8s, frOb, obMp, setAll, setOb, gMap, lv3]
          refine CallX.by4 (refLost u need hs3) false [] 6 (by simp) (by simp) (by simp) (by simp -implicitDefEqProofs [-List.map_set, -List.map_append, -List.map_replicate, fold_int, fold_ints, fold_u8, fold_u8s, rs, rsOb, List.idxOf?_cons]) (by simp -implicitDefEqProofs [-List.map_set, -List.map_append, -List.map_replicate, fold_int, fold_ints, fold_u8, fold_u8s, rs, rsOb, List.idxOf?_cons]) ?_; rintro m T' ⟨rfl, rfl⟩ -; simp -implicitDefEqProofs -dsimp [-List.map_set, -List.map_append, -List.map_replicate, fold_int, fold_ints, fold_u8, fold_u8s, frOb, obMp, setAll, setOb, gMap, lv3]
          refine CallX.by4 (Waiting u need hs3) false [] 6 (by simp) (by simp) (by simp) (by simp -implicitDefEqProofs [-List.map_set, -List.map_append, -List.map_replicate, fold_int, fold_ints, fold_u8, fold_u8s, rs, rsOb, List.idxOf?_cons]) (by simp -implicitDefEqProofs [-List.map_set, -List.map_append, -List.map_replicate, fold_int, fold_ints, fold_u8, fold_u8s, rs, rsOb, List.idxOf?_cons]) ?_; rintro m T' ⟨rfl, rfl⟩ -; simp -implicitDefEqProofs -dsimp [-List.map_set, -List.map_append, -List.map_replicate, fold_int, fold_ints, fold_u8, fold_u8s, frOb, obMp, setAll, setOb, gMap, lv3]
          refine CallX.by4 (Of u need 0 hs3) false [] 6 (by simp) (by simp) (by simp) (by simp -implicitDefEqProofs [-List.map_set, -List.map_append, -List.map_replicate, fold_int, fold_ints, fold_u8, fold_u8s, rs, rsOb, List.idxOf?_cons]) (by simp -implicitDefEqProofs [-List.map_set, -List.map_append, -List.map_replicate, fold_int, fold_ints, fold_u8, fold_u8s, rs, rsOb, List.idxOf?_cons]) ?_; rintro m T' ⟨rfl, rfl⟩ -; simp -implicitDefEqProofs -dsimp [-List.map_set, -List.map_append, -List.map_replicate, fold_int, fold_ints, fold_u8, fold_u8s, frOb, obMp, setAll, setOb, gMap, lv3]
          refine CallX.by4 (SameInts (whr 0 u) (whr 0 u) (whr_small 0 u hs3)) false [] 6 (by simp) (by simp) (by simp) (by simp -implicitDefEqProofs [-List.map_set, -List.map_append, -List.map_replicate, fold_int, fold_ints, fold_u8, fold_u8s, rs, rsOb, List.idxOf?_cons]) (by simp -implicitDefEqProofs [-List.map_set, -List.map_append, -List.map_replicate, fold_int, fold_ints, fold_u8, fold_u8s, rs, rsOb, List.idxOf?_cons]) ?_; rintro m T' ⟨rfl, rfl⟩ -; simp -implicitDefEqProofs -dsimp [-List.map_set, -List.map_append, -List.map_replicate, fold_int, fold_ints, fold_u8, fold_u8s, frOb, obMp, setAll, setOb, gMap, lv3]
          repeat' (first
    | refine WpC.seqC lv3 rfl ?_
    | refine WpC.blockC rfl ?_
    | (refine WpC.reg rfl rfl ?_; simp -implicitDefEqProofs -dsimp [-List.map_set, -List.map_append, -List.map_replicate, fold_int, fold_ints, fold_u8, fold_u8s, lv3])
    | (refine WpC.regP rfl (by decide +kernel) fol (by decide +kernel) (by decide +kernel) ?_; simp -implicitDefEqProofs -dsimp [-List.map_set, -List.map_append, -List.map_replicate, fold_int, fold_ints, fold_u8, fold_u8s, lv3])
    | (refine WpC.regI dr3 rfl rfl (by decide +kernel) fol ?_; simp -implicitDefEqProofs -dsimp [dr3, -List.map_set, -List.map_append, -List.map_replicate, fold_int, fold_ints, fold_u8, fold_u8s, lv3])
    | (refine WpC.regM dm3 rfl rfl (by decide +kernel) fol ?_; simp -implicitDefEqProofs -dsimp [dm3, -List.map_set, -List.map_append, -List.map_replicate, fold_int, fold_ints, fold_u8, fold_u8s, lv3])
    | (refine WpC.regQ dq3 rfl rfl (by decide +kernel) fol ?_; simp -implicitDefEqProofs -dsimp [dq3, -List.map_set, -List.map_append, -List.map_replicate, fold_int, fold_ints, fold_u8, fold_u8s, lv3])
    | (refine WpC.skipC rfl ?_; try simp -implicitDefEqProofs -dsimp [-List.map_set, -List.map_append, -List.map_replicate, fold_int, fold_ints, fold_u8, fold_u8s, lv3])
    | (refine WpC.retC rfl ?_; try simp -implicitDefEqProofs -dsimp [-List.map_set, -List.map_append, -List.map_replicate, fold_int, fold_ints, fold_u8, fold_u8s, lv3])
    | (refine WpC.exitC rfl ?_; try simp -implicitDefEqProofs -dsimp [-List.map_set, -List.map_append, -List.map_replicate, fold_int, fold_ints, fold_u8, fold_u8s, lv3])
    | (refine WpC.condK rfl ?_; simp -implicitDefEqProofs -dsimp [-List.map_set, -List.map_append, -List.map_replicate, fold_int, fold_ints, fold_u8, fold_u8s, lv3])
    | with_reducible refine And.intro (fun _ => ?_) (fun _ => ?_)
    | (with_reducible refine And.intro (by omega) ?_))
          refine hR1 (i + 1, u) _ _ ⟨by simp only; omega, hs3⟩ (Gh.round [0, 1, 2] (by simp) (by simp) rfl (by simp -implicitDefEqProofs -dsimp [-List.map_set, -List.map_append, -List.map_replicate, fold_int, fold_ints, fold_u8, fold_u8s, obMp, keepG, List.idxOf?_cons, leM, envL, i64w] <;> (try simp (disch := omega) only [i64w])) (by simp -implicitDefEqProofs -dsimp [-List.map_set, -List.map_append, -List.map_replicate, fold_int, fold_ints, fold_u8, fold_u8s, obMp, keepG, List.idxOf?_cons, leM, envL, i64w] <;> (try simp (disch := omega) only [i64w]))) (by simp only; omega)
    · refine hR2 _ _ _ (by simp) ?_
      simp -implicitDefEqProofs -dsimp [-List.map_set, -List.map_append, -List.map_replicate, fold_int, fold_ints, fold_u8, fold_u8s, lv3]
      repeat' (first
    | refine WpC.seqC lv3 rfl ?_
    | refine WpC.blockC rfl ?_
    | (refine WpC.reg rfl rfl ?_; simp -implicitDefEqProofs -dsimp [-List.map_set, -List.map_append, -List.map_replicate, fold_int, fold_ints, fold_u8, fold_u8s, lv3])
    | (refine WpC.regP rfl (by decide +kernel) fol (by decide +kernel) (by decide +kernel) ?_; simp -implicitDefEqProofs -dsimp [-List.map_set, -List.map_append, -List.map_replicate, fold_int, fold_ints, fold_u8, fold_u8s, lv3])
    | (refine WpC.regI dr3 rfl rfl (by decide +kernel) fol ?_; simp -implicitDefEqProofs -dsimp [dr3, -List.map_set, -List.map_append, -List.map_replicate, fold_int, fold_ints, fold_u8, fold_u8s, lv3])
    | (refine WpC.regM dm3 rfl rfl (by decide +kernel) fol ?_; simp -implicitDefEqProofs -dsimp [dm3, -List.map_set, -List.map_append, -List.map_replicate, fold_int, fold_ints, fold_u8, fold_u8s, lv3])
    | (refine WpC.regQ dq3 rfl rfl (by decide +kernel) fol ?_; simp -implicitDefEqProofs -dsimp [dq3, -List.map_set, -List.map_append, -List.map_replicate, fold_int, fold_ints, fold_u8, fold_u8s, lv3])
    | (refine WpC.skipC rfl ?_; try simp -implicitDefEqProofs -dsimp [-List.map_set, -List.map_append, -List.map_replicate, fold_int, fold_ints, fold_u8, fold_u8s, lv3])
    | (refine WpC.retC rfl ?_; try simp -implicitDefEqProofs -dsimp [-List.map_set, -List.map_append, -List.map_replicate, fold_int, fold_ints, fold_u8, fold_u8s, lv3])
    | (refine WpC.exitC rfl ?_; try simp -implicitDefEqProofs -dsimp [-List.map_set, -List.map_append, -List.map_replicate, fold_int, fold_ints, fold_u8, fold_u8s, lv3])
    | (refine WpC.condK rfl ?_; simp -implicitDefEqProofs -dsimp [-List.map_set, -List.map_append, -List.map_replicate, fold_int, fold_ints, fold_u8, fold_u8s, lv3])
    | with_reducible refine And.intro (fun _ => ?_) (fun _ => ?_)
    | (with_reducible refine And.intro (by omega) ?_))
      refine CallX.by4 (Done s need) false [] 6 (by simp) (by simp) (by simp) (by simp -implicitDefEqProofs [-List.map_set, -List.map_append, -List.map_replicate, fold_int, fold_ints, fold_u8, fold_u8s, rs, rsOb, List.idxOf?_cons]) (by simp -implicitDefEqProofs [-List.map_set, -List.map_append, -List.map_replicate, fold_int, fold_ints, fold_u8, fold_u8s, rs, rsOb, List.idxOf?_cons]) ?_; rintro m T' ⟨rfl, rfl⟩ -; simp -implicitDefEqProofs -dsimp [-List.map_set, -List.map_append, -List.map_replicate, fold_int, fold_ints, fold_u8, fold_u8s, frOb, obMp, setAll, setOb, gMap, lv3]
      refine CallX.by4 (refDone s need hs) false [] 6 (by simp) (by simp) (by simp) (by simp -implicitDefEqProofs [-List.map_set, -List.map_append, -List.map_replicate, fold_int, fold_ints, fold_u8, fold_u8s, rs, rsOb, List.idxOf?_cons]) (by simp -implicitDefEqProofs [-List.map_set, -List.map_append, -List.map_replicate, fold_int, fold_ints, fold_u8, fold_u8s, rs, rsOb, List.idxOf?_cons]) ?_; rintro m T' ⟨rfl, rfl⟩ -; simp -implicitDefEqProofs -dsimp [-List.map_set, -List.map_append, -List.map_replicate, fold_int, fold_ints, fold_u8, fold_u8s, frOb, obMp, setAll, setOb, gMap, lv3]
      refine CallX.by4 (Lost s need hs) false [] 6 (by simp) (by simp) (by simp) (by simp -implicitDefEqProofs [-List.map_set, -List.map_append, -List.map_replicate, fold_int, fold_ints, fold_u8, fold_u8s, rs, rsOb, List.idxOf?_cons]) (by simp -implicitDefEqProofs [-List.map_set, -List.map_append, -List.map_replicate, fold_int, fold_ints, fold_u8, fold_u8s, rs, rsOb, List.idxOf?_cons]) ?_; rintro m T' ⟨rfl, rfl⟩ -; simp -implicitDefEqProofs -dsimp [-List.map_set, -List.map_append, -List.map_replicate, fold_int, fold_ints, fold_u8, fold_u8s, frOb, obMp, setAll, setOb, gMap, lv3]
      refine CallX.by4 (refLost s need hs) false [] 6 (by simp) (by simp) (by simp) (by simp -implicitDefEqProofs [-List.map_set, -List.map_append, -List.map_replicate, fold_int, fold_ints, fold_u8, fold_u8s, rs, rsOb, List.idxOf?_cons]) (by simp -implicitDefEqProofs [-List.map_set, -List.map_append, -List.map_replicate, fold_int, fold_ints, fold_u8, fold_u8s, rs, rsOb, List.idxOf?_cons]) ?_; rintro m T' ⟨rfl, rfl⟩ -; simp -implicitDefEqProofs -dsimp [-List.map_set, -List.map_append, -List.map_replicate, fold_int, fold_ints, fold_u8, fold_u8s, frOb, obMp, setAll, setOb, gMap, lv3]
      refine CallX.by4 (Waiting s need hs) false [] 6 (by simp) (by simp) (by simp) (by simp -implicitDefEqProofs [-List.map_set, -List.map_append, -List.map_replicate, fold_int, fold_ints, fold_u8, fold_u8s, rs, rsOb, List.idxOf?_cons]) (by simp -implicitDefEqProofs [-List.map_set, -List.map_append, -List.map_replicate, fold_int, fold_ints, fold_u8, fold_u8s, rs, rsOb, List.idxOf?_cons]) ?_; rintro m T' ⟨rfl, rfl⟩ -; simp -implicitDefEqProofs -dsimp [-List.map_set, -List.map_append, -List.map_replicate, fold_int, fold_ints, fold_u8, fold_u8s, frOb, obMp, setAll, setOb, gMap, lv3]
      refine CallX.by4 (Of s need 0 hs) false [] 6 (by simp) (by simp) (by simp) (by simp -implicitDefEqProofs [-List.map_set, -List.map_append, -List.map_replicate, fold_int, fold_ints, fold_u8, fold_u8s, rs, rsOb, List.idxOf?_cons]) (by simp -implicitDefEqProofs [-List.map_set, -List.map_append, -List.map_replicate, fold_int, fold_ints, fold_u8, fold_u8s, rs, rsOb, List.idxOf?_cons]) ?_; rintro m T' ⟨rfl, rfl⟩ -; simp -implicitDefEqProofs -dsimp [-List.map_set, -List.map_append, -List.map_replicate, fold_int, fold_ints, fold_u8, fold_u8s, frOb, obMp, setAll, setOb, gMap, lv3]
      refine CallX.by4 (SameInts (whr 0 s) (whr 0 s) (whr_small 0 s hs)) false [] 6 (by simp) (by simp) (by simp) (by simp -implicitDefEqProofs [-List.map_set, -List.map_append, -List.map_replicate, fold_int, fold_ints, fold_u8, fold_u8s, rs, rsOb, List.idxOf?_cons]) (by simp -implicitDefEqProofs [-List.map_set, -List.map_append, -List.map_replicate, fold_int, fold_ints, fold_u8, fold_u8s, rs, rsOb, List.idxOf?_cons]) ?_; rintro m T' ⟨rfl, rfl⟩ -; simp -implicitDefEqProofs -dsimp [-List.map_set, -List.map_append, -List.map_replicate, fold_int, fold_ints, fold_u8, fold_u8s, frOb, obMp, setAll, setOb, gMap, lv3]
      repeat' (first
    | refine WpC.seqC lv3 rfl ?_
    | refine WpC.blockC rfl ?_
    | (refine WpC.reg rfl rfl ?_; simp -implicitDefEqProofs -dsimp [-List.map_set, -List.map_append, -List.map_replicate, fold_int, fold_ints, fold_u8, fold_u8s, lv3])
    | (refine WpC.regP rfl (by decide +kernel) fol (by decide +kernel) (by decide +kernel) ?_; simp -implicitDefEqProofs -dsimp [-List.map_set, -List.map_append, -List.map_replicate, fold_int, fold_ints, fold_u8, fold_u8s, lv3])
    | (refine WpC.regI dr3 rfl rfl (by decide +kernel) fol ?_; simp -implicitDefEqProofs -dsimp [dr3, -List.map_set, -List.map_append, -List.map_replicate, fold_int, fold_ints, fold_u8, fold_u8s, lv3])
    | (refine WpC.regM dm3 rfl rfl (by decide +kernel) fol ?_; simp -implicitDefEqProofs -dsimp [dm3, -List.map_set, -List.map_append, -List.map_replicate, fold_int, fold_ints, fold_u8, fold_u8s, lv3])
    | (refine WpC.regQ dq3 rfl rfl (by decide +kernel) fol ?_; simp -implicitDefEqProofs -dsimp [dq3, -List.map_set, -List.map_append, -List.map_replicate, fold_int, fold_ints, fold_u8, fold_u8s, lv3])
    | (refine WpC.skipC rfl ?_; try simp -implicitDefEqProofs -dsimp [-List.map_set, -List.map_append, -List.map_replicate, fold_int, fold_ints, fold_u8, fold_u8s, lv3])
    | (refine WpC.retC rfl ?_; try simp -implicitDefEqProofs -dsimp [-List.map_set, -List.map_append, -List.map_replicate, fold_int, fold_ints, fold_u8, fold_u8s, lv3])
    | (refine WpC.exitC rfl ?_; try simp -implicitDefEqProofs -dsimp [-List.map_set, -List.map_append, -List.map_replicate, fold_int, fold_ints, fold_u8, fold_u8s, lv3])
    | (refine WpC.condK rfl ?_; simp -implicitDefEqProofs -dsimp [-List.map_set, -List.map_append, -List.map_replicate, fold_int, fold_ints, fold_u8, fold_u8s, lv3])
    | with_reducible refine And.intro (fun _ => ?_) (fun _ => ?_)
    | (with_reducible refine And.intro (by omega) ?_))
      refine (hR _ _ ?_).1
      simp -implicitDefEqProofs -dsimp [-List.map_set, -List.map_append, -List.map_replicate, fold_int, fold_ints, fold_u8, fold_u8s, lv3, Try.f3, envL]
end Go.Proofs.Ytpbgiccloeihcaa
