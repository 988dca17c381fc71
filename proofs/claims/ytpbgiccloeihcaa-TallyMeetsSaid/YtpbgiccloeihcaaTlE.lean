/- The tree logic, part E: the laws of what makes memory, of addresses and parts. -/
import Derived.Test.YtpbgiccloeihcaaTlD
namespace Go.Tl
open Go.RowKit

section
variable {P : Program} {A : Nat → Prop} {w0 : World} {β0 : Nat → Option Nat} {T0 : Tbl} {w : World} {β : Nat → Option Nat} {T : Tbl} {K : M → Tbl → Prop}

theorem rep_new_ref (fr : Bool) (cs : List M) (w' : World) (β' : Nat → Option Nat) (k : Nat) (hβ : β' T.length = some k) : RepS A w0 w' β' (T ++ [.cells fr cs]) (.ref T.length 0) (.pointer (some ⟨k, 0, none⟩)) := by
  simp only [RepS, Rep]
  exact .inr ⟨live_append.2 (.inr ⟨rfl, fr, cs, rfl⟩), k, hβ, rfl⟩

theorem push_old (w : World) (o : Obj) (k : Nat) (h : k < w.heap.size) : (w.heap.push o)[k]? = w.heap[k]? := by rw [Array.getElem?_push, if_neg (by omega)]

/-- A new variable. -/
theorem new_ok {q : Bool} (t : TypeId) {x : Value} {cs : List M} {us : List Value} (hP : Post A w0 β0 T0 w β T) (hx : x.cells = us.toArray) (hr : RepSL A w0 w β T cs us)
    (hK : K (.ref T.length 0) (T ++ [.cells true cs])) : Yld P q (do pure (.pointer (some (← newVar t x)))) A w0 β0 T0 w β T K := by
  refine ⟨.pointer (some ⟨w.heap.size, 0, none⟩), _, _, _, _, ?_, hK, hP.alloc true (us := us) [] t hr, rep_new_ref true cs _ _ _ (by simp [setβ]), fun _ k hk => push_old _ _ k hk⟩
  simp [newVar, newRow, hx]

theorem box_ok {q : Bool} {t : TypeId} {m : M} {x : Value} {cs : List M} (hP : Post A w0 β0 T0 w β T) (hr : RepS A w0 w β T m x) (hc : cellsOf T m = some cs) (hK : K (.ref T.length 0) (T ++ [.cells true cs])) :
    Yld P q (Instr.box t x) A w0 β0 T0 w β T K := by
  obtain ⟨us, hx, hus⟩ := cellsOf_rep hc hr
  exact new_ok t hP hx hus hK

theorem alloc_ok {q : Bool} {t : TypeId} {k : LK} {n : Nat} {z : List Value} (hP : Post A w0 β0 T0 w β T) (hl : lay P t = some (k, n, z)) (hK : K (.ref T.length 0) (T ++ [.cells true (z.map .v)])) :
    Yld P q (Instr.alloc t true (.tuple #[])) A w0 β0 T0 w β T K := by
  obtain ⟨zv, hz, hzc⟩ := run_zero (w := w) hl
  obtain ⟨x, w', m, T', β', h1, h2⟩ := new_ok (P := P) (q := q) (K := K) t (x := zv) hP (us := z) (by rw [← hzc]) (RepL.of_v z) hK
  refine ⟨x, w', m, T', β', ?_, h2⟩
  simp only [Instr.alloc, Sem.run_bind, hz, Result.andThen_ok]
  exact h1

theorem foldl_fill (vs : List Value) : ∀ (off : Nat) (us : List Value) (k : Nat), off + k + vs.length ≤ us.length →
    (vs.toArray.zipIdx k).foldl (fun cs (c, j) => cs.setIfInBounds (off + j) c) us.toArray = (us.take (off + k) ++ vs ++ us.drop (off + k + vs.length)).toArray := by
  induction vs with
  | nil =>
    intro off us k _
    have e : (#[] : Array Value).zipIdx k = #[] := Array.eq_empty_of_size_eq_zero (by simp)
    simp [e]
  | cons v vs ih =>
    intro off us k h
    simp only [List.length_cons] at h
    have e : (v :: vs).toArray.zipIdx k = ((v, k) :: vs.zipIdx (k + 1)).toArray := by simp
    have e2 : vs.toArray.zipIdx (k + 1) = (vs.zipIdx (k + 1)).toArray := by simp
    have ih' := ih off (us.set (off + k) v) (k + 1) (by simp; omega)
    rw [e2] at ih'
    rw [e]
    simp only [List.size_toArray, List.foldl_toArray', List.foldl_cons] at ih' ⊢
    simp only [List.setIfInBounds_toArray]
    rw [ih']
    congr 1
    simp only [List.length_cons]
    have hlt : off + k < us.length := by omega
    rw [List.take_set, show off + (k + 1) = off + k + 1 from by omega, List.drop_set_of_lt (by omega), List.take_succ_eq_append_getElem hlt, List.set_append_right _ _ (by rw [List.length_take]; omega)]
    simp only [List.length_take, Nat.min_eq_left (Nat.le_of_lt hlt), Nat.sub_self, List.set_cons_zero, List.append_assoc, List.cons_append, List.nil_append]
    rw [show off + k + 1 + vs.length = off + k + (vs.length + 1) from by omega]

theorem fill_ok {place : Nat → Option (Nat × Nat)} : ∀ {ps : List (Nat × M)} {xs : List (Nat × Value)} {cs cs' : List M} {us : List Value}, fillM T place cs ps = some cs' → RepSL A w0 w β T cs us →
    ps.map (·.1) = xs.map (·.1) → RepSL A w0 w β T (ps.map (·.2)) (xs.map (·.2)) → ∃ us', Instr.fill place us.toArray xs = some us'.toArray ∧ RepSL A w0 w β T cs' us'
  | [], xs, cs, cs', us, h, hr, hk, _ => by
    simp only [fillM, Option.some.injEq] at h
    subst h
    cases xs with
    | nil => exact ⟨us, rfl, hr⟩
    | cons x xs => simp at hk
  | (i, m) :: ps, xs, cs, cs', us, h, hr, hk, hv => by
    cases xs with
    | nil => simp at hk
    | cons x xs =>
      obtain ⟨i', x⟩ := x
      simp only [List.map_cons, List.cons.injEq] at hk
      obtain ⟨rfl, hk⟩ := hk
      simp only [List.map_cons, RepSL, RepL, List.cons.injEq] at hv
      obtain ⟨x', xs', ⟨rfl, rfl⟩, hx, hv⟩ := hv
      simp only [fillM] at h
      split at h
      · rename_i off size ns hp hc
        split at h
        · rename_i hcond
          obtain ⟨hn, hle⟩ := hcond
          obtain ⟨vs, hxc, hvs⟩ := cellsOf_rep hc hx
          have hl1 := hvs.length
          have hl0 := RepL.length hr
          have hstep : RepSL A w0 w β T (cs.take off ++ ns ++ cs.drop (off + size)) (us.take off ++ vs ++ us.drop (off + size)) := ((RepL.take hr off).append hvs).append (RepL.drop hr _)
          obtain ⟨us', h1, h2⟩ := fill_ok h hstep hk hv
          refine ⟨us', ?_, h2⟩
          rw [← h1]
          have hf := foldl_fill vs off us 0 (by omega)
          simp only [Nat.add_zero] at hf
          simp only [Instr.fill, hp, hxc]
          rw [if_neg (by simp; omega)]
          rw [show vs.length = size from by omega] at hf
          rw [← hf]
        · cases h
      · cases h

/-- A struct or an array out of parts. -/
def opBuild (P : Program) (T : Tbl) (t : TypeId) (parts : List (Nat × M)) (K : M → Prop) : Prop :=
  ∃ k n z, lay P t = some (k, n, z) ∧ (match k with
    | .st ps _ => ∃ cs, fillM T (ps[·]?) (z.map .v) parts = some cs ∧ K (.agg cs)
    | .ar _ e _ => ∃ cs, fillM T (fun i => some (i * e, e)) (z.map .v) parts = some cs ∧ K (.agg cs)
    | _ => False)

theorem run_places {w : World} : ∀ (fs : List Field) (ps : List (Nat × Nat)), (fs.mapM fun (f : Field) => (P.info? f.type).map fun j => (f.offset, j.size)) = some ps →
    (fs.mapM fun (f : Field) => do pure (f.offset, ← sizeOf f.type)).run P w = .ok ps w
  | [], ps, h => by simp at h; subst h; simp
  | f :: fs, ps, h => by
    simp only [List.mapM_cons] at h
    cases hi : P.info? f.type with
    | none => rw [hi] at h; simp at h
    | some j =>
      rw [hi] at h
      simp only [Option.map_some, Option.bind_eq_bind, Option.bind_some, Option.pure_def] at h
      simp only [Option.bind_eq_some_iff, Option.some.injEq] at h
      obtain ⟨ps', h1, rfl⟩ := h
      have ih := run_places (w := w) fs ps' h1
      simp only [List.mapM_cons, Sem.run_bind, run_sizeOf hi, Result.andThen_ok, Sem.run_pure, ih]

theorem build_ok {t : TypeId} {ps : List (Nat × M)} {xs : List (Nat × Value)} {K : M → Prop} (hk : ps.map (·.1) = xs.map (·.1)) (hv : RepSL A w0 w β T (ps.map (·.2)) (xs.map (·.2)))
    (h : opBuild P T t ps K) : ∃ y m, (∀ w', (Instr.build t xs.toArray).run P w' = .ok y w') ∧ RepS A w0 w β T m y ∧ K m := by
  obtain ⟨k, n, z, hl, h⟩ := h
  obtain ⟨d, i, zv, h1, h2, h3, h4, _, hzc⟩ := lay_spec hl
  have hz : ∀ w, (zeroValue t).run P w = .ok zv w := fun w => run_zeroValue h2 h3
  have hzc' : zv.cells = z.toArray := by rw [← hzc]
  split at h
  · rename_i pl pags
    obtain ⟨cs, hf, hK⟩ := h
    obtain ⟨us', hu, hr⟩ := fill_ok hf (RepL.of_v z) hk hv
    refine ⟨.agg us'.toArray, .agg cs, fun w => ?_, by simp only [RepS, Rep]; exact ⟨us', rfl, hr⟩, hK⟩
    unfold layK at h4
    split at h4
    · rename_i fs
      simp only [Option.bind_eq_some_iff, Option.map_eq_some_iff, LK.st.injEq] at h4
      obtain ⟨ps', h5, _, _, rfl, _⟩ := h4
      have hpl := run_places (w := w) fs.toList ps' h5
      have hmap : (fs.mapM fun (f : Field) => do pure (f.offset, ← sizeOf f.type)).run P w = .ok ps'.toArray w := by
        rw [Array.mapM_eq_mapM_toList]
        rw [Sem.run_map, hpl]
        rfl
      simp only [Instr.build, Sem.run_bind, hz, Result.andThen_ok, run_underlying h1, hmap, hzc']
      have : (fun (x : Nat) => ps'.toArray[x]?) = (fun (x : Nat) => ps'[x]?) := by funext x; simp
      simp only [this, hu]
      rfl
    · simp only [Option.bind_eq_some_iff, Option.map_eq_some_iff] at h4; obtain ⟨_, _, _, _, h4⟩ := h4; cases h4
    · simp only [Option.bind_eq_some_iff, Option.map_eq_some_iff] at h4; obtain ⟨_, _, _, _, h4⟩ := h4; cases h4
    · cases h4
  · rename_i na e eag
    obtain ⟨cs, hf, hK⟩ := h
    obtain ⟨us', hu, hr⟩ := fill_ok hf (RepL.of_v z) hk hv
    refine ⟨.agg us'.toArray, .agg cs, fun w => ?_, by simp only [RepS, Rep]; exact ⟨us', rfl, hr⟩, hK⟩
    unfold layK at h4
    split at h4
    · simp only [Option.bind_eq_some_iff, Option.map_eq_some_iff] at h4; obtain ⟨_, _, _, _, h4⟩ := h4; cases h4
    · simp only [Option.bind_eq_some_iff, Option.map_eq_some_iff, LK.ar.injEq] at h4
      obtain ⟨j, h5, _, _, rfl, rfl, _⟩ := h4
      simp only [Instr.build, Sem.run_bind, hz, Result.andThen_ok, run_underlying h1, run_sizeOf h5, hzc', hu]
      rfl
    · simp only [Option.bind_eq_some_iff, Option.map_eq_some_iff] at h4; obtain ⟨_, _, _, _, h4⟩ := h4; cases h4
    · cases h4
  · exact h.elim

theorem range_mod (z : List Value) (len : Nat) : ((Array.range (len * z.toArray.size)).map (z.toArray[· % z.toArray.size]!)) = ((List.replicate len z).flatten).toArray := by
  apply Array.ext'
  simp only [Array.toList_map, Array.toList_range, List.size_toArray]
  apply List.ext_getElem?
  intro j
  rcases Nat.eq_zero_or_pos z.length with h0 | hpos
  · have : z = [] := List.length_eq_zero_iff.1 h0
    subst this; simp
  induction len generalizing j with
  | zero => simp
  | succ len ih =>
    rw [List.replicate_succ, List.flatten_cons, List.getElem?_append]
    by_cases hj : j < z.length
    · rw [if_pos hj]
      have : j < (len + 1) * z.length := by rw [Nat.succ_mul]; omega
      simp [this, Nat.mod_eq_of_lt hj, hj]
    · rw [if_neg hj]
      have ih' := ih (j - z.length)
      rw [← ih']
      simp only [List.getElem?_map]
      by_cases hlt : j < (len + 1) * z.length
      · have h2 : j - z.length < len * z.length := by rw [Nat.succ_mul] at hlt; omega
        have hm : (j - z.length) % z.length = j % z.length := by
          conv => rhs; rw [show j = j - z.length + z.length from by omega]
          rw [Nat.add_mod_right]
        simp [hlt, h2, hm]
      · have h2 : ¬ (j - z.length < len * z.length) := by rw [Nat.succ_mul] at hlt; omega
        simp [hlt, h2]

/-- A slice of so many zeros. -/
def zeros (n : Nat) (z : List Value) : List M := (List.replicate n (z.map M.v)).flatten

theorem zeros_rep (n : Nat) (z : List Value) : RepSL A w0 w β T (zeros n z) (List.replicate n z).flatten := by
  have : zeros n z = ((List.replicate n z).flatten).map M.v := by
    unfold zeros
    rw [List.map_flatten, List.map_replicate]
  rw [this]
  exact RepL.of_v _

theorem rep_new_sr (fr : Bool) {cs : List M} {w' : World} {β' : Nat → Option Nat} {k len cap sz : Nat} (hβ : β' T.length = some k) (hl : len ≤ cap) (hc : cap ≤ maxLen) {n : Nat} (hn : bsize w' k = some n) (hs : cap * sz ≤ n) :
    RepS A w0 w' β' (T ++ [.cells fr cs]) (.sr T.length 0 len sz) (.slice (some ⟨k, 0, none⟩) len cap) := by
  simp only [RepS, Rep]
  exact .inr ⟨live_append.2 (.inr ⟨rfl, fr, cs, rfl⟩), .inl ⟨k, cap, n, hβ, rfl, hl, hc, hn, by omega⟩⟩

theorem bsize_push (w : World) (c : Array Value) (t : TypeId) : bsize { w with heap := w.heap.push (.cells c t) } w.heap.size = some c.size := by
  unfold bsize
  simp

/-- A slice written out. -/
def opBuildSlice (P : Program) (T : Tbl) (t : TypeId) (len : Nat) (parts : List (Nat × M)) (K : M → Tbl → Prop) : Prop :=
  ∃ e b ez n z, lay P t = some (.sl e b ez, n, z) ∧ len * e ≤ 2 ^ 24 ∧ len ≤ 9223372036854775807 ∧ ez.length = e ∧ ∃ cs, fillM T (fun i => some (i * e, e)) (zeros len ez) parts = some cs ∧ cs.length = len * e ∧
    K (.sr T.length 0 len e) (T ++ [.cells true cs])

theorem layK_sl {d : TypeDesc} {e b : Nat} {ez : List Value} (h : layK P d = some (.sl e b ez)) : ∃ el j zv, d = .slice el ∧ P.info? el = some j ∧ j.zero = some zv ∧ j.size = e ∧ j.bytes = b ∧ zv.cells.toList = ez := by
  unfold layK at h
  split at h
  · simp only [Option.bind_eq_some_iff, Option.map_eq_some_iff] at h; obtain ⟨_, _, _, _, h⟩ := h; cases h
  · simp only [Option.bind_eq_some_iff, Option.map_eq_some_iff] at h; obtain ⟨_, _, _, _, h⟩ := h; cases h
  · rename_i el
    simp only [Option.bind_eq_some_iff, Option.map_eq_some_iff, LK.sl.injEq] at h
    obtain ⟨j, h1, zv, h2, rfl, rfl, rfl⟩ := h
    exact ⟨el, j, zv, rfl, h1, h2, rfl, rfl, rfl⟩
  · cases h

theorem buildSlice_ok {q : Bool} {t : TypeId} {len : Nat} {ps : List (Nat × M)} {xs : List (Nat × Value)} (hP : Post A w0 β0 T0 w β T) (hk : ps.map (·.1) = xs.map (·.1)) (hv : RepSL A w0 w β T (ps.map (·.2)) (xs.map (·.2)))
    (h : opBuildSlice P T t len ps K) : Yld P q (Instr.buildSlice t len xs.toArray) A w0 β0 T0 w β T K := by
  obtain ⟨e, b, ez, n, z, hl, hle, hmax, hez, cs, hf, hcl, hK⟩ := h
  obtain ⟨d, i, zv, h1, _, _, h4, _, _⟩ := lay_spec hl
  obtain ⟨el, j, zv', rfl, h5, h6, rfl, _, rfl⟩ := layK_sl h4
  obtain ⟨us', hu, hr⟩ := fill_ok hf (zeros_rep len _) hk hv
  have hlen := RepL.length hr
  refine ⟨.slice (some ⟨w.heap.size, 0, none⟩) len len, _, _, _, _, ?_, hK, hP.alloc true (us := us') [] el hr, rep_new_sr true (by simp [setβ]) (Nat.le_refl _) (by unfold maxLen; exact hmax) (bsize_push _ _ _) (by simp; omega), fun _ k hk => push_old _ _ k hk⟩
  have hgt : ¬ (len * j.size > 2 ^ 24) := by omega
  by_cases h0 : len * j.size = 0
  · have hnil : (List.replicate len zv'.cells.toList).flatten = [] := by
      apply List.length_eq_zero_iff.1
      simp only [List.length_flatten, List.map_replicate, List.sum_replicate_nat, hez, h0]
    rw [hnil] at hu
    simp only [Instr.buildSlice, Sem.run_bind, run_underlying h1, Result.andThen_ok, run_sizeOf h5, if_neg hgt]
    simp [h0, show Array.range 0 = #[] from rfl, hu, newRow]
  · have hcells := range_mod zv'.cells.toList len
    simp only [Array.toArray_toList] at hcells
    rw [show zv'.cells.size = j.size from by rw [← hez]; simp] at hcells
    simp only [Instr.buildSlice, Sem.run_bind, run_underlying h1, Result.andThen_ok, run_sizeOf h5, if_neg hgt]
    simp only [h0, if_false, Sem.run_bind, run_zeroValue h5 h6, Result.andThen_ok, Sem.run_pure]
    rw [show zv'.cells.size = j.size from by rw [← hez]; simp, hcells]
    simp [hu, newRow]
end
end Go.Tl
