/- The tree logic, part K: regions whose order is drawn. -/
import Derived.Test.YtpbgiccloeihcaaTlJ
namespace Go.Tl
open Go.RowKit

section
variable {P : Program} {q : Bool} {A : Nat → Prop} {w0 : World} {β0 : Nat → Option Nat} {T0 : Tbl} {w : World} {β : Nat → Option Nat} {T : Tbl} {K : M → Tbl → Prop}

theorem load_ok2 {t : TypeId} {m : M} {x : Value} {K : M → Prop} (hP : Post A w0 β0 T0 w β T) (hr : RepS A w0 w β T m x) (h : opLoad P T t m K) :
    ∃ (a : Addr) (y : Value) (m' : M), x = .pointer (some a) ∧ (∀ w' : World, w'.heap[a.block]? = w.heap[a.block]? → (Instr.loadAt t x).run P w' = .ok y w') ∧ RepS A w0 w β T m' y ∧ K m' := by
  obtain ⟨k, n, z, hl, cs, off, hb, hk⟩ := h
  obtain ⟨a, us, rfl, hus, hat⟩ := behind_rep hP hb hr
  have h12 : ∀ w', (isAgg t).run P w' = .ok k.ag w' ∧ (sizeOf t).run P w' = .ok n w' := fun w' => run_isAgg (w := w') hl
  have hsure : ∀ w', (Instr.sureAddr (.pointer (some a))).run P w' = .ok a w' := fun _ => rfl
  have hat' : ∀ w' : World, w'.heap[a.block]? = w.heap[a.block]? → ∀ (j : Nat) (u : Value), us[off + j]? = some u → w'.cell? (a.add j) = some u := fun w' hw j u hu =>
    (cell?_of_heap (a := a.add j) (by rw [add_block]; exact hw)).trans (hat j u hu)
  cases hag : k.ag
  · rw [hag] at hk
    simp only at hk
    obtain ⟨c, hc, hK⟩ := hk
    obtain ⟨u, hu, hru⟩ := hus.get hc
    refine ⟨a, u, c, rfl, fun w' hw => ?_, hru, hK⟩
    have hcell := hat' w' hw 0 u (by simpa using hu)
    have e : a.add 0 = a := by simp [Addr.add]
    rw [e] at hcell
    simp only [Instr.loadAt, Sem.run_bind, hsure, Result.andThen_ok, loadVar, (h12 w').1, hag]
    simp [run_load, hcell]
  · rw [hag] at hk
    simp only at hk
    obtain ⟨hn, hK⟩ := hk
    have hlen := hus.length
    have hsub : RepSL A w0 w β T ((cs.drop off).take n) ((us.drop off).take n) := (hus.drop off).take n
    refine ⟨a, .agg ((us.drop off).take n).toArray, _, rfl, fun w' hw => ?_, ?_, hK⟩
    · have hll : ((us.drop off).take n).length = n := by rw [List.length_take, List.length_drop]; omega
      have := run_loadCells_list (P := P) w' a ((us.drop off).take n) (fun j v hv => by
        refine hat' w' hw j v ?_
        rw [List.getElem?_take] at hv
        split at hv
        · rw [List.getElem?_drop] at hv; exact hv
        · cases hv)
      rw [hll] at this
      simp only [Instr.loadAt, Sem.run_bind, hsure, Result.andThen_ok, loadVar, (h12 w').1, hag, if_true, (h12 w').2, this, Sem.run_pure]
    · simp only [RepS, Rep]
      exact ⟨_, rfl, hsub⟩

theorem flat_of {s : Sem Value} (h : ∃ y m, (∀ w, s.run P w = .ok y w) ∧ RepS A w0 w β T m y ∧ K m T) :
    ∃ y m, (∀ w', (do pure (.value (← s)) : Sem Next).run P w' = .ok (.value y) w') ∧ RepS A w0 w β T m y ∧ K m T := by
  obtain ⟨y, m, h1, h2, h3⟩ := h
  exact ⟨y, m, fun w' => by simp only [Sem.run_bind, h1, Result.andThen_ok, Sem.run_pure], h2, h3⟩

theorem opV_flat {env : Env} {a : Act} {o : Oper} (hE : EnvR A w0 w β T env a) (hP : Post A w0 β0 T0 w β T) (hf : flatKind o.op = true) (h : opV P q env T o.op K) :
    ∃ y m, (∀ w', (execOp a.eval o).run P w' = .ok (.value y) w') ∧ RepS A w0 w β T m y ∧ K m T := by
  obtain ⟨dst, op, ty, pos, aft, g⟩ := o
  cases op <;> simp only [flatKind] at hf <;> (try cases hf) <;> simp only [opV] at h <;> simp only [execOp]
  case move x => exact ⟨_, _, fun _ => rfl, ev_rep hE x, h⟩
  case assign x => exact ⟨_, _, fun _ => rfl, ev_rep hE x, h⟩
  case pick c x y =>
    have hc := ev_rep hE c
    split at h
    · rename_i t ht
      rw [ht] at hc
      simp only [RepS, Rep] at hc
      rw [hc]
      cases t
      · exact ⟨_, _, fun _ => rfl, ev_rep hE y, h⟩
      · exact ⟨_, _, fun _ => rfl, ev_rep hE x, h⟩
    · exact h.elim
  case build t ps =>
    obtain ⟨y, m, h1, h2, h3⟩ := build_ok (P := P) (w := w) (pairs_fst (a := a) ps) (pairs_snd hE ps) h
    simp only [Array.toArray_toList] at h1
    exact ⟨y, m, fun w' => by simp only [Sem.run_bind, h1, Result.andThen_ok, Sem.run_pure], h2, h3⟩
  case nilCheck x =>
    have hx := ev_rep hE x
    split at h
    · rename_i id off e
      rw [e] at hx
      obtain ⟨hc, hK⟩ := h
      obtain ⟨a', hp, _⟩ := ref_shift (o := 0) ((not_gone_of hc).1 _ _ rfl) hx
      rw [hp] at hx ⊢
      exact ⟨_, _, fun _ => rfl, hx, hK⟩
    · rename_i fr cells off e
      rw [e] at hx
      obtain ⟨a', hp, _⟩ := ip_shift (o := 0) hx
      rw [hp] at hx ⊢
      exact ⟨_, _, fun _ => rfl, hx, h⟩
    · rename_i f fs cs e
      rw [e] at hx
      obtain ⟨us, vs, hp, _⟩ := fn_rep hx
      rw [hp] at hx ⊢
      exact ⟨_, _, fun _ => rfl, hx, h⟩
    · exact h.elim
  case binOp op t x y yt => exact flat_of (bin_ok (ev_rep hE x) (ev_rep hE y) h)
  case unOp op t x => exact flat_of (un_ok (ev_rep hE x) h)
  case convert s d x => exact flat_of (convert_ok (ev_rep hE x) h)
  case makeFunc fn fs cs =>
    refine ⟨.func fn (fs.map a.eval) (cs.map a.eval), _, fun _ => rfl, ?_, h⟩
    simp only [RepS, Rep]
    exact ⟨fs.toList.map a.eval, cs.toList.map a.eval, by rw [toArray_map, toArray_map], ev_repL hE fs, ev_repL hE cs⟩
  case slice t x lo hi mx =>
    obtain ⟨hc, h⟩ := h
    exact flat_of (slice_ok hP (ev_rep hE x) (repO_map hE lo) (repO_map hE hi) (repO_map hE mx) (not_gone_of hc).1 (not_gone_of hc).2 h)
  case fieldAddr t x f =>
    obtain ⟨hc, h⟩ := h
    exact flat_of (fieldAddr_ok (ev_rep hE x) (not_gone_of hc).1 h)
  case indexAddr t x i =>
    obtain ⟨hc, h⟩ := h
    exact flat_of (indexAddr_ok (ev_rep hE x) (ev_rep hE i) (not_gone_of hc).1 (not_gone_of hc).2 h)
  case field t x f => exact flat_of (field_ok (ev_rep hE x) h)
  case index t x i => exact flat_of (index_ok (ev_rep hE x) (ev_rep hE i) h)
  case extract x i => exact flat_of (extract_ok (ev_rep hE x) h)
  case call c =>
    obtain ⟨callee, args, ats⟩ := c
    cases callee with
    | value f => cases hf
    | invoke _ _ => cases hf
    | builtin b =>
      simp only at h hf
      have hrr := ev_repL hE args
      rw [show args.toList.map a.eval = (args.map a.eval).toList from by simp] at hrr
      simp only [resolve, Sem.run_bind, Sem.run_pure, Result.andThen_ok, invoke]
      unfold opBuiltin at h
      split at h
      · rename_i m hms
        rw [hms] at hrr
        simp only [RepSL, RepL] at hrr
        obtain ⟨u, us', hus, hu, rfl⟩ := hrr
        have harr : args.map a.eval = #[u] := by rw [← Array.toArray_toList (xs := args.map a.eval), hus]
        rw [harr]
        unfold opLen at h
        split at h
        case h_2 => exact h.elim
        rename_i t ht
        split at h
        · rename_i el hul
          obtain ⟨hc, hs, n, hn, hK⟩ := h
          have hrun := len_run (P := P) (ty := ty) hul hn (fun s e => by subst e; exact hs) hc hu ats ht
          exact ⟨.int .i64 (n : Int), _, fun w' => by simp [builtin, hrun w'], by simp only [RepS, Rep], hK⟩
        · rename_i hul
          split at h
          · rename_i s
            simp only [Rep] at hu
            subst hu
            exact ⟨.int .i64 (s.size : Int), _, fun w' => by simp [builtin, Builtin.len_, ht, Go.run_underlying hul, goInt], by simp only [RepS, Rep], h⟩
          · exact h.elim
        · rename_i n el hul
          exact ⟨.int .i64 (n : Int), _, fun w' => by simp [builtin, Builtin.len_, ht, Go.run_underlying hul, goInt], by simp only [RepS, Rep], h⟩
        · exact h.elim
      · cases hf
      · rename_i x y hms
        rw [hms] at hrr
        simp only [RepSL, RepL] at hrr
        obtain ⟨u, us', hus, hu, v, vs', rfl, hv, rfl⟩ := hrr
        have harr : args.map a.eval = #[u, v] := by rw [← Array.toArray_toList (xs := args.map a.eval), hus]
        rw [harr]
        obtain ⟨r, h1, h2⟩ := h
        obtain ⟨z, h3, h4⟩ := minmax_ok (P := P) hu hv h1 ats ty
        exact ⟨z, r, fun w' => by simp only [builtin, Sem.run_bind]; rw [show (Builtin.min_ ats ty #[u, v]).run P w' = .ok z w' from by simpa using h3 w']; rfl, h4, h2⟩
      · rename_i x y hms
        rw [hms] at hrr
        simp only [RepSL, RepL] at hrr
        obtain ⟨u, us', hus, hu, v, vs', rfl, hv, rfl⟩ := hrr
        have harr : args.map a.eval = #[u, v] := by rw [← Array.toArray_toList (xs := args.map a.eval), hus]
        rw [harr]
        obtain ⟨r, h1, h2⟩ := h
        obtain ⟨z, h3, h4⟩ := minmax_ok (P := P) hu hv h1 ats ty
        exact ⟨z, r, fun w' => by simp only [builtin, Sem.run_bind]; rw [show (Builtin.max_ ats ty #[u, v]).run P w' = .ok z w' from by simpa using h3 w']; rfl, h4, h2⟩
      · exact h.elim

theorem opV_loadRef {env : Env} {a : Act} {o : Oper} {N : Nat} (hE : EnvR A w0 w β T env a) (hP : Post A w0 β0 T0 w β T) (hf : loadRef env N o.op = true) (h : opV P q env T o.op K) :
    ∃ id g y m, id < N ∧ live T id ∧ β id = some g ∧ (∀ w' : World, w'.heap[g]? = w.heap[g]? → (execOp a.eval o).run P w' = .ok (.value y) w') ∧ RepS A w0 w β T m y ∧ K m T := by
  obtain ⟨dst, op, ty, pos, aft, gd⟩ := o
  cases op <;> simp only [loadRef] at hf <;> (try cases hf)
  case load t x =>
    simp only [opV] at h
    split at hf
    · rename_i id off e
      have hx := ev_rep hE x
      obtain ⟨ad, y, m', h1, h2, h3, h4⟩ := load_ok2 hP hx h
      have hng : ¬ isGone T id := fun hg => by
        rw [e] at h
        obtain ⟨_, _, _, _, cs, o', hb, _⟩ := h
        simp only [behind] at hb
        unfold isGone at hg
        rw [hg] at hb
        cases hb
      rw [e] at hx
      simp only [RepS, Rep] at hx
      rcases hx with hx | ⟨hl, g, hg, hx⟩
      · exact absurd hx hng
      · rw [h1] at hx
        injection hx with hx
        injection hx with hx
        subst hx
        refine ⟨id, g, y, m', by simpa using hf, hl, hg, fun w' hw => ?_, h3, h4⟩
        simp only [execOp, Sem.run_bind, h2 w' hw, Result.andThen_ok, Sem.run_pure]
    · cases hf
end

/-- In which order a region is walked: 'tk i': number i may be taken first; 'all': whichever of these comes up. -/
inductive Plan where
  | done
  | tk (i : Nat) (p : Plan)
  | all (ps : List (Nat × Plan))
  deriving Inhabited

def isLoad : Op → Bool
  | .load .. => true
  | _ => false

mutual
def planOk (ops : Array Oper) (q : Bool) : Nat → Plan → Array Bool → Bool
  | _, .done, l => (Region.ready .any ops l).isEmpty
  | 0, _, _ => false
  | fuel + 1, .tk i p, l => (match ops[i]? with | some o => flatKind o.op || (q && isLoad o.op) | none => false) && Region.free .any ops l i && (Region.ready .any ops l).contains i && planOk ops q fuel p (l.setIfInBounds i true)
  | fuel + 1, .all ps, l => (Region.ready .any ops l == ps.map (·.1)) && !ps.isEmpty && planOkL ops q fuel ps l
def planOkL (ops : Array Oper) (q : Bool) : Nat → List (Nat × Plan) → Array Bool → Bool
  | _, [], _ => true
  | fuel, (i, p) :: ps, l => planOk ops q fuel p (l.setIfInBounds i true) && planOkL ops q fuel ps l
end

mutual
def wpP (P : Program) (n : Nat) (ops : Array Oper) (q : Bool) (N : Nat) (K : Env → Tbl → Prop) : Plan → Env → Tbl → Prop
  | .done, env, T => K env T
  | .tk i p, env, T => match ops[i]? with
    | some o => guardM ops o env ((flatKind o.op = true ∨ loadRef env N o.op = true) ∧ opV P q env T o.op fun m T' => wpP P n ops q N K p (updO n env o.dst m) T') (wpP P n ops q N K p (updO n env o.dst .any) T)
    | none => False
  | .all ps, env, T => wpPL P n ops q N K ps env T
def wpPL (P : Program) (n : Nat) (ops : Array Oper) (q : Bool) (N : Nat) (K : Env → Tbl → Prop) : List (Nat × Plan) → Env → Tbl → Prop
  | [], _, _ => True
  | (i, p) :: ps, env, T => (match ops[i]? with
    | some o => guardM ops o env (opV P q env T o.op fun m T' => wpP P n ops q N K p (updO n env o.dst m) T') (wpP P n ops q N K p (updO n env o.dst .any) T)
    | none => False) ∧ wpPL P n ops q N K ps env T
end
end Go.Tl
