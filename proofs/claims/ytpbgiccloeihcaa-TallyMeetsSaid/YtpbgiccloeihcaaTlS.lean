/- The tree logic, part S: a law's contract is its row. -/
import Derived.Test.YtpbgiccloeihcaaTlR
import Derived.Handed
import Derived.JoinedOf
import Derived.KernelRfl
import Derived.ProofKit
namespace Go.Tl
open Go.RowKit Go.ChangeShapes Go.WideShapes

/-- One argument: a tree, boxed where its type is made of parts. -/
def argT : Sh → M → Prop
  | .unit, m => ∃ cs, m = .agg cs ∧ Tree .unit cs
  | .pair a b, m => ∃ cs, m = .agg cs ∧ Tree (.pair a b) cs
  | s, m => Tree s [m]

def argsT : List Sh → List M → Prop
  | [], ms => ms = []
  | s :: ss, ms => ∃ m ns, ms = m :: ns ∧ argT s m ∧ argsT ss ns

def Sh.many : Sh → Bool
  | .unit | .pair _ _ => true
  | _ => false

/-- Closed facts on a law's parameters. -/
def aggT (P : Program) (t : TypeId) : Bool :=
  match P.underlying t with
  | some (.struct _) | some (.array _ _) => true
  | _ => false

def shArg (P : Program) (t : TypeId) : Option Sh :=
  (shOf P 20 t).bind fun s => if s.many = aggT P t ∧ P.readableRec t = true ∧ t < P.types.size then some s else none

theorem shArg_spec {P : Program} {t : TypeId} {s : Sh} (hs : shArg P t = some s) : shOf P 20 t = some s ∧ s.many = aggT P t ∧ P.readableRec t = true ∧ t < P.types.size := by
  unfold shArg at hs
  rw [Option.bind_eq_some_iff] at hs
  obtain ⟨s', h1, h2⟩ := hs
  by_cases hc : s'.many = aggT P t ∧ P.readableRec t = true ∧ t < P.types.size
  · rw [if_pos hc] at h2
    cases h2
    exact ⟨h1, hc⟩
  · rw [if_neg hc] at h2
    cases h2

section
variable {H : Type} {enc : TypeId × Value → H} {P : Program} {w : World} {base : Nat} {β : Nat → Option Nat}

theorem tree_one {s : Sh} {ms : List M} (h : s.many = false) (ht : Tree s ms) : ∃ m, ms = [m] := by
  have := ht.width
  cases s <;> simp [Sh.many] at h <;> simp [Sh.width] at this
  all_goals (match ms, this with | [m], _ => exact ⟨m, rfl⟩)

theorem argT_one {s : Sh} {m : M} (h : s.many = false) (ht : Tree s [m]) : argT s m := by
  cases s <;> simp [Sh.many] at h <;> exact ht

theorem argT_many {s : Sh} {cs : List M} (h : s.many = true) (ht : Tree s cs) : argT s (.agg cs) := by
  cases s <;> simp [Sh.many] at h <;> exact ⟨cs, rfl, ht⟩

theorem arg_tree {t : TypeId} {s : Sh} {v : Value} {d : DataW H} {ps : List MemPlace} {sp : Nat → Bool} (hs : shArg P t = some s) (hval : Value.okWide P w .any base t v) (hd : DataW.Trod enc P w 0 sp true t v d ps) :
    ∃ m, argT s m ∧ Rep w β (okNil w β) [] m v := by
  obtain ⟨h1, hmany, _, _⟩ := shArg_spec hs
  obtain ⟨fuel, hx⟩ := hd
  obtain ⟨ms, h3, h4⟩ := treads (β := β) 20 t s h1 fuel _ _ hx
  cases hm : s.many with
  | true =>
    rw [hm] at hmany
    have : ∃ cs, v = .agg cs := by
      unfold aggT at hmany
      unfold Value.okWide at hval
      split at hmany
      · rename_i hu
        rw [hu] at hval
        obtain ⟨cs, rfl, _⟩ := hval
        exact ⟨cs, rfl⟩
      · rename_i hu
        rw [hu] at hval
        obtain ⟨cs, rfl, _⟩ := hval
        exact ⟨cs, rfl⟩
      · cases hmany
    obtain ⟨cs, rfl⟩ := this
    exact ⟨.agg ms, argT_many hm h3, by simp only [Rep]; exact ⟨cs.toList, by simp, by simpa [Value.cells] using h4⟩⟩
  | false =>
    rw [hm] at hmany
    obtain ⟨m, rfl⟩ := tree_one hm h3
    have hv : v.cells = #[v] := by
      cases v <;> first | rfl | skip
      rename_i cs
      exfalso
      unfold aggT at hmany
      unfold Value.okWide at hval
      split at hval
      · rename_i hu; rw [hu] at hmany; simp at hmany
      · rename_i hu; rw [hu] at hmany; simp at hmany
      · unfold Cell.okWide at hval
        split at hval <;> try (simp_all; done)
        unfold Cell.ok at hval
        split at hval <;> simp_all
    rw [hv] at h4
    simp only [RepL] at h4
    obtain ⟨u, vs, h5, h6, h7⟩ := h4
    simp at h5
    obtain ⟨rfl, rfl⟩ := h5
    exact ⟨m, argT_one hm h3, h6⟩

theorem args_tree : ∀ {ts : List TypeId} {ss : List Sh} {vs : List Value} {ds : List (DataW H)} {ps : List MemPlace}, ts.mapM (shArg P) = some ss →
    (∀ (j : Nat) t v, ts[j]? = some t → vs[j]? = some v → Value.okWide P w .any base t v) → DataW.TrodAll enc P w 0 (fun _ => true) true ts vs ds ps →
    ∃ ms, argsT ss ms ∧ RepL w β (okNil w β) [] ms vs
  | [], ss, [], [], ps, hs, _, _ => by
    simp at hs; subst hs
    exact ⟨[], rfl, by simp [RepL]⟩
  | [], _, _ :: _, _, _, _, _, h => h.elim
  | [], _, [], _ :: _, _, _, _, h => h.elim
  | _ :: _, _, [], _, _, _, _, h => h.elim
  | _ :: _, _, _ :: _, [], _, _, _, h => h.elim
  | t :: ts, ss, v :: vs, d :: ds, ps, hs, hval, h => by
    obtain ⟨p, q, h1, h2, rfl⟩ := h
    simp only [List.mapM_cons] at hs
    cases ha : shArg P t with
    | none => rw [ha] at hs; simp at hs
    | some a =>
      rw [ha] at hs
      cases hb : ts.mapM (shArg P) with
      | none => rw [hb] at hs; simp at hs
      | some b =>
        rw [hb] at hs
        simp at hs
        subst hs
        obtain ⟨m, h3, h4⟩ := arg_tree (β := β) ha (hval 0 t v rfl rfl) h1
        obtain ⟨ms, h5, h6⟩ := args_tree hb (fun j t' v' hj hv => hval (j + 1) t' v' hj hv) h2
        exact ⟨m :: ms, ⟨m, ms, rfl, h3, h5⟩, by simp only [RepL]; exact ⟨v, vs, rfl, h4, h6⟩⟩

theorem args_stay (hl : laidOutB P = true) {W W' : World} (hb : Below W.heap.size W W') {sp : Nat → Bool} : ∀ {ts : List TypeId} {ss : List Sh} {vs : List Value} {ds : List (DataW H)} {ps : List MemPlace}, ts.mapM (shArg P) = some ss →
    DataW.TrodAll enc P W 0 (fun _ => true) true ts vs ds ps → (∀ p ∈ ps, p.block < W.heap.size) → (∀ p ∈ ps, sp p.block = true) → DataW.TrodAll enc P W' 0 sp true ts vs ds ps
  | [], _, [], [], _, _, h, _, _ => h
  | [], _, _ :: _, _, _, _, h, _, _ => h.elim
  | [], _, [], _ :: _, _, _, h, _, _ => h.elim
  | _ :: _, _, [], _, _, _, h, _, _ => h.elim
  | _ :: _, _, _ :: _, [], _, _, h, _, _ => h.elim
  | t :: ts, ss, v :: vs, d :: ds, ps, hs, h, hlt, hsp => by
    obtain ⟨p, q, h1, h2, rfl⟩ := h
    simp only [List.mapM_cons] at hs
    cases ha : shArg P t with
    | none => rw [ha] at hs; simp at hs
    | some a =>
      rw [ha] at hs
      cases hbb : ts.mapM (shArg P) with
      | none => rw [hbb] at hs; simp at hs
      | some b =>
        obtain ⟨_, _, hc1, hc2⟩ := shArg_spec ha
        refine ⟨p, q, WideElems.Trod_stays hl hc1 hc2 h1 (fun x hx => hb.same (hlt x (by simp [hx]))) (fun x hx => hsp x (by simp [hx])), ?_, rfl⟩
        exact args_stay hl hb hbb h2 (fun x hx => hlt x (by simp [hx])) (fun x hx => hsp x (by simp [hx]))

theorem Post.start (w : World) (β : Nat → Option Nat) : Post (fun _ => True) w β [] w β [] where
  os := rfl
  tape := rfl
  output := rfl
  size := Nat.le_refl _
  frame := fun _ _ _ => rfl
  wf := by
    constructor <;> intros <;> first | (exact absurd (by assumption) (not_live_nil _)) | simp_all
  len := Nat.le_refl _
  old := fun i hi => absurd hi (by simp)
  new := fun i b _ hl => absurd hl (not_live_nil i)

theorem Post.below {A : Nat → Prop} {w w' : World} {β β' : Nat → Option Nat} {T' : Tbl} (h : Post A w β [] w' β' T') : Below w.heap.size w w' :=
  ⟨h.os, h.tape, h.output, h.size, fun k hk => h.frame k hk fun i hi => absurd hi (not_live_nil i)⟩
end

/-- A law that is true at every tree. -/
theorem law_lifted {C : Checked} {os : Os} {f : FuncId} {fn : Func} {s : ChangeSpec} {H : Type} {enc : TypeId × Value → H} {dom : List PathCond} {apart fresh handsOn again : Bool} {tb : TypeId} {ss : List Sh}
    (own : ownKnob C.prog.godebug = none) (started : os.Started) (noInit : C.prog.inits.idxOf? f = none) (hfn : C.prog.funcs[f]? = some fn)
    (witness : ∃ (w : World) (tape : Tape) (i : Input), w.os = os ∧ (w.forCall tape i).Shaped C.prog ∧ i.vars = [] ∧ Input.okWide C.prog (w.forCall tape i) .any w.heap.size f i ∧
      s.pre6 enc C.prog fn dom apart (w.forCall tape i).memory i.args ∧ ({} : Assume).holds C.prog (lone (Frame.enter C.prog f i.args .normal) [] (w.forCall tape i)))
    (hl : laidOutB C.prog = true) (hss : fn.params.toList.mapM (shArg C.prog) = some ss) (hres : fn.resultTypes = #[tb]) (htb : C.prog.underlying tb = some .bool)
    (hvars : s.vars = []) (hfnr : ∀ ds : List (DataW H), ds.length = ss.length → (s.fn H ds) = { results := [.lit (.bool true)], args := ds, vars := [] })
    (con : ∀ ms, argsT ss ms → Con C.prog f ms [] fun m _ => m = .v (.bool true)) :
    ReturnsInHanded {} C os f .any (s.pre6 enc C.prog fn dom apart) (s.post enc C.prog fn apart fresh handsOn again) := by
  refine returnsInHanded_of_change own started noInit hfn witness ?_
  intro W base args ds gs before hval hW _ _
  have hW' := hW
  obtain ⟨p, q, hA, hV, rfl, hfz, hnd⟩ := hW
  rw [hvars] at hV
  obtain ⟨rfl, rfl⟩ : gs = [] ∧ q = [] := by
    cases gs with
    | nil => exact ⟨rfl, hV⟩
    | cons => exact hV.elim
  obtain ⟨ms, hms, hrep⟩ := args_tree (β := fun _ => none) hss (fun j t v hj hv => hval j t v (by simpa using hj) (by simpa using hv)) hA
  have hlen : ds.length = ss.length := by
    have h1 : ∀ {ts : List TypeId} {vs : List Value} {ds : List (DataW H)} {ps : List MemPlace}, DataW.TrodAll enc C.prog W 0 (fun _ => true) true ts vs ds ps → ds.length = ts.length := by
      intro ts
      induction ts with
      | nil => intro vs ds ps h; cases vs <;> cases ds <;> first | rfl | exact h.elim
      | cons t ts ih =>
        intro vs ds ps h
        cases vs <;> cases ds <;> first | exact h.elim | skip
        obtain ⟨_, _, _, h2, _⟩ := h
        simp [ih h2]
    rw [h1 hA, ← mapM_some_length hss]
  have hout := hfnr ds hlen
  refine ((con ms hms).2 (fun _ => True) W (fun _ => none) args.toList (Post.start W _) hrep).mono fun e W' ⟨x, m, T', β', he, hm, hPost, hrx⟩ => ?_
  subst hm
  simp only [RepS, Rep] at hrx
  subst hrx
  have hb := hPost.below
  have hlt : ∀ x ∈ p, x.block < W.heap.size := fun x hx => hW'.lt x (by simpa using hx)
  have hres' : ∀ (b : Nat) (sp : Nat → Bool) (hd : Bool), DataW.TrodAll enc C.prog W' b sp hd fn.resultTypes.toList ((Value.bool true).resultList fn.resultTypes.size) (s.fn H (ds ++ [])).results [] := by
    intro b sp hd
    rw [List.append_nil, hout, hres]
    exact trodAll_mk1 ⟨1, by simp [DataW.trod, Value.cells, htb]⟩
  have hargs : ∀ sp : Nat → Bool, (∀ x ∈ p, sp x.block = true) → DataW.TrodAll enc C.prog W' 0 sp true fn.params.toList args.toList (s.fn H (ds ++ [])).args p := by
    intro sp hsp
    rw [List.append_nil, hout]
    exact args_stay hl hb hss hA hlt hsp
  have hvars' : ∀ sp : Nat → Bool, DataW.TrodVars enc C.prog W' sp s.vars (s.fn H (ds ++ [])).vars [] := by
    intro sp
    rw [List.append_nil, hout, hvars]
    rfl
  have hok : ∀ (j : Nat) (t : TypeId) (r : Value), fn.resultTypes[j]? = some t → ((Value.bool true).resultList fn.resultTypes.size)[j]? = some r → Value.okWide C.prog W' .any 0 t r :=
    fun j t r h1 h2 => ok_one hres rfl (okWide_bool_mk htb true) j t r h1 h2
  refine ⟨_, he, ds, [], p ++ [], [], p, [], hW', hres' _ _ _, hargs _ (fun x hx => by simpa using hlt x hx), hvars' _, hb.frame _, fun _ => ⟨hok, _, _, ([] ++ p) ++ [], ⟨[] ++ p, [], trodAll_append (hargs _ (fun _ _ => rfl)) (hres' _ _ _), hvars' _, rfl, ?_, ?_⟩, ?_⟩⟩
  · intro b off hp
    have hp' : MemPlace.cell b off ∈ p := by simpa using hp
    rw [hb.frozen (p := ⟨b, off, none⟩) (hlt _ hp')]
    exact hfz b off (by simpa using hp')
  · intro ha
    simpa using hnd ha
  · intro x hx _
    simpa using hx
end Go.Tl
