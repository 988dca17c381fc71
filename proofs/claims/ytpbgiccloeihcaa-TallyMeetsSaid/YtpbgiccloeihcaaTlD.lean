/- The tree logic, part D: each operation's law. -/
import Derived.Test.YtpbgiccloeihcaaTlC
namespace Go.Tl
open Go.RowKit

section
variable {P : Program} {A : Nat → Prop} {w0 : World} {β0 : Nat → Option Nat} {T0 : Tbl} {w : World} {β : Nat → Option Nat} {T : Tbl} {K : M → Tbl → Prop}

theorem oneCell_rep {m : M} {x : Value} (h : oneCell T m = true) (hr : RepS A w0 w β T m x) : x.oneCell' = true := by
  have hlive : ∀ id, (match T[id]? with | some (.cells _ _) => true | _ => false) = true → ¬ isGone T id := fun id h hg => by
    unfold isGone at hg; rw [hg] at h; cases h
  cases m <;> simp only [RepS, Rep] at hr
  case any => cases h
  case v y => subst hr; cases x <;> first | rfl | cases h
  case sl => rcases hr with ⟨rfl, _⟩ | ⟨_, _, _, rfl, _⟩ <;> rfl
  case ip => obtain ⟨_, _, rfl, _⟩ := hr; rfl
  case ref => exact hr.elim (fun hr => absurd hr (hlive _ h)) (fun ⟨_, _, _, hr⟩ => by subst hr; rfl)
  case sr => exact hr.elim (fun hr => absurd hr (hlive _ h)) (fun ⟨_, hr⟩ => by rcases hr with ⟨_, _, _, _, rfl, _⟩ | ⟨_, _, rfl⟩ <;> rfl)
  case sx => obtain ⟨_, rfl⟩ := hr; rfl
  case fn => obtain ⟨_, _, rfl, _⟩ := hr; rfl
  case ifc => obtain ⟨_, rfl, _⟩ := hr; rfl
  case agg cs => cases h
  case tup ms => cases h

theorem oneCell_cells {x : Value} (h : x.oneCell' = true) : x.cells = [x].toArray := by cases x <;> first | rfl | cases h

theorem cellsOf_rep {m : M} {x : Value} {cs : List M} (h : cellsOf T m = some cs) (hr : RepS A w0 w β T m x) : ∃ us, x.cells = us.toArray ∧ RepSL A w0 w β T cs us := by
  unfold cellsOf at h
  split at h
  · simp only [Option.some.injEq] at h
    subst h
    simp only [RepS, Rep] at hr
    obtain ⟨us, rfl, h1⟩ := hr
    exact ⟨us, rfl, h1⟩
  · split at h
    · rename_i h1
      simp only [Option.some.injEq] at h
      subst h
      exact ⟨[x], oneCell_cells (oneCell_rep h1 hr), RepL.cons hr RepL.nil⟩
    · cases h

theorem addr_add_add (a : Addr) (i j : Nat) : (a.add i).add j = a.add (i + j) := by
  unfold Addr.add
  by_cases hi : i = 0
  · subst hi; simp
  · by_cases hj : j = 0
    · subst hj; simp [hi]
    · simp [hi, hj, Nat.add_assoc]

theorem addr_mk_add (b o j : Nat) : (⟨b, o, none⟩ : Addr).add j = ⟨b, o + j, none⟩ := by
  unfold Addr.add
  by_cases hj : j = 0
  · subst hj; simp
  · simp [hj]

theorem behind_rep {m : M} {x : Value} {cs : List M} {off : Nat} (hP : Post A w0 β0 T0 w β T) (h : behind T m = some (cs, off)) (hr : RepS A w0 w β T m x) :
    ∃ (a : Addr) (us : List Value), x = .pointer (some a) ∧ RepSL A w0 w β T cs us ∧ ∀ (j : Nat) (u : Value), us[off + j]? = some u → w.cell? (a.add j) = some u := by
  unfold behind at h
  split at h
  · rename_i id off'
    split at h
    · rename_i fr cs' hT
      simp only [Option.some.injEq, Prod.mk.injEq] at h
      obtain ⟨rfl, rfl⟩ := h
      simp only [RepS, Rep] at hr
      rcases hr with hr | ⟨_, b, hb, rfl⟩
      · unfold isGone at hr; rw [hT] at hr; cases hr
      · rcases hP.wf.obj _ _ _ hT with ⟨h0, _⟩ | ⟨b', us, sp, t, hb', _, h1, h2⟩
        · rw [h0] at hb; cases hb
        obtain rfl : b' = b := by rw [hb'] at hb; injection hb
        refine ⟨_, us, rfl, h2, fun j u hu => ?_⟩
        rw [addr_mk_add]
        rw [cell_of_row w _ _ _ _ _ h1, List.getElem?_toArray]
        rw [List.getElem?_append_left (List.getElem?_eq_some_iff.1 hu).1]
        exact hu
    · cases h
  · rename_i fr cells off'
    simp only [Option.some.injEq, Prod.mk.injEq] at h
    obtain ⟨rfl, rfl⟩ := h
    simp only [RepS, Rep] at hr
    obtain ⟨a, us, rfl, h1, h2⟩ := hr
    have h3 : RepSL A w0 w β T cells us := RepL.last ⟨fun fr k hk => ⟨hk, rfl⟩, fun i hi => absurd hi (not_gone_nil i), fun i hi => absurd hi (not_live_nil i)⟩ _ _ h1
    exact ⟨_, us, rfl, h3, fun j u hu => by rw [addr_add_add]; exact (h2 _ u hu).2⟩
  · cases h

/-- A load. -/
def opLoad (P : Program) (T : Tbl) (t : TypeId) (m : M) (K : M → Prop) : Prop :=
  ∃ k n z, lay P t = some (k, n, z) ∧ ∃ cs off, behind T m = some (cs, off) ∧ (match k.ag with
    | true => off + n ≤ cs.length ∧ K (.agg ((cs.drop off).take n))
    | false => ∃ c, cs[off]? = some c ∧ K c)

theorem load_ok {t : TypeId} {m : M} {x : Value} {K : M → Prop} (hP : Post A w0 β0 T0 w β T) (hr : RepS A w0 w β T m x) (h : opLoad P T t m K) :
    ∃ y m', (Instr.loadAt t x).run P w = .ok y w ∧ RepS A w0 w β T m' y ∧ K m' := by
  obtain ⟨k, n, z, hl, cs, off, hb, hk⟩ := h
  obtain ⟨a, us, rfl, hus, hat⟩ := behind_rep hP hb hr
  obtain ⟨h1, h2⟩ := run_isAgg (w := w) hl
  have hsure : (Instr.sureAddr (.pointer (some a))).run P w = .ok a w := rfl
  simp only [Instr.loadAt, Sem.run_bind, hsure, Result.andThen_ok, loadVar, h1]
  cases hag : k.ag
  · rw [hag] at hk
    simp only at hk
    obtain ⟨c, hc, hK⟩ := hk
    obtain ⟨u, hu, hru⟩ := hus.get hc
    have hcell := hat 0 u (by simpa using hu)
    refine ⟨u, c, ?_, hru, hK⟩
    have : a.add 0 = a := by simp [Addr.add]
    rw [this] at hcell
    simp [run_load, hcell]
  · rw [hag] at hk
    simp only at hk
    obtain ⟨hn, hK⟩ := hk
    have hlen := hus.length
    have hsub : RepSL A w0 w β T ((cs.drop off).take n) ((us.drop off).take n) := (hus.drop off).take n
    refine ⟨.agg ((us.drop off).take n).toArray, _, ?_, ?_, hK⟩
    · have hll : ((us.drop off).take n).length = n := by rw [List.length_take, List.length_drop]; omega
      have := run_loadCells_list (P := P) w a ((us.drop off).take n) (fun j v hv => by
        refine hat j v ?_
        rw [List.getElem?_take] at hv
        split at hv
        · rw [List.getElem?_drop] at hv; exact hv
        · cases hv)
      rw [hll] at this
      simp only [if_true, Sem.run_bind, h2, Result.andThen_ok, this, Sem.run_pure]
    · simp only [RepS, Rep]
      exact ⟨_, rfl, hsub⟩

/-- A store. -/
def opStore (P : Program) (T : Tbl) (t : TypeId) (m val : M) (K : Tbl → Prop) : Prop :=
  ∃ k n z, lay P t = some (k, n, z) ∧ (match m with
    | .ref id off => ∃ fr cs, T[id]? = some (.cells fr cs) ∧ ∃ vs, cellsOf T val = some vs ∧ vs.all (oneCell T) = true ∧ vs.length = n ∧ off + n ≤ cs.length ∧
        K (T.set id (.cells fr (cs.take off ++ vs ++ cs.drop (off + n))))
    | _ => False)

theorem all_oneCell {vs : List M} {us : List Value} (h : vs.all (oneCell T) = true) (hr : RepSL A w0 w β T vs us) : ∀ u ∈ us, u.oneCell' = true := by
  intro u hu
  obtain ⟨j, hj⟩ := List.getElem?_of_mem hu
  obtain ⟨m, hm, hmr⟩ := hr.get' hj
  exact oneCell_rep (List.all_eq_true.1 h m (List.mem_of_getElem? hm)) hmr

theorem store_ok {t : TypeId} {m val : M} {x y : Value} {K : Tbl → Prop} (hP : Post A w0 β0 T0 w β T) (hr : RepS A w0 w β T m x) (hv : RepS A w0 w β T val y) (h : opStore P T t m val K) :
    ∃ w' T', (Instr.storeAt t x y).run P w = .ok () w' ∧ K T' ∧ Move A w0 β0 T0 w β T w' β T' := by
  obtain ⟨k, n, z, hl, h⟩ := h
  split at h
  · rename_i id off
    obtain ⟨fr, cs, hT, vs, hcs, hall, hlen, hle, hK⟩ := h
    simp only [RepS, Rep] at hr
    rcases hr with hr | ⟨hlv, g, hg, rfl⟩
    · unfold isGone at hr; rw [hT] at hr; cases hr
    · obtain ⟨us, hxc, hus⟩ := cellsOf_rep hcs hv
      rcases hP.wf.obj _ _ _ hT with ⟨h0, _⟩ | ⟨g', us0, sp0, t0, hg', _, hb, hu0⟩
      · rw [h0] at hg; cases hg
      obtain rfl : g' = g := by rw [hg'] at hg; injection hg
      have hl0 := hu0.length
      have hl1 := hus.length
      have h2 := (run_isAgg (w := w) hl).2
      have hsure : (Instr.sureAddr (.pointer (some ⟨g', off, none⟩))).run P w = .ok ⟨g', off, none⟩ w := rfl
      have hst := run_storeCells_at P g' off t0 us 0 _ w hb (by simp; omega) (all_oneCell hall hus)
      have hsz : y.cells.size = n := by rw [hxc]; simp; omega
      refine ⟨_, _, ?_, hK, hP.write (us := us0.take off ++ us ++ us0.drop (off + n)) (sp := sp0) hT hg' hb ?_ (((hu0.take off).append hus).append (hu0.drop (off + n)))⟩
      · have he : (us0 ++ sp0).toArray.toList.take (off + 0) ++ us ++ (us0 ++ sp0).toArray.toList.drop (off + 0 + us.length) = us0.take off ++ us ++ us0.drop (off + n) ++ sp0 := by
          simp only [Nat.add_zero, hl1, hlen]
          rw [List.take_append_of_le_length (by omega), List.drop_append_of_le_length (by omega)]
          simp
        rw [he] at hst
        have hn : us.length = n := by omega
        simp only [Instr.storeAt, Sem.run_bind, hsure, Result.andThen_ok, storeVar, h2, hxc]
        simp [hst, hn]
      · simp only [List.length_append, List.length_take, List.length_drop]; omega
  · exact h.elim
end
end Go.Tl
