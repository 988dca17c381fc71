/- The tree logic, part F: addresses, parts, slices, append. -/
import Derived.Test.YtpbgiccloeihcaaTlE
namespace Go.Tl
open Go.RowKit

section
variable {P : Program} {A : Nat → Prop} {w0 : World} {β0 : Nat → Option Nat} {T0 : Tbl} {w : World} {β : Nat → Option Nat} {T : Tbl} {K : M → Tbl → Prop}

theorem layK_st {d : TypeDesc} {ps : List (Nat × Nat)} {ags : List Bool} (h : layK P d = some (.st ps ags)) :
    ∃ fs, d = .struct fs ∧ (fs.toList.mapM fun (f : Field) => (P.info? f.type).map fun j => (f.offset, j.size)) = some ps ∧ (fs.toList.mapM fun (f : Field) => (P.underlying f.type).map aggD) = some ags := by
  unfold layK at h
  split at h
  · rename_i fs
    simp only [Option.bind_eq_some_iff, Option.map_eq_some_iff, LK.st.injEq] at h
    obtain ⟨ps', h1, ags', h2, rfl, rfl⟩ := h
    exact ⟨fs, rfl, h1, h2⟩
  · simp only [Option.bind_eq_some_iff, Option.map_eq_some_iff] at h; obtain ⟨_, _, _, _, h⟩ := h; cases h
  · simp only [Option.bind_eq_some_iff, Option.map_eq_some_iff] at h; obtain ⟨_, _, _, _, h⟩ := h; cases h
  · cases h

theorem layK_ar {d : TypeDesc} {n e : Nat} {ag : Bool} (h : layK P d = some (.ar n e ag)) :
    ∃ el j dd, d = .array n el ∧ P.info? el = some j ∧ j.size = e ∧ P.underlying el = some dd ∧ aggD dd = ag := by
  unfold layK at h
  split at h
  · simp only [Option.bind_eq_some_iff, Option.map_eq_some_iff] at h; obtain ⟨_, _, _, _, h⟩ := h; cases h
  · rename_i n' el
    simp only [Option.bind_eq_some_iff, Option.map_eq_some_iff, LK.ar.injEq] at h
    obtain ⟨j, h1, dd, h2, rfl, rfl, rfl⟩ := h
    exact ⟨el, j, dd, rfl, h1, rfl, h2, rfl⟩
  · simp only [Option.bind_eq_some_iff, Option.map_eq_some_iff] at h; obtain ⟨_, _, _, _, h⟩ := h; cases h
  · cases h

theorem mapM_get {α γ : Type} {f : α → Option γ} : ∀ {xs : List α} {ys : List γ}, xs.mapM f = some ys → ∀ {i : Nat} {y : γ}, ys[i]? = some y → ∃ x, xs[i]? = some x ∧ f x = some y
  | [], ys, h, i, y, hy => by simp at h; subst h; simp at hy
  | x :: xs, ys, h, i, y, hy => by
    simp only [List.mapM_cons, Option.bind_eq_bind, Option.bind_eq_some_iff, Option.pure_def, Option.some.injEq] at h
    obtain ⟨y0, h0, ys', h1, rfl⟩ := h
    cases i with
    | zero => simp at hy; subst hy; exact ⟨x, rfl, h0⟩
    | succ i => simp at hy; obtain ⟨x', h2, h3⟩ := mapM_get h1 hy; exact ⟨x', by simpa using h2, h3⟩

/-- A field's address. -/
def opFieldAddr (P : Program) (t : TypeId) (f : Nat) (m : M) (K : M → Prop) : Prop :=
  match lay P t with
  | some (.st ps _, _, _) => match ps[f]? with
    | some (o, s) => s ≠ 0 ∧ (match m with
      | .ref id off => K (.ref id (off + o))
      | .ip fr cells off => K (.ip fr cells (off + o))
      | _ => False)
    | none => False
  | _ => False

theorem ref_shift {T : Tbl} {id off o : Nat} {x : Value} (hl : ¬ isGone T id) (hr : RepS A w0 w β T (.ref id off) x) : ∃ a, x = .pointer (some a) ∧ RepS A w0 w β T (.ref id (off + o)) (.pointer (some (a.add o))) := by
  simp only [RepS, Rep] at hr ⊢
  rcases hr with hr | ⟨h1, b, h2, rfl⟩
  · exact absurd hr hl
  · exact ⟨_, rfl, .inr ⟨h1, b, h2, by rw [addr_mk_add]⟩⟩

theorem ip_shift {fr : Bool} {cells : List M} {off o : Nat} {x : Value} (hr : RepS A w0 w β T (.ip fr cells off) x) : ∃ a, x = .pointer (some a) ∧ RepS A w0 w β T (.ip fr cells (off + o)) (.pointer (some (a.add o))) := by
  simp only [RepS, Rep] at hr ⊢
  obtain ⟨a, us, rfl, h1, h2⟩ := hr
  exact ⟨_, rfl, a, us, by rw [addr_add_add], h1, h2⟩

theorem fieldPlace_run {f : Field} {j : TypeInfo} (hi : P.info? f.type = some j) (h0 : j.size ≠ 0) (a : Addr) : (fieldPlace a f).run P w = .ok (a.add f.offset) w := by
  simp [fieldPlace, run_sizeOf hi, h0]

theorem fieldAddr_ok {t : TypeId} {f : Nat} {m : M} {x : Value} {K : M → Prop} (hr : RepS A w0 w β T m x) (hg : ∀ id off, m = .ref id off → ¬ isGone T id) (h : opFieldAddr P t f m K) :
    ∃ y m', (∀ w', (Instr.fieldAt t x f).run P w' = .ok y w') ∧ RepS A w0 w β T m' y ∧ K m' := by
  unfold opFieldAddr at h
  split at h
  · rename_i ps ags n z hl
    obtain ⟨d, i, zv, h1, _, _, h4, _, _⟩ := lay_spec hl
    obtain ⟨fs, rfl, h5, _⟩ := layK_st h4
    split at h
    · rename_i o s hp
      obtain ⟨hs, h⟩ := h
      obtain ⟨fd, h6, h7⟩ := mapM_get h5 hp
      simp only [Option.map_eq_some_iff, Prod.mk.injEq] at h7
      obtain ⟨j, h8, rfl, rfl⟩ := h7
      have h6' : fs[f]? = some fd := by rw [← Array.getElem?_toList]; exact h6
      have run : ∀ a w, (Instr.fieldAt t (.pointer (some a)) f).run P w = .ok (.pointer (some (a.add fd.offset))) w := fun a w => by
        simp only [Instr.fieldAt, Sem.run_bind, run_underlying h1, Result.andThen_ok, h6']
        have hsure : (Instr.sureAddr (.pointer (some a))).run P w = .ok a w := rfl
        simp [hsure, fieldPlace_run h8 hs]
      split at h
      · rename_i id off
        obtain ⟨a, rfl, hr'⟩ := ref_shift (o := fd.offset) (hg _ _ rfl) hr
        exact ⟨_, _, run a, hr', h⟩
      · obtain ⟨a, rfl, hr'⟩ := ip_shift (o := fd.offset) hr
        exact ⟨_, _, run a, hr', h⟩
      · exact h.elim
    · exact h.elim
  · exact h.elim

/-- An element's address. -/
def opIndexAddr (P : Program) (t : TypeId) (m i : M) (K : M → Prop) : Prop :=
  match lay P t, i with
  | some (.ar n e _, _, _), .v (.int _ x) => 0 ≤ x ∧ x < n ∧ (match m with
      | .ref id off => K (.ref id (off + x.toNat * e))
      | .ip fr cells off => K (.ip fr cells (off + x.toNat * e))
      | _ => False)
  | some (.sl e _ _, _, _), .v (.int _ x) => (match m with
      | .sr id off len sz => 0 ≤ x ∧ x < len ∧ sz = e ∧ K (.ref id (off + x.toNat * e))
      | .sl fr cells len => 0 ≤ x ∧ x < len ∧ K (.ip fr cells (x.toNat * e))
      | _ => False)
  | _, _ => False

theorem indexAddr_ok {t : TypeId} {m mi : M} {x xi : Value} {K : M → Prop} (hr : RepS A w0 w β T m x) (hri : RepS A w0 w β T mi xi) (hg : ∀ id off, m = .ref id off → ¬ isGone T id)
    (hg' : ∀ id off len sz, m = .sr id off len sz → ¬ isGone T id) (h : opIndexAddr P t m mi K) :
    ∃ y m', (∀ w', (Instr.indexAt t x xi).run P w' = .ok y w') ∧ RepS A w0 w β T m' y ∧ K m' := by
  unfold opIndexAddr at h
  split at h
  · rename_i n e ag sz z k xv hl
    simp only [RepS, Rep] at hri
    subst hri
    obtain ⟨d, i, zv, h1, _, _, h4, _, _⟩ := lay_spec hl
    obtain ⟨el, j, dd, rfl, h5, rfl, h6, _⟩ := layK_ar h4
    obtain ⟨h0, hlt, h⟩ := h
    have run : ∀ a w, (Instr.indexAt t (.pointer (some a)) (.int k xv)).run P w = .ok (.pointer (some (a.add (xv.toNat * j.size)))) w := fun a w => by
      simp only [Instr.indexAt, asIntOf, Sem.run_bind, Sem.run_pure, Result.andThen_ok, run_underlying h1]
      have hsure : (Instr.sureAddr (.pointer (some a))).run P w = .ok a w := rfl
      simp [hsure, h0, hlt, run_sizeOf h5]
    split at h
    · obtain ⟨a, rfl, hr'⟩ := ref_shift (o := xv.toNat * j.size) (hg _ _ rfl) hr
      exact ⟨_, _, run a, hr', h⟩
    · obtain ⟨a, rfl, hr'⟩ := ip_shift (o := xv.toNat * j.size) hr
      exact ⟨_, _, run a, hr', h⟩
    · exact h.elim
  · rename_i e by' ez sz z k xv hl
    simp only [RepS, Rep] at hri
    subst hri
    obtain ⟨d, i, zv, h1, _, _, h4, _, _⟩ := lay_spec hl
    obtain ⟨el, j, zv', rfl, h5, _, rfl, _, _⟩ := layK_sl h4
    have run : ∀ a len cap, 0 ≤ xv → xv < (len : Nat) → ∀ w, (Instr.indexAt t (.slice (some a) len cap) (.int k xv)).run P w = .ok (.pointer (some (a.add (xv.toNat * j.size)))) w := fun a len cap h0 hlt w => by
      simp only [Instr.indexAt, asIntOf, Sem.run_bind, Sem.run_pure, Result.andThen_ok, run_underlying h1]
      simp [h0, hlt, run_sizeOf h5]
    split at h
    · rename_i id off len sz'
      obtain ⟨h0, hlt, rfl, h⟩ := h
      simp only [RepS, Rep] at hr
      rcases hr with hr | ⟨hl1, ⟨b, cap, n, hb, rfl, h2, h3, h6, h7⟩ | ⟨rfl, _⟩⟩
      · exact absurd hr (hg' _ _ _ _ rfl)
      · refine ⟨_, _, run _ _ _ h0 hlt, ?_, h⟩
        simp only [RepS, Rep]
        exact .inr ⟨hl1, b, hb, by rw [addr_mk_add]⟩
      · omega
    · rename_i fr cells len
      obtain ⟨h0, hlt, h⟩ := h
      simp only [RepS, Rep] at hr
      rcases hr with ⟨_, _, rfl⟩ | ⟨a, cap, us, rfl, h2, h3, h6, h7⟩
      · omega
      · refine ⟨_, _, run _ _ _ h0 hlt, ?_, h⟩
        simp only [RepS, Rep]
        exact ⟨a, us, rfl, h6, h7⟩
    · exact h.elim
  · exact h.elim

/-- A part of a struct's or an array's value. -/
def partM (ag : Bool) (cs : List M) (off size : Nat) (K : M → Prop) : Prop :=
  if ag = true then K (.agg ((cs.drop off).take size)) else ∃ c, cs[off]? = some c ∧ K c

theorem part_ok {t : TypeId} {d : TypeDesc} {j : TypeInfo} {cs : List M} {us : List Value} {off : Nat} {K : M → Prop} (hd : P.underlying t = some d) (hi : P.info? t = some j) (hr : RepSL A w0 w β T cs us)
    (h : partM (aggD d) cs off j.size K) : ∃ y m', (∀ w', (part t us.toArray off).run P w' = .ok y w') ∧ RepS A w0 w β T m' y ∧ K m' := by
  have hag : ∀ w, (isAgg t).run P w = .ok (aggD d) w := fun w => by
    simp only [isAgg, Sem.run_bind, run_underlying hd, Result.andThen_ok]
    cases d <;> rfl
  unfold partM at h
  split at h
  · rename_i hc
    refine ⟨.agg ((us.drop off).take j.size).toArray, _, fun w => ?_, ?_, h⟩
    · simp only [part, Sem.run_bind, hag, Result.andThen_ok, hc, if_true, run_sizeOf hi, Sem.run_pure]
      congr 2
      apply Array.ext'
      simp [List.extract_eq_take_drop]
    · simp only [RepS, Rep]
      exact ⟨_, rfl, (RepL.drop hr off).take _⟩
  · rename_i hc
    obtain ⟨c, h1, h2⟩ := h
    obtain ⟨u, hu, hru⟩ := RepL.get hr h1
    refine ⟨u, c, fun w => ?_, hru, h2⟩
    simp only [part, Sem.run_bind, hag, Result.andThen_ok, hc, List.getElem?_toArray, hu]
    simp

/-- A field of a struct's value. -/
def opField (P : Program) (t : TypeId) (f : Nat) (m : M) (K : M → Prop) : Prop :=
  match lay P t, m with
  | some (.st ps ags, _, _), .agg cs => match ps[f]?, ags[f]? with
    | some (o, s), some ag => partM ag cs o s K
    | _, _ => False
  | _, _ => False

theorem field_ok {t : TypeId} {f : Nat} {m : M} {x : Value} {K : M → Prop} (hr : RepS A w0 w β T m x) (h : opField P t f m K) :
    ∃ y m', (∀ w', (Instr.field t x f).run P w' = .ok y w') ∧ RepS A w0 w β T m' y ∧ K m' := by
  unfold opField at h
  split at h
  · rename_i ps ags n z cs hl
    obtain ⟨d, i, zv, h1, _, _, h4, _, _⟩ := lay_spec hl
    obtain ⟨fs, rfl, h5, h5'⟩ := layK_st h4
    split at h
    · rename_i o s ag hp hp'
      obtain ⟨fd, h6, h7⟩ := mapM_get h5 hp
      obtain ⟨fd', h6', h7'⟩ := mapM_get h5' hp'
      obtain rfl : fd = fd' := by rw [h6] at h6'; injection h6'
      simp only [Option.map_eq_some_iff, Prod.mk.injEq] at h7 h7'
      obtain ⟨j, h8, rfl, rfl⟩ := h7
      obtain ⟨dd, h9, rfl⟩ := h7'
      simp only [RepS, Rep] at hr
      obtain ⟨us, rfl, hus⟩ := hr
      obtain ⟨y, m', h10, h11, h12⟩ := part_ok (w := w) h9 h8 hus h
      have h6' : fs[f]? = some fd := by rw [← Array.getElem?_toList]; exact h6
      refine ⟨y, m', fun w => ?_, h11, h12⟩
      simp [Instr.field, run_underlying h1, h6', asAgg, h10]
    · exact h.elim
  · exact h.elim

/-- An element of an array's value, a string's byte. -/
def opIndex (P : Program) (t : TypeId) (m i : M) (K : M → Prop) : Prop :=
  match i with
  | .v (.int _ x) => 0 ≤ x ∧ (match m with
    | .agg cs => (match lay P t with
      | some (.ar n e ag, _, _) => x < n ∧ partM ag cs (x.toNat * e) e K
      | _ => False)
    | .v (.string s) => P.underlying t = some .string ∧ ∃ b, s[x.toNat]? = some b ∧ K (.v (.int .u8 b.toNat))
    | _ => False)
  | _ => False

theorem index_ok {t : TypeId} {m mi : M} {x xi : Value} {K : M → Prop} (hr : RepS A w0 w β T m x) (hri : RepS A w0 w β T mi xi) (h : opIndex P t m mi K) :
    ∃ y m', (∀ w', (Instr.index t x xi).run P w' = .ok y w') ∧ RepS A w0 w β T m' y ∧ K m' := by
  unfold opIndex at h
  split at h
  · rename_i k xv
    simp only [RepS, Rep] at hri
    subst hri
    obtain ⟨h0, h⟩ := h
    split at h
    · rename_i cs
      split at h
      · rename_i n e ag sz z hl
        obtain ⟨hlt, h⟩ := h
        obtain ⟨d, i, zv, h1, _, _, h4, _, _⟩ := lay_spec hl
        obtain ⟨el, j, dd, rfl, h5, rfl, h6, rfl⟩ := layK_ar h4
        simp only [RepS, Rep] at hr
        obtain ⟨us, rfl, hus⟩ := hr
        obtain ⟨y, m', h10, h11, h12⟩ := part_ok (w := w) h6 h5 hus h
        refine ⟨y, m', fun w => ?_, h11, h12⟩
        simp [Instr.index, asIntOf, run_underlying h1, h0, hlt, run_sizeOf h5, h10]
      · exact h.elim
    · rename_i s
      obtain ⟨h1, b, h2, h3⟩ := h
      simp only [RepS, Rep] at hr
      subst hr
      refine ⟨.int .u8 b.toNat, _, fun w => ?_, ?_, h3⟩
      · simp [Instr.index, asIntOf, run_underlying h1, h0, h2]
      · simp [RepS, Rep]
    · exact h.elim
  · exact h.elim

/-- A component of several results. -/
def opExtract (m : M) (i : Nat) (K : M → Prop) : Prop :=
  match m with
  | .tup ms => ∃ c, ms[i]? = some c ∧ K c
  | _ => False

theorem extract_ok {i : Nat} {m : M} {x : Value} {K : M → Prop} (hr : RepS A w0 w β T m x) (h : opExtract m i K) :
    ∃ y m', (∀ w', (Instr.extract x i).run P w' = .ok y w') ∧ RepS A w0 w β T m' y ∧ K m' := by
  unfold opExtract at h
  split at h
  · obtain ⟨c, h1, h2⟩ := h
    simp only [RepS, Rep] at hr
    obtain ⟨us, rfl, hus⟩ := hr
    obtain ⟨u, hu, hru⟩ := RepL.get hus h1
    exact ⟨u, c, fun w => by simp [Instr.extract, hu], hru, h2⟩
  · exact h.elim
end
end Go.Tl
