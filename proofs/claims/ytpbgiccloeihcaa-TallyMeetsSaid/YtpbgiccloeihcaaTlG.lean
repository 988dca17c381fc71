/- The tree logic, part G: make, slicing, append, copy, len, min, max. -/
import Derived.Test.YtpbgiccloeihcaaTlF
namespace Go.Tl
open Go.RowKit

section
variable {P : Program} {A : Nat → Prop} {w0 : World} {β0 : Nat → Option Nat} {T0 : Tbl} {w : World} {β : Nat → Option Nat} {T : Tbl} {K : M → Tbl → Prop}

/-- make of a slice. -/
def opMakeSlice (P : Program) (T : Tbl) (t : TypeId) (l c : M) (K : M → Tbl → Prop) : Prop :=
  match lay P t, l, c with
  | some (.sl e b ez, _, _), .v (.int _ x), .v (.int _ y) => ez.length = e ∧ 0 ≤ x ∧ x ≤ y ∧ y * b ≤ 281474976710656 ∧ y ≤ 9223372036854775807 ∧ K (.sr T.length 0 x.toNat e) (T ++ [.cells true (zeros x.toNat ez)])
  | _, _, _ => False

theorem wrap64_id {x : Int} (h0 : 0 ≤ x) (h1 : x ≤ 9223372036854775807) : IntKind.i64.wrap x = x := by rw [IntKind.wrap_i64]; omega

theorem makeSlice_ok {q : Bool} {t : TypeId} {ml mc : M} {xl xc : Value} (hP : Post A w0 β0 T0 w β T) (hr : RepS A w0 w β T ml xl) (hrc : RepS A w0 w β T mc xc) (h : opMakeSlice P T t ml mc K) :
    Yld P q (Instr.makeSlice t xl xc) A w0 β0 T0 w β T K := by
  unfold opMakeSlice at h
  split at h
  · rename_i e b ez n z k x k' y hl
    obtain ⟨hez, h0, hxy, hby, hy, hK⟩ := h
    simp only [RepS, Rep] at hr hrc
    subst hr; subst hrc
    obtain ⟨d, i, zv, h1, _, _, h4, _, _⟩ := lay_spec hl
    obtain ⟨el, j, zv', rfl, h5, h6, rfl, rfl, rfl⟩ := layK_sl h4
    have hzs : zv'.cells.size = j.size := by rw [← hez]; simp
    have hsplit : (List.replicate y.toNat zv'.cells.toList).flatten = (List.replicate x.toNat zv'.cells.toList).flatten ++ (List.replicate (y.toNat - x.toNat) zv'.cells.toList).flatten := by
      rw [← List.flatten_append, List.replicate_append_replicate]
      congr 2; omega
    have hlen : ((List.replicate x.toNat zv'.cells.toList).flatten ++ (List.replicate (y.toNat - x.toNat) zv'.cells.toList).flatten).length = y.toNat * j.size := by
      rw [← hsplit]; simp only [List.length_flatten, List.map_replicate, List.sum_replicate_nat, hez]
    refine ⟨.slice (some ⟨w.heap.size, 0, none⟩) x.toNat y.toNat, _, _, _, _, ?_, hK, hP.alloc true (us := (List.replicate x.toNat zv'.cells.toList).flatten) ((List.replicate (y.toNat - x.toNat) zv'.cells.toList).flatten) el (zeros_rep _ _),
      rep_new_sr true (by simp [setβ]) (by omega) (by unfold maxLen; omega) (bsize_push _ _ _) (by rw [List.size_toArray, hlen]; exact Nat.le_refl _), fun _ k hk => push_old _ _ k hk⟩
    have hx63 : x ≤ 9223372036854775807 := by omega
    have hyn : 0 ≤ y := by omega
    have hb0 : (0 : Int) ≤ (j.bytes : Int) := by omega
    have hbig : ¬ ((j.bytes : Int) * y > 2 ^ 48) := by rw [Int.mul_comm]; have e : (2 : Int) ^ 48 = 281474976710656 := rfl; omega
    have hbigx : ¬ ((j.bytes : Int) * x > 2 ^ 48) := by
      have := Int.mul_le_mul_of_nonneg_left hxy hb0
      omega
    have hcells := range_mod zv'.cells.toList y.toNat
    simp only [Array.toArray_toList, hzs] at hcells
    simp only [Instr.makeSlice, Sem.run_bind, run_underlying h1, Result.andThen_ok, asInt, asIntOf, Sem.run_pure, run_typeInfo h5, wrap64_id h0 hx63, wrap64_id hyn hy]
    simp only [hbig, decide_false, Bool.or_false, show ¬ (y < 0) from by omega, show ¬ (x < 0) from by omega, show ¬ (x > y) from by omega, Bool.false_eq_true, if_false, Sem.run_bind, run_askRoom, Result.andThen_ok, run_sizeOf h5]
    rw [← hsplit]
    by_cases hn : y.toNat * j.size = 0
    · have hnil : (List.replicate y.toNat zv'.cells.toList).flatten = [] := by
        apply List.length_eq_zero_iff.1
        simp only [List.length_flatten, List.map_replicate, List.sum_replicate_nat, hez, hn]
      rw [hnil]
      simp [hn, show Array.range 0 = #[] from rfl, newRow]
    · simp only [hn, if_false, Sem.run_bind, run_zeroValue h5 h6, Result.andThen_ok, Sem.run_pure, hzs, hcells]
      simp [newRow]
  · exact h.elim

def bndOk : Option M → Prop
  | none => True
  | some (.v (.int _ x)) => 0 ≤ x
  | _ => False

def bndV : Option M → Nat → Nat
  | some (.v (.int _ x)), _ => x.toNat
  | _, d => d

abbrev RepO (A : Nat → Prop) (w0 w : World) (β : Nat → Option Nat) (T : Tbl) : Option M → Option Value → Prop
  | none, none => True
  | some m, some x => RepS A w0 w β T m x
  | _, _ => False

theorem bound_run {lo : Option M} {v : Option Value} {d y : Nat} {code : BoundsCode} (hr : RepO A w0 w β T lo v) (hb : bndOk lo) (hle : bndV lo d ≤ y) (w' : World) :
    (match v with | some v => Instr.sliceBound v y code | none => Pure.pure d : Sem Nat).run P w' = .ok (bndV lo d) w' := by
  cases lo with
  | none => cases v with
    | none => rfl
    | some x => exact hr.elim
  | some m => cases v with
    | none => exact hr.elim
    | some x =>
      cases m with
      | v y' => cases y' with
        | int k z =>
          simp only [RepO, RepS, Rep] at hr
          subst hr
          simp only [bndOk, bndV] at hb hle ⊢
          have : z ≤ (y : Int) := by omega
          simp [Instr.sliceBound, asIntOf, hb, this]
        | _ => exact hb.elim
      | _ => exact hb.elim

theorem bounds_run {isSlice : Bool} {lo hi : Option M} {vl vh : Option Value} {len cap : Nat} (hl : RepO A w0 w β T lo vl) (hh : RepO A w0 w β T hi vh) (bl : bndOk lo) (bh : bndOk hi)
    (h1 : bndV lo 0 ≤ bndV hi len) (h2 : bndV hi len ≤ cap) (w' : World) : (Instr.sliceBounds isSlice len cap vl vh none).run P w' = .ok (bndV lo 0, bndV hi len, cap) w' := by
  have e1 := bound_run (P := P) (d := len) (y := cap) (code := if isSlice then .sliceAcap else .sliceAlen) hh bh h2 w'
  have e2 := bound_run (P := P) (d := 0) (y := bndV hi len) (code := .sliceB) hl bl h1 w'
  cases vh with
  | none =>
    have e1' : bndV hi len = len := by simp only [Sem.run_pure, Result.ok.injEq, and_true] at e1; exact e1.symm
    rw [e1'] at e2 ⊢
    cases vl with
    | none =>
      have e2' : bndV lo 0 = 0 := by simp only [Sem.run_pure, Result.ok.injEq, and_true] at e2; exact e2.symm
      rw [e2']; rfl
    | some l =>
      simp only at e2
      simp only [Instr.sliceBounds, Sem.run_bind, Sem.run_pure, Result.andThen_ok, Option.isSome_none, Bool.false_eq_true, if_false, e2]
  | some h =>
    simp only at e1
    cases vl with
    | none =>
      have e2' : bndV lo 0 = 0 := by simp only [Sem.run_pure, Result.ok.injEq, and_true] at e2; exact e2.symm
      simp only [Instr.sliceBounds, Sem.run_bind, Sem.run_pure, Result.andThen_ok, e1, e2']
    | some l =>
      simp only at e2
      simp only [Instr.sliceBounds, Sem.run_bind, Sem.run_pure, Result.andThen_ok, Option.isSome_none, Bool.false_eq_true, if_false, e1, e2]

/-- A piece of a slice, a string, an array. -/
def opSlice (P : Program) (T : Tbl) (t : TypeId) (m : M) (lo hi mx : Option M) (K : M → Prop) : Prop :=
  bndOk lo ∧ bndOk hi ∧ (match mx with
  | none => (match m with
    | .sr id off len sz => (match lay P t with
      | some (.sl e _ _, _, _) => sz = e ∧ bndV lo 0 ≤ bndV hi len ∧ bndV hi len ≤ len ∧ K (.sr id (off + bndV lo 0 * sz) (bndV hi len - bndV lo 0) sz)
      | _ => False)
    | .sl fr cells len => (match lay P t with
      | some (.sl e _ _, _, _) => bndV lo 0 ≤ bndV hi len ∧ bndV hi len ≤ len ∧ K (.sl fr ((cells.drop (bndV lo 0 * e)).take ((bndV hi len - bndV lo 0) * e)) (bndV hi len - bndV lo 0))
      | _ => False)
    | .ref id off => (match lay P t, T[id]? with
      | some (.ar n e _, _, _), some (.cells _ cs) => off + n * e ≤ cs.length ∧ n ≤ 9223372036854775807 ∧ bndV lo 0 ≤ bndV hi n ∧ bndV hi n ≤ n ∧ K (.sr id (off + bndV lo 0 * e) (bndV hi n - bndV lo 0) e)
      | _, _ => False)
    | .v (.string s) => P.underlying t = some .string ∧ bndV lo 0 ≤ bndV hi s.size ∧ bndV hi s.size ≤ s.size ∧ K (.v (.string (s.extract (bndV lo 0) (bndV hi s.size))))
    | _ => False)
  | some _ => False)

theorem slice_ok {t : TypeId} {m : M} {x : Value} {lo hi mx : Option M} {vl vh vm : Option Value} {K : M → Prop} (hP : Post A w0 β0 T0 w β T) (hr : RepS A w0 w β T m x) (hl : RepO A w0 w β T lo vl) (hh : RepO A w0 w β T hi vh)
    (hm : RepO A w0 w β T mx vm) (hg : ∀ id off, m = .ref id off → ¬ isGone T id) (hg' : ∀ id off len sz, m = .sr id off len sz → ¬ isGone T id)
    (h : opSlice P T t m lo hi mx K) : ∃ y m', (∀ w', (Instr.sliceAt t x vl vh vm).run P w' = .ok y w') ∧ RepS A w0 w β T m' y ∧ K m' := by
  obtain ⟨bl, bh, h⟩ := h
  split at h
  · have hvm : vm = none := by cases vm with | none => rfl | some _ => exact hm.elim
    subst hvm
    split at h
    · rename_i id off len sz
      split at h
      · rename_i e b ez n z hlay
        obtain ⟨rfl, h1, h2, hK⟩ := h
        obtain ⟨d, i, zv, hu, _, _, h4, _, _⟩ := lay_spec hlay
        obtain ⟨el, j, zv', rfl, h5, h6, rfl, rfl, rfl⟩ := layK_sl h4
        simp only [RepS, Rep] at hr
        rcases hr with hr | ⟨hlv, ⟨b, cap, n', hb, rfl, h7, h8, h9, h10⟩ | ⟨rfl, A, rfl⟩⟩
        · exact absurd hr (hg' _ _ _ _ rfl)
        · have hbr := bounds_run (P := P) (isSlice := true) (len := len) (cap := cap) hl hh bl bh h1 (by omega)
          refine ⟨.slice (some (if cap = bndV lo 0 then ⟨b, off, none⟩ else (⟨b, off, none⟩ : Addr).add (bndV lo 0 * j.size))) (bndV hi len - bndV lo 0) (cap - bndV lo 0), _, fun w => ?_, ?_, hK⟩
          · simp only [Instr.sliceAt, Instr.slice, Sem.run_bind, run_underlying hu, Result.andThen_ok, hbr, run_sizeOf h5]
            split <;> simp_all
          · simp only [RepS, Rep]
            refine .inr ⟨hlv, ?_⟩
            by_cases hc : cap = bndV lo 0
            · refine .inr ⟨by omega, some (if cap = bndV lo 0 then ⟨b, off, none⟩ else (⟨b, off, none⟩ : Addr).add (bndV lo 0 * j.size)), ?_⟩
              rw [show bndV hi len - bndV lo 0 = 0 from by omega, show cap - bndV lo 0 = 0 from by omega]
            · rw [if_neg hc, addr_mk_add]
              refine .inl ⟨b, _, n', hb, rfl, by omega, by omega, h9, ?_⟩
              have : cap * j.size = bndV lo 0 * j.size + (cap - bndV lo 0) * j.size := by rw [← Nat.add_mul]; congr 1; omega
              omega
        · have h1' : bndV hi 0 = 0 := by omega
          have hbr := bounds_run (P := P) (isSlice := true) (len := 0) (cap := 0) hl hh bl bh h1 (by omega)
          have hl0 : bndV lo 0 = 0 := by omega
          refine ⟨.slice A 0 0, _, fun w => ?_, ?_, hK⟩
          · simp only [Instr.sliceAt, Instr.slice, Sem.run_bind, run_underlying hu, Result.andThen_ok, hbr, run_sizeOf h5]
            simp [hl0, h1']
          · simp only [RepS, Rep]
            exact .inr ⟨hlv, .inr ⟨by omega, A, rfl⟩⟩
      · exact h.elim
    · rename_i fr cells len
      split at h
      · rename_i e b ez n z hlay
        obtain ⟨h1, h2, hK⟩ := h
        obtain ⟨d, i, zv, hu, _, _, h4, _, _⟩ := lay_spec hlay
        obtain ⟨el, j, zv', rfl, h5, h6, rfl, rfl, rfl⟩ := layK_sl h4
        simp only [RepS, Rep] at hr
        rcases hr with ⟨rfl, rfl, rfl⟩ | ⟨a, cap, us, rfl, h7, h8, h9, h10⟩
        · have h1' : bndV hi 0 = 0 := by omega
          have hbr := bounds_run (P := P) (isSlice := true) (len := 0) (cap := 0) hl hh bl bh h1 (by omega)
          have hl0 : bndV lo 0 = 0 := by omega
          refine ⟨.slice none 0 0, _, fun w => ?_, ?_, hK⟩
          · simp only [Instr.sliceAt, Instr.slice, Sem.run_bind, run_underlying hu, Result.andThen_ok, hbr, run_sizeOf h5]
            simp [hl0, h1']
          · simp only [RepS, Rep]
            exact .inl ⟨trivial, by simp, by omega⟩
        · have hbr := bounds_run (P := P) (isSlice := true) (len := len) (cap := cap) hl hh bl bh h1 (by omega)
          have hsub := (h9.drop (bndV lo 0 * j.size)).take ((bndV hi len - bndV lo 0) * j.size)
          by_cases hc : cap = bndV lo 0
          · refine ⟨.slice (some a) (bndV hi len - bndV lo 0) (cap - bndV lo 0), _, fun w => ?_, ?_, hK⟩
            · simp only [Instr.sliceAt, Instr.slice, Sem.run_bind, run_underlying hu, Result.andThen_ok, hbr, run_sizeOf h5]
              simp [hc]
            · simp only [RepS, Rep]
              have e0 : bndV hi len - bndV lo 0 = 0 := by omega
              rw [e0] at hsub ⊢
              simp only [Nat.zero_mul, List.take_zero] at hsub ⊢
              exact .inr ⟨a, _, [], rfl, by omega, by omega, hsub, fun j u hu => by simp at hu⟩
          · refine ⟨.slice (some (a.add (bndV lo 0 * j.size))) (bndV hi len - bndV lo 0) (cap - bndV lo 0), _, fun w => ?_, ?_, hK⟩
            · simp only [Instr.sliceAt, Instr.slice, Sem.run_bind, run_underlying hu, Result.andThen_ok, hbr, run_sizeOf h5]
              simp [hc]
            · simp only [RepS, Rep]
              refine .inr ⟨_, _, _, rfl, by omega, by omega, hsub, fun q u hu => ?_⟩
              rw [List.getElem?_take] at hu
              split at hu
              · rw [List.getElem?_drop] at hu
                obtain ⟨h11, h12⟩ := h10 _ u hu
                exact ⟨by rw [add_block]; exact h11, by rw [addr_add_add]; exact h12⟩
              · cases hu
      · exact h.elim
    · rename_i id off
      split at h
      · rename_i n e ag sz z fr cs hlay hT
        obtain ⟨h0, hn, h1, h2, hK⟩ := h
        obtain ⟨d, i, zv, hu, _, _, h4, _, _⟩ := lay_spec hlay
        obtain ⟨el, j, dd, rfl, h5, rfl, h6, _⟩ := layK_ar h4
        simp only [RepS, Rep] at hr
        rcases hr with hr | ⟨hlv, b, hb, rfl⟩
        · exact absurd hr (hg _ _ rfl)
        · have hbr := bounds_run (P := P) (isSlice := false) (len := n) (cap := n) hl hh bl bh h1 h2
          have hsure : ∀ w, (Instr.sureAddr (.pointer (some ⟨b, off, none⟩))).run P w = .ok ⟨b, off, none⟩ w := fun w => rfl
          refine ⟨.slice (some (if n = bndV lo 0 then ⟨b, off, none⟩ else (⟨b, off, none⟩ : Addr).add (bndV lo 0 * j.size))) (bndV hi n - bndV lo 0) (n - bndV lo 0), _, fun w => ?_, ?_, hK⟩
          · simp only [Instr.sliceAt, Sem.run_bind, run_underlying hu, Result.andThen_ok, hsure, hbr, run_sizeOf h5, Sem.run_pure]
          · simp only [RepS, Rep]
            refine .inr ⟨hlv, ?_⟩
            rcases hP.wf.obj _ _ _ hT with ⟨h7, _⟩ | ⟨b', us, sp, t', hb', _, h8, h9⟩
            · rw [h7] at hb; cases hb
            obtain rfl : b' = b := by rw [hb'] at hb; injection hb
            have hlen := h9.length
            by_cases hc : n = bndV lo 0
            · refine .inr ⟨by omega, some (if n = bndV lo 0 then ⟨b', off, none⟩ else (⟨b', off, none⟩ : Addr).add (bndV lo 0 * j.size)), ?_⟩
              rw [show bndV hi n - bndV lo 0 = 0 from by omega, show n - bndV lo 0 = 0 from by omega]
            · rw [if_neg hc, addr_mk_add]
              refine .inl ⟨b', _, (us ++ sp).length, hb, rfl, by omega, by unfold maxLen; omega, by unfold bsize; rw [h8]; simp, ?_⟩
              have : n * j.size = bndV lo 0 * j.size + (n - bndV lo 0) * j.size := by rw [← Nat.add_mul]; congr 1; omega
              rw [List.length_append]
              omega
      · exact h.elim
    · rename_i s
      obtain ⟨hu, h1, h2, hK⟩ := h
      simp only [RepS, Rep] at hr
      subst hr
      have hbr := bounds_run (P := P) (isSlice := false) (len := s.size) (cap := s.size) hl hh bl bh h1 h2
      refine ⟨.string (s.extract (bndV lo 0) (bndV hi s.size)), _, ?_, by simp [RepS, Rep], hK⟩
      simp [Instr.sliceAt, Instr.slice, run_underlying hu, hbr]
    · exact h.elim
  · exact h.elim
end
end Go.Tl
