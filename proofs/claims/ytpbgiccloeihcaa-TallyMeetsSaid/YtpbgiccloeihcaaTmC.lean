/- The tree logic, part MC: calls and loops, and which rules the simplifier takes. -/
import Derived.Test.YtpbgiccloeihcaaTmB
namespace Go.Tl
open Go.RowKit

/-- So that the simplifier leaves what is to follow as it is. -/
inductive Wrap (K : M → Tbl → Prop) : Type
  | mk

/-- A call, closed to unfolding. -/
structure CallX (P : Program) (q : Bool) (f : FuncId) (args : List M) (T : Tbl) (K : M → Tbl → Prop) (w : Wrap K) : Prop where
  of : CallW P q f args T K
theorem CallX_eq {P : Program} {q : Bool} {f : FuncId} {args : List M} {T : Tbl} {K : M → Tbl → Prop} : CallW P q f args T K = CallX P q f args T K .mk := propext ⟨fun h => ⟨h⟩, fun h => h.of⟩

section
variable {P : Program} {q : Bool} {f : FuncId} {args : List M} {T : Tbl} {K K' : M → Tbl → Prop}

theorem CallX.by4 {args' : List M} {Tc : Tbl} (hc : Con P f args' Tc K') (al : Bool) (ρ : List Nat) (d : Nat) (hn : ρ.Nodup) (hlt : ∀ id ∈ ρ, id < T.length) (hq : q = true → ρ = [])
    (ha : args.map (rs al T ρ d true) = args') (hT : (ρ.map fun id => rsOb al T ρ d (T.getD id .gone)) = Tc)
    (hk : ∀ m T', K' m T' → ρ.length ≤ T'.length → (al = false → frM m = true ∧ T'.all frOb = true) ∧
      K (m.mp (gMap T.length ρ)) (setAll T ρ ((T'.take ρ.length).map (obMp (gMap T.length ρ))) ++ (T'.drop ρ.length).map (obMp (gMap T.length ρ)))) : CallX P q f args T K .mk :=
  ⟨call_con hc al d ρ hn hlt hT.symm ha.symm hq hk⟩
theorem CallW.by3 (al : Bool) (ρ : List Nat) (d : Nat) (hn : ρ.Nodup) (hlt : ∀ id ∈ ρ, id < T.length) (hq : q = true → ρ = [])
    (hc : Con P f (args.map (rs al T ρ d true)) (ρ.map fun id => rsOb al T ρ d (T.getD id .gone)) K')
    (hk : ∀ m T', K' m T' → ρ.length ≤ T'.length → (al = false → frM m = true ∧ T'.all frOb = true) ∧
      K (m.mp (gMap T.length ρ)) (setAll T ρ ((T'.take ρ.length).map (obMp (gMap T.length ρ))) ++ (T'.drop ρ.length).map (obMp (gMap T.length ρ)))) : CallX P q f args T K .mk :=
  ⟨call_con hc al d ρ hn hlt rfl rfl hq hk⟩

end

theorem unfrL_map {α : Type} {f : α → M} : ∀ (xs : List α), unfrL (xs.map f) = xs.map fun x => unfr (f x)
  | [] => rfl
  | x :: xs => by simp [unfrL, unfrL_map xs]
theorem tk_map {α β : Type} {f : α → β} {xs : List α} : (xs.map f).take xs.length = xs.map f := by
  rw [← List.map_take, List.take_length]
theorem frL_map {α : Type} {f : α → M} : ∀ (xs : List α), (∀ x, frM (f x) = true) → frL (xs.map f) = true
  | [], _ => rfl
  | x :: xs, h => by simp [frL, h x, frL_map xs h]
theorem clL_map {α : Type} {f : α → M} : ∀ (xs : List α), (∀ x, clM (f x) = true) → clL (xs.map f) = true
  | [], _ => rfl
  | x :: xs, h => by simp [clL, h x, clL_map xs h]
theorem mpL_map {α : Type} {f : α → M} {g : Nat → Option Nat} : ∀ (xs : List α), M.mpL g (xs.map f) = xs.map fun x => (f x).mp g
  | [] => rfl
  | x :: xs => by simp [M.mpL, mpL_map xs]
theorem frzL_map {α : Type} {f : α → M} {i : Nat} {cs : List M} : ∀ (xs : List α), frzL i cs (xs.map f) = xs.map fun x => frz i cs (f x)
  | [] => rfl
  | x :: xs => by simp [frzL, frzL_map xs]

theorem clM_any : clM .any = true := rfl
theorem frz_any {i : Nat} {c : List M} : frz i c .any = .any := rfl
theorem clM_v {x : Value} : clM (.v x) = true := rfl
theorem frz_v {i : Nat} {c : List M} {x : Value} : frz i c (.v x) = (.v x) := rfl
theorem clM_sl {fr : Bool} {cs : List M} {n : Nat} : clM (.sl fr cs n) = true := rfl
theorem frz_sl {i : Nat} {c : List M} {fr : Bool} {cs : List M} {n : Nat} : frz i c (.sl fr cs n) = (.sl fr cs n) := rfl
theorem clM_ip {fr : Bool} {cs : List M} {n : Nat} : clM (.ip fr cs n) = true := rfl
theorem frz_ip {i : Nat} {c : List M} {fr : Bool} {cs : List M} {n : Nat} : frz i c (.ip fr cs n) = (.ip fr cs n) := rfl
theorem clM_ref {id off : Nat} : clM (.ref id off) = false := rfl
theorem frz_ref {i : Nat} {c : List M} {id off : Nat} : frz i c (.ref id off) = (if id = i then .ip true c off else .ref id off) := rfl
theorem clM_sr {id off n sz : Nat} : clM (.sr id off n sz) = false := rfl
theorem frz_sr {i : Nat} {c : List M} {id off n sz : Nat} : frz i c (.sr id off n sz) = (if id = i then .sl true ((c.drop off).take (n * sz)) n else .sr id off n sz) := rfl
theorem clM_sx : clM .sx = true := rfl
theorem frz_sx {i : Nat} {c : List M} : frz i c .sx = .sx := rfl
theorem clM_fn {f : Fn} {a b : List M} : clM (.fn f a b) = (clL a && clL b) := rfl
theorem frz_fn {i : Nat} {c : List M} {f : Fn} {a b : List M} : frz i c (.fn f a b) = .fn f (frzL i c a) (frzL i c b) := rfl
theorem clM_ifc {t : TypeId} {m : M} : clM (.ifc t m) = clM m := rfl
theorem frz_ifc {i : Nat} {c : List M} {t : TypeId} {m : M} : frz i c (.ifc t m) = .ifc t (frz i c m) := rfl
theorem clM_agg {cs : List M} : clM (.agg cs) = clL cs := rfl
theorem frz_agg {i : Nat} {c : List M} {cs : List M} : frz i c (.agg cs) = .agg (frzL i c cs) := rfl
theorem clM_tup {cs : List M} : clM (.tup cs) = clL cs := rfl
theorem frz_tup {i : Nat} {c : List M} {cs : List M} : frz i c (.tup cs) = .tup (frzL i c cs) := rfl
theorem clL_nil : clL [] = true := rfl
theorem clL_cons {m : M} {ms : List M} : clL (m :: ms) = (clM m && clL ms) := rfl
theorem frzL_nil {i : Nat} {c : List M} : frzL i c [] = [] := rfl
theorem frzL_cons {i : Nat} {c m : _} {ms : List M} : frzL i c (m :: ms) = frz i c m :: frzL i c ms := rfl
theorem frM_any : frM .any = true := rfl
theorem unfr_any : unfr .any = .any := rfl
theorem mp_any {g : Nat → Option Nat} : M.mp g .any = .any := rfl
theorem frM_v {x : Value} : frM (.v x) = true := rfl
theorem unfr_v {x : Value} : unfr (.v x) = (.v x) := rfl
theorem mp_v {g : Nat → Option Nat} {x : Value} : M.mp g (.v x) = (.v x) := rfl
theorem frM_sl {fr : Bool} {cs : List M} {n : Nat} : frM (.sl fr cs n) = (fr && frL cs) := rfl
theorem unfr_sl {fr : Bool} {cs : List M} {n : Nat} : unfr (.sl fr cs n) = .sl false (unfrL cs) n := rfl
theorem mp_sl {g : Nat → Option Nat} {fr : Bool} {cs : List M} {n : Nat} : M.mp g (.sl fr cs n) = (.sl fr cs n) := rfl
theorem frM_ip {fr : Bool} {cs : List M} {n : Nat} : frM (.ip fr cs n) = (fr && frL cs) := rfl
theorem unfr_ip {fr : Bool} {cs : List M} {n : Nat} : unfr (.ip fr cs n) = .ip false (unfrL cs) n := rfl
theorem mp_ip {g : Nat → Option Nat} {fr : Bool} {cs : List M} {n : Nat} : M.mp g (.ip fr cs n) = (.ip fr cs n) := rfl
theorem frM_ref {id off : Nat} : frM (.ref id off) = true := rfl
theorem unfr_ref {id off : Nat} : unfr (.ref id off) = (.ref id off) := rfl
theorem frM_sr {id off n sz : Nat} : frM (.sr id off n sz) = true := rfl
theorem unfr_sr {id off n sz : Nat} : unfr (.sr id off n sz) = (.sr id off n sz) := rfl
theorem frM_sx : frM .sx = true := rfl
theorem unfr_sx : unfr .sx = .sx := rfl
theorem mp_sx {g : Nat → Option Nat} : M.mp g .sx = .sx := rfl
theorem frM_fn {f : Fn} {a b : List M} : frM (.fn f a b) = (frL a && frL b) := rfl
theorem unfr_fn {f : Fn} {a b : List M} : unfr (.fn f a b) = .fn f (unfrL a) (unfrL b) := rfl
theorem mp_fn {g : Nat → Option Nat} {f : Fn} {a b : List M} : M.mp g (.fn f a b) = .fn f (M.mpL g a) (M.mpL g b) := rfl
theorem frM_ifc {t : TypeId} {m : M} : frM (.ifc t m) = frM m := rfl
theorem unfr_ifc {t : TypeId} {m : M} : unfr (.ifc t m) = .ifc t (unfr m) := rfl
theorem mp_ifc {g : Nat → Option Nat} {t : TypeId} {m : M} : M.mp g (.ifc t m) = .ifc t (m.mp g) := rfl
theorem frM_agg {cs : List M} : frM (.agg cs) = frL cs := rfl
theorem unfr_agg {cs : List M} : unfr (.agg cs) = .agg (unfrL cs) := rfl
theorem mp_agg {g : Nat → Option Nat} {cs : List M} : M.mp g (.agg cs) = .agg (M.mpL g cs) := rfl
theorem frM_tup {cs : List M} : frM (.tup cs) = frL cs := rfl
theorem unfr_tup {cs : List M} : unfr (.tup cs) = .tup (unfrL cs) := rfl
theorem mp_tup {g : Nat → Option Nat} {cs : List M} : M.mp g (.tup cs) = .tup (M.mpL g cs) := rfl
theorem mp_ref {g : Nat → Option Nat} {id off : Nat} : M.mp g (.ref id off) = (match g id with | some j => .ref j off | none => .any) := rfl
theorem mp_sr {g : Nat → Option Nat} {id off n sz : Nat} : M.mp g (.sr id off n sz) = (match g id with | some j => .sr j off n sz | none => .any) := rfl
theorem frL_nil : frL [] = true := rfl
theorem frL_cons {m : M} {ms : List M} : frL (m :: ms) = (frM m && frL ms) := rfl
theorem unfrL_nil : unfrL [] = [] := rfl
theorem unfrL_cons {m : M} {ms : List M} : unfrL (m :: ms) = unfr m :: unfrL ms := rfl
theorem mpL_nil {g : Nat → Option Nat} : M.mpL g [] = [] := rfl
theorem mpL_cons {g : Nat → Option Nat} {m : M} {ms : List M} : M.mpL g (m :: ms) = m.mp g :: M.mpL g ms := rfl
section
variable {P : Program} {q : Bool} {env : Env} {T : Tbl} {K : M → Tbl → Prop}
theorem qCall_f {f : FuncId} {xs : List Operand} {ts : Array TypeId} : callK P q env T ⟨.value (.func f), ⟨xs⟩, ts⟩ K = evL env xs (fun ms => CallX P q f ms T K .mk) := by
  rw [callK_f]; simp only [CallX_eq]
theorem qCall_t {k : Nat} {xs : List Operand} {ts : Array TypeId} : callK P q env T ⟨.value (.tmp k), ⟨xs⟩, ts⟩ K = slotK env k (fun m => evL env xs (fun ms => fnK m ms (fun g as => CallX P q g as T K .mk))) := by
  rw [callK_t]; simp only [CallX_eq]
end
attribute [simp ↓] evK_tmp evK_int evK_bool evK_str evK_ptr evK_sl evK_map evK_nilFunc evK_nilIface evK_func evK_agg slotK_envL_hit slotK_envL_miss slotK_envL_nil getK_zero getK_succ getK_nil lenK_nil lenK_cons pushK_nil pushK_cons setK_zero setK_succ blkK_zero blkK_succ putK_zero putK_succ putK_int putK_bool boolK_b evL_nil evL_cons evP_nil evP_cons evO_none evO_some atM_zero atM_succ atM_map
attribute [simp ↓] pO_move pO_assign pO_load pO_store pO_build pO_buildSlice pO_binOp pO_unOp pO_convert pO_makeFunc pO_makeSlice pO_slice pO_fieldAddr pO_indexAddr pO_field pO_index pO_extract qO_pick pkK_true pkK_false pO_box pO_nilCheck nilK_ref nilK_ip nilK_fn ldM_ref ldM_ip ldA_ref ldA_ip storeK_int storeK_bool storeK_str storeK_sl faK_ref faK_ip faK_succ
attribute [simp ↓] pB_add pB_sub pB_mul pB_eql pB_neq pB_lss pB_leq pB_gtr pB_geq pB_and pB_or pB_xor pB_andNot pB_quo pB_rem pB_shl pB_shr pU_not pU_neg pU_xor opExtract_eq partM_one partM_ag opLen_eq opAppend_eq thenM_n thenM_r thenM_x blockM_n blockM_r blockM_x pMin pMax pO_call callK_b qCall_f qCall_t fnK_fn boxK_agg boxK_int boxK_bool boxK_str boxK_slv boxK_sl rowK_sl rowK_nil rowK_sx rowK_sr bndOk_none bndOk_int bndV_none bndV_int
attribute [simp ↓] refN_ref oW_load oW_move oW_assign oW_pick oW_alloc oW_box oW_build oW_buildSlice oW_store oW_nilCheck oW_binOp oW_unOp oW_convert oW_makeFunc oW_makeSlice oW_slice oW_fieldAddr oW_field oW_indexAddr oW_index oW_extract oW_call oW_makeInterface opK_zero opK_succ rL_pick rL_pick_nil rL_nil rL_s rL_n rL_st rL_sf rL_nt rL_nf dstK_zero dstK_succ lkK_nil lkK_hit lkK_miss ifK_tt ifK_ff ifK_tf ifK_ft spK_tt spK_ff spK_tf spK_ft addS_some addS_none keepE_nil keepE_cons cdK_true cdK_false argL_nil argL_cons pn_nil pn_cons qO_alloc agK_one agK_sl agK_st agK_ar qLoad qStore stM_one stM_ag stA_eq storeK_sr storeK_ref storeK_ip storeK_slv storeK_ptr storeK_map storeK_nilFunc storeK_nilIface storeK_fn storeK_ifc storeK_sx qBuild buildK_st buildK_ar flS_nil flS_cons flK_nil flK_cons plcK_zero plcK_succ celK_int celK_bool celK_str celK_ptr celK_slv celK_map celK_nilFunc celK_nilIface celK_sl celK_ip celK_sx celK_fn celK_ifc celK_agg celK_ref celK_sr
attribute [simp ↓] slzK_sl qBuildSlice qFieldAddr fadK_st qIndexAddr ixK_sr ixK_sl ixK_arR ixK_arI qField fldK_zero fldK_succ qIndex_ag arK_ar qIndex_str qMakeSlice qSlice_sl qSlice_sr qSlice_str qSlice_ref aryK_ar qAppend apK_nil apK_sx apK_sr qLen lenD_sl lenD_sr lenD_nil lenD_sx lenD_str lenD_ar qConvert cvD_int cvD_str eqB_eql eqB_neq qEq_bool qEq_ref qEq_ip qEq_ptr qEq_slnil qEq_srnil qEq_nilnil qS_add qS_eql qS_neq qS_lss qS_leq qS_gtr qS_geq
attribute [simp ↓ 100] spK_t spK_f cdK_b pkK_bb
attribute [simp] liveB_zero liveB_succ one_int one_bool one_str one_ptr one_slv one_map one_nilFunc one_nilIface one_sl one_ip one_sx one_fn one_ifc one_ref one_sr one_agg spl_nil spl_succ spl_cons spl_one bolD_bool ptrD_pointer slcD_slice strD_string zeros unfrL_map tk_map frL_map clL_map mpL_map frM_any unfr_any mp_any frM_v unfr_v mp_v frM_sl unfr_sl mp_sl frM_ip unfr_ip mp_ip frM_ref unfr_ref frM_sr unfr_sr frM_sx unfr_sx mp_sx frM_fn unfr_fn mp_fn frM_ifc unfr_ifc mp_ifc frM_agg unfr_agg mp_agg frM_tup unfr_tup mp_tup mp_ref mp_sr frL_nil frL_cons unfrL_nil unfrL_cons mpL_nil mpL_cons clM_any frz_any clM_v frz_v clM_sl frz_sl clM_ip frz_ip clM_ref frz_ref clM_sr frz_sr clM_sx frz_sx clM_fn frz_fn clM_ifc frz_ifc clM_agg frz_agg clM_tup frz_tup clL_nil clL_cons frzL_nil frzL_cons frzL_map resL tupM
end Go.Tl
