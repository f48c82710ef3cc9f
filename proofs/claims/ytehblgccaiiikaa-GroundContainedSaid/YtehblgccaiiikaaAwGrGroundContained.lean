import Derived.Test.YtehblgccaiiikaaMxBk
import Derived.Test.YtehblgccaiiikaaFnGroundContainedA
import Derived.KernelRfl
namespace Go.Proofs.Ytehblgccaiiikaa
open Go Go.Mx
set_option maxRecDepth 100000
def itB:EIter := fun f cap => match decide (f = 144) || decide (f = 152),cap with
  | true,[[.sl c es full]] => if c = 2∧(es.all fun e => e.length == 2) = true∧es.length≤1000 then some (v_back es) else none
  | _,_ => none
theorem itB_ok:IterOk Try.prog itB := by
  intro f cap vs h
  unfold itB at h
  split at h
  · rename_i c es full hf
    split at h
    · rename_i hc
      obtain ⟨rfl,hc,hl⟩ := hc
      simp only [Option.some.injEq] at h; subst h
      have hall:∀ e∈es,e.length = 2 := by simpa using hc
      rcases Bool.or_eq_true _ _ |>.mp hf with hf | hf
      · obtain rfl := of_decide_eq_true hf
        exact it_back (c := 2) e_slices_Backwardapi_GroundLayer_api_GroundLayer_1 es full hall (by omega)
      · obtain rfl := of_decide_eq_true hf
        exact it_back (c := 2) e_slices_Backwardapi_GroundChoice_api_GroundChoice_1 es full hall (by omega)
    · cases h
  · cases h
def tab:Tab := [(69,0,F_law04_Model.erase),(74,0,F_ground_unless.erase),(73,0,F_ground_first.erase),(95,0,F_ground_within.erase),(75,0,F_ground_isConductivity.erase),(76,0,F_ground_isThickness.erase),(14,0,F_ground_CheckModel.erase),(77,0,F_ground_modelErr.erase),(78,0,F_ground_scaleErr.erase),(125,0,F_slices_Backwardapi_GroundLayer_api_GroundLayer.erase),(145,0,F_ground_divisor.erase),(126,0,F_ground_reduced.erase),(79,0,F_ground_response.erase),(80,0,F_ground_quotient_frac.erase),(16,0,F_ground_ResponseAt.erase),(70,0,F_law04_Class.erase),(71,0,F_law04_Data.erase),(91,0,F_ground_listErr__ground_isConductivity.erase),(92,0,F_slices_Equalint_int.erase),(28,0,F_ground_CheckClass.erase),(93,0,F_ground_open.erase),(110,0,F_ground_CheckData_1.erase),(52,0,F_ground_CheckData.erase),(101,0,F_ground_dataErr.erase),(107,0,F_ground_openData.erase),(94,0,F_ground_class_count.erase),(133,0,F_slices_Backwardapi_GroundChoice_api_GroundChoice.erase),(132,1,F_ground_class_model_1.erase),(96,0,F_ground_class_model.erase),(102,0,F_ground_below.erase),(103,0,F_ground_beyond.erase),(137,0,F_ground_explains.erase),(136,0,F_ground_explainsAll_1.erase),(154,0,F_slices_IndexFuncapi_GroundDatum_api_GroundDatum__ground_explainsAll_1.erase),(135,0,F_slices_ContainsFuncapi_GroundDatum_api_GroundDatum__ground_explainsAll_1.erase),(106,0,F_ground_explainsAll.erase),(108,0,F_ground_class_explained.erase),(48,0,F_ground_ExplainedIn.erase),(124,0,F_ground_disagree.erase),(72,0,F_ground_TwoOf.erase),(98,0,F_slices_Equalapi_GroundLayer_api_GroundLayer.erase),(32,0,F_ground_NumberOf.erase),(58,0,F_base_Ints.erase),(12,0,F_law04_awake.erase)]
theorem tab_ok:Tab.ok Try.prog tab :=
  Tab.ok_cons (b := 0) (show cFn Try.prog 69 = some (F_law04_Model.erase) from e_law04_Model) <|
  Tab.ok_cons (b := 0) (show cFn Try.prog 74 = some (F_ground_unless.erase) from e_ground_unless) <|
  Tab.ok_cons (b := 0) (show cFn Try.prog 73 = some (F_ground_first.erase) from e_ground_first) <|
  Tab.ok_cons (b := 0) (show cFn Try.prog 95 = some (F_ground_within.erase) from e_ground_within) <|
  Tab.ok_cons (b := 0) (show cFn Try.prog 75 = some (F_ground_isConductivity.erase) from e_ground_isConductivity) <|
  Tab.ok_cons (b := 0) (show cFn Try.prog 76 = some (F_ground_isThickness.erase) from e_ground_isThickness) <|
  Tab.ok_cons (b := 0) (show cFn Try.prog 14 = some (F_ground_CheckModel.erase) from e_ground_CheckModel) <|
  Tab.ok_cons (b := 0) (show cFn Try.prog 77 = some (F_ground_modelErr.erase) from e_ground_modelErr) <|
  Tab.ok_cons (b := 0) (show cFn Try.prog 78 = some (F_ground_scaleErr.erase) from e_ground_scaleErr) <|
  Tab.ok_cons (b := 0) (show cFn Try.prog 125 = some (F_slices_Backwardapi_GroundLayer_api_GroundLayer.erase) from e_slices_Backwardapi_GroundLayer_api_GroundLayer) <|
  Tab.ok_cons (b := 0) (show cFn Try.prog 145 = some (F_ground_divisor.erase) from e_ground_divisor) <|
  Tab.ok_cons (b := 0) (show cFn Try.prog 126 = some (F_ground_reduced.erase) from e_ground_reduced) <|
  Tab.ok_cons (b := 0) (show cFn Try.prog 79 = some (F_ground_response.erase) from e_ground_response) <|
  Tab.ok_cons (b := 0) (show cFn Try.prog 80 = some (F_ground_quotient_frac.erase) from e_ground_quotient_frac) <|
  Tab.ok_cons (b := 0) (show cFn Try.prog 16 = some (F_ground_ResponseAt.erase) from e_ground_ResponseAt) <|
  Tab.ok_cons (b := 0) (show cFn Try.prog 70 = some (F_law04_Class.erase) from e_law04_Class) <|
  Tab.ok_cons (b := 0) (show cFn Try.prog 71 = some (F_law04_Data.erase) from e_law04_Data) <|
  Tab.ok_cons (b := 0) (show cFn Try.prog 91 = some (F_ground_listErr__ground_isConductivity.erase) from e_ground_listErr__ground_isConductivity) <|
  Tab.ok_cons (b := 0) (show cFn Try.prog 92 = some (F_slices_Equalint_int.erase) from e_slices_Equalint_int) <|
  Tab.ok_cons (b := 0) (show cFn Try.prog 28 = some (F_ground_CheckClass.erase) from e_ground_CheckClass) <|
  Tab.ok_cons (b := 0) (show cFn Try.prog 93 = some (F_ground_open.erase) from e_ground_open) <|
  Tab.ok_cons (b := 0) (show cFn Try.prog 110 = some (F_ground_CheckData_1.erase) from e_ground_CheckData_1) <|
  Tab.ok_cons (b := 0) (show cFn Try.prog 52 = some (F_ground_CheckData.erase) from e_ground_CheckData) <|
  Tab.ok_cons (b := 0) (show cFn Try.prog 101 = some (F_ground_dataErr.erase) from e_ground_dataErr) <|
  Tab.ok_cons (b := 0) (show cFn Try.prog 107 = some (F_ground_openData.erase) from e_ground_openData) <|
  Tab.ok_cons (b := 0) (show cFn Try.prog 94 = some (F_ground_class_count.erase) from e_ground_class_count) <|
  Tab.ok_cons (b := 0) (show cFn Try.prog 133 = some (F_slices_Backwardapi_GroundChoice_api_GroundChoice.erase) from e_slices_Backwardapi_GroundChoice_api_GroundChoice) <|
  Tab.ok_cons (b := 1) (show cFnM Try.prog 132 = some (F_ground_class_model_1.erase) from e_ground_class_model_1) <|
  Tab.ok_cons (b := 0) (show cFn Try.prog 96 = some (F_ground_class_model.erase) from e_ground_class_model) <|
  Tab.ok_cons (b := 0) (show cFn Try.prog 102 = some (F_ground_below.erase) from e_ground_below) <|
  Tab.ok_cons (b := 0) (show cFn Try.prog 103 = some (F_ground_beyond.erase) from e_ground_beyond) <|
  Tab.ok_cons (b := 0) (show cFn Try.prog 137 = some (F_ground_explains.erase) from e_ground_explains) <|
  Tab.ok_cons (b := 0) (show cFn Try.prog 136 = some (F_ground_explainsAll_1.erase) from e_ground_explainsAll_1) <|
  Tab.ok_cons (b := 0) (show cFn Try.prog 154 = some (F_slices_IndexFuncapi_GroundDatum_api_GroundDatum__ground_explainsAll_1.erase) from e_slices_IndexFuncapi_GroundDatum_api_GroundDatum__ground_explainsAll_1) <|
  Tab.ok_cons (b := 0) (show cFn Try.prog 135 = some (F_slices_ContainsFuncapi_GroundDatum_api_GroundDatum__ground_explainsAll_1.erase) from e_slices_ContainsFuncapi_GroundDatum_api_GroundDatum__ground_explainsAll_1) <|
  Tab.ok_cons (b := 0) (show cFn Try.prog 106 = some (F_ground_explainsAll.erase) from e_ground_explainsAll) <|
  Tab.ok_cons (b := 0) (show cFn Try.prog 108 = some (F_ground_class_explained.erase) from e_ground_class_explained) <|
  Tab.ok_cons (b := 0) (show cFn Try.prog 48 = some (F_ground_ExplainedIn.erase) from e_ground_ExplainedIn) <|
  Tab.ok_cons (b := 0) (show cFn Try.prog 124 = some (F_ground_disagree.erase) from e_ground_disagree) <|
  Tab.ok_cons (b := 0) (show cFn Try.prog 72 = some (F_ground_TwoOf.erase) from e_ground_TwoOf) <|
  Tab.ok_cons (b := 0) (show cFn Try.prog 98 = some (F_slices_Equalapi_GroundLayer_api_GroundLayer.erase) from e_slices_Equalapi_GroundLayer_api_GroundLayer) <|
  Tab.ok_cons (b := 0) (show cFn Try.prog 32 = some (F_ground_NumberOf.erase) from e_ground_NumberOf) <|
  Tab.ok_cons (b := 0) (show cFn Try.prog 58 = some (F_base_Ints.erase) from e_base_Ints) <|
  Tab.ok_cons (b := 0) (show cFn Try.prog 12 = some (F_law04_awake.erase) from e_law04_awake) <|
  Tab.ok_nil
def agP:V→Bool
  | .agg cs => (allP cs).isSome
  | _ => false
theorem agP_pur {v:V} (h:agP v = true) (hp:List Blk):pur hp v = some v := by
  cases v with
  | agg cs =>
    simp only [agP,Option.isSome_iff_exists] at h
    obtain ⟨ps,h⟩ := h
    have e := allP_map h
    subst e
    simp only [pur,purC_map]; rfl
  | _ => simp [agP] at h
def upTo (g:Nat→Option V):Nat→Option (List V)
  | 0 => some []
  | n + 1 => match upTo g n,g n with
    | some l,some v => if agP v = true then some (l ++ [v]) else none
    | _,_ => none
theorem upTo_is {g:Nat→Option V}:∀ {n:Nat} {l:List V},upTo g n = some l→l.length = n∧∀ k,k < n→g k = some (l.getD k .und)∧agP (l.getD k .und) = true
  | 0,l,h => by simp only [upTo,Option.some.injEq] at h; subst h; exact ⟨rfl,fun k hk => absurd hk (Nat.not_lt_zero _)⟩
  | n + 1,l,h => by
    simp only [upTo] at h
    split at h
    · rename_i l0 v hl hv
      split at h
      · rename_i ha
        simp only [Option.some.injEq] at h; subst h
        obtain ⟨h1,h2⟩ := upTo_is hl
        refine ⟨by simp [h1],fun k hk => ?_⟩
        by_cases e:k = n
        · subst e
          have:(l0 ++ [v]).getD k .und = v := by simp [List.getD,← h1]
          rw [this]; exact ⟨hv,ha⟩
        · have:(l0 ++ [v]).getD k .und = l0.getD k .und := by simp only [List.getD]; rw [List.getElem?_append_left (by omega)]
          rw [this]; exact h2 k (by omega)
      · cases h
    · cases h
def evM (P:Program) (t:Tab) (u:Nat):EFun := evAll P t itB EFun.none 100 u
theorem evM_ok:(evM Try.prog tab 20).Ok Try.prog := evAll_ok tab_ok itB_ok EFun.none_ok 20
def itG (P:Program) (t:Tab):EIter := fun f cap => match decide (f = 1000000097),cap with
  | true,[[q]] => match (evM P t 20).F 94 [.agg [.p q]] with
    | some (.p (.int .i64 (.ofNat n))) => if n≤1000 then (upTo (fun k => (evM P t 20).F 96 [.agg [.p q],.p (.int .i64 (k:Int))]) n).map fun l => v_ups n fun k => l.getD k .und else none
    | _ => none
  | _,_ => itB f cap
theorem itG_ok:IterOk Try.prog (itG Try.prog tab) := by
  intro f cap vs h
  unfold itG at h
  split at h
  · rename_i q hf
    obtain rfl := of_decide_eq_true hf
    split at h
    · rename_i n hn
      split at h
      · rename_i hle
        cases hl:upTo (fun k => (evM Try.prog tab 20).F 96 [.agg [.p q],.p (.int .i64 (k:Int))]) n with
        | none => simp [hl] at h
        | some l =>
          simp only [hl,Option.map_some,Option.some.injEq] at h
          subst h
          obtain ⟨h1,h2⟩ := upTo_is hl
          exact it_ups (cF := 94) (mF := 96) e_ground_class_models rfl q n (by omega) _ _ (evM_ok.F _ _ _ hn) (fun k hk => evM_ok.F _ _ _ (h2 k hk).1) (fun k hp hk => agP_pur (h2 k hk).2 hp)
      · cases h
    · cases h
  · exact itB_ok _ _ _ h
/-- The examples of the document. -/
def s_law04_awake:Bool := true
abbrev con_law04_awake:Con := ⟨P_law04_awake,R_law04_awake,fun _ => [],fun _ => s_law04_awake⟩
theorem ok_law04_awake:ConOk Try.prog 12 con_law04_awake := ⟨k_law04_awake,fun _ _ => ret_ev tab_ok (it := (itG Try.prog tab)) itG_ok EFun.none_ok (n := 100) (d := 20) (by kernel_rfl)⟩
end Go.Proofs.Ytehblgccaiiikaa
