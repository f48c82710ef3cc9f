import Derived.Test.YtehblgccaiiikaaGreatMxBk
import Derived.Test.YtehblgccaiiikaaGreatFnGroundExplainedA
import Derived.KernelRfl
namespace Go.Proofs.YtehblgccaiiikaaGreat
open Go Go.Mx
set_option maxRecDepth 100000
def itB:EIter := fun f cap => match decide (f = 128) || decide (f = 111),cap with
  | true,[[.sl c es full]] => if c = 2∧(es.all fun e => e.length == 2) = true∧es.length≤1000 then some (v_back es) else none
  | _,_ => none
theorem itB_ok:IterOk Tryz.prog itB := by
  intro f cap vs h
  unfold itB at h
  split at h
  · rename_i c es full hf
    split at h
    · rename_i hc
      obtain ⟨rfl,hc,hl⟩ := hc
      simp only [sJ] at h; subst h
      have hall:∀ e∈es,e.length = 2 := by simpa using hc
      rcases Bool.or_eq_true _ _ |>.mp hf with hf | hf
      · obtain rfl := of_decide_eq_true hf
        exact it_back (c := 2) e_Z2n es full hall (by omega)
      · obtain rfl := of_decide_eq_true hf
        exact it_back (c := 2) e_Z2m es full hall (by omega)
    · cases h
  · cases h
def tab:Tab := [(43,0,F_Z2o.erase),(52,0,F_Z4.erase),(53,0,F_Zm.erase),(54,0,F_Zh.erase),(126,0,F_Z25.erase),(127,0,F_Z26.erase),(104,0,F_Z2w.erase),(80,0,F_Z2u.erase),(81,0,F_Z27.erase),(105,0,F_Z2b.erase),(114,0,F_Z16.erase),(95,0,F_Z1g.erase),(82,0,F_Zq.erase),(66,0,F_Z2t.erase),(42,0,F_Z2p.erase),(44,0,F_Z2q.erase),(45,0,F_Z2r.erase),(129,0,F_Z11.erase),(130,0,F_Zu.erase),(106,0,F_Z7.erase),(83,0,F_Z28.erase),(131,0,F_Z2c.erase),(107,0,F_Z6.erase),(85,0,F_Z29.erase),(48,0,F_Z21.erase),(77,0,F_Zw.erase),(88,0,F_Z2a.erase),(87,1,F_Z15.erase),(50,0,F_Zj.erase),(133,0,F_Z1h.erase),(134,0,F_Z1i.erase),(110,0,F_Z1q.erase),(109,0,F_Z23.erase),(132,0,F_Z12.erase),(108,0,F_Z1p.erase),(86,0,F_Z1f.erase),(49,0,F_Zl.erase),(10,0,F_Z1e.erase),(55,0,F_Z10.erase),(14,0,F_Ze.erase),(84,0,F_Z2v.erase),(46,0,F_Z2s.erase),(18,0,F_Zs.erase),(6,0,F_Z2k.erase)]
theorem tab_ok:Tab.ok Tryz.prog tab :=
  Tab.ok_cons (b := 0) (show cFn Tryz.prog 43 = some (F_Z2o.erase) from e_Z2o) <|
  Tab.ok_cons (b := 0) (show cFn Tryz.prog 52 = some (F_Z4.erase) from e_Z4) <|
  Tab.ok_cons (b := 0) (show cFn Tryz.prog 53 = some (F_Zm.erase) from e_Zm) <|
  Tab.ok_cons (b := 0) (show cFn Tryz.prog 54 = some (F_Zh.erase) from e_Zh) <|
  Tab.ok_cons (b := 0) (show cFn Tryz.prog 126 = some (F_Z25.erase) from e_Z25) <|
  Tab.ok_cons (b := 0) (show cFn Tryz.prog 127 = some (F_Z26.erase) from e_Z26) <|
  Tab.ok_cons (b := 0) (show cFn Tryz.prog 104 = some (F_Z2w.erase) from e_Z2w) <|
  Tab.ok_cons (b := 0) (show cFn Tryz.prog 80 = some (F_Z2u.erase) from e_Z2u) <|
  Tab.ok_cons (b := 0) (show cFn Tryz.prog 81 = some (F_Z27.erase) from e_Z27) <|
  Tab.ok_cons (b := 0) (show cFn Tryz.prog 105 = some (F_Z2b.erase) from e_Z2b) <|
  Tab.ok_cons (b := 0) (show cFn Tryz.prog 114 = some (F_Z16.erase) from e_Z16) <|
  Tab.ok_cons (b := 0) (show cFn Tryz.prog 95 = some (F_Z1g.erase) from e_Z1g) <|
  Tab.ok_cons (b := 0) (show cFn Tryz.prog 82 = some (F_Zq.erase) from e_Zq) <|
  Tab.ok_cons (b := 0) (show cFn Tryz.prog 66 = some (F_Z2t.erase) from e_Z2t) <|
  Tab.ok_cons (b := 0) (show cFn Tryz.prog 42 = some (F_Z2p.erase) from e_Z2p) <|
  Tab.ok_cons (b := 0) (show cFn Tryz.prog 44 = some (F_Z2q.erase) from e_Z2q) <|
  Tab.ok_cons (b := 0) (show cFn Tryz.prog 45 = some (F_Z2r.erase) from e_Z2r) <|
  Tab.ok_cons (b := 0) (show cFn Tryz.prog 129 = some (F_Z11.erase) from e_Z11) <|
  Tab.ok_cons (b := 0) (show cFn Tryz.prog 130 = some (F_Zu.erase) from e_Zu) <|
  Tab.ok_cons (b := 0) (show cFn Tryz.prog 106 = some (F_Z7.erase) from e_Z7) <|
  Tab.ok_cons (b := 0) (show cFn Tryz.prog 83 = some (F_Z28.erase) from e_Z28) <|
  Tab.ok_cons (b := 0) (show cFn Tryz.prog 131 = some (F_Z2c.erase) from e_Z2c) <|
  Tab.ok_cons (b := 0) (show cFn Tryz.prog 107 = some (F_Z6.erase) from e_Z6) <|
  Tab.ok_cons (b := 0) (show cFn Tryz.prog 85 = some (F_Z29.erase) from e_Z29) <|
  Tab.ok_cons (b := 0) (show cFn Tryz.prog 48 = some (F_Z21.erase) from e_Z21) <|
  Tab.ok_cons (b := 0) (show cFn Tryz.prog 77 = some (F_Zw.erase) from e_Zw) <|
  Tab.ok_cons (b := 0) (show cFn Tryz.prog 88 = some (F_Z2a.erase) from e_Z2a) <|
  Tab.ok_cons (b := 1) (show cFnM Tryz.prog 87 = some (F_Z15.erase) from e_Z15) <|
  Tab.ok_cons (b := 0) (show cFn Tryz.prog 50 = some (F_Zj.erase) from e_Zj) <|
  Tab.ok_cons (b := 0) (show cFn Tryz.prog 133 = some (F_Z1h.erase) from e_Z1h) <|
  Tab.ok_cons (b := 0) (show cFn Tryz.prog 134 = some (F_Z1i.erase) from e_Z1i) <|
  Tab.ok_cons (b := 0) (show cFn Tryz.prog 110 = some (F_Z1q.erase) from e_Z1q) <|
  Tab.ok_cons (b := 0) (show cFn Tryz.prog 109 = some (F_Z23.erase) from e_Z23) <|
  Tab.ok_cons (b := 0) (show cFn Tryz.prog 132 = some (F_Z12.erase) from e_Z12) <|
  Tab.ok_cons (b := 0) (show cFn Tryz.prog 108 = some (F_Z1p.erase) from e_Z1p) <|
  Tab.ok_cons (b := 0) (show cFn Tryz.prog 86 = some (F_Z1f.erase) from e_Z1f) <|
  Tab.ok_cons (b := 0) (show cFn Tryz.prog 49 = some (F_Zl.erase) from e_Zl) <|
  Tab.ok_cons (b := 0) (show cFn Tryz.prog 10 = some (F_Z1e.erase) from e_Z1e) <|
  Tab.ok_cons (b := 0) (show cFn Tryz.prog 55 = some (F_Z10.erase) from e_Z10) <|
  Tab.ok_cons (b := 0) (show cFn Tryz.prog 14 = some (F_Ze.erase) from e_Ze) <|
  Tab.ok_cons (b := 0) (show cFn Tryz.prog 84 = some (F_Z2v.erase) from e_Z2v) <|
  Tab.ok_cons (b := 0) (show cFn Tryz.prog 46 = some (F_Z2s.erase) from e_Z2s) <|
  Tab.ok_cons (b := 0) (show cFn Tryz.prog 18 = some (F_Zs.erase) from e_Zs) <|
  Tab.ok_cons (b := 0) (show cFn Tryz.prog 6 = some (F_Z2k.erase) from e_Z2k) <|
  Tab.ok_nil
def agP:V→Bool
  | .agg cs => (allP cs).isSome
  | _ => false
theorem agP_pur {v:V} (h:agP v = true) (hp:List Blk):pur hp v = some v := by
  cases v with
  | agg cs =>
    simp only [agP,Option.isSome_iff_exists] at h
    obtain ⟨ps,h⟩ := h
    have e := allP_map h
    subst e
    simp only [pur,purC_map]; rfl
  | _ => simp [agP] at h
def upTo (g:Nat→Option V):Nat→Option (List V)
  | 0 => some []
  | n + 1 => match upTo g n,g n with
    | some l,some v => if agP v = true then some (l ++ [v]) else none
    | _,_ => none
theorem upTo_is {g:Nat→Option V}:∀ {n:Nat} {l:List V},upTo g n = some l→l.length = n∧∀ k,k < n→g k = some (l.getD k .und)∧agP (l.getD k .und) = true
  | 0,l,h => by simp only [upTo,sJ] at h; subst h; exact ⟨rfl,fun k hk => absurd hk (Nat.not_lt_zero _)⟩
  | n + 1,l,h => by
    simp only [upTo] at h
    split at h
    · rename_i l0 v hl hv
      split at h
      · rename_i ha
        simp only [sJ] at h; subst h
        obtain ⟨h1,h2⟩ := upTo_is hl
        refine ⟨by simp [h1],fun k hk => ?_⟩
        by_cases e:k = n
        · subst e
          have:(l0 ++ [v]).getD k .und = v := by simp [List.getD,← h1]
          rw [this]; exact ⟨hv,ha⟩
        · have:(l0 ++ [v]).getD k .und = l0.getD k .und := by simp only [List.getD]; rw [List.getElem?_append_left (by omega)]
          rw [this]; exact h2 k (by omega)
      · cases h
    · cases h
def evM (P:Program) (t:Tab) (u:Nat):EFun := evAll P t itB EFun.none 100 u
theorem evM_ok:(evM Tryz.prog tab 20).Ok Tryz.prog := evAll_ok tab_ok itB_ok EFun.none_ok 20
def itG (P:Program) (t:Tab):EIter := fun f cap => match decide (f = 1000000063),cap with
  | true,[[q]] => match (evM P t 20).F 77 [.agg [.p q]] with
    | some (.p (.int .i64 (.ofNat n))) => if n≤1000 then (upTo (fun k => (evM P t 20).F 50 [.agg [.p q],.p (.int .i64 (k:Int))]) n).map fun l => v_ups n fun k => l.getD k .und else none
    | _ => none
  | _,_ => itB f cap
theorem itG_ok:IterOk Tryz.prog (itG Tryz.prog tab) := by
  intro f cap vs h
  unfold itG at h
  split at h
  · rename_i q hf
    obtain rfl := of_decide_eq_true hf
    split at h
    · rename_i n hn
      split at h
      · rename_i hle
        cases hl:upTo (fun k => (evM Tryz.prog tab 20).F 50 [.agg [.p q],.p (.int .i64 (k:Int))]) n with
        | none => simp [hl] at h
        | some l =>
          simp only [hl,Option.map_some,sJ] at h
          subst h
          obtain ⟨h1,h2⟩ := upTo_is hl
          exact it_ups (cF := 77) (mF := 50) e_Z2l rfl q n (by omega) _ _ (evM_ok.F _ _ _ hn) (fun k hk => evM_ok.F _ _ _ (h2 k hk).1) (fun k hp hk => agP_pur (h2 k hk).2 hp)
      · cases h
    · cases h
  · exact itB_ok _ _ _ h
/-- The examples of the document. -/
def s_Z2k:Bool := true
abbrev con_Z2k:Con := ⟨P_Z2k,R_Z2k,fun _ => [],fun _ => s_Z2k⟩
theorem ok_Z2k:ConOk Tryz.prog 6 con_Z2k := ⟨k_Z2k,fun _ _ => ret_ev tab_ok (it := (itG Tryz.prog tab)) itG_ok EFun.none_ok (n := 100) (d := 20) (by kernel_rfl)⟩
end Go.Proofs.YtehblgccaiiikaaGreat
