import Derived.Test.YtepdfhjmngbhhaaGreatDoorMxBk
import Derived.Test.YtepdfhjmngbhhaaGreatDoorFnGroundStringsA
import Derived.KernelRfl
namespace Go.Proofs.YtepdfhjmngbhhaaGreatDoor
open Go Go.Mx
set_option maxRecDepth 100000
def itB:EIter := fun f cap => match decide (f = 208) || decide (f = 207),cap with
  | true,[[.sl c es full]] => if c = 2∧(es.all fun e => e.length == 2) = true∧es.length≤1000 then some (v_back es) else none
  | _,_ => none
theorem itB_ok:IterOk Tryz.prog itB := by
  intro f cap vs h
  unfold itB at h
  split at h
  · rename_i c es full hf
    split at h
    · rename_i hc
      obtain ⟨rfl,hc,hl⟩ := hc
      simp only [sJ] at h; subst h
      have hall:∀ e∈es,e.length = 2 := by simpa using hc
      rcases Bool.or_eq_true _ _ |>.mp hf with hf | hf
      · obtain rfl := of_decide_eq_true hf
        exact it_back (c := 2) e_Z29 es full hall (by omega)
      · obtain rfl := of_decide_eq_true hf
        exact it_back (c := 2) e_Z28 es full hall (by omega)
    · cases h
  · cases h
def tab:Tab := [(91,0,F_Z1f.erase),(117,0,F_Z8.erase),(121,0,F_Zj.erase),(118,0,F_Zg.erase),(198,0,F_Zt.erase),(199,0,F_Zu.erase),(154,0,F_Za.erase),(98,0,F_Zq.erase),(122,0,F_Zs.erase),(175,0,F_Z1v.erase),(209,0,F_Z20.erase),(176,0,F_Z1w.erase),(123,0,F_Z1m.erase),(124,0,F_Z1n.erase),(58,0,F_Z1c.erase),(92,0,F_Z1g.erase),(93,0,F_Z1h.erase),(205,0,F_Z1y.erase),(206,0,F_Z1z.erase),(172,0,F_Z1s.erase),(116,0,F_Z1j.erase),(200,0,F_Zv.erase),(155,0,F_Z5.erase),(99,0,F_Zr.erase),(126,0,F_Z1o.erase),(119,0,F_Z1k.erase),(174,0,F_Z1t.erase),(173,1,F_Z1u.erase),(120,0,F_Z1l.erase),(234,0,F_Z25.erase),(235,0,F_Z26.erase),(212,0,F_Z24.erase),(211,0,F_Z23.erase),(233,0,F_Z22.erase),(210,0,F_Z21.erase),(177,0,F_Z1x.erase),(127,0,F_Z1p.erase),(63,0,F_Z1d.erase),(134,0,F_Z1q.erase),(68,0,F_Z1e.erase),(150,0,F_Z1r.erase),(94,0,F_Z1i.erase),(48,0,F_Z1b.erase),(21,0,F_Z15.erase)]
theorem tab_ok:Tab.ok Tryz.prog tab :=
  Tab.ok_cons (b := 0) (show cFn Tryz.prog 91 = some (F_Z1f.erase) from e_Z1f) <|
  Tab.ok_cons (b := 0) (show cFn Tryz.prog 117 = some (F_Z8.erase) from e_Z8) <|
  Tab.ok_cons (b := 0) (show cFn Tryz.prog 121 = some (F_Zj.erase) from e_Zj) <|
  Tab.ok_cons (b := 0) (show cFn Tryz.prog 118 = some (F_Zg.erase) from e_Zg) <|
  Tab.ok_cons (b := 0) (show cFn Tryz.prog 198 = some (F_Zt.erase) from e_Zt) <|
  Tab.ok_cons (b := 0) (show cFn Tryz.prog 199 = some (F_Zu.erase) from e_Zu) <|
  Tab.ok_cons (b := 0) (show cFn Tryz.prog 154 = some (F_Za.erase) from e_Za) <|
  Tab.ok_cons (b := 0) (show cFn Tryz.prog 98 = some (F_Zq.erase) from e_Zq) <|
  Tab.ok_cons (b := 0) (show cFn Tryz.prog 122 = some (F_Zs.erase) from e_Zs) <|
  Tab.ok_cons (b := 0) (show cFn Tryz.prog 175 = some (F_Z1v.erase) from e_Z1v) <|
  Tab.ok_cons (b := 0) (show cFn Tryz.prog 209 = some (F_Z20.erase) from e_Z20) <|
  Tab.ok_cons (b := 0) (show cFn Tryz.prog 176 = some (F_Z1w.erase) from e_Z1w) <|
  Tab.ok_cons (b := 0) (show cFn Tryz.prog 123 = some (F_Z1m.erase) from e_Z1m) <|
  Tab.ok_cons (b := 0) (show cFn Tryz.prog 124 = some (F_Z1n.erase) from e_Z1n) <|
  Tab.ok_cons (b := 0) (show cFn Tryz.prog 58 = some (F_Z1c.erase) from e_Z1c) <|
  Tab.ok_cons (b := 0) (show cFn Tryz.prog 92 = some (F_Z1g.erase) from e_Z1g) <|
  Tab.ok_cons (b := 0) (show cFn Tryz.prog 93 = some (F_Z1h.erase) from e_Z1h) <|
  Tab.ok_cons (b := 0) (show cFn Tryz.prog 205 = some (F_Z1y.erase) from e_Z1y) <|
  Tab.ok_cons (b := 0) (show cFn Tryz.prog 206 = some (F_Z1z.erase) from e_Z1z) <|
  Tab.ok_cons (b := 0) (show cFn Tryz.prog 172 = some (F_Z1s.erase) from e_Z1s) <|
  Tab.ok_cons (b := 0) (show cFn Tryz.prog 116 = some (F_Z1j.erase) from e_Z1j) <|
  Tab.ok_cons (b := 0) (show cFn Tryz.prog 200 = some (F_Zv.erase) from e_Zv) <|
  Tab.ok_cons (b := 0) (show cFn Tryz.prog 155 = some (F_Z5.erase) from e_Z5) <|
  Tab.ok_cons (b := 0) (show cFn Tryz.prog 99 = some (F_Zr.erase) from e_Zr) <|
  Tab.ok_cons (b := 0) (show cFn Tryz.prog 126 = some (F_Z1o.erase) from e_Z1o) <|
  Tab.ok_cons (b := 0) (show cFn Tryz.prog 119 = some (F_Z1k.erase) from e_Z1k) <|
  Tab.ok_cons (b := 0) (show cFn Tryz.prog 174 = some (F_Z1t.erase) from e_Z1t) <|
  Tab.ok_cons (b := 1) (show cFnM Tryz.prog 173 = some (F_Z1u.erase) from e_Z1u) <|
  Tab.ok_cons (b := 0) (show cFn Tryz.prog 120 = some (F_Z1l.erase) from e_Z1l) <|
  Tab.ok_cons (b := 0) (show cFn Tryz.prog 234 = some (F_Z25.erase) from e_Z25) <|
  Tab.ok_cons (b := 0) (show cFn Tryz.prog 235 = some (F_Z26.erase) from e_Z26) <|
  Tab.ok_cons (b := 0) (show cFn Tryz.prog 212 = some (F_Z24.erase) from e_Z24) <|
  Tab.ok_cons (b := 0) (show cFn Tryz.prog 211 = some (F_Z23.erase) from e_Z23) <|
  Tab.ok_cons (b := 0) (show cFn Tryz.prog 233 = some (F_Z22.erase) from e_Z22) <|
  Tab.ok_cons (b := 0) (show cFn Tryz.prog 210 = some (F_Z21.erase) from e_Z21) <|
  Tab.ok_cons (b := 0) (show cFn Tryz.prog 177 = some (F_Z1x.erase) from e_Z1x) <|
  Tab.ok_cons (b := 0) (show cFn Tryz.prog 127 = some (F_Z1p.erase) from e_Z1p) <|
  Tab.ok_cons (b := 0) (show cFn Tryz.prog 63 = some (F_Z1d.erase) from e_Z1d) <|
  Tab.ok_cons (b := 0) (show cFn Tryz.prog 134 = some (F_Z1q.erase) from e_Z1q) <|
  Tab.ok_cons (b := 0) (show cFn Tryz.prog 68 = some (F_Z1e.erase) from e_Z1e) <|
  Tab.ok_cons (b := 0) (show cFn Tryz.prog 150 = some (F_Z1r.erase) from e_Z1r) <|
  Tab.ok_cons (b := 0) (show cFn Tryz.prog 94 = some (F_Z1i.erase) from e_Z1i) <|
  Tab.ok_cons (b := 0) (show cFn Tryz.prog 48 = some (F_Z1b.erase) from e_Z1b) <|
  Tab.ok_cons (b := 0) (show cFn Tryz.prog 21 = some (F_Z15.erase) from e_Z15) <|
  Tab.ok_nil
def agP:V→Bool
  | .agg cs => (allP cs).isSome
  | _ => false
theorem agP_pur {v:V} (h:agP v = true) (hp:List Blk):pur hp v = some v := by
  cases v with
  | agg cs =>
    simp only [agP,Option.isSome_iff_exists] at h
    obtain ⟨ps,h⟩ := h
    have e := allP_map h
    subst e
    simp only [pur,purC_map]; rfl
  | _ => simp [agP] at h
def upTo (g:Nat→Option V):Nat→Option (List V)
  | 0 => some []
  | n + 1 => match upTo g n,g n with
    | some l,some v => if agP v = true then some (l ++ [v]) else none
    | _,_ => none
theorem upTo_is {g:Nat→Option V}:∀ {n:Nat} {l:List V},upTo g n = some l→l.length = n∧∀ k,k < n→g k = some (l.getD k .und)∧agP (l.getD k .und) = true
  | 0,l,h => by simp only [upTo,sJ] at h; subst h; exact ⟨rfl,fun k hk => absurd hk (Nat.not_lt_zero _)⟩
  | n + 1,l,h => by
    simp only [upTo] at h
    split at h
    · rename_i l0 v hl hv
      split at h
      · rename_i ha
        simp only [sJ] at h; subst h
        obtain ⟨h1,h2⟩ := upTo_is hl
        refine ⟨by simp [h1],fun k hk => ?_⟩
        by_cases e:k = n
        · subst e
          have:(l0 ++ [v]).getD k .und = v := by simp [List.getD,← h1]
          rw [this]; exact ⟨hv,ha⟩
        · have:(l0 ++ [v]).getD k .und = l0.getD k .und := by simp only [List.getD]; rw [List.getElem?_append_left (by omega)]
          rw [this]; exact h2 k (by omega)
      · cases h
    · cases h
def evM (P:Program) (t:Tab) (u:Nat):EFun := evAll P t itB EFun.none 100 u
theorem evM_ok:(evM Tryz.prog tab 20).Ok Tryz.prog := evAll_ok tab_ok itB_ok EFun.none_ok 20
def itG (P:Program) (t:Tab):EIter := fun f cap => match decide (f = 1000000131),cap with
  | true,[[q]] => match (evM P t 20).F 119 [.agg [.p q]] with
    | some (.p (.int .i64 (.ofNat n))) => if n≤1000 then (upTo (fun k => (evM P t 20).F 120 [.agg [.p q],.p (.int .i64 (k:Int))]) n).map fun l => v_ups n fun k => l.getD k .und else none
    | _ => none
  | _,_ => itB f cap
theorem itG_ok:IterOk Tryz.prog (itG Tryz.prog tab) := by
  intro f cap vs h
  unfold itG at h
  split at h
  · rename_i q hf
    obtain rfl := of_decide_eq_true hf
    split at h
    · rename_i n hn
      split at h
      · rename_i hle
        cases hl:upTo (fun k => (evM Tryz.prog tab 20).F 120 [.agg [.p q],.p (.int .i64 (k:Int))]) n with
        | none => simp [hl] at h
        | some l =>
          simp only [hl,Option.map_some,sJ] at h
          subst h
          obtain ⟨h1,h2⟩ := upTo_is hl
          exact it_ups (cF := 119) (mF := 120) e_Z27 rfl q n (by omega) _ _ (evM_ok.F _ _ _ hn) (fun k hk => evM_ok.F _ _ _ (h2 k hk).1) (fun k hp hk => agP_pur (h2 k hk).2 hp)
      · cases h
    · cases h
  · exact itB_ok _ _ _ h
/-- The examples of the document. -/
def s_Z15:Bool := true
abbrev con_Z15:Con := ⟨P_Z15,R_Z15,fun _ => [],fun _ => s_Z15⟩
theorem ok_Z15:ConOk Tryz.prog 21 con_Z15 := ⟨k_Z15,fun _ _ => ret_ev tab_ok (it := (itG Tryz.prog tab)) itG_ok EFun.none_ok (n := 100) (d := 20) (by kernel_rfl)⟩
end Go.Proofs.YtepdfhjmngbhhaaGreatDoor
