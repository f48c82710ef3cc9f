/- Layers of the walk: abstract values, operations, calls, loops, and what they do. No condition. -/
import Derived.Test.YtehblgccaiiikaaGreatTxL
namespace Go.Mx
variable [Laid]
open Go.RowKit
def initM (t:Ty) (x:t.den):TSt := ⟨listT [.ptr 0 0 []],fun s => match s with | 0 => .cells true (explode t x) | _ + 1 => .dead,fun _ => 0,fun _ => 0⟩
def isPure:TV→Bool
 | .i _ _ => true
 | .b _ => true
 | _ => false
def finMT (T:TSt) (t r:Ty) (res:List ARes) (K:r.den×t.den→Prop):Prop :=
 match resT T res with
 | some [v] => match Nat.beq (T.v 0) 0 && isPure v,packPs T.c [.one r] [v],T.c 0 with
  | true,some z,.cells true cs => match imp1 t cs with
   | some y => K (z,y)
   | none => False
  | _,_,_ => False
 | _ => False
def tfnM (F:TFn) (A:Nat→Ty) (C:Cons) (t r:Ty) (x:t.den) (K:r.den×t.den→Prop):Prop :=
 match Nat.ble 1 F.nt with
 | true => tev ⟨F.nt,F.ns + 1,1,A,C⟩ F.code (fun e T => match e with
  | .exit _ => False
  | _ => finMT T t r F.res K) (initM t x)
 | false => False
section
variable {P:Program}
theorem retm_core {f:FuncId} {F:TFn} (hc:cFnM P f = some F.erase) {A:Nat→Ty} {C:Cons} (hC:ConsOk P C) {t r:Ty} {x:t.den} {y:r.den×t.den} {args:List V} {T0:TSt} (hT:T0.v 0 = 0)
  (hinit:Conc F.nt (F.ns + 1) ⟨fun _ => 0,fun _ => 0⟩ T0 (initStM F.erase args (t.enc x)))
  (h:tev ⟨F.nt,F.ns + 1,1,A,C⟩ F.code (fun e T => match e with
   | .exit _ => False
   | _ => finMT T t r F.res (fun z => z = y)) T0):RetM P f args (t.enc x) (valR [.one r] y.1) (t.enc y.2) := by
 let X:Cx := ⟨F.nt,F.ns + 1,1,A,C⟩
 intro w S vals c sz arr ty h1 h2 h3 h4 h5 hn hv hS hG
 have hrun := tev_sound (P := P) hC F.code _ _ _ _ hinit h
 unfold cFnM at hc
 split at hc
 ·rename_i fn hfn
  split at hc
  ·rename_i cd hb
   split at hc
   ·rename_i ac rs' hac hrs
    simp only [sJ,TFn.erase,AFn.mk.injEq] at hc
    obtain ⟨e1,e2,e3,e4⟩ := hc
    subst e3 e4
    refine callsIn_of_wp_marks (F := Fw none) (fn := fn) (c := cd) hfn hb trivial ?_ rfl
    refine awp_sound cd true _ 1 w S (fun b => b = c) (BsI w.heap.size [(c,sz)]) none _ _ _ _ w (fun _ => ⟨rfl,fun _ _ _ e => e⟩) (Nat.le_refl _) hac (fun _ _ e => e) ⟨_,_,init_simM (F := F.erase) h1 h2 h3 h4 h5 hn hv hS hG e1.symm⟩ hrun ?_
    intro e s a' w' hq ⟨Φ,S1,hsim⟩
    obtain ⟨E',T',hk,hcon,hhist,_⟩ := hq
    have fin:finMT T' t r F.res (fun z => z = y)→LeavesInM (Fw none) 0 P fn a'.tmps
      (fun e w' => ∃ x S',e = .returned x∧(∀ b,S b→S' b)∧(∀ b,S' b→S b ∨ w.heap.size≤b)∧(∀ b,S' b→b < w'.heap.size)∧VRel Plc0 S' w' (valR [.one r] y.1) x∧Fr (fun b => b = c) w w' ∧
       ¬ S' c∧∃ arr' ty',w'.heap[c]? = some (.cells arr' ty' (0,0))∧arr'.size = sz∧(t.enc y.2).length≤sz∧∀ (i:Nat) (x:Pv),(t.enc y.2)[i]? = some x→PRel S' w' x (arr'.getD i undef)) a'.defers .returning w' := by
     intro hfin
     refine leaves_marks (Nat.le_refl _) (fun _ _ _ e => e) ?_ _ _ hsim
     intro w' hsim
     unfold finMT at hfin
     split at hfin
     ·rename_i v hvs
      split at hfin
      ·rename_i z cs hb2 hz hcs
       split at hfin
       ·rename_i y2 hy2
        subst hfin
        simp only [Bool.and_eq_true] at hb2
        have hv0:T'.v 0 = 0 := Nat.eq_of_beq_eq_true hb2.1
        have hver:E'.vr 0 = 0 := ((hhist 0).2.2.1 (by rw [hv0,hT])).1
        obtain ⟨us,g1,g2⟩ := resT_rel hcon hvs
        obtain ⟨u,rfl,hu⟩ : ∃ u,us = [u]∧TRel E' v u := by
         match us,g2.1 with
         | [u],_ => exact ⟨u,rfl,g2.2 0 _ u rfl rfl⟩
        obtain ⟨as,q1,q2,_⟩ := packPs_rel hcon hz g2
        -- a plain value comes back
        obtain ⟨p,rfl⟩ : ∃ p,u = .p p := by
         cases v with
         | i k n => cases hu with | pure _ p _ => exact ⟨p,rfl⟩
         | b x => cases hu with | pure _ p _ => exact ⟨p,rfl⟩
         | _ => simp [isPure] at hb2
        have hle2:VLe (.p p) (valR [.one r] z) := by
         have has:as = [.p p] := by
          simp only [optAll,pur] at q1
          simpa using q1.symm
         subst has
         have hl := q2.1
         unfold valR
         match hp:valPs [.one r] z,hl with
         | [b],_ => exact q2.2 0 _ b rfl (by rw [hp]; rfl)
        obtain ⟨b0,d1,d2,d3,d4,d5⟩ := cells_blk hcon hcs
        obtain ⟨ps0,k1,k2,_⟩ := imp1_rel hy2 d5
        have k4:s.hp[0]? = some ⟨0,.live,ps0.map .p⟩ := by
         rw [d1]
         obtain ⟨bv,bs,bc⟩ := b0
         simp only at d2 d4 k1
         rw [d2,hver,d4,k1]; rfl
        obtain ⟨xv,hx,hvx⟩ := results_run hsim hrs (show resV s F.res = some (.p p) by simp only [resV,g1])
        have hB := hsim.hp 0 _ k4
        unfold BRel at hB
        simp only at hB
        have j0 := hsim.io 0 (by decide)
        simp only [BsI,List.getD_cons_zero] at j0
        rcases hB with ⟨hB,hB2⟩ | ⟨c',sz',arr',ty',q1',q2',q3',q4',q5',q6',q7'⟩
        ·rw [hB] at j0; cases j0
        ·rw [q1'] at j0; injection j0 with j0; injection j0 with e1' e2'
         subst e1' e2'
         have hvx' : VRel Plc0 S1 w' (.p p) xv := by cases hvx with | p _ _ h => exact .p _ _ h
         refine ⟨xv,hx,xv,S1,rfl,hsim.Sold,fun b hb => (hsim.Snew b hb).elim .inl (fun h => .inr (h.resolve_right (fun e => q6' (e ▸ hb)))),hsim.Slt,hle2 _ _ _ hvx',hsim.frame,q6',arr',ty',q2',q3',by rw [k2.1]; simp at q4'; omega,fun i z' hz' => ?_⟩
         obtain ⟨a,ha⟩ := get_of_len k2.1 hz'
         have := q5' i (.p a) (by simp [ha])
         cases this with | p _ _ h => exact (k2.2 i a z' ha hz').rel h
       ·exact hfin.elim
      ·exact hfin.elim
     ·exact hfin.elim
    cases e with
    | normal => exact fin hk
    | ret => exact fin hk
    | exit id => exact hk.elim
   ·cases hc
  ·cases hc
 ·cases hc
def initM2 (u t:Ty) (z:u.den) (x:t.den):TSt := ⟨listT [tvP (.one u) z,.ptr 0 0 []],fun s => match s with | 0 => .cells true (explode t x) | _ + 1 => .dead,fun _ => 0,fun _ => 0⟩
def tfnM2 (F:TFn) (A:Nat→Ty) (C:Cons) (u t r:Ty) (z:u.den) (x:t.den) (K:r.den×t.den→Prop):Prop :=
 match Nat.ble 2 F.nt with
 | true => tev ⟨F.nt,F.ns + 1,1,A,C⟩ F.code (fun e T => match e with
  | .exit _ => False
  | _ => finMT T t r F.res K) (initM2 u t z x)
 | false => False
theorem retm_tfn2 {f:FuncId} {F:TFn} (hc:cFnM P f = some F.erase) {A:Nat→Ty} {C:Cons} (hC:ConsOk P C) {u t r:Ty} {z:u.den} {x:t.den} {y:r.den×t.den} (h:tfnM2 F A C u t r z x (fun z => z = y)):RetM P f [valP (.one u) z,.ptr 0 0 0] (t.enc x) (valR [.one r] y.1) (t.enc y.2) := by
 unfold tfnM2 at h
 split at h
 rotate_left
 ·exact h.elim
 rename_i hle
 have hle := Nat.le_of_ble_eq_true hle
 refine retm_core hc hC rfl ⟨?_,by simp [initStM,TFn.erase],fun n => ?_,fun s => ?_,fun _ _ => rfl⟩ h
 ·simp only [initStM,TFn.erase,List.length_append,List.length_replicate,List.length_cons,List.length_nil]
  omega
 ·exact listT_rel (l := [tvP (.one u) z,.ptr 0 0 []]) (vs := [valP (.one u) z,.ptr 0 0 0]) ⟨rfl,fun i c v h1 h2 => by
   match i with
   | 0 =>
    simp only [List.getElem?_cons_zero,sJ] at h1 h2
    subst h1 h2
    exact tvP_rel _ _
   | 1 =>
    simp only [List.getElem?_cons_succ,List.getElem?_cons_zero,sJ] at h1 h2
    subst h1 h2
    exact .ptr 0 0 [] (by simp [dsOk])
   | i + 2 => simp at h1⟩ n _
 ·match s with
  | 0 => exact ⟨rfl,rfl,rfl,explode_lrel⟩
  | s + 1 => exact trivial
end

inductive TfM (F:TFn) (A:Nat→Ty) (C:Cons) (t r:Ty) (x:t.den) (K:r.den×t.den→Prop):Prop
 | mk (h:tfnM F A C t r x K):TfM F A C t r x K
inductive TfM2 (F:TFn) (A:Nat→Ty) (C:Cons) (u t r:Ty) (z:u.den) (x:t.den) (K:r.den×t.den→Prop):Prop
 | mk (h:tfnM2 F A C u t r z x K):TfM2 F A C u t r z x K
omit [Laid] in
theorem tfm2_of {F:TFn} {A:Nat→Ty} {C:Cons} {u t r:Ty} {z:u.den} {x:t.den} {K:r.den×t.den→Prop} {p:Prop} (e:tfnM2 F A C u t r z x K = p) (h:p):TfM2 F A C u t r z x K := .mk (by rw [e]; exact h)
theorem retm2_tf {P:Program} {f:FuncId} {F:TFn} (hc:cFnM P f = some F.erase) {A:Nat→Ty} {C:Cons} (hC:ConsOk P C) {u t r:Ty} {z:u.den} {x:t.den} {y:r.den×t.den} (h:TfM2 F A C u t r z x (fun z => z = y)):RetM P f [valP (.one u) z,.ptr 0 0 0] (t.enc x) (valR [.one r] y.1) (t.enc y.2) := by
 cases h with | mk h => exact retm_tfn2 hc hC h
end Go.Mx
