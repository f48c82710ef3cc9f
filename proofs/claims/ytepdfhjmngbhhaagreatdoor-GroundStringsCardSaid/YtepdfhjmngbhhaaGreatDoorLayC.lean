/- Layers of the walk: abstract values, operations, calls, loops, and what they do. No condition. -/
import Derived.Test.YtepdfhjmngbhhaaGreatDoorLayB
import Derived.Lib.ItoaNum
import Derived.Lib.AtoiAll
import Derived.Lib.AtoiTie
import Derived.Shelf.Strconv.Itoa3
import Derived.Shelf.Strings.Cut
import Derived.Shelf.Strings.OnBuilder
import Derived.Shelf.Strings.Split
import Derived.Shelf.Strings.Prefix
import Derived.Shelf.Strconv.ErrVarAll
import Derived.Lib.AtoiErrMem
import Derived.Lib.Split
import Derived.Lib.SplitLaws
namespace Go.Mx
open Go
def v_dgt (b:UInt8):Bool := decide (48≤b.toNat∧b.toNat≤57)
def v_dval:List UInt8→Nat→Nat
 | [],a => a
 | b :: r,a => v_dval r (a * 10 + (b.toNat - 48))
def v_nml (l:List UInt8):Bool := !l.isEmpty && l.all v_dgt && (l.head? != some 48 || l.length == 1)
theorem v_dval_app:∀ (l r:List UInt8) (a:Nat),v_dval (l ++ r) a = v_dval r (v_dval l a)
 | [],_,_ => rfl
 | b :: l,r,a => v_dval_app l r _
theorem v_dval_ge:∀ (l:List UInt8) (a:Nat),a≤v_dval l a
 | [],a => Nat.le_refl a
 | b :: l,a => Nat.le_trans (by omega) (v_dval_ge l (a * 10 + (b.toNat - 48)))
theorem v_dgt_of {d:Nat} (h:d < 10):v_dgt (UInt8.ofNat (48 + d)) = true∧(UInt8.ofNat (48 + d)).toNat = 48 + d := by
 have e:(UInt8.ofNat (48 + d)).toNat = 48 + d := by rw [UInt8.toNat_ofNat']; omega
 exact ⟨decide_eq_true (by rw [e]; omega),e⟩
theorem v_dig_ne (u:Nat):Lib.decDigits u ≠ [] := by
 rw [Lib.decDigits]
 split
 ·simp
 ·simp
theorem v_dig_all (u:Nat):(Lib.decDigits u).all v_dgt = true := by
 induction u using Nat.strongRecOn with
 | _ u ih =>
  rw [Lib.decDigits]
  split
  ·rename_i h
   rw [List.all_cons,(v_dgt_of h).1]; rfl
  ·rw [List.all_append,ih (u / 10) (by omega)]
   rw [List.all_cons,(v_dgt_of (show u % 10 < 10 by omega)).1]; rfl
theorem v_dig_val (u:Nat):v_dval (Lib.decDigits u) 0 = u := by
 induction u using Nat.strongRecOn with
 | _ u ih =>
  rw [Lib.decDigits]
  split
  ·rename_i h
   simp only [v_dval,(v_dgt_of h).2]; omega
  ·rw [v_dval_app,ih (u / 10) (by omega)]
   simp only [v_dval,(v_dgt_of (show u % 10 < 10 by omega)).2]; omega
theorem v_dig_head (u:Nat) (h:(Lib.decDigits u).head? = some 48):u = 0 := by
 induction u using Nat.strongRecOn with
 | _ u ih =>
  rw [Lib.decDigits] at h
  split at h
  ·rename_i hu
   simp only [List.head?_cons,sJ] at h
   have := congrArg UInt8.toNat h
   rw [(v_dgt_of hu).2] at this
   have e:(48:UInt8).toNat = 48 := rfl
   omega
  ·rename_i hu
   obtain ⟨a,r,e⟩ := List.exists_cons_of_ne_nil (v_dig_ne (u / 10))
   rw [e] at h
   have:u / 10 = 0 := ih (u / 10) (by omega) (by rw [e]; exact h)
   omega
theorem v_dig_0:Lib.decDigits 0 = [48] := by rw [Lib.decDigits]; rfl
theorem v_dig_nml (u:Nat):v_nml (Lib.decDigits u) = true := by
 unfold v_nml
 rw [v_dig_all]
 have h1:(Lib.decDigits u).isEmpty = false := by
  cases h:Lib.decDigits u with
  | nil => exact absurd h (v_dig_ne u)
  | cons a r => rfl
 rw [h1]
 by_cases h:(Lib.decDigits u).head? = some 48
 ·have := v_dig_head u h
  subst this
  rw [v_dig_0]; rfl
 ·have:((Lib.decDigits u).head? != some 48) = true := by simpa using h
  rw [this]; rfl
theorem v_nml_iff {l:List UInt8}:v_nml l = true ↔ l ≠ []∧l.all v_dgt = true∧(l.head? = some 48→l.length = 1) := by
 unfold v_nml
 cases l with
 | nil => simp
 | cons a r =>
  simp
  intro _ _
  constructor
  ·rintro (h | h) g
   ·exact absurd g h
   ·exact h
  ·intro h
   by_cases g:a = 48
   ·exact .inr (h g)
   ·exact .inl g
theorem v_dig_of:∀ (n:Nat) (l:List UInt8),l.length = n→v_nml l = true→Lib.decDigits (v_dval l 0) = l := by
 intro n
 induction n with
 | zero =>
  intro l hl h
  exact absurd (List.length_eq_zero_iff.1 hl) (v_nml_iff.1 h).1
 | succ n ih =>
  intro l hl h
  obtain ⟨h1,h2,h3⟩ := v_nml_iff.1 h
  obtain ⟨r,b,rfl⟩ : ∃ r b,l = r ++ [b] := ⟨l.dropLast,l.getLast h1,(List.dropLast_concat_getLast h1).symm⟩
  rw [List.all_append,Bool.and_eq_true] at h2
  have hb:48≤b.toNat∧b.toNat≤57 := by
   have := h2.2
   simp [v_dgt] at this
   exact this
  have eb:UInt8.ofNat (48 + (b.toNat - 48)) = b := by
   rw [show 48 + (b.toNat - 48) = b.toNat by omega]; exact UInt8.ofNat_toNat
  rw [v_dval_app]
  simp only [v_dval]
  cases r with
  | nil =>
   simp only [v_dval]
   rw [Lib.decDigits,dif_pos (by omega),show 0 * 10 + (b.toNat - 48) = b.toNat - 48 by omega,eb]; rfl
  | cons a r =>
   have hn:v_nml (a :: r) = true := v_nml_iff.2 ⟨by simp,h2.1,fun q => by
    have := h3 q
    simp at this⟩
   have ha:a ≠ 48 := by
    rintro rfl
    have := h3 rfl
    simp at this
   have hda:v_dgt a = true := by have := h2.1; simp at this; exact this.1
   have hpos:1≤v_dval (a :: r) 0 := by
    show 1≤v_dval r (0 * 10 + (a.toNat - 48))
    refine Nat.le_trans ?_ (v_dval_ge r _)
    have h48:48≤a.toNat := by simp [v_dgt] at hda; exact hda.1
    have:a.toNat ≠ 48 := fun e => ha (UInt8.toNat_inj.1 e)
    omega
   rw [Lib.decDigits,dif_neg (by omega),show (v_dval (a :: r) 0 * 10 + (b.toNat - 48)) / 10 = v_dval (a :: r) 0 by omega,show (v_dval (a :: r) 0 * 10 + (b.toNat - 48)) % 10 = b.toNat - 48 by omega,eb,ih (a :: r) (by simp at hl ⊢; omega) hn]
def v_canon (l:List UInt8):Option Int := match l with
 | [] => none
 | b :: r => match b == 45 with
  | true => if v_nml r = true∧r ≠ [48] then some (-(v_dval r 0:Int)) else none
  | false => if v_nml (b :: r) = true then some (v_dval (b :: r) 0:Int) else none
theorem v_canon_itoa (n:Int):v_canon (Lib.itoa n) = some n := by
 unfold Lib.itoa
 split
 ·rename_i h
  have h1 := v_dig_nml n.natAbs
  have h2:Lib.decDigits n.natAbs ≠ [48] := fun e => by
   have := v_dig_head n.natAbs (by rw [e]; rfl)
   omega
  unfold v_canon
  simp only [show ((45:UInt8) == 45) = true from rfl]
  rw [if_pos ⟨h1,h2⟩,v_dig_val]
  congr 1; omega
 ·rename_i h
  have h1 := v_dig_nml n.toNat
  have hv := v_dig_val n.toNat
  cases e:Lib.decDigits n.toNat with
  | nil => exact absurd e (v_dig_ne _)
  | cons b r =>
   rw [e] at h1 hv
   have hb:(b == 45) = false := by
    have := (v_nml_iff.1 h1).2.1
    simp [v_dgt] at this
    have h48 := this.1.1
    cases q:b == 45
    ·rfl
    ·have:b = 45 := by simpa using q
     subst this
     exact absurd h48 (by decide)
   unfold v_canon
   simp only [hb]
   rw [if_pos h1,hv]
   congr 1; omega
theorem v_canon_of {l:List UInt8} {n:Int} (h:v_canon l = some n):l = Lib.itoa n := by
 unfold v_canon at h
 cases l with
 | nil => cases h
 | cons b r =>
  simp only at h
  cases q:b == 45
  ·simp only [q] at h
   split at h
   ·rename_i hn
    simp only [sJ] at h
    subst h
    have := v_dig_of _ (b :: r) rfl hn
    unfold Lib.itoa
    rw [if_neg (by omega),Int.toNat_natCast,this]
   ·cases h
  ·simp only [q] at h
   have hb:b = 45 := by simpa using q
   subst hb
   split at h
   ·rename_i hn
    simp only [sJ] at h
    subst h
    have := v_dig_of _ r rfl hn.1
    have h1:v_dval r 0 ≠ 0 := fun e => by
     rw [e,v_dig_0] at this
     exact hn.2 this.symm
    unfold Lib.itoa
    rw [if_pos (by omega),show (-(v_dval r 0:Int)).natAbs = v_dval r 0 by omega,this]
   ·cases h
theorem v_canon_iff {l:List UInt8} {n:Int}:v_canon l = some n ↔ l = Lib.itoa n := ⟨v_canon_of,fun h => by rw [h]; exact v_canon_itoa n⟩
theorem v_decFrom:∀ (l:List UInt8) (a:Nat),l.all v_dgt = true→Lib.decFrom a l = some (v_dval l a)
 | [],_,_ => rfl
 | b :: r,a,h => by
  rw [List.all_cons,Bool.and_eq_true] at h
  have hb:48≤b.toNat∧b.toNat≤57 := of_decide_eq_true h.1
  unfold Lib.decFrom Lib.digitVal
  rw [if_pos hb]
  exact v_decFrom r _ h.2
theorem v_decNat {l:List UInt8} (h:v_nml l = true):Lib.decNat l = some (v_dval l 0) := by
 obtain ⟨h1,h2,_⟩ := v_nml_iff.1 h
 unfold Lib.decNat
 cases l with
 | nil => exact absurd rfl h1
 | cons a r =>
  rw [if_neg (by simp)]
  exact v_decFrom _ 0 h2
theorem v_atoi_canon {l:List UInt8} {n:Int} (h:v_canon l = some n):Lib.atoi l = some n := by
 unfold v_canon at h
 cases l with
 | nil => cases h
 | cons b r =>
  simp only at h
  cases q:b == 45
  ·simp only [q] at h
   split at h
   ·rename_i hn
    have h43:(b == 43) = false := by
     have := (v_nml_iff.1 hn).2.1
     rw [List.all_cons,Bool.and_eq_true] at this
     have hb:48≤b.toNat∧b.toNat≤57 := of_decide_eq_true this.1
     cases q2:b == 43
     ·rfl
     ·have:b = 43 := by simpa using q2
      subst this
      exact absurd hb.1 (by decide)
    unfold Lib.atoi
    simp only [q,h43,v_decNat hn]
    exact h
   ·cases h
  ·simp only [q] at h
   split at h
   ·rename_i hn
    unfold Lib.atoi
    simp only [q,v_decNat hn.1]
    exact h
   ·cases h
def v_atn (l:List UInt8):Int := match Lib.atoiAll l with
 | .ok v => v
 | .range => Lib.atoiSat l
 | _ => 0
def v_ate (l:List UInt8):Bool := match Lib.atoiAll l with
 | .ok _ => true
 | _ => false
theorem v_at_canon {l:List UInt8} {n:Int} (hl:l.length≤18) (h:v_canon l = some n):v_ate l = true∧v_atn l = n := by
 have e:Lib.atoiAll l = .ok n := by rw [Lib.atoiAll_short l hl,v_atoi_canon h]; rfl
 unfold v_ate v_atn
 rw [e]
 exact ⟨rfl,rfl⟩
theorem v_at_iff {l:List UInt8} (hl:l.length≤18) {n:Int}:(v_ate l = true∧Lib.itoa (v_atn l) = l∧v_atn l = n) ↔ v_canon l = some n := by
 constructor
 ·rintro ⟨_,h2,rfl⟩
  exact v_canon_iff.2 h2.symm
 ·intro h
  obtain ⟨a,b⟩ := v_at_canon hl h
  exact ⟨a,by rw [b]; exact (v_canon_of h).symm,b⟩
end Go.Mx
namespace Go.Mx
open Go Go.Shelf Go.RowKit Go.Sort
variable [Laid]
variable {P:Program} {ρ:Ren}

def tabQ (k:IntKind) (zs:List Int):Array Value→Prop := fun cs => cs = (zs.map fun z => Value.int k z).toArray
def intQ:Array Value→Prop := fun cs => ∃ m,cs[0]? = some (Value.int .i64 m)
def ifcQ:Array Value→Prop := fun cs => ∃ t p,cs = #[.iface t p]

theorem Glob.var {S:Nat→Prop} {w:World} (h:Glob S w) {n:String} {g:Nat} (hg:P.globalNamed n = some g) {q:Array Value→Prop} (hq:Laid.Q g = some q):∃ cs,w.var? P n = some cs∧q cs := by
 obtain ⟨_,cs,ty,fz,h1,h2⟩ := h.q g q hq
 exact ⟨cs,by simp only [World.var?,hg,Option.bind_some,h1],h2⟩
theorem Glob.int {S:Nat→Prop} {w:World} (h:Glob S w) {g:Nat} (hq:Laid.Q g = some intQ):∃ m,w.cell? ⟨g,0,none⟩ = some (.int .i64 m) := by
 obtain ⟨_,cs,ty,fz,h1,m,h2⟩ := h.q g _ hq
 exact ⟨m,by simp only [World.cell?,h1]; simpa using h2⟩

omit [Laid] in
theorem fr_of_below {w w' : World} (h:Below w.heap.size w w'):Fr (fun _ => False) w w' := ⟨h.os,h.tape,h.output,h.size,fun b hb _ => h.block b hb⟩
omit [Laid] in
theorem vals1 {S:Nat→Prop} {w:World} {vals:Array Value} {a:V} {x:Value} (hs:vals.size = [a].length) (h:∀ i v,[a][i]? = some v→VRel Plc0 S w v (vals.getD i undef)) (hx:∀ v,VRel Plc0 S w a v→v = x):vals = #[x] := by
 refine Array.ext (by simpa using hs) fun i h1 h2 => ?_
 obtain rfl:i = 0 := by simp at h2; omega
 have := hx _ (h 0 a rfl)
 simpa [Array.getD,show 0 < vals.size by omega] using this
omit [Laid] in
theorem vals2 {S:Nat→Prop} {w:World} {vals:Array Value} {a b:V} {x y:Value} (hs:vals.size = [a,b].length) (h:∀ i v,[a,b][i]? = some v→VRel Plc0 S w v (vals.getD i undef)) (hx:∀ v,VRel Plc0 S w a v→v = x) (hy:∀ v,VRel Plc0 S w b v→v = y):vals = #[x,y] := by
 have hs' : vals.size = 2 := by simpa using hs
 have h0 := hx _ (h 0 a rfl)
 have h1 := hy _ (h 1 b rfl)
 simp only [Array.getD,hs'] at h0 h1
 refine Array.ext (by simpa using hs) fun i k1 k2 => ?_
 have:i = 0 ∨ i = 1 := by simp at k2; omega
 rcases this with rfl | rfl
 ·simpa using h0
 ·simpa using h1
omit [Laid] in
theorem rel_str {Φ:Plc} {S:Nat→Prop} {w:World} {s:ByteArray} {v:Value} (h:VRel Φ S w (.p (.str s)) v):v = .string s := by
 cases h with | p _ _ h => cases h; rfl
omit [Laid] in
theorem rel_int {Φ:Plc} {S:Nat→Prop} {w:World} {k:IntKind} {n:Int} {v:Value} (h:VRel Φ S w (.p (.int k n)) v):v = .int k n := by
 cases h with | p _ _ h => cases h; rfl

def v_itoa (n:Int):ByteArray := ⟨(Lib.itoa n).toArray⟩
theorem ret_itoa (L:Proofs.LaysM.n171 P ρ) {g:Nat} (hg:P.globalNamed "internal/strconv.uint64pow10" = some g) (hQ:Laid.Q g = some (tabQ .u64 Lib.pow10Tab)) (n:Int) (h0 : -9223372036854775808≤n) (h1:n≤9223372036854775807) :
  Ret P (ρ.f 171) [.p (.int .i64 n)] (.p (.str (v_itoa n))) := by
 intro w S vals hs hv hS hG
 obtain rfl := vals1 hs hv fun _ h => rel_int h
 obtain ⟨cs,c1,rfl⟩ := hG.var hg hQ
 refine callsIn_wide.2 ((Proofs.Any.strconv_Itoa L n h0 h1 w c1).mono ?_)
 rintro e w' ⟨rfl,k,os,rfl⟩
 refine ⟨_,S,rfl,fun _ h => h,fun _ h => .inl h,fun b hb => ?_,.p _ _ (.str _),⟨rfl,rfl,rfl,?_,fun b hb _ => ?_⟩⟩
 ·have := hS b hb; simp only [grow,Array.size_append,World.heap_drewN]; omega
 ·simp only [grow,Array.size_append,World.heap_drewN]; omega
 ·simp only [grow,World.heap_drewN]; exact Array.getElem?_append_left hb

def v_cut (s p:ByteArray):ByteArray×ByteArray×Bool := (⟨(Lib.cut s.data.toList p.data.toList).1.toArray⟩,⟨(Lib.cut s.data.toList p.data.toList).2.1.toArray⟩,(Lib.cut s.data.toList p.data.toList).2.2)
theorem ret_cut (L:Proofs.Lays.n145 P ρ) (hQ:Laid.Q (ρ.g 1) = some intQ) (s p:ByteArray) (hs:s.size < 4294967281):Ret P (ρ.f 145) [.p (.str s),.p (.str p)] (.tup [.p (.str (v_cut s p).1),.p (.str (v_cut s p).2.1),.p (.bool (v_cut s p).2.2)]) := by
 intro w S vals hsz hv hS hG
 obtain rfl := vals2 hsz hv (fun _ h => rel_str h) (fun _ h => rel_str h)
 obtain ⟨m,hm⟩ := hG.int hQ
 refine callsIn_wide.2 ((Proofs.Any.strings_Cut L s p m w hs hm).mono ?_)
 rintro e w' ⟨rfl,n,rfl⟩
 refine ⟨_,S,rfl,fun _ h => h,fun _ h => .inl h,hS,.tup _ _ rfl fun i c hc => ?_,⟨rfl,rfl,rfl,Nat.le_refl _,fun _ _ _ => rfl⟩⟩
 match i,hc with
 | 0,hc => cases hc; exact .p _ _ (.str _)
 | 1,hc => cases hc; exact .p _ _ (.str _)
 | 2,hc => cases hc; exact .p _ _ (.bool _)
 | i + 3,hc => simp at hc

def v_join (xs:List ByteArray) (sep:ByteArray):ByteArray := ⟨(Lib.join (xs.map (·.data.toList)) sep.data.toList).toArray⟩
theorem ret_join (L:Proofs.Lays.n156 P ρ) (X:Proofs.Builder.Extra P ρ) (xs:List ByteArray) (sep:ByteArray) (full:Bool) (hN:xs.length≤140737488355328) (hlen:(v_join xs sep).size≤140737488355328) :
  Ret P (ρ.f 156) [.p (.sl 1 (xs.map fun s => [.str s]) full),.p (.str sep)] (.p (.str (v_join xs sep))) := by
 intro w S vals hsz hv hS hG
 have hlen' : (Lib.join (xs.map (·.data.toList)) sep.data.toList).length≤140737488355328 := hlen
 have fin:∀ e w',e = Ending.returned (.string (v_join xs sep))∧Below w.heap.size w w'→∃ x S',e = Ending.returned x∧(∀ b,S b→S' b)∧(∀ b,S' b→S b ∨ w.heap.size≤b)∧(∀ b,S' b→b < w'.heap.size)∧VRel Plc0 S' w' (.p (.str (v_join xs sep))) x∧Fr (fun _ => False) w w' := by
  rintro e w' ⟨rfl,hb⟩
  exact ⟨_,S,rfl,fun _ h => h,fun _ h => .inl h,fun b h => Nat.lt_of_lt_of_le (hS b h) hb.size,.p _ _ (.str _),fr_of_below hb⟩
 have h0 := hv 0 _ rfl
 cases h0 with
 | p _ _ h0 =>
  generalize hval:vals.getD 0 undef = v0 at h0
  have hvals:vals = #[v0,.string sep] := by
   refine Array.ext (by simpa using hsz) fun i k1 k2 => ?_
   have hs2:vals.size = 2 := by simpa using hsz
   have h1 := rel_str (hv 1 _ rfl)
   simp only [Array.getD,hs2] at hval h1
   have:i = 0 ∨ i = 1 := by simp at k2; omega
   rcases this with rfl | rfl
   ·simpa using hval
   ·simpa using h1
  subst hvals
  generalize hes:(xs.map fun s => [Pv.str s]) = es at h0
  cases h0 with
  | slnil =>
   obtain rfl:xs = [] := List.map_eq_nil_iff.1 hes
   exact callsIn_wide.2 ((Proofs.Any.strings_Join_none L X none 0 sep w).mono fun e w' ⟨he,hw⟩ => fin e w' ⟨he,hw ▸ Below.refl _ _⟩)
  | sl0 _ _ a cap h =>
   obtain rfl:xs = [] := List.map_eq_nil_iff.1 hes
   exact callsIn_wide.2 ((Proofs.Any.strings_Join_none L X (some a) cap sep w).mono fun e w' ⟨he,hw⟩ => fin e w' ⟨he,hw ▸ Below.refl _ _⟩)
  | sl _ _ _ b o n cap cell hs hn h0 hc hf hk h1 h2 =>
   obtain rfl:xs.length = n := by rw [← hn,← hes,List.length_map]
   refine callsIn_wide.2 ((Proofs.Any.strings_Join L X b o cap xs sep w (fun j x hx => ?_) (hS b hs) hN hc hlen').mono fun e w' ⟨he,hw⟩ => fin e w' ⟨he,hw⟩)
   have hj:es[j]? = some [.str x] := by rw [← hes,List.getElem?_map,hx]; rfl
   have c1 := h1 j 0 _ _ hj rfl
   have c2 := h2 j 0 _ _ hj rfl
   rw [Nat.mul_one,Nat.add_zero] at c1
   rw [c1]
   generalize cell j 0 = v at c2
   cases c2
   rfl

end Go.Mx
namespace Go.Mx
open Go Go.Shelf Go.RowKit Go.Sort
variable [Laid]
variable {P:Program} {ρ:Ren}

omit [Laid] in
theorem below_bytes (w:World) (e:TypeId) (t:ByteArray):Below w.heap.size w (Lib.bytesWorld w e t) := Lib.bytesWorld_below w e t

theorem ret_atoi (L:Proofs.LaysC.n172 P ρ) {g1 g2:Nat} (hg1:P.globalNamed "strconv.ErrSyntax" = some g1) (hQ1:Laid.Q g1 = some ifcQ) (hg2:P.globalNamed "strconv.ErrRange" = some g2) (hQ2:Laid.Q g2 = some ifcQ) (s:ByteArray) (hlim:s.size≤281474976710656) :
  Ret P (ρ.f 172) [.p (.str s)] (.tup [.p (.int .i64 (v_atn s.data.toList)),.p (.ifc (v_ate s.data.toList))]) := by
 intro w S vals hsz hv hS hG
 obtain rfl := vals1 hsz hv fun _ h => rel_str h
 have fin:∀ (n:Int) (b:Bool) (x:Value) (w' : World),v_atn s.data.toList = n→v_ate s.data.toList = b→PRel S w' (.ifc b) x→Below w.heap.size w w' →
   ∃ x' S',Ending.returned (.tuple #[.int .i64 n,x]) = Ending.returned x'∧(∀ b,S b→S' b)∧(∀ b,S' b→S b ∨ w.heap.size≤b)∧(∀ b,S' b→b < w'.heap.size)∧VRel Plc0 S' w' (.tup [.p (.int .i64 (v_atn s.data.toList)),.p (.ifc (v_ate s.data.toList))]) x'∧Fr (fun _ => False) w w' := by
  rintro n b x w' rfl rfl hx hb
  refine ⟨_,S,rfl,fun _ h => h,fun _ h => .inl h,fun b h => Nat.lt_of_lt_of_le (hS b h) hb.size,.tup _ _ rfl fun i c hc => ?_,fr_of_below hb⟩
  match i,hc with
  | 0,hc => cases hc; exact .p _ _ (.int _ _)
  | 1,hc => cases hc; exact .p _ _ hx
  | i + 2,hc => simp at hc
 cases h:Lib.atoiAll s.data.toList
 case ok v =>
  refine callsIn_wide.2 ((Proofs.Any.strconv_Atoi_ok L s (by omega) v h w).mono ?_)
  rintro e w' ⟨rfl,hw⟩
  refine fin v true _ w' (by unfold v_atn; rw [h]) (by unfold v_ate; rw [h]) .ifn ?_
  rcases hw with rfl | ⟨t,rfl⟩
  ·exact Below.refl _ _
  ·exact below_bytes _ _ _
 rotate_left
 case range =>
  obtain ⟨cs,c1,tp,p,rfl⟩ := hG.var hg2 hQ2
  refine callsIn_wide.2 ((Proofs.Any.strconv_Atoi_range_var L s hlim h tp p w c1).mono ?_)
  rintro e w' ⟨N,rfl,_,_,hb⟩
  exact fin _ false _ w' (by unfold v_atn; rw [h]) (by unfold v_ate; rw [h]) (.ifs _ _) hb
 obtain ⟨cs,c1,tp,p,rfl⟩ := hG.var hg1 hQ1
 refine callsIn_wide.2 ((Proofs.Any.strconv_Atoi_syntax_var L s hlim h tp p w c1).mono ?_)
 rintro e w' ⟨N,rfl,_,_,hb⟩
 exact fin 0 false _ w' (by unfold v_atn; rw [h]) (by unfold v_ate; rw [h]) (.ifs _ _) hb

end Go.Mx
namespace Go.Mx
open Go
theorem v_fuel (sep:ByteArray) (h1:1≤sep.size):∀ (k k' : Nat) (s:ByteArray),s.size≤k→s.size≤k'→Lib.splitB sep 0 k s = Lib.splitB sep 0 k' s
 | k,k',s,h,h' => by
  rcases Lib.indexB_cases s sep with hx | ⟨i,hx,hi⟩
  ·rw [Lib.splitB_miss sep 0 k s hx,Lib.splitB_miss sep 0 k' s hx]
  ·match k,k',h,h' with
   | 0,_,h,_ => omega
   | _ + 1,0,_,h' => omega
   | k + 1,k' + 1,h,h' =>
    rw [Lib.splitB_hit sep 0 k s i hx,Lib.splitB_hit sep 0 k' s i hx]
    have hs:(s.extract (i + sep.size) s.size).size = s.size - (i + sep.size) := by rw [ByteArray.size_extract]; omega
    rw [v_fuel sep h1 k k' _ (by omega) (by omega)]
def v_pcs (s sep:ByteArray):List ByteArray := Lib.splitB sep 0 s.size s
theorem v_pcs_miss {s sep:ByteArray} (h:Lib.indexB s sep = -1):v_pcs s sep = [s] := Lib.splitB_miss sep 0 _ s h
theorem v_pcs_hit {s sep:ByteArray} (h1:1≤sep.size) {i:Nat} (h:Lib.indexB s sep = i):v_pcs s sep = s.extract 0 i :: v_pcs (s.extract (i + sep.size) s.size) sep := by
 unfold v_pcs
 rcases Lib.indexB_cases s sep with hx | ⟨j,hx,hi⟩
 ·omega
 ·have:j = i := by omega
  subst this
  obtain ⟨n,hn⟩ : ∃ n,s.size = n + 1 := ⟨s.size - 1,by omega⟩
  conv => lhs; rw [hn]
  rw [Lib.splitB_hit sep 0 n s j hx]
  have hs:(s.extract (j + sep.size) s.size).size = s.size - (j + sep.size) := by rw [ByteArray.size_extract]; omega
  rw [v_fuel sep h1 n (s.extract (j + sep.size) s.size).size _ (by omega) (Nat.le_refl _),Nat.add_zero]
end Go.Mx
namespace Go.Mx
open Go
def v_spb (b:UInt8):List UInt8→List (List UInt8)
 | [] => [[]]
 | c :: r => if c = b then [] :: v_spb b r else match v_spb b r with
  | [] => [[c]]
  | p :: q => (c :: p) :: q
theorem v_spb_is (b:UInt8):∀ l:List UInt8,v_spb b l = if Lib.indexByte l b == -1 then [l] else l.take (Lib.indexByte l b).toNat :: v_spb b (l.drop ((Lib.indexByte l b).toNat + 1))
 | [] => rfl
 | c :: r => by
  rw [v_spb]
  by_cases h:c = b
  ·subst h
   have e:Lib.indexByte (c :: r) c = 0 := by rw [Lib.indexByte]; simp
   rw [e]; simp
  ·have ih := v_spb_is b r
   have hge := Lib.indexByte_ge r b
   have hcb:(c == b) = false := by simpa using h
   rw [if_neg h]
   by_cases h2:Lib.indexByte r b = -1
   ·have e:Lib.indexByte (c :: r) b = -1 := by rw [Lib.indexByte,hcb,h2]; rfl
    rw [h2] at ih
    rw [ih,e]; rfl
   ·have h3:(Lib.indexByte r b == -1) = false := by simpa using h2
    have e:Lib.indexByte (c :: r) b = Lib.indexByte r b + 1 := by rw [Lib.indexByte,hcb,h3]; rfl
    rw [h3] at ih
    have h4:(Lib.indexByte r b + 1 == -1) = false := by
     have:Lib.indexByte r b + 1 ≠ -1 := by omega
     simpa using this
    have h5:(Lib.indexByte r b + 1).toNat = (Lib.indexByte r b).toNat + 1 := by omega
    rw [ih,e,h4,h5]
    rfl
theorem splitK_spb (b:UInt8):∀ (k:Nat) (l:List UInt8),l.length≤k→Lib.splitK [b] 0 k l = v_spb b l
 | 0,l,h => by
  obtain rfl:l = [] := List.length_eq_zero_iff.1 (by omega)
  rfl
 | k + 1,l,h => by
  rw [v_spb_is b l,Lib.splitK,Lib.index_one]
  by_cases h2:(Lib.indexByte l b == -1) = true
  ·rw [if_pos h2,if_pos h2]
  ·rw [if_neg h2,if_neg h2,Nat.add_zero]
   congr 1
   refine splitK_spb b k _ ?_
   have:l ≠ [] := by rintro rfl; exact h2 rfl
   have := List.length_pos_iff.2 this
   simp only [List.length_drop,List.length_cons,List.length_nil]; omega
theorem v_pcs_spb (s:ByteArray) (b:UInt8):(v_pcs s ⟨#[b]⟩).map (·.data.toList) = v_spb b s.data.toList := by
 unfold v_pcs
 rw [Lib.splitB_data]
 exact splitK_spb b _ _ (Nat.le_of_eq (Array.length_toList ..))
end Go.Mx
namespace Go.Mx
open Go
def v_dd (n:Nat):List UInt8 := if n = 0 then [] else Lib.decDigits n
theorem v_dd_step {n:Nat} (h:n ≠ 0):v_dd n = v_dd (n / 10) ++ [UInt8.ofNat (48 + n % 10)] := by
 unfold v_dd
 rw [if_neg h,Lib.decDigits]
 by_cases h2:n < 10
 ·rw [dif_pos h2,if_pos (by omega),Nat.mod_eq_of_lt h2]; rfl
 ·rw [dif_neg h2,if_neg (by omega)]
theorem v_dd_itoa {n:Int} (h:n ≠ 0):Lib.itoa n = (if n < 0 then [45] else []) ++ v_dd n.natAbs := by
 unfold Lib.itoa v_dd
 rw [if_neg (show n.natAbs ≠ 0 by omega)]
 split
 ·rfl
 ·rw [show n.natAbs = n.toNat by omega]; rfl
end Go.Mx
namespace Go.Mx
open Go
theorem ba_ext {a b:ByteArray} (h:a.data.toList = b.data.toList):a = b := by
 obtain ⟨⟨a⟩⟩ := a; obtain ⟨⟨b⟩⟩ := b; simpa using h
theorem v_seq_iff {a b:ByteArray}:v_seq a b = decide (a = b) := by
 unfold v_seq
 by_cases h:a = b
 ·subst h; simp
 ·rw [decide_eq_false h]
  have:a.data.toList ≠ b.data.toList := fun e => h (ba_ext e)
  simpa using this
theorem ba_len (s:ByteArray):s.data.toList.length = s.size := by obtain ⟨⟨l⟩⟩ := s; rfl
def v_nt (s:ByteArray):Option Int := match v_canon s.data.toList with
 | some n => if 0≤n∧s.size≤6 then some n else none
 | none => none
theorem v_nt_iff {s:ByteArray} {n:Int}:v_nt s = some n ↔ s.data.toList = Lib.itoa n∧0≤n∧s.size≤6 := by
 unfold v_nt
 rw [← v_canon_iff]
 cases h:v_canon s.data.toList with
 | none => simp
 | some m =>
  simp only [sJ]
  constructor
  ·intro e
   split at e
   ·rename_i hc
    simp only [sJ] at e; subst e
    exact ⟨rfl,hc⟩
   ·cases e
  ·rintro ⟨rfl,hc⟩
   rw [if_pos hc]
theorem v_nt_prog (s:ByteArray):cond (cond (cond (!(v_ate s.data.toList)) true (decide (v_atn s.data.toList < 0))) true (!(v_seq (v_itoa (v_atn s.data.toList)) s))) true (decide ((s.size:Int) > 6)) = (v_nt s).isNone∧∀ n,v_nt s = some n→v_atn s.data.toList = n := by
 have hseq:v_seq (v_itoa (v_atn s.data.toList)) s = decide (Lib.itoa (v_atn s.data.toList) = s.data.toList) := by
  rw [v_seq_iff]
  refine decide_eq_decide.2 ⟨fun e => congrArg (fun x:ByteArray => x.data.toList) e,fun e => ba_ext ?_⟩
  exact e
 rw [hseq]
 by_cases h6:s.size≤6
 ·have hl:s.data.toList.length≤18 := by rw [ba_len]; omega
  have d6:decide ((s.size:Int) > 6) = false := decide_eq_false (by omega)
  rw [d6]
  unfold v_nt
  cases hc:v_canon s.data.toList with
  | some n =>
   obtain ⟨h1,h2,h3⟩ := (v_at_iff hl).2 hc
   rw [h1,h3,decide_eq_true (show Lib.itoa n = s.data.toList by rw [← h3]; exact h2)]
   by_cases h0:0≤n
   ·rw [decide_eq_false (show ¬ n < 0 by omega)]
    simp only [if_pos (show 0≤n∧s.size≤6 from ⟨h0,h6⟩)]
    exact ⟨rfl,fun m e => Option.some.inj e⟩
   ·rw [decide_eq_true (show n < 0 by omega)]
    simp only [if_neg (show ¬ (0≤n∧s.size≤6) from fun e => h0 e.1)]
    exact ⟨rfl,fun m e => by cases e⟩
  | none =>
   refine ⟨?_,fun n e => by cases e⟩
   by_cases hi:Lib.itoa (v_atn s.data.toList) = s.data.toList
   ·have := v_canon_iff.2 hi.symm
    rw [hc] at this; cases this
   ·rw [decide_eq_false hi]
    cases v_ate s.data.toList <;> cases decide (v_atn s.data.toList < 0) <;> rfl
 ·have d6:decide ((s.size:Int) > 6) = true := decide_eq_true (by omega)
  have hn:v_nt s = none := by
   cases h:v_nt s with
   | none => rfl
   | some n => exact absurd (v_nt_iff.1 h).2.2 h6
  rw [d6,hn]
  exact ⟨by cases (cond (cond (!(v_ate s.data.toList)) true (decide (v_atn s.data.toList < 0))) true (!(decide (Lib.itoa (v_atn s.data.toList) = s.data.toList)))) <;> rfl,fun n e => by cases e⟩
theorem v_dval_lt:∀ (l:List UInt8) (a:Nat),l.all v_dgt = true→v_dval l a < (a + 1) * 10 ^ l.length
 | [],a,_ => by simp [v_dval]
 | b :: r,a,h => by
  rw [List.all_cons,Bool.and_eq_true] at h
  have hb:48≤b.toNat∧b.toNat≤57 := of_decide_eq_true h.1
  have := v_dval_lt r (a * 10 + (b.toNat - 48)) h.2
  rw [v_dval,List.length_cons,Nat.pow_succ]
  refine Nat.lt_of_lt_of_le this ?_
  rw [Nat.mul_comm (10 ^ r.length) 10,← Nat.mul_assoc]
  exact Nat.mul_le_mul_right _ (by omega)
theorem v_nt_digits {s:ByteArray} {n:Int} (h:v_nt s = some n):s.data.toList.all v_dgt = true := by
 obtain ⟨h1,h2,_⟩ := v_nt_iff.1 h
 rw [h1]
 unfold Lib.itoa
 rw [if_neg (by omega)]
 exact v_dig_all _
theorem v_spb_no {b:UInt8}:∀ {l:List UInt8},b ∉ l→v_spb b l = [l]
 | [],_ => rfl
 | c :: r,h => by
  simp only [List.mem_cons,not_or] at h
  rw [v_spb,if_neg (fun e => h.1 e.symm),v_spb_no h.2]
theorem v_spb_ne (b:UInt8) (l:List UInt8):v_spb b l ≠ [] := by
 rw [v_spb_is]; split <;> simp
theorem v_spb_mem {b:UInt8}:∀ {l p:List UInt8},p∈v_spb b l→b ∉ p∧p.length≤l.length
 | [],p,h => by simp [v_spb] at h; subst h; simp
 | c :: r,p,h => by
  rw [v_spb] at h
  split at h
  ·rename_i e
   rcases List.mem_cons.1 h with rfl | h
   ·simp
   ·have := v_spb_mem h
    exact ⟨this.1,by simp; omega⟩
  ·rename_i e
   have hne := v_spb_ne b r
   cases hs:v_spb b r with
   | nil => exact absurd hs hne
   | cons q t =>
    rw [hs] at h
    rcases List.mem_cons.1 h with rfl | h
    ·have := v_spb_mem (b := b) (l := r) (p := q) (by rw [hs]; simp)
     exact ⟨by simp only [List.mem_cons,not_or]; exact ⟨fun x => e x.symm,this.1⟩,by simp; exact this.2⟩
    ·have := v_spb_mem (b := b) (l := r) (p := p) (by rw [hs]; simp [h])
     exact ⟨this.1,by simp; omega⟩
theorem v_spb_app {b:UInt8}:∀ {p l:List UInt8},b ∉ p→v_spb b (p ++ b :: l) = p :: v_spb b l
 | [],l,_ => by rw [List.nil_append,v_spb,if_pos rfl]
 | c :: p,l,h => by
  simp only [List.mem_cons,not_or] at h
  rw [List.cons_append,v_spb,if_neg (fun e => h.1 e.symm),v_spb_app h.2]
theorem v_spb_len (b:UInt8):∀ l:List UInt8,(v_spb b l).length≤l.length + 1
 | [] => by simp [v_spb]
 | c :: r => by
  have := v_spb_len b r
  rw [v_spb]
  split
  ·simp; omega
  ·split
   ·simp
   ·rename_i p q hs
    rw [hs] at this
    simp at this ⊢; omega
def v_ct (s:ByteArray) (b:Int):List ByteArray := (v_spb (UInt8.ofNat b.toNat) s.data.toList).map fun l => ⟨l.toArray⟩
theorem v_pcs_ct (s:ByteArray) (b:UInt8):v_pcs s ⟨#[b]⟩ = v_ct s b.toNat := by
 have h := v_pcs_spb s b
 unfold v_ct
 rw [show UInt8.ofNat ((b.toNat:Int)).toNat = b by simp,← h,List.map_map]
 exact (List.map_id _).symm.trans (List.map_congr_left fun x _ => rfl)
theorem v_ct_len (s:ByteArray) (b:Int):(v_ct s b).length≤s.size + 1 := by
 unfold v_ct
 rw [List.length_map,← ba_len]; exact v_spb_len _ _
theorem v_ct_mem {s:ByteArray} {b:Int} {p:ByteArray} (h:p∈v_ct s b):p.size≤s.size := by
 obtain ⟨l,hl,rfl⟩ := List.mem_map.1 h
 have := (v_spb_mem hl).2
 rw [ba_len] at this
 exact this
def v_nbr (s:ByteArray) (k:Int):Int×Bool := match v_canon s.data.toList with
 | some n => cond (decide ((s.size:Int) - (cond (decide (n < 0)) 1 0)≤k)) (n,true) (0,false)
 | none => (0,false)
def v_nat2 (s:ByteArray):Int×Bool := match v_nt s with
 | some n => (n,true)
 | none => ((v_nbr s 6).1,false)
def v_nms:List ByteArray→List Int→ByteArray→List Int×Bool
 | [],out,_ => (out,true)
 | m :: r,out,s => match cond (m.size == 0) (s,(⟨#[]⟩ : ByteArray),true) (v_cut s m) with
  | (w,rest,found) => match cond found (v_nt w) none with
   | some n => v_nms r (out ++ [n]) rest
   | none => ([],false)
def v_ddb (n:Int):ByteArray := ⟨(v_dd n.natAbs).toArray⟩
theorem v_scat_list (a b:ByteArray):(v_scat a b).data.toList = a.data.toList ++ b.data.toList := by
 unfold v_scat; rw [ByteArray.data_append,Array.toList_append]
theorem v_scat_size (a b:ByteArray):(v_scat a b).size = a.size + b.size := by
 rw [← ba_len,v_scat_list,List.length_append,ba_len,ba_len]
theorem v_scat_assoc (a b c:ByteArray):v_scat (v_scat a b) c = v_scat a (v_scat b c) := ba_ext (by simp only [v_scat_list,List.append_assoc])
theorem v_scat_nil (a:ByteArray):v_scat (⟨#[]⟩ : ByteArray) a = a := ba_ext (by rw [v_scat_list]; rfl)
theorem v_scat_nil2 (a:ByteArray):v_scat a (⟨#[]⟩ : ByteArray) = a := ba_ext (by rw [v_scat_list]; simp)
theorem v_size_max (n:Int) (h1 : -9223372036854775807≤n) (h2:n≤9223372036854775807):max n (IntKind.i64.wrap ((0:Int) - n)) = (n.natAbs:Int) := by
 rw [wrap_id (by omega) (by omega)]; omega
def v_dgb (n:Int):Int := 48 + (n.natAbs % 10:Nat)
theorem v_dgb_is (n:Int):IntKind.u8.wrap (IntKind.i64.wrap (48 + max (n.tmod 10) (IntKind.i64.wrap ((0:Int) - n.tmod 10)))) = v_dgb n := by
 have h0:(n.tmod 10).natAbs = n.natAbs % 10 := by rw [Int.natAbs_tmod]; rfl
 have hlt:n.natAbs % 10 < 10 := Nat.mod_lt _ (by decide)
 rw [v_size_max _ (by omega) (by omega),h0,wrap_id (by omega) (by omega)]
 unfold v_dgb
 have:IntKind.u8.wrap (48 + ((n.natAbs % 10:Nat):Int)) = 48 + ((n.natAbs % 10:Nat):Int) := by
  generalize n.natAbs % 10 = d at hlt ⊢
  simp only [IntKind.wrap]
  simp [IntKind.bits,IntKind.signed]
  omega
 exact this
theorem dec_is {dd pre:ByteArray} {st:Int×ByteArray→(Int×ByteArray) ⊕ ByteArray} {sp:Int×ByteArray→List Prop}
  (hst:∀ y,st y = cond (y.1 != 0) (.inl (IntKind.i64.wrap (y.1.tdiv 10),v_scat (v_sof [v_dgb y.1]) y.2)) (.inr (v_scat pre y.2)))
  (hsp:∀ y,((y.1 ≠ 0→v_bts [v_dgb y.1])∧(y.1 ≠ 0→((v_sof [v_dgb y.1]).size:Int) + y.2.size≤9223372036854775807)∧(y.1 = 0→(pre.size:Int) + y.2.size≤9223372036854775807))→∀ p∈sp y,p)
  (hpre:pre.size≤1) (n:Int) (h1 : -9223372036854775808≤n) (h2:n≤9223372036854775807):OkL st sp (n,⟨#[]⟩)∧lpv dd st (n,⟨#[]⟩) = v_scat pre (v_ddb n) := by
 have hs1:∀ m:Int,(v_sof [v_dgb m]).size = 1 := fun m => by unfold v_sof; rfl
 have hd:∀ m:Int,m.natAbs % 10 < 10 := fun m => Nat.mod_lt _ (by decide)
 have h := loop_is (d := dd) (st := st) (sp := sp) (fun y => -9223372036854775808≤y.1∧y.1≤9223372036854775807∧(y.2.size = 0 ∨ y.2.size + y.1.natAbs≤4611686018427387904)) (fun y => y.1.natAbs) (fun y => v_scat pre (v_scat (v_ddb y.1) y.2)) (fun y hI => by
  obtain ⟨g1,g2,g3⟩ := hI
  have hdiv:(y.1.tdiv 10).natAbs = y.1.natAbs / 10 := by rw [Int.natAbs_tdiv]; rfl
  refine ⟨hsp y ⟨fun _ => ?_,fun hne => ?_,fun he => ?_⟩,?_⟩
  ·intro b hb
   simp only [List.mem_singleton] at hb; subst hb
   have := hd y.1
   unfold v_dgb; omega
  ·rw [hs1]; omega
  ·omega
  ·rw [hst]
   by_cases hz:y.1 = 0
   ·rw [show (y.1 != 0) = false by simp [hz]]
    simp only [cond_false]
    rw [hz]
    show v_scat pre (v_scat (v_ddb 0) y.2) = _
    rw [show v_ddb 0 = ⟨#[]⟩ from rfl,v_scat_nil]
   ·rw [show (y.1 != 0) = true by simp [hz]]
    simp only [cond_true]
    rw [wrap_id (n := y.1.tdiv 10) (by omega) (by omega)]
    refine ⟨⟨by omega,by omega,.inr ?_⟩,by omega,?_⟩
    ·rw [v_scat_size,hs1]; omega
    ·congr 1
     rw [← v_scat_assoc]
     congr 1
     have hstep := v_dd_step (n := y.1.natAbs) (by omega)
     refine ba_ext ?_
     rw [v_scat_list]
     show v_dd (y.1.tdiv 10).natAbs ++ (v_sof [v_dgb y.1]).data.toList = v_dd y.1.natAbs
     rw [hstep,hdiv]
     congr 1) (x := (n,⟨#[]⟩)) ⟨h1,h2,.inl rfl⟩ (by unfold fuel; omega)
 exact ⟨h.1,h.2.trans (by show v_scat pre (v_scat (v_ddb n) ⟨#[]⟩) = _; rw [v_scat_nil2])⟩
theorem v_itoa_dd (n:Int):v_itoa n = cond (n == 0) (⟨#[48]⟩ : ByteArray) (cond (decide (n < 0)) (v_scat ⟨#[45]⟩ (v_ddb n)) (v_scat ⟨#[]⟩ (v_ddb n))) := by
 by_cases h0:n = 0
 ·subst h0
  refine ba_ext ?_
  show Lib.itoa 0 = [48]
  unfold Lib.itoa
  rw [if_neg (by decide)]
  exact v_dig_0
 ·rw [show (n == 0) = false by simp [h0],cond_false]
  have h := v_dd_itoa h0
  refine ba_ext ?_
  show Lib.itoa n = _
  rw [h]
  by_cases hn:n < 0
  ·rw [if_pos hn,decide_eq_true hn,cond_true,v_scat_list]; rfl
  ·rw [if_neg hn,decide_eq_false hn,cond_false,v_scat_list]; rfl
theorem v_six_get {s:ByteArray} {j:Nat} (h:j < s.size):v_six s j = (((s.data.toList.getD j 0).toNat:Nat):Int) := by
 obtain ⟨⟨l⟩⟩ := s
 unfold v_six
 have hj:j < l.length := h
 rw [Int.toNat_natCast]
 have e:(⟨⟨l⟩⟩ : ByteArray)[j]? = some l[j] := by
  rw [getElem?_pos _ j h]; rfl
 rw [e]
 show _ = ((l.getD j 0).toNat:Int)
 rw [List.getD_eq_getElem?_getD,List.getElem?_eq_getElem hj]; rfl
theorem v_ssub_list {s:ByteArray} {a b:Nat}:(v_ssub s a b).data.toList = (s.data.toList.drop a).take (b - a) := by
 unfold v_ssub
 rw [Int.toNat_natCast,Int.toNat_natCast,ByteArray.data_extract,Array.toList_extract]
theorem u8_of {b:UInt8} {p:Int} (h0:0≤p) (h1:p < 256):(((b.toNat:Nat):Int) == p) = decide (b = UInt8.ofNat p.toNat) := by
 have e:(UInt8.ofNat p.toNat).toNat = p.toNat := by rw [UInt8.toNat_ofNat']; omega
 by_cases h:b = UInt8.ofNat p.toNat
 ·rw [decide_eq_true h,h,e]; simp; omega
 ·rw [decide_eq_false h]
  have:((b.toNat:Nat):Int) ≠ p := fun e2 => h (UInt8.toNat_inj.1 (by rw [e]; omega))
  simpa using this
theorem cut_is {s:ByteArray} {p:Int} {dd:List ByteArray} {st:Int×(Int×List ByteArray)→(Int×(Int×List ByteArray)) ⊕ List ByteArray} {sp:Int×(Int×List ByteArray)→List Prop} (hp0:0≤p) (hp1:p < 256) (hs:s.size≤1000000)
  (hst:∀ y,st y = cond (decide (y.1 < (s.size:Int))) (cond (v_six s y.1 == p) (.inl (IntKind.i64.wrap (y.1 + 1),(IntKind.i64.wrap (y.1 + 1),y.2.2 ++ [v_ssub s y.2.1 y.1]))) (.inl (IntKind.i64.wrap (y.1 + 1),y.2))) (.inr (y.2.2 ++ [v_ssub s y.2.1 s.size])))
  (hsp:∀ y:Int×(Int×List ByteArray),(0≤y.1∧y.1≤(s.size:Int)∧0≤y.2.1∧y.2.1≤y.1∧y.2.2.length≤1000000)→∀ q∈sp y,q):OkL st sp (0,(0,[]))∧lpv dd st (0,(0,[])) = v_ct s p := by
 generalize hl:s.data.toList = l
 have hsl:s.size = l.length := by rw [← hl,ba_len]
 have h := for_is (dd := dd) (st := st) (sp := sp) (fun i (t:Int×List ByteArray) => (i,t)) 0 s.size
  (fun j t => ∃ a:Nat,t.1 = a∧a≤j∧t.2.length≤j∧UInt8.ofNat p.toNat ∉ (l.drop a).take (j - a))
  (fun _ t => t.2 ++ (v_spb (UInt8.ofNat p.toNat) (l.drop t.1.toNat)).map fun q => ⟨q.toArray⟩) (Nat.zero_le _) (by omega) (fun t ht => ?_) (fun j t _ hj ht => ?_) (0,[]) ⟨0,rfl,Nat.le_refl _,Nat.le_refl _,by simp⟩
 ·refine ⟨h.1,h.2.trans ?_⟩
  unfold v_ct
  rw [hl]; rfl
 ·obtain ⟨a,h1,h2,h3,h4⟩ := ht
  refine ⟨hsp _ ⟨show (0:Int)≤(_:Nat) by omega,show ((_:Nat):Int)≤(_:Nat) by omega,show (0:Int)≤t.1 by omega,show t.1≤((_:Nat):Int) by omega,show t.2.length≤1000000 by omega⟩,?_⟩
  rw [hst,decide_eq_false (by dsimp only; omega)]
  simp only [cond_false]
  congr 2
  rw [h1,Int.toNat_natCast]
  have:l.drop a = (l.drop a).take (s.size - a) := by
   rw [List.take_of_length_le]; simp; omega
  rw [← this] at h4
  rw [v_spb_no h4]
  show _ = [(⟨(l.drop a).toArray⟩ : ByteArray)]
  congr 1
  refine ba_ext ?_
  rw [v_ssub_list,hl,← this]
 ·obtain ⟨a,h1,h2,h3,h4⟩ := ht
  refine ⟨hsp _ ⟨show (0:Int)≤(_:Nat) by omega,show ((_:Nat):Int)≤(_:Nat) by omega,show (0:Int)≤t.1 by omega,show t.1≤((_:Nat):Int) by omega,show t.2.length≤1000000 by omega⟩,.inl ?_⟩
  have hjl:j < l.length := by omega
  have hget:l.getD j 0 = l[j] := by rw [List.getD_eq_getElem?_getD,List.getElem?_eq_getElem hjl]; rfl
  rw [hst,decide_eq_true (show ((j:Nat):Int) < s.size by omega)]
  simp only [cond_true]
  rw [v_six_get hj,hl,hget,u8_of hp0 hp1,wrap_nat (show (j:Int)≤9223372036854775806 by omega)]
  have hdrop:l.drop a = (l.drop a).take (j - a) ++ l[j] :: l.drop (j + 1) := by
   have e1 := (List.take_append_drop (j - a) (l.drop a)).symm
   rw [List.drop_drop,show a + (j - a) = j by omega,List.drop_eq_getElem_cons hjl] at e1
   exact e1
  by_cases hb:l[j] = UInt8.ofNat p.toNat
  ·rw [decide_eq_true hb,cond_true]
   refine ⟨_,rfl,⟨j + 1,rfl,Nat.le_refl _,by simp; omega,by simp⟩,?_⟩
   rw [List.append_assoc]
   congr 1
   rw [h1,Int.toNat_natCast,Int.toNat_natCast]
   conv => rhs; rw [hdrop,hb,v_spb_app h4]
   rw [List.map_cons]
   show _ :: _ = _ :: _
   congr 1
   refine ba_ext ?_
   rw [v_ssub_list,hl]
  ·rw [decide_eq_false hb,cond_false]
   refine ⟨t,rfl,⟨a,h1,by omega,by omega,?_⟩,rfl⟩
   have e2:(l.drop a).take (j + 1 - a) = (l.drop a).take (j - a) ++ [l[j]] := by
    have hlt:((l.drop a).take (j - a)).length = j - a := by simp; omega
    conv => lhs; rw [hdrop]
    rw [List.take_append,hlt,show j + 1 - a - (j - a) = 1 by omega,List.take_of_length_le (by rw [hlt]; omega)]; rfl
   rw [e2]
   simp only [List.mem_append,List.mem_singleton,not_or]
   exact ⟨h4,fun e => hb e.symm⟩
theorem dgt_of (b:UInt8):cond (decide (((b.toNat:Nat):Int) < 48)) true (decide (((b.toNat:Nat):Int) > 57)) = !(v_dgt b) := by
 unfold v_dgt
 by_cases h1:48≤b.toNat
 ·rw [decide_eq_false (show ¬ ((b.toNat:Nat):Int) < 48 by omega),cond_false]
  by_cases h2:b.toNat≤57
  ·rw [decide_eq_false (show ¬ ((b.toNat:Nat):Int) > 57 by omega),decide_eq_true ⟨h1,h2⟩]; rfl
  ·rw [decide_eq_true (show ((b.toNat:Nat):Int) > 57 by omega),decide_eq_false (fun e => h2 e.2)]; rfl
 ·rw [decide_eq_true (show ((b.toNat:Nat):Int) < 48 by omega),cond_true,decide_eq_false (show ¬ (48≤b.toNat∧b.toNat≤57) from fun e => h1 e.1)]; rfl
theorem u8_sub {n:Nat} (h1:48≤n) (h2:n≤57):IntKind.u8.wrap ((n:Int) - 48) = ((n - 48:Nat):Int) := by
 simp only [IntKind.wrap]
 simp [IntKind.bits,IntKind.signed]
 omega
theorem pow18 {k:Nat} (h:k≤18):10 ^ k≤1000000000000000000 := Nat.le_trans (Nat.pow_le_pow_right (by decide) h) (by decide)
theorem num_is {s:ByteArray} {dd:Int×Bool} {st:Int×Int→(Int×Int) ⊕ (Int×Bool)} {sp:Int×Int→List Prop} (e:Int→Int) (a:Nat) (ha:a≤s.size) (h18:s.size - a≤18) (hs:s.size≤1000000)
  (hst:∀ y,st y = cond (decide (y.1 < (s.size:Int))) (cond (cond (decide (v_six s y.1 < 48)) true (decide (v_six s y.1 > 57))) (.inr (0,false)) (.inl (IntKind.i64.wrap (y.1 + 1),IntKind.i64.wrap (IntKind.i64.wrap (10 * y.2) + IntKind.i64.wrap (IntKind.u8.wrap (v_six s y.1 - 48)))))) (.inr (e y.2,true)))
  (hsp:∀ y:Int×Int,(0≤y.1∧y.1≤(s.size:Int))→∀ q∈sp y,q) :
  OkL st sp ((a:Int),0)∧lpv dd st ((a:Int),0) = cond ((s.data.toList.drop a).all v_dgt) (e (v_dval (s.data.toList.drop a) 0:Nat),true) (0,false) := by
 generalize hl:s.data.toList = l
 have hsl:s.size = l.length := by rw [← hl,ba_len]
 have h := for_is (dd := dd) (st := st) (sp := sp) (fun i (t:Int) => (i,t)) a s.size
  (fun j t => ∃ m:Nat,t = m∧m < 10 ^ (j - a))
  (fun j t => cond ((l.drop j).all v_dgt) (e (v_dval (l.drop j) t.toNat:Nat),true) (0,false)) ha (by omega) (fun t ht => ?_) (fun j t haj hj ht => ?_) 0 ⟨0,rfl,by simp⟩
 ·exact h
 ·obtain ⟨m,rfl,_⟩ := ht
  refine ⟨hsp _ ⟨show (0:Int)≤(_:Nat) by omega,show ((_:Nat):Int)≤(_:Nat) by omega⟩,?_⟩
  rw [hst,decide_eq_false (show ¬ (((s.size:Nat):Int) < s.size) by omega),hsl,List.drop_length]
  rfl
 ·obtain ⟨m,rfl,hm⟩ := ht
  refine ⟨hsp _ ⟨show (0:Int)≤(_:Nat) by omega,show ((_:Nat):Int)≤(_:Nat) by omega⟩,?_⟩
  have hjl:j < l.length := by omega
  have hget:l.getD j 0 = l[j] := by rw [List.getD_eq_getElem?_getD,List.getElem?_eq_getElem hjl]; rfl
  rw [hst,decide_eq_true (show ((j:Nat):Int) < s.size by omega)]
  simp only [cond_true]
  rw [v_six_get hj,hl,hget,dgt_of,wrap_nat (show (j:Int)≤9223372036854775806 by omega),List.drop_eq_getElem_cons hjl]
  have hall:(l[j] :: l.drop (j + 1)).all v_dgt = (v_dgt l[j] && (l.drop (j + 1)).all v_dgt) := rfl
  rw [hall]
  cases hd:v_dgt l[j] with
  | false => exact .inr rfl
  | true =>
   left
   have hb:48≤l[j].toNat∧l[j].toNat≤57 := of_decide_eq_true hd
   have hp := pow18 (k := j - a) (by omega)
   have hp2:10 ^ (j + 1 - a) = 10 ^ (j - a) * 10 := by rw [show j + 1 - a = (j - a) + 1 by omega,Nat.pow_succ]
   have hp3 := pow18 (k := j + 1 - a) (by omega)
   refine ⟨_,rfl,⟨m * 10 + (l[j].toNat - 48),?_,by rw [hp2]; omega⟩,?_⟩
   ·rw [u8_sub hb.1 hb.2,wrap_id (n := 10 * (m:Int)) (by omega) (by omega),wrap_id (n := ((l[j].toNat - 48:Nat):Int)) (by omega) (by omega),wrap_id (by omega) (by omega)]
    omega
   ·rw [u8_sub hb.1 hb.2,wrap_id (n := 10 * (m:Int)) (by omega) (by omega),wrap_id (n := ((l[j].toNat - 48:Nat):Int)) (by omega) (by omega),wrap_id (by omega) (by omega)]
    rw [v_dval,show (10 * (m:Int) + ((l[j].toNat - 48:Nat):Int)).toNat = m * 10 + (l[j].toNat - 48) by omega,Int.toNat_natCast]
    rfl
theorem v_dval_pos {r:List UInt8} (h:v_nml r = true) (h2:r ≠ [48]):1≤v_dval r 0 := by
 have := v_dig_of _ r rfl h
 rcases Nat.eq_zero_or_pos (v_dval r 0) with e | e
 ·rw [e,v_dig_0] at this; exact absurd this.symm h2
 ·exact e
theorem v_nbr_neg {s:ByteArray} {r:List UInt8} (h:s.data.toList = 45 :: r) (k:Int) :
  v_nbr s k = cond (cond (cond ((s.size:Int) == 1) true (decide ((s.size:Int) - 1 > k))) true (decide (r.head? = some 48))) (0,false) (cond (r.all v_dgt) (-(v_dval r 0:Int),true) (0,false)) := by
 have hs:s.size = r.length + 1 := by rw [← ba_len,h]; rfl
 unfold v_nbr
 rw [h]
 unfold v_canon
 simp only [show ((45:UInt8) == 45) = true from rfl]
 by_cases hc:v_nml r = true∧r ≠ [48]
 ·have hpos := v_dval_pos hc.1 hc.2
  obtain ⟨g1,g2,g3⟩ := v_nml_iff.1 hc.1
  rw [if_pos hc]
  dsimp only
  have hne:r.length ≠ 0 := fun e => g1 (List.length_eq_zero_iff.1 e)
  have hhead:decide (r.head? = some 48) = false := decide_eq_false (fun e => hc.2 (by
   have := g3 e
   obtain ⟨x,rfl⟩ := List.length_eq_one_iff.1 this
   simp at e; rw [e]))
  rw [decide_eq_true (show -(v_dval r 0:Int) < 0 by omega),hhead,g2,show ((s.size:Int) == 1) = false by simp; omega]
  by_cases hk:(s.size:Int) - 1≤k
  ·rw [decide_eq_false (show ¬ ((s.size:Int) - 1 > k) by omega),cond_true,decide_eq_true hk]; rfl
  ·rw [decide_eq_true (show ((s.size:Int) - 1 > k) by omega),cond_true,decide_eq_false hk]; rfl
 ·rw [if_neg hc]
  dsimp only
  by_cases h1:r = []
  ·subst h1
   rw [show ((s.size:Int) == 1) = true by simp; simp at hs; omega]; rfl
  ·rw [show ((s.size:Int) == 1) = false by
    have:r.length ≠ 0 := fun e => h1 (List.length_eq_zero_iff.1 e)
    simp; omega]
   by_cases h2:r.head? = some 48
   ·rw [decide_eq_true h2]
    cases decide ((s.size:Int) - 1 > k) <;> rfl
   ·have:r.all v_dgt = false := by
     cases h3:r.all v_dgt with
     | false => rfl
     | true => exact absurd ⟨v_nml_iff.2 ⟨h1,h3,fun e => absurd e h2⟩,fun e => h2 (by rw [e]; rfl)⟩ hc
    rw [this]
    cases decide ((s.size:Int) - 1 > k) <;> cases decide (r.head? = some 48) <;> rfl
theorem v_nbr_pos {s:ByteArray} (h:s.data.toList.head? ≠ some 45) (k:Int) :
  v_nbr s k = cond (cond (cond ((s.size:Int) == 0) true (decide ((s.size:Int) - 0 > k))) true (cond (decide (s.data.toList.head? = some 48)) (decide ((s.size:Int) > 1)) false)) (0,false) (cond (s.data.toList.all v_dgt) ((v_dval s.data.toList 0:Int),true) (0,false)) := by
 have hs := ba_len s
 unfold v_nbr
 generalize s.data.toList = l at h hs ⊢
 cases l with
 | nil =>
  rw [show ((s.size:Int) == 0) = true by have:s.size = 0 := hs.symm; rw [this]; rfl]; rfl
 | cons b r =>
  have hb:(b == 45) = false := by
   cases q:b == 45
   ·rfl
   ·exact absurd (by simpa using q) h
  unfold v_canon
  simp only [hb]
  rw [show ((s.size:Int) == 0) = false by have:r.length + 1 = s.size := hs; rw [← this]; simp; omega]
  by_cases hc:v_nml (b :: r) = true
  ·obtain ⟨g1,g2,g3⟩ := v_nml_iff.1 hc
   rw [if_pos hc,g2]
   dsimp only
   rw [decide_eq_false (show ¬ ((v_dval (b :: r) 0:Int) < 0) by omega)]
   have h1:(cond (decide ((b :: r).head? = some 48)) (decide ((s.size:Int) > 1)) false) = false := by
    by_cases e:(b :: r).head? = some 48
    ·rw [decide_eq_true e,decide_eq_false (by have := g3 e; omega)]; rfl
    ·rw [decide_eq_false e]; rfl
   rw [h1]
   by_cases hk:(s.size:Int) - 0≤k
   ·rw [decide_eq_false (show ¬ ((s.size:Int) - 0 > k) by omega),cond_false,decide_eq_true hk]; rfl
   ·rw [decide_eq_true (show ((s.size:Int) - 0 > k) by omega),cond_false,decide_eq_false hk]; rfl
  ·rw [if_neg hc]
   dsimp only
   by_cases h2:(b :: r).head? = some 48∧s.size ≠ 1
   ·have:(decide ((s.size:Int) > 1)) = true := decide_eq_true (by simp at hs; have := h2.2; omega)
    rw [decide_eq_true h2.1,this]
    cases decide ((s.size:Int) - 0 > k) <;> rfl
   ·have:(b :: r).all v_dgt = false := by
     cases h3:(b :: r).all v_dgt with
     | false => rfl
     | true => exact absurd (v_nml_iff.2 ⟨by simp,h3,fun e => by
       rcases Nat.decEq s.size 1 with g | g
       ·exact absurd ⟨e,g⟩ h2
       ·omega⟩) hc
    rw [this]
    cases decide ((s.size:Int) - 0 > k) <;> cases (cond (decide ((b :: r).head? = some 48)) (decide ((s.size:Int) > 1)) false) <;> rfl
end Go.Mx
namespace Go.Mx
open Go
def v_jn (b:UInt8):List (List UInt8)→List UInt8
 | [] => []
 | [p] => p
 | p :: q :: r => p ++ b :: v_jn b (q :: r)
theorem v_jn_cons (b:UInt8) (p:List UInt8) {r:List (List UInt8)} (h:r ≠ []):v_jn b (p :: r) = p ++ b :: v_jn b r := by
 cases r with
 | nil => exact absurd rfl h
 | cons q r => rfl
theorem v_jn_spb (b:UInt8):∀ l:List UInt8,v_jn b (v_spb b l) = l
 | [] => rfl
 | c :: r => by
  have ih := v_jn_spb b r
  have hne := v_spb_ne b r
  rw [v_spb]
  split
  ·rename_i e
   rw [v_jn_cons b [] hne,ih,e]; rfl
  ·cases hs:v_spb b r with
   | nil => exact absurd hs hne
   | cons p q =>
    rw [hs] at ih
    cases q with
    | nil => simp only [v_jn] at ih ⊢; rw [ih]
    | cons q t => simp only [v_jn,List.cons_append] at ih ⊢; rw [ih]
theorem v_spb_jn {b:UInt8}:∀ {ps:List (List UInt8)},ps ≠ []→(∀ p∈ps,b ∉ p)→v_spb b (v_jn b ps) = ps
 | [],h,_ => absurd rfl h
 | [p],_,h => by simp only [v_jn]; exact v_spb_no (h p (by simp))
 | p :: q :: r,_,h => by
  simp only [v_jn]
  rw [v_spb_app (h p (by simp)),v_spb_jn (by simp) (fun x hx => h x (by simp at hx ⊢; exact .inr hx))]
theorem join_jn (b:UInt8):∀ ps:List (List UInt8),Lib.join ps [b] = v_jn b ps
 | [] => rfl
 | [p] => by show [b].intercalate [p] = p; simp [List.intercalate]
 | p :: q :: r => by
  have ih := join_jn b (q :: r)
  simp only [v_jn,← ih]
  show [b].intercalate (p :: q :: r) = _
  simp [Lib.join,List.intercalate]
theorem v_cut_size (s p:ByteArray):(v_cut s p).1.size≤s.size∧(v_cut s p).2.1.size≤s.size := by
 have h:(Lib.cut s.data.toList p.data.toList).1.length≤s.data.toList.length∧(Lib.cut s.data.toList p.data.toList).2.1.length≤s.data.toList.length := by
  unfold Lib.cut
  split
  ·simp only [List.length_take,List.length_drop]; omega
  ·simp
 rw [ba_len] at h
 exact h
theorem v_at_rng {l:List UInt8} (h:v_ate l = true) : -9223372036854775808≤v_atn l∧v_atn l≤9223372036854775807 := by
 unfold v_ate at h
 unfold v_atn
 cases e:Lib.atoiAll l
 case ok v => exact Lib.atoiAll_bounds e
 all_goals (rw [e] at h; cases h)
theorem v_cut_one (s:ByteArray) (b:UInt8):((v_cut s ⟨#[b]⟩).2.2 = false∧v_spb b s.data.toList = [s.data.toList]) ∨ ((v_cut s ⟨#[b]⟩).2.2 = true∧v_spb b s.data.toList = (v_cut s ⟨#[b]⟩).1.data.toList :: v_spb b (v_cut s ⟨#[b]⟩).2.1.data.toList) := by
 have h := v_spb_is b s.data.toList
 have hx:Lib.index s.data.toList [b] = Lib.indexByte s.data.toList b := Lib.index_one _ _
 have hge := Lib.indexByte_ge s.data.toList b
 have hc:Lib.cut s.data.toList [b] = if 0≤Lib.index s.data.toList [b] then (s.data.toList.take (Lib.index s.data.toList [b]).toNat,s.data.toList.drop ((Lib.index s.data.toList [b]).toNat + 1),true) else (s.data.toList,[],false) := rfl
 rw [hx] at hc
 have hcut:v_cut s ⟨#[b]⟩ = (⟨(Lib.cut s.data.toList [b]).1.toArray⟩,⟨(Lib.cut s.data.toList [b]).2.1.toArray⟩,(Lib.cut s.data.toList [b]).2.2) := rfl
 by_cases h0:Lib.indexByte s.data.toList b = -1
 ·left
  rw [if_neg (by omega)] at hc
  rw [hcut,hc]
  refine ⟨rfl,?_⟩
  rw [h,if_pos (by rw [h0]; rfl)]
 ·right
  rw [if_pos (by omega)] at hc
  rw [hcut,hc]
  refine ⟨rfl,?_⟩
  rw [h,if_neg (by simpa using h0)]
def v_opt2 (s:ByteArray) (b:Int):Option (Int×Int) := match v_ct s b with
 | [p,q] => match v_nt p,v_nt q with
  | some x,some y => some (x,y)
  | _,_ => none
 | _ => none
def v_opt3 (s:ByteArray) (a b:Int):Option (Int×Int×Int) := match v_ct s a with
 | [p,q] => match v_nt p,v_opt2 q b with
  | some x,some y => some (x,y)
  | _,_ => none
 | _ => none
theorem v_ct_cut (s:ByteArray) (b:UInt8):((v_cut s ⟨#[b]⟩).2.2 = false∧v_ct s b.toNat = [s]) ∨ ((v_cut s ⟨#[b]⟩).2.2 = true∧v_ct s b.toNat = (v_cut s ⟨#[b]⟩).1 :: v_ct (v_cut s ⟨#[b]⟩).2.1 b.toNat) := by
 unfold v_ct
 rw [show UInt8.ofNat ((b.toNat:Int)).toNat = b by simp]
 rcases v_cut_one s b with ⟨h1,h2⟩ | ⟨h1,h2⟩
 ·exact .inl ⟨h1,by rw [h2]; rfl⟩
 ·exact .inr ⟨h1,by rw [h2]; rfl⟩
theorem v_ct_no {s:ByteArray} {b:UInt8} (h:b ∉ s.data.toList):v_ct s b.toNat = [s] := by
 unfold v_ct
 rw [show UInt8.ofNat ((b.toNat:Int)).toNat = b by simp,v_spb_no h]; rfl
theorem v_ct_single {s q:ByteArray} {b:UInt8} (h:v_ct s b.toNat = [q]):q = s∧b ∉ s.data.toList := by
 rcases v_ct_cut s b with ⟨_,h2⟩ | ⟨_,h2⟩
 ·rw [h] at h2
  have e:q = s := by simpa using h2
  refine ⟨e,fun hm => ?_⟩
  unfold v_ct at h
  rw [show UInt8.ofNat ((b.toNat:Int)).toNat = b by simp] at h
  have hl:(v_spb b s.data.toList).length = 1 := by rw [← List.length_map (f := fun l => (⟨l.toArray⟩ : ByteArray)),h]; rfl
  obtain ⟨p,hp⟩ := List.length_eq_one_iff.1 hl
  have hj := v_jn_spb b s.data.toList
  rw [hp] at hj
  simp only [v_jn] at hj
  exact (v_spb_mem (b := b) (l := s.data.toList) (p := p) (by rw [hp]; simp)).1 (by rw [hj]; exact hm)
 ·rw [h] at h2
  have:v_ct (v_cut s ⟨#[b]⟩).2.1 b.toNat = [] := by simpa using (List.cons.inj h2).2.symm
  unfold v_ct at this
  exact absurd (List.map_eq_nil_iff.1 this) (v_spb_ne _ _)
theorem v_nt_no {s:ByteArray} {n:Int} (h:v_nt s = some n) {b:UInt8} (hb:v_dgt b = false):b ∉ s.data.toList := fun hm => by
 have := List.all_eq_true.1 (v_nt_digits h) b hm
 rw [hb] at this; cases this
theorem v_nms_two {x:UInt8} (hx:v_dgt x = false) (out:List Int) (s:ByteArray):v_nms [⟨#[x]⟩,⟨#[]⟩] out s = match v_opt2 s x.toNat with | some (a,b) => (out ++ [a,b],true) | none => ([],false) := by
 have h1:((⟨#[x]⟩ : ByteArray).size == 0) = false := rfl
 have h2:((⟨#[]⟩ : ByteArray).size == 0) = true := rfl
 unfold v_nms v_opt2
 rw [h1,cond_false]
 rcases v_ct_cut s x with ⟨g1,g2⟩ | ⟨g1,g2⟩
 ·rw [g2]
  generalize v_cut s ⟨#[x]⟩ = cw at g1 ⊢
  obtain ⟨w,rest,f⟩ := cw
  simp only at g1; subst g1
  rfl
 ·rw [g2]
  generalize v_cut s ⟨#[x]⟩ = cw at g1 ⊢
  obtain ⟨w,rest,f⟩ := cw
  simp only at g1; subst g1
  simp only [cond_true]
  cases hw:v_nt w with
  | none =>
   dsimp only
   cases hr:v_ct rest x.toNat with
   | nil => rfl
   | cons q t =>
    cases t with
    | nil => simp only [hw]
    | cons _ _ => rfl
  | some a =>
   dsimp only
   unfold v_nms
   rw [h2]
   simp only [cond_true]
   cases hr:v_nt rest with
   | some b =>
    rw [v_ct_no (v_nt_no hr hx)]
    simp only [hw,hr]
    unfold v_nms
    rw [List.append_assoc]; rfl
   | none =>
    dsimp only
    cases hr2:v_ct rest x.toNat with
    | nil => rfl
    | cons q t =>
     cases t with
     | nil =>
      obtain ⟨rfl,_⟩ := v_ct_single hr2
      simp only [hw,hr]
     | cons _ _ => rfl
theorem v_opt2_no {s:ByteArray} {x:UInt8} {y:Int×Int} (h:v_opt2 s x.toNat = some y) {b:UInt8} (hb:v_dgt b = false) (hne:b ≠ x):b ∉ s.data.toList := fun hm => by
 unfold v_opt2 at h
 split at h
 ·rename_i p q hpq
  split at h
  ·rename_i c d hc hd
   have hl:(v_spb x s.data.toList) = [p.data.toList,q.data.toList] := by
    unfold v_ct at hpq
    rw [show UInt8.ofNat ((x.toNat:Int)).toNat = x by simp] at hpq
    have := congrArg (List.map fun z:ByteArray => z.data.toList) hpq
    rw [List.map_map] at this
    exact (List.map_id _).symm.trans ((List.map_congr_left fun _ _ => rfl).trans this)
   have hj := v_jn_spb x s.data.toList
   rw [hl] at hj
   simp only [v_jn] at hj
   rw [← hj] at hm
   simp only [List.mem_append,List.mem_cons] at hm
   rcases hm with hm | hm | hm
   ·exact v_nt_no hc hb hm
   ·exact hne hm
   ·exact v_nt_no hd hb hm
  ·cases h
 ·cases h
theorem v_nms_three {x y:UInt8} (hx:v_dgt x = false) (hy:v_dgt y = false) (hne:x ≠ y) (s:ByteArray):v_nms [⟨#[x]⟩,⟨#[y]⟩,⟨#[]⟩] [] s = match v_opt3 s x.toNat y.toNat with | some (a,b,c) => ([a,b,c],true) | none => ([],false) := by
 have h1:((⟨#[x]⟩ : ByteArray).size == 0) = false := rfl
 rw [v_nms]
 unfold v_opt3
 rw [h1,cond_false]
 rcases v_ct_cut s x with ⟨g1,g2⟩ | ⟨g1,g2⟩
 ·rw [g2]
  generalize v_cut s ⟨#[x]⟩ = cw at g1 ⊢
  obtain ⟨w,rest,f⟩ := cw
  simp only at g1; subst g1
  rfl
 ·rw [g2]
  generalize v_cut s ⟨#[x]⟩ = cw at g1 ⊢
  obtain ⟨w,rest,f⟩ := cw
  simp only at g1; subst g1
  simp only [cond_true]
  cases hw:v_nt w with
  | none =>
   dsimp only
   cases hr:v_ct rest x.toNat with
   | nil => rfl
   | cons q t =>
    cases t with
    | nil => simp only [hw]
    | cons _ _ => rfl
  | some a =>
   dsimp only
   rw [v_nms_two hy]
   cases hr:v_opt2 rest y.toNat with
   | some bc =>
    obtain ⟨b,c⟩ := bc
    rw [v_ct_no (v_opt2_no hr hx hne)]
    simp only [hw,hr]
    rfl
   | none =>
    dsimp only
    cases hr2:v_ct rest x.toNat with
    | nil => rfl
    | cons q t =>
     cases t with
     | nil =>
      obtain ⟨rfl,_⟩ := v_ct_single hr2
      simp only [hw,hr]
     | cons _ _ => rfl
def v_all {α:Type} (f:ByteArray→Option α):List ByteArray→Option (List α)
 | [] => some []
 | s :: r => match f s,v_all f r with
  | some x,some l => some (x :: l)
  | _,_ => none
theorem v_nt_head {s:ByteArray} {n:Int} (h:v_canon s.data.toList = some n):0 < s.size∧((v_six s 0 != 45) = decide (0≤n)) := by
 have hi := v_canon_of h
 have hs := ba_len s
 have hne:s.data.toList ≠ [] := fun e => by rw [e] at h; cases h
 cases hl:s.data.toList with
 | nil => exact absurd hl hne
 | cons b r =>
  rw [hl] at hs
  have h0:0 < s.size := by have:r.length + 1 = s.size := hs; omega
  refine ⟨h0,?_⟩
  have hg := v_six_get h0
  rw [show ((0:Nat):Int) = 0 from rfl] at hg
  rw [hg,hl]
  show (!(((b.toNat:Nat):Int) == 45)) = decide (0≤n)
  rw [u8_of (by decide) (by decide)]
  rw [hl] at hi
  unfold Lib.itoa at hi
  by_cases hn:n < 0
  ·rw [if_pos hn] at hi
   have:b = 45 := (List.cons.inj hi).1
   rw [decide_eq_false (show ¬ 0≤n by omega),decide_eq_true (show b = UInt8.ofNat (45:Int).toNat from this)]; rfl
  ·rw [if_neg hn] at hi
   have hd := v_dig_all n.toNat
   rw [← hi,List.all_cons,Bool.and_eq_true] at hd
   have hb:48≤b.toNat∧b.toNat≤57 := of_decide_eq_true hd.1
   rw [decide_eq_true (show 0≤n by omega),decide_eq_false (show ¬ b = UInt8.ofNat (45:Int).toNat from fun e => by rw [e] at hb; exact absurd hb.1 (by decide))]; rfl
theorem v_nat2_is (s:ByteArray):((v_nbr s 6).1,cond (v_nbr s 6).2 (v_six s 0 != 45) false) = v_nat2 s := by
 unfold v_nat2 v_nt
 unfold v_nbr
 cases h:v_canon s.data.toList with
 | none => rfl
 | some n =>
  obtain ⟨_,h2⟩ := v_nt_head h
  dsimp only
  by_cases hn:0≤n
  ·rw [decide_eq_true hn] at h2
   rw [decide_eq_false (show ¬ n < 0 by omega),cond_false]
   by_cases h6:s.size≤6
   ·rw [decide_eq_true (show (s.size:Int) - 0≤6 by omega),if_pos ⟨hn,h6⟩]
    simp only [cond_true,h2]
   ·rw [decide_eq_false (show ¬ (s.size:Int) - 0≤6 by omega),if_neg (fun e => h6 e.2)]
    rfl
  ·rw [decide_eq_false hn] at h2
   rw [if_neg (fun e => hn e.1)]
   cases decide ((s.size:Int) - cond (decide (n < 0)) 1 0≤6)
   ·rfl
   ·simp only [cond_true,h2]
theorem v_nbr_ok {s:ByteArray} {k:Int} (h:(v_nbr s k).2 = true):0 < s.size := by
 unfold v_nbr at h
 cases e:v_canon s.data.toList with
 | none => rw [e] at h; cases h
 | some n => exact (v_nt_head e).1
theorem v_nat2_none {s:ByteArray} (h:v_nt s = none):(v_nat2 s).2 = false := by unfold v_nat2; rw [h]
theorem v_nat2_some {s:ByteArray} {n:Int} (h:v_nt s = some n):v_nat2 s = (n,true) := by unfold v_nat2; rw [h]
def v_pr2 (s:ByteArray) (b:Int):Int×(Int×Bool) := match v_ct s b with
 | [p,q] => ((v_nat2 p).1,((v_nat2 q).1,cond (v_nat2 p).2 (v_nat2 q).2 false))
 | _ => (0,(0,false))
theorem v_pr2_none {s:ByteArray} {b:Int} (h:v_opt2 s b = none):(v_pr2 s b).2.2 = false := by
 unfold v_opt2 at h
 unfold v_pr2
 split at h
 ·rename_i p q hpq
  dsimp only
  cases hp:v_nt p with
  | none => rw [v_nat2_none hp]; rfl
  | some x =>
   cases hq:v_nt q with
   | none => rw [v_nat2_none hq]; cases (v_nat2 p).2 <;> rfl
   | some y => rw [hp,hq] at h; cases h
 ·rfl
theorem v_pr2_some {s:ByteArray} {b x y:Int} (h:v_opt2 s b = some (x,y)):v_pr2 s b = (x,(y,true)) := by
 unfold v_opt2 at h
 unfold v_pr2
 split at h
 ·rename_i p q hpq
  cases hp:v_nt p with
  | none => rw [hp] at h; cases h
  | some x' =>
   cases hq:v_nt q with
   | none => rw [hp,hq] at h; cases h
   | some y' =>
    rw [hp,hq] at h
    simp only [sJ,pJ] at h
    rw [v_nat2_some hp,v_nat2_some hq,← h.1,← h.2]; rfl
 ·cases h
theorem v_ct_two {s:ByteArray} {b:Int}:(¬ (v_ct s b).length = 2∧∀ p q,v_ct s b ≠ [p,q]) ∨ ∃ p q,v_ct s b = [p,q] := by
 match h:v_ct s b with
 | [] => exact .inl ⟨by simp,by simp⟩
 | [p] => exact .inl ⟨by simp,by simp⟩
 | [p,q] => exact .inr ⟨p,q,rfl⟩
 | p :: q :: r :: t => exact .inl ⟨by simp,by simp⟩
end Go.Mx
namespace Go.Mx
open Go
theorem v_dig_len:∀ (k n:Nat),1≤k→n < 10 ^ k→(Lib.decDigits n).length≤k
 | 0,_,h,_ => by omega
 | k + 1,n,_,h => by
  rw [Lib.decDigits]
  split
  ·simp
  ·rename_i h10
   rcases Nat.eq_zero_or_pos k with rfl | hk
   ·simp at h; omega
   ·rw [List.length_append]
    have := v_dig_len k (n / 10) hk (by rw [Nat.pow_succ] at h; omega)
    simp; omega
theorem v_itoa_len {n:Int} (h1 : -9223372036854775808≤n) (h2:n≤9223372036854775807):(v_itoa n).size≤20 := by
 rw [← ba_len]
 show (Lib.itoa n).length≤20
 unfold Lib.itoa
 split
 ·have := v_dig_len 19 n.natAbs (by decide) (by omega)
  simp; omega
 ·have := v_dig_len 19 n.toNat (by decide) (by omega)
  omega
def v_in64 (n:Int):Prop := -9223372036854775808≤n∧n≤9223372036854775807
theorem v_itoa_len' {n:Int} (h:v_in64 n):(v_itoa n).size≤20 := v_itoa_len h.1 h.2
def v_fmt {α:Type} (w:α→ByteArray) (l:List α):ByteArray := v_join (l.map w) ⟨#[32]⟩
theorem v_join_size (c:Nat) (b:UInt8):∀ xs:List ByteArray,(∀ x∈xs,x.size≤c)→(v_join xs ⟨#[b]⟩).size≤xs.length * (c + 1) := by
 intro xs h
 rw [← ba_len]
 show (Lib.join (xs.map (·.data.toList)) [b]).length≤_
 rw [join_jn]
 induction xs with
 | nil => simp [v_jn]
 | cons x r ih =>
  have hx := h x (by simp)
  have ih := ih (fun y hy => h y (by simp [hy]))
  cases r with
  | nil => simp only [List.map_cons,List.map_nil,v_jn,List.length_cons,List.length_nil]; rw [ba_len]; omega
  | cons y r =>
   simp only [List.map_cons,v_jn,List.length_append,List.length_cons] at ih ⊢
   rw [ba_len,Nat.add_mul (r.length + 1) 1,Nat.one_mul]
   omega
theorem v_fmt_snoc {α:Type} (w:α→ByteArray) (l:List α) (x:α):v_fmt w (l ++ [x]) = cond (decide (l = [])) (w x) (v_scat (v_scat (v_fmt w l) ⟨#[32]⟩) (w x)) := by
 cases l with
 | nil =>
  refine ba_ext ?_
  show Lib.join [(w x).data.toList] [32] = _
  rw [Lib.join_one]; rfl
 | cons y r =>
  rw [decide_eq_false (by simp),cond_false]
  refine ba_ext ?_
  rw [v_scat_list,v_scat_list]
  show Lib.join (((y :: r ++ [x]).map w).map (·.data.toList)) [32] = Lib.join (((y :: r).map w).map (·.data.toList)) [32] ++ [32] ++ (w x).data.toList
  rw [List.cons_append,List.map_cons,List.map_cons,List.map_cons,List.map_cons,Lib.join_cons,Lib.join_cons]
  unfold Lib.joinTail
  simp [List.append_assoc]
theorem fmt_is {α:Type} {l:List α} (d:α) (w:α→ByteArray) {dd:ByteArray} {st:Int×ByteArray→(Int×ByteArray) ⊕ ByteArray} {sp:Int×ByteArray→List Prop} (hl:l.length≤1000) (hw:∀ x∈l,(w x).size≤100)
  (hst:∀ y,st y = cond (decide (y.1 < (l.length:Int))) (cond (decide (y.1 > 0)) (.inl (IntKind.i64.wrap (y.1 + 1),v_scat (v_scat y.2 ⟨#[32]⟩) (w (l.getD y.1.toNat d)))) (.inl (IntKind.i64.wrap (y.1 + 1),v_scat y.2 (w (l.getD y.1.toNat d))))) (.inr y.2))
  (hsp:∀ (j:Nat) (o:ByteArray),j≤l.length→o.size≤1000000→(j < l.length→l.getD j d∈l)→∀ q∈sp ((j:Int),o),q):OkL st sp (0,⟨#[]⟩)∧lpv dd st (0,⟨#[]⟩) = v_fmt w l := by
 have hsz:∀ j,j≤l.length→(v_fmt w (l.take j)).size≤101000 := fun j hj => by
  have := v_join_size 100 32 ((l.take j).map w) (fun x hx => by
   obtain ⟨y,hy,rfl⟩ := List.mem_map.1 hx
   exact hw y (List.mem_of_mem_take hy))
  have hlen:((l.take j).map w).length≤1000 := by simp; omega
  unfold v_fmt
  omega
 have h := for_is (dd := dd) (st := st) (sp := sp) (fun i (t:ByteArray) => (i,t)) 0 l.length
  (fun j t => t = v_fmt w (l.take j)) (fun _ _ => v_fmt w l) (Nat.zero_le _) (by omega) (fun t ht => ?_) (fun j t _ hj ht => ?_) ⟨#[]⟩ rfl
 ·exact h
 ·subst ht
  refine ⟨hsp _ _ (Nat.le_refl _) (by have := hsz l.length (Nat.le_refl _); omega) (fun h => absurd h (Nat.lt_irrefl _)),?_⟩
  rw [hst,decide_eq_false (show ¬ (((l.length:Nat):Int) < l.length) by omega),List.take_length]
  rfl
 ·subst ht
  have hmem := getD_mem' d hj
  refine ⟨hsp _ _ (Nat.le_of_lt hj) (by have := hsz j (Nat.le_of_lt hj); omega) (fun _ => hmem),.inl ?_⟩
  rw [hst,decide_eq_true (show ((j:Nat):Int) < l.length by omega)]
  simp only [cond_true,Int.toNat_natCast]
  rw [wrap_nat (show (j:Int)≤9223372036854775806 by omega)]
  have htake:l.take (j + 1) = l.take j ++ [l.getD j d] := by
   rw [List.take_add_one,List.getElem?_eq_getElem hj,List.getD_eq_getElem?_getD,List.getElem?_eq_getElem hj]; rfl
  have hsn := v_fmt_snoc w (l.take j) (l.getD j d)
  rw [← htake] at hsn
  by_cases h0:j = 0
  ·subst h0
   rw [decide_eq_false (show ¬ (((0:Nat):Int) > 0) by omega)]
   refine ⟨_,rfl,?_,trivial⟩
   rw [hsn,List.take_zero,decide_eq_true rfl,cond_true]
   exact v_scat_nil _
  ·rw [decide_eq_true (show ((j:Nat):Int) > 0 by omega)]
   refine ⟨_,rfl,?_,trivial⟩
   rw [hsn,decide_eq_false (show ¬ l.take j = [] from fun e => by
    have h2:(l.take j).length = 0 := by rw [e]; rfl
    rw [List.length_take] at h2; omega)]
   rfl
theorem join_is {α:Type} {l:List α} (d:α) (w:α→ByteArray) {dd:ByteArray} {st:Int×List ByteArray→(Int×List ByteArray) ⊕ ByteArray} {sp:Int×List ByteArray→List Prop} (hl:l.length≤1000) (hw:∀ x∈l,(w x).size≤100)
  (hst:∀ y,st y = cond (decide (y.1 < (l.length:Int))) (.inl (IntKind.i64.wrap (y.1 + 1),y.2 ++ [w (l.getD y.1.toNat d)])) (.inr (v_join y.2 ⟨#[32]⟩)))
  (hsp:∀ (j:Nat) (o:List ByteArray),j≤l.length→o.length≤1000→(v_join o ⟨#[32]⟩).size≤1000000→(j < l.length→l.getD j d∈l)→∀ q∈sp ((j:Int),o),q):OkL st sp (0,[])∧lpv dd st (0,[]) = v_fmt w l := by
 have hsz:∀ j,j≤l.length→(v_join ((l.take j).map w) ⟨#[32]⟩).size≤101000∧((l.take j).map w).length≤1000 := fun j hj => by
  have := v_join_size 100 32 ((l.take j).map w) (fun x hx => by
   obtain ⟨y,hy,rfl⟩ := List.mem_map.1 hx
   exact hw y (List.mem_of_mem_take hy))
  have hlen:((l.take j).map w).length≤1000 := by simp; omega
  omega
 have h := for_is (dd := dd) (st := st) (sp := sp) (fun i (t:List ByteArray) => (i,t)) 0 l.length
  (fun j t => t = (l.take j).map w) (fun _ _ => v_fmt w l) (Nat.zero_le _) (by omega) (fun t ht => ?_) (fun j t _ hj ht => ?_) [] rfl
 ·exact h
 ·subst ht
  have hz := hsz l.length (Nat.le_refl _)
  refine ⟨hsp _ _ (Nat.le_refl _) hz.2 (by omega) (fun h => absurd h (Nat.lt_irrefl _)),?_⟩
  rw [hst,decide_eq_false (show ¬ (((l.length:Nat):Int) < l.length) by omega),List.take_length]
  rfl
 ·subst ht
  have hmem := getD_mem' d hj
  have hz := hsz j (Nat.le_of_lt hj)
  refine ⟨hsp _ _ (Nat.le_of_lt hj) hz.2 (by omega) (fun _ => hmem),.inl ?_⟩
  rw [hst,decide_eq_true (show ((j:Nat):Int) < l.length by omega)]
  simp only [cond_true,Int.toNat_natCast]
  rw [wrap_nat (show (j:Int)≤9223372036854775806 by omega)]
  have htake:l.take (j + 1) = l.take j ++ [l.getD j d] := by
   rw [List.take_add_one,List.getElem?_eq_getElem hj,List.getD_eq_getElem?_getD,List.getElem?_eq_getElem hj]; rfl
  refine ⟨_,rfl,?_,trivial⟩
  rw [htake,List.map_append]; rfl
def v_fmok (l:List (Int×Int)):Prop := ∀ x∈l,v_in64 x.1∧v_in64 x.2
def v_fdok (l:List (Int×Int×Int)):Prop := ∀ x∈l,v_in64 x.1∧v_in64 x.2.1∧v_in64 x.2.2
def v_fwx (x:Int×Int):ByteArray := v_scat (v_scat (v_itoa x.1) ⟨#[120]⟩) (v_itoa x.2)
def v_fwd (x:Int×Int×Int):ByteArray := v_scat (v_scat (v_scat (v_scat (v_itoa x.1) ⟨#[58]⟩) (v_itoa x.2.1)) ⟨#[44]⟩) (v_itoa x.2.2)
theorem v_fwx_size {x:Int×Int} (h1:v_in64 x.1) (h2:v_in64 x.2):(v_fwx x).size≤100 := by
 have a := v_itoa_len' h1
 have b := v_itoa_len' h2
 have c:(⟨#[120]⟩ : ByteArray).size = 1 := rfl
 unfold v_fwx; rw [v_scat_size,v_scat_size]; omega
theorem v_fwd_size {x:Int×Int×Int} (h1:v_in64 x.1) (h2:v_in64 x.2.1) (h3:v_in64 x.2.2):(v_fwd x).size≤100 := by
 have a := v_itoa_len' h1
 have b := v_itoa_len' h2
 have e := v_itoa_len' h3
 have c:(⟨#[58]⟩ : ByteArray).size = 1 := rfl
 have d:(⟨#[44]⟩ : ByteArray).size = 1 := rfl
 unfold v_fwd; rw [v_scat_size,v_scat_size,v_scat_size,v_scat_size]; omega
def v_prsl {α:Type} (f:ByteArray→Option α) (e:List α→Int) (l:List ByteArray):List α×Int := match v_all f l with
 | none => ([],7)
 | some l => cond (e l != 0) ([],e l) (l,0)
def v_prs {α:Type} (f:ByteArray→Option α) (e:List α→Int) (s:ByteArray):List α×Int := cond (decide ((s.size:Int) > 60000)) ([],8) (v_prsl f e (v_ct s 32))
def v_prsa {α:Type} (f:ByteArray→Option α) (e:List α→Int) (l:List ByteArray) (o:List α):List α×Int := match v_all f l with
 | none => ([],7)
 | some l => cond (e (o ++ l) != 0) ([],e (o ++ l)) (o ++ l,0)
theorem v_prsa_nil {α:Type} (f:ByteArray→Option α) (e:List α→Int) (o:List α):v_prsa f e [] o = cond (e o != 0) ([],e o) (o,0) := by
 unfold v_prsa v_all
 simp only [List.append_nil]
theorem v_prsa_cons {α:Type} (f:ByteArray→Option α) (e:List α→Int) (z:ByteArray) (r:List ByteArray) (o:List α):v_prsa f e (z :: r) o = match f z with | some x => v_prsa f e r (o ++ [x]) | none => ([],7) := by
 unfold v_prsa
 rw [v_all]
 cases f z with
 | none => rfl
 | some x =>
  cases v_all f r with
  | none => rfl
  | some l => simp only [List.append_assoc]; rfl
theorem prs_rng {α:Type} {f:ByteArray→Option α} {e:List α→Int} {st:List α→ByteArray→List α ⊕ (List α×Int)} {sp:List α→ByteArray→List Prop} {fin:List α→List α×Int} {fp:List α→List Prop}
  (hst:∀ y z,st y z = match f z with | some x => .inl (y ++ [x]) | none => .inr ([],7)) (hfin:∀ y,fin y = cond (e y != 0) ([],e y) (y,0))
  (hsp:∀ y z,y.length≤70000→z.size≤60000→∀ q∈sp y z,q) (hfp:∀ y,∀ q∈fp y,q) (l:List ByteArray) (hl:l.length≤70000) (hz:∀ z∈l,z.size≤60000):OkR st sp fp l []∧rngV st fin l [] = v_prsl f e l := by
 refine rng_is (fun r y => y.length + r.length≤70000∧∀ z∈r,z.size≤60000) (fun r y => v_prsa f e r y) (fun y _ => ⟨hfp y,by rw [v_prsa_nil]; exact hfin y⟩) (fun z r y hI => ?_) l [] ⟨by simpa using hl,hz⟩
 obtain ⟨h1,h2⟩ := hI
 have h3:y.length≤70000 := by omega
 refine ⟨hsp y z h3 (h2 z (by simp)),?_⟩
 rw [hst,v_prsa_cons]
 cases f z with
 | none => rfl
 | some x => exact ⟨⟨by simp at h1 ⊢; omega,fun z hz => h2 z (by simp [hz])⟩,rfl⟩
theorem prs_lp {α:Type} {f:ByteArray→Option α} {e:List α→Int} {l:List ByteArray} {dd:List α×Int} {st:Int×List α→(Int×List α) ⊕ (List α×Int)} {sp:Int×List α→List Prop}
  (hst:∀ y,st y = cond (decide (y.1 < (l.length:Int))) (match f (l.getD y.1.toNat ⟨#[]⟩) with | some x => .inl (IntKind.i64.wrap (y.1 + 1),y.2 ++ [x]) | none => .inr ([],7)) (cond (e y.2 != 0) (.inr ([],e y.2)) (.inr (y.2,0))))
  (hsp:∀ (j:Nat) (o:List α),j≤l.length→o.length≤70000→(l.getD j ⟨#[]⟩).size≤60000→∀ q∈sp ((j:Int),o),q) (hl:l.length≤70000) (hz:∀ z∈l,z.size≤60000):OkL st sp (0,[])∧lpv dd st (0,[]) = v_prsl f e l := by
 have hgz:∀ j,(l.getD j ⟨#[]⟩).size≤60000 := fun j => by
  rcases Nat.lt_or_ge j l.length with h | h
  ·exact hz _ (getD_mem' _ h)
  ·rw [List.getD_eq_getElem?_getD,List.getElem?_eq_none h]; exact Nat.zero_le _
 have h := list_is (dd := dd) (st := st) (sp := sp) (fun i (t:List α) => (i,t)) l (⟨#[]⟩ : ByteArray) (fun r t => t.length + r.length≤70000) (fun r t => v_prsa f e r t) (lenOk_le hl (by decide)) (fun t ht => ?_) (fun j t hj ht => ?_) [] (by simpa using hl)
 ·exact h
 ·refine ⟨hsp _ _ (Nat.le_refl _) (by simpa using ht) (hgz _),?_⟩
  rw [hst,decide_eq_false (Int.lt_irrefl _),cond_false,v_prsa_nil]
  cases (e t != 0) <;> rfl
 ·refine ⟨hsp _ _ (Nat.le_of_lt hj) (by simp at ht; omega) (hgz _),?_⟩
  rw [hst,decide_eq_true (show ((j:Nat):Int) < l.length by omega),cond_true,Int.toNat_natCast,v_prsa_cons]
  dsimp only
  cases hf:f (l.getD j ⟨#[]⟩) with
  | none => exact .inr rfl
  | some x =>
   left
   rw [wrap_nat (show (j:Int)≤9223372036854775806 by omega)]
   exact ⟨_,rfl,by simp at ht ⊢; omega,rfl⟩
theorem v_all_len {α:Type} {f:ByteArray→Option α}:∀ {l:List ByteArray} {r:List α},v_all f l = some r→r.length = l.length
 | [],r,h => by simp only [v_all,sJ] at h; subst h; rfl
 | s :: l,r,h => by
  rw [v_all] at h
  cases h1:f s with
  | none => rw [h1] at h; cases h
  | some x =>
   cases h2:v_all f l with
   | none => rw [h1,h2] at h; cases h
   | some q =>
    rw [h1,h2] at h
    simp only [sJ] at h
    subst h
    simp [v_all_len h2]
theorem v_prs_len {α:Type} (f:ByteArray→Option α) (e:List α→Int) (s:ByteArray):lenOk (v_prs f e s).1 := by
 have:(v_prs f e s).1.length≤60001 := by
  unfold v_prs
  by_cases h:(s.size:Int) > 60000
  ·rw [decide_eq_true h]; exact Nat.zero_le _
  ·rw [decide_eq_false h,cond_false]
   unfold v_prsl
   cases hv:v_all f (v_ct s 32) with
   | none => exact Nat.zero_le _
   | some l =>
    have h1 := v_all_len hv
    have h2 := v_ct_len s 32
    dsimp only
    cases (e l != 0)
    ·show l.length≤_; omega
    ·exact Nat.zero_le _
 unfold lenOk; omega
theorem v_all_map {α:Type} {f:ByteArray→Option α} {w:α→ByteArray}:∀ {l:List α},(∀ x∈l,f (w x) = some x)→v_all f (l.map w) = some l
 | [],_ => rfl
 | x :: l,h => by
  rw [List.map_cons,v_all,h x (by simp),v_all_map (fun y hy => h y (by simp [hy]))]
theorem v_ct_fmt {α:Type} {w:α→ByteArray} {l:List α} (hne:l ≠ []) (h:∀ x∈l,(32:UInt8) ∉ (w x).data.toList):v_ct (v_fmt w l) 32 = l.map w := by
 unfold v_ct v_fmt
 show (v_spb 32 (Lib.join ((l.map w).map (·.data.toList)) [32])).map _ = _
 rw [join_jn,v_spb_jn (by simpa using hne) (fun p hp => by
  simp only [List.map_map,List.mem_map,Function.comp] at hp
  obtain ⟨x,hx,rfl⟩ := hp
  exact h x hx),List.map_map,List.map_map]
 exact List.map_congr_left fun x _ => rfl
theorem v_prs_fmt {α:Type} {f:ByteArray→Option α} {e:List α→Int} {w:α→ByteArray} {l:List α} (hne:l ≠ []) (hl:l.length≤100) (hw:∀ x∈l,(w x).size≤100) (h:∀ x∈l,(32:UInt8) ∉ (w x).data.toList) (hf:∀ x∈l,f (w x) = some x) (he:e l = 0):v_prs f e (v_fmt w l) = (l,0) := by
 have hsz := v_join_size 100 32 (l.map w) (fun x hx => by
  obtain ⟨y,hy,rfl⟩ := List.mem_map.1 hx
  exact hw y hy)
 rw [List.length_map] at hsz
 have hs:(v_fmt w l).size≤60000 := by
  show (v_join (l.map w) ⟨#[32]⟩).size≤_
  omega
 unfold v_prs v_prsl
 rw [decide_eq_false (show ¬ ((v_fmt w l).size:Int) > 60000 by omega),cond_false,v_ct_fmt hne h,v_all_map hf]
 dsimp only
 rw [he]; rfl
theorem v_nt_itoa {n:Int} (h0:0≤n) (h1:n≤999999):v_nt (v_itoa n) = some n := by
 refine v_nt_iff.2 ⟨rfl,h0,?_⟩
 rw [← ba_len]
 show (Lib.itoa n).length≤6
 unfold Lib.itoa
 rw [if_neg (by omega)]
 exact v_dig_len 6 n.toNat (by decide) (by omega)
theorem v_itoa_no {n:Int} (h0:0≤n) {b:UInt8} (hb:v_dgt b = false):b ∉ (v_itoa n).data.toList := fun hm => by
 have hm:b∈Lib.itoa n := hm
 unfold Lib.itoa at hm
 rw [if_neg (by omega)] at hm
 have := List.all_eq_true.1 (v_dig_all _) b hm
 rw [hb] at this; cases this
theorem v_ct_mid {p q:ByteArray} {b:UInt8} (hp:b ∉ p.data.toList) (hq:b ∉ q.data.toList):v_ct (v_scat (v_scat p ⟨#[b]⟩) q) b.toNat = [p,q] := by
 unfold v_ct
 rw [show UInt8.ofNat ((b.toNat:Int)).toNat = b by simp,v_scat_list,v_scat_list]
 rw [show p.data.toList ++ (⟨#[b]⟩ : ByteArray).data.toList ++ q.data.toList = p.data.toList ++ b :: q.data.toList by rw [List.append_assoc]; rfl,v_spb_app hp,v_spb_no hq]
 rfl
theorem v_opt2_mid {x y:Int} {b:UInt8} (hb:v_dgt b = false) (hx:0≤x∧x≤999999) (hy:0≤y∧y≤999999):v_opt2 (v_scat (v_scat (v_itoa x) ⟨#[b]⟩) (v_itoa y)) b.toNat = some (x,y) := by
 unfold v_opt2
 rw [v_ct_mid (v_itoa_no hx.1 hb) (v_itoa_no hy.1 hb)]
 simp only [v_nt_itoa hx.1 hx.2,v_nt_itoa hy.1 hy.2]
theorem v_fwx_opt {x:Int×Int} (h1:0≤x.1∧x.1≤999999) (h2:0≤x.2∧x.2≤999999):v_opt2 (v_fwx x) 120 = some x := v_opt2_mid (b := 120) rfl h1 h2
theorem v_fwd_opt {x:Int×Int×Int} (h1:0≤x.1∧x.1≤999999) (h2:0≤x.2.1∧x.2.1≤999999) (h3:0≤x.2.2∧x.2.2≤999999):v_opt3 (v_fwd x) 58 44 = some x := by
 have hq:(58:UInt8) ∉ (v_scat (v_scat (v_itoa x.2.1) ⟨#[44]⟩) (v_itoa x.2.2)).data.toList := by
  rw [v_scat_list,v_scat_list]
  simp only [List.mem_append,not_or]
  exact ⟨⟨v_itoa_no h2.1 rfl,by decide⟩,v_itoa_no h3.1 rfl⟩
 have hc:v_ct (v_fwd x) 58 = [v_itoa x.1,v_scat (v_scat (v_itoa x.2.1) ⟨#[44]⟩) (v_itoa x.2.2)] := by
  have := v_ct_mid (b := 58) (v_itoa_no h1.1 rfl) hq
  unfold v_fwd
  simp only [v_scat_assoc] at this ⊢
  exact this
 unfold v_opt3
 rw [hc]
 simp only [v_nt_itoa h1.1 h1.2]
 have := v_opt2_mid (b := 44) rfl h2 h3
 rw [show (((44:UInt8).toNat:Nat):Int) = 44 from rfl] at this
 rw [this]
theorem v_fwx_no {x:Int×Int} (h1:0≤x.1) (h2:0≤x.2):(32:UInt8) ∉ (v_fwx x).data.toList := by
 unfold v_fwx
 rw [v_scat_list,v_scat_list]
 simp only [List.mem_append,not_or]
 exact ⟨⟨v_itoa_no h1 rfl,by decide⟩,v_itoa_no h2 rfl⟩
theorem v_fwd_no {x:Int×Int×Int} (h1:0≤x.1) (h2:0≤x.2.1) (h3:0≤x.2.2):(32:UInt8) ∉ (v_fwd x).data.toList := by
 unfold v_fwd
 rw [v_scat_list,v_scat_list,v_scat_list,v_scat_list]
 simp only [List.mem_append,not_or]
 exact ⟨⟨⟨⟨v_itoa_no h1 rfl,by decide⟩,v_itoa_no h2 rfl⟩,by decide⟩,v_itoa_no h3 rfl⟩
end Go.Mx
