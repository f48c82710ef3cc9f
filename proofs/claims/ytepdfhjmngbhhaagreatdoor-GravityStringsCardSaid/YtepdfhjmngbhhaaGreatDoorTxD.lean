/- Layers of the walk: abstract values, operations, calls, loops, and what they do. No condition. -/
import Derived.Test.YtepdfhjmngbhhaaGreatDoorTxC
namespace Go.Mx
variable [Laid]

def isC:Opd→Bool
 | .c _ => true
 | .t _ => false
def idxP (c:Bool) (n len:Int):Option (List Prop) := match c with
 | true => if 0≤n then some [n < len] else none
 | false => some [0≤n,n < len]

def unP (g:Nat) (bc want:Bool):TV→Option (List Prop×TV)
 | .opt g' b w v => if g' = g∧w = want then some ([b = bc],v) else none
 | v => some ([],v)
def pickT (bc:Bool):TV→TV→Option TV
 | .b p,.b q => some (.b (cond bc p q))
 | .i k p,.i k' q => if k = k' then some (.i k (cond bc p q)) else none
 | .sl t p,.sl t' q => match castL t' t q with
  | some q => some (.sl t (cond bc p q))
  | none => none
 | _,_ => none

def binT (op:BinOp) (k:IntKind) (cst:Bool) (a b:Int):Option (List Prop×TV) :=
 match op with
 | .add => some ([],.i k (k.wrap (a + b)))
 | .sub => some ([],.i k (k.wrap (a - b)))
 | .mul => some ([],.i k (k.wrap (a * b)))
 | .and => some ([],.i k (v_and k a b))
 | .or => some ([],.i k (v_or k a b))
 | .xor => some ([],.i k (v_xor k a b))
 | .andNot => some ([],.i k (v_andn k a b))
 | .quo => match cst with
  | true => if b = 0 then none else some ([],.i k (k.wrap (a.tdiv b)))
  | false => some ([b ≠ 0],.i k (k.wrap (a.tdiv b)))
 | .rem => match cst with
  | true => if b = 0 then none else some ([],.i k (a.tmod b))
  | false => some ([b ≠ 0],.i k (a.tmod b))
 | .eql => some ([],.b (a == b))
 | .neq => some ([],.b (a != b))
 | .lss => some ([],.b (decide (a < b)))
 | .leq => some ([],.b (decide (a≤b)))
 | .gtr => some ([],.b (decide (a > b)))
 | .geq => some ([],.b (decide (a ≥ b)))
 | _ => none

def eqT1:Bool→TV→TV→Option Bool
 | true,.i k a,.i k' b => if k = k' then some (a == b) else none
 | false,.b a,.b b => some (a == b)
 | _,_,_ => none
def eqTs (xs ys:List TV):List (Bool×Nat)→Option Bool
 | [] => some true
 | (i,o) :: r => match xs[o]?,ys[o]? with
  | some x,some y => match eqT1 i x y,eqTs xs ys r with
   | some a,some b => some (a && b)
   | _,_ => none
  | _,_ => none

def idxT (cs:List TV) (k len:Nat) (n:Int) (o:Nat):Option TV := match optAll (fun a => cs[a * k + o]?) (List.range len) with
 | some l => selT l n
 | none => none

def boundT (rd:Opd→TV):Option Opd→Option (Option Int)
 | none => some none
 | some x => match rd x with
  | .i _ n => some (some n)
  | _ => none

def slT (l:Option Int) (h:Option Int) (len:Int):List Prop := match l,h with
 | none,none => []
 | some l,none => [0≤l,l≤len]
 | none,some h => [0≤h,h≤len]
 | some l,some h => [0≤l,l≤h,h≤len]
def slL {α:Type} (l:Option Int) (h:Option Int) (x:List α):List α := match l,h with
 | none,none => x
 | some l,none => x.drop l.toNat
 | none,some h => x.take h.toNat
 | some l,some h => (x.drop l.toNat).take (h.toNat - l.toNat)

def plainT:TV→Bool
 | .i _ _ => true
 | .b _ => true
 | _ => false
def isNo:TV→Bool
 | .no => true
 | _ => false
def sigC:TV→Option (Sigma Ty.den)
 | .i k n => some ⟨.int k,n⟩
 | .b x => some ⟨.bool,x⟩
 | .s x => some ⟨.str,x⟩
 | .sl t l => some ⟨.sl t,l⟩
 | _ => none
def sigCs:List TV→Option (Sigma Ty.den)
 | [] => some ⟨.un,()⟩
 | [c] => sigC c
 | c :: r => match sigC c,sigCs r with
  | some a,some b => some ⟨.pr a.1 b.1,(a.2,b.2)⟩
  | _,_ => none
def v_scat (s r:ByteArray):ByteArray := s ++ r
def v_ssub (s:ByteArray) (l h:Int):ByteArray := s.extract l.toNat h.toNat
def v_sof (l:List Int):ByteArray := ⟨(l.map fun n => UInt8.ofNat n.toNat).toArray⟩
def v_bts (l:List Int):Prop := ∀ n∈l,0≤n∧n < 256
def v_six (s:ByteArray) (n:Int):Int := (((s[n.toNat]?).map UInt8.toNat).getD 0:Nat)

def mkSl:(t:Ty)→List t.den→TV
 | .str,l => .fs .str l
 | t,l => .sl t l
omit [Laid] in
theorem mkSl_ok {t:Ty} {l:List t.den} {k:Nat} {es:List (List Pv)} (hk:es = [] ∨ k = t.n) (h:LeLL es (List.map t.enc l)):PT (mkSl t l) (.sl k es true) := by
 cases t with
 | str => exact ⟨_,rfl,.sl' hk (fun e => e) h⟩
 | _ => exact ⟨_,rfl,.sl' hk (fun e => by cases e) h⟩


def tpure (A:Nat→Ty) (look:Nat→TC) (raw:Opd→TV):AOp→Option (List Prop×TV)
 | .mv x => some ([],unoptA (raw x))
 | .pick (.t g) x y => match unopt (raw (.t g)) with
  | .b bc => match isNo (raw x),isNo (raw y) with
   | true,_ => match unP g bc false (raw y) with
    | some (p2,Y) => match plainT Y with
     | true => some ((bc = false) :: p2,Y)
     | false => match pickT bc Y Y with
      | some v => some ((bc = false) :: p2,v)
      | none => none
    | none => none
   | false,true => match unP g bc true (raw x) with
    | some (p1,X) => match pickT bc X X with
     | some v => some ((bc = true) :: p1,v)
     | none => none
    | none => none
   | false,false => match unP g bc true (raw x),unP g bc false (raw y) with
    | some (p1,X),some (p2,Y) => match pickT bc X Y with
     | some v => some (p1 ++ p2,v)
     | none => none
    | _,_ => none
  | _ => none
 | .build z parts => match fillT (z.map ofC1) (parts.map fun p => (p.1,p.2.1,unopt (raw p.2.2))) with
  | some cs => some ([],.agg cs)
  | none => none
 | .bsl false s k n z parts => match fillT (z.map ofC1) (parts.map fun p => (p.1,p.2.1,unopt (raw p.2.2))) with
  | some cs => if (A s).n = k∧cs.length = n * k then match impN (A s) n cs with
   | some l => some ([],mkSl (A s) l)
   | none => none
   else none
  | none => none
 | .ld1 x => match loadT look none (unopt (raw x)) with
  | some v => some ([],v)
  | none => none
 | .ldn n x => match loadT look (some n) (unopt (raw x)) with
  | some v => some ([],v)
  | none => none
 | .bin op x y => match unopt (raw x),unopt (raw y) with
  | .i k a,.i k' b => if k = k' then binT op k (isC y) a b else none
  | _,_ => none
 | .eqa neg n offs x y => match unopt (raw x),unopt (raw y) with
  | .agg xs,.agg ys => if xs.length = n∧ys.length = n then match eqTs xs ys offs with
   | some b => some ([],.b (match neg with | true => !b | false => b))
   | none => none
   else none
  | _,_ => none
 | .eqb neg x y => match unopt (raw x),unopt (raw y) with
  | .b a,.b b => some ([],.b (match neg with | true => !(a == b) | false => a == b))
  | _,_ => none
 | .unot x => match unopt (raw x) with
  | .b b => some ([],.b !b)
  | _ => none
 | .uneg x => match unopt (raw x) with
  | .i k n => some ([],.i k (k.wrap (0 - n)))
  | _ => none
 | .conv k x => match unopt (raw x) with
  | .i _ n => some ([],.i k (k.wrap n))
  | _ => none
 | .fa off x => match unopt (raw x) with
  | .ptr s o ds => some ([],.ptr s (o + off) ds)
  | .pd s t i j => some ([],.pd s t i (j + off))
  | .ipt cs => some ([],.ipt (cs.drop off))
  | _ => none
 | .ia k x i => match unopt (raw i) with
  | .i _ n => match unopt (raw x) with
   | .sl t l => if t.n = k then match idxP (isC i) n l.length with
    | some ps => some (ps,.ipt (explode t (l.getD n.toNat t.dflt)))
    | none => none
    else none
   | .own s t => if t.n = k then match look s with
    | .dyn _ _ l => match idxP (isC i) n l.length with
     | some ps => some (ps,.pd s t n 0)
     | none => none
    | _ => none
    else none
   | .vc s o len k' => if k' = k then match isC i with
    | true => if 0≤n∧n < (len:Int) then some ([],.ptr s (o + n.toNat * k) []) else none
    | false => some ([0≤n,n < (len:Int)],.ptr s o [(n,k,len)])
    else none
   | _ => none
  | _ => none
 | .iaa k len x i => match unopt (raw i) with
  | .i _ n => match unopt (raw x) with
   | .ptr s o ds => match isC i with
    | true => if 0≤n∧n < (len:Int) then some ([],.ptr s (o + n.toNat * k) ds) else none
    | false => some ([0≤n,n < (len:Int)],.ptr s o ((n,k,len) :: ds))
   | .pd s t a j => match isC i with
    | true => if 0≤n∧n < (len:Int) then some ([],.pd s t a (j + n.toNat * k)) else none
    | false => none
   | .ipt cs => match isC i with
    | true => if 0≤n∧n < (len:Int) then some ([],.ipt (cs.drop (n.toNat * k))) else none
    | false => match optAll (idxT cs k len n) (List.range k) with
     | some l => some ([0≤n,n < (len:Int)],.ipt l)
     | none => none
   | _ => none
  | _ => none
 | .prt off n x => match unopt (raw x) with
  | .agg cs => match loadT.part?T cs off n with
   | some v => some ([],v)
   | none => none
  | _ => none
 | .idx k len agg x i => match unopt (raw x),unopt (raw i) with
  | .agg cs,.i _ n => match isC i with
   | true => if 0≤n∧n < (len:Int) then match loadT.part?T cs (n.toNat * k) (match agg with | true => some k | false => none) with
    | some v => some ([],v)
    | none => none
    else none
   | false => match agg with
    | true => if len * k≤cs.length then match optAll (idxT cs k len n) (List.range k) with
     | some l => some ([0≤n,n < (len:Int)],.agg l)
     | none => none
     else none
    | false => match idxT cs k len n 0 with
     | some v => some ([0≤n,n < (len:Int)],v)
     | none => none
  | _,_ => none
 | .ext i x => match unopt (raw x) with
  | .tup vs => match vs[i]? with
   | some v => some ([],v)
   | none => none
  | _ => none
 | .len false x => match unopt (raw x) with
  | .sl _ l => some ([],.i .i64 l.length)
  | .nil => some ([],.i .i64 0)
  | .own s _ => match look s with
   | .dyn _ _ l => some ([],.i .i64 l.length)
   | _ => none
  | .vc _ _ n _ => some ([],.i .i64 n)
  | .vd _ _ _ n => some ([],.i .i64 n)
  | _ => none
 | .len true x => match unopt (raw x) with
  | .s s => some ([],.i .i64 s.size)
  | _ => none
 | .mm mx x y => match unopt (raw x),unopt (raw y) with
  | .i k a,.i _ b => some ([],.i k (match mx with | true => max a b | false => min a b))
  | _,_ => none
 | .sl k x lo hi => match unopt (raw x),boundT (fun y => unopt (raw y)) lo,boundT (fun y => unopt (raw y)) hi with
  | .sl t l,some lo,some hi => if t.n = k then some (slT lo hi l.length,.sl t (slL lo hi l)) else none
  | .own s t,some lo,some hi => if t.n = k then match look s with
   | .dyn _ _ l => some ([0≤lo.getD 0,lo.getD 0 < hi.getD l.length,hi.getD l.length≤l.length],.vd s t (lo.getD 0) (hi.getD l.length - lo.getD 0))
   | _ => none
   else none
  | _,_,_ => none
 | .sla k n x lo hi => match unopt (raw x),boundT (fun y => unopt (raw y)) lo,boundT (fun y => unopt (raw y)) hi with
  | .ptr s o [],some lo,some hi => match look s with
   | .cells _ cs => if o + n * k≤cs.length∧(0≤lo.getD 0∧lo.getD 0 < hi.getD n∧hi.getD n≤n) then some ([],.vc s (o + (lo.getD 0).toNat * k) ((hi.getD n).toNat - (lo.getD 0).toNat) k) else none
   | _ => none
  | .ipt (.i ik n0 :: cs),some none,some none => match intsT ik ((.i ik n0 :: cs).take n) with
   | some l => if k = 1∧0 < n∧n≤cs.length + 1 then some ([],.sl (.int ik) l) else none
   | none => none
  | _,_,_ => none
 | .sl3 k x lo hi mx => match unopt (raw x),boundT (fun y => unopt (raw y)) lo,boundT (fun y => unopt (raw y)) hi,boundT (fun y => unopt (raw y)) (some mx) with
  | .sl t _,some none,some (some h),some (some m) => if t.n = k∧h = 0∧m = 0 then some ([],.nil) else none
  | .nil,some none,some (some h),some (some m) => if h = 0∧m = 0 then some ([],.nil) else none
  | _,_,_,_ => none
 | .isn x => match unopt (raw x) with
  | .sl _ l => some ([],.nb l.length)
  | .nil => some ([],.nb 0)
  | .own s _ => match look s with
   | .dyn _ _ l => some ([],.nb l.length)
   | _ => none
  | _ => none
 | .sh left x y => match unopt (raw x),unopt (raw y) with
  | .i k a,.i _ b => match isC y with
   | true => if 0≤b then some ([],.i k (sh2 left k a b)) else none
   | false => some ([0≤b],.i k (sh2 left k a b))
  | _,_ => none
 | .bnot x => match unopt (raw x) with
  | .i k n => some ([],.i k (v_bnot k n))
  | _ => none
 | .mm3 mx x y z => match unopt (raw x),unopt (raw y),unopt (raw z) with
  | .i k a,.i _ b,.i _ c => some ([],.i k (match mx with | true => max (max a b) c | false => min (min a b) c))
  | _,_,_ => none
 | .six x i => match unopt (raw x),unopt (raw i) with
  | .s s,.i _ n => some ([0≤n,n < (s.size:Int)],.i .u8 (v_six s n))
  | _,_ => none
 | .sadd x y => match unopt (raw x),unopt (raw y) with
  | .s a,.s b => some ([(a.size:Int) + (b.size:Int)≤9223372036854775807],.s (v_scat a b))
  | _,_ => none
 | .scmp neg x y => match unopt (raw x),unopt (raw y) with
  | .s a,.s b => some ([],.b (match neg with | true => !(v_seq a b) | false => v_seq a b))
  | _,_ => none
 | .ssl x lo hi => match unopt (raw x),boundT (fun y => unopt (raw y)) lo,boundT (fun y => unopt (raw y)) hi with
  | .s s,some lo,some hi => some (slT lo hi s.size,.s (v_ssub s (lo.getD 0) (hi.getD s.size)))
  | _,_,_ => none
 | .isi neg x => match unopt (raw x) with
  | .e b => some ([],.b (match neg with | true => !b | false => b))
  | _ => none
 | .sof x => match unopt (raw x) with
  | .sl (.int .u8) l => some ([v_bts l],.s (v_sof l))
  | _ => none
 | .a64 x y z => match unopt (raw x),unopt (raw y),unopt (raw z) with
  | .i .u64 a,.i .u64 b,.i .u64 c => some ([0≤a,0≤b,0≤c,c≤1],.tup [.i .u64 ((a + b + c) % 18446744073709551616),.i .u64 ((a + b + c) / 18446744073709551616)])
  | _,_,_ => none
 | .clo f caps => some ([],.clo f (caps.map fun c => unopt (raw c)))
 | .bnd f x => match unopt (raw x) with
  | .agg cs => match sigCs cs with
   | some a => some ([],.fn f [a])
   | none => none
  | _ => none
 | .chk x => match unopt (raw x) with
  | .ptr s o ds => some ([],.ptr s o ds)
  | .pd s t i j => some ([],.pd s t i j)
  | .ipt cs => some ([],.ipt cs)
  | _ => none
 | _ => none
end Go.Mx
