/- An abstract machine of this work's own: it runs loaded Go code on pure values, in the order of the text, without memory but for the call's own variables and buffers. No program is named here. -/
import Derived.Orders
import Derived.Tactics
import Derived.Below
import Derived.KernelRfl
import Derived.Laws.Cells
import Derived.Laws.CopyRow
import Derived.Laws.IdiomCopy
import Derived.Laws.AppendOwn
import Derived.ChangeKeysEq
import Derived.Laws.Tables
import Derived.WalkLawsBesides
import Derived.Laws.Entries
set_option linter.unusedVariables false
namespace Go.AM
inductive IV where
 | bool (b:Bool)
 | int (k:IntKind) (n:Int)
 | flt (k:FloatKind) (n:Nat)
 | str (s:ByteArray)
 | lst (es:List (List IV))
 | ptr (cs:List IV) (j:Nat)
 | clo (fn:Fn) (caps:List IV)
 | nilp
 | nilf
 | map (es:List (List IV))
 | ifc (t:TypeId) (one:Bool) (x:IV)
 deriving Inhabited
inductive PV where
 | undef
 | skip
 | imm (x:IV)
 | nils
 | agg (cs:List PV)
 | tup (cs:List PV)
 | buf (o n:Nat)
 | sub (o l h:Nat)
 | ptr (o j:Nat)
 | bptr (o i j:Nat)
 | eptr (x:IV) (i j:Nat)
 | iptr (x:IV) (j:Nat)
 | mp (o:Nat)
 | clo (fn:Fn) (caps:List PV)
 | sn (T:TypeId) (n o:Nat)
 | tbuf (T:TypeId) (o n:Nat)
 | tnil
 deriving Inhabited
inductive Md where
 | rw | lock | fz
 deriving DecidableEq,Inhabited
inductive Ob where
 | dead
 | box (m:Md) (cs:List PV)
 | arr (m:Md) (sz:Nat) (x:IV)
 deriving Inhabited
structure St where
 fr:List PV
 h:List Ob
inductive Ex where
 | normal
 | exit (id:Nat)
 | ret
 | goto (l:Nat)
 deriving DecidableEq
def nth (r:List IV) (i:Nat):IV:=r.getD i .nilp
def af {R:Type} (x:IV) (t e:Unit->Option R):Option R:=
 match x with
 | .bool true=>t ()
 | .bool false=>e ()
 | _=>none
def il (op:BinOp) (k:IntKind) (a b:Int):Option IV:=
 match op with
 | .add=>some (.int k (k.wrap (a+b)))
 | .sub=>some (.int k (k.wrap (a - b)))
 | .mul=>some (.int k (k.wrap (a*b)))
 | .quo=>if b=0 then none else some (.int k (k.wrap (a.tdiv b)))
 | .rem=>if b=0 then none else some (.int k (a.tmod b))
 | .and=>some (.int k (k.wrap (BitVec.ofInt k.bits a&&&BitVec.ofInt k.bits b).toNat))
 | .or=>some (.int k (k.wrap (BitVec.ofInt k.bits a|||BitVec.ofInt k.bits b).toNat))
 | .xor=>some (.int k (k.wrap (BitVec.ofInt k.bits a ^^^ BitVec.ofInt k.bits b).toNat))
 | .andNot=>some (.int k (k.wrap (BitVec.ofInt k.bits a&&& ~~~(BitVec.ofInt k.bits b)).toNat))
 | .eql=>some (.bool (a==b))
 | .neq=>some (.bool (a !=b))
 | .lss=>some (.bool (decide (a < b)))
 | .leq=>some (.bool (decide (a<=b)))
 | .gtr=>some (.bool (decide (a > b)))
 | .geq=>some (.bool (decide (a>=b)))
 | _=>none
def Uh (op:BinOp) (k:FloatKind) (a b:Nat):Option IV:=
 match op with
 | .add=>(k.format.add a b).map (.flt k)
 | .sub=>(k.format.sub a b).map (.flt k)
 | .mul=>(k.format.mul a b).map (.flt k)
 | .quo=>(k.format.div a b).map (.flt k)
 | .eql=>some (.bool (k.format.order a b==some .eq))
 | .neq=>some (.bool (k.format.order a b !=some .eq))
 | .lss=>some (.bool (k.format.order a b==some .lt))
 | .leq=>some (.bool (k.format.order a b==some .lt||k.format.order a b==some .eq))
 | .gtr=>some (.bool (k.format.order a b==some .gt))
 | .geq=>some (.bool (k.format.order a b==some .gt||k.format.order a b==some .eq))
 | _=>none
def Ul (op:BinOp) (a b:ByteArray):Option IV:=
 match op with
 | .eql=>some (.bool (a.toList==b.toList))
 | .neq=>some (.bool !(a.toList==b.toList))
 | .add=>if ((a.size+b.size:Nat):Int) > IntKind.i64.max then none else some (.str (a++b))
 | _=>none
def U0 (op:BinOp) (is:Bool):Option IV:=
 match op with
 | .eql=>some (.bool !is)
 | .neq=>some (.bool is)
 | _=>none
def aa (op:BinOp) (x y:IV):Option IV:=
 match x,y with
 | .int k a,.int k' b=>
   match op with
   | .shl=>if b < 0 then none else some (.int k (k.wrap (a*2 ^ (min b.toNat k.bits))))
   | .shr=>if b < 0 then none else some (.int k (a.fdiv (2 ^ (min b.toNat k.bits))))
   | op=>if k=k' then il op k a b else none
 | .flt k a,.flt k' b=>if k=k' then Uh op k a b else none
 | .str a,.str b=>Ul op a b
 | _,_=>none
def Lg (op:BinOp) (x y:IV):Option IV:=
 match x,y with
 | .nilp,.nilp=>U0 op false
 | .ptr _ _,.nilp=>U0 op true
 | _,_=>none
def Hd (op:BinOp) (x y:IV):Option IV:=
 match x,y with
 | .bool a,.bool b=>
   match op with
   | .eql=>some (.bool (a==b))
   | .neq=>some (.bool !(a==b))
   | _=>none
 | _,_=>none
inductive EK where
 | b | i | s
def Rp:EK->IV->IV->Option Bool
 | .i,.int k a,.int k' b=>if k=k' then some (a==b) else none
 | .b,.bool a,.bool b=>some (a==b)
 | .s,.str a,.str b=>some (a==b)
 | _,_,_=>none
def Fj:List EK->List IV->List IV->Option Bool
 | [],[],[]=>some true
 | k::ks,x::xs,y::ys=>(Rp k x y).bind fun b=>(Fj ks xs ys).bind fun c=>some (b&&c)
 | _,_,_=>none
def KN (op:BinOp) (ks:List EK) (xs ys:List IV):Option IV:=
 match op with
 | .eql=>(Fj ks xs ys).map .bool
 | .neq=>(Fj ks xs ys).map fun b=> .bool !b
 | _=>none
def rI (op:UnOp) (x:IV):Option IV:=
 match op,x with
 | .neg,.int k n=>some (.int k (k.wrap (0 - n)))
 | .not,.bool b=>some (.bool !b)
 | .neg,.flt k n=>some (.flt k (Op.negFloat k n))
 | .xor,.int k n=>some (.int k (k.wrap (BitVec.ofInt k.bits (if k.signed then -1 else k.max) ^^^ BitVec.ofInt k.bits n).toNat))
 | _,_=>none
def mY (k:IntKind) (x:IV):Option IV:=
 match x with
 | .int _ n=>some (.int k (k.wrap n))
 | _=>none
def zk (k:IntKind) (x:IV):Option IV:=
 match x with
 | .flt s b=>
   match (s.decode b).toInt .zero with
   | some n=>if k.min<=n/\n<=k.max then some (.int k n) else none
   | none=>none
 | _=>none
def V4 (k:FloatKind) (x:IV):Option IV:=
 match x with
 | .int _ n=>some (.flt k (k.nearest n))
 | _=>none
def Se (x:IV):Option IV:=
 match x with
 | .str s=>some (.lst (s.data.toList.map fun b=>[.int .u8 b.toNat]))
 | _=>none
def DA:List IV->Option UInt8
 | [.int .u8 n]=>if 0<=n/\n < 256 then some (UInt8.ofNat n.toNat) else none
 | _=>none
def xn (x:IV):Option IV:=
 match x with
 | .lst es=>(es.mapM DA).map fun l=> .str ⟨l.toArray⟩
 | _=>none
def TT (bytes:Nat) (row:List IV) (x y:IV):Option IV:=
 match x,y with
 | .int _ n,.int _ m=>if n=m/\0<=n/\n.toNat*(bytes+1)<=2 ^ 40 then some (.lst (List.replicate n.toNat row)) else none
 | _,_=>none
def bq (x:IV):Option IV:=
 match x with
 | .lst es=>some (.int .i64 es.length)
 | _=>none
def qQ (x:IV):Option IV:=
 match x with
 | .str s=>some (.int .i64 s.size)
 | _=>none
def bQ (x:IV):Nat:=
 match x with
 | .lst es=>es.length
 | _=>0
def ze (x:IV) (l h:Nat):IV:=
 match x with
 | .lst es=> .lst ((es.drop l).take (h - l))
 | x=>x
def cE (n:Nat) (i:IV):Option Nat:=
 match i with
 | .int _ i=>if 0<=i/\i < (n:Int) then some i.toNat else none
 | _=>none
def dH (x i:IV) (sz:Nat):Option Nat:=
 match x,i with
 | .lst es,.int _ i=>if 0<=i/\i < (es.length:Int)/\(es.getD i.toNat []).length=sz/\0 < sz then some i.toNat else none
 | _,_=>none
def SN (x i:IV):Option IV:=
 match x,i with
 | .str s,.int _ i=>(if 0<=i then s[i.toNat]? else none).map fun b=> .int .u8 b.toNat
 | _,_=>none
def qA (x:IV) (i j:Nat):Option IV:=
 match x with
 | .lst es=>(es[i]?).bind (·[j]?)
 | _=>none
def eR (x:IV) (i j n:Nat):Option (List IV):=
 match x with
 | .lst es=>(es[i]?).bind fun e=>if j+n<=e.length then some ((e.drop j).take n) else none
 | _=>none
def gX (x:IV) (j:Nat):Option IV:=
 match x with
 | .ptr cs j0=>cs[j0+j]?
 | _=>none
def uC (x:IV) (j n:Nat):Option (List IV):=
 match x with
 | .ptr cs j0=>if j0+j+n<=cs.length then some ((cs.drop (j0+j)).take n) else none
 | _=>none
def gY (x:IV):Option IV:=
 match x with
 | .ptr cs j=>some (.ptr cs j)
 | _=>none
def setCells (e:List IV) (j:Nat):List IV->List IV
 | []=>e
 | v::vs=>setCells (e.set j v) (j+1) vs
def zy (x:IV) (i j:Nat) (vs:List IV):Option IV:=
 match x with
 | .lst es=>(es[i]?).bind fun e=>if j+vs.length<=e.length then some (.lst (es.set i (setCells e j vs))) else none
 | _=>none
def p8 (sz bytes:Nat) (x:IV):Option (List IV):=match x with | .lst es=>if es.length*(bytes+1)<=2 ^ 40/\es.all (fun e=>e.length==sz) then some [.lst es] else none | _=>none
def oP (sz bytes:Nat) (x i y:IV):Option (List IV):=
 match x,i,y with
 | .lst es,.int .i64 i,.lst ys=>if 0<=i/\i<=(es.length:Int)/\(es.length+ys.length)*(bytes+1)<=2 ^ 32/\ys.all (fun e=>e.length==sz) then some [.lst (es.take i.toNat++ys++es.drop i.toNat)] else none
 | _,_,_=>none
def Ln:IV->IV->Option Bool
 | .int k a,.int k' b=>if k=k' then some (a==b) else none
 | .str a,.str b=>some (a==b)
 | .bool a,.bool b=>some (a==b)
 | _,_=>none
def vP (k:IV):List (List IV)->Nat->Option (Option (Nat×IV))
 | [],_=>some none
 | [k',v]::es,i=>
   match Ln k k' with
   | some true=>some (some (i,v))
   | some false=>vP k es (i+1)
   | none=>none
 | _::_,_=>none
def L3 (x k v:IV):Option IV:=
 match x with
 | .map es=>(vP k es 0).bind fun r=>match r with | some (i,_)=>some (.map (es.set i [k,v])) | none=>some (.map (es++[[k,v]]))
 | _=>none
def LA (x k z:IV):Option (List IV):=
 match x with
 | .map es=>(vP k es 0).map fun r=>match r with | some (_,v)=>[v,.bool true] | none=>[z,.bool false]
 | _=>none
def DM (x:IV):Option IV:=
 match x with
 | .map es=>some (.int .i64 es.length)
 | _=>none
inductive Kt | int (k:IntKind) | str | bool
def QP:Kt->IV->Bool
 | .int q,.int q' _=>decide (q=q')
 | .str,.str _=>true
 | .bool,.bool _=>true
 | _,_=>false
def zH (q:Kt) (x k v:IV):Option IV:=if QP q k=true then L3 x k v else none
def Ci (q:Kt) (x k z:IV):Option (List IV):=if QP q k=true then LA x k z else none
theorem PH {q:Kt} {x k v z:IV} (h:zH q x k v=some z):QP q k=true/\L3 x k v=some z:=by
 unfold zH at h;split at h
 ·exact ⟨by assumption,h⟩
 ·cases h
theorem Qp {q:Kt} {x k v:IV} {z:List IV} (h:Ci q x k v=some z):QP q k=true/\LA x k v=some z:=by
 unfold Ci at h;split at h
 ·exact ⟨by assumption,h⟩
 ·cases h
def R2 (i:IV) (n:Nat):Option Nat:=
 match i with
 | .int _ i=>if 0<=i/\i<=(n:Int) then some i.toNat else none
 | _=>none
def Yv (u v:IV) (n:Nat):Option Nat:=(R2 u n).bind fun p=>if R2 v n=some p then some p else none
def sK (n:Nat) (lo hi:Option IV):Option (Nat×Nat):=
 (match hi with | some v=>R2 v n | none=>some n).bind fun h=>
 (match lo with | some v=>R2 v h | none=>some 0).bind fun l=>some (l,h)
def D8 (sz:Nat) (x:IV) (lo hi:Option IV):Option IV:=
 match x with
 | .lst es=>if es.all (fun e=>e.length==sz) then (sK es.length lo hi).bind fun p=>some (.lst ((es.drop p.1).take (p.2 - p.1))) else none
 | _=>none
def yT (x:IV) (lo hi:Option IV):Option IV:=
 match x with
 | .str s=>(sK s.size lo hi).bind fun p=>some (.str (s.extract p.1 p.2))
 | _=>none
def lY (sz bytes:Nat) (x y:IV):Option IV:=
 match x,y with
 | .lst es,.lst ys=>if (es.length+ys.length)*(bytes+1)<=2 ^ 40/\ys.all (fun e=>e.length==sz) then some (.lst (es++ys)) else none
 | _,_=>none
def P4 (sz:Nat) (x:IV) (l u:Nat) (y:IV):Option (IV×IV):=
 match x,y with
 | .lst es,.lst ys=>if l<=u/\u<=es.length/\ys.all (fun e=>e.length==sz) then some (.lst (es.take l++ys.take (min (u - l) ys.length)++es.drop (l+min (u - l) ys.length)),.int .i64 ((min (u - l) ys.length:Nat):Int)) else none
 | _,_=>none
def imax (x y:IV):Option IV:=
 match x,y with
 | .int k a,.int k' b=>if k=k' then some (.int k (if b > a then b else a)) else none
 | _,_=>none
def Sw (x y:IV):Option IV:=
 match x,y with
 | .int k a,.int k' b=>if k=k' then some (.int k (if b < a then b else a)) else none
 | _,_=>none
def IV.scalar:IV->Bool
 | .bool _ | .int _ _ | .flt _ _ | .str _ | .nilp | .nilf=>true
 | _=>false
def ai (r:List IV):Option (List IV):=if r.all IV.scalar then some r else none
section
variable (P:Program)
def cV (t:TypeId):Bool:=match P.underlying t with | some (.struct _) | some (.array _ _)=>true | _=>false
def aU (t:TypeId):TypeId:=match P.underlying t with | some (.slice e)=>e | some (.array _ e)=>e | _=>0
def wC (t:TypeId):Bool:=match P.underlying t with | some .string=>true | _=>false
def Ok (t:TypeId):Bool:=match P.underlying t with | some .bool=>true | _=>false
def C8 (t:TypeId):Bool:=match P.underlying t with | some (.pointer _)=>true | _=>false
def CB (t:TypeId):Bool:=match P.underlying t with | some (.map _ _)=>true | _=>false
def L2 (t:TypeId) (k:IV):Bool:=
 match P.underlying t,k with
 | some (.int q),.int q' _=>decide (q=q')
 | some .string,.str _=>true
 | some .bool,.bool _=>true
 | _,_=>false
def XU (t:TypeId):Option Kt:=match P.underlying t with | some (.int q)=>some (.int q) | some .string=>some .str | some .bool=>some .bool | _=>none
def bo (t:TypeId):Bool:=match P.underlying t with | some (.slice _)=>true | _=>false
def y7 (t:TypeId) (f:Nat):Option Field:=match P.underlying t with | some (.struct fs)=>fs[f]? | _=>none
def jc (t:TypeId):Bool:=match P.underlying t with | some (.struct _) | some (.array _ _) | none=>false | _=>true
def gh (t:TypeId):Option Value:=(P.info? t).bind (·.zero)
def kM (t:TypeId):Bool:=match gh P t with | some z=>z.cells.size==P.cellsOf t&&0 < P.cellsOf t | none=>false
end
def iI:Value->PV
 | .bool b=> .imm (.bool b)
 | .int k n=> .imm (.int k n)
 | .float k n=> .imm (.flt k n)
 | .string s=> .imm (.str s)
 | .pointer none=> .imm .nilp
 | .nilFunc=> .imm .nilf
 | .slice none 0 0=> .nils
 | _=> .undef
def ig:Value->PV
 | .agg cs=> .agg (cs.toList.map iI)
 | v=>iI v
def ev (fr:List PV):Operand->PV
 | .tmp t=>fr.getD t .undef
 | .const v=>ig v
 | .global _=> .undef
 | .func f=> .imm (.clo (.func f) [])
def PV.atom:PV->Bool
 | .imm _ | .nils | .buf _ _ | .sub _ _ _ | .ptr _ _ | .bptr _ _ _ | .eptr _ _ _ | .iptr _ _ | .mp _ | .clo _ _=>true
 | _=>false
def PV.whole:PV->Bool
 | .agg _=>true
 | p=>p.atom
def PV.cells:PV->List PV
 | .agg cs=>cs
 | p=>[p]
def getOb (h:List Ob) (o:Nat):Ob:=h.getD o .dead
def isRw:Ob->Bool
 | .box .rw _ | .arr .rw _ _=>true
 | _=>false
structure Stay (h h':List Ob):Prop where
 len:h.length<=h'.length
 keep: ∀o,o < h.length->isRw (getOb h o)=false->getOb h' o=getOb h o
structure Inl where
 run:(R:Type)->List PV->List Ob->(PV->List Ob->Option R)->Option R
 nat: ∀(R S:Type) (ps:List PV) (h:List Ob) (k:PV->List Ob->Option R) (f:R->Option S),(run R ps h k).bind f=run S ps h fun p h=>(k p h).bind f
 stay: ∀(ps:List PV) (h:List Ob) (p:PV) (h':List Ob),run (PV×List Ob) ps h (fun p h=>some (p,h))=some (p,h')->Stay h h'
def mH (h:List Ob):Nat->PV->Option IV
 | 0,_=>none
 | n+1,p=>
   match p with
   | .imm x=>some x
   | .nils=>some (.lst [])
   | .buf o _=>match getOb h o with | .arr _ _ x=>some x | _=>none
   | .sub o l u=>match getOb h o with | .arr _ _ x=>some (ze x l u) | _=>none
   | .ptr o j=>match getOb h o with | .box _ cs=>(cs.mapM (mH h n)).map fun l=> .ptr l j | _=>none
   | .mp o=>match getOb h o with | .arr _ _ x=>some x | _=>none
   | .clo fn caps=>(caps.mapM (mH h n)).map fun l=> .clo fn l
   | _=>none
def refs (h:List Ob):Nat->PV->List Nat
 | 0,_=>[]
 | n+1,p=>
   match p with
   | .buf o _=>[o]
   | .sub o _ _=>[o]
   | .mp o=>[o]
   | .ptr o _=>o::(match getOb h o with | .box _ cs=>cs.flatMap (refs h n) | _=>[])
   | .clo _ caps=>caps.flatMap (refs h n)
   | .agg cs=>cs.flatMap (refs h n)
   | _=>[]
def fu (h:List Ob) (p:PV):List Nat:=p.cells.flatMap (refs h 5)
def B1 (h:List Ob) (p:PV):Option (List IV):=p.cells.mapM (mH h 5)
def YJ (h:List Ob) (o:Nat):Option (List Ob):=
 match getOb h o with
 | .box .rw cs=>some (h.set o (.box .fz cs))
 | .arr .rw n x=>some (h.set o (.arr .fz n x))
 | .box .fz _ | .arr .fz _ _=>some h
 | _=>none
def qK (h:List Ob):List Nat->Option (List Ob)
 | []=>some h
 | o::os=>(YJ h o).bind fun h=>qK h os
def ef:Ob->Ob
 | .box .rw cs=> .box .lock cs
 | .arr .rw n x=> .arr .lock n x
 | o=>o
def fF (r:List IV):Nat->Nat->List PV
 | _,0=>[]
 | i,n+1=> .imm (nth r i)::fF r (i+1) n
def MG (n:Nat) (r:List IV) (i:Nat):PV:=if n=1 then .imm (nth r i) else .agg (fF r i n)
def tD (r:List IV):List Nat->Nat->List PV
 | [],_=>[]
 | n::ns,i=>MG n r i::tD r ns (i+n)
def yG (ns:List Nat) (r:List IV):PV:=
 match ns with
 | [n]=>MG n r 0
 | ns=> .tup (tD r ns 0)
def iP (P:Program) (t:TypeId):List Nat:=
 match P.underlying t with
 | some (.tuple ts)=>ts.toList.map P.cellsOf
 | _=>[P.cellsOf t]
inductive Sc where
 | imm
 | buf (sz:Nat) (ty:Option TypeId:=none)
 | sn (T:TypeId) (n:Nat)
inductive CMode where
 | pure | own | cons | inpl
 | obj (shp:List Sc)
 | mko (shp:List Sc)
 | fresh
 | look (n:Nat)
 | inl (J:Inl)
structure FSig where
 mode:CMode
 scalar:Bool
 res:List Nat
 esz:Nat
 fn:List (List IV)->Option (List IV)
inductive Kd where
 | I
 | S (n:Nat)
 | B (sz:Nat)
 | G (n:Nat)
 | M
 | O (shp:List Sc)
 | K (o:Nat) (shp:List Sc)
 | C (g:Nat) (ks:List (Option Nat))
structure Ann where
 order:Nat->Option (List Nat×List Nat×List Nat):=fun _=>none
 join:Nat->Option (List Nat):=fun _=>none
 loop:Nat->List (Nat×Kd)×List (List (Nat×Kd)):=fun _=>([],[])
 scalar:Bool:=false
 unroll:Nat->Nat:=fun _=>0
 alt:Nat->Option (Nat×List (Nat×Kd)×List (List (Nat×Kd))):=fun _=>none
def Ann.pick (A:Ann) (fr:List PV) (id:Nat):List (Nat×Kd)×List (List (Nat×Kd)):=
 match A.alt id with
 | none=>A.loop id
 | some p=>match fr.getD p.1 .undef with | .imm _=>p.2 | _=>A.loop id
inductive SR where
 | next (vs:List IV)
 | done (k:Nat) (vs:List IV)
def iter:Nat->(List IV->Option SR)->List IV->Option (Nat×List IV)
 | 0,_,_=>none
 | n+1,f,vs=>(f vs).bind fun | .next vs'=>iter n f vs' | .done k vs'=>some (k,vs')
def iA {R:Type} (k:Nat) (l:List (Option R)):Option R:=l.getD k none
def rounds:Nat:=1000000
def setAt (cs:List PV) (j:Nat):List PV->List PV
 | []=>cs
 | v::vs=>setAt (cs.set j v) (j+1) vs
def yE (place:Nat->Option (Nat×Nat)):List PV->List (Nat×PV)->Option (List PV)
 | cs,[]=>some cs
 | cs,(i,p)::rest=>
   match place i with
   | none=>none
   | some (off,size)=>if p.whole/\p.cells.length=size/\off+size<=cs.length then yE place (setAt cs off p.cells) rest else none
def chunks (sz:Nat):Nat->List PV->List (List PV)
 | 0,_=>[]
 | n+1,l=>l.take sz::chunks sz n (l.drop sz)
def mi (fr:List PV):Option Operand->Option (Option IV)
 | none=>some none
 | some x=>match ev fr x with | .imm v=>some (some v) | _=>none
section
variable (P:Program) (Γ:FuncId->Option FSig) (C:IV->List Nat->List (List IV)->Option (List IV))
def xC (t:TypeId):Bool:=match P.underlying t with | some .bool | some (.int _) | some .string=>true | _=>false
def Ov (t:TypeId):EK:=match P.underlying t with | some .bool=> .b | some .string=> .s | _=> .i
def Fp (t:TypeId):List EK:=match P.underlying t with | some (.struct fs)=>fs.toList.map fun f=>Ov P f.type | _=>[]
def Sq (t:TypeId):Bool:=
 match P.underlying t with
 | some (.struct fs)=> !P.stoodInHeld t&& !P.eqGuardType P.depth t&&fs.all (fun f=>f.name != "_" &&xC P f.type)&&fs.toList.map (·.offset)==List.range fs.size
 | _=>false
def RR:PV->Bool
 | .agg cs=>2<=cs.length
 | p=>p.atom
def iU (h:List Ob) (ps:List PV):Option (List (List IV)):=if ps.all RR then ps.mapM (B1 h) else none
def Xn (scalar:Bool) (h:List Ob) (ps:List PV):Option (List Ob):=if scalar then some h else qK h (ps.flatMap (fu h))
def Ko (l:List PV):Option (List IV):=l.mapM fun | .imm x=>some x | _=>none
def vZ (h:List Ob) (sz:Nat):PV->Option (IV×List Nat)
 | .nils=>if 0 < sz then some (.lst [],[]) else none
 | .buf o _=>match getOb h o with | .arr .rw sz' x=>if sz'=sz then some (x,[o]) else none | _=>none
 | .sub o 0 u=>match getOb h o with | .arr .rw sz' x=>if sz'=sz then some (ze x 0 u,[o]) else none | _=>none
 | _=>none
def Oc (h:List Ob) (sz:Nat) (T:TypeId):PV->Option (IV×List Nat)
 | .tnil=>if 0 < sz then some (.lst [],[]) else none
 | .tbuf T' o _=>match getOb h o with | .arr .rw sz' x=>if sz'=sz/\T'=T then some (x,[o]) else none | _=>none
 | _=>none
def DS (h:List Ob) (o:Nat):Sc->PV->Option (IV×List Nat)
 | .imm,.imm x=>some (x,[])
 | .imm,.nils=>some (.lst [],[])
 | .buf sz none,p=>vZ h sz p
 | .buf sz (some T),p=>Oc h sz T p
 | .sn T n,.sn T' n' q=>if q=o/\T'=T/\n'=n then some (.nilp,[]) else none
 | _,_=>none
def y9 (h:List Ob) (o:Nat):List Sc->List PV->Option (List IV×List Nat)
 | [],[]=>some ([],[])
 | s::ss,p::ps=>match DS h o s p,y9 h o ss ps with | some x,some xs=>some (x.1::xs.1,x.2++xs.2) | _,_=>none
 | _,_=>none
def cC:List Nat->Bool
 | []=>true
 | x::l=> !l.contains x&&cC l
def z8 (h:List Ob) (shp:List Sc):PV->Option (List IV×List Nat)
 | .ptr o 0=>
   match getOb h o with
   | .box .rw cs=>(match y9 h o shp cs with | some p=>if cC (o::p.2) then some (p.1,o::p.2) else none | none=>none)
   | _=>none
 | _=>none
def kill (h:List Ob):List Nat->List Ob
 | []=>h
 | o::os=>kill (h.set o .dead) os
def Tq:List PV->Option (List IV)
 | []=>some []
 | .imm x::ps=>(Tq ps).map (x:: ·)
 | .nils::ps=>(Tq ps).map (.lst []:: ·)
 | _=>none
def Xf (h:List Ob) (n o:Nat):Option (List IV):=
 match getOb h o with
 | .box _ cs=>if cs.length=n then Tq cs else none
 | _=>none
def B9 (q k:Nat) (x:IV):Sc->PV
 | .imm=> .imm x
 | .buf _ none=> .buf k (bQ x)
 | .buf _ (some T)=> .tbuf T k (bQ x)
 | .sn T n=> .sn T n q
def WR (x:IV):Sc->Ob
 | .buf sz _=> .arr .rw sz x
 | _=> .dead
def bI (q:Nat) (r:List IV):List Sc->Nat->Nat->List PV
 | [],_,_=>[]
 | s::ss,k,i=>B9 q k (nth r i) s::bI q r ss (k+1) (i+1)
def bp (r:List IV):List Sc->Nat->List Ob
 | [],_=>[]
 | s::ss,i=>WR (nth r i) s::bp r ss (i+1)
def aX {R:Type} (s:FSig) (h:List Ob) (ps:List PV) (k:PV->List Ob->Option R):Option R:=
 match s.mode with
 | .pure=>
   match iU h ps,Xn s.scalar h ps with
   | some as,some h'=>(s.fn as).bind fun r=>k (yG s.res r) h'
   | _,_=>none
 | .own=>
   match iU h ps,(ps.flatMap (fu h)).isEmpty with
   | some as,true=>(s.fn as).bind fun r=>k (.buf h.length (bQ (nth r 0))) (h++[.arr .rw s.esz (nth r 0)])
   | _,_=>none
 | .cons=>
   match ps with
   | .buf o _::rest=>
     match getOb h o with
     | .arr .rw sz x=>
       match iU h rest,qK h (rest.flatMap (fu h)) with
       | some as,some h'=>
         match getOb h' o with
         | .arr .rw _ _=>if sz=s.esz then (s.fn ([x]::as)).bind fun r=>k (.buf h.length (bQ (nth r 0))) (h'.set o .dead++[.arr .rw s.esz (nth r 0)]) else none
         | _=>none
       | _,_=>none
     | _=>none
   | _=>none
 | .inpl=>
   match ps with
   | .buf o _::rest=>
     match getOb h o with
     | .arr .rw sz x=>
       match iU h rest,(rest.flatMap (fu h)).isEmpty with
       | some as,true=>if sz=s.esz then (s.fn ([x]::as)).bind fun r=>k .undef (h.set o (.arr .rw sz (nth r 0))) else none
       | _,_=>none
     | _=>none
   | _=>none
 | .obj shp=>
   match ps with
   | .ptr o j::rest=>
     match z8 h shp (.ptr o j),iU h rest,(rest.flatMap (fu h)).isEmpty with
     | some p,some as,true=>(s.fn (p.1::as)).bind fun r=>k (yG s.res (r.drop shp.length)) ((kill h p.2++bp r shp 0).set o (.box .rw (bI o r shp h.length 0)))
     | _,_,_=>none
   | .imm .nilp::rest=>
     match iU h (.imm .nilp::rest),((PV.imm .nilp::rest).flatMap (fu h)).isEmpty with
     | some as,true=>(s.fn as).bind fun r=>k (yG s.res r) h
     | _,_=>none
   | _=>none
 | .fresh=>
   match iU h ps with
   | some as=>(s.fn as).bind fun r=>k (.buf h.length (bQ (nth r 0))) (h++[.arr .rw s.esz (nth r 0)])
   | none=>none
 | .look n=>
   match ps with
   | .ptr o 0::rest=>
     match Xf h n o,iU h rest,(rest.flatMap (fu h)).isEmpty with
     | some vs,some as,true=>(s.fn (vs::as)).bind fun r=>k (yG s.res r) h
     | _,_,_=>none
   | _=>none
 | .inl J=>J.run R ps h k
 | .mko shp=>
   match iU h ps,qK h (ps.flatMap (fu h)) with
   | some as,some h'=>(s.fn as).bind fun r=>k (.ptr (h'.length+shp.length) 0) (h'++(bp r shp 0++[.box .rw (bI (h'.length+shp.length) r shp h'.length 0)]))
   | _,_=>none
def loadT {R:Type} (t:TypeId) (a:PV) (h:List Ob) (k:PV->List Ob->Option R):Option R:=
 if cV P t then
  match a with
  | .ptr o j=>
    match getOb h o with
    | .box _ cs=>if j+P.cellsOf t<=cs.length then k (.agg ((cs.drop j).take (P.cellsOf t))) h else none
    | _=>none
  | .bptr o i j=>
    match getOb h o with
    | .arr _ _ x=>(eR x i j (P.cellsOf t)).bind fun r=>k (.agg (fF r 0 (P.cellsOf t))) h
    | _=>none
  | .eptr x i j=>(eR x i j (P.cellsOf t)).bind fun r=>k (.agg (fF r 0 (P.cellsOf t))) h
  | .iptr x j=>(uC x j (P.cellsOf t)).bind fun r=>k (.agg (fF r 0 (P.cellsOf t))) h
  | .imm x=>(uC x 0 (P.cellsOf t)).bind fun r=>k (.agg (fF r 0 (P.cellsOf t))) h
  | _=>none
 else if jc P t then
  match a with
  | .ptr o j=>
    match getOb h o with
    | .box _ cs=>(match cs[j]? with | some p=>k p h | none=>none)
    | _=>none
  | .bptr o i j=>
    match getOb h o with
    | .arr _ _ x=>(qA x i j).bind fun v=>k (.imm v) h
    | _=>none
  | .eptr x i j=>(qA x i j).bind fun v=>k (.imm v) h
  | .iptr x j=>(gX x j).bind fun v=>k (.imm v) h
  | .imm x=>(gX x 0).bind fun v=>k (.imm v) h
  | _=>none
 else none
def PA:List PV->Md
 | [.ptr _ _]=> .lock
 | _=> .rw
def storeT {R:Type} (t:TypeId) (a v:PV) (h:List Ob) (k:PV->List Ob->Option R):Option R:=
 if v.whole/\v.cells.length=P.cellsOf t/\v.cells.all PV.atom/\0 < P.cellsOf t then
  match a with
  | .ptr o j=>
    match getOb h o with
    | .box .rw cs=>if j+v.cells.length<=cs.length then k .skip (h.set o (.box (PA (setAt cs j v.cells)) (setAt cs j v.cells))) else none
    | _=>none
  | .bptr o i j=>
    match getOb h o with
    | .arr .rw sz x=>
      match Ko v.cells with
      | some vs=>(zy x i j vs).bind fun x'=>k .skip (h.set o (.arr .rw sz x'))
      | none=>none
    | _=>none
  | _=>none
 else none
def lR (h:List Ob):PV->Option IV
 | .imm x=>some x
 | .nils=>some (.lst [])
 | .buf o _=>match getOb h o with | .arr _ _ x=>some x | _=>none
 | .sub o l u=>match getOb h o with | .arr _ _ x=>some (ze x l u) | _=>none
 | _=>none
def lr {R:Type} (b:Builtin) (at0 at1:TypeId) (ps:List PV) (h:List Ob) (k:PV->List Ob->Option R):Option R:=
 match b,ps with
 | .len,[.imm x]=>if wC P at0 then (qQ x).bind fun v=>k (.imm v) h else if bo P at0 then (bq x).bind fun v=>k (.imm v) h else if CB P at0 then (DM x).bind fun v=>k (.imm v) h else none
 | .len,[.mp o]=>if CB P at0 then (match getOb h o with | .arr _ _ x=>(DM x).bind fun v=>k (.imm v) h | _=>none) else none
 | .len,[.buf _ n]=>if bo P at0 then k (.imm (.int .i64 (n:Int))) h else none
 | .len,[.sub o l u]=>if bo P at0 then k (.imm (.int .i64 ((u - l:Nat):Int))) h else none
 | .len,[.nils]=>if bo P at0 then k (.imm (.int .i64 0)) h else none
 | .append,[.nils,y]=>
   if bo P at0/\bo P at1/\kM P (aU P at0) then
   match lR h y with
   | some ys=>(lY (P.cellsOf (aU P at0)) (P.bytesOf (aU P at0)) (.lst []) ys).bind fun z=>k (.buf h.length (bQ z)) (h++[.arr .rw (P.cellsOf (aU P at0)) z])
   | none=>none
   else none
 | .append,[.buf o _,y]=>
   if bo P at0/\bo P at1/\kM P (aU P at0) then
   match getOb h o,lR h y with
   | .arr .rw sz x,some ys=>if sz=P.cellsOf (aU P at0) then (lY (P.cellsOf (aU P at0)) (P.bytesOf (aU P at0)) x ys).bind fun z=>k (.buf h.length (bQ z)) (h.set o .dead++[.arr .rw sz z]) else none
   | _,_=>none
   else none
 | .append,[.sub o l u,y]=>
   if bo P at0/\bo P at1/\kM P (aU P at0) then
   match getOb h o,lR h y with
   | .arr .rw sz x,some ys=>if sz=P.cellsOf (aU P at0) then (lY (P.cellsOf (aU P at0)) (P.bytesOf (aU P at0)) (ze x l u) ys).bind fun z=>k (.buf h.length (bQ z)) (h.set o .dead++[.arr .rw sz z]) else none
   | _,_=>none
   else none
 | .copy,[.buf o n,y]=>
   if bo P at0/\bo P at1/\0 < P.cellsOf (aU P at0) then
   match getOb h o,lR h y with
   | .arr .rw sz x,some ys=>if sz=P.cellsOf (aU P at0) then (P4 sz x 0 n ys).bind fun p=>k (.imm p.2) (h.set o (.arr .rw sz p.1)) else none
   | _,_=>none
   else none
 | .copy,[.sub o l u,y]=>
   if bo P at0/\bo P at1/\0 < P.cellsOf (aU P at0) then
   match getOb h o,lR h y with
   | .arr .rw sz x,some ys=>if sz=P.cellsOf (aU P at0) then (P4 sz x l u ys).bind fun p=>k (.imm p.2) (h.set o (.arr .rw sz p.1)) else none
   | _,_=>none
   else none
 | .max,[.imm x,.imm y]=>(imax x y).bind fun v=>k (.imm v) h
 | .min,[.imm x,.imm y]=>(Sw x y).bind fun v=>k (.imm v) h
 | _,_=>none
def xv (h:List Ob):PV->Option IV
 | .imm x=>some x
 | .mp o=>match getOb h o with | .arr _ _ x=>some x | _=>none
 | _=>none
def TV (Γ:FuncId->Option FSig):Fn->Option Inl
 | .func g=>match Γ g with | some s=>(match s.mode with | .inl J=>some J | _=>none) | none=>none
 | _=>none
def My (Γ:FuncId->Option FSig) (fn:Fn) (caps:List PV):Option FSig:=
 match fn,caps with
 | .func g,[]=>(match Γ g with | some s=>(match s.mode with | .obj _=>some s | _=>none) | none=>none)
 | _,_=>none
def YF (Γ:FuncId->Option FSig) (g:FuncId):Bool:=match Γ g with | some s=>(match s.mode with | .obj _ | .inl _=>true | _=>false) | none=>false
def VB (k:FuncId->Bool) (fr:List PV):Operand->PV
 | .func f=>if k f then .clo (.func f) [] else .imm (.clo (.func f) [])
 | x=>ev fr x
def IL (name:String) (x:IV):IV:=
 match x with
 | .ifc t b y=> .map [[.clo (.methodOf t name) [y],.bool b,.nilp]]
 | _=> .nilp
def Fw (t:TypeId):Bool:=match P.underlying t with | some (.interface _) | none=>false | _=>true
def TP (t:TypeId):Option IV:=match gh P t with | some z=>(match iI z with | .imm x=>some x | _=>none) | none=>none
def Xg (z:Value):Option IV:=match iI z with | .imm x=>some x | .nils=>some (.lst []) | _=>none
def VM (e:TypeId):Option (List IV):=match gh P e with | some z=>if z.cells.size=P.cellsOf e/\0 < P.cellsOf e then z.cells.toList.mapM Xg else none | none=>none
def NN (t:TypeId):Bool:=
 match P.underlying t,gh P t with
 | some (.struct fs),some (.agg z)=>
   match fs.toList,z.toList with
   | [f,g],[.pointer none,.slice none 0 0]=>
     match P.underlying f.type,P.underlying g.type with
     | some (.pointer t'),some (.slice _)=>t'==t
     | _,_=>false
   | _,_=>false
 | _,_=>false
def abh (len:Nat) (emp:Bool) (e:TypeId):Bool:=if len=0 then emp else kM P e
def eC {R:Type} (o:Oper) (st:St) (k:PV->List Ob->Option R):Option R:=
 match o.op with
 | .move x=>k (ev st.fr x) st.h
 | .assign x=>k (ev st.fr x) st.h
 | .pick c a b=>match ev st.fr c with | .imm x=>af x (fun _=>k (ev st.fr a) st.h) (fun _=>k (ev st.fr b) st.h) | _=>none
 | .alloc t=>
   match NN P t with
   | true=>k (.ptr st.h.length 0) (st.h++[.box .rw [.sn t 2 st.h.length,.tnil]])
   | false=>match gh P t with | some z=>k (.ptr st.h.length 0) (st.h++[.box .rw (ig z).cells]) | none=>none
 | .box t v=>if (ev st.fr v).whole then k (.ptr st.h.length 0) (st.h++[.box (PA (ev st.fr v).cells) (ev st.fr v).cells]) else none
 | .build t parts=>
   match P.underlying t,gh P t with
   | some (.struct fs),some z=>
     if fs.all (fun f=>(P.info? f.type).isSome) then
     match yE (fun i=>(fs[i]?).map fun f=>(f.offset,P.cellsOf f.type)) (ig z).cells (parts.toList.map fun p=>(p.1,VB (YF Γ) st.fr p.2)) with
     | some cs=>k (.agg cs) st.h
     | none=>none
     else none
   | some (.array _ e),some z=>
     if (P.info? e).isSome then
     match yE (fun i=>some (i*P.cellsOf e,P.cellsOf e)) (ig z).cells (parts.toList.map fun p=>(p.1,VB (YF Γ) st.fr p.2)) with
     | some cs=>k (.agg cs) st.h
     | none=>none
     else none
   | _,_=>none
 | .buildSlice t len parts=>
   match P.underlying t with
   | some (.slice e)=>
     if len=0 then (if parts.isEmpty/\0 < P.cellsOf e then k .nils st.h else none) else
     if abh P len parts.isEmpty e then
     match (if len=0 then some [] else match gh P e with
      | some z=>yE (fun i=>some (i*P.cellsOf e,P.cellsOf e)) ((List.range len).flatMap fun _=>(ig z).cells) (parts.toList.map fun p=>(p.1,ev st.fr p.2))
      | none=>none) with
     | some cs=>
       match (chunks (P.cellsOf e) len cs).mapM (fun c=>c.mapM (mH st.h 5)),qK st.h (cs.flatMap (refs st.h 5)) with
       | some es,some h=>if len<=1000/\P.cellsOf e<=100/\0 < P.cellsOf e then k (.buf h.length len) (h++[.arr .rw (P.cellsOf e) (.lst es)]) else none
       | _,_=>none
     | none=>none
     else none
   | _=>none
 | .makeMap t none=>if CB P t then k (.mp st.h.length) (st.h++[.arr .rw 0 (.map [])]) else none
 | .mapUpdate t m x v=>
   match P.underlying t,ev st.fr m,ev st.fr x,ev st.fr v with
   | some (.map kt _),.mp o,.imm key,.imm val=>
     match getOb st.h o with
     | .arr .rw sz y=>(match XU P kt with | some q=>(zH q y key val).bind fun y'=>k .skip (st.h.set o (.arr .rw sz y')) | none=>none)
     | _=>none
   | _,_,_,_=>none
 | .lookup t m x commaOk=>
   match P.underlying t,xv st.h (ev st.fr m),ev st.fr x with
   | some (.map kt et),some y,.imm key=>
     match XU P kt,TP P et with
     | some q,some z=>(Ci q y key z).bind fun r=>k (if commaOk then .tup [.imm (nth r 0),.imm (nth r 1)] else .imm (nth r 0)) st.h
     | _,_=>none
   | _,_,_=>none
 | .load t a=>loadT P t (ev st.fr a) st.h k
 | .store t a v=>storeT P t (ev st.fr a) (ev st.fr v) st.h k
 | .nilCheck x=>match ev st.fr x with | .imm y=>(gY y).bind fun v=>k (.imm v) st.h | .ptr o j=>k (.ptr o j) st.h | .bptr o i j=>k (.bptr o i j) st.h | .eptr x i j=>k (.eptr x i j) st.h | .iptr x j=>k (.iptr x j) st.h | .clo f c=>k (.clo f c) st.h | _=>none
 | .binOp op t x y _=>
   match ev st.fr x,ev st.fr y with
   | .imm a,.imm b=>if Ok P t then (Hd op a b).bind fun v=>k (.imm v) st.h else if C8 P t then (Lg op a b).bind fun v=>k (.imm v) st.h else (aa op a b).bind fun v=>k (.imm v) st.h
   | .ptr _ _,.imm .nilp=>if C8 P t then (U0 op true).bind fun v=>k (.imm v) st.h else none
   | .agg as,.agg bs=>if Sq P t then (match Ko as,Ko bs with | some as,some bs=>(KN op (Fp P t) as bs).bind fun v=>k (.imm v) st.h | _,_=>none) else none
   | _,_=>none
 | .unOp op _ x=>match ev st.fr x with | .imm a=>(rI op a).bind fun v=>k (.imm v) st.h | _=>none
 | .convert s d x=>
   match ev st.fr x,P.underlying s,P.underlying d with
   | .imm a,some (.int _),some (.int kd)=>(mY kd a).bind fun v=>k (.imm v) st.h
   | .imm a,some (.float _),some (.int kd)=>(zk kd a).bind fun v=>k (.imm v) st.h
   | .imm a,some (.int _),some (.float kd)=>(V4 kd a).bind fun v=>k (.imm v) st.h
   | .imm a,some .string,some (.slice e)=>(match P.underlying e with | some (.int .u8)=>(Se a).bind fun v=>k (.imm v) st.h | _=>none)
   | p,some (.slice e),some .string=>(match P.underlying e,lR st.h p with | some (.int .u8),some y=>(xn y).bind fun v=>k (.imm v) st.h | _,_=>none)
   | _,_,_=>none
 | .makeSlice t l c=>
   match P.underlying t,ev st.fr l,ev st.fr c with
   | some (.slice e),.imm x,.imm y=>(match VM P e with | some row=>(TT (P.bytesOf e) row x y).bind fun v=>k (.buf st.h.length (bQ v)) (st.h++[.arr .rw (P.cellsOf e) v]) | none=>none)
   | _,_,_=>none
 | .makeFunc fn first caps=>if first.isEmpty then k (if caps.isEmpty&&(TV Γ fn).isNone then .imm (.clo fn []) else .clo fn (caps.toList.map (ev st.fr))) st.h else none
 | .slice t x lo hi none=>
   match ev st.fr x,mi st.fr lo,mi st.fr hi with
   | .imm a,some lo,some hi=>if wC P t then (yT a lo hi).bind fun v=>k (.imm v) st.h else if bo P t/\0 < P.cellsOf (aU P t) then (D8 (P.cellsOf (aU P t)) a lo hi).bind fun v=>k (.imm v) st.h else none
   | .buf o n,some lo,some hi=>if bo P t/\0 < P.cellsOf (aU P t) then (match getOb st.h o with | .arr _ sz _=>if sz=P.cellsOf (aU P t) then (sK n lo hi).bind fun p=>k (.sub o p.1 p.2) st.h else none | _=>none) else none
   | .sub o l u,some lo,some hi=>if bo P t/\0 < P.cellsOf (aU P t) then (match getOb st.h o with | .arr _ sz _=>if sz=P.cellsOf (aU P t) then (sK (u - l) lo hi).bind fun p=>k (.sub o (l+p.1) (l+p.2)) st.h else none | _=>none) else none
   | _,_,_=>none
 | .slice t x none (some hi) (some mx)=>
   match ev st.fr x,ev st.fr hi,ev st.fr mx with
   | .buf o n,.imm u,.imm v=>if bo P t/\0 < P.cellsOf (aU P t) then (match getOb st.h o with | .arr _ sz _=>if sz=P.cellsOf (aU P t) then (Yv u v n).bind fun p=>k (.sub o 0 p) st.h else none | _=>none) else none
   | _,_,_=>none
 | .fieldAddr s x f=>
   match y7 P s f with
   | some fd=>if P.cellsOf fd.type=0 then none else
     match ev st.fr x with
     | .ptr o j=>k (.ptr o (j+fd.offset)) st.h
     | .bptr o i j=>k (.bptr o i (j+fd.offset)) st.h
     | .eptr x i j=>k (.eptr x i (j+fd.offset)) st.h
     | .iptr x j=>k (.iptr x (j+fd.offset)) st.h
     | .imm x=>(gY x).bind fun x=>k (.iptr x fd.offset) st.h
     | _=>none
   | none=>none
 | .field t x f=>
   match y7 P t f,ev st.fr x with
   | some fd,.agg cs=>if cV P fd.type then k (.agg ((cs.drop fd.offset).take (P.cellsOf fd.type))) st.h else if jc P fd.type then (match cs[fd.offset]? with | some p=>k p st.h | none=>none) else none
   | _,_=>none
 | .indexAddr t x i=>
   match ev st.fr x,ev st.fr i with
   | .imm a,.imm n=>if bo P t then (dH a n (P.cellsOf (aU P t))).bind fun m=>k (.eptr a m 0) st.h else none
   | .buf o n,.imm i=>if bo P t/\0 < P.cellsOf (aU P t) then (match getOb st.h o with | .arr _ sz _=>if sz=P.cellsOf (aU P t) then (cE n i).bind fun m=>k (.bptr o m 0) st.h else none | _=>none) else none
   | .sub o l u,.imm n=>if bo P t/\0 < P.cellsOf (aU P t) then (match getOb st.h o with | .arr _ sz _=>if sz=P.cellsOf (aU P t) then (cE (u - l) n).bind fun m=>k (.bptr o (l+m) 0) st.h else none | _=>none) else none
   | .ptr o j,.imm n=>
     match P.underlying t with
     | some (.array len e)=>if 0 < P.cellsOf e then (cE len n).bind fun m=>k (.ptr o (j+m*P.cellsOf e)) st.h else none
     | _=>none
   | _,_=>none
 | .index t x i=>
   match ev st.fr x,ev st.fr i with
   | .imm a,.imm n=>if wC P t then (SN a n).bind fun v=>k (.imm v) st.h else none
   | .agg cs,.imm n=>
     match P.underlying t,Ko cs with
     | some (.array len e),none=>(cE len n).bind fun m=>if cs.length=len*P.cellsOf e/\0 < P.cellsOf e then (if cV P e then k (.agg ((cs.drop (m*P.cellsOf e)).take (P.cellsOf e))) st.h else if jc P e/\P.cellsOf e=1 then (cs[m]?).bind fun p=>k p st.h else none) else none
     | some (.array len e),some l=>(cE len n).bind fun m=>if l.length=len*P.cellsOf e then (if cV P e then k (.agg ((List.range (P.cellsOf e)).map fun j=> .imm (nth l (m*P.cellsOf e+j)))) st.h else if jc P e/\P.cellsOf e=1 then k (.imm (nth l m)) st.h else none) else none
     | _,_=>none
   | _,_=>none
 | .extract x i=>match ev st.fr x with | .tup cs=>(match cs[i]? with | some p=>k p st.h | none=>none) | _=>none
 | .call c=>
   match c.callee with
   | .builtin b=>if c.argTypes.size≠c.args.size then none else lr P b (c.argTypes.getD 0 0) (c.argTypes.getD 1 0) (c.args.toList.map (ev st.fr)) st.h k
   | .value (.func g)=>
     match Γ g with
     | some s=>aX s st.h (c.args.toList.map (ev st.fr)) k
     | none=>none
   | .value f=>
     match ev st.fr f with
     | .imm x=>aX ⟨.pure,false,iP P o.type,0,C x (iP P o.type)⟩ st.h (c.args.toList.map (ev st.fr)) k
     | .clo fn caps=>
       match TV Γ fn with
       | some J=>J.run R (c.args.toList.map (ev st.fr)++caps) st.h k
       | none=>
       match My Γ fn caps with
       | some s=>aX s st.h (c.args.toList.map (ev st.fr)) k
       | none=>
       match mH st.h 5 (.clo fn caps),qK st.h (refs st.h 5 (.clo fn caps)) with
       | some x,some h1=>aX ⟨.pure,false,iP P o.type,0,C x (iP P o.type)⟩ h1 (c.args.toList.map (ev st.fr)) k
       | _,_=>none
     | _=>none
   | .invoke recv name=>
     if c.args.isEmpty then
     match ev st.fr recv with
     | .imm x=>aX ⟨.pure,false,iP P o.type,0,C (IL name x) (iP P o.type)⟩ st.h [] k
     | _=>none
     else none
 | .makeInterface t x=>
   if Fw P t then
   match ev st.fr x with
   | .agg [p]=>(match mH st.h 5 p,qK st.h (refs st.h 5 p) with | some y,some h1=>k (.imm (.ifc t true y)) h1 | _,_=>none)
   | p=>if p.atom then (match mH st.h 5 p,qK st.h (refs st.h 5 p) with | some y,some h1=>k (.imm (.ifc t false y)) h1 | _,_=>none) else none
   else none
 | _=>none
def setDst (fr:List PV) (d:Option Tmp) (p:PV):List PV:=match d with | some d=>fr.set d p | none=>fr
def qO {R:Type} (ops:Array Oper) (o:Oper) (st:St) (k:St->Option R):Option R:=
 let go:St->Option R:=fun st=>eC P Γ C o st fun p h=>k ⟨setDst st.fr o.dst p,h⟩
 let no:St->Option R:=fun st=>k ⟨setDst st.fr o.dst .skip,st.h⟩
 match o.guard with
 | none=>go st
 | some (j,want)=>
   match (ops[j]?).bind (·.dst) with
   | none=>none
   | some s=>
     match st.fr.getD s .undef with
     | .imm x=>af x (fun _=>(if want then go else no) ⟨st.fr.set s (.imm (.bool true)),st.h⟩) (fun _=>(if want then no else go) ⟨st.fr.set s (.imm (.bool false)),st.h⟩)
     | .skip=>no st
     | _=>none
def jh {R:Type} (ops:Array Oper):List Oper->St->(St->Option R)->Option R
 | [],st,k=>k st
 | o::rest,st,k=>qO P Γ C ops o st fun st'=>jh ops rest st' k
def Ms:PV->Bool
 | .buf _ _ | .sub _ _ _=>false
 | _=>true
def okF (o:Oper) (fr:List PV):Bool:=
 match o.op with
 | .slice _ x _ _ _=>Ms (ev fr x)
 | .indexAddr _ x _=>Ms (ev fr x)
 | .convert _ _ x=>(match ev fr x with | .imm _=>true | _=>false)
 | _=>true
def Wg:PV->Bool
 | .nils=>true
 | _=>false
def Tf (o:Oper) (fr:List PV):Bool:=
 match o.op with
 | .call c=>
   match c.callee with
   | .builtin .append=>(match c.args.toList with | x::_=>Wg (ev fr x) | []=>false)
   | _=>true
 | _=>true
def oC {R:Type} (ok:Oper->List PV->Bool) (ops:Array Oper):List Oper->St->(St->Option R)->Option R
 | [],st,k=>k st
 | o::rest,st,k=>if ok o st.fr then qO P Γ C ops o st fun st'=>oC ok ops rest st' k else none
def TX (F:List Nat) (ops:Array Oper) (fr:List PV):List Nat:=
 F.filterMap fun j=>match ops[j]? with
   | some o=>(match o.op with | .load _ a=>(match ev fr a with | .ptr q _=>some q | _=>none) | .fieldAddr _ x _=>(match ev fr x with | .ptr q _=>some q | _=>none) | .slice _ x _ _ _=>(match ev fr x with | .buf q _=>some q | _=>none) | _=>none)
   | none=>none
def Cn (S:List Nat) (o:Oper) (fr:List PV):Bool:=
 match o.op with
 | .load _ a=>(match ev fr a with | .ptr q _=>S.contains q | _=>false)
 | .slice _ x _ _ _=>Ms (ev fr x)||(match ev fr x with | .buf q _=>S.contains q | _=>false)
 | _=>okF o fr
def floatB (o:Oper):Bool:=
 match o.op with
 | .move _ | .assign _ | .pick _ _ _ | .binOp _ _ _ _ _ | .unOp _ _ _ | .slice _ _ _ _ _ | .indexAddr _ _ _ | .field _ _ _ | .extract _ _ | .fieldAddr _ _ _ | .convert _ _ _ | .nilCheck _=>true
 | _=>false
def Kv (S:List Nat×Bool) (o:Oper) (fr:List PV):Bool:=
 match S.1 with
 | []=>true
 | _=>
   match o.op with
   | .store _ a _=>(match ev fr a with | .ptr q _=> !S.1.contains q | _=>false)
   | .call c=>S.2||(match c.callee with | .builtin .append=>(match c.args.toList with | x::_=>(match ev fr x with | .nils=>true | .buf q _=> !S.1.contains q | _=>false) | []=>false) | _=>false)
   | _=>floatB o&&okF o fr
def V1 (F:List Nat) (ops:Array Oper) (st:St):List Nat×Bool:=(TX F ops st.fr,(TX F ops st.fr).all fun q=> !isRw (getOb st.h q))
def allocB (o:Oper):Bool:=match o.op,o.guard with | .buildSlice _ _ _,none=>true | _,_=>false
def A3 (fr:List PV):List PV:=fr.map fun p=>match p with | .imm x=> .imm x | _=> .undef
def YE (o:Oper) (fr:List PV):Option PV:=
 match eC P Γ C (R:=PV×List Ob) o ⟨A3 fr,[]⟩ (fun p h=>some (p,h)) with
 | some (.buf 0 _,[.arr .rw _ (.lst es)])=>some (.imm (.lst es))
 | _=>none
def nk {R:Type} (ok:Oper->List PV->Bool) (ops:Array Oper):List Oper->St->(St->Option R)->Option R
 | [],st,k=>k st
 | o::rest,st,k=>
   if allocB o then (match YE P Γ C o st.fr with | some p=>nk ok ops rest ⟨setDst st.fr o.dst p,st.h⟩ k | none=>none)
   else if ok o st.fr then qO P Γ C ops o st fun st'=>nk ok ops rest st' k else none
def oh {R:Type} (ord:Option (List Nat×List Nat×List Nat)) (ops:Array Oper) (st:St) (k:St->Option R):Option R:=
 match ord with
 | none=>jh P Γ C ops ops.toList st k
 | some l=>oC P Γ C Tf ops (l.2.1.filterMap (ops[·]?)) st fun st1=>nk P Γ C (Cn (TX l.1 ops st1.fr)) ops (l.1.filterMap (ops[·]?)) st1 fun st2=>oC P Γ C (Kv (V1 l.1 ops st1)) ops (l.2.2.filterMap (ops[·]?)) st2 k
end
def dsts (ops:List Oper):List Nat:=ops.filterMap (·.dst)
def writes:Code->List Nat
 | .region _ ops _=>dsts ops.toList
 | .seq a b=>writes a++writes b
 | .cond _ a b=>writes a++writes b
 | .block _ a=>writes a
 | .loop a=>writes a
 | .scope a=>writes a
 | .rangeFunc _ ps a b=>ps.toList++writes a++writes b
 | _=>[]
def forget (fr:List PV):List Nat->List PV
 | []=>fr
 | t::ts=>forget (fr.set t .undef) ts
def au:Code->Nat
 | .region id _ _=>id
 | .seq a _=>au a
 | .block _ a=>au a
 | .loop a=>au a
 | .scope a=>au a
 | _=>0
def YH (e:Ex) (l:List Ex):List Ex:=if l.contains e then l else l++[e]
def jL:Code->List Ex
 | .seq a b=>(jL b).foldl (fun l e=>YH e l) (jL a)
 | .cond _ a b=>(jL b).foldl (fun l e=>YH e l) (jL a)
 | .block id a=>(jL a).filter (· ≠ .exit id)
 | .loop a=>jL a
 | .scope a=>jL a
 | .exit id=>[.exit id]
 | .ret=>[.ret]
 | .goto l=>[.goto l]
 | _=>[]
def aaO (h:List Ob):Option Nat->PV->Option (List IV)
 | none,.imm x=>some [x]
 | some n,.ptr o 0=>match getOb h o with | .box .rw cs=>if cs.length=n then Tq cs else none | _=>none
 | _,_=>none
def Gl (h:List Ob):List (Option Nat)->List PV->Option (List IV)
 | [],[]=>some []
 | k::ks,p::ps=>match aaO h k p,Gl h ks ps with | some x,some l=>some (x++l) | _,_=>none
 | _,_=>none
def px:List (Option Nat)->List PV->List Nat
 | some _::ks,.ptr o _::ps=>o::px ks ps
 | _::ks,_::ps=>px ks ps
 | _,_=>[]
def zQ:List (Option Nat)->Nat
 | []=>0
 | none::ks=>1+zQ ks
 | some n::ks=>n+zQ ks
def mD (vs:List IV):List (Option Nat)->Nat->Nat->List PV
 | [],_,_=>[]
 | none::ks,i,k=> .imm (nth vs i)::mD vs ks (i+1) k
 | some n::ks,i,k=> .ptr k 0::mD vs ks (i+n) (k+1)
def lM (vs:List IV):List (Option Nat)->Nat->List Ob
 | [],_=>[]
 | none::ks,i=>lM vs ks (i+1)
 | some n::ks,i=> .box .rw (fF vs i n)::lM vs ks (i+n)
def mC (st:St) (t:Nat):Kd->Option (List IV)
 | .I=>(mH st.h 5 (st.fr.getD t .undef)).map fun x=>[x]
 | .S n=>match st.fr.getD t .undef with | .agg cs=>if cs.length=n then cs.mapM (mH st.h 5) else none | _=>none
 | .B sz=>match st.fr.getD t .undef with
   | .nils=>if 0 < sz then some [.lst []] else none
   | .buf o _=>match getOb st.h o with | .arr .rw sz' x=>if sz'=sz then some [x] else none | _=>none
   | _=>none
 | .G n=>match st.fr.getD t .undef with
   | .ptr o 0=>match getOb st.h o with | .box .rw cs=>if cs.length=n then cs.mapM (mH st.h 5) else none | _=>none
   | _=>none
 | .M=>match st.fr.getD t .undef with
   | .mp o=>match getOb st.h o with | .arr .rw _ x=>some [x] | _=>none
   | _=>none
 | .O shp=>(z8 st.h shp (st.fr.getD t .undef)).map (·.1)
 | .K o shp=>match st.fr.getD t .undef with | .ptr q 0=>if q=o then (z8 st.h shp (.ptr o 0)).map (·.1) else none | _=>none
 | .C g ks=>match st.fr.getD t .undef with | .clo (.func g') caps=>if g'=g then Gl st.h ks caps else none | _=>none
def pack (st:St):List (Nat×Kd)->Option (List IV)
 | []=>some []
 | (t,kd)::l=>match mC st t kd,pack st l with | some a,some b=>some (a++b) | _,_=>none
def taken (st:St):List (Nat×Kd)->List Nat
 | []=>[]
 | (t,.B _)::l=>(match st.fr.getD t .undef with | .buf o _=>[o] | _=>[])++taken st l
 | (t,.G _)::l=>(match st.fr.getD t .undef with | .ptr o _=>[o] | _=>[])++taken st l
 | (t,.M)::l=>(match st.fr.getD t .undef with | .mp o=>[o] | _=>[])++taken st l
 | (t,.O shp)::l=>(match z8 st.h shp (st.fr.getD t .undef) with | some p=>p.2 | none=>[])++taken st l
 | (t,.K o shp)::l=>(match z8 st.h shp (.ptr o 0) with | some p=>p.2 | none=>[])++taken st l
 | (t,.C _ ks)::l=>(match st.fr.getD t .undef with | .clo _ caps=>px ks caps | _=>[])++taken st l
 | _::l=>taken st l
def aM (st:St):List (Nat×Kd)->List Nat
 | []=>[]
 | (t,.I)::l=>refs st.h 5 (st.fr.getD t .undef)++aM st l
 | (t,.S _)::l=>fu st.h (st.fr.getD t .undef)++aM st l
 | (t,.G _)::l=>(match st.fr.getD t .undef with | .ptr o _=>(match getOb st.h o with | .box _ cs=>cs.flatMap (refs st.h 5) | _=>[]) | _=>[])++aM st l
 | _::l=>aM st l
def unpack (vs:List IV):List (Nat×Kd)->Nat->St->St
 | [],_,st=>st
 | (t,.I)::l,i,st=>unpack vs l (i+1) ⟨st.fr.set t (.imm (nth vs i)),st.h⟩
 | (t,.S n)::l,i,st=>unpack vs l (i+n) ⟨st.fr.set t (.agg (fF vs i n)),st.h⟩
 | (t,.B sz)::l,i,st=>unpack vs l (i+1) ⟨st.fr.set t (.buf st.h.length (bQ (nth vs i))),st.h++[.arr .rw sz (nth vs i)]⟩
 | (t,.G n)::l,i,st=>unpack vs l (i+n) ⟨st.fr.set t (.ptr st.h.length 0),st.h++[.box .rw (fF vs i n)]⟩
 | (t,.M)::l,i,st=>unpack vs l (i+1) ⟨st.fr.set t (.mp st.h.length),st.h++[.arr .rw 0 (nth vs i)]⟩
 | (t,.O shp)::l,i,st=>unpack vs l (i+shp.length) ⟨st.fr.set t (.ptr (st.h.length+shp.length) 0),st.h++(bp vs shp i++[.box .rw (bI (st.h.length+shp.length) vs shp st.h.length i)])⟩
 | (t,.K o shp)::l,i,st=>unpack vs l (i+shp.length) ⟨st.fr.set t (.ptr o 0),(st.h++bp vs shp i).set o (.box .rw (bI o vs shp st.h.length i))⟩
 | (t,.C g ks)::l,i,st=>unpack vs l (i+zQ ks) ⟨st.fr.set t (.clo (.func g) (mD vs ks i st.h.length)),st.h++lM vs ks i⟩
def rz:List (Nat×Kd)->List Nat
 | []=>[]
 | (_,.K o _)::l=>o::rz l
 | _::l=>rz l
def XY (p:List (Nat×Kd)×List (List (Nat×Kd))):Bool:=p.2.all fun L=>(rz L).all fun o=>(rz p.1).contains o
def jv (st:St) (h1:List Ob) (L:List (Nat×Kd)):Bool:=cC (taken st L)&&(taken st L).all fun o=>isRw (getOb h1 o)
def packed (st:St) (L:List (Nat×Kd)):Option (List IV):=
 match pack st L,qK st.h (aM st L) with
 | some vs,some h1=>if jv st h1 L then some vs else none
 | _,_=>none
def leaves (fr:List PV):List Nat->Option (List IV)
 | []=>some []
 | t::ts=>match fr.getD t .undef,leaves fr ts with | .imm x,some l=>some (x::l) | _,_=>none
def sq (r:List IV):List Nat->Nat->List PV->List PV
 | [],_,fr=>fr
 | t::ts,i,fr=>sq r ts (i+1) (fr.set t (.imm (nth r i)))
def Zr {R:Type} (f:St->(Ex->St->Option R)->Option R):Nat->St->(Ex->St->Option R)->Option R
 | 0,_,_=>none
 | n+1,st,K=>f st fun e st'=>match e with | .normal=>Zr f n st' K | e=>K e st'
section
variable (P:Program) (Γ:FuncId->Option FSig) (C:IV->List Nat->List (List IV)->Option (List IV)) (A:Ann)
def exec:Code->(R:Type)->St->(Ex->St->Option R)->Option R
 | .skip,_,st,K=>K .normal st
 | .label _,_,st,K=>K .normal st
 | .ret,_,st,K=>K .ret st
 | .exit id,_,st,K=>K (.exit id) st
 | .goto l,_,st,K=>K (.goto l) st
 | .seq a b,R,st,K=>exec a R st fun e st'=>match e with | .normal=>exec b R st' K | e=>K e st'
 | .block id a,R,st,K=>exec a R st fun e st'=>match e with | .exit j=>if j=id then K .normal st' else K (.exit j) st' | e=>K e st'
 | .cond c a b,R,st,K=>match ev st.fr c with | .imm x=>af x (fun _=>exec a R st K) (fun _=>exec b R st K) | _=>none
 | .region id ops draw,R,st,K=>
   match A.join id with
   | none=>oh P Γ C (A.order id) ops st fun st'=>K .normal st'
   | some L=>
     (oh P Γ C (A.order id) ops ⟨st.fr,st.h.map ef⟩ fun st'=>leaves st'.fr L).bind fun r=>
       K .normal ⟨sq r L 0 (forget st.fr (dsts ops.toList)),st.h⟩
 | .loop a,R,st,K=>
   if 0 < A.unroll (au a) then Zr (exec a R) (A.unroll (au a)) st K else
   let L:=(A.pick st.fr (au a)).1
   let Ls:=(A.pick st.fr (au a)).2
   let es:=jL a
   match pack st L,qK st.h (aM st L) with
   | some vs0,some h1=>
     if (jv st h1 L&&XY (A.pick st.fr (au a)))=false then none else
     let base:=kill h1 (taken st L)
     let fr1:=forget st.fr (writes a)
     (iter rounds (fun vs=>exec a SR (unpack vs L 0 ⟨fr1,base.map ef⟩) fun e st'=>
        match e with
        | .normal=>(packed st' L).map .next
        | e=>(packed st' (Ls.getD (es.idxOf e) [])).map (.done (es.idxOf e))) vs0).bind fun p=>
       iA p.1 (es.map fun e=>K e (unpack p.2 (Ls.getD (es.idxOf e) []) 0 ⟨fr1,base⟩))
   | _,_=>none
 | .scope a,R,st,K=>exec a R st fun e st'=>match e with | .goto _=>none | e=>K e st'
 | _,_,_,_=>none
def Hs (l:Nat) (a:Code) (R:Type) (st:St) (K:Ex->St->Option R):Option R:=
 let L:=(A.pick st.fr (au a)).1
 let Ls:=(A.pick st.fr (au a)).2
 let es:=jL a
 match pack st L,qK st.h (aM st L) with
 | some vs0,some h1=>
   if (jv st h1 L&&XY (A.pick st.fr (au a)))=false then none else
   let base:=kill h1 (taken st L)
   let fr1:=forget st.fr (writes a)
   (iter rounds (fun vs=>exec P Γ C A a SR (unpack vs L 0 ⟨fr1,base.map ef⟩) fun e st'=>
      if e= .goto l then (packed st' L).map .next else (packed st' (Ls.getD (es.idxOf e) [])).map (.done (es.idxOf e))) vs0).bind fun p=>
     iA p.1 (es.map fun e=>K e (unpack p.2 (Ls.getD (es.idxOf e) []) 0 ⟨fr1,base⟩))
 | _,_=>none
def cy:Code->(R:Type)->St->(Ex->St->Option R)->Option R
 | .seq a b,R,st,K=>
   match a with
   | .label l=>if (jL b).contains (.goto l) then Hs P Γ C A l b R st K else exec P Γ C A b R st K
   | a=>exec P Γ C A a R st fun e st'=>match e with | .normal=>cy b R st' K | e=>K e st'
 | c,R,st,K=>exec P Γ C A c R st K
def VV:Ex->Bool
 | .goto _=>true
 | _=>false
def de:Code->(R:Type)->St->(Ex->St->Option R)->Option R
 | .seq a b,R,st,K=>exec P Γ C A a R st fun e st'=>match e with | .normal=>de b R st' K | e=>K e st'
 | .scope b,R,st,K=>if (jL b).any VV then cy P Γ C A b R st K else exec P Γ C A (.scope b) R st K
 | c,R,st,K=>exec P Γ C A c R st K
def NC (t:TypeId) (cs:List IV):Option PV:=
 if cV P t then (if cs.length=P.cellsOf t/\2<=P.cellsOf t then some (.agg (cs.map .imm)) else none)
 else match cs with | [x]=>some (.imm x) | _=>none
def dC:List TypeId->Nat->List (List IV)->Option (List PV)
 | [],0,[]=>some []
 | [],n+1,[x]::l=>(dC [] n l).map (.imm x:: ·)
 | t::ts,n,cs::l=>(NC P t cs).bind fun p=>(dC ts n l).map (p:: ·)
 | _,_,_=>none
def qn (n:Nat) (p:PV) (h:List Ob):Option (List IV):=if RR p then (B1 h p).bind fun a=>if a.length=n then some a else none else none
def xH (t:TypeId) (a:PV) (h:List Ob):Option PV:=
 match a with
 | .ptr o j=>
   match getOb h o with
   | .box _ cs=>if cV P t then (if j+P.cellsOf t<=cs.length then some (.agg ((cs.drop j).take (P.cellsOf t))) else none) else if jc P t then cs[j]? else none
   | _=>none
 | _=>none
def uJ (st:St):List ResultVar->List Nat->Option (List IV)
 | [],[]=>some []
 | .tmp t::l,n::ns=>match qn n (st.fr.getD t .undef) st.h,uJ st l ns with | some a,some b=>some (a++b) | _,_=>none
 | .cell a t::l,n::ns=>match (xH P t (st.fr.getD a .undef) st.h).bind fun p=>qn n p st.h,uJ st l ns with | some a,some b=>some (a++b) | _,_=>none
 | _,_=>none
def fin (r:Option (List IV)):Option (List IV):=match r with | some r=>if A.scalar then ai r else some r | none=>none
def acN (st:St):List ResultVar->Option (List IV)
 | []=>some []
 | .tmp t::l=>match st.fr.getD t .undef,acN st l with | .imm x,some r=>some (x::r) | _,_=>none
 | _=>none
def kp (st:St):List ResultVar->List Nat
 | []=>[]
 | .tmp t::l=>fu st.h (st.fr.getD t .undef)++kp st l
 | .cell a t::l=>(match xH P t (st.fr.getD a .undef) st.h with | some p=>fu st.h p | none=>[])++kp st l
def H7 (st:St):List ResultVar->List Nat->Option (List IV)
 | [],[]=>some []
 | .tmp t::l,n::ns=>match qn n (st.fr.getD t .undef) st.h,H7 st l ns with | some a,some b=>some (a++b) | _,_=>none
 | .cell a t::l,n::ns=>match (xH P t (st.fr.getD a .undef) st.h).bind fun p=>qn n p st.h,H7 st l ns with | some a,some b=>some (a++b) | _,_=>none
 | _,_=>none
def runM (shp:List Sc) (f:Func) (vs:List IV) (args:List (List IV)):Option (List IV):=
 match f.body,dC P (f.params.toList.drop 1) f.nfree args with
 | some c,some ps=>
   if vs.length=shp.length/\(writes c).contains 0=false then
   de P Γ C A c (List IV) ⟨.ptr shp.length 0::ps++List.replicate (f.ntmps - (ps.length+1)) .skip,bp vs shp 0++[.box .rw (bI shp.length vs shp 0 0)]⟩ fun e st=>
    match e with
    | .exit _=>none
    | .goto _=>none
    | _=>
      match qK st.h (kp P st f.results.toList) with
      | some h1=>match z8 h1 shp (st.fr.getD 0 .undef),H7 P st f.results.toList (f.resultTypes.toList.map P.cellsOf) with | some p,some r=>some (p.1++r) | _,_=>none
      | none=>none
   else none
 | _,_=>none
def runN (shp:List Sc) (f:Func) (args:List (List IV)):Option (List IV):=
 match f.body,dC P f.params.toList f.nfree args with
 | some c,some ps=>
   de P Γ C A c (List IV) ⟨ps++List.replicate (f.ntmps - ps.length) .skip,[]⟩ fun e st=>
    match e with
    | .exit _=>none
    | .goto _=>none
    | _=>match f.results.toList with | [.tmp t]=>(z8 st.h shp (st.fr.getD t .undef)).map (·.1) | _=>none
 | _,_=>none
def Be (x:IV) (r:Option (List IV)):Option (List IV):=match x with | .nilp=>r | _=>none
def K2 (st:St):List ResultVar->Option (List PV)
 | []=>some []
 | .tmp t::l=>(K2 st l).map (st.fr.getD t .undef:: ·)
 | .cell a t::l=>match xH P t (st.fr.getD a .undef) st.h,K2 st l with | some p,some r=>some (p::r) | _,_=>none
def VX:List PV->PV
 | [p]=>p
 | ps=> .tup ps
def p4 (f:Func) (R:Type) (ps:List PV) (h:List Ob) (k:PV->List Ob->Option R):Option R:=
 match f.body with
 | some c=>de P Γ C A c R ⟨ps++List.replicate (f.ntmps - ps.length) .skip,h⟩ fun e st=>
    match e with
    | .exit _=>none
    | .goto _=>none
    | _=>(K2 P st f.results.toList).bind fun ps=>k (VX ps) st.h
 | none=>none
def j7 (x:IV):Bool:=match x with | .lst es=>es.all fun e=>e.all IV.scalar | _=>false
def Tj (sz:Nat) (f:Func) (args:List (List IV)):Option (List IV):=
 match f.body,dC P f.params.toList f.nfree args with
 | some c,some ps=>
   de P Γ C A c (List IV) ⟨ps++List.replicate (f.ntmps - ps.length) .skip,[]⟩ fun e st=>
    match e with
    | .exit _=>none
    | .goto _=>none
    | _=>match f.results.toList with | [.tmp t]=>(vZ st.h sz (st.fr.getD t .undef)).bind fun p=>if j7 p.1=true then some [p.1] else none | _=>none
 | _,_=>none
def R7 (sz:Nat) (f:Func) (x:IV) (args:List (List IV)):Option (List IV):=
 match f.body,dC P (f.params.toList.drop 1) f.nfree args with
 | some c,some ps=>
   if f.results.size=0/\(writes c).contains 0=false then
   de P Γ C A c (List IV) ⟨.buf 0 (bQ x)::ps++List.replicate (f.ntmps - (ps.length+1)) .skip,[.arr .rw sz x]⟩ fun e st=>
    match e with
    | .exit _=>none
    | .goto _=>none
    | _=>match st.fr.getD 0 .undef with | .buf o _=>(match getOb st.h o with | .arr .rw sz' y=>if sz'=sz then some [y] else none | _=>none) | _=>none
   else none
 | _,_=>none
def run (f:Func) (args:List (List IV)):Option (List IV):=
 match f.body,dC P f.params.toList f.nfree args with
 | some c,some ps=>
   de P Γ C A c (List IV) ⟨ps++List.replicate (f.ntmps - ps.length) .skip,[]⟩ fun e st=>
    match e with
    | .exit _=>none
    | .goto _=>none
    | _=>fin A (uJ P st f.results.toList (f.resultTypes.toList.map P.cellsOf))
 | _,_=>none
end
end Go.AM
namespace Go.AM
def C0:IV->List Nat->List (List IV)->Option (List IV):=fun _ _ _=>none
def Fq (g:Nat) (ns:List Nat) (fn:List IV->List (List IV)->Option (List IV)) (rest:IV->List Nat->List (List IV)->Option (List IV)):IV->List Nat->List (List IV)->Option (List IV):=fun x ns' l=>
 match x with
 | .clo (.func n) caps=>if n=g/\ns'=ns then fn caps l else rest x ns' l
 | x=>rest x ns' l
def xf (t:Nat) (name:String) (one:Bool) (ns:List Nat) (fn:List IV->List (List IV)->Option (List IV)) (rest:IV->List Nat->List (List IV)->Option (List IV)):IV->List Nat->List (List IV)->Option (List IV):=fun x ns' l=>
 match x with
 | .map [[.clo (.methodOf t' nm) caps,.bool b,.nilp]]=>if t'=t/\nm=name/\ns'=ns/\b=one then fn caps l else rest x ns' l
 | x=>rest x ns' l
end Go.AM
set_option linter.unusedSimpArgs false
namespace Go.AM
open Go.RowKit
inductive RV (w:World) (ok:Nat->Prop):IV->Value->Prop
 | bool (b:Bool):RV w ok (.bool b) (.bool b)
 | int (k:IntKind) (n:Int):RV w ok (.int k n) (.int k n)
 | flt (k:FloatKind) (n:Nat):RV w ok (.flt k n) (.float k n)
 | str (s:ByteArray):RV w ok (.str s) (.string s)
 | nilp:RV w ok .nilp (.pointer none)
 | nilf:RV w ok .nilf .nilFunc
 | nili:RV w ok .nilf .nilIface
 | ifc (t:TypeId) (x:IV) (v:Value) (h:RV w ok x v):RV w ok (.ifc t false x) (.iface t v)
 | ifc1 (t:TypeId) (x:IV) (v:Value) (h:RV w ok x v):RV w ok (.ifc t true x) (.iface t (.agg #[v]))
 | lst (es:List (List IV)) (a:Option Addr) (cap sz:Nat) (vals:Nat->Nat->Value) (hcap:es.length<=cap) (hsz: ∀e∈es,e.length=sz)
    (hmem: ∀i j,i < es.length->j < sz-> ∃ad,a=some ad/\ok ad.block/\w.cell? (ad.add (i*sz+j))=some (vals i j))
    (hrel: ∀(i j:Nat) (e:List IV) (c:IV),es[i]? =some e->e[j]? =some c->RV w ok c (vals i j)):RV w ok (.lst es) (.slice a es.length cap)
 | ptr (cs:List IV) (j b off:Nat) (vals:Nat->Value) (hok:ok b) (hmem: ∀i,i < cs.length->w.cell? ⟨b,off+i,none⟩=some (vals i))
    (hrel: ∀(i:Nat) (c:IV),cs[i]? =some c->RV w ok c (vals i)):RV w ok (.ptr cs j) (.pointer (some ⟨b,off+j,none⟩))
 | clo (fn:Fn) (caps:List IV) (cv:Array Value) (hlen:caps.length=cv.size)
    (hrel: ∀(i:Nat) (c:IV) (v:Value),caps[i]? =some c->cv[i]? =some v->RV w ok c v):RV w ok (.clo fn caps) (.func fn #[] cv)
 | map (es:List (List IV)) (b:Nat) (me:Array MapEntry) (clock:Nat) (hok:ok b) (hb:w.heap[b]? =some (.map me clock)) (hlen:es.length=me.size) (h2: ∀e∈es,e.length=2)
    (hrel: ∀(i j:Nat) (e:List IV) (c:IV) (x:MapEntry),es[i]? =some e->e[j]? =some c->me[i]? =some x->RV w ok c (if j=0 then x.key else x.val)):RV w ok (.map es) (.map (some b))
structure Keeps (w:World) (ok:Nat->Prop) (w':World) (ok':Nat->Prop):Prop where
 block: ∀b,ok b->w'.heap[b]? =w.heap[b]?
 more: ∀b,ok b->ok' b
theorem Keeps.refl (w:World) (ok:Nat->Prop):Keeps w ok w ok:=⟨fun _ _=>rfl,fun _ h=>h⟩
theorem Keeps.trans {w w1 w2:World} {ok ok1 ok2:Nat->Prop} (h:Keeps w ok w1 ok1) (k:Keeps w1 ok1 w2 ok2):Keeps w ok w2 ok2:=
 ⟨fun b hb=>(k.block b (h.more b hb)).trans (h.block b hb),fun b hb=>k.more b (h.more b hb)⟩
theorem dL {w w':World} {a:Addr} (h:w'.heap[a.block]? =w.heap[a.block]?):w'.cell? a=w.cell? a:=by
 unfold World.cell?;rw [h]
theorem js (a:Addr) (n:Nat):(a.add n).block=a.block:=by unfold Addr.add;split<;>rfl
theorem RV.keeps {w w':World} {ok ok':Nat->Prop} (h:Keeps w ok w' ok') {x:IV} {v:Value} (r:RV w ok x v):RV w' ok' x v:=by
 induction r with
 | bool b=>exact .bool b
 | int k n=>exact .int k n
 | flt k n=>exact .flt k n
 | str s=>exact .str s
 | nilp=>exact .nilp
 | nilf=>exact .nilf
 | nili=>exact .nili
 | ifc t x v h ih=>exact .ifc t x v ih
 | ifc1 t x v h ih=>exact .ifc1 t x v ih
 | lst es a cap sz vals hcap hsz hmem hrel ih=>
   refine .lst es a cap sz vals hcap hsz (fun i j hi hj=> ?_) ih
   obtain ⟨ad,e,ho,hc⟩:=hmem i j hi hj
   refine ⟨ad,e,h.more _ ho,?_⟩
   rw [dL (w:=w) (by rw [js];exact h.block _ ho)];exact hc
 | ptr cs j b off vals hok hmem hrel ih=>
   refine .ptr cs j b off vals (h.more _ hok) (fun i hi=> ?_) ih
   rw [dL (w:=w) (h.block _ hok)];exact hmem i hi
 | clo fn caps cv hlen hrel ih=>exact .clo fn caps cv hlen ih
 | map es b me clock hok hb hlen h2 hrel ih=>exact .map es b me clock (h.more _ hok) ((h.block _ hok).trans hb) hlen h2 ih
def Di (w:World) (ok:Nat->Prop) (b:Nat) (es:List (List IV)):Prop:=
 ∃(me:Array MapEntry) (clock:Nat),w.heap[b]? =some (.map me clock)/\es.length=me.size/\(∀e∈es,e.length=2)/\
  ∀(i j:Nat) (e:List IV) (c:IV) (x:MapEntry),es[i]? =some e->e[j]? =some c->me[i]? =some x->RV w ok c (if j=0 then x.key else x.val)
theorem Di.rv {w:World} {ok:Nat->Prop} {b:Nat} {es:List (List IV)} (h:Di w ok b es) (hok:ok b):RV w ok (.map es) (.map (some b)):=by
 obtain ⟨me,clock,h1,h2,h3,h4⟩:=h
 exact .map es b me clock hok h1 h2 h3 h4
theorem Di.keeps {w w':World} {ok ok':Nat->Prop} (h:Keeps w ok w' ok') {b:Nat} {es:List (List IV)} (r:Di w ok b es) (hb:w'.heap[b]? =w.heap[b]?):Di w' ok' b es:=by
 obtain ⟨me,clock,h1,h2,h3,h4⟩:=r
 exact ⟨me,clock,hb.trans h1,h2,h3,fun i j e c x g1 g2 g3=>(h4 i j e c x g1 g2 g3).keeps h⟩
structure Pl where
 loc:Option (Nat×Nat)
 len:Nat
 sz:Nat
abbrev Mu:=Nat->Option Pl
def Hdr (pl:Pl) (l n cap:Nat) (a:Option Addr):Prop:=
 n<=cap/\((n=0/\cap=0)\/ ∃b base,pl.loc=some (b,base)/\a=some ⟨b,base+l*pl.sz,none⟩)
def TyH (w:World) (pl:Pl) (T:TypeId) (n:Nat) (v:Value):Prop:=
 (v= .slice none 0 0/\n=0/\pl.loc=none)\/ ∃b cap,pl.loc=some (b,0)/\v= .slice (some ⟨b,0,none⟩) n cap/\n<=cap/\cap<=maxLen/\ ∃(c:Array Value) (z:Nat×Nat),w.heap[b]? =some (.cells c T z)/\c.size=cap*pl.sz
def SnH (w:World) (pl:Pl) (T:TypeId) (n:Nat) (v:Value):Prop:=
 ∃b,pl.loc=some (b,0)/\(v= .pointer none\/v= .pointer (some ⟨b,0,none⟩))/\ ∃(c:Array Value) (z:Nat×Nat),w.heap[b]? =some (.cells c T z)/\c.size=n
inductive RP (w:World) (ok:Nat->Prop) (mu:Mu):PV->Value->Prop
 | undef (v:Value):RP w ok mu .undef v
 | skip:RP w ok mu .skip undef
 | imm {x:IV} {v:Value} (h:RV w ok x v):RP w ok mu (.imm x) v
 | nils (a:Option Addr):RP w ok mu .nils (.slice a 0 0)
 | agg (cs:List PV) (vs:Array Value) (hlen:cs.length=vs.size) (hrel: ∀(i:Nat) (p:PV) (v:Value),cs[i]? =some p->vs[i]? =some v->RP w ok mu p v):RP w ok mu (.agg cs) (.agg vs)
 | tup (cs:List PV) (vs:Array Value) (hlen:cs.length=vs.size) (hrel: ∀(i:Nat) (p:PV) (v:Value),cs[i]? =some p->vs[i]? =some v->RP w ok mu p v):RP w ok mu (.tup cs) (.tuple vs)
 | buf (o n:Nat) (a:Option Addr) (cap:Nat) (pl:Pl) (hm:mu o=some pl) (hn:n=pl.len) (hh:Hdr pl 0 n cap a) (hc: ∀b base,pl.loc=some (b,base)-> ∃(c:Array Value) (T:TypeId) (z:Nat×Nat),w.heap[b]? =some (.cells c T z)/\base+cap*pl.sz<=c.size):RP w ok mu (.buf o n) (.slice a n cap)
 | sub (o l h:Nat) (a:Option Addr) (cap:Nat) (pl:Pl) (hm:mu o=some pl) (hl:l<=h) (hn:h<=pl.len) (hh:Hdr pl l (h - l) cap a) (hc: ∀b base,pl.loc=some (b,base)-> ∃(c:Array Value) (T:TypeId) (z:Nat×Nat),w.heap[b]? =some (.cells c T z)/\base+(l+cap)*pl.sz<=c.size):RP w ok mu (.sub o l h) (.slice a (h - l) cap)
 | ptr (o j:Nat) (pl:Pl) (b base:Nat) (hm:mu o=some pl) (hl:pl.loc=some (b,base)):RP w ok mu (.ptr o j) (.pointer (some ⟨b,base+j,none⟩))
 | bptr (o i j:Nat) (pl:Pl) (b base:Nat) (hm:mu o=some pl) (hl:pl.loc=some (b,base)):RP w ok mu (.bptr o i j) (.pointer (some ⟨b,base+i*pl.sz+j,none⟩))
 | eptr (es:List (List IV)) (e:List IV) (i j b off:Nat) (vals:Nat->Value) (hok:ok b) (he:es[i]? =some e) (hmem: ∀q,q < e.length->w.cell? ⟨b,off+q,none⟩=some (vals q))
    (hrel: ∀(q:Nat) (c:IV),e[q]? =some c->RV w ok c (vals q)):RP w ok mu (.eptr (.lst es) i j) (.pointer (some ⟨b,off+j,none⟩))
 | iptr (cs:List IV) (j0 j b off:Nat) (vals:Nat->Value) (hok:ok b) (hmem: ∀q,q < cs.length->w.cell? ⟨b,off+q,none⟩=some (vals q))
    (hrel: ∀(q:Nat) (c:IV),cs[q]? =some c->RV w ok c (vals q)):RP w ok mu (.iptr (.ptr cs j0) j) (.pointer (some ⟨b,off+(j0+j),none⟩))
 | mp (o:Nat) (pl:Pl) (b:Nat) (hm:mu o=some pl) (hl:pl.loc=some (b,0)) (hz:pl.sz=0):RP w ok mu (.mp o) (.map (some b))
 | clo (fn:Fn) (caps:List PV) (cv:Array Value) (hlen:caps.length=cv.size)
    (hrel: ∀(i:Nat) (c:PV) (v:Value),caps[i]? =some c->cv[i]? =some v->RP w ok mu c v):RP w ok mu (.clo fn caps) (.func fn #[] cv)
 | sn (T:TypeId) (n o:Nat) (pl:Pl) (v:Value) (hm:mu o=some pl) (hv:SnH w pl T n v):RP w ok mu (.sn T n o) v
 | tnil:RP w ok mu .tnil (.slice none 0 0)
 | tbuf (T:TypeId) (o n:Nat) (pl:Pl) (v:Value) (hm:mu o=some pl) (hn:n=pl.len) (hv:TyH w pl T n v):RP w ok mu (.tbuf T o n) v
def Sizes (w w':World):Prop:= ∀(b:Nat) (c:Array Value) (T:TypeId) (z:Nat×Nat),w.heap[b]? =some (.cells c T z)-> ∃(c':Array Value) (z':Nat×Nat),w'.heap[b]? =some (.cells c' T z')/\c'.size=c.size
theorem Sizes.refl (w:World):Sizes w w:=fun _ c _ z h=>⟨c,z,h,rfl⟩
theorem Sizes.trans {a b c:World} (h:Sizes a b) (k:Sizes b c):Sizes a c:=fun x u T z hx=>by
 obtain ⟨u',z',h1,h2⟩:=h x u T z hx
 obtain ⟨u2,z2,h3,h4⟩:=k x u' T z' h1
 exact ⟨u2,z2,h3,h4.trans h2⟩
structure Later (w:World) (ok:Nat->Prop) (mu:Mu) (w':World) (ok':Nat->Prop) (mu':Mu):Prop where
 keeps:Keeps w ok w' ok'
 mu: ∀o pl,mu o=some pl->mu' o=some pl
 sizes:Sizes w w'
theorem Later.refl (w:World) (ok:Nat->Prop) (mu:Mu):Later w ok mu w ok mu:=⟨.refl _ _,fun _ _ h=>h,.refl _⟩
theorem Later.trans {w w1 w2:World} {ok ok1 ok2:Nat->Prop} {mu mu1 mu2:Mu} (h:Later w ok mu w1 ok1 mu1) (k:Later w1 ok1 mu1 w2 ok2 mu2):Later w ok mu w2 ok2 mu2:=
 ⟨h.keeps.trans k.keeps,fun o pl e=>k.mu o pl (h.mu o pl e),h.sizes.trans k.sizes⟩
theorem TyH.sizes {w w':World} (h:Sizes w w') {pl:Pl} {T:TypeId} {n:Nat} {v:Value} (r:TyH w pl T n v):TyH w' pl T n v:=by
 rcases r with r | ⟨b,cap,h1,h2,h3,h4,c,z,h5,h6⟩
 ·exact .inl r
 ·obtain ⟨c',z',h7,h8⟩:=h b c T z h5
  exact .inr ⟨b,cap,h1,h2,h3,h4,c',z',h7,h8.trans h6⟩
theorem SnH.sizes {w w':World} (h:Sizes w w') {pl:Pl} {T:TypeId} {n:Nat} {v:Value} (r:SnH w pl T n v):SnH w' pl T n v:=by
 obtain ⟨b,h1,h2,c,z,h5,h6⟩:=r
 obtain ⟨c',z',h7,h8⟩:=h b c T z h5
 exact ⟨b,h1,h2,c',z',h7,h8.trans h6⟩
theorem RP.later {w w':World} {ok ok':Nat->Prop} {mu mu':Mu} (h:Later w ok mu w' ok' mu') {p:PV} {v:Value} (r:RP w ok mu p v):RP w' ok' mu' p v:=by
 induction r with
 | undef v=>exact .undef v
 | skip=>exact .skip
 | imm r=>exact .imm (r.keeps h.keeps)
 | nils a=>exact .nils a
 | agg cs vs hlen hrel ih=>exact .agg cs vs hlen ih
 | tup cs vs hlen hrel ih=>exact .tup cs vs hlen ih
 | buf o n a cap pl hm hn hh hc=>
   refine .buf o n a cap pl (h.mu _ _ hm) hn hh fun b base hl=> ?_
   obtain ⟨c,T,z,h1,h2⟩:=hc b base hl
   obtain ⟨c',z',h3,h4⟩:=h.sizes b c T z h1
   exact ⟨c',T,z',h3,by omega⟩
 | sub o l u a cap pl hm hl hn hh hc=>
   refine .sub o l u a cap pl (h.mu _ _ hm) hl hn hh fun b base hl=> ?_
   obtain ⟨c,T,z,h1,h2⟩:=hc b base hl
   obtain ⟨c',z',h3,h4⟩:=h.sizes b c T z h1
   exact ⟨c',T,z',h3,by omega⟩
 | ptr o j pl b base hm hl=>exact .ptr o j pl b base (h.mu _ _ hm) hl
 | bptr o i j pl b base hm hl=>exact .bptr o i j pl b base (h.mu _ _ hm) hl
 | eptr es e i j b off vals hok he hmem hrel=>
   exact .eptr es e i j b off vals (h.keeps.more _ hok) he (fun q hq=>(dL (w:=w) (h.keeps.block _ hok)).trans (hmem q hq)) fun q c hc=>(hrel q c hc).keeps h.keeps
 | iptr cs j0 j b off vals hok hmem hrel=>
   exact .iptr cs j0 j b off vals (h.keeps.more _ hok) (fun q hq=>(dL (w:=w) (h.keeps.block _ hok)).trans (hmem q hq)) fun q c hc=>(hrel q c hc).keeps h.keeps
 | mp o pl b hm hl hz=>exact .mp o pl b (h.mu _ _ hm) hl hz
 | clo fn caps cv hlen hrel ih=>exact .clo fn caps cv hlen ih
 | sn T n o pl v hm hv=>exact .sn T n o pl v (h.mu _ _ hm) (hv.sizes h.sizes)
 | tnil=>exact .tnil
 | tbuf T o n pl v hm hn hv=>exact .tbuf T o n pl v (h.mu _ _ hm) hn (hv.sizes h.sizes)
def uH (w:World) (ok:Nat->Prop) (pl:Pl) (sz:Nat) (x:IV):Prop:=
 pl.sz=sz/\ ∃es,x= .lst es/\es.length=pl.len/\(∀e∈es,e.length=sz)/\(pl.loc=none->es=[])/\
     ∀b base,pl.loc=some (b,base)-> ∃(c:Array Value) (T:TypeId),w.heap[b]? =some (.cells c T (0,0))/\base+es.length*sz<=c.size/\ ∀(i j:Nat) (e:List IV) (x:IV),es[i]? =some e->e[j]? =some x-> ∃v:Value,c[base+i*sz+j]? =some v/\RV w ok x v
def ObOk (w:World) (ok:Nat->Prop) (mu:Mu) (pl:Pl):Ob->Prop
 | .dead=>True
 | .box m cs=> ∃(b base:Nat) (c:Array Value) (T:TypeId),pl.loc=some (b,base)/\w.heap[b]? =some (.cells c T (0,0))/\base+cs.length<=c.size/\(∀(j:Nat) (p:PV),cs[j]? =some p-> ∃v:Value,c[base+j]? =some v/\RP w ok mu p v)
 | .arr m sz x=>(0 < sz/\uH w ok pl sz x)\/(pl.sz=sz/\ ∃es b,x= .map es/\pl.loc=some (b,0)/\Di w ok b es)
theorem ObOk.sz {w:World} {ok:Nat->Prop} {mu:Mu} {pl:Pl} {m:Md} {sz:Nat} {x:IV} (h:ObOk w ok mu pl (.arr m sz x)):pl.sz=sz:=by
 rcases h with h | h
 ·exact h.2.1
 ·exact h.1
theorem ObOk.arrN {w:World} {ok:Nat->Prop} {mu:Mu} {pl:Pl} {m:Md} {sz:Nat} {x:IV} (h:ObOk w ok mu pl (.arr m sz x)) (hx: ∀es,x≠ .map es):uH w ok pl sz x:=by
 rcases h with h | ⟨_,es,b,h1,_⟩
 ·exact h.2
 ·exact absurd h1 (hx es)
theorem ObOk.arrC {w:World} {ok:Nat->Prop} {mu:Mu} {pl:Pl} {m:Md} {sz:Nat} {x:IV} (h:ObOk w ok mu pl (.arr m sz x)) {p:Nat->Nat->Array Value->Prop} (hc: ∀b base,pl.loc=some (b,base)-> ∃(c:Array Value) (T:TypeId) (z:Nat×Nat),w.heap[b]? =some (.cells c T z)/\p b base c):uH w ok pl sz x:=by
 rcases h with h | ⟨_,es,b,h1,h2,me,clock,h3,_⟩
 ·exact h.2
 ·obtain ⟨c,T,z,h4,_⟩:=hc b 0 h2
  rw [h3] at h4;cases h4
theorem ObOk.pos {w:World} {ok:Nat->Prop} {mu:Mu} {pl:Pl} {m:Md} {sz:Nat} {x:IV} (h:ObOk w ok mu pl (.arr m sz x)) (hx: ∀es,x≠ .map es):0 < sz:=by
 rcases h with h | ⟨_,es,b,h1,_⟩
 ·exact h.1
 ·exact absurd h1 (hx es)
theorem ObOk.posC {w:World} {ok:Nat->Prop} {mu:Mu} {pl:Pl} {m:Md} {sz:Nat} {x:IV} (h:ObOk w ok mu pl (.arr m sz x)) {p:Nat->Nat->Array Value->Prop} (hc: ∀b base,pl.loc=some (b,base)-> ∃(c:Array Value) (T:TypeId) (z:Nat×Nat),w.heap[b]? =some (.cells c T z)/\p b base c):0 < sz:=by
 rcases h with h | ⟨_,es,b,h1,h2,me,clock,h3,_⟩
 ·exact h.1
 ·obtain ⟨c,T,z,h4,_⟩:=hc b 0 h2
  rw [h3] at h4;cases h4
theorem ObOk.mapZ {w:World} {ok:Nat->Prop} {mu:Mu} {pl:Pl} {m:Md} {sz:Nat} {x:IV} (h:ObOk w ok mu pl (.arr m sz x)) (hz:pl.sz=0) {b base:Nat} (hl:pl.loc=some (b,base)):sz=0/\ ∃es,x= .map es/\Di w ok b es:=by
 have hsz:=h.sz
 refine ⟨by omega,?_⟩
 rcases h with h | ⟨h0,es,b',h1,h2,h3⟩
 ·have:=h.1;omega
 ·rw [hl] at h2;cases h2
  exact ⟨es,h1,h3⟩
def Ob.live:Ob->Bool
 | .dead=>false
 | _=>true
def Ob.fz:Ob->Bool
 | .box .fz _ | .arr .fz _ _=>true
 | _=>false
structure O0 where
 ok:Nat->Prop
 lent:Nat->Prop
def Own0 (w0:World) (ok0:O0) (b:Nat):Prop:=w0.heap.size<=b\/ok0.lent b
structure BelowM (m:Nat->Prop) (B:Nat) (w w':World):Prop where
 os:w'.os=w.os
 tape:w'.tape=w.tape
 output:w'.output=w.output
 size:w.heap.size<=w'.heap.size
 block: ∀k,k < B-> ¬m k->w'.heap[k]? =w.heap[k]?
theorem BelowM.refl (m:Nat->Prop) (B:Nat) (w:World):BelowM m B w w:=⟨rfl,rfl,rfl,Nat.le_refl _,fun _ _ _=>rfl⟩
theorem BelowM.trans {m:Nat->Prop} {B:Nat} {a b c:World} (h:BelowM m B a b) (k:Below B b c):BelowM m B a c:=
 ⟨k.os.trans h.os,k.tape.trans h.tape,k.output.trans h.output,Nat.le_trans h.size k.size,fun i hi hm=>(k.block i hi).trans (h.block i hi hm)⟩
theorem BelowM.below {m:Nat->Prop} {B:Nat} {a b:World} (h:BelowM m B a b) (hm: ∀k,¬m k):Below B a b:=⟨h.os,h.tape,h.output,h.size,fun k hk=>h.block k hk (hm k)⟩
theorem Own0.ne {w0:World} {ok0:O0} {b k:Nat} (h:Own0 w0 ok0 b) (hk:k < w0.heap.size) (hm: ¬ok0.lent k):k≠b:=fun e=>by
 subst e
 rcases h with h | h
 ·omega
 ·exact hm h
structure Inv (w0:World) (ok0:O0) (w:World) (ok:Nat->Prop) (mu:Mu) (h:List Ob):Prop where
 below:BelowM ok0.lent w0.heap.size w0 w
 okw: ∀b,ok b->b < w.heap.size
 okb: ∀b,ok b->ok0.ok b\/Own0 w0 ok0 b
 ob: ∀o pl,mu o=some pl->ObOk w ok mu pl (getOb h o)
 own: ∀o pl b base,mu o=some pl->pl.loc=some (b,base)->Own0 w0 ok0 b/\b < w.heap.size/\((getOb h o).live=true->(getOb h o).fz=false-> ¬ok b)
 inj: ∀o o' pl pl' b base base',mu o=some pl->mu o'=some pl'->pl.loc=some (b,base)->pl'.loc=some (b,base')->(getOb h o).live=true->(getOb h o').live=true->o=o'
structure Fr (w:World) (ok:Nat->Prop) (mu:Mu) (fr:List PV) (tmps:Array Value):Prop where
 size:fr.length=tmps.size
 rel: ∀(t:Nat) (p:PV) (v:Value),fr[t]? =some p->tmps[t]? =some v->RP w ok mu p v
theorem Fr.later {w w':World} {ok ok':Nat->Prop} {mu mu':Mu} {fr:List PV} {tmps:Array Value} (h:Later w ok mu w' ok' mu') (r:Fr w ok mu fr tmps):Fr w' ok' mu' fr tmps:=
 ⟨r.size,fun t p v h1 h2=>(r.rel t p v h1 h2).later h⟩
theorem Fr.set {w:World} {ok:Nat->Prop} {mu:Mu} {fr:List PV} {tmps:Array Value} (r:Fr w ok mu fr tmps) (t:Nat) {p:PV} {v:Value} (h:RP w ok mu p v):Fr w ok mu (fr.set t p) (tmps.setIfInBounds t v):=by
 refine ⟨by simp [r.size],fun u q x h1 h2=> ?_⟩
 by_cases e:t=u
 ·subst e
  rw [List.getElem?_set] at h1
  rw [Array.getElem?_setIfInBounds] at h2
  simp only [if_true] at h1 h2
  split at h1
  ·split at h2
   ·cases h1;cases h2;exact h
   ·cases h2
  ·cases h1
 ·rw [List.getElem?_set_ne e] at h1
  rw [Array.getElem?_setIfInBounds_ne e] at h2
  exact r.rel u q x h1 h2
theorem Fr.forget1 {w:World} {ok:Nat->Prop} {mu:Mu} {fr:List PV} {tmps:Array Value} (r:Fr w ok mu fr tmps) (t:Nat):Fr w ok mu (fr.set t .undef) tmps:=by
 refine ⟨by simp [r.size],fun u q x h1 h2=> ?_⟩
 by_cases e:t=u
 ·subst e
  rw [List.getElem?_set] at h1
  simp only [if_true] at h1
  split at h1
  ·cases h1;exact .undef x
  ·cases h1
 ·rw [List.getElem?_set_ne e] at h1
  exact r.rel u q x h1 h2
theorem Fr.forget {w:World} {ok:Nat->Prop} {mu:Mu} {tmps:Array Value} (l:List Nat): ∀{fr:List PV},Fr w ok mu fr tmps->Fr w ok mu (AM.forget fr l) tmps:=by
 induction l with
 | nil=>exact fun r=>r
 | cons t l ih=>exact fun r=>ih (r.forget1 t)
theorem RP.iI (w:World) (ok:Nat->Prop) (mu:Mu) (v:Value):RP w ok mu (AM.iI v) v:=by
 unfold AM.iI
 split<;>first | exact .imm (.bool _) | exact .imm (.int _ _) | exact .imm (.flt _ _) | exact .imm (.str _) | exact .imm .nilp | exact .imm .nilf | exact .nils _ | exact .undef _
theorem RP.ig (w:World) (ok:Nat->Prop) (mu:Mu) (v:Value):RP w ok mu (AM.ig v) v:=by
 unfold AM.ig
 split
 ·rename_i cs
  refine .agg _ _ (by simp) fun i p v h1 h2=> ?_
  rw [List.getElem?_map] at h1
  rw [<-Array.getElem?_toList] at h2
  rw [h2] at h1
  cases h1
  exact .iI w ok mu v
 ·exact .iI w ok mu v
theorem Fr.ev {w:World} {ok:Nat->Prop} {mu:Mu} {fr:List PV} {a:Act} (r:Fr w ok mu fr a.tmps) (x:Operand):RP w ok mu (AM.ev fr x) (a.eval x):=by
 cases x with
 | tmp t=>
   show RP w ok mu (fr.getD t .undef) (a.tmps.getD t Go.undef)
   by_cases h:t < fr.length
   ·have h':t < a.tmps.size:=by rw [<-r.size];exact h
    have h1:fr[t]? =some fr[t]:=List.getElem?_eq_getElem h
    have h2:a.tmps[t]? =some a.tmps[t]:=Array.getElem?_eq_getElem h'
    simp only [List.getD_eq_getElem?_getD,h1,Option.getD_some,Array.getD_eq_getD_getElem?,h2]
    exact r.rel t _ _ h1 h2
   ·have h1:fr[t]? =none:=List.getElem?_eq_none (Nat.le_of_not_lt h)
    simp only [List.getD_eq_getElem?_getD,h1,Option.getD_none]
    exact .undef _
 | const v=>exact .ig w ok mu v
 | global g=>exact .undef _
 | func f=>exact .imm (.clo _ _ _ rfl (fun i c v h _=>by simp at h))
end Go.AM
namespace Go.AM
open Go.RowKit
def fI (P:Program) (o:Oper) (a:Act) (w:World) (R:Value->World->Prop):Prop:=
 ∀(next:Act->World->Prop) (Q:Exit->Act->World->Prop),(∀v w',R v w'->next (a.put o.dst v) w')->o.wp P a w next Q
section
variable {P:Program} {o:Oper} {a:Act} {w:World} {R:Value->World->Prop}
theorem fI.value {v:Value} {w':World} (h:(execOp a.eval o).run P w= .ok (.value v) w') (hR:R v w'):fI P o a w R:=fun next Q hn=>by
 unfold Oper.wp;rw [h];exact hn v w' hR
theorem fI.skip {w':World} (h:(execOp a.eval o).run P w= .ok .skip w') (hR:R undef w'):fI P o a w R:=fun next Q hn=>by
 unfold Oper.wp;rw [h];exact hn undef w' hR
theorem fI.enter {f:FuncId} {args:Array Value} {w1:World} (h:(execOp a.eval o).run P w= .ok (.enter f args) w1) (hc:Calls P f args w1 fun e w'=> ∃v,e= .returned v/\R v w'):fI P o a w R:=fun next Q hn=>by
 unfold Oper.wp;rw [h]
 refine Calls.mono hc fun e w' he=> ?_
 obtain ⟨v,rfl,hR⟩:=he
 exact hn v w' hR
theorem fI.mono {R':Value->World->Prop} (h:fI P o a w R) (hr: ∀v w',R v w'->R' v w'):fI P o a w R':=fun next Q hn=>h next Q fun v w' hR=>hn v w' (hr v w' hR)
end
theorem eU {P:Program} {w w':World} {s:Sem Value} {v:Value} (h:s.run P w= .ok v w'):(do pure (Next.value (<-s)):Sem Next).run P w= .ok (.value v) w':=by
 simp [Sem.run_bind,h,Result.andThen]
theorem FY {P:Program} {w w':World} {s:Sem Unit} (h:s.run P w= .ok () w'):(do s;pure Next.skip:Sem Next).run P w= .ok .skip w':=by
 simp [Sem.run_bind,h,Result.andThen]
theorem ed {α β:Type} {f:α->Option β}: ∀{cs:List α} {l:List β},cs.mapM f=some l->l.length=cs.length/\ ∀(i:Nat) (c:α),cs[i]? =some c-> ∃x:β,l[i]? =some x/\f c=some x
 | [],l,h=>by simp at h;subst h;simp
 | c::cs,l,h=>by
   simp only [List.mapM_cons] at h
   cases h1:f c with
   | none=>simp [h1] at h
   | some x=>
     cases h2:cs.mapM f with
     | none=>simp [h1,h2] at h
     | some xs=>
       simp [h1,h2] at h
       subst h
       obtain ⟨hl,hg⟩:=ed h2
       refine ⟨by simp [hl],fun i d hd=> ?_⟩
       cases i with
       | zero=>simp at hd;subst hd;exact ⟨x,by simp,h1⟩
       | succ i=>simpa using hg i d (by simpa using hd)
structure InvQ (w:World) (ok:Nat->Prop) (mu:Mu) (h:List Ob):Prop where
 okw: ∀b,ok b->b < w.heap.size
 ob: ∀o pl,mu o=some pl->ObOk w ok mu pl (getOb h o)
 loc: ∀o pl b base,mu o=some pl->pl.loc=some (b,base)->b < w.heap.size
theorem Inv.q {w0:World} {ok0:O0} {w:World} {ok:Nat->Prop} {mu:Mu} {h:List Ob} (i:Inv w0 ok0 w ok mu h):InvQ w ok mu h:=
 ⟨i.okw,i.ob,fun o pl b base h1 h2=>(i.own o pl b base h1 h2).2.1⟩
def Blk (mu:Mu) (l:List Nat) (b:Nat):Prop:= ∃o∈l,∃pl base,mu o=some pl/\pl.loc=some (b,base)
def fX (ok:Nat->Prop) (mu:Mu) (l:List Nat):Nat->Prop:=fun b=>ok b\/Blk mu l b
theorem fX.sub {ok:Nat->Prop} {mu:Mu} {l l':List Nat} (hs: ∀o∈l,o∈l') {b:Nat} (h:fX ok mu l b):fX ok mu l' b:=by
 rcases h with h | ⟨o,ho,r⟩
 ·exact .inl h
 ·exact .inr ⟨o,hs o ho,r⟩
theorem RV.more {w:World} {ok ok':Nat->Prop} (h: ∀b,ok b->ok' b) {x:IV} {v:Value} (r:RV w ok x v):RV w ok' x v:=r.keeps ⟨fun _ _=>rfl,h⟩
theorem RV.scalar {w w':World} {ok ok':Nat->Prop} {x:IV} {v:Value} (r:RV w ok x v) (hs:x.scalar=true):RV w' ok' x v:=by
 cases r<;>first | exact .bool _ | exact .int _ _ | exact .flt _ _ | exact .str _ | exact .nilp | exact .nilf | exact .nili | (simp [IV.scalar] at hs)
theorem eu {w:World} {b:Nat} {c:Array Value} {T:TypeId} {fr:Nat×Nat} (h:w.heap[b]? =some (.cells c T fr)) (i:Nat):w.cell? ⟨b,i,none⟩=c[i]? :=by
 unfold World.cell?;simp [h]
theorem cg (b o n:Nat):(⟨b,o,none⟩:Addr).add n=⟨b,o+n,none⟩:=by unfold Addr.add;split<;>simp_all
theorem RV.atomic {w:World} {ok:Nat->Prop} {x:IV} {v:Value} (r:RV w ok x v):v.oneCell'=true:=by cases r<;>rfl
theorem RP.atomic {w:World} {ok:Nat->Prop} {mu:Mu} {p:PV} {v:Value} (r:RP w ok mu p v) (h:p.atom=true):v.oneCell'=true:=by
 cases r with
 | imm r=>exact r.atomic
 | undef | skip | agg | tup | sn | tbuf | tnil=>simp [PV.atom] at h
 | _=>rfl
section
variable {w:World} {ok:Nat->Prop} {mu:Mu} {h:List Ob}
theorem Wa {pl:Pl} {es:List (List IV)} {sz:Nat} (hsz:pl.sz=sz) (he: ∀e∈es,e.length=sz) {o:Nat} (hm:mu o=some pl) (hnone:pl.loc=none->es=[])
  (hc: ∀b base,pl.loc=some (b,base)-> ∃(c:Array Value) (T:TypeId),w.heap[b]? =some (.cells c T (0,0))/\base+es.length*sz<=c.size/\ ∀(i j:Nat) (e:List IV) (x:IV),es[i]? =some e->e[j]? =some x-> ∃v:Value,c[base+i*sz+j]? =some v/\RV w ok x v)
  {a:Option Addr} {l u cap:Nat} (hl:l<=u) (hu:u<=es.length) (hh:Hdr pl l (u - l) cap a):RV w (fX ok mu [o]) (.lst ((es.drop l).take (u - l))) (.slice a (u - l) cap):=by
 have hlen:((es.drop l).take (u - l)).length=u - l:=by simp;omega
 have key:RV w (fX ok mu [o]) (.lst ((es.drop l).take (u - l))) (.slice a ((es.drop l).take (u - l)).length cap):=by
  rcases hh.2 with ⟨h0,h1⟩ | ⟨b,base,hb,ha⟩
  ·have hnil:(es.drop l).take (u - l)=[]:=by rw [h0];simp
   rw [hnil]
   exact .lst [] a cap sz (fun _ _=>undef) (by simp) (by simp) (fun i j hi=>by simp at hi) (fun i j e c h=>by simp at h)
  ·obtain ⟨c,T,hw,hs,hr⟩:=hc b base hb
   refine .lst _ a cap sz (fun i j=>(c[base+(l+i)*sz+j]?).getD undef) (by rw [hlen];exact hh.1) (fun e hm=>he e (List.mem_of_mem_drop (List.mem_of_mem_take hm))) (fun i j hi hj=> ?_) (fun i j e x h1 h2=> ?_)
   ·rw [hlen] at hi
    refine ⟨_,ha,.inr ⟨o,by simp,pl,base,hm,hb⟩,?_⟩
    rw [cg,eu hw,hsz]
    have:base+l*sz+(i*sz+j)=base+(l+i)*sz+j:=by rw [Nat.add_mul];omega
    rw [this]
    have hlt:base+(l+i)*sz+j < c.size:=by
     have:(l+i)*sz+j < es.length*sz:=by
      calc (l+i)*sz+j < (l+i)*sz+sz:=by omega
       _=(l+i+1)*sz:=by rw [Nat.succ_mul]
       _<=es.length*sz:=Nat.mul_le_mul_right _ (by omega)
     omega
    simp [hlt]
   ·have hi:i < u - l:=by
     have:=(List.getElem?_eq_some_iff.1 h1).1;rw [hlen] at this;exact this
    have h1':es[l+i]? =some e:=by
     rw [List.getElem?_take_of_lt hi,List.getElem?_drop] at h1;exact h1
    obtain ⟨v,hv,hrv⟩:=hr (l+i) j e x h1' h2
    rw [hv]
    exact hrv.more fun b hb=> .inl hb
 rwa [hlen] at key
theorem Bo (es:List (List IV)) (l u:Nat):ze (.lst es) l u= .lst ((es.drop l).take (u - l)):=rfl
theorem l7 (iq:InvQ w ok mu h): ∀(n:Nat) (p:PV) (x:IV) (v:Value),mH h n p=some x->RP w ok mu p v->RV w (fX ok mu (refs h n p)) x v:=by
 intro n
 induction n with
 | zero=>intro p x v hx;simp [mH] at hx
 | succ n ih=>
   intro p x v hx r
   cases p with
   | imm y=>simp only [mH,Option.some.injEq] at hx;subst hx;cases r with | imm r=>exact r.more fun b hb=> .inl hb
   | nils=>
     simp only [mH,Option.some.injEq] at hx;subst hx
     cases r
     exact .lst [] _ 0 0 (fun _ _=>undef) (by simp) (by simp) (fun i j hi=>by simp at hi) (fun i j e c h=>by simp at h)
   | buf o m=>
     simp only [mH] at hx
     cases r with
     | buf o m a cap pl hm hn hh hc=>
       have hob:=iq.ob o pl hm
       split at hx
       ·rename_i md sz y hg
        cases hx
        rw [hg] at hob
        obtain ⟨hsz,es,rfl,hlen,he,hnone,hcell⟩:=hob.arrC hc
        have:=Wa (ok:=ok) (mu:=mu) hsz he hm hnone hcell (l:=0) (u:=es.length) (Nat.zero_le _) (Nat.le_refl _) (a:=a) (cap:=cap) (by simpa [hn,hlen] using hh)
        have htake:(es.drop 0).take (es.length - 0)=es:=by simp
        rw [htake] at this
        simpa [refs,hn,hlen] using this
       ·cases hx
   | sub o l u=>
     simp only [mH] at hx
     cases r with
     | sub o l u a cap pl hm hl hn hh hc=>
       have hob:=iq.ob o pl hm
       split at hx
       ·rename_i md sz y hg
        cases hx
        rw [hg] at hob
        obtain ⟨hsz,es,rfl,hlen,he,hnone,hcell⟩:=hob.arrC hc
        have:=Wa (ok:=ok) (mu:=mu) hsz he hm hnone hcell hl (u:=u) (by omega) hh
        simpa [refs,Bo] using this
       ·cases hx
   | ptr o j=>
     simp only [mH] at hx
     cases r with
     | ptr o j pl b base hm hl=>
       have hob:=iq.ob o pl hm
       split at hx
       ·rename_i md cs hg
        cases hmm:cs.mapM (mH h n) with
        | none=>rw [hmm] at hx;simp at hx
        | some l=>
          rw [hmm] at hx
          simp only [Option.map_some,Option.some.injEq] at hx
          subst hx
          rw [hg] at hob
          obtain ⟨b',base',c,T,hl',hw,hs,hr⟩:=hob
          rw [hl] at hl'
          cases hl'
          obtain ⟨hlen,hget⟩:=ed hmm
          refine .ptr l j b base (fun i=>(c[base+i]?).getD undef) (.inr ⟨o,by simp [refs],pl,base,hm,hl⟩) (fun i hi=> ?_) fun i y hy=> ?_
          ·rw [eu hw]
           have:base+i < c.size:=by omega
           simp [this]
          ·have hi:i < cs.length:=by rw [<-hlen];exact (List.getElem?_eq_some_iff.1 hy).1
           obtain ⟨y',h1,h2⟩:=hget i cs[i] (List.getElem?_eq_getElem hi)
           rw [h1] at hy
           cases hy
           obtain ⟨v,hv,hrp⟩:=hr i cs[i] (List.getElem?_eq_getElem hi)
           rw [hv]
           refine (ih _ _ _ h2 hrp).more fun b hb=>fX.sub (fun o' ho'=> ?_) hb
           simp only [refs,hg,List.mem_cons,List.mem_flatMap]
           exact .inr ⟨cs[i],List.getElem_mem hi,ho'⟩
       ·cases hx
   | mp o=>
     simp only [mH] at hx
     cases r with
     | mp o pl b hm hl hz=>
       have hob:=iq.ob o pl hm
       split at hx
       ·rename_i md sz y hg
        cases hx
        rw [hg] at hob
        obtain ⟨_,es,rfl,hmap⟩:=hob.mapZ hz hl
        refine (hmap.keeps ⟨fun _ _=>rfl,fun b hb=> .inl hb⟩ rfl).rv (.inr ⟨o,by simp [refs],pl,0,hm,hl⟩)
       ·cases hx
   | sn T n o=>simp [mH] at hx
   | tbuf T o n=>simp [mH] at hx
   | tnil=>simp [mH] at hx
   | clo fn caps=>
     simp only [mH] at hx
     cases r with
     | clo fn caps cv hlen hrel=>
       cases hmm:caps.mapM (mH h n) with
       | none=>rw [hmm] at hx;simp at hx
       | some l=>
         rw [hmm] at hx
         simp only [Option.map_some,Option.some.injEq] at hx
         subst hx
         obtain ⟨hl2,hget⟩:=ed hmm
         refine .clo fn l cv (by rw [hl2,hlen]) fun i y v hy hv=> ?_
         have hi:i < caps.length:=by rw [<-hl2];exact (List.getElem?_eq_some_iff.1 hy).1
         obtain ⟨y',h1,h2⟩:=hget i caps[i] (List.getElem?_eq_getElem hi)
         rw [h1] at hy
         cases hy
         refine (ih _ _ _ h2 (hrel i _ v (List.getElem?_eq_getElem hi) hv)).more fun b hb=>fX.sub (fun o' ho'=> ?_) hb
         simp only [refs,List.mem_flatMap]
         exact ⟨caps[i],List.getElem_mem hi,ho'⟩
   | undef | skip | agg _ | tup _ | bptr _ _ _ | eptr _ _ _ | iptr _ _=>simp [mH] at hx
end
end Go.AM
namespace Go.AM
open Go.RowKit
structure Grow (w:World) (ok:Nat->Prop) (mu:Mu) (n:Nat) (news:List Ob) (fz:List Nat) (p:PV) (v:Value) (w':World) (ok':Nat->Prop) (mu':Mu):Prop where
 below:Below w.heap.size w w'
 more: ∀b,ok b->ok' b
 new: ∀b,ok' b->ok b\/(w.heap.size<=b/\b < w'.heap.size)\/Blk mu fz b
 same: ∀o,o≠n->mu' o=mu o
 obs:(news=[]/\mu' n=mu n)\/ ∃ob pl,news=[ob]/\mu' n=some pl/\ob.live=true/\ObOk w' ok' mu' pl ob/\ ∀b base,pl.loc=some (b,base)->w.heap.size<=b/\b < w'.heap.size/\ ¬ok' b
 rp:RP w' ok' mu' p v
def aq (P:Program) (o:Oper) (a:Act) (w:World) (ok:Nat->Prop) (mu:Mu) (h:List Ob) (p:PV) (h':List Ob):Prop:=
 ∃news fz h1,qK h fz=some h1/\h'=h1++news/\fI P o a w fun v w'=> ∃ok' mu',Grow w ok mu h.length news fz p v w' ok' mu'
theorem Grow.refl {w:World} {ok:Nat->Prop} {mu:Mu} {n:Nat} {p:PV} {v:Value} (r:RP w ok mu p v):Grow w ok mu n [] [] p v w ok mu:=
 ⟨.refl _ _,fun _ h=>h,fun _ h=> .inl h,fun _ _=>rfl,.inl ⟨rfl,rfl⟩,r⟩
theorem Grow.later {w:World} {ok:Nat->Prop} {mu:Mu} {n:Nat} {news:List Ob} {fz:List Nat} {p:PV} {v:Value} {w':World} {ok':Nat->Prop} {mu':Mu} (g:Grow w ok mu n news fz p v w' ok' mu') (hok: ∀b,ok b->b < w.heap.size) (hn:mu n=none):Later w ok mu w' ok' mu':=by
 refine ⟨⟨fun b hb=>g.below.block b (hok b hb),g.more⟩,fun o pl e=> ?_,fun b c T z hb=>⟨c,z,?_,rfl⟩⟩
 ·by_cases ho:o=n
  ·subst ho;rw [hn] at e;cases e
  ·rw [g.same o ho];exact e
 ·rw [g.below.block b (Array.getElem?_eq_some_iff.1 hb).1];exact hb
section
variable {P:Program} {o:Oper} {a:Act} {w:World} {ok:Nat->Prop} {mu:Mu} {h:List Ob}
theorem aq.value {p:PV} {v:Value} (hrun:(execOp a.eval o).run P w= .ok (.value v) w) (r:RP w ok mu p v):aq P o a w ok mu h p h:=
 ⟨[],[],h,rfl,by simp,fI.value hrun ⟨ok,mu,Grow.refl r⟩⟩
theorem aq.val {p:PV} {v:Value} {s:Sem Value} (he:execOp a.eval o=(do pure (Next.value (<-s)))) (hrun:s.run P w= .ok v w) (r:RP w ok mu p v):aq P o a w ok mu h p h:=
 aq.value (by rw [he];exact eU hrun) r
theorem Grow.fresh {cells:Array Value} {T:TypeId} {ob:Ob} {pl:Pl} {p:PV} {v:Value} (hloc:pl.loc=some (w.heap.size,0)) (hlive:ob.live=true) (hokw: ∀b,ok b->b < w.heap.size)
  (hob:ObOk (w.alloc (.cells cells T)) ok (fun o=>if o=h.length then some pl else mu o) pl ob) (hn:mu h.length=none)
  (hr:RP (w.alloc (.cells cells T)) ok (fun o=>if o=h.length then some pl else mu o) p v):
  Grow w ok mu h.length [ob] [] p v (w.alloc (.cells cells T)) ok (fun o=>if o=h.length then some pl else mu o):=by
 refine ⟨(Below.refl _ _).alloc (Nat.le_refl _) _,fun _ hb=>hb,fun _ hb=> .inl hb,fun o ho=>by simp [ho],.inr ⟨ob,pl,rfl,by simp,hlive,hob,fun b base hb=> ?_⟩,hr⟩
 rw [hloc] at hb
 cases hb
 exact ⟨Nat.le_refl _,by show w.heap.size < (w.heap.push _).size;simp,fun hb=>by have:=hokw _ hb;omega⟩
theorem ea (w:World) (ob:Obj):(w.alloc ob).heap[w.heap.size]? =some ob:=by show (w.heap.push ob)[w.heap.size]? =some ob;simp
theorem Dm (ob:Obj) (hok: ∀b,ok b->b < w.heap.size) {n:Nat} {pl:Pl} (hn:mu n=none):Later w ok mu (w.alloc ob) ok (fun o=>if o=n then some pl else mu o):=by
 refine ⟨⟨fun b hb=>Below.heap_alloc w ob b (hok b hb),fun _ hb=>hb⟩,fun o q e=> ?_,fun b c T z hb=>⟨c,z,?_,rfl⟩⟩
 ·by_cases ho:o=n
  ·subst ho;rw [hn] at e;cases e
  ·simp [ho,e]
 ·rw [Below.heap_alloc w ob b (Array.getElem?_eq_some_iff.1 hb).1];exact hb
theorem RP.cellsRel {p:PV} {v:Value} (r:RP w ok mu p v) (hw:p.whole=true):v.cells.size=p.cells.length/\ ∀(j:Nat) (q:PV),p.cells[j]? =some q-> ∃u:Value,v.cells[j]? =some u/\RP w ok mu q u:=by
 have single:p.cells=[p]->v.cells= #[v]->v.cells.size=p.cells.length/\ ∀(j:Nat) (q:PV),p.cells[j]? =some q-> ∃u:Value,v.cells[j]? =some u/\RP w ok mu q u:=by
  intro e1 e2
  rw [e1,e2]
  refine ⟨rfl,fun j q hj=> ?_⟩
  cases j with
  | zero=>simp at hj;subst hj;exact ⟨v,by simp,r⟩
  | succ j=>simp at hj
 cases r with
 | undef=>simp [PV.whole,PV.atom] at hw
 | skip=>simp [PV.whole,PV.atom] at hw
 | tup=>simp [PV.whole,PV.atom] at hw
 | sn=>simp [PV.whole,PV.atom] at hw
 | tbuf=>simp [PV.whole,PV.atom] at hw
 | tnil=>simp [PV.whole,PV.atom] at hw
 | agg cs vs hlen hrel=>
   refine ⟨hlen.symm,fun j q hj=> ?_⟩
   have hj':j < vs.size:=by rw [<-hlen];exact (List.getElem?_eq_some_iff.1 hj).1
   exact ⟨vs[j],Array.getElem?_eq_getElem hj',hrel j q _ hj (Array.getElem?_eq_getElem hj')⟩
 | imm r=>exact single rfl (by cases r<;>rfl)
 | _=>exact single rfl rfl
theorem Me (z:Value):(iI z).cells=[iI z]:=by unfold iI;split<;>rfl
theorem iB (z:Value):(ig z).cells.length=z.cells.size/\ ∀(j:Nat) (q:PV),(ig z).cells[j]? =some q-> ∃u:Value,z.cells[j]? =some u/\RP w ok mu q u:=by
 by_cases hz: ∃cs,z= .agg cs
 ·obtain ⟨cs,rfl⟩:=hz
  refine ⟨by simp [ig,PV.cells,Value.cells],fun j q hj=> ?_⟩
  simp only [ig,PV.cells,List.getElem?_map] at hj
  cases hc:cs.toList[j]? with
  | none=>rw [hc] at hj;simp at hj
  | some c=>rw [hc] at hj;simp at hj;subst hj;exact ⟨c,by simpa [Value.cells] using hc,.iI _ _ _ _⟩
 ·have h1:ig z=iI z:=by unfold ig;split<;>first | rfl | exact absurd ⟨_,rfl⟩ hz
  have h2:z.cells= #[z]:=by unfold Value.cells;split<;>first | rfl | exact absurd ⟨_,rfl⟩ hz
  rw [h1,h2,Me]
  refine ⟨rfl,fun j q hj=> ?_⟩
  cases j with
  | zero=>simp at hj;subst hj;exact ⟨z,rfl,.iI _ _ _ _⟩
  | succ j=>simp at hj
theorem W9 {x:Operand} (hop:o.op= .move x\/o.op= .assign x) {fr:List PV} (hf:Fr w ok mu fr a.tmps):aq P o a w ok mu h (ev fr x) h:=
 aq.value (v:=a.eval x) (by rcases hop with hop | hop<;>simp [execOp,hop,pure,Sem.run]) (hf.ev x)
theorem VJ {c x y:Operand} (hop:o.op= .pick c x y) {fr:List PV} (hf:Fr w ok mu fr a.tmps) {b:Bool} (hc:ev fr c= .imm (.bool b)):aq P o a w ok mu h (if b then ev fr x else ev fr y) h:=by
 have r:=hf.ev c
 rw [hc] at r
 cases r with
 | imm r=>
   generalize hv:a.eval c=vc at r
   cases r
   refine aq.value (v:=if b then a.eval x else a.eval y) (by simp [execOp,hop,hv,asBool,pure,Sem.run,bind,Sem.bind]) ?_
   cases b
   ·exact hf.ev y
   ·exact hf.ev x
theorem XD {t:TypeId} (hop:o.op= .alloc t) {z:Value} (hz:gh P t=some z) (iq:InvQ w ok mu h) (hn:mu h.length=none):aq P o a w ok mu h (.ptr h.length 0) (h++[.box .rw (ig z).cells]):=by
 refine ⟨[.box .rw (ig z).cells],[],h,rfl,rfl,?_⟩
 have hi: ∃i,P.info? t=some i/\i.zero=some z:=by
  unfold gh at hz
  cases hi:P.info? t with
  | none=>simp [hi] at hz
  | some i=>exact ⟨i,rfl,by simpa [hi] using hz⟩
 obtain ⟨i,hi,hz'⟩:=hi
 have hrun:(execOp a.eval o).run P w= .ok (.value (.pointer (some ⟨w.heap.size,0,none⟩))) (w.alloc (.cells z.cells t)):=by
  have he:execOp a.eval o=(do pure (Next.value (<-Instr.alloc t true (.tuple #[])))):=by simp [execOp,hop]
  rw [he]
  apply eU
  simp [Instr.alloc,zeroValue,typeInfo,hi,hz',newVar,newRow]
 refine fI.value hrun ⟨ok,_,Grow.fresh (pl:=⟨some (w.heap.size,0),0,0⟩) rfl rfl iq.okw ?_ hn (.ptr _ _ ⟨some (w.heap.size,0),0,0⟩ w.heap.size 0 (by simp) rfl)⟩
 refine ⟨w.heap.size,0,z.cells,t,rfl,ea w _,by simp [(iB (w:=w) (ok:=ok) (mu:=mu) z).1],fun j q hj=> ?_⟩
 obtain ⟨u,h1,h2⟩:=(iB (w:=w.alloc (.cells z.cells t)) (ok:=ok) (mu:=fun o=>if o=h.length then some ⟨some (w.heap.size,0),0,0⟩ else mu o) z).2 j q hj
 exact ⟨u,by simpa using h1,h2⟩
theorem QJ {t:TypeId} (h:NN P t=true):gh P t=some (.agg #[.pointer none,.slice none 0 0]):=by
 unfold NN at h
 split at h
 ·rename_i fs z _ hz
  split at h
  ·rename_i f g _ hl
   rw [hz,<-hl]
  ·cases h
 ·cases h
theorem VP {t:TypeId} (hop:o.op= .alloc t) (hse:NN P t=true) (iq:InvQ w ok mu h) (hn:mu h.length=none):aq P o a w ok mu h (.ptr h.length 0) (h++[.box .rw [.sn t 2 h.length,.tnil]]):=by
 refine ⟨[.box .rw [.sn t 2 h.length,.tnil]],[],h,rfl,rfl,?_⟩
 have hz:=QJ hse
 have hi: ∃i,P.info? t=some i/\i.zero=some (.agg #[.pointer none,.slice none 0 0]):=by
  unfold gh at hz
  cases hi:P.info? t with
  | none=>simp [hi] at hz
  | some i=>exact ⟨i,rfl,by simpa [hi] using hz⟩
 obtain ⟨i,hi,hz'⟩:=hi
 have hrun:(execOp a.eval o).run P w= .ok (.value (.pointer (some ⟨w.heap.size,0,none⟩))) (w.alloc (.cells #[.pointer none,.slice none 0 0] t)):=by
  have he:execOp a.eval o=(do pure (Next.value (<-Instr.alloc t true (.tuple #[])))):=by simp [execOp,hop]
  rw [he]
  apply eU
  simp [Instr.alloc,zeroValue,typeInfo,hi,hz',newVar,newRow,Value.cells]
 have hnew:=ea w (.cells #[.pointer none,.slice none 0 0] t)
 refine fI.value hrun ⟨ok,_,Grow.fresh (pl:=⟨some (w.heap.size,0),0,0⟩) rfl rfl iq.okw ?_ hn (.ptr _ _ ⟨some (w.heap.size,0),0,0⟩ w.heap.size 0 (by simp) rfl)⟩
 refine ⟨w.heap.size,0,_,t,rfl,hnew,by simp,fun j q hj=> ?_⟩
 match j,hj with
 | 0,hj=>simp at hj;subst hj;exact ⟨.pointer none,by simp,.sn t 2 h.length ⟨some (w.heap.size,0),0,0⟩ _ (by simp) ⟨w.heap.size,rfl,.inl rfl,_,_,hnew,rfl⟩⟩
 | 1,hj=>simp at hj;subst hj;exact ⟨.slice none 0 0,by simp,.tnil⟩
 | j+2,hj=>simp at hj
theorem abw (m:Md) (hmd:m= .rw\/m= .lock) {t:TypeId} {x:Operand} (hop:o.op= .box t x) {fr:List PV} (hf:Fr w ok mu fr a.tmps) (hw:(ev fr x).whole=true) (iq:InvQ w ok mu h) (hn:mu h.length=none):aq P o a w ok mu h (.ptr h.length 0) (h++[.box m (ev fr x).cells]):=by
 refine ⟨[.box m (ev fr x).cells],[],h,rfl,rfl,?_⟩
 have hrun:(execOp a.eval o).run P w= .ok (.value (.pointer (some ⟨w.heap.size,0,none⟩))) (w.alloc (.cells (a.eval x).cells t)):=by
  have he:execOp a.eval o=(do pure (Next.value (<-Instr.box t (a.eval x)))):=by simp [execOp,hop]
  rw [he]
  apply eU
  simp [Instr.box,newVar,newRow]
 obtain ⟨hs,hr⟩:=(hf.ev x).cellsRel hw
 refine fI.value hrun ⟨ok,_,Grow.fresh (pl:=⟨some (w.heap.size,0),0,0⟩) rfl (by rcases hmd with rfl | rfl<;>rfl) iq.okw ?_ hn (.ptr _ _ ⟨some (w.heap.size,0),0,0⟩ w.heap.size 0 (by simp) rfl)⟩
 refine ⟨w.heap.size,0,(a.eval x).cells,t,rfl,ea w _,by omega,fun j q hj=> ?_⟩
 obtain ⟨u,h1,h2⟩:=hr j q hj
 exact ⟨u,by simpa using h1,h2.later (Dm _ iq.okw hn)⟩
def BA (w:World) (ok:Nat->Prop) (mu:Mu) (cs:List PV) (vs:Array Value):Prop:=cs.length=vs.size/\ ∀(i:Nat) (p:PV) (v:Value),cs[i]? =some p->vs[i]? =some v->RP w ok mu p v
theorem BA.set {cs:List PV} {vs:Array Value} (r:BA w ok mu cs vs) (i:Nat) {p:PV} {v:Value} (hp:RP w ok mu p v):BA w ok mu (cs.set i p) (vs.setIfInBounds i v):=by
 have:=Fr.set ⟨r.1,r.2⟩ i hp
 exact ⟨this.size,this.rel⟩
theorem BA.setAt {off:Nat}: ∀(ps:List PV) (us:List Value) (j:Nat) {cs:List PV} {vs:Array Value},BA w ok mu cs vs->us.length=ps.length->(∀(i:Nat) (q:PV),ps[i]? =some q-> ∃u:Value,us[i]? =some u/\RP w ok mu q u)->
  BA w ok mu (setAt cs (off+j) ps) ((us.zipIdx j).foldl (fun cs (c,i)=>cs.setIfInBounds (off+i) c) vs)
 | [],us,j,cs,vs,r,hl,_=>by
   have:us=[]:=List.length_eq_zero_iff.1 (by simpa using hl)
   subst this
   simpa [AM.setAt] using r
 | p::ps,us,j,cs,vs,r,hl,hr=>by
   cases us with
   | nil=>simp at hl
   | cons u us=>
     obtain ⟨u',h1,h2⟩:=hr 0 p (by simp)
     simp at h1;subst h1
     have ih:=BA.setAt (off:=off) ps us (j+1) (r.set (off+j) h2) (by simpa using hl) (fun i q hq=>by simpa using hr (i+1) q (by simpa using hq))
     simpa [AM.setAt,List.zipIdx_cons,Nat.add_assoc] using ih
def BJ (w:World) (ok:Nat->Prop) (mu:Mu):List (Nat×PV)->List (Nat×Value)->Prop
 | [],[]=>True
 | (i,p)::ps,(j,u)::us=>i=j/\RP w ok mu p u/\BJ w ok mu ps us
 | _,_=>False
theorem Cc {fr:List PV} (hf:Fr w ok mu fr a.tmps): ∀(l:List (Nat×Operand)),BJ w ok mu (l.map fun p=>(p.1,ev fr p.2)) (l.map fun p=>(p.1,a.eval p.2))
 | []=>trivial
 | (i,x)::l=>⟨rfl,hf.ev x,Cc hf l⟩
theorem Fr.VB {k:FuncId->Bool} {fr:List PV} (hf:Fr w ok mu fr a.tmps) (x:Operand):RP w ok mu (AM.VB k fr x) (a.eval x):=by
 cases x with
 | func f=>
   unfold AM.VB
   simp only
   split
   ·exact .clo _ _ _ rfl (fun i c v h _=>by simp at h)
   ·exact hf.ev (.func f)
 | tmp t=>exact hf.ev (.tmp t)
 | const v=>exact hf.ev (.const v)
 | global g=>exact hf.ev (.global g)
theorem rE {k:FuncId->Bool} {fr:List PV} (hf:Fr w ok mu fr a.tmps): ∀(l:List (Nat×Operand)),BJ w ok mu (l.map fun p=>(p.1,AM.VB k fr p.2)) (l.map fun p=>(p.1,a.eval p.2))
 | []=>trivial
 | (i,x)::l=>⟨rfl,hf.VB x,rE hf l⟩
theorem xG {place:Nat->Option (Nat×Nat)}: ∀(ps:List (Nat×PV)) (us:List (Nat×Value)) {cs cs':List PV} {vs:Array Value},BA w ok mu cs vs->BJ w ok mu ps us->yE place cs ps=some cs'->
  ∃vs',Instr.fill place vs us=some vs'/\BA w ok mu cs' vs'
 | [],[],cs,cs',vs,r,hf,h=>by
   simp only [yE,Option.some.injEq] at h
   subst h
   exact ⟨vs,rfl,r⟩
 | [],_::_,cs,cs',vs,r,hf,h=>hf.elim
 | _::_,[],cs,cs',vs,r,hf,h=>by
   cases hf
 | (i,p)::ps,(j,u)::us,cs,cs',vs,r,hf,h=>by
     obtain ⟨rfl,hp,ht⟩:=hf
     simp only [yE] at h
     cases hpl:place i with
     | none=>simp [hpl] at h
     | some os=>
       obtain ⟨off,size⟩:=os
       simp only [hpl] at h
       split at h
       ·rename_i hc
        obtain ⟨hw,hs,hb⟩:=hc
        obtain ⟨hus,hur⟩:=hp.cellsRel hw
        have r':=BA.setAt (off:=off) p.cells u.cells.toList 0 r (by simp [hus]) (fun i q hq=>by obtain ⟨x,h1,h2⟩:=hur i q hq;exact ⟨x,by simpa using h1,h2⟩)
        obtain ⟨vs',h1,h2⟩:=xG ps us r' ht h
        refine ⟨vs',?_,h2⟩
        have hcond: ¬(u.cells.size≠size\/off+u.cells.size > vs.size):=by
         have:=r.1
         omega
        simp only [Instr.fill,hpl]
        rw [if_neg (by simpa using hcond)]
        rw [<-h1]
        congr 1
        rw [<-Array.foldl_toList,Array.toList_zipIdx]
       ·cases h
theorem Ij {t:TypeId} {parts:Array (Nat×Operand)} (hop:o.op= .build t parts) {k:FuncId->Bool} {fr:List PV} (hf:Fr w ok mu fr a.tmps) {fs:Array Field} (hu:P.underlying t=some (.struct fs)) {z:Value} (hz:gh P t=some z)
  (hi:fs.all (fun f=>(P.info? f.type).isSome)=true) {cs:List PV} (hc:yE (fun i=>(fs[i]?).map fun f=>(f.offset,P.cellsOf f.type)) (ig z).cells (parts.toList.map fun p=>(p.1,AM.VB k fr p.2))=some cs):aq P o a w ok mu h (.agg cs) h:=by
 have hi': ∃it,P.info? t=some it/\it.zero=some z:=by
  unfold gh at hz
  cases hi:P.info? t with
  | none=>simp [hi] at hz
  | some i=>exact ⟨i,rfl,by simpa [hi] using hz⟩
 obtain ⟨it,hit,hz'⟩:=hi'
 have h0:BA w ok mu (ig z).cells z.cells:=⟨(iB (w:=w) (ok:=ok) (mu:=mu) z).1,fun i p v h1 h2=>by
  obtain ⟨u,h3,h4⟩:=(iB (w:=w) (ok:=ok) (mu:=mu) z).2 i p h1
  rw [h2] at h3;cases h3;exact h4⟩
 obtain ⟨vs,h1,h2⟩:=xG _ _ h0 (rE hf parts.toList) hc
 have hplaces:fs.toList.mapM (fun f=>(P.info? f.type).map fun i=>(f.offset,i.size))=some (fs.toList.map fun f=>(f.offset,P.cellsOf f.type)):=by
  have hall: ∀f∈fs.toList,(P.info? f.type).isSome=true:=fun f hm=>by
   have:=Array.all_eq_true_iff_forall_mem.1 hi f (by simpa using hm)
   exact this
  clear hc h1 hu hi
  generalize fs.toList=l at*
  induction l with
  | nil=>rfl
  | cons f l ih=>
    obtain ⟨i,hi⟩:=Option.isSome_iff_exists.1 (hall f (by simp))
    simp [List.mapM_cons,hi,ih (fun g hg=>hall g (by simp [hg])),Program.cellsOf]
 have hb:P.built t (parts.map fun (i,x)=>(i,a.eval x)).toList=some vs:=by
  unfold Program.built
  simp only [hit,hu,hz',hplaces]
  rw [<-h1]
  congr 1
  ·funext i;simp [Array.getElem?_map,<-Array.getElem?_toList]
  ·simp
 refine aq.val (v:= .agg vs) (by simp [execOp,hop]) (run_build w t _ vs hb) (.agg cs vs h2.1 h2.2)
theorem Kc {t:TypeId} {parts:Array (Nat×Operand)} (hop:o.op= .build t parts) {k:FuncId->Bool} {fr:List PV} (hf:Fr w ok mu fr a.tmps) {n:Nat} {e:TypeId} (hu:P.underlying t=some (.array n e)) {z:Value} (hz:gh P t=some z)
  (hi:(P.info? e).isSome=true) {cs:List PV} (hc:yE (fun i=>some (i*P.cellsOf e,P.cellsOf e)) (ig z).cells (parts.toList.map fun p=>(p.1,AM.VB k fr p.2))=some cs):aq P o a w ok mu h (.agg cs) h:=by
 have hi': ∃it,P.info? t=some it/\it.zero=some z:=by
  unfold gh at hz
  cases hi:P.info? t with
  | none=>simp [hi] at hz
  | some i=>exact ⟨i,rfl,by simpa [hi] using hz⟩
 obtain ⟨it,hit,hz'⟩:=hi'
 obtain ⟨ie,hie⟩:=Option.isSome_iff_exists.1 hi
 have h0:BA w ok mu (ig z).cells z.cells:=⟨(iB (w:=w) (ok:=ok) (mu:=mu) z).1,fun i p v h1 h2=>by
  obtain ⟨u,h3,h4⟩:=(iB (w:=w) (ok:=ok) (mu:=mu) z).2 i p h1
  rw [h2] at h3;cases h3;exact h4⟩
 obtain ⟨vs,h1,h2⟩:=xG _ _ h0 (rE hf parts.toList) hc
 have hsz:P.cellsOf e=ie.size:=by simp [Program.cellsOf,hie]
 have hb:P.built t (parts.map fun (i,x)=>(i,a.eval x)).toList=some vs:=by
  unfold Program.built
  simp only [hit,hu,hz',hie]
  rw [<-h1,hsz]
  congr 1
  simp
 refine aq.val (v:= .agg vs) (by simp [execOp,hop]) (run_build w t _ vs hb) (.agg cs vs h2.1 h2.2)
theorem lO {t:TypeId} (h:cV P t=true) (w:World):(isAgg t).run P w= .ok true w:=by
 unfold cV at h
 split at h
 ·rename_i hu;simp [isAgg,run_underlying hu]
 ·rename_i hu;simp [isAgg,run_underlying hu]
 ·cases h
theorem kz {t:TypeId} (h:jc P t=true) (w:World):(isAgg t).run P w= .ok false w:=by
 unfold jc at h
 cases hu:P.underlying t with
 | none=>simp [hu] at h
 | some d=>
   cases d<;>first | (simp [hu] at h;done) | simp [isAgg,run_underlying hu]
theorem xo {t:TypeId} (h:cV P t=true): ∃i,P.info? t=some i:=by
 unfold cV at h
 cases hi:P.info? t with
 | some i=>exact ⟨i,rfl⟩
 | none=>simp [Program.underlying,hi] at h
theorem oS {t:TypeId} (h:cV P t=true) (w:World):(sizeOf t).run P w= .ok (P.cellsOf t) w:=by
 obtain ⟨i,hi⟩:=xo h
 exact run_sizeOf w hi
theorem uq {t:TypeId} (h:cV P t=true) {b off:Nat} {vs:List Value} (hl:vs.length=P.cellsOf t) (hc: ∀j v,vs[j]? =some v->w.cell? ⟨b,off+j,none⟩=some v):
  (loadVar t ⟨b,off,none⟩).run P w= .ok (.agg vs.toArray) w:=by
 have:=run_loadCells_list (P:=P) w ⟨b,off,none⟩ vs (fun j v hj=>by rw [cg];exact hc j v hj)
 simp [loadVar,lO h,oS h,<-hl,this]
theorem ui {t:TypeId} (h:jc P t=true) {b off:Nat} {v:Value} (hc:w.cell? ⟨b,off,none⟩=some v):(loadVar t ⟨b,off,none⟩).run P w= .ok v w:=by
 simp [loadVar,kz h,run_load,hc]
theorem Fu {r:List IV} {i:Nat} (h:i < r.length):r[i]? =some (nth r i):=by
 unfold nth;rw [List.getD_eq_getElem?_getD,List.getElem?_eq_getElem h];simp
theorem oZ (r:List IV): ∀(i n j:Nat),j < n->(fF r i n)[j]? =some (.imm (nth r (i+j)))
 | i,0,j,h=>by omega
 | i,n+1,0,h=>by simp [fF]
 | i,n+1,j+1,h=>by
   have ih:=oZ r (i+1) n j (Nat.lt_of_succ_lt_succ h)
   simp only [fF,List.getElem?_cons_succ]
   rw [ih,show i+1+j=i+(j+1) by omega]
theorem cm (r:List IV): ∀(i n:Nat),(fF r i n).length=n
 | i,0=>rfl
 | i,n+1=>by simp [fF,cm r (i+1) n]
theorem Yl {r:List IV} {vs:Array Value} (hl:r.length=vs.size) (hr: ∀(i:Nat) (x:IV) (v:Value),r[i]? =some x->vs[i]? =some v->RV w ok x v):RP w ok mu (.agg (fF r 0 r.length)) (.agg vs):=by
 refine .agg _ _ (by rw [cm,hl]) fun i p v h1 h2=> ?_
 have hi:i < r.length:=by
  have:=(List.getElem?_eq_some_iff.1 h1).1;rw [cm] at this;exact this
 rw [oZ r 0 r.length i hi,Nat.zero_add] at h1
 cases h1
 exact .imm (hr i _ v (Fu hi) h2)
theorem HH {t:TypeId} {x:Operand} (hop:o.op= .load t x) (hag:cV P t=true) {b off:Nat} (hx:a.eval x= .pointer (some ⟨b,off,none⟩)) {vs:List Value} (hl:vs.length=P.cellsOf t)
  (hc: ∀j v,vs[j]? =some v->w.cell? ⟨b,off+j,none⟩=some v) {p:PV} (r:RP w ok mu p (.agg vs.toArray)):aq P o a w ok mu h p h:=
 aq.val (v:= .agg vs.toArray) (s:=Instr.loadAt t (a.eval x)) (by simp [execOp,hop]) (by rw [hx];simp [Instr.loadAt,Instr.sureAddr,uq hag hl hc]) r
theorem FX {t:TypeId} {x:Operand} (hop:o.op= .load t x) (hag:jc P t=true) {b off:Nat} (hx:a.eval x= .pointer (some ⟨b,off,none⟩)) {v:Value}
  (hc:w.cell? ⟨b,off,none⟩=some v) {p:PV} (r:RP w ok mu p v):aq P o a w ok mu h p h:=
 aq.val (v:=v) (s:=Instr.loadAt t (a.eval x)) (by simp [execOp,hop]) (by rw [hx];simp [Instr.loadAt,Instr.sureAddr,ui hag hc]) r
def Row (w:World) (ok:Nat->Prop) (e:List IV) (b off:Nat):Prop:= ∀(q:Nat) (c:IV),e[q]? =some c-> ∃v,w.cell? ⟨b,off+q,none⟩=some v/\RV w ok c v
theorem tp {t:TypeId} {x:Operand} (hop:o.op= .load t x) (hag:cV P t=true) {e:List IV} {b off j:Nat} (hrow:Row w ok e b off) (hx:a.eval x= .pointer (some ⟨b,off+j,none⟩)) (hj:j+P.cellsOf t<=e.length):
  aq P o a w ok mu h (.agg (fF ((e.drop j).take (P.cellsOf t)) 0 (P.cellsOf t))) h:=by
 have hlen:((e.drop j).take (P.cellsOf t)).length=P.cellsOf t:=by simp;omega
 have hget: ∀i,i < P.cellsOf t->((e.drop j).take (P.cellsOf t))[i]? =e[j+i]? :=fun i hi=>by rw [List.getElem?_take_of_lt hi,List.getElem?_drop]
 have hv: ∀i,i < P.cellsOf t-> ∃v,w.cell? ⟨b,off+j+i,none⟩=some v/\ ∀c,e[j+i]? =some c->RV w ok c v:=fun i hi=>by
  have hlt:j+i < e.length:=by omega
  obtain ⟨v,h1,h2⟩:=hrow (j+i) e[j+i] (List.getElem?_eq_getElem hlt)
  refine ⟨v,by rw [Nat.add_assoc];exact h1,fun c hc=> ?_⟩
  rw [List.getElem?_eq_getElem hlt] at hc;cases hc;exact h2
 let vs:List Value:=(List.range (P.cellsOf t)).map fun i=>(w.cell? ⟨b,off+j+i,none⟩).getD undef
 have hvl:vs.length=P.cellsOf t:=by simp [vs]
 have hvg: ∀i v,vs[i]? =some v->i < P.cellsOf t/\w.cell? ⟨b,off+j+i,none⟩=some v:=fun i v hi=>by
  have hlt:i < P.cellsOf t:=by have:=(List.getElem?_eq_some_iff.1 hi).1;rwa [hvl] at this
  obtain ⟨u,h1,_⟩:=hv i hlt
  simp [vs,hlt,h1] at hi
  exact ⟨hlt,by rw [h1,hi]⟩
 refine HH hop hag hx hvl (fun i v hi=>(hvg i v hi).2) ?_
 have:=Yl (w:=w) (ok:=ok) (mu:=mu) (r:=(e.drop j).take (P.cellsOf t)) (vs:=vs.toArray) (by rw [hlen];simp [hvl]) fun i c v h1 h2=>by
  obtain ⟨hlt,hcell⟩:=hvg i v (by simpa using h2)
  obtain ⟨u,h3,h4⟩:=hv i hlt
  rw [hcell] at h3;cases h3
  rw [hget i hlt] at h1
  exact h4 c h1
 rwa [hlen] at this
theorem tA {t:TypeId} {x:Operand} (hop:o.op= .load t x) (hag:jc P t=true) {e:List IV} {b off j:Nat} (hrow:Row w ok e b off) (hx:a.eval x= .pointer (some ⟨b,off+j,none⟩)) {c:IV} (hj:e[j]? =some c):
  aq P o a w ok mu h (.imm c) h:=by
 obtain ⟨v,h1,h2⟩:=hrow j c hj
 exact FX hop hag hx h1 (.imm h2)
end
end Go.AM
namespace Go.AM
open Go.RowKit
def QA (mu:Mu) (h:List Ob):Prop:= ∀o pl md sz x,mu o=some pl->getOb h o= .arr md sz x->pl.sz=sz
theorem InvQ.sized {w:World} {ok:Nat->Prop} {mu:Mu} {h:List Ob} (iq:InvQ w ok mu h):QA mu h:=fun o pl md sz x hm hg=>by
 have:=iq.ob o pl hm;rw [hg] at this;exact this.sz
section
variable {P:Program} {o:Oper} {a:Act} {w:World} {ok:Nat->Prop} {mu:Mu} {h:List Ob} {fr:List PV}
theorem GD {t:TypeId} {x:Operand} (hop:o.op= .load t x) (r:RP w ok mu (ev fr x) (a.eval x)) (iq:InvQ w ok mu h) {q j:Nat} (hx:ev fr x= .ptr q j) {md:Md} {cs:List PV} (hg:getOb h q= .box md cs) {p:PV}
  (hp:(cV P t=true/\j+P.cellsOf t<=cs.length/\p= .agg ((cs.drop j).take (P.cellsOf t)))\/(jc P t=true/\cs[j]? =some p)):aq P o a w ok mu h p h:=by
 rw [hx] at r
 generalize hv:a.eval x=v at r
 cases r with
 | ptr q j pl b base hm hl=>
   have hob:=iq.ob q pl hm
   rw [hg] at hob
   obtain ⟨b',base',c,T,hl',hw,hs,hr⟩:=hob
   rw [hl] at hl';cases hl'
   rcases hp with ⟨hag,hj,rfl⟩ | ⟨hsc,hj⟩
   ·have hvs:((c.toList.drop (base+j)).take (P.cellsOf t)).length=P.cellsOf t:=by simp;omega
    refine HH hop hag hv (vs:=(c.toList.drop (base+j)).take (P.cellsOf t)) hvs (fun i v hi=> ?_) ?_
    ·have hlt:i < P.cellsOf t:=by have:=(List.getElem?_eq_some_iff.1 hi).1;rwa [hvs] at this
     rw [List.getElem?_take_of_lt hlt,List.getElem?_drop] at hi
     rw [eu hw]
     simpa using hi
    ·refine .agg _ _ (by simp;omega) fun i p v h1 h2=> ?_
     have hlt:i < P.cellsOf t:=by
      have:=(List.getElem?_eq_some_iff.1 h1).1;simp at this;omega
     rw [List.getElem?_take_of_lt hlt,List.getElem?_drop] at h1
     rw [List.getElem?_toArray,List.getElem?_take_of_lt hlt,List.getElem?_drop] at h2
     obtain ⟨u,h3,h4⟩:=hr (j+i) p h1
     have:c[base+(j+i)]? =some v:=by rw [<-Nat.add_assoc];simpa using h2
     rw [h3] at this;cases this
     exact h4
   ·obtain ⟨u,h3,h4⟩:=hr j p hj
    exact FX hop hsc hv (by rw [eu hw];exact h3) h4
theorem W4 {q:Nat} {pl:Pl} {b base:Nat} (iq:InvQ w ok mu h) (hm:mu q=some pl) (hl:pl.loc=some (b,base)) {md:Md} {sz:Nat} {es:List (List IV)} (hg:getOb h q= .arr md sz (.lst es)) {i:Nat} {e:List IV} (he:es[i]? =some e):Row w ok e b (base+i*pl.sz):=by
 have hob:=iq.ob q pl hm
 rw [hg] at hob
 obtain ⟨hsz,es',hes,hlen,hall,hnone,hc⟩:=hob.arrN (fun _ h=>by cases h)
 cases hes
 obtain ⟨c,T,hw,hs,hr⟩:=hc b base hl
 intro j x hx
 obtain ⟨v,h1,h2⟩:=hr i j e x he hx
 exact ⟨v,by rw [eu hw,hsz];exact h1,h2⟩
theorem OX {x:IV} {i j n:Nat} {r:List IV} (h:eR x i j n=some r): ∃es e,x= .lst es/\es[i]? =some e/\j+n<=e.length/\r=(e.drop j).take n:=by
 unfold eR at h
 split at h
 ·rename_i es
  cases he:es[i]? with
  | none=>simp [he] at h
  | some e=>
    simp only [he,Option.bind_some] at h
    split at h
    ·exact ⟨es,e,rfl,he,‹_›,by simpa using h.symm⟩
    ·cases h
 ·cases h
theorem TQ {x:IV} {i j:Nat} {c:IV} (h:qA x i j=some c): ∃es e,x= .lst es/\es[i]? =some e/\e[j]? =some c:=by
 unfold qA at h
 split at h
 ·rename_i es
  cases he:es[i]? with
  | none=>simp [he] at h
  | some e=>exact ⟨es,e,rfl,he,by simpa [he] using h⟩
 ·cases h
theorem Ed {t:TypeId} {x:Operand} (hop:o.op= .load t x) (r:RP w ok mu (ev fr x) (a.eval x)) (iq:InvQ w ok mu h) {q i j:Nat} (hx:ev fr x= .bptr q i j) {md:Md} {sz:Nat} {y:IV} (hg:getOb h q= .arr md sz y) {p:PV}
  (hp:(cV P t=true/\ ∃r,eR y i j (P.cellsOf t)=some r/\p= .agg (fF r 0 (P.cellsOf t)))\/(jc P t=true/\ ∃c,qA y i j=some c/\p= .imm c)):aq P o a w ok mu h p h:=by
 rw [hx] at r
 generalize hv:a.eval x=v at r
 cases r with
 | bptr q i j pl b base hm hl=>
   rcases hp with ⟨hag,r,hr,rfl⟩ | ⟨hsc,c,hc,rfl⟩
   ·obtain ⟨es,e,rfl,he,hj,rfl⟩:=OX hr
    exact tp hop hag (W4 iq hm hl hg he) hv hj
   ·obtain ⟨es,e,rfl,he,hj⟩:=TQ hc
    exact tA hop hsc (W4 iq hm hl hg he) hv hj
theorem DI {t:TypeId} {x:Operand} (hop:o.op= .load t x) (r:RP w ok mu (ev fr x) (a.eval x)) {y:IV} {i j:Nat} (hx:ev fr x= .eptr y i j) {p:PV}
  (hp:(cV P t=true/\ ∃r,eR y i j (P.cellsOf t)=some r/\p= .agg (fF r 0 (P.cellsOf t)))\/(jc P t=true/\ ∃c,qA y i j=some c/\p= .imm c)):aq P o a w ok mu h p h:=by
 rw [hx] at r
 generalize hv:a.eval x=v at r
 cases r with
 | eptr es e i j b off vals hok he hmem hrel=>
   have hrow:Row w ok e b off:=fun q c hc=>⟨vals q,hmem q (List.getElem?_eq_some_iff.1 hc).1,hrel q c hc⟩
   rcases hp with ⟨hag,r,hr,rfl⟩ | ⟨hsc,c,hc,rfl⟩
   ·obtain ⟨es',e',hes,he',hj,rfl⟩:=OX hr
    cases hes
    rw [he] at he';cases he'
    exact tp hop hag hrow hv hj
   ·obtain ⟨es',e',hes,he',hj⟩:=TQ hc
    cases hes
    rw [he] at he';cases he'
    exact tA hop hsc hrow hv hj
theorem Lr {x:IV} {j n:Nat} {r:List IV} (h:uC x j n=some r): ∃cs j0,x= .ptr cs j0/\j0+j+n<=cs.length/\r=(cs.drop (j0+j)).take n:=by
 unfold uC at h
 split at h
 ·split at h
  ·exact ⟨_,_,rfl,‹_›,by simpa using h.symm⟩
  ·cases h
 ·cases h
theorem QI {x:IV} {j:Nat} {c:IV} (h:gX x j=some c): ∃cs j0,x= .ptr cs j0/\cs[j0+j]? =some c:=by
 unfold gX at h
 split at h
 ·exact ⟨_,_,rfl,h⟩
 ·cases h
theorem qN {t:TypeId} {x:Operand} (hop:o.op= .load t x) (r:RP w ok mu (ev fr x) (a.eval x)) {y:IV} {j:Nat} (hx:ev fr x= .iptr y j\/(ev fr x= .imm y/\j=0)) {p:PV}
  (hp:(cV P t=true/\ ∃r,uC y j (P.cellsOf t)=some r/\p= .agg (fF r 0 (P.cellsOf t)))\/(jc P t=true/\ ∃c,gX y j=some c/\p= .imm c)):aq P o a w ok mu h p h:=by
 have key: ∀(cs:List IV) (j0 b off:Nat),y= .ptr cs j0->a.eval x= .pointer (some ⟨b,off+(j0+j),none⟩)->Row w ok cs b off->aq P o a w ok mu h p h:=by
  intro cs j0 b off hy hv hrow
  rcases hp with ⟨hag,r,hr,rfl⟩ | ⟨hsc,c,hc,rfl⟩
  ·obtain ⟨cs',j0',hes,hj,rfl⟩:=Lr hr
   rw [hy] at hes;cases hes
   exact tp hop hag hrow hv (by omega)
  ·obtain ⟨cs',j0',hes,hj⟩:=QI hc
   rw [hy] at hes;cases hes
   exact tA hop hsc hrow hv hj
 rcases hx with hx | ⟨hx,rfl⟩
 ·rw [hx] at r
  generalize hv:a.eval x=v at r
  cases r with
  | iptr cs j0 j b off vals hok hmem hrel=>exact key cs j0 b off rfl hv fun q c hc=>⟨vals q,hmem q (List.getElem?_eq_some_iff.1 hc).1,hrel q c hc⟩
 ·rw [hx] at r
  generalize hv:a.eval x=v at r
  cases r with
  | imm r=>
    have hy: ∃cs j0,y= .ptr cs j0:=by
     rcases hp with ⟨_,r,hr,_⟩ | ⟨_,c,hc,_⟩
     ·obtain ⟨cs,j0,h,_⟩:=Lr hr;exact ⟨cs,j0,h⟩
     ·obtain ⟨cs,j0,h,_⟩:=QI hc;exact ⟨cs,j0,h⟩
    obtain ⟨cs,j0,rfl⟩:=hy
    cases r with
    | ptr cs j0 b off vals hok hmem hrel=>exact key cs j0 b off rfl (by simpa using hv) fun q c hc=>⟨vals q,hmem q (List.getElem?_eq_some_iff.1 hc).1,hrel q c hc⟩
theorem Iw {op:BinOp} {t:TypeId} {x y:Operand} {u v:IV} {p q:Value} (hu:RV w ok u p) (hv:RV w ok v q) (hne:u≠ .nilf):(eqGuard op t x y p q).run P w= .ok () w:=by
 have key: ∀b:Bool,(if b=true then (pure ():Sem Unit) else pure ()).run P w= .ok () w:=fun b=>by cases b<;>rfl
 cases hu<;>first | exact absurd rfl hne | (cases hv<;>exact key _)
theorem UP {op:BinOp} {t:TypeId} {u v z:IV} {p q:Value} (hu:RV w ok u p) (hv:RV w ok v q) (hz:aa op u v=some z): ∃r,(binOp op t p q).run P w= .ok r w/\RV w ok z r:=by
 unfold aa at hz
 split at hz
 ·rename_i k a k' b
  cases hu;cases hv
  split at hz
  ·split at hz
   ·cases hz
   ·rename_i hb
    cases hz
    exact ⟨_,by simp [binOp,Op.shift,hb,pure,Sem.run],.int _ _⟩
  ·split at hz
   ·cases hz
   ·rename_i hb
    cases hz
    exact ⟨_,by simp [binOp,Op.shift,hb,pure,Sem.run],.int _ _⟩
  ·rename_i h1 h2
   split at hz
   ·rename_i hk
    subst hk
    unfold il at hz
    cases op<;>simp only [reduceCtorEq] at hz h1 h2<;>first
     | exact absurd rfl h1
     | exact absurd rfl h2
     | (cases hz;exact ⟨_,by simp [binOp,Op.intArith,Op.intCmp,Op.intBits,pure,Sem.run],.int _ _⟩)
     | (cases hz;exact ⟨_,by simp [binOp,Op.intArith,Op.intCmp,Op.intBits,pure,Sem.run],.bool _⟩)
     | (split at hz
        ·cases hz
        ·rename_i hb;cases hz;exact ⟨_,by simp [binOp,Op.intDiv,hb,pure,Sem.run],.int _ _⟩)
   ·cases hz
 ·rename_i k a k' b
  cases hu;cases hv
  split at hz
  ·rename_i hk
   subst hk
   unfold Uh at hz
   cases op<;>simp only [reduceCtorEq] at hz<;>first
    | (cases hz;exact ⟨_,by simp [binOp,Op.floatCmp,pure,Sem.run],.bool _⟩)
    | (obtain ⟨r,hr,rfl⟩:=Option.map_eq_some_iff.1 hz;exact ⟨_,by simp [binOp,Op.floatArith,hr,pure,Sem.run],.flt _ _⟩)
  ·cases hz
 ·rename_i a b
  cases hu;cases hv
  unfold Ul at hz
  cases op<;>simp only [reduceCtorEq] at hz<;>first
   | (cases hz;exact ⟨_,by simp [binOp,Op.stringOp,pure,Sem.run],.bool _⟩)
   | (split at hz
      ·cases hz
      ·rename_i hb;cases hz;exact ⟨_,by simp only [binOp,Op.stringOp];rw [if_neg hb];rfl,.str _⟩)
 ·cases hz
theorem aa2 {op:BinOp} {t t':TypeId} {x y:Operand} (hop:o.op= .binOp op t x y t') {u v z:IV} (hx:ev fr x= .imm u) (hy:ev fr y= .imm v) (rx:RP w ok mu (ev fr x) (a.eval x)) (ry:RP w ok mu (ev fr y) (a.eval y)) (hz:aa op u v=some z):
  aq P o a w ok mu h (.imm z) h:=by
 rw [hx] at rx;rw [hy] at ry
 cases rx with
 | imm rx=>
   cases ry with
   | imm ry=>
     obtain ⟨r,h1,h2⟩:=UP (P:=P) (t:=t) rx ry hz
     refine aq.val (s:=do eqGuard op t x y (a.eval x) (a.eval y);binOp op t (a.eval x) (a.eval y)) (by simp [execOp,hop]) ?_ (.imm h2)
     simp [Sem.run_bind,Iw rx ry (fun e=>by subst e;cases v<;>cases hz),h1,Result.andThen]
theorem run_equalIn_bool (d:Nat) {t:TypeId} (hu:P.underlying t=some .bool) (x y:Bool):(Op.equalIn (d+1) t (.bool x) (.bool y)).run P w= .ok (x==y) w:=by
 simp only [Op.equalIn,Sem.run_bind,run_underlying hu,Result.andThen]
 rfl
theorem run_equal_bool {t:TypeId} (hu:P.underlying t=some .bool) (x y:Bool):(Op.equal t (.bool x) (.bool y)).run P w= .ok (x==y) w:=run_equalIn_bool 9999 hu x y
theorem Zj {op:BinOp} {t t':TypeId} {x y:Operand} (hop:o.op= .binOp op t x y t') (ht:Ok P t=true) {u v z:IV} (hx:ev fr x= .imm u) (hy:ev fr y= .imm v) (rx:RP w ok mu (ev fr x) (a.eval x)) (ry:RP w ok mu (ev fr y) (a.eval y)) (hz:Hd op u v=some z):
  aq P o a w ok mu h (.imm z) h:=by
 rw [hx] at rx;rw [hy] at ry
 have hu:P.underlying t=some .bool:=by
  unfold Ok at ht;split at ht
  ·assumption
  ·cases ht
 cases rx with
 | imm rx=>
   cases ry with
   | imm ry=>
     have hg:=Iw (P:=P) (op:=op) (t:=t) (x:=x) (y:=y) rx ry (fun e=>by subst e;cases v<;>cases hz)
     have he:execOp a.eval o=(do pure (Next.value (<-do eqGuard op t x y (a.eval x) (a.eval y);binOp op t (a.eval x) (a.eval y)))):=by simp [execOp,hop]
     generalize a.eval x=p at*
     generalize a.eval y=q at*
     unfold Hd at hz
     split at hz
     ·rename_i u' v'
      cases rx;cases ry
      cases op<;>simp only [reduceCtorEq] at hz
      ·cases hz
       refine aq.val he ?_ (.imm (.bool _))
       simp [Sem.run_bind,hg,Result.andThen,binOp,run_equal_bool hu]
      ·cases hz
       refine aq.val he ?_ (.imm (.bool _))
       simp [Sem.run_bind,hg,Result.andThen,binOp,run_equal_bool hu]
     ·cases hz
theorem E6 (d:Nat) {t e:TypeId} (hu:P.underlying t=some (.pointer e)) (x:Option Addr):(Op.equalIn (d+1) t (.pointer x) (.pointer none)).run P w= .ok x.isNone w:=by
 simp only [Op.equalIn,Sem.run_bind,run_underlying hu,Result.andThen]
 cases x<;>rfl
theorem yF {t e:TypeId} (hu:P.underlying t=some (.pointer e)) (x:Option Addr):(Op.equal t (.pointer x) (.pointer none)).run P w= .ok x.isNone w:=E6 9999 hu x
theorem Ta {op:BinOp} {t t':TypeId} {x y:Operand} (hop:o.op= .binOp op t x y t') (ht:C8 P t=true) {v:Option Addr} (hx:a.eval x= .pointer v) (hy:a.eval y= .pointer none) {z:IV} (hz:U0 op (!v.isNone)=some z):
  aq P o a w ok mu h (.imm z) h:=by
 obtain ⟨e,hu⟩: ∃e,P.underlying t=some (.pointer e):=by
  unfold C8 at ht;split at ht
  ·exact ⟨_,by assumption⟩
  ·cases ht
 have hg:(eqGuard op t x y (.pointer v) (.pointer none)).run P w= .ok () w:=by
  cases op<;>rfl
 have he:execOp a.eval o=(do pure (Next.value (<-do eqGuard op t x y (a.eval x) (a.eval y);binOp op t (a.eval x) (a.eval y)))):=by simp [execOp,hop]
 rw [hx,hy] at he
 unfold U0 at hz
 split at hz
 ·cases hz
  refine aq.val he ?_ (.imm (.bool _))
  simp [Sem.run_bind,hg,Result.andThen,binOp,yF hu]
 ·cases hz
  refine aq.val he ?_ (.imm (.bool _))
  simp [Sem.run_bind,hg,Result.andThen,binOp,yF hu]
 ·cases hz
theorem XK {op:BinOp} {t t':TypeId} {x y:Operand} (hop:o.op= .binOp op t x y t') (ht:C8 P t=true) {u v z:IV} (hx:ev fr x= .imm u) (hy:ev fr y= .imm v) (rx:RP w ok mu (ev fr x) (a.eval x)) (ry:RP w ok mu (ev fr y) (a.eval y)) (hz:Lg op u v=some z):
  aq P o a w ok mu h (.imm z) h:=by
 rw [hx] at rx;rw [hy] at ry
 generalize hp:a.eval x=p at rx
 generalize hq:a.eval y=q at ry
 cases rx with
 | imm rx=>
   cases ry with
   | imm ry=>
     unfold Lg at hz
     split at hz
     ·cases rx;cases ry
      exact Ta hop ht hp hq hz
     ·cases rx;cases ry
      exact Ta hop ht hp hq hz
     ·cases hz
theorem Yh {op:BinOp} {t t':TypeId} {x y:Operand} (hop:o.op= .binOp op t x y t') (ht:C8 P t=true) {q j:Nat} {z:IV} (hx:ev fr x= .ptr q j) (hy:ev fr y= .imm .nilp) (rx:RP w ok mu (ev fr x) (a.eval x)) (ry:RP w ok mu (ev fr y) (a.eval y)) (hz:U0 op true=some z):
  aq P o a w ok mu h (.imm z) h:=by
 rw [hx] at rx;rw [hy] at ry
 generalize hp:a.eval x=p at rx
 generalize hq:a.eval y=q at ry
 cases rx with
 | ptr _ _ pl b base hm hl=>
   cases ry with
   | imm ry=>cases ry;exact Ta hop ht hp hq hz
theorem Vp {op:UnOp} {u z:IV} {p:Value} (hu:RV w ok u p) (hz:rI op u=some z): ∃r,(Op.unary op p).run P w= .ok r w/\RV w ok z r:=by
 unfold rI at hz
 split at hz<;>first
  | (cases hz;done)
  | (cases hu;cases hz;exact ⟨_,rfl,.int _ _⟩)
  | (cases hu;cases hz;exact ⟨_,rfl,.bool _⟩)
  | (cases hu;cases hz;exact ⟨_,rfl,.flt _ _⟩)
theorem adV {op:UnOp} {t:TypeId} {x:Operand} (hop:o.op= .unOp op t x) {u z:IV} (hx:ev fr x= .imm u) (rx:RP w ok mu (ev fr x) (a.eval x)) (hz:rI op u=some z):aq P o a w ok mu h (.imm z) h:=by
 rw [hx] at rx
 cases rx with
 | imm rx=>
   obtain ⟨r,h1,h2⟩:=Vp (P:=P) rx hz
   exact aq.val (by simp [execOp,hop]) h1 (.imm h2)
theorem Zm {s d:TypeId} {x:Operand} (hop:o.op= .convert s d x) {k k':IntKind} (hs:P.underlying s=some (.int k')) (hd:P.underlying d=some (.int k)) {u z:IV} (hx:ev fr x= .imm u) (rx:RP w ok mu (ev fr x) (a.eval x)) (hz:mY k u=some z):aq P o a w ok mu h (.imm z) h:=by
 rw [hx] at rx
 cases rx with
 | imm rx=>
   unfold mY at hz
   split at hz
   ·cases hz
    generalize hv:a.eval x=v at rx
    cases rx
    refine aq.val (s:=convert s d (a.eval x)) (by simp [execOp,hop]) ?_ (.imm (.int _ _))
    rw [hv]
    simp [convert,run_underlying hs,run_underlying hd,Conv.intToInt,pure,Sem.run]
   ·cases hz
theorem aad {s d:TypeId} {x:Operand} (hop:o.op= .convert s d x) {k:IntKind} {k':FloatKind} (hs:P.underlying s=some (.float k')) (hd:P.underlying d=some (.int k)) {u z:IV} (hx:ev fr x= .imm u) (rx:RP w ok mu (ev fr x) (a.eval x)) (hz:zk k u=some z):aq P o a w ok mu h (.imm z) h:=by
 rw [hx] at rx
 cases rx with
 | imm rx=>
   unfold zk at hz
   split at hz
   ·rename_i s' b
    generalize hv:a.eval x=v at rx
    cases rx
    cases hn:(s'.decode b).toInt .zero with
    | none=>simp [hn] at hz
    | some n=>
      simp only [hn] at hz
      split at hz
      ·rename_i hr
       cases hz
       refine aq.val (s:=convert s d (a.eval x)) (by simp [execOp,hop]) ?_ (.imm (.int _ _))
       rw [hv]
       simp [convert,run_underlying hs,run_underlying hd,Conv.floatToInt,hn,hr,pure,Sem.run]
      ·cases hz
   ·cases hz
theorem ZT {s d:TypeId} {x:Operand} (hop:o.op= .convert s d x) {k:FloatKind} {k':IntKind} (hs:P.underlying s=some (.int k')) (hd:P.underlying d=some (.float k)) {u z:IV} (hx:ev fr x= .imm u) (rx:RP w ok mu (ev fr x) (a.eval x)) (hz:V4 k u=some z):aq P o a w ok mu h (.imm z) h:=by
 rw [hx] at rx
 cases rx with
 | imm rx=>
   unfold V4 at hz
   split at hz
   ·cases hz
    generalize hv:a.eval x=v at rx
    cases rx
    refine aq.val (s:=convert s d (a.eval x)) (by simp [execOp,hop]) ?_ (.imm (.flt _ _))
    rw [hv]
    simp [convert,run_underlying hs,run_underlying hd,Conv.intToFloat,pure,Sem.run]
   ·cases hz
theorem Tt {fn:Fn} {caps:Array Operand} {d:Bool} (hop:o.op= .makeFunc fn #[] caps) (hf:Fr w ok mu fr a.tmps):aq P o a w ok mu h (if caps.isEmpty&&d then .imm (.clo fn []) else .clo fn (caps.toList.map (ev fr))) h:=by
 have hrun:(execOp a.eval o).run P w= .ok (.value (.func fn #[] (caps.map a.eval))) w:=by simp [execOp,hop,Instr.makeFunc,pure,Sem.run,bind,Sem.bind]
 refine aq.value hrun ?_
 split
 ·rename_i hc
  have:caps= #[]:=by simp at hc;exact hc.1
  subst this
  exact .imm (.clo fn [] _ (by simp) fun i c v h _=>by simp at h)
 ·refine .clo fn _ _ (by simp) fun i c v h1 h2=> ?_
  rw [List.getElem?_map] at h1
  rw [Array.getElem?_map,<-Array.getElem?_toList] at h2
  cases hc:caps.toList[i]? with
  | none=>simp [hc] at h1
  | some x=>simp [hc] at h1 h2;subst h1;subst h2;exact hf.ev x
theorem Vk {x:Operand} {i:Nat} (hop:o.op= .extract x i) (rx:RP w ok mu (ev fr x) (a.eval x)) {cs:List PV} (hx:ev fr x= .tup cs) {p:PV} (hp:cs[i]? =some p):aq P o a w ok mu h p h:=by
 rw [hx] at rx
 generalize hv:a.eval x=v at rx
 cases rx with
 | tup cs vs hlen hrel=>
   have hi:i < vs.size:=by rw [<-hlen];exact (List.getElem?_eq_some_iff.1 hp).1
   have hg:vs[i]? =some vs[i]:=Array.getElem?_eq_getElem hi
   refine aq.val (s:=Instr.extract (a.eval x) i) (v:=vs[i]) (by simp [execOp,hop]) ?_ (hrel i p _ hp hg)
   rw [hv]
   simp [Instr.extract,hg,pure,Sem.run]
theorem Dz {t:TypeId} {f:Nat} {fd:Field} (h:y7 P t f=some fd): ∃fs,P.underlying t=some (.struct fs)/\fs[f]? =some fd:=by
 unfold y7 at h
 split at h
 ·rename_i fs hu;exact ⟨fs,hu,h⟩
 ·cases h
theorem TB {t:TypeId} {x:Operand} {f:Nat} (hop:o.op= .field t x f) (rx:RP w ok mu (ev fr x) (a.eval x)) {fd:Field} (hfd:y7 P t f=some fd) {cs:List PV} (hx:ev fr x= .agg cs) {p:PV}
  (hp:(cV P fd.type=true/\p= .agg ((cs.drop fd.offset).take (P.cellsOf fd.type)))\/(jc P fd.type=true/\cs[fd.offset]? =some p)):aq P o a w ok mu h p h:=by
 obtain ⟨fs,hu,hfs⟩:=Dz hfd
 rw [hx] at rx
 generalize hv:a.eval x=v at rx
 cases rx with
 | agg cs vs hlen hrel=>
   have hbase: ∀{v':Value},(part fd.type vs fd.offset).run P w= .ok v' w->(Instr.field t (a.eval x) f).run P w= .ok v' w:=fun {v'} hp=>by
    rw [hv]
    simp [Instr.field,run_underlying hu,hfs,asAgg,hp,pure,Sem.run,Sem.run_bind,Result.andThen]
   rcases hp with ⟨hag,rfl⟩ | ⟨hsc,hp⟩
   ·refine aq.val (v:= .agg (vs.extract fd.offset (fd.offset+P.cellsOf fd.type))) (by simp [execOp,hop]) (hbase (by simp [part,lO hag,oS hag])) ?_
    refine .agg _ _ (by simp [hlen];omega) fun i p v h1 h2=> ?_
    have hlt:i < P.cellsOf fd.type:=by
     have:=(List.getElem?_eq_some_iff.1 h1).1;simp at this;omega
    rw [List.getElem?_take_of_lt hlt,List.getElem?_drop] at h1
    rw [Array.getElem?_extract] at h2
    split at h2
    ·exact hrel _ p v h1 h2
    ·cases h2
   ·have hi:fd.offset < vs.size:=by rw [<-hlen];exact (List.getElem?_eq_some_iff.1 hp).1
    have hg:vs[fd.offset]? =some vs[fd.offset]:=Array.getElem?_eq_getElem hi
    exact aq.val (v:=vs[fd.offset]) (by simp [execOp,hop]) (hbase (by simp [part,kz hsc,hg])) (hrel _ p _ hp hg)
end
end Go.AM
namespace Go.AM
open Go.RowKit
section
variable {P:Program} {o:Oper} {a:Act} {w:World} {ok:Nat->Prop} {mu:Mu} {h:List Ob} {fr:List PV}
theorem iy {t:TypeId} (h:P.cellsOf t≠0) (w:World):(sizeOf t).run P w= .ok (P.cellsOf t) w:=by
 cases hi:P.info? t with
 | none=>simp [Program.cellsOf,hi] at h
 | some i=>exact run_sizeOf w hi
theorem nU {s:TypeId} {f:Nat} {fd:Field} (hfd:y7 P s f=some fd) (hne:P.cellsOf fd.type≠0) (b off:Nat) (w:World):
  (Instr.fieldAt s (.pointer (some ⟨b,off,none⟩)) f).run P w= .ok (.pointer (some ⟨b,off+fd.offset,none⟩)) w:=by
 obtain ⟨fs,hu,hfs⟩:=Dz hfd
 simp [Instr.fieldAt,run_underlying hu,hfs,Instr.sureAddr,fieldPlace,iy hne,hne,cg,Sem.run_bind,Result.andThen,pure,Sem.run]
theorem nx {s:TypeId} {x:Operand} {f:Nat} (hop:o.op= .fieldAddr s x f) (rx:RP w ok mu (ev fr x) (a.eval x)) {fd:Field} (hfd:y7 P s f=some fd) (hne:P.cellsOf fd.type≠0) {p:PV}
  (hp:(∃q j,ev fr x= .ptr q j/\p= .ptr q (j+fd.offset))\/(∃q i j,ev fr x= .bptr q i j/\p= .bptr q i (j+fd.offset))\/(∃y i j,ev fr x= .eptr y i j/\p= .eptr y i (j+fd.offset))\/(∃y j,ev fr x= .iptr y j/\p= .iptr y (j+fd.offset))\/(∃cs j0,ev fr x= .imm (.ptr cs j0)/\p= .iptr (.ptr cs j0) fd.offset)):
  aq P o a w ok mu h p h:=by
 have he:execOp a.eval o=(do pure (Next.value (<-Instr.fieldAt s (a.eval x) f))):=by simp [execOp,hop]
 generalize hv:a.eval x=v at*
 rcases hp with ⟨q,j,hx,rfl⟩ | ⟨q,i,j,hx,rfl⟩ | ⟨y,i,j,hx,rfl⟩ | ⟨y,j,hx,rfl⟩ | ⟨cs,j0,hx,rfl⟩<;>rw [hx] at rx
 ·cases rx with
  | ptr q j pl b base hm hl=>exact aq.val he (nU hfd hne _ _ w) (by rw [Nat.add_assoc];exact .ptr _ _ pl b base hm hl)
 ·cases rx with
  | bptr q i j pl b base hm hl=>exact aq.val he (nU hfd hne _ _ w) (by rw [Nat.add_assoc];exact .bptr _ _ _ pl b base hm hl)
 ·cases rx with
  | eptr es e i j b off vals hok he' hmem hrel=>exact aq.val he (nU hfd hne _ _ w) (by rw [Nat.add_assoc];exact .eptr es e i _ b off vals hok he' hmem hrel)
 ·cases rx with
  | iptr cs j0 j b off vals hok hmem hrel=>exact aq.val he (nU hfd hne _ _ w) (by rw [show off+(j0+j)+fd.offset=off+(j0+(j+fd.offset)) by omega];exact .iptr cs j0 _ b off vals hok hmem hrel)
 ·cases rx with
  | imm rx=>
    cases rx with
    | ptr cs j b off vals hok hmem hrel=>exact aq.val he (nU hfd hne _ _ w) (by rw [Nat.add_assoc];exact .iptr cs j0 _ b off vals hok hmem hrel)
theorem dR {t:TypeId} (h:bo P t=true): ∃e,P.underlying t=some (.slice e)/\aU P t=e:=by
 unfold bo at h
 split at h
 ·rename_i e hu;exact ⟨e,hu,by simp [aU,hu]⟩
 ·cases h
theorem CR {t:TypeId} (h:wC P t=true):P.underlying t=some .string:=by
 unfold wC at h
 split at h
 ·assumption
 ·cases h
theorem wv {t e:TypeId} (hu:P.underlying t=some (.slice e)) (hne:P.cellsOf e≠0) {ad:Addr} {n cap:Nat} {k:IntKind} {i:Int} (h0:0<=i) (h1:i < n) (w:World):
  (Instr.indexAt t (.slice (some ad) n cap) (.int k i)).run P w= .ok (.pointer (some (ad.add (i.toNat*P.cellsOf e)))) w:=by
 simp [Instr.indexAt,asIntOf,run_underlying hu,h0,h1,iy hne,Sem.run_bind,Result.andThen,pure,Sem.run]
theorem Eo {t:TypeId} {x i:Operand} (hop:o.op= .indexAddr t x i) (ht:bo P t=true) (rx:RP w ok mu (ev fr x) (a.eval x)) (ri:RP w ok mu (ev fr i) (a.eval i)) {u n:IV} (hx:ev fr x= .imm u) (hi:ev fr i= .imm n) {m:Nat} (hm:dH u n (P.cellsOf (aU P t))=some m):
  aq P o a w ok mu h (.eptr u m 0) h:=by
 obtain ⟨e,hu,rfl⟩:=dR ht
 have he:execOp a.eval o=(do pure (Next.value (<-Instr.indexAt t (a.eval x) (a.eval i)))):=by simp [execOp,hop]
 rw [hx] at rx;rw [hi] at ri
 cases rx with
 | imm rx=>
   cases ri with
   | imm ri=>
     generalize a.eval x=v at*
     generalize a.eval i=vi at*
     unfold dH at hm
     split at hm
     ·rename_i es k i0
      split at hm
      ·rename_i hc
       obtain ⟨h0,h1,hlen,hpos⟩:=hc
       cases hm
       cases ri
       cases rx with
       | lst es ad cap sz vals hcap hsz hmem hrel=>
         have hi':i0.toNat < es.length:=by omega
         have hge:es[i0.toNat]? =some es[i0.toNat]:=List.getElem?_eq_getElem hi'
         have hl:es[i0.toNat].length=P.cellsOf (aU P t):=by
          rw [List.getD_eq_getElem?_getD,hge] at hlen;exact hlen
         have hsz':sz=P.cellsOf (aU P t):=by rw [<-hl];exact (hsz _ (List.getElem_mem hi')).symm
         obtain ⟨A,hA,hok,hc0⟩:=hmem i0.toNat 0 hi' (by omega)
         subst hA
         have hspot: ∀q,q < sz->w.cell? ⟨A.block,A.off+i0.toNat*sz+q,none⟩=some (vals i0.toNat q)/\A.add (i0.toNat*sz)=⟨A.block,A.off+i0.toNat*sz,none⟩:=by
          intro q hq
          obtain ⟨A',hA',_,hcq⟩:=hmem i0.toNat q hi' hq
          cases hA'
          have hn:A.spot=none:=by
           cases hs:A.spot with
           | none=>rfl
           | some s=>
             obtain ⟨A2,hA2,_,h00⟩:=hmem 0 0 (by omega) (by omega)
             cases hA2
             simp only [Nat.zero_mul,Nat.zero_add] at h00
             unfold Addr.add World.cell? at h00
             simp [hs] at h00
             split at h00<;>cases h00
          have hA3:A=⟨A.block,A.off,none⟩:=by cases A;simp_all
          rw [hA3,cg] at hcq
          refine ⟨by simpa [Nat.add_assoc] using hcq,?_⟩
          rw [hA3,cg]
         refine aq.val he (wv hu (by omega) h0 h1 w) ?_
         rw [<-hsz',(hspot 0 (by omega)).2]
         have:=RP.eptr (w:=w) (ok:=ok) (mu:=mu) es es[i0.toNat] i0.toNat 0 A.block (A.off+i0.toNat*sz) (vals i0.toNat) hok hge (fun q hq=>(hspot q (by omega)).1) (fun q c hc=>hrel _ q _ c hge hc)
         simpa using this
      ·cases hm
     ·cases hm
theorem pP {n:Nat} {i:IV} {m:Nat} (h:cE n i=some m): ∃k z,i= .int k z/\0<=z/\z < n/\m=z.toNat:=by
 unfold cE at h
 split at h
 ·split at h
  ·rename_i hc;cases h;exact ⟨_,_,rfl,hc.1,hc.2,rfl⟩
  ·cases h
 ·cases h
theorem Ez {t:TypeId} {x i:Operand} (hop:o.op= .indexAddr t x i) (ht:bo P t=true) (hpos:0 < P.cellsOf (aU P t)) (hsd:QA mu h) (rx:RP w ok mu (ev fr x) (a.eval x)) (ri:RP w ok mu (ev fr i) (a.eval i)) {q n:Nat} {y:IV} (hx:ev fr x= .buf q n) (hi:ev fr i= .imm y)
  {md:Md} {sz:Nat} {x0:IV} (hg:getOb h q= .arr md sz x0) (hsz:sz=P.cellsOf (aU P t)) {m:Nat} (hm:cE n y=some m):aq P o a w ok mu h (.bptr q m 0) h:=by
 obtain ⟨e,hu,rfl⟩:=dR ht
 have he:execOp a.eval o=(do pure (Next.value (<-Instr.indexAt t (a.eval x) (a.eval i)))):=by simp [execOp,hop]
 rw [hx] at rx;rw [hi] at ri
 obtain ⟨k,z,rfl,h0,h1,rfl⟩:=pP hm
 cases ri with
 | imm ri=>
   generalize a.eval x=v at*
   generalize a.eval i=vi at*
   cases ri
   cases rx with
   | buf q n A cap pl hmu hn hh hc=>
     have hps:=hsd q pl md sz x0 hmu hg
     rcases hh.2 with ⟨hz,_⟩ | ⟨b,base,hl,hA⟩
     ·omega
     ·subst hA
      refine aq.val he (wv hu (by omega) h0 h1 w) ?_
      rw [cg,<-hsz,<-hps,Nat.zero_mul,Nat.add_zero]
      have:=RP.bptr (w:=w) (ok:=ok) q z.toNat 0 pl b base hmu hl
      simpa using this
theorem P3 {t e:TypeId} {len:Nat} (hu:P.underlying t=some (.array len e)) (hne:P.cellsOf e≠0) {b off:Nat} {k:IntKind} {i:Int} (h0:0<=i) (h1:i < len) (w:World):
  (Instr.indexAt t (.pointer (some ⟨b,off,none⟩)) (.int k i)).run P w= .ok (.pointer (some ⟨b,off+i.toNat*P.cellsOf e,none⟩)) w:=by
 simp [Instr.indexAt,Instr.sureAddr,asIntOf,run_underlying hu,h0,h1,iy hne,Sem.run_bind,Result.andThen,pure,Sem.run,cg]
theorem ES {t:TypeId} {x i:Operand} (hop:o.op= .indexAddr t x i) {len:Nat} {e:TypeId} (hu:P.underlying t=some (.array len e)) (hpos:0 < P.cellsOf e) (rx:RP w ok mu (ev fr x) (a.eval x)) (ri:RP w ok mu (ev fr i) (a.eval i)) {q j:Nat} {y:IV} (hx:ev fr x= .ptr q j) (hi:ev fr i= .imm y)
  {m:Nat} (hm:cE len y=some m):aq P o a w ok mu h (.ptr q (j+m*P.cellsOf e)) h:=by
 have he:execOp a.eval o=(do pure (Next.value (<-Instr.indexAt t (a.eval x) (a.eval i)))):=by simp [execOp,hop]
 rw [hx] at rx;rw [hi] at ri
 obtain ⟨k,z,rfl,h0,h1,rfl⟩:=pP hm
 cases ri with
 | imm ri=>
   generalize a.eval x=v at*
   generalize a.eval i=vi at*
   cases ri
   cases rx with
   | ptr q j pl b base hmu hl=>
     refine aq.val he (P3 hu (by omega) h0 h1 w) ?_
     rw [Nat.add_assoc]
     exact .ptr q _ pl b base hmu hl
theorem Ey {t:TypeId} {x i:Operand} (hop:o.op= .indexAddr t x i) (ht:bo P t=true) (hpos:0 < P.cellsOf (aU P t)) (hsd:QA mu h) (rx:RP w ok mu (ev fr x) (a.eval x)) (ri:RP w ok mu (ev fr i) (a.eval i)) {q l u:Nat} {y:IV} (hx:ev fr x= .sub q l u) (hi:ev fr i= .imm y)
  {md:Md} {sz:Nat} {x0:IV} (hg:getOb h q= .arr md sz x0) (hsz:sz=P.cellsOf (aU P t)) {m:Nat} (hm:cE (u - l) y=some m):aq P o a w ok mu h (.bptr q (l+m) 0) h:=by
 obtain ⟨e,hu,rfl⟩:=dR ht
 have he:execOp a.eval o=(do pure (Next.value (<-Instr.indexAt t (a.eval x) (a.eval i)))):=by simp [execOp,hop]
 rw [hx] at rx;rw [hi] at ri
 obtain ⟨k,z,rfl,h0,h1,rfl⟩:=pP hm
 cases ri with
 | imm ri=>
   generalize a.eval x=v at*
   generalize a.eval i=vi at*
   cases ri
   cases rx with
   | sub q l u A cap pl hmu hl' hn hh hc=>
     have hps:=hsd q pl md sz x0 hmu hg
     rcases hh.2 with ⟨hz,_⟩ | ⟨b,base,hl,hA⟩
     ·omega
     ·subst hA
      refine aq.val he (wv hu (by omega) h0 h1 w) ?_
      rw [cg,<-hsz,<-hps]
      have:=RP.bptr (w:=w) (ok:=ok) q (l+z.toNat) 0 pl b base hmu hl
      rw [Nat.add_mul] at this
      simpa [Nat.add_assoc] using this
theorem RB {t:TypeId} {x i:Operand} (hop:o.op= .index t x i) (ht:wC P t=true) (rx:RP w ok mu (ev fr x) (a.eval x)) (ri:RP w ok mu (ev fr i) (a.eval i)) {u n z:IV} (hx:ev fr x= .imm u) (hi:ev fr i= .imm n) (hz:SN u n=some z):
  aq P o a w ok mu h (.imm z) h:=by
 have hu:=CR ht
 have he:execOp a.eval o=(do pure (Next.value (<-Instr.index t (a.eval x) (a.eval i)))):=by simp [execOp,hop]
 rw [hx] at rx;rw [hi] at ri
 cases rx with
 | imm rx=>
   cases ri with
   | imm ri=>
     generalize a.eval x=v at*
     generalize a.eval i=vi at*
     unfold SN at hz
     split at hz
     ·rename_i s k i0
      cases rx;cases ri
      obtain ⟨b,hb,rfl⟩:=Option.map_eq_some_iff.1 hz
      refine aq.val he ?_ (.imm (.int _ _))
      simp [Instr.index,asIntOf,run_underlying hu,Sem.run_bind,Result.andThen]
      rw [hb]
      rfl
     ·cases hz
theorem Ig: ∀{cs:List PV} {l:List IV},Ko cs=some l->l.length=cs.length/\ ∀(i:Nat) (c:PV),cs[i]? =some c-> ∃x,l[i]? =some x/\c= .imm x:=by
 intro cs l hl
 obtain ⟨h1,h2⟩:=ed hl
 refine ⟨h1,fun i c hc=> ?_⟩
 obtain ⟨x,h3,h4⟩:=h2 i c hc
 refine ⟨x,h3,?_⟩
 cases c<;>simp at h4
 rw [h4]
theorem DW {t:TypeId} {x i:Operand} (hop:o.op= .index t x i) {len:Nat} {e:TypeId} (hu:P.underlying t=some (.array len e)) (rx:RP w ok mu (ev fr x) (a.eval x)) (ri:RP w ok mu (ev fr i) (a.eval i)) {cs:List PV} {l:List IV} {n:IV} (hx:ev fr x= .agg cs) (hl:Ko cs=some l) (hi:ev fr i= .imm n)
  (hlen:l.length=len*P.cellsOf e) {m:Nat} (hm:cE len n=some m) {p:PV} (hp:(cV P e=true/\p= .agg ((List.range (P.cellsOf e)).map fun j=> .imm (nth l (m*P.cellsOf e+j))))\/(jc P e=true/\P.cellsOf e=1/\p= .imm (nth l m))):aq P o a w ok mu h p h:=by
 have he:execOp a.eval o=(do pure (Next.value (<-Instr.index t (a.eval x) (a.eval i)))):=by simp [execOp,hop]
 rw [hx] at rx;rw [hi] at ri
 obtain ⟨k,z,rfl,h0,h1,rfl⟩:=pP hm
 obtain ⟨hll,hget⟩:=Ig hl
 cases ri with
 | imm ri=>
   generalize a.eval x=v at*
   generalize a.eval i=vi at*
   cases ri
   cases rx with
   | agg cs vs hcl hrel=>
     have hcell: ∀q,q < l.length-> ∃v,vs[q]? =some v/\RV w ok (nth l q) v:=fun q hq=>by
      have hq':q < cs.length:=by omega
      have hqv:q < vs.size:=by omega
      obtain ⟨y,h3,h4⟩:=hget q cs[q] (List.getElem?_eq_getElem hq')
      have hr:=hrel q _ vs[q] (List.getElem?_eq_getElem hq') (Array.getElem?_eq_getElem hqv)
      rw [h4] at hr
      have:nth l q=y:=by unfold nth;rw [List.getD_eq_getElem?_getD,h3];rfl
      cases hr with
      | imm hr=>exact ⟨vs[q],Array.getElem?_eq_getElem hqv,by rw [this];exact hr⟩
     have hzl:z.toNat < len:=by omega
     have hlim:z.toNat*P.cellsOf e+P.cellsOf e<=l.length:=by
      rw [hlen,<-Nat.succ_mul];exact Nat.mul_le_mul_right _ hzl
     rcases hp with ⟨hag,rfl⟩ | ⟨hsc,hone,rfl⟩
     ·obtain ⟨ie,hie⟩:=xo hag
      refine aq.val (v:= .agg (vs.extract (z.toNat*P.cellsOf e) (z.toNat*P.cellsOf e+P.cellsOf e))) he ?_ ?_
      ·simp [Instr.index,asIntOf,run_underlying hu,h0,h1,oS hag,part,lO hag,Sem.run_bind,Result.andThen,pure,Sem.run]
      ·refine .agg _ _ (by simp;omega) fun q p v h3 h4=> ?_
       have hq:q < P.cellsOf e:=by
        have:=(List.getElem?_eq_some_iff.1 h3).1;simpa using this
       simp [hq] at h3
       subst h3
       rw [Array.getElem?_extract] at h4
       split at h4
       ·obtain ⟨v',h5,h6⟩:=hcell (z.toNat*P.cellsOf e+q) (by omega)
        rw [h5] at h4;cases h4
        exact .imm h6
       ·cases h4
     ·obtain ⟨v',h5,h6⟩:=hcell z.toNat (by rw [hone] at hlim;omega)
      refine aq.val (v:=v') he ?_ (.imm h6)
      have hne:P.cellsOf e≠0:=by omega
      simp [Instr.index,asIntOf,run_underlying hu,h0,h1,iy hne,part,kz hsc,hone,h5,Sem.run_bind,Result.andThen,pure,Sem.run]
theorem Dh {t:TypeId} {x i:Operand} (hop:o.op= .index t x i) {len:Nat} {e:TypeId} (hu:P.underlying t=some (.array len e)) (rx:RP w ok mu (ev fr x) (a.eval x)) (ri:RP w ok mu (ev fr i) (a.eval i)) {cs:List PV} {n:IV} (hx:ev fr x= .agg cs) (hi:ev fr i= .imm n)
  (hlen:cs.length=len*P.cellsOf e) (hpos:0 < P.cellsOf e) {m:Nat} (hm:cE len n=some m) {p:PV} (hp:(cV P e=true/\p= .agg ((cs.drop (m*P.cellsOf e)).take (P.cellsOf e)))\/(cV P e=false/\jc P e=true/\P.cellsOf e=1/\cs[m]? =some p)):aq P o a w ok mu h p h:=by
 have he:execOp a.eval o=(do pure (Next.value (<-Instr.index t (a.eval x) (a.eval i)))):=by simp [execOp,hop]
 rw [hx] at rx;rw [hi] at ri
 obtain ⟨k,z,rfl,h0,h1,rfl⟩:=pP hm
 cases ri with
 | imm ri=>
   generalize a.eval x=v at*
   generalize a.eval i=vi at*
   cases ri
   cases rx with
   | agg cs vs hcl hrel=>
     have hzl:z.toNat < len:=by omega
     have hlim:z.toNat*P.cellsOf e+P.cellsOf e<=cs.length:=by
      rw [hlen,<-Nat.succ_mul];exact Nat.mul_le_mul_right _ hzl
     rcases hp with ⟨hag,rfl⟩ | ⟨hag,hsc,hone,hp⟩
     ·obtain ⟨ie,hie⟩:=xo hag
      refine aq.val (v:= .agg (vs.extract (z.toNat*P.cellsOf e) (z.toNat*P.cellsOf e+P.cellsOf e))) he ?_ ?_
      ·simp [Instr.index,asIntOf,run_underlying hu,h0,h1,oS hag,part,lO hag,Sem.run_bind,Result.andThen,pure,Sem.run]
      ·refine .agg _ _ (by simp;omega) fun q p v h3 h4=> ?_
       have hq:q < P.cellsOf e:=by
        have:=(List.getElem?_eq_some_iff.1 h3).1;simp at this;omega
       rw [List.getElem?_take_of_lt hq,List.getElem?_drop] at h3
       rw [Array.getElem?_extract] at h4
       split at h4
       ·exact hrel _ p v h3 h4
       ·cases h4
     ·have hzl2:z.toNat < vs.size:=by rw [hone] at hlim;omega
      have hv:vs[z.toNat]? =some vs[z.toNat]:=Array.getElem?_eq_getElem hzl2
      refine aq.val (v:=vs[z.toNat]) he ?_ (hrel _ _ _ hp hv)
      have hne:P.cellsOf e≠0:=by omega
      simp [Instr.index,asIntOf,run_underlying hu,h0,h1,iy hne,part,kz hsc,hone,hv,Sem.run_bind,Result.andThen,pure,Sem.run]
theorem wD {x:IV} {n m:Nat} (h:R2 x n=some m): ∃k z,x= .int k z/\0<=z/\z<=n/\m=z.toNat:=by
 unfold R2 at h
 split at h
 ·split at h
  ·rename_i hc;cases h;exact ⟨_,_,rfl,hc.1,hc.2,rfl⟩
  ·cases h
 ·cases h
theorem fO {k:IntKind} {z:Int} {n:Nat} (c:BoundsCode) (h0:0<=z) (h1:z<=n) (w:World):(Instr.sliceBound (.int k z) n c).run P w= .ok z.toNat w:=by
 simp [Instr.sliceBound,asIntOf,h0,h1,Sem.run_bind,Result.andThen,pure,Sem.run]
theorem ky {isS:Bool} {len cap:Nat} (hcap:len<=cap) {lo hi:Option IV} {lv hv:Option Value} {p:Nat×Nat} (hp:sK len lo hi=some p)
  (hl: ∀x,lo=some x-> ∃v,lv=some v/\RV w ok x v) (hl0:lo=none->lv=none) (hh: ∀x,hi=some x-> ∃v,hv=some v/\RV w ok x v) (hh0:hi=none->hv=none):
  (Instr.sliceBounds isS len cap lv hv none).run P w= .ok (p.1,p.2,cap) w/\p.1<=p.2/\p.2<=len:=by
 unfold sK at hp
 cases hi with
 | none=>
   have:=hh0 rfl;subst this
   simp only [Option.bind_some] at hp
   cases lo with
   | none=>
     have:=hl0 rfl;subst this
     simp only [Option.bind_some,Option.some.injEq] at hp
     subst hp
     exact ⟨by simp [Instr.sliceBounds,Sem.run_bind,Result.andThen,pure,Sem.run],by simp,by simp⟩
   | some x=>
     obtain ⟨v,rfl,r⟩:=hl x rfl
     simp only at hp
     cases hb:R2 x len with
     | none=>simp [hb] at hp
     | some m=>
       obtain ⟨k,z,rfl,h0,h1,rfl⟩:=wD hb
       cases r
       simp [hb] at hp
       subst hp
       refine ⟨by simp [Instr.sliceBounds,fO _ h0 h1,Sem.run_bind,Result.andThen,pure,Sem.run],?_,?_⟩<;>simp<;>omega
 | some y=>
   obtain ⟨vy,rfl,ry⟩:=hh y rfl
   simp only at hp
   cases hb:R2 y len with
   | none=>simp [hb] at hp
   | some m=>
     obtain ⟨k,z,rfl,h0,h1,rfl⟩:=wD hb
     cases ry
     simp only [hb,Option.bind_some] at hp
     have h1c:z<=cap:=by omega
     cases lo with
     | none=>
       have:=hl0 rfl;subst this
       simp only [Option.bind_some,Option.some.injEq] at hp
       subst hp
       refine ⟨by simp [Instr.sliceBounds,fO _ h0 h1c,Sem.run_bind,Result.andThen,pure,Sem.run],?_,?_⟩<;>simp<;>omega
     | some x=>
       obtain ⟨v,rfl,r⟩:=hl x rfl
       simp only at hp
       cases hb2:R2 x z.toNat with
       | none=>simp [hb2] at hp
       | some m2=>
         obtain ⟨k2,z2,rfl,h20,h21,rfl⟩:=wD hb2
         cases r
         simp [hb2] at hp
         subst hp
         refine ⟨by simp [Instr.sliceBounds,fO _ h0 h1c,fO _ h20 h21,Sem.run_bind,Result.andThen,pure,Sem.run],?_,?_⟩<;>simp<;>omega
theorem lu (hf:Fr w ok mu fr a.tmps) {lo:Option Operand} {l:Option IV} (h:mi fr lo=some l):(∀x,l=some x-> ∃v,lo.map a.eval=some v/\RV w ok x v)/\(l=none->lo.map a.eval=none):=by
 unfold mi at h
 split at h
 ·cases h;exact ⟨fun x hx=>(by cases hx),fun _=>rfl⟩
 ·rename_i y
  split at h
  ·rename_i v hv
   cases h
   refine ⟨fun x hx=> ?_,fun hx=>(by cases hx)⟩
   cases hx
   have:=hf.ev y
   rw [hv] at this
   cases this with
   | imm r=>exact ⟨_,rfl,r⟩
  ·cases h
theorem Pm {t:TypeId} {x:Operand} {lo hi:Option Operand} (hop:o.op= .slice t x lo hi none) (ht:wC P t=true) (hf:Fr w ok mu fr a.tmps) {u z:IV} (hx:ev fr x= .imm u) {l r:Option IV} (hl:mi fr lo=some l) (hr:mi fr hi=some r) (hz:yT u l r=some z):aq P o a w ok mu h (.imm z) h:=by
 have hu:=CR ht
 have he:execOp a.eval o=(do pure (Next.value (<-Instr.sliceAt t (a.eval x) (lo.map a.eval) (hi.map a.eval) none))):=by simp [execOp,hop]
 have rx:=hf.ev x
 rw [hx] at rx
 cases rx with
 | imm rx=>
   generalize a.eval x=v at*
   unfold yT at hz
   split at hz
   ·rename_i s
    cases rx
    cases hp:sK s.size l r with
    | none=>simp [hp] at hz
    | some p=>
      simp [hp] at hz
      subst hz
      obtain ⟨hl1,hl2⟩:=lu hf hl
      obtain ⟨hr1,hr2⟩:=lu hf hr
      obtain ⟨h1,h2,h3⟩:=ky (P:=P) (isS:=false) (Nat.le_refl _) hp hl1 hl2 hr1 hr2
      refine aq.val he ?_ (.imm (.str _))
      simp [Instr.sliceAt,Instr.slice,run_underlying hu,h1,Sem.run_bind,Result.andThen,pure,Sem.run]
   ·cases hz
theorem CM {t e:TypeId} (hu:P.underlying t=some (.slice e)) (hi:(P.info? e).isSome=true) {A:Option Addr} {n cap:Nat} {lv hv:Option Value} {p:Nat×Nat} (hb:(Instr.sliceBounds true n cap lv hv none).run P w= .ok (p.1,p.2,cap) w):
  (Instr.sliceAt t (.slice A n cap) lv hv none).run P w= .ok (.slice (if cap=p.1 then A else A.map (·.add (p.1*P.cellsOf e))) (p.2 - p.1) (cap - p.1)) w:=by
 obtain ⟨ie,hie⟩:=Option.isSome_iff_exists.1 hi
 simp [Instr.sliceAt,Instr.slice,run_underlying hu,hb,run_sizeOf w hie,Sem.run_bind,Result.andThen,pure,Sem.run]
theorem gG {t:TypeId} (h:0 < P.cellsOf t):(P.info? t).isSome=true:=by
 cases hi:P.info? t with
 | none=>simp [Program.cellsOf,hi] at h
 | some i=>rfl
theorem RS {t:TypeId} {x:Operand} {lo hi:Option Operand} (hop:o.op= .slice t x lo hi none) (ht:bo P t=true) (hpos:0 < P.cellsOf (aU P t)) (hf:Fr w ok mu fr a.tmps) {u z:IV} (hx:ev fr x= .imm u) {l r:Option IV} (hl:mi fr lo=some l) (hr:mi fr hi=some r) (hz:D8 (P.cellsOf (aU P t)) u l r=some z):aq P o a w ok mu h (.imm z) h:=by
 obtain ⟨e,hu,rfl⟩:=dR ht
 have he:execOp a.eval o=(do pure (Next.value (<-Instr.sliceAt t (a.eval x) (lo.map a.eval) (hi.map a.eval) none))):=by simp [execOp,hop]
 have rx:=hf.ev x
 rw [hx] at rx
 cases rx with
 | imm rx=>
   generalize a.eval x=v at*
   unfold D8 at hz
   split at hz
   ·rename_i es
    split at hz
    ·rename_i hall
     cases rx with
     | lst es A cap sz vals hcap hsz hmem hrel=>
       cases hp:sK es.length l r with
       | none=>simp [hp] at hz
       | some p=>
         simp [hp] at hz
         subst hz
         obtain ⟨hl1,hl2⟩:=lu hf hl
         obtain ⟨hr1,hr2⟩:=lu hf hr
         obtain ⟨h1,h2,h3⟩:=ky (P:=P) (isS:=true) hcap hp hl1 hl2 hr1 hr2
         refine aq.val he (CM hu (gG hpos) h1) (.imm ?_)
         have hlen:((es.drop p.1).take (p.2 - p.1)).length=p.2 - p.1:=by simp;omega
         have key: ∀A',(p.2 - p.1≠0->A'=A.map (·.add (p.1*P.cellsOf (aU P t))))->RV w ok (.lst ((es.drop p.1).take (p.2 - p.1))) (.slice A' ((es.drop p.1).take (p.2 - p.1)).length (cap - p.1)):=by
          intro A' hA'
          refine .lst _ A' (cap - p.1) sz (fun i j=>vals (p.1+i) j) (by rw [hlen];omega) (fun e hm=>hsz e (List.mem_of_mem_drop (List.mem_of_mem_take hm))) (fun i j hi hj=> ?_) (fun i j e c h1 h2=> ?_)
          ·rw [hlen] at hi
           obtain ⟨ad,hA,hok,hcell⟩:=hmem (p.1+i) j (by omega) hj
           have hs:sz=P.cellsOf (aU P t):=by
            have h0:es[0]'(by omega)∈es:=List.getElem_mem _
            have:=List.all_eq_true.1 hall _ h0
            rw [hsz _ h0] at this
            simpa using this
           refine ⟨ad.add (p.1*P.cellsOf (aU P t)),by rw [hA' (by omega),hA];rfl,by rw [js];exact hok,?_⟩
           rw [<-hcell]
           congr 1
           rw [<-hs]
           unfold Addr.add
           have:(p.1+i)*sz=p.1*sz+i*sz:=Nat.add_mul _ _ _
           split<;>split<;>split<;>simp_all<;>omega
          ·have hi:i < p.2 - p.1:=by have:=(List.getElem?_eq_some_iff.1 h1).1;rw [hlen] at this;exact this
           rw [List.getElem?_take_of_lt hi,List.getElem?_drop] at h1
           exact hrel _ j e c h1 h2
         rw [hlen] at key
         refine key _ fun hne=> ?_
         rw [if_neg (by omega)]
    ·cases hz
   ·cases hz
theorem Rh {t:TypeId} {x:Operand} {lo hi:Option Operand} (hop:o.op= .slice t x lo hi none) (ht:bo P t=true) (hpos:0 < P.cellsOf (aU P t)) (hsd:QA mu h) (hf:Fr w ok mu fr a.tmps) {q n:Nat} (hx:ev fr x= .buf q n) {md:Md} {sz:Nat} {x0:IV} (hg:getOb h q= .arr md sz x0) (hsz:sz=P.cellsOf (aU P t))
  {l r:Option IV} (hl:mi fr lo=some l) (hr:mi fr hi=some r) {p:Nat×Nat} (hp:sK n l r=some p):aq P o a w ok mu h (.sub q p.1 p.2) h:=by
 obtain ⟨e,hu,rfl⟩:=dR ht
 have he:execOp a.eval o=(do pure (Next.value (<-Instr.sliceAt t (a.eval x) (lo.map a.eval) (hi.map a.eval) none))):=by simp [execOp,hop]
 have rx:=hf.ev x
 rw [hx] at rx
 generalize a.eval x=v at*
 obtain ⟨hl1,hl2⟩:=lu hf hl
 obtain ⟨hr1,hr2⟩:=lu hf hr
 cases rx with
 | buf q n A cap pl hmu hn hh hc=>
   have hps:=hsd q pl md sz x0 hmu hg
   obtain ⟨h1,h2,h3⟩:=ky (P:=P) (isS:=true) hh.1 hp hl1 hl2 hr1 hr2
   refine aq.val he (CM hu (gG hpos) h1) ?_
   refine .sub q p.1 p.2 _ (cap - p.1) pl hmu h2 (by omega) ⟨by have:=hh.1;omega,?_⟩ fun b base hb=> ?_
   ·rcases hh.2 with ⟨hz,hz'⟩ | ⟨b,base,hb,hA⟩
    ·exact .inl ⟨by omega,by omega⟩
    ·by_cases hcp:cap=p.1
     ·exact .inl ⟨by have:=hh.1;omega,by omega⟩
     ·refine .inr ⟨b,base,hb,?_⟩
      rw [if_neg hcp,hA,<-hsz,<-hps]
      simp [cg]
   ·obtain ⟨c,T,z,hw,hs⟩:=hc b base hb
    refine ⟨c,T,z,hw,?_⟩
    have:p.1+(cap - p.1)=cap:=by have:=hh.1;omega
    rw [this];exact hs
theorem Wi {t:TypeId} {x hi mx:Operand} (hop:o.op= .slice t x none (some hi) (some mx)) (ht:bo P t=true) (hpos:0 < P.cellsOf (aU P t)) (hf:Fr w ok mu fr a.tmps) {q n:Nat} (hx:ev fr x= .buf q n) {md:Md} {sz:Nat} {x0:IV} (hg:getOb h q= .arr md sz x0)
  {u v:IV} (hu1:ev fr hi= .imm u) (hv1:ev fr mx= .imm v) {p:Nat} (hp:R2 u n=some p) (hp2:R2 v n=some p):aq P o a w ok mu h (.sub q 0 p) h:=by
 obtain ⟨e,hu,rfl⟩:=dR ht
 have he:execOp a.eval o=(do pure (Next.value (<-Instr.sliceAt t (a.eval x) none (some (a.eval hi)) (some (a.eval mx))))):=by simp [execOp,hop]
 have rx:=hf.ev x
 rw [hx] at rx
 have ru:=hf.ev hi
 rw [hu1] at ru
 have rv:=hf.ev mx
 rw [hv1] at rv
 generalize a.eval x=z at*
 generalize a.eval hi=zu at*
 generalize a.eval mx=zv at*
 obtain ⟨k,i,rfl,h0,h1,rfl⟩:=wD hp
 obtain ⟨k',i',rfl,h0',h1',hii⟩:=wD hp2
 cases rx with
 | buf q n A cap pl hmu hn hh hc=>
   cases ru with
   | imm ru=>
   cases ru
   cases rv with
   | imm rv=>
   cases rv
   obtain ⟨ie,hie⟩:=Option.isSome_iff_exists.1 (gG hpos)
   have hcap:=hh.1
   have h1c:i'<=(cap:Int):=by omega
   have h2c:i<=((i'.toNat:Nat):Int):=by omega
   have hrun:(Instr.sliceAt t (.slice A n cap) none (some (.int k i)) (some (.int k' i'))).run P w= .ok (.slice (if i'.toNat=0 then A else A.map (·.add (0*P.cellsOf (aU P t)))) (i.toNat - 0) (i'.toNat - 0)) w:=by
    simp [Instr.sliceAt,Instr.slice,run_underlying hu,Instr.sliceBounds,fO _ h0' h1c,fO _ h0 h2c,run_sizeOf w hie,Sem.run_bind,Result.andThen,pure,Sem.run]
   refine aq.val he hrun ?_
   refine .sub q 0 i.toNat _ _ pl hmu (Nat.zero_le _) (by omega) ⟨by omega,?_⟩ fun b base hb=> ?_
   ·rcases hh.2 with ⟨hz,hz'⟩ | ⟨b,base,hb,hA⟩
    ·exact .inl ⟨by omega,by omega⟩
    ·refine .inr ⟨b,base,hb,?_⟩
     rw [hA]
     simp [cg]
   ·obtain ⟨c,T,z,hw,hs⟩:=hc b base hb
    refine ⟨c,T,z,hw,?_⟩
    have h5:(0+(i'.toNat - 0))*pl.sz<=cap*pl.sz:=Nat.mul_le_mul_right _ (by omega)
    omega
theorem RY {t:TypeId} {x:Operand} {lo hi:Option Operand} (hop:o.op= .slice t x lo hi none) (ht:bo P t=true) (hpos:0 < P.cellsOf (aU P t)) (hsd:QA mu h) (hf:Fr w ok mu fr a.tmps) {q l0 u0:Nat} (hx:ev fr x= .sub q l0 u0) {md:Md} {sz:Nat} {x0:IV} (hg:getOb h q= .arr md sz x0) (hsz:sz=P.cellsOf (aU P t))
  {l r:Option IV} (hl:mi fr lo=some l) (hr:mi fr hi=some r) {p:Nat×Nat} (hp:sK (u0 - l0) l r=some p):aq P o a w ok mu h (.sub q (l0+p.1) (l0+p.2)) h:=by
 obtain ⟨e,hu,rfl⟩:=dR ht
 have he:execOp a.eval o=(do pure (Next.value (<-Instr.sliceAt t (a.eval x) (lo.map a.eval) (hi.map a.eval) none))):=by simp [execOp,hop]
 have rx:=hf.ev x
 rw [hx] at rx
 generalize a.eval x=v at*
 obtain ⟨hl1,hl2⟩:=lu hf hl
 obtain ⟨hr1,hr2⟩:=lu hf hr
 cases rx with
 | sub q l0 u0 A cap pl hmu hlu hn hh hc=>
   have hps:=hsd q pl md sz x0 hmu hg
   obtain ⟨h1,h2,h3⟩:=ky (P:=P) (isS:=true) hh.1 hp hl1 hl2 hr1 hr2
   refine aq.val he (CM hu (gG hpos) h1) ?_
   have key:RP w ok mu (.sub q (l0+p.1) (l0+p.2)) (.slice (if cap=p.1 then A else A.map (·.add (p.1*P.cellsOf (aU P t)))) (l0+p.2 - (l0+p.1)) (cap - p.1)):=by
    refine .sub q _ _ _ (cap - p.1) pl hmu (by omega) (by omega) ⟨by have:=hh.1;omega,?_⟩ fun b base hb=> ?_
    ·rcases hh.2 with ⟨hz,hz'⟩ | ⟨b,base,hb,hA⟩
     ·exact .inl ⟨by omega,by omega⟩
     ·by_cases hcp:cap=p.1
      ·exact .inl ⟨by have:=hh.1;omega,by omega⟩
      ·refine .inr ⟨b,base,hb,?_⟩
       rw [if_neg hcp,hA,<-hsz,<-hps]
       simp [cg,Nat.add_mul,Nat.add_assoc]
    ·obtain ⟨c,T,z,hw,hs⟩:=hc b base hb
     refine ⟨c,T,z,hw,?_⟩
     have:l0+p.1+(cap - p.1)=l0+cap:=by have:=hh.1;omega
     rw [this];exact hs
   rw [show l0+p.2 - (l0+p.1)=p.2 - p.1 by omega] at key
   exact key
theorem mc {c:Call} {b:Builtin} (hop:o.op= .call c) (hc:c.callee= .builtin b) {s:Sem Value} (hb: ∀consts,builtin b c.argTypes o.type consts (c.args.map a.eval)=(do pure (Next.value (<-s)))):execOp a.eval o=(do pure (Next.value (<-s))):=by
 simp only [execOp,hop,resolve,hc]
 simp only [pure,bind,Sem.bind,invoke]
 exact hb _
theorem PM {c:Call} (hop:o.op= .call c) (hc:c.callee= .builtin .len) {x:Operand} (hargs:c.args= #[x]) {t:TypeId} (hat:c.argTypes.getD 0 0=t) (hat':c.argTypes[0]?.isSome=true) {n:Nat} {p:PV}
  (hv:(bo P t=true/\ ∃A cap,a.eval x= .slice A n cap)\/(wC P t=true/\ ∃s:ByteArray,a.eval x= .string s/\s.size=n)) (hp:p= .imm (.int .i64 n)):aq P o a w ok mu h p h:=by
 subst hp
 have hat2:c.argTypes[0]? =some t:=by
  obtain ⟨t',ht'⟩:=Option.isSome_iff_exists.1 hat'
  rw [Array.getD_eq_getD_getElem?,ht'] at hat
  rw [ht'];simpa using hat
 have he:execOp a.eval o=(do pure (Next.value (<-Builtin.len_ c.argTypes o.type #[a.eval x]))):=mc hop hc fun consts=>by simp [builtin,hargs]
 refine aq.val he (v:= .int .i64 n) ?_ (.imm (.int _ _))
 rcases hv with ⟨ht,A,cap,hx⟩ | ⟨ht,s,hx,hs⟩
 ·obtain ⟨e,hu,_⟩:=dR ht
  simp [Builtin.len_,hat2,hx,run_underlying hu,goInt,pure,Sem.run]
 ·have hu:=CR ht
  simp [Builtin.len_,hat2,hx,run_underlying hu,goInt,pure,Sem.run,hs]
theorem W8 {x y z:IV} (h:imax x y=some z): ∃k a b,x= .int k a/\y= .int k b/\z= .int k (if b > a then b else a):=by
 unfold imax at h
 split at h
 ·split at h
  ·rename_i hk;subst hk;cases h;exact ⟨_,_,_,rfl,rfl,rfl⟩
  ·cases h
 ·cases h
theorem V5 {x y z:IV} (h:Sw x y=some z): ∃k a b,x= .int k a/\y= .int k b/\z= .int k (if b < a then b else a):=by
 unfold Sw at h
 split at h
 ·split at h
  ·rename_i hk;subst hk;cases h;exact ⟨_,_,_,rfl,rfl,rfl⟩
  ·cases h
 ·cases h
theorem aa4 {c:Call} (hop:o.op= .call c) (hc:c.callee= .builtin .max) {x y:Operand} (hargs:c.args= #[x,y]) (rx:RP w ok mu (ev fr x) (a.eval x)) (ry:RP w ok mu (ev fr y) (a.eval y)) {u v z:IV} (hx:ev fr x= .imm u) (hy:ev fr y= .imm v) (hz:imax u v=some z):aq P o a w ok mu h (.imm z) h:=by
 have he:execOp a.eval o=(do pure (Next.value (<-Builtin.max_ c.argTypes o.type #[a.eval x,a.eval y]))):=mc hop hc fun consts=>by simp [builtin,hargs]
 rw [hx] at rx;rw [hy] at ry
 obtain ⟨k,m,n,rfl,rfl,rfl⟩:=W8 hz
 cases rx with
 | imm rx=>
   cases ry with
   | imm ry=>
     generalize a.eval x=p at*
     generalize a.eval y=q at*
     cases rx;cases ry
     refine aq.val he ?_ (.imm (.int _ _))
     simp [Builtin.max_,Builtin.max2,pure,Sem.run]
theorem ach {c:Call} (hop:o.op= .call c) (hc:c.callee= .builtin .min) {x y:Operand} (hargs:c.args= #[x,y]) (rx:RP w ok mu (ev fr x) (a.eval x)) (ry:RP w ok mu (ev fr y) (a.eval y)) {u v z:IV} (hx:ev fr x= .imm u) (hy:ev fr y= .imm v) (hz:Sw u v=some z):aq P o a w ok mu h (.imm z) h:=by
 have he:execOp a.eval o=(do pure (Next.value (<-Builtin.min_ c.argTypes o.type #[a.eval x,a.eval y]))):=mc hop hc fun consts=>by simp [builtin,hargs]
 rw [hx] at rx;rw [hy] at ry
 obtain ⟨k,m,n,rfl,rfl,rfl⟩:=V5 hz
 cases rx with
 | imm rx=>
   cases ry with
   | imm ry=>
     generalize a.eval x=p at*
     generalize a.eval y=q at*
     cases rx;cases ry
     refine aq.val he ?_ (.imm (.int _ _))
     simp [Builtin.min_,Builtin.min2,pure,Sem.run]
theorem p6 {x:Operand} (hop:o.op= .nilCheck x) (rx:RP w ok mu (ev fr x) (a.eval x)) (hx:(∃q j,ev fr x= .ptr q j)\/(∃q i j,ev fr x= .bptr q i j)\/(∃y i j,ev fr x= .eptr y i j)\/(∃y j,ev fr x= .iptr y j)\/(∃f cs,ev fr x= .clo f cs)):aq P o a w ok mu h (ev fr x) h:=by
 refine aq.value (v:=a.eval x) ?_ rx
 generalize hv:a.eval x=v at*
 rcases hx with ⟨q,j,hx⟩ | ⟨q,i,j,hx⟩ | ⟨y,i,j,hx⟩ | ⟨y,j,hx⟩ | ⟨f,cs,hx⟩<;>rw [hx] at rx<;>cases rx
 ·simp [execOp,hop,hv,pure,Sem.run]
 ·simp [execOp,hop,hv,pure,Sem.run]
 ·simp [execOp,hop,hv,pure,Sem.run]
 ·simp [execOp,hop,hv,pure,Sem.run]
 ·rename_i cv hlen hrel
  cases f<;>simp [execOp,hop,hv,pure,Sem.run]
theorem OW {x:Operand} (hop:o.op= .nilCheck x) (rx:RP w ok mu (ev fr x) (a.eval x)) {y z:IV} (hx:ev fr x= .imm y) (hz:gY y=some z):aq P o a w ok mu h (.imm z) h:=by
 rw [hx] at rx
 generalize hv:a.eval x=v at rx
 unfold gY at hz
 split at hz
 ·cases hz
  cases rx with
  | imm rx=>
    refine aq.value (v:=a.eval x) ?_ (by rw [hv];exact .imm rx)
    cases rx
    simp [execOp,hop,hv,pure,Sem.run]
 ·cases hz
end
end Go.AM
