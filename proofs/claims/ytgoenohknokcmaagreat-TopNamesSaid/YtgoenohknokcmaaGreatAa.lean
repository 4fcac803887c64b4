/- An abstract machine of this work's own: it runs loaded Go code on pure values, in the order of the text, without memory but for the call's own variables and buffers. No program is named here. -/
import Derived.WalkLawsBesides
open List renaming getElem?_eq_some_iff->ab,getElem?_eq_getElem->a1,getElem?_take_of_lt->bd,getElem?_drop->bm,getD_eq_getElem?_getD->br,replicate->b5,getElem_mem->b7,getElem?_map->cO,range->c3,getElem?_set_ne->c4,mem_of_mem_drop->c5,mem_of_mem_take->c6,getElem?_set->ek,mem_flatMap->eZ,mapM_cons->e4
open Go renaming TypeId->al,Operand->a2,Value->a5,FloatKind->a6,World->a7,IntKind->ca,Program->cb,FuncId->c1,BinOp->c9,ResultVar->dd,Oper->eg,MapEntry->e5,Addr->fl
open Go.Result renaming andThen->ao
open Go.Sem renaming run_bind->aB,run->bf,bind->fc
open Array renaming getElem?_eq_getElem->a8,getElem?_extract->b4,getElem?_toList->b6,getD_eq_getD_getElem?->cd,getElem?_eq_some_iff->ck,getElem?_map->dq
open Go.Next renaming value->bb
open Nat renaming add_assoc->bx,mul_le_mul_right->b0,le_refl->cc,add_mul->c7,succ_mul->eP,mod_eq_of_lt->eW,zero_le->e1,zero_add->e9,zero_mul->fa
open Option renaming isSome_iff_exists->bA,bind_some->b1,map_some->e2
open Go.Instr renaming sliceAt->bB,sliceBounds->bM,indexAt->bR,index->b2,sureAddr->cl,loadAt->c2,alloc->c8,fieldAt->ds,sliceBound->e0,slice->e3,extract->e8,field->fb,fill->fs,box->fv
open Option.some renaming injEq->bC
open BitVec renaming ofInt->bO
open Ieee renaming Datum->b3
open Go.Program renaming cellsOf->ch,built->e6
open Go.Op renaming negFloat->c0,equalIn->et,floatArith->e7
set_option linter.unusedVariables false
namespace Go.AM
inductive IV where
 | bool (b:Bool)
 | int (k:ca) (n:Int)
 | flt (k:a6) (n:Nat)
 | str (s:ByteArray)
 | lst (es:List (List IV))
 | ptr (cs:List IV) (j:Nat)
 | clo (fn:Fn) (caps:List IV)
 | nilp
 | nilf
 | map (es:List (List IV))
 | ifc (t:al) (one:Bool) (x:IV)
 deriving Inhabited
inductive PV where
 | undef
 | skip
 | imm (x:IV)
 | nils
 | agg (cs:List PV)
 | tup (cs:List PV)
 | buf (o n:Nat)
 | sub (o l h:Nat)
 | ptr (o j:Nat)
 | bptr (o i j:Nat)
 | eptr (x:IV) (i j:Nat)
 | iptr (x:IV) (j:Nat)
 | mp (o:Nat)
 | clo (fn:Fn) (caps:List PV)
 | sn (T:al) (n o:Nat)
 | tbuf (T:al) (o n:Nat)
 | tnil
 deriving Inhabited
inductive Md where
 | rw | lock | fz
 deriving DecidableEq,Inhabited
inductive Ob where
 | dead
 | box (m:Md) (cs:List PV)
 | arr (m:Md) (sz:Nat) (x:IV)
 deriving Inhabited
structure St where
 fr:List PV
 h:List Ob
inductive Ex where
 | normal
 | exit (id:Nat)
 | ret
 | goto (l:Nat)
 deriving DecidableEq
def nth (r:List IV) (i:Nat):IV:=r.getD i .nilp
def ae {R:Type} (x:IV) (t e:Unit->Option R):Option R:=
 match x with
 | .bool true=>t ()
 | .bool false=>e ()
 | _=>none
def cr (op:c9) (k:ca) (a b:Int):Option IV:=
 match op with
 | .add=>some (.int k (k.wrap (a+b)))
 | .sub=>some (.int k (k.wrap (a - b)))
 | .mul=>some (.int k (k.wrap (a*b)))
 | .quo=>if b=0 then none else some (.int k (k.wrap (a.tdiv b)))
 | .rem=>if b=0 then none else some (.int k (a.tmod b))
 | .and=>some (.int k (k.wrap (bO k.bits a&&&bO k.bits b).toNat))
 | .or=>some (.int k (k.wrap (bO k.bits a|||bO k.bits b).toNat))
 | .xor=>some (.int k (k.wrap (bO k.bits a ^^^ bO k.bits b).toNat))
 | .andNot=>some (.int k (k.wrap (bO k.bits a&&& ~~~(bO k.bits b)).toNat))
 | .eql=>some (.bool (a==b))
 | .neq=>some (.bool (a !=b))
 | .lss=>some (.bool (decide (a < b)))
 | .leq=>some (.bool (decide (a<=b)))
 | .gtr=>some (.bool (decide (a > b)))
 | .geq=>some (.bool (decide (a>=b)))
 | _=>none
def Ct (k:a6) (n:Nat):Bool:=decide (k.format.infRung < n % k.format.signWeight)
def acR:a6->Nat
 | .f64=>9221120237041090560
 | .f32=>2143289344
def canF (k:a6) (n:Nat):Nat:=if Ct k n=true then acR k else n
def ZH (k:a6):Option Nat->Nat
 | some r=>r
 | none=>acR k
def Yj (op:c9) (k:a6) (a b:Nat):Option IV:=
 match op with
 | .add=>some (.flt k (ZH k (k.format.add a b)))
 | .sub=>some (.flt k (ZH k (k.format.sub a b)))
 | .mul=>some (.flt k (ZH k (k.format.mul a b)))
 | .quo=>some (.flt k (ZH k (k.format.div a b)))
 | .eql=>some (.bool (k.format.order a b==some .eq))
 | .neq=>some (.bool (k.format.order a b !=some .eq))
 | .lss=>some (.bool (k.format.order a b==some .lt))
 | .leq=>some (.bool (k.format.order a b==some .lt||k.format.order a b==some .eq))
 | .gtr=>some (.bool (k.format.order a b==some .gt))
 | .geq=>some (.bool (k.format.order a b==some .gt||k.format.order a b==some .eq))
 | _=>none
def RQ (op:c9) (a b:ByteArray):Option IV:=
 match op with
 | .eql=>some (.bool (a.toList==b.toList))
 | .neq=>some (.bool !(a.toList==b.toList))
 | .add=>if ((a.size+b.size:Nat):Int) > IntKind.i64.max then none else some (.str (a++b))
 | _=>none
def Zd (op:c9) (is:Bool):Option IV:=
 match op with
 | .eql=>some (.bool !is)
 | .neq=>some (.bool is)
 | _=>none
def aa (op:c9) (x y:IV):Option IV:=
 match x,y with
 | .int k a,.int k' b=>
   match op with
   | .shl=>if b < 0 then none else some (.int k (k.wrap (a*2 ^ (min b.toNat k.bits))))
   | .shr=>if b < 0 then none else some (.int k (a.fdiv (2 ^ (min b.toNat k.bits))))
   | op=>if k=k' then cr op k a b else none
 | .flt k a,.flt k' b=>if k=k' then Yj op k a b else none
 | .str a,.str b=>RQ op a b
 | _,_=>none
def Wb (op:c9) (x y:IV):Option IV:=
 match x,y with
 | .nilp,.nilp=>Zd op false
 | .ptr _ _,.nilp=>Zd op true
 | _,_=>none
def Qy (op:c9) (x y:IV):Option IV:=
 match x,y with
 | .bool a,.bool b=>
   match op with
   | .eql=>some (.bool (a==b))
   | .neq=>some (.bool !(a==b))
   | _=>none
 | _,_=>none
inductive EK where
 | b | i | s
def WX:EK->IV->IV->Option Bool
 | .i,.int k a,.int k' b=>if k=k' then some (a==b) else none
 | .b,.bool a,.bool b=>some (a==b)
 | .s,.str a,.str b=>some (a==b)
 | _,_,_=>none
def KX:List EK->List IV->List IV->Option Bool
 | [],[],[]=>some true
 | k::ks,x::xs,y::ys=>(WX k x y).bind λb=>(KX ks xs ys).bind λc=>some (b&&c)
 | _,_,_=>none
def Vx (op:c9) (ks:List EK) (xs ys:List IV):Option IV:=
 match op with
 | .eql=>(KX ks xs ys).map .bool
 | .neq=>(KX ks xs ys).map λb=> .bool !b
 | _=>none
def ll (op:UnOp) (x:IV):Option IV:=
 match op,x with
 | .neg,.int k n=>some (.int k (k.wrap (0 - n)))
 | .not,.bool b=>some (.bool !b)
 | .neg,.flt k n=>some (.flt k (canF k (c0 k n)))
 | .xor,.int k n=>some (.int k (k.wrap (bO k.bits (if k.signed then -1 else k.max) ^^^ bO k.bits n).toNat))
 | _,_=>none
def bE (k:ca) (x:IV):Option IV:=
 match x with
 | .int _ n=>some (.int k (k.wrap n))
 | _=>none
def Rh (k:ca) (x:IV):Option IV:=
 match x with
 | .flt s b=>
   match (s.decode b).toInt .zero with
   | some n=>if k.min<=n/\n<=k.max then some (.int k n) else none
   | none=>none
 | _=>none
def Xl (k:a6) (x:IV):Option IV:=
 match x with
 | .int _ n=>some (.flt k (canF k (k.nearest n)))
 | _=>none
def Wq (x:IV):Option IV:=
 match x with
 | .str s=>some (.lst (s.data.toList.map λb=>[.int .u8 b.toNat]))
 | _=>none
def AQ:List IV->Option UInt8
 | [.int .u8 n]=>if 0<=n/\n < 256 then some (UInt8.ofNat n.toNat) else none
 | _=>none
def jW (x:IV):Option IV:=
 match x with
 | .lst es=>(es.mapM AQ).map λl=> .str ⟨l.toArray⟩
 | _=>none
def lr (bytes:Nat) (row:List IV) (x y:IV):Option IV:=
 match x,y with
 | .int _ n,.int _ m=>if n=m/\0<=n/\n.toNat*(bytes+1)<=2 ^ 40 then some (.lst (b5 n.toNat row)) else none
 | _,_=>none
def aC (x:IV):Option IV:=
 match x with
 | .lst es=>some (.int .i64 es.length)
 | _=>none
def ft (x:IV):Option IV:=
 match x with
 | .str s=>some (.int .i64 s.size)
 | _=>none
def cj (x:IV):Nat:=
 match x with
 | .lst es=>es.length
 | _=>0
def Ej (x:IV) (l h:Nat):IV:=
 match x with
 | .lst es=> .lst ((es.drop l).take (h - l))
 | x=>x
def bU (n:Nat) (i:IV):Option Nat:=
 match i with
 | .int _ i=>if 0<=i/\i < (n:Int) then some i.toNat else none
 | _=>none
def aK (x i:IV) (sz:Nat):Option Nat:=
 match x,i with
 | .lst es,.int _ i=>if 0<=i/\i < (es.length:Int)/\(es.getD i.toNat []).length=sz/\0 < sz then some i.toNat else none
 | _,_=>none
def Ho (x i:IV):Option IV:=
 match x,i with
 | .str s,.int _ i=>(if 0<=i then s[i.toNat]? else none).map λb=> .int .u8 b.toNat
 | _,_=>none
def dh (x:IV) (i j:Nat):Option IV:=
 match x with
 | .lst es=>(es[i]?).bind (·[j]?)
 | _=>none
def eo (x:IV) (i j n:Nat):Option (List IV):=
 match x with
 | .lst es=>(es[i]?).bind λe=>if j+n<=e.length then some ((e.drop j).take n) else none
 | _=>none
def iW (x:IV) (j:Nat):Option IV:=
 match x with
 | .ptr cs j0=>cs[j0+j]?
 | _=>none
def yX (x:IV) (j n:Nat):Option (List IV):=
 match x with
 | .ptr cs j0=>if j0+j+n<=cs.length then some ((cs.drop (j0+j)).take n) else none
 | _=>none
def gA (x:IV):Option IV:=
 match x with
 | .ptr cs j=>some (.ptr cs j)
 | _=>none
def setCells (e:List IV) (j:Nat):List IV->List IV
 | []=>e
 | v::vs=>setCells (e.set j v) (j+1) vs
def r8 (x:IV) (i j:Nat) (vs:List IV):Option IV:=
 match x with
 | .lst es=>(es[i]?).bind λe=>if j+vs.length<=e.length then some (.lst (es.set i (setCells e j vs))) else none
 | _=>none
def IV.scalar:IV->Bool
 | .bool _ | .int _ _ | .flt _ _ | .str _ | .nilp | .nilf=>true
 | _=>false
def uY (sz bytes:Nat) (x:IV):Option (List IV):=match x with | .lst es=>if es.length*(bytes+1)<=2 ^ 40/\es.all (λe=>e.length==sz&&e.all IV.scalar) then some [.lst es] else none | _=>none
def tm (sz bytes:Nat) (x i y:IV):Option (List IV):=
 match x,i,y with
 | .lst es,.int .i64 i,.lst ys=>if 0<=i/\i<=(es.length:Int)/\(es.length+ys.length)*(bytes+1)<=2 ^ 32/\ys.all (λe=>e.length==sz) then some [.lst (es.take i.toNat++ys++es.drop i.toNat)] else none
 | _,_,_=>none
def IT:IV->IV->Option Bool
 | .int k a,.int k' b=>if k=k' then some (a==b) else none
 | .str a,.str b=>some (a==b)
 | .bool a,.bool b=>some (a==b)
 | _,_=>none
def vG (k:IV):List (List IV)->Nat->Option (Option (Nat×IV))
 | [],_=>some none
 | [k',v]::es,i=>
   match IT k k' with
   | some true=>some (some (i,v))
   | some false=>vG k es (i+1)
   | none=>none
 | _::_,_=>none
def Iy (x k v:IV):Option IV:=
 match x with
 | .map es=>(vG k es 0).bind λr=>match r with | some (i,_)=>some (.map (es.set i [k,v])) | none=>some (.map (es++[[k,v]]))
 | _=>none
def LC (x k z:IV):Option (List IV):=
 match x with
 | .map es=>(vG k es 0).map λr=>match r with | some (_,v)=>[v,.bool true] | none=>[z,.bool false]
 | _=>none
def C6 (x:IV):Option IV:=
 match x with
 | .map es=>some (.int .i64 es.length)
 | _=>none
inductive Kt | int (k:ca) | str | bool
def KG:Kt->IV->Bool
 | .int q,.int a _=>decide (q=a)
 | .str,.str _=>true
 | .bool,.bool _=>true
 | _,_=>false
def qD (q:Kt) (x k v:IV):Option IV:=if KG q k=true then Iy x k v else none
def yk (q:Kt) (x k z:IV):Option (List IV):=if KG q k=true then LC x k z else none
theorem UI {q:Kt} {x k v z:IV} (h:qD q x k v=some z):KG q k=true/\Iy x k v=some z:=by
 unfold qD at h;split at h
 ·exact ⟨by assumption,h⟩
 ·cases h
theorem Um {q:Kt} {x k v:IV} {z:List IV} (h:yk q x k v=some z):KG q k=true/\LC x k v=some z:=by
 unfold yk at h;split at h
 ·exact ⟨by assumption,h⟩
 ·cases h
def TR (i:IV) (n:Nat):Option Nat:=
 match i with
 | .int _ i=>if 0<=i/\i<=(n:Int) then some i.toNat else none
 | _=>none
def aiP (u v:IV) (n:Nat):Option Nat:=(TR u n).bind λp=>if TR v n=some p then some p else none
def lj (n:Nat) (lo hi:Option IV):Option (Nat×Nat):=
 (match hi with | some v=>TR v n | none=>some n).bind λh=>
 (match lo with | some v=>TR v h | none=>some 0).bind λl=>some (l,h)
def ly (sz:Nat) (x:IV) (lo hi:Option IV):Option IV:=
 match x with
 | .lst es=>if es.all (λe=>e.length==sz) then (lj es.length lo hi).bind λp=>some (.lst ((es.drop p.1).take (p.2 - p.1))) else none
 | _=>none
def ea (x:IV) (lo hi:Option IV):Option IV:=
 match x with
 | .str s=>(lj s.size lo hi).bind λp=>some (.str (s.extract p.1 p.2))
 | _=>none
def bS (sz bytes:Nat) (x y:IV):Option IV:=
 match x,y with
 | .lst es,.lst ys=>if (es.length+ys.length)*(bytes+1)<=2 ^ 40/\ys.all (λe=>e.length==sz) then some (.lst (es++ys)) else none
 | _,_=>none
def qx (sz:Nat) (x:IV) (l u:Nat) (y:IV):Option (IV×IV):=
 match x,y with
 | .lst es,.lst ys=>if l<=u/\u<=es.length/\ys.all (λe=>e.length==sz) then some (.lst (es.take l++ys.take (min (u - l) ys.length)++es.drop (l+min (u - l) ys.length)),.int .i64 ((min (u - l) ys.length:Nat):Int)) else none
 | _,_=>none
def imax (x y:IV):Option IV:=
 match x,y with
 | .int k a,.int k' b=>if k=k' then some (.int k (if b > a then b else a)) else none
 | _,_=>none
def Xy (x y:IV):Option IV:=
 match x,y with
 | .int k a,.int k' b=>if k=k' then some (.int k (if b < a then b else a)) else none
 | _,_=>none
def aw (r:List IV):Option (List IV):=if r.all IV.scalar then some r else none
section
variable (P:cb)
def dX (t:al):Bool:=match P.underlying t with | some (.struct _) | some (.array _ _)=>true | _=>false
def bG (t:al):al:=match P.underlying t with | some (.slice e)=>e | some (.array _ e)=>e | _=>0
def zP (t:al):Bool:=match P.underlying t with | some .string=>true | _=>false
def SG (t:al):Bool:=match P.underlying t with | some .bool=>true | _=>false
def HW (t:al):Bool:=match P.underlying t with | some (.pointer _)=>true | _=>false
def HD (t:al):Bool:=match P.underlying t with | some (.map _ _)=>true | _=>false
def Q2 (t:al) (k:IV):Bool:=
 match P.underlying t,k with
 | some (.int q),.int a _=>decide (q=a)
 | some .string,.str _=>true
 | some .bool,.bool _=>true
 | _,_=>false
def ac0 (t:al):Option Kt:=match P.underlying t with | some (.int q)=>some (.int q) | some .string=>some .str | some .bool=>some .bool | _=>none
def cu (t:al):Bool:=match P.underlying t with | some (.slice _)=>true | _=>false
def Ek (t:al) (f:Nat):Option Field:=match P.underlying t with | some (.struct a)=>a[f]? | _=>none
def lD (t:al):Bool:=match P.underlying t with | some (.struct _) | some (.array _ _) | none=>false | _=>true
def m7 (t:al):Option a5:=(P.info? t).bind (·.zero)
def qL (t:al):Bool:=match m7 P t with | some z=>z.cells.size==P.cellsOf t&&0 < P.cellsOf t | none=>false
end
def mB:a5->PV
 | .bool b=> .imm (.bool b)
 | .int k n=> .imm (.int k n)
 | .float k n=> .imm (.flt k (canF k n))
 | .string s=> .imm (.str s)
 | .pointer none=> .imm .nilp
 | .nilFunc=> .imm .nilf
 | .slice none 0 0=> .nils
 | _=> .undef
def lk:a5->PV
 | .agg cs=> .agg (cs.toList.map mB)
 | v=>mB v
def ev (fr:List PV):a2->PV
 | .tmp t=>fr.getD t .undef
 | .const v=>lk v
 | .global _=> .undef
 | .func f=> .imm (.clo (.func f) [])
def PV.atom:PV->Bool
 | .imm _ | .nils | .buf _ _ | .sub _ _ _ | .ptr _ _ | .bptr _ _ _ | .eptr _ _ _ | .iptr _ _ | .mp _ | .clo _ _=>true
 | _=>false
def PV.whole:PV->Bool
 | .agg _=>true
 | p=>p.atom
def PV.cells:PV->List PV
 | .agg cs=>cs
 | p=>[p]
def getOb (h:List Ob) (o:Nat):Ob:=h.getD o .dead
def isRw:Ob->Bool
 | .box .rw _ | .arr .rw _ _=>true
 | _=>false
structure Stay (h h':List Ob):Prop where
 len:h.length<=h'.length
 keep: ∀o,o < h.length->isRw (getOb h o)=false->getOb h' o=getOb h o
structure Inl where
 run:(R:Type)->List PV->List Ob->(PV->List Ob->Option R)->Option R
 nat: ∀(R S:Type) (ps:List PV) (h:List Ob) (k:PV->List Ob->Option R) (f:R->Option S),(run R ps h k).bind f=run S ps h λp h=>(k p h).bind f
 stay: ∀(ps:List PV) (h:List Ob) (p:PV) (h':List Ob),run (PV×List Ob) ps h (λp h=>some (p,h))=some (p,h')->Stay h h'
def qn (h:List Ob):Nat->PV->Option IV
 | 0,_=>none
 | n+1,p=>
   match p with
   | .imm x=>some x
   | .nils=>some (.lst [])
   | .buf o _=>match getOb h o with | .arr _ _ x=>some x | _=>none
   | .sub o l u=>match getOb h o with | .arr _ _ x=>some (Ej x l u) | _=>none
   | .ptr o j=>match getOb h o with | .box _ cs=>(cs.mapM (qn h n)).map λl=> .ptr l j | _=>none
   | .mp o=>match getOb h o with | .arr _ _ x=>some x | _=>none
   | .clo fn caps=>(caps.mapM (qn h n)).map λl=> .clo fn l
   | _=>none
def refs (h:List Ob):Nat->PV->List Nat
 | 0,_=>[]
 | n+1,p=>
   match p with
   | .buf o _=>[o]
   | .sub o _ _=>[o]
   | .mp o=>[o]
   | .ptr o _=>o::(match getOb h o with | .box _ cs=>cs.flatMap (refs h n) | _=>[])
   | .clo _ caps=>caps.flatMap (refs h n)
   | .agg cs=>cs.flatMap (refs h n)
   | _=>[]
def iM (h:List Ob) (p:PV):List Nat:=p.cells.flatMap (refs h 5)
def EE (h:List Ob) (p:PV):Option (List IV):=p.cells.mapM (qn h 5)
def fz1 (h:List Ob) (o:Nat):Option (List Ob):=
 match getOb h o with
 | .box .rw cs=>some (h.set o (.box .fz cs))
 | .arr .rw n x=>some (h.set o (.arr .fz n x))
 | .box .fz _ | .arr .fz _ _=>some h
 | _=>none
def wh (h:List Ob):List Nat->Option (List Ob)
 | []=>some h
 | o::os=>(fz1 h o).bind λh=>wh h os
def gj:Ob->Ob
 | .box .rw cs=> .box .lock cs
 | .arr .rw n x=> .arr .lock n x
 | o=>o
def iR (r:List IV):Nat->Nat->List PV
 | _,0=>[]
 | i,n+1=> .imm (nth r i)::iR r (i+1) n
def SH (n:Nat) (r:List IV) (i:Nat):PV:=if n=1 then .imm (nth r i) else .agg (iR r i n)
def xU (r:List IV):List Nat->Nat->List PV
 | [],_=>[]
 | n::ns,i=>SH n r i::xU r ns (i+n)
def Dn (ns:List Nat) (r:List IV):PV:=
 match ns with
 | [n]=>SH n r 0
 | ns=> .tup (xU r ns 0)
def mG (P:cb) (t:al):List Nat:=
 match P.underlying t with
 | some (.tuple a)=>a.toList.map P.cellsOf
 | _=>[P.cellsOf t]
inductive Sc where
 | imm
 | buf (sz:Nat) (ty:Option al:=none)
 | sn (T:al) (n:Nat)
inductive CMode where
 | pure | own | cons | inpl
 | obj (shp:List Sc)
 | mko (shp:List Sc)
 | fresh
 | look (n:Nat)
 | inl (J:Inl)
structure FSig where
 mode:CMode
 scalar:Bool
 res:List Nat
 esz:Nat
 fn:List (List IV)->Option (List IV)
inductive Kd where
 | I
 | S (n:Nat)
 | B (sz:Nat)
 | G (n:Nat)
 | M
 | O (shp:List Sc)
 | K (o:Nat) (shp:List Sc)
 | C (g:Nat) (ks:List (Option Nat))
structure Ann where
 order:Nat->Option (List Nat×List Nat×List Nat):= λ_=>none
 join:Nat->Option (List Nat):= λ_=>none
 loop:Nat->List (Nat×Kd)×List (List (Nat×Kd)):= λ_=>([],[])
 scalar:Bool:=false
 unroll:Nat->Nat:= λ_=>0
 alt:Nat->Option (Nat×List (Nat×Kd)×List (List (Nat×Kd))):= λ_=>none
def Ann.pick (A:Ann) (fr:List PV) (id:Nat):List (Nat×Kd)×List (List (Nat×Kd)):=
 match A.alt id with
 | none=>A.loop id
 | some p=>match fr.getD p.1 .undef with | .imm _=>p.2 | _=>A.loop id
inductive SR where
 | next (vs:List IV)
 | done (k:Nat) (vs:List IV)
def iter:Nat->(List IV->Option SR)->List IV->Option (Nat×List IV)
 | 0,_,_=>none
 | n+1,f,vs=>(f vs).bind λ | .next vs'=>iter n f vs' | .done k vs'=>some (k,vs')
def fg {R:Type} (k:Nat) (l:List (Option R)):Option R:=l.getD k none
def rounds:Nat:=1000000
def setAt (cs:List PV) (j:Nat):List PV->List PV
 | []=>cs
 | v::vs=>setAt (cs.set j v) (j+1) vs
def Dg (place:Nat->Option (Nat×Nat)):List PV->List (Nat×PV)->Option (List PV)
 | cs,[]=>some cs
 | cs,(i,p)::rest=>
   match place i with
   | none=>none
   | some (off,size)=>if p.whole/\p.cells.length=size/\off+size<=cs.length then Dg place (setAt cs off p.cells) rest else none
def chunks (sz:Nat):Nat->List PV->List (List PV)
 | 0,_=>[]
 | n+1,l=>l.take sz::chunks sz n (l.drop sz)
def p4 (fr:List PV):Option a2->Option (Option IV)
 | none=>some none
 | some x=>match ev fr x with | .imm v=>some (some v) | _=>none
section
variable (P:cb) (Γ:c1->Option FSig) (C:IV->List Nat->List (List IV)->Option (List IV))
def B1 (t:al):Bool:=match P.underlying t with | some .bool | some (.int _) | some .string=>true | _=>false
def S1 (t:al):EK:=match P.underlying t with | some .bool=> .b | some .string=> .s | _=> .i
def Kk (t:al):List EK:=match P.underlying t with | some (.struct a)=>a.toList.map λf=>S1 P f.type | _=>[]
def XN (t:al):Bool:=
 match P.underlying t with
 | some (.struct a)=> !P.stoodInHeld t&& !P.eqGuardType P.depth t&&a.all (λf=>f.name != "_" &&B1 P f.type)&&a.toList.map (·.offset)==c3 a.size
 | _=>false
def TT:PV->Bool
 | .agg cs=>2<=cs.length
 | p=>p.atom
def lX (h:List Ob) (ps:List PV):Option (List (List IV)):=if ps.all TT then ps.mapM (EE h) else none
def ab7 (scalar:Bool) (h:List Ob) (ps:List PV):Option (List Ob):=if scalar then some h else wh h (ps.flatMap (iM h))
def PX (l:List PV):Option (List IV):=l.mapM λ | .imm x=>some x | _=>none
def Hb (h:List Ob) (sz:Nat):PV->Option (IV×List Nat)
 | .nils=>if 0 < sz then some (.lst [],[]) else none
 | .buf o _=>match getOb h o with | .arr .rw sz' x=>if sz'=sz then some (x,[o]) else none | _=>none
 | .sub o 0 u=>match getOb h o with | .arr .rw sz' x=>if sz'=sz then some (Ej x 0 u,[o]) else none | _=>none
 | _=>none
def Sy (h:List Ob) (sz:Nat) (T:al):PV->Option (IV×List Nat)
 | .tnil=>if 0 < sz then some (.lst [],[]) else none
 | .tbuf a o _=>match getOb h o with | .arr .rw sz' x=>if sz'=sz/\a=T then some (x,[o]) else none | _=>none
 | _=>none
def Ik (h:List Ob) (o:Nat):Sc->PV->Option (IV×List Nat)
 | .imm,.imm x=>some (x,[])
 | .imm,.nils=>some (.lst [],[])
 | .buf sz none,p=>Hb h sz p
 | .buf sz (some T),p=>Sy h sz T p
 | .sn T n,.sn a b q=>if q=o/\a=T/\b=n then some (.nilp,[]) else none
 | _,_=>none
def DS (h:List Ob) (o:Nat):List Sc->List PV->Option (List IV×List Nat)
 | [],[]=>some ([],[])
 | s::a,p::ps=>match Ik h o s p,DS h o a ps with | some x,some xs=>some (x.1::xs.1,x.2++xs.2) | _,_=>none
 | _,_=>none
def dF:List Nat->Bool
 | []=>true
 | x::l=> !l.contains x&&dF l
def DH (h:List Ob) (shp:List Sc):PV->Option (List IV×List Nat)
 | .ptr o 0=>
   match getOb h o with
   | .box .rw cs=>(match DS h o shp cs with | some p=>if dF (o::p.2) then some (p.1,o::p.2) else none | none=>none)
   | _=>none
 | _=>none
def kill (h:List Ob):List Nat->List Ob
 | []=>h
 | o::os=>kill (h.set o .dead) os
def XA:List PV->Option (List IV)
 | []=>some []
 | .imm x::ps=>(XA ps).map (x:: ·)
 | .nils::ps=>(XA ps).map (.lst []:: ·)
 | _=>none
def aar (h:List Ob) (n o:Nat):Option (List IV):=
 match getOb h o with
 | .box _ cs=>if cs.length=n then XA cs else none
 | _=>none
def F1 (q k:Nat) (x:IV):Sc->PV
 | .imm=> .imm x
 | .buf _ none=> .buf k (cj x)
 | .buf _ (some T)=> .tbuf T k (cj x)
 | .sn T n=> .sn T n q
def aca (x:IV):Sc->Ob
 | .buf sz _=> .arr .rw sz x
 | _=> .dead
def cG (q:Nat) (r:List IV):List Sc->Nat->Nat->List PV
 | [],_,_=>[]
 | s::a,k,i=>F1 q k (nth r i) s::cG q r a (k+1) (i+1)
def cy (r:List IV):List Sc->Nat->List Ob
 | [],_=>[]
 | s::a,i=>aca (nth r i) s::cy r a (i+1)
def bL {R:Type} (s:FSig) (h:List Ob) (ps:List PV) (k:PV->List Ob->Option R):Option R:=
 match s.mode with
 | .pure=>
   match lX h ps,ab7 s.scalar h ps with
   | some as,some h'=>(s.fn as).bind λr=>k (Dn s.res r) h'
   | _,_=>none
 | .own=>
   match lX h ps,(ps.flatMap (iM h)).isEmpty with
   | some as,true=>(s.fn as).bind λr=>k (.buf h.length (cj (nth r 0))) (h++[.arr .rw s.esz (nth r 0)])
   | _,_=>none
 | .cons=>
   match ps with
   | .buf o _::rest=>
     match getOb h o with
     | .arr .rw sz x=>
       match lX h rest,wh h (rest.flatMap (iM h)) with
       | some as,some h'=>
         match getOb h' o with
         | .arr .rw _ _=>if sz=s.esz then (s.fn ([x]::as)).bind λr=>k (.buf h.length (cj (nth r 0))) (h'.set o .dead++[.arr .rw s.esz (nth r 0)]) else none
         | _=>none
       | _,_=>none
     | _=>none
   | _=>none
 | .inpl=>
   match ps with
   | .buf o _::rest=>
     match getOb h o with
     | .arr .rw sz x=>
       match lX h rest,(rest.flatMap (iM h)).isEmpty with
       | some as,true=>if sz=s.esz then (s.fn ([x]::as)).bind λr=>k .undef (h.set o (.arr .rw sz (nth r 0))) else none
       | _,_=>none
     | _=>none
   | _=>none
 | .obj shp=>
   match ps with
   | .ptr o j::rest=>
     match DH h shp (.ptr o j),lX h rest,(rest.flatMap (iM h)).isEmpty with
     | some p,some as,true=>(s.fn (p.1::as)).bind λr=>k (Dn s.res (r.drop shp.length)) ((kill h p.2++cy r shp 0).set o (.box .rw (cG o r shp h.length 0)))
     | _,_,_=>none
   | .imm .nilp::rest=>
     match lX h (.imm .nilp::rest),((PV.imm .nilp::rest).flatMap (iM h)).isEmpty with
     | some as,true=>(s.fn as).bind λr=>k (Dn s.res r) h
     | _,_=>none
   | _=>none
 | .fresh=>
   match lX h ps with
   | some as=>(s.fn as).bind λr=>k (.buf h.length (cj (nth r 0))) (h++[.arr .rw s.esz (nth r 0)])
   | none=>none
 | .look n=>
   match ps with
   | .ptr o 0::rest=>
     match aar h n o,lX h rest,(rest.flatMap (iM h)).isEmpty with
     | some vs,some as,true=>(s.fn (vs::as)).bind λr=>k (Dn s.res r) h
     | _,_,_=>none
   | _=>none
 | .inl J=>J.run R ps h k
 | .mko shp=>
   match lX h ps,wh h (ps.flatMap (iM h)) with
   | some as,some h'=>(s.fn as).bind λr=>k (.ptr (h'.length+shp.length) 0) (h'++(cy r shp 0++[.box .rw (cG (h'.length+shp.length) r shp h'.length 0)]))
   | _,_=>none
def loadT {R:Type} (t:al) (a:PV) (h:List Ob) (k:PV->List Ob->Option R):Option R:=
 if dX P t then
  match a with
  | .ptr o j=>
    match getOb h o with
    | .box _ cs=>if j+P.cellsOf t<=cs.length then k (.agg ((cs.drop j).take (P.cellsOf t))) h else none
    | _=>none
  | .bptr o i j=>
    match getOb h o with
    | .arr _ _ x=>(eo x i j (P.cellsOf t)).bind λr=>k (.agg (iR r 0 (P.cellsOf t))) h
    | _=>none
  | .eptr x i j=>(eo x i j (P.cellsOf t)).bind λr=>k (.agg (iR r 0 (P.cellsOf t))) h
  | .iptr x j=>(yX x j (P.cellsOf t)).bind λr=>k (.agg (iR r 0 (P.cellsOf t))) h
  | .imm x=>(yX x 0 (P.cellsOf t)).bind λr=>k (.agg (iR r 0 (P.cellsOf t))) h
  | _=>none
 else if lD P t then
  match a with
  | .ptr o j=>
    match getOb h o with
    | .box _ cs=>(match cs[j]? with | some p=>k p h | none=>none)
    | _=>none
  | .bptr o i j=>
    match getOb h o with
    | .arr _ _ x=>(dh x i j).bind λv=>k (.imm v) h
    | _=>none
  | .eptr x i j=>(dh x i j).bind λv=>k (.imm v) h
  | .iptr x j=>(iW x j).bind λv=>k (.imm v) h
  | .imm x=>(iW x 0).bind λv=>k (.imm v) h
  | _=>none
 else none
def V4:List PV->Md
 | [.ptr _ _]=> .lock
 | _=> .rw
def storeT {R:Type} (t:al) (a v:PV) (h:List Ob) (k:PV->List Ob->Option R):Option R:=
 if v.whole/\v.cells.length=P.cellsOf t/\v.cells.all PV.atom/\0 < P.cellsOf t then
  match a with
  | .ptr o j=>
    match getOb h o with
    | .box .rw cs=>if j+v.cells.length<=cs.length then k .skip (h.set o (.box (V4 (setAt cs j v.cells)) (setAt cs j v.cells))) else none
    | _=>none
  | .bptr o i j=>
    match getOb h o with
    | .arr .rw sz x=>
      match PX v.cells with
      | some vs=>(r8 x i j vs).bind λb=>k .skip (h.set o (.arr .rw sz b))
      | none=>none
    | _=>none
  | _=>none
 else none
def pK (h:List Ob):PV->Option IV
 | .imm x=>some x
 | .nils=>some (.lst [])
 | .buf o _=>match getOb h o with | .arr _ _ x=>some x | _=>none
 | .sub o l u=>match getOb h o with | .arr _ _ x=>some (Ej x l u) | _=>none
 | _=>none
def oS {R:Type} (b:Builtin) (a c:al) (ps:List PV) (h:List Ob) (k:PV->List Ob->Option R):Option R:=
 match b,ps with
 | .len,[.imm x]=>if zP P a then (ft x).bind λv=>k (.imm v) h else if cu P a then (aC x).bind λv=>k (.imm v) h else if HD P a then (C6 x).bind λv=>k (.imm v) h else none
 | .len,[.mp o]=>if HD P a then (match getOb h o with | .arr _ _ x=>(C6 x).bind λv=>k (.imm v) h | _=>none) else none
 | .len,[.buf _ n]=>if cu P a then k (.imm (.int .i64 (n:Int))) h else none
 | .len,[.sub o l u]=>if cu P a then k (.imm (.int .i64 ((u - l:Nat):Int))) h else none
 | .len,[.nils]=>if cu P a then k (.imm (.int .i64 0)) h else none
 | .append,[.nils,y]=>
   if cu P a/\cu P c/\qL P (bG P a) then
   match pK h y with
   | some ys=>(bS (P.cellsOf (bG P a)) (P.bytesOf (bG P a)) (.lst []) ys).bind λz=>k (.buf h.length (cj z)) (h++[.arr .rw (P.cellsOf (bG P a)) z])
   | none=>none
   else none
 | .append,[.buf o _,y]=>
   if cu P a/\cu P c/\qL P (bG P a) then
   match getOb h o,pK h y with
   | .arr .rw sz x,some ys=>if sz=P.cellsOf (bG P a) then (bS (P.cellsOf (bG P a)) (P.bytesOf (bG P a)) x ys).bind λz=>k (.buf h.length (cj z)) (h.set o .dead++[.arr .rw sz z]) else none
   | _,_=>none
   else none
 | .append,[.sub o l u,y]=>
   if cu P a/\cu P c/\qL P (bG P a) then
   match getOb h o,pK h y with
   | .arr .rw sz x,some ys=>if sz=P.cellsOf (bG P a) then (bS (P.cellsOf (bG P a)) (P.bytesOf (bG P a)) (Ej x l u) ys).bind λz=>k (.buf h.length (cj z)) (h.set o .dead++[.arr .rw sz z]) else none
   | _,_=>none
   else none
 | .copy,[.buf o n,y]=>
   if cu P a/\cu P c/\0 < P.cellsOf (bG P a) then
   match getOb h o,pK h y with
   | .arr .rw sz x,some ys=>if sz=P.cellsOf (bG P a) then (qx sz x 0 n ys).bind λp=>k (.imm p.2) (h.set o (.arr .rw sz p.1)) else none
   | _,_=>none
   else none
 | .copy,[.sub o l u,y]=>
   if cu P a/\cu P c/\0 < P.cellsOf (bG P a) then
   match getOb h o,pK h y with
   | .arr .rw sz x,some ys=>if sz=P.cellsOf (bG P a) then (qx sz x l u ys).bind λp=>k (.imm p.2) (h.set o (.arr .rw sz p.1)) else none
   | _,_=>none
   else none
 | .max,[.imm x,.imm y]=>(imax x y).bind λv=>k (.imm v) h
 | .min,[.imm x,.imm y]=>(Xy x y).bind λv=>k (.imm v) h
 | _,_=>none
def A5 (h:List Ob):PV->Option IV
 | .imm x=>some x
 | .mp o=>match getOb h o with | .arr _ _ x=>some x | _=>none
 | _=>none
def YK (Γ:c1->Option FSig):Fn->Option Inl
 | .func g=>match Γ g with | some s=>(match s.mode with | .inl J=>some J | _=>none) | none=>none
 | _=>none
def SD (Γ:c1->Option FSig) (fn:Fn) (caps:List PV):Option FSig:=
 match fn,caps with
 | .func g,[]=>(match Γ g with | some s=>(match s.mode with | .obj _=>some s | _=>none) | none=>none)
 | _,_=>none
def ad4 (Γ:c1->Option FSig) (g:c1):Bool:=match Γ g with | some s=>(match s.mode with | .obj _ | .inl _=>true | _=>false) | none=>false
def evK (k:c1->Bool) (fr:List PV):a2->PV
 | .func f=>if k f then .clo (.func f) [] else .imm (.clo (.func f) [])
 | x=>ev fr x
def Gx (name:String) (x:IV):IV:=
 match x with
 | .ifc t b y=> .map [[.clo (.methodOf t name) [y],.bool b,.nilp]]
 | _=> .nilp
def Kx (t:al):Bool:=match P.underlying t with | some (.interface _) | none=>false | _=>true
def YL (t:al):Option IV:=match m7 P t with | some z=>(match mB z with | .imm x=>some x | _=>none) | none=>none
def aaC (z:a5):Option IV:=match mB z with | .imm x=>some x | .nils=>some (.lst []) | _=>none
def abU (e:al):Option (List IV):=match m7 P e with | some z=>if z.cells.size=P.cellsOf e/\0 < P.cellsOf e then z.cells.toList.mapM aaC else none | none=>none
def Rl (t:al):Bool:=
 match P.underlying t,m7 P t with
 | some (.struct a),some (.agg z)=>
   match a.toList,z.toList with
   | [f,g],[.pointer none,.slice none 0 0]=>
     match P.underlying f.type,P.underlying g.type with
     | some (.pointer t'),some (.slice _)=>t'==t
     | _,_=>false
   | _,_=>false
 | _,_=>false
def ahd (len:Nat) (emp:Bool) (e:al):Bool:=if len=0 then emp else qL P e
def gI {R:Type} (o:eg) (st:St) (k:PV->List Ob->Option R):Option R:=
 match o.op with
 | .move x=>k (ev st.fr x) st.h
 | .assign x=>k (ev st.fr x) st.h
 | .pick c a b=>match ev st.fr c with | .imm x=>ae x (λ_=>k (ev st.fr a) st.h) (λ_=>k (ev st.fr b) st.h) | _=>none
 | .alloc t=>
   match Rl P t with
   | true=>k (.ptr st.h.length 0) (st.h++[.box .rw [.sn t 2 st.h.length,.tnil]])
   | false=>match m7 P t with | some z=>k (.ptr st.h.length 0) (st.h++[.box .rw (lk z).cells]) | none=>none
 | .box t v=>if (ev st.fr v).whole then k (.ptr st.h.length 0) (st.h++[.box (V4 (ev st.fr v).cells) (ev st.fr v).cells]) else none
 | .build t parts=>
   match P.underlying t,m7 P t with
   | some (.struct E),some z=>
     if E.all (λf=>(P.info? f.type).isSome) then
     match Dg (λi=>(E[i]?).map λf=>(f.offset,P.cellsOf f.type)) (lk z).cells (parts.toList.map λp=>(p.1,evK (ad4 Γ) st.fr p.2)) with
     | some cs=>k (.agg cs) st.h
     | none=>none
     else none
   | some (.array _ e),some z=>
     if (P.info? e).isSome then
     match Dg (λi=>some (i*P.cellsOf e,P.cellsOf e)) (lk z).cells (parts.toList.map λp=>(p.1,evK (ad4 Γ) st.fr p.2)) with
     | some cs=>k (.agg cs) st.h
     | none=>none
     else none
   | _,_=>none
 | .buildSlice t len parts=>
   match P.underlying t with
   | some (.slice e)=>
     if len=0 then (if parts.isEmpty/\0 < P.cellsOf e then k .nils st.h else none) else
     if ahd P len parts.isEmpty e then
     match (if len=0 then some [] else match m7 P e with
      | some z=>Dg (λi=>some (i*P.cellsOf e,P.cellsOf e)) ((c3 len).flatMap λ_=>(lk z).cells) (parts.toList.map λp=>(p.1,ev st.fr p.2))
      | none=>none) with
     | some cs=>
       match (chunks (P.cellsOf e) len cs).mapM (λc=>c.mapM (qn st.h 5)),wh st.h (cs.flatMap (refs st.h 5)) with
       | some es,some h=>if len<=1000/\P.cellsOf e<=100/\0 < P.cellsOf e then k (.buf h.length len) (h++[.arr .rw (P.cellsOf e) (.lst es)]) else none
       | _,_=>none
     | none=>none
     else none
   | _=>none
 | .makeMap t none=>if HD P t then k (.mp st.h.length) (st.h++[.arr .rw 0 (.map [])]) else none
 | .mapUpdate t m x v=>
   match P.underlying t,ev st.fr m,ev st.fr x,ev st.fr v with
   | some (.map D _),.mp o,.imm key,.imm val=>
     match getOb st.h o with
     | .arr .rw sz y=>(match ac0 P D with | some q=>(qD q y key val).bind λH=>k .skip (st.h.set o (.arr .rw sz H)) | none=>none)
     | _=>none
   | _,_,_,_=>none
 | .lookup t m x w=>
   match P.underlying t,A5 st.h (ev st.fr m),ev st.fr x with
   | some (.map D F),some y,.imm key=>
     match ac0 P D,YL P F with
     | some q,some z=>(yk q y key z).bind λr=>k (if w then .tup [.imm (nth r 0),.imm (nth r 1)] else .imm (nth r 0)) st.h
     | _,_=>none
   | _,_,_=>none
 | .load t a=>loadT P t (ev st.fr a) st.h k
 | .store t a v=>storeT P t (ev st.fr a) (ev st.fr v) st.h k
 | .nilCheck x=>match ev st.fr x with | .imm y=>(gA y).bind λv=>k (.imm v) st.h | .ptr o j=>k (.ptr o j) st.h | .bptr o i j=>k (.bptr o i j) st.h | .eptr x i j=>k (.eptr x i j) st.h | .iptr x j=>k (.iptr x j) st.h | .clo f c=>k (.clo f c) st.h | _=>none
 | .binOp op t x y _=>
   match ev st.fr x,ev st.fr y with
   | .imm a,.imm b=>if SG P t then (Qy op a b).bind λv=>k (.imm v) st.h else if HW P t then (Wb op a b).bind λv=>k (.imm v) st.h else (aa op a b).bind λv=>k (.imm v) st.h
   | .ptr _ _,.imm .nilp=>if HW P t then (Zd op true).bind λv=>k (.imm v) st.h else none
   | .agg as,.agg bs=>if XN P t then (match PX as,PX bs with | some as,some bs=>(Vx op (Kk P t) as bs).bind λv=>k (.imm v) st.h | _,_=>none) else none
   | _,_=>none
 | .unOp op _ x=>match ev st.fr x with | .imm a=>(ll op a).bind λv=>k (.imm v) st.h | _=>none
 | .convert s d x=>
   match ev st.fr x,P.underlying s,P.underlying d with
   | .imm a,some (.int _),some (.int A)=>(bE A a).bind λv=>k (.imm v) st.h
   | .imm a,some (.float _),some (.int A)=>(Rh A a).bind λv=>k (.imm v) st.h
   | .imm a,some (.int _),some (.float A)=>(Xl A a).bind λv=>k (.imm v) st.h
   | .imm a,some .string,some (.slice e)=>(match P.underlying e with | some (.int .u8)=>(Wq a).bind λv=>k (.imm v) st.h | _=>none)
   | p,some (.slice e),some .string=>(match P.underlying e,pK st.h p with | some (.int .u8),some y=>(jW y).bind λv=>k (.imm v) st.h | _,_=>none)
   | _,_,_=>none
 | .makeSlice t l c=>
   match P.underlying t,ev st.fr l,ev st.fr c with
   | some (.slice e),.imm x,.imm y=>(match abU P e with | some row=>(lr (P.bytesOf e) row x y).bind λv=>k (.buf st.h.length (cj v)) (st.h++[.arr .rw (P.cellsOf e) v]) | none=>none)
   | _,_,_=>none
 | .makeFunc fn first caps=>if first.isEmpty then k (if caps.isEmpty&&(YK Γ fn).isNone then .imm (.clo fn []) else .clo fn (caps.toList.map (ev st.fr))) st.h else none
 | .slice t x lo hi none=>
   match ev st.fr x,p4 st.fr lo,p4 st.fr hi with
   | .imm a,some lo,some hi=>if zP P t then (ea a lo hi).bind λv=>k (.imm v) st.h else if cu P t/\0 < P.cellsOf (bG P t) then (ly (P.cellsOf (bG P t)) a lo hi).bind λv=>k (.imm v) st.h else none
   | .buf o n,some lo,some hi=>if cu P t/\0 < P.cellsOf (bG P t) then (match getOb st.h o with | .arr _ sz _=>if sz=P.cellsOf (bG P t) then (lj n lo hi).bind λp=>k (.sub o p.1 p.2) st.h else none | _=>none) else none
   | .sub o l u,some lo,some hi=>if cu P t/\0 < P.cellsOf (bG P t) then (match getOb st.h o with | .arr _ sz _=>if sz=P.cellsOf (bG P t) then (lj (u - l) lo hi).bind λp=>k (.sub o (l+p.1) (l+p.2)) st.h else none | _=>none) else none
   | _,_,_=>none
 | .slice t x none (some hi) (some G)=>
   match ev st.fr x,ev st.fr hi,ev st.fr G with
   | .buf o n,.imm u,.imm v=>if cu P t/\0 < P.cellsOf (bG P t) then (match getOb st.h o with | .arr _ sz _=>if sz=P.cellsOf (bG P t) then (aiP u v n).bind λp=>k (.sub o 0 p) st.h else none | _=>none) else none
   | _,_,_=>none
 | .fieldAddr s x f=>
   match Ek P s f with
   | some fd=>if P.cellsOf fd.type=0 then none else
     match ev st.fr x with
     | .ptr o j=>k (.ptr o (j+fd.offset)) st.h
     | .bptr o i j=>k (.bptr o i (j+fd.offset)) st.h
     | .eptr x i j=>k (.eptr x i (j+fd.offset)) st.h
     | .iptr x j=>k (.iptr x (j+fd.offset)) st.h
     | .imm x=>(gA x).bind λx=>k (.iptr x fd.offset) st.h
     | _=>none
   | none=>none
 | .field t x f=>
   match Ek P t f,ev st.fr x with
   | some fd,.agg cs=>if dX P fd.type then k (.agg ((cs.drop fd.offset).take (P.cellsOf fd.type))) st.h else if lD P fd.type then (match cs[fd.offset]? with | some p=>k p st.h | none=>none) else none
   | _,_=>none
 | .indexAddr t x i=>
   match ev st.fr x,ev st.fr i with
   | .imm a,.imm n=>if cu P t then (aK a n (P.cellsOf (bG P t))).bind λm=>k (.eptr a m 0) st.h else none
   | .buf o n,.imm i=>if cu P t/\0 < P.cellsOf (bG P t) then (match getOb st.h o with | .arr _ sz _=>if sz=P.cellsOf (bG P t) then (bU n i).bind λm=>k (.bptr o m 0) st.h else none | _=>none) else none
   | .sub o l u,.imm n=>if cu P t/\0 < P.cellsOf (bG P t) then (match getOb st.h o with | .arr _ sz _=>if sz=P.cellsOf (bG P t) then (bU (u - l) n).bind λm=>k (.bptr o (l+m) 0) st.h else none | _=>none) else none
   | .ptr o j,.imm n=>
     match P.underlying t with
     | some (.array len e)=>if 0 < P.cellsOf e then (bU len n).bind λm=>k (.ptr o (j+m*P.cellsOf e)) st.h else none
     | _=>none
   | _,_=>none
 | .index t x i=>
   match ev st.fr x,ev st.fr i with
   | .imm a,.imm n=>if zP P t then (Ho a n).bind λv=>k (.imm v) st.h else none
   | .agg cs,.imm n=>
     match P.underlying t,PX cs with
     | some (.array len e),none=>(bU len n).bind λm=>if cs.length=len*P.cellsOf e/\0 < P.cellsOf e then (if dX P e then k (.agg ((cs.drop (m*P.cellsOf e)).take (P.cellsOf e))) st.h else if lD P e/\P.cellsOf e=1 then (cs[m]?).bind λp=>k p st.h else none) else none
     | some (.array len e),some l=>(bU len n).bind λm=>if l.length=len*P.cellsOf e then (if dX P e then k (.agg ((c3 (P.cellsOf e)).map λj=> .imm (nth l (m*P.cellsOf e+j)))) st.h else if lD P e/\P.cellsOf e=1 then k (.imm (nth l m)) st.h else none) else none
     | _,_=>none
   | _,_=>none
 | .extract x i=>match ev st.fr x with | .tup cs=>(match cs[i]? with | some p=>k p st.h | none=>none) | _=>none
 | .call c=>
   match c.callee with
   | .builtin b=>if c.argTypes.size≠c.args.size then none else oS P b (c.argTypes.getD 0 0) (c.argTypes.getD 1 0) (c.args.toList.map (ev st.fr)) st.h k
   | .value (.func g)=>
     match Γ g with
     | some s=>bL s st.h (c.args.toList.map (ev st.fr)) k
     | none=>none
   | .value f=>
     match ev st.fr f with
     | .imm x=>bL ⟨.pure,false,mG P o.type,0,C x (mG P o.type)⟩ st.h (c.args.toList.map (ev st.fr)) k
     | .clo fn caps=>
       match YK Γ fn with
       | some J=>J.run R (c.args.toList.map (ev st.fr)++caps) st.h k
       | none=>
       match SD Γ fn caps with
       | some s=>bL s st.h (c.args.toList.map (ev st.fr)) k
       | none=>
       match qn st.h 5 (.clo fn caps),wh st.h (refs st.h 5 (.clo fn caps)) with
       | some x,some h1=>bL ⟨.pure,false,mG P o.type,0,C x (mG P o.type)⟩ h1 (c.args.toList.map (ev st.fr)) k
       | _,_=>none
     | _=>none
   | .invoke recv name=>
     if c.args.isEmpty then
     match ev st.fr recv with
     | .imm x=>bL ⟨.pure,false,mG P o.type,0,C (Gx name x) (mG P o.type)⟩ st.h [] k
     | _=>none
     else none
 | .makeInterface t x=>
   if Kx P t then
   match ev st.fr x with
   | .agg [p]=>(match qn st.h 5 p,wh st.h (refs st.h 5 p) with | some y,some h1=>k (.imm (.ifc t true y)) h1 | _,_=>none)
   | p=>if p.atom then (match qn st.h 5 p,wh st.h (refs st.h 5 p) with | some y,some h1=>k (.imm (.ifc t false y)) h1 | _,_=>none) else none
   else none
 | _=>none
def setDst (fr:List PV) (d:Option Tmp) (p:PV):List PV:=match d with | some d=>fr.set d p | none=>fr
def vQ {R:Type} (ops:Array eg) (o:eg) (st:St) (k:St->Option R):Option R:=
 let go:St->Option R:= λst=>gI P Γ C o st λp h=>k ⟨setDst st.fr o.dst p,h⟩
 let no:St->Option R:= λst=>k ⟨setDst st.fr o.dst .skip,st.h⟩
 match o.guard with
 | none=>go st
 | some (j,want)=>
   match (ops[j]?).bind (·.dst) with
   | none=>none
   | some s=>
     match st.fr.getD s .undef with
     | .imm x=>ae x (λ_=>(if want then go else no) ⟨st.fr.set s (.imm (.bool true)),st.h⟩) (λ_=>(if want then no else go) ⟨st.fr.set s (.imm (.bool false)),st.h⟩)
     | .skip=>no st
     | _=>none
def mH {R:Type} (ops:Array eg):List eg->St->(St->Option R)->Option R
 | [],st,k=>k st
 | o::rest,st,k=>vQ P Γ C ops o st λa=>mH ops rest a k
def Rg:PV->Bool
 | .buf _ _ | .sub _ _ _=>false
 | _=>true
def okF (o:eg) (fr:List PV):Bool:=
 match o.op with
 | .slice _ x _ _ _=>Rg (ev fr x)
 | .indexAddr _ x _=>Rg (ev fr x)
 | .convert _ _ x=>(match ev fr x with | .imm _=>true | _=>false)
 | _=>true
def abv:PV->Bool
 | .nils=>true
 | _=>false
def Xa (o:eg) (fr:List PV):Bool:=
 match o.op with
 | .call c=>
   match c.callee with
   | .builtin .append=>(match c.args.toList with | x::_=>abv (ev fr x) | []=>false)
   | _=>true
 | _=>true
def sN {R:Type} (ok:eg->List PV->Bool) (ops:Array eg):List eg->St->(St->Option R)->Option R
 | [],st,k=>k st
 | o::rest,st,k=>if ok o st.fr then vQ P Γ C ops o st λa=>sN ok ops rest a k else none
def Yy (F:List Nat) (ops:Array eg) (fr:List PV):List Nat:=
 F.filterMap λj=>match ops[j]? with
   | some o=>(match o.op with | .load _ a=>(match ev fr a with | .ptr q _=>some q | _=>none) | .fieldAddr _ x _=>(match ev fr x with | .ptr q _=>some q | _=>none) | .slice _ x _ _ _=>(match ev fr x with | .buf q _=>some q | _=>none) | _=>none)
   | none=>none
def HU (S:List Nat) (o:eg) (fr:List PV):Bool:=
 match o.op with
 | .load _ a=>(match ev fr a with | .ptr q _=>S.contains q | _=>false)
 | .slice _ x _ _ _=>Rg (ev fr x)||(match ev fr x with | .buf q _=>S.contains q | _=>false)
 | _=>okF o fr
def floatB (o:eg):Bool:=
 match o.op with
 | .move _ | .assign _ | .pick _ _ _ | .binOp _ _ _ _ _ | .unOp _ _ _ | .slice _ _ _ _ _ | .indexAddr _ _ _ | .field _ _ _ | .extract _ _ | .fieldAddr _ _ _ | .convert _ _ _ | .nilCheck _=>true
 | _=>false
def NW (S:List Nat×Bool) (o:eg) (fr:List PV):Bool:=
 match S.1 with
 | []=>true
 | _=>
   match o.op with
   | .store _ a _=>(match ev fr a with | .ptr q _=> !S.1.contains q | _=>false)
   | .call c=>S.2||(match c.callee with | .builtin .append=>(match c.args.toList with | x::_=>(match ev fr x with | .nils=>true | .buf q _=> !S.1.contains q | _=>false) | []=>false) | _=>false)
   | _=>floatB o&&okF o fr
def aal (F:List Nat) (ops:Array eg) (st:St):List Nat×Bool:=(Yy F ops st.fr,(Yy F ops st.fr).all λq=> !isRw (getOb st.h q))
def allocB (o:eg):Bool:=match o.op,o.guard with | .buildSlice _ _ _,none=>true | _,_=>false
def EF (fr:List PV):List PV:=fr.map λp=>match p with | .imm x=> .imm x | _=> .undef
def bsP (o:eg) (fr:List PV):Option PV:=
 match gI P Γ C (R:=PV×List Ob) o ⟨EF fr,[]⟩ (λp h=>some (p,h)) with
 | some (.buf 0 _,[.arr .rw _ (.lst es)])=>some (.imm (.lst es))
 | _=>none
def qJ {R:Type} (ok:eg->List PV->Bool) (ops:Array eg):List eg->St->(St->Option R)->Option R
 | [],st,k=>k st
 | o::rest,st,k=>
   if allocB o then (match bsP P Γ C o st.fr with | some p=>qJ ok ops rest ⟨setDst st.fr o.dst p,st.h⟩ k | none=>none)
   else if ok o st.fr then vQ P Γ C ops o st λa=>qJ ok ops rest a k else none
def rY {R:Type} (ord:Option (List Nat×List Nat×List Nat)) (ops:Array eg) (st:St) (k:St->Option R):Option R:=
 match ord with
 | none=>mH P Γ C ops ops.toList st k
 | some l=>sN P Γ C Xa ops (l.2.1.filterMap (ops[·]?)) st λa=>qJ P Γ C (HU (Yy l.1 ops a.fr)) ops (l.1.filterMap (ops[·]?)) a λb=>sN P Γ C (NW (aal l.1 ops a)) ops (l.2.2.filterMap (ops[·]?)) b k
end
def dsts (ops:List eg):List Nat:=ops.filterMap (·.dst)
def writes:Code->List Nat
 | .region _ ops _=>dsts ops.toList
 | .seq a b=>writes a++writes b
 | .cond _ a b=>writes a++writes b
 | .block _ a=>writes a
 | .loop a=>writes a
 | .scope a=>writes a
 | .rangeFunc _ ps a b=>ps.toList++writes a++writes b
 | _=>[]
def forget (fr:List PV):List Nat->List PV
 | []=>fr
 | t::a=>forget (fr.set t .undef) a
def aU:Code->Nat
 | .region id _ _=>id
 | .seq a _=>aU a
 | .block _ a=>aU a
 | .loop a=>aU a
 | .scope a=>aU a
 | _=>0
def ad7 (e:Ex) (l:List Ex):List Ex:=if l.contains e then l else l++[e]
def oc:Code->List Ex
 | .seq a b=>(oc b).foldl (λl e=>ad7 e l) (oc a)
 | .cond _ a b=>(oc b).foldl (λl e=>ad7 e l) (oc a)
 | .block id a=>(oc a).filter (· ≠ .exit id)
 | .loop a=>oc a
 | .scope a=>oc a
 | .exit id=>[.exit id]
 | .ret=>[.ret]
 | .goto l=>[.goto l]
 | _=>[]
def agu (h:List Ob):Option Nat->PV->Option (List IV)
 | none,.imm x=>some [x]
 | some n,.ptr o 0=>match getOb h o with | .box .rw cs=>if cs.length=n then XA cs else none | _=>none
 | _,_=>none
def M5 (h:List Ob):List (Option Nat)->List PV->Option (List IV)
 | [],[]=>some []
 | k::ks,p::ps=>match agu h k p,M5 h ks ps with | some x,some l=>some (x++l) | _,_=>none
 | _,_=>none
def uK:List (Option Nat)->List PV->List Nat
 | some _::ks,.ptr o _::ps=>o::uK ks ps
 | _::ks,_::ps=>uK ks ps
 | _,_=>[]
def Ee:List (Option Nat)->Nat
 | []=>0
 | none::ks=>1+Ee ks
 | some n::ks=>n+Ee ks
def pz (vs:List IV):List (Option Nat)->Nat->Nat->List PV
 | [],_,_=>[]
 | none::ks,i,k=> .imm (nth vs i)::pz vs ks (i+1) k
 | some n::ks,i,k=> .ptr k 0::pz vs ks (i+n) (k+1)
def qd (vs:List IV):List (Option Nat)->Nat->List Ob
 | [],_=>[]
 | none::ks,i=>qd vs ks (i+1)
 | some n::ks,i=> .box .rw (iR vs i n)::qd vs ks (i+n)
def pS (st:St) (t:Nat):Kd->Option (List IV)
 | .I=>(qn st.h 5 (st.fr.getD t .undef)).map λx=>[x]
 | .S n=>match st.fr.getD t .undef with | .agg cs=>if cs.length=n then cs.mapM (qn st.h 5) else none | _=>none
 | .B sz=>match st.fr.getD t .undef with
   | .nils=>if 0 < sz then some [.lst []] else none
   | .buf o _=>match getOb st.h o with | .arr .rw sz' x=>if sz'=sz then some [x] else none | _=>none
   | _=>none
 | .G n=>match st.fr.getD t .undef with
   | .ptr o 0=>match getOb st.h o with | .box .rw cs=>if cs.length=n then cs.mapM (qn st.h 5) else none | _=>none
   | _=>none
 | .M=>match st.fr.getD t .undef with
   | .mp o=>match getOb st.h o with | .arr .rw _ x=>some [x] | _=>none
   | _=>none
 | .O shp=>(DH st.h shp (st.fr.getD t .undef)).map (·.1)
 | .K o shp=>match st.fr.getD t .undef with | .ptr q 0=>if q=o then (DH st.h shp (.ptr o 0)).map (·.1) else none | _=>none
 | .C g ks=>match st.fr.getD t .undef with | .clo (.func a) caps=>if a=g then M5 st.h ks caps else none | _=>none
def pack (st:St):List (Nat×Kd)->Option (List IV)
 | []=>some []
 | (t,c)::l=>match pS st t c,pack st l with | some a,some b=>some (a++b) | _,_=>none
def taken (st:St):List (Nat×Kd)->List Nat
 | []=>[]
 | (t,.B _)::l=>(match st.fr.getD t .undef with | .buf o _=>[o] | _=>[])++taken st l
 | (t,.G _)::l=>(match st.fr.getD t .undef with | .ptr o _=>[o] | _=>[])++taken st l
 | (t,.M)::l=>(match st.fr.getD t .undef with | .mp o=>[o] | _=>[])++taken st l
 | (t,.O shp)::l=>(match DH st.h shp (st.fr.getD t .undef) with | some p=>p.2 | none=>[])++taken st l
 | (t,.K o shp)::l=>(match DH st.h shp (.ptr o 0) with | some p=>p.2 | none=>[])++taken st l
 | (t,.C _ ks)::l=>(match st.fr.getD t .undef with | .clo _ caps=>uK ks caps | _=>[])++taken st l
 | _::l=>taken st l
def bq (st:St):List (Nat×Kd)->List Nat
 | []=>[]
 | (t,.I)::l=>refs st.h 5 (st.fr.getD t .undef)++bq st l
 | (t,.S _)::l=>iM st.h (st.fr.getD t .undef)++bq st l
 | (t,.G _)::l=>(match st.fr.getD t .undef with | .ptr o _=>(match getOb st.h o with | .box _ cs=>cs.flatMap (refs st.h 5) | _=>[]) | _=>[])++bq st l
 | _::l=>bq st l
def unpack (vs:List IV):List (Nat×Kd)->Nat->St->St
 | [],_,st=>st
 | (t,.I)::l,i,st=>unpack vs l (i+1) ⟨st.fr.set t (.imm (nth vs i)),st.h⟩
 | (t,.S n)::l,i,st=>unpack vs l (i+n) ⟨st.fr.set t (.agg (iR vs i n)),st.h⟩
 | (t,.B sz)::l,i,st=>unpack vs l (i+1) ⟨st.fr.set t (.buf st.h.length (cj (nth vs i))),st.h++[.arr .rw sz (nth vs i)]⟩
 | (t,.G n)::l,i,st=>unpack vs l (i+n) ⟨st.fr.set t (.ptr st.h.length 0),st.h++[.box .rw (iR vs i n)]⟩
 | (t,.M)::l,i,st=>unpack vs l (i+1) ⟨st.fr.set t (.mp st.h.length),st.h++[.arr .rw 0 (nth vs i)]⟩
 | (t,.O shp)::l,i,st=>unpack vs l (i+shp.length) ⟨st.fr.set t (.ptr (st.h.length+shp.length) 0),st.h++(cy vs shp i++[.box .rw (cG (st.h.length+shp.length) vs shp st.h.length i)])⟩
 | (t,.K o shp)::l,i,st=>unpack vs l (i+shp.length) ⟨st.fr.set t (.ptr o 0),(st.h++cy vs shp i).set o (.box .rw (cG o vs shp st.h.length i))⟩
 | (t,.C g ks)::l,i,st=>unpack vs l (i+Ee ks) ⟨st.fr.set t (.clo (.func g) (pz vs ks i st.h.length)),st.h++qd vs ks i⟩
def wK:List (Nat×Kd)->List Nat
 | []=>[]
 | (_,.K o _)::l=>o::wK l
 | _::l=>wK l
def acH (p:List (Nat×Kd)×List (List (Nat×Kd))):Bool:=p.2.all λL=>(wK L).all λo=>(wK p.1).contains o
def m0 (st:St) (h1:List Ob) (L:List (Nat×Kd)):Bool:=dF (taken st L)&&(taken st L).all λo=>isRw (getOb h1 o)
def packed (st:St) (L:List (Nat×Kd)):Option (List IV):=
 match pack st L,wh st.h (bq st L) with
 | some vs,some h1=>if m0 st h1 L then some vs else none
 | _,_=>none
def leaves (fr:List PV):List Nat->Option (List IV)
 | []=>some []
 | t::a=>match fr.getD t .undef,leaves fr a with | .imm x,some l=>some (x::l) | _,_=>none
def xC (r:List IV):List Nat->Nat->List PV->List PV
 | [],_,fr=>fr
 | t::a,i,fr=>xC r a (i+1) (fr.set t (.imm (nth r i)))
def unr {R:Type} (f:St->(Ex->St->Option R)->Option R):Nat->St->(Ex->St->Option R)->Option R
 | 0,_,_=>none
 | n+1,st,K=>f st λe a=>match e with | .normal=>unr f n a K | e=>K e a
section
variable (P:cb) (Γ:c1->Option FSig) (C:IV->List Nat->List (List IV)->Option (List IV)) (A:Ann)
def exec:Code->(R:Type)->St->(Ex->St->Option R)->Option R
 | .skip,_,st,K=>K .normal st
 | .label _,_,st,K=>K .normal st
 | .ret,_,st,K=>K .ret st
 | .exit id,_,st,K=>K (.exit id) st
 | .goto l,_,st,K=>K (.goto l) st
 | .seq a b,R,st,K=>exec a R st λe d=>match e with | .normal=>exec b R d K | e=>K e d
 | .block id a,R,st,K=>exec a R st λe d=>match e with | .exit j=>if j=id then K .normal d else K (.exit j) d | e=>K e d
 | .cond c a b,R,st,K=>match ev st.fr c with | .imm x=>ae x (λ_=>exec a R st K) (λ_=>exec b R st K) | _=>none
 | .region id ops draw,R,st,K=>
   match A.join id with
   | none=>rY P Γ C (A.order id) ops st λd=>K .normal d
   | some L=>
     (rY P Γ C (A.order id) ops ⟨st.fr,st.h.map gj⟩ λd=>leaves d.fr L).bind λr=>
       K .normal ⟨xC r L 0 (forget st.fr (dsts ops.toList)),st.h⟩
 | .loop a,R,st,K=>
   if 0 < A.unroll (aU a) then unr (exec a R) (A.unroll (aU a)) st K else
   let L:=(A.pick st.fr (aU a)).1
   let g:=(A.pick st.fr (aU a)).2
   let es:=oc a
   match pack st L,wh st.h (bq st L) with
   | some vs0,some h1=>
     if (m0 st h1 L&&acH (A.pick st.fr (aU a)))=false then none else
     let base:=kill h1 (taken st L)
     let f:=forget st.fr (writes a)
     (iter rounds (λvs=>exec a SR (unpack vs L 0 ⟨f,base.map gj⟩) λe d=>
        match e with
        | .normal=>(packed d L).map .next
        | e=>(packed d (g.getD (es.idxOf e) [])).map (.done (es.idxOf e))) vs0).bind λp=>
       fg p.1 (es.map λe=>K e (unpack p.2 (g.getD (es.idxOf e) []) 0 ⟨f,base⟩))
   | _,_=>none
 | .scope a,R,st,K=>exec a R st λe d=>match e with | .goto _=>none | e=>K e d
 | _,_,_,_=>none
def MR (l:Nat) (a:Code) (R:Type) (st:St) (K:Ex->St->Option R):Option R:=
 let L:=(A.pick st.fr (aU a)).1
 let d:=(A.pick st.fr (aU a)).2
 let es:=oc a
 match pack st L,wh st.h (bq st L) with
 | some vs0,some h1=>
   if (m0 st h1 L&&acH (A.pick st.fr (aU a)))=false then none else
   let base:=kill h1 (taken st L)
   let b:=forget st.fr (writes a)
   (iter rounds (λvs=>exec P Γ C A a SR (unpack vs L 0 ⟨b,base.map gj⟩) λe c=>
      if e= .goto l then (packed c L).map .next else (packed c (d.getD (es.idxOf e) [])).map (.done (es.idxOf e))) vs0).bind λp=>
     fg p.1 (es.map λe=>K e (unpack p.2 (d.getD (es.idxOf e) []) 0 ⟨b,base⟩))
 | _,_=>none
def dy:Code->(R:Type)->St->(Ex->St->Option R)->Option R
 | .seq a b,R,st,K=>
   match a with
   | .label l=>if (oc b).contains (.goto l) then MR P Γ C A l b R st K else exec P Γ C A b R st K
   | a=>exec P Γ C A a R st λe d=>match e with | .normal=>dy b R d K | e=>K e d
 | c,R,st,K=>exec P Γ C A c R st K
def aaw:Ex->Bool
 | .goto _=>true
 | _=>false
def gz:Code->(R:Type)->St->(Ex->St->Option R)->Option R
 | .seq a b,R,st,K=>exec P Γ C A a R st λe d=>match e with | .normal=>gz b R d K | e=>K e d
 | .scope b,R,st,K=>if (oc b).any aaw then dy P Γ C A b R st K else exec P Γ C A (.scope b) R st K
 | c,R,st,K=>exec P Γ C A c R st K
def SN (t:al) (cs:List IV):Option PV:=
 if dX P t then (if cs.length=P.cellsOf t/\2<=P.cellsOf t then some (.agg (cs.map .imm)) else none)
 else match cs with | [x]=>some (.imm x) | _=>none
def gS:List al->Nat->List (List IV)->Option (List PV)
 | [],0,[]=>some []
 | [],n+1,[x]::l=>(gS [] n l).map (.imm x:: ·)
 | t::a,n,cs::l=>(SN P t cs).bind λp=>(gS a n l).map (p:: ·)
 | _,_,_=>none
def vP (n:Nat) (p:PV) (h:List Ob):Option (List IV):=if TT p then (EE h p).bind λa=>if a.length=n then some a else none else none
def BZ (t:al) (a:PV) (h:List Ob):Option PV:=
 match a with
 | .ptr o j=>
   match getOb h o with
   | .box _ cs=>if dX P t then (if j+P.cellsOf t<=cs.length then some (.agg ((cs.drop j).take (P.cellsOf t))) else none) else if lD P t then cs[j]? else none
   | _=>none
 | _=>none
def zk (st:St):List dd->List Nat->Option (List IV)
 | [],[]=>some []
 | .tmp t::l,n::ns=>match vP n (st.fr.getD t .undef) st.h,zk st l ns with | some a,some b=>some (a++b) | _,_=>none
 | .cell a t::l,n::ns=>match (BZ P t (st.fr.getD a .undef) st.h).bind λp=>vP n p st.h,zk st l ns with | some a,some b=>some (a++b) | _,_=>none
 | _,_=>none
def fin (r:Option (List IV)):Option (List IV):=match r with | some r=>if A.scalar then aw r else some r | none=>none
def ah7 (st:St):List dd->Option (List IV)
 | []=>some []
 | .tmp t::l=>match st.fr.getD t .undef,ah7 st l with | .imm x,some r=>some (x::r) | _,_=>none
 | _=>none
def ou (st:St):List dd->List Nat
 | []=>[]
 | .tmp t::l=>iM st.h (st.fr.getD t .undef)++ou st l
 | .cell a t::l=>(match BZ P t (st.fr.getD a .undef) st.h with | some p=>iM st.h p | none=>[])++ou st l
def LL (st:St):List dd->List Nat->Option (List IV)
 | [],[]=>some []
 | .tmp t::l,n::ns=>match vP n (st.fr.getD t .undef) st.h,LL st l ns with | some a,some b=>some (a++b) | _,_=>none
 | .cell a t::l,n::ns=>match (BZ P t (st.fr.getD a .undef) st.h).bind λp=>vP n p st.h,LL st l ns with | some a,some b=>some (a++b) | _,_=>none
 | _,_=>none
def runM (shp:List Sc) (f:Func) (vs:List IV) (args:List (List IV)):Option (List IV):=
 match f.body,gS P (f.params.toList.drop 1) f.nfree args with
 | some c,some ps=>
   if vs.length=shp.length/\(writes c).contains 0=false then
   gz P Γ C A c (List IV) ⟨.ptr shp.length 0::ps++b5 (f.ntmps - (ps.length+1)) .skip,cy vs shp 0++[.box .rw (cG shp.length vs shp 0 0)]⟩ λe st=>
    match e with
    | .exit _=>none
    | .goto _=>none
    | _=>
      match wh st.h (ou P st f.results.toList) with
      | some h1=>match DH h1 shp (st.fr.getD 0 .undef),LL P st f.results.toList (f.resultTypes.toList.map P.cellsOf) with | some p,some r=>some (p.1++r) | _,_=>none
      | none=>none
   else none
 | _,_=>none
def runN (shp:List Sc) (f:Func) (args:List (List IV)):Option (List IV):=
 match f.body,gS P f.params.toList f.nfree args with
 | some c,some ps=>
   gz P Γ C A c (List IV) ⟨ps++b5 (f.ntmps - ps.length) .skip,[]⟩ λe st=>
    match e with
    | .exit _=>none
    | .goto _=>none
    | _=>match f.results.toList with | [.tmp t]=>(DH st.h shp (st.fr.getD t .undef)).map (·.1) | _=>none
 | _,_=>none
def EJ (x:IV) (r:Option (List IV)):Option (List IV):=match x with | .nilp=>r | _=>none
def O6 (st:St):List dd->Option (List PV)
 | []=>some []
 | .tmp t::l=>(O6 st l).map (st.fr.getD t .undef:: ·)
 | .cell a t::l=>match BZ P t (st.fr.getD a .undef) st.h,O6 st l with | some p,some r=>some (p::r) | _,_=>none
def aaT:List PV->PV
 | [p]=>p
 | ps=> .tup ps
def tV (f:Func) (R:Type) (ps:List PV) (h:List Ob) (k:PV->List Ob->Option R):Option R:=
 match f.body with
 | some c=>gz P Γ C A c R ⟨ps++b5 (f.ntmps - ps.length) .skip,h⟩ λe st=>
    match e with
    | .exit _=>none
    | .goto _=>none
    | _=>(O6 P st f.results.toList).bind λps=>k (aaT ps) st.h
 | none=>none
def run (f:Func) (args:List (List IV)):Option (List IV):=
 match f.body,gS P f.params.toList f.nfree args with
 | some c,some ps=>
   gz P Γ C A c (List IV) ⟨ps++b5 (f.ntmps - ps.length) .skip,[]⟩ λe st=>
    match e with
    | .exit _=>none
    | .goto _=>none
    | _=>fin A (zk P st f.results.toList (f.resultTypes.toList.map P.cellsOf))
 | _,_=>none
end
end Go.AM
namespace Go.AM
def C0:IV->List Nat->List (List IV)->Option (List IV):= λ_ _ _=>none
def KA (g:Nat) (ns:List Nat) (fn:List IV->List (List IV)->Option (List IV)) (rest:IV->List Nat->List (List IV)->Option (List IV)):IV->List Nat->List (List IV)->Option (List IV):= λx a l=>
 match x with
 | .clo (.func n) caps=>if n=g/\a=ns then fn caps l else rest x a l
 | x=>rest x a l
def A6 (t:Nat) (name:String) (one:Bool) (ns:List Nat) (fn:List IV->List (List IV)->Option (List IV)) (rest:IV->List Nat->List (List IV)->Option (List IV)):IV->List Nat->List (List IV)->Option (List IV):= λx a l=>
 match x with
 | .map [[.clo (.methodOf t' nm) caps,.bool b,.nilp]]=>if t'=t/\nm=name/\a=ns/\b=one then fn caps l else rest x a l
 | x=>rest x a l
end Go.AM
set_option linter.unusedSimpArgs false
namespace Go.AM
open Go.RowKit
theorem Qi {k:a6} {n:Nat} (h:Ct k n=true): ∃s t,k.format.read n= .nan s t:=by
 have h:=of_decide_eq_true h
 unfold Ieee.Format.read
 have hb:k.format.binade<=k.format.infRung:=by cases k<;>decide
 simp only
 rw [if_neg (by omega),if_neg (by omega),if_neg (by omega)]
 exact ⟨_,_,rfl⟩
theorem Nn (k:a6):Ct k (acR k)=true:=by cases k<;>decide
theorem uc {k:a6} {n:Nat} (h:Ct k n=true):canF k n=acR k:=by unfold canF;rw [if_pos h]
theorem BT {k:a6} {n:Nat} (h:Ct k n=false):canF k n=n:=by unfold canF;rw [h];rfl
theorem aaF (k:a6) (n:Nat):canF k (canF k n)=canF k n:=by
 cases h:Ct k n with
 | true=>rw [uc h,uc (Nn k)]
 | false=>rw [BT h,BT h]
theorem lF (k:a6) (n:Nat):k.format.read (canF k n)=k.format.read n\/ ∃s t a t',k.format.read (canF k n)= .nan s t/\k.format.read n= .nan a t':=by
 cases h:Ct k n with
 | true=>
   right
   obtain ⟨a,t',h'⟩:=Qi h
   obtain ⟨s,t,h2⟩:=Qi (Nn k)
   exact ⟨s,t,a,t',by rw [uc h,h2],h'⟩
 | false=>left;rw [BT h]
theorem Kr (d:b3) (s:Bool) (t:Nat):d.sum (.nan s t)=none:=by cases d<;>rfl
theorem I6 (d:b3) (s:Bool) (t:Nat):d.product (.nan s t)=none:=by cases d<;>rfl
theorem Gc (g:Nat) (d:b3) (s:Bool) (t:Nat):d.quotient g (.nan s t)=none:=by cases d<;>rfl
theorem K2 (d:b3) (s:Bool) (t:Nat):d.order (.nan s t)=none:=by cases d<;>rfl
theorem acX (k:a6) (x y:Nat):k.format.add (canF k x) (canF k y)=k.format.add x y:=by
 unfold Ieee.Format.add
 rcases lF k x with hx | ⟨s,t,d,t',hx,a⟩
 ·rw [hx]
  rcases lF k y with b | ⟨s,t,d,t',b,c⟩
  ·rw [b]
  ·rw [b,c,Kr,Kr]
 ·rw [hx,a];rfl
theorem acM (k:a6) (x y:Nat):k.format.sub (canF k x) (canF k y)=k.format.sub x y:=by
 unfold Ieee.Format.sub
 rcases lF k x with hx | ⟨s,t,d,t',hx,a⟩
 ·rw [hx]
  rcases lF k y with b | ⟨s,t,d,t',b,c⟩
  ·rw [b]
  ·rw [b,c];simp only [Ieee.Datum.opposite];rw [Kr,Kr]
 ·rw [hx,a];rfl
theorem acU (k:a6) (x y:Nat):k.format.mul (canF k x) (canF k y)=k.format.mul x y:=by
 unfold Ieee.Format.mul
 rcases lF k x with hx | ⟨s,t,d,t',hx,a⟩
 ·rw [hx]
  rcases lF k y with b | ⟨s,t,d,t',b,c⟩
  ·rw [b]
  ·rw [b,c,I6,I6]
 ·rw [hx,a];rfl
theorem acz (k:a6) (x y:Nat):k.format.div (canF k x) (canF k y)=k.format.div x y:=by
 unfold Ieee.Format.div
 rcases lF k x with hx | ⟨s,t,d,t',hx,a⟩
 ·rw [hx]
  rcases lF k y with b | ⟨s,t,d,t',b,c⟩
  ·rw [b]
  ·rw [b,c,Gc,Gc]
 ·rw [hx,a];rfl
theorem ZP (k:a6) (x y:Nat):k.format.order (canF k x) (canF k y)=k.format.order x y:=by
 unfold Ieee.Format.order
 rcases lF k x with hx | ⟨s,t,d,t',hx,a⟩
 ·rw [hx]
  rcases lF k y with b | ⟨s,t,d,t',b,c⟩
  ·rw [b]
  ·rw [b,c,K2,K2]
 ·rw [hx,a];rfl
theorem Zt {k:a6} {n:Nat} {a:Ieee.Toward}:(k.decode (canF k n)).toInt a=(k.decode n).toInt a:=by
 unfold FloatKind.decode
 rcases lF k n with hx | ⟨s,t,c,t',hx,b⟩
 ·rw [hx]
 ·rw [hx,b];rfl
theorem Mm (k:a6) (s:Bool) {r:Nat} (h:r<=k.format.infRung):Ct k (k.format.word s r)=false:=by
 have hb:k.format.infRung < k.format.signWeight:=by cases k<;>decide
 refine decide_eq_false ?_
 unfold Ieee.Format.word
 split
 ·rw [Nat.add_mod_left,eW (by omega)];omega
 ·rw [eW (by omega)];omega
theorem ZE {k:a6} {d:b3} (h: ∀s t,d≠ .nan s t):canF k (k.format.write d)=k.format.write d:=by
 refine BT ?_
 cases d with
 | nan s t=>exact absurd rfl (h s t)
 | infinity s=>exact Mm k s (cc _)
 | number s m p=>
   show Ct k (k.format.nearest s m p)=false
   unfold Ieee.Format.nearest
   split
   ·exact Mm k s (e1 _)
   ·exact Mm k s (Nat.min_le_right _ _)
theorem Yd {a b d:b3} (h:a.sum b=some d) (s:Bool) (t:Nat):d≠ .nan s t:=by
 rintro rfl
 cases a<;>cases b<;>simp [Ieee.Datum.sum] at h
theorem UW {a b d:b3} (h:a.product b=some d) (s:Bool) (t:Nat):d≠ .nan s t:=by
 rintro rfl
 cases a<;>cases b<;>simp [Ieee.Datum.product] at h
theorem SW {g:Nat} {a b d:b3} (h:a.quotient g b=some d) (s:Bool) (t:Nat):d≠ .nan s t:=by
 rintro rfl
 cases a<;>cases b<;>simp [Ieee.Datum.quotient] at h
 split at h
 ·split at h<;>cases h
 ·cases h
theorem Ko {k:a6} {o:Option b3} (h: ∀d,o=some d-> ∀s t,d≠ .nan s t) {r:Nat} (hr:o.map k.format.write=some r):canF k r=r:=by
 cases o with
 | none=>cases hr
 | some d=>cases hr;exact ZE (h d rfl)
theorem acQ {k:a6} {x y r:Nat} (h:k.format.add x y=some r):canF k r=r:=Ko (λd a=>Yd a) h
theorem acy {k:a6} {x y r:Nat} (h:k.format.sub x y=some r):canF k r=r:=Ko (λd a=>Yd a) h
theorem adg {k:a6} {x y r:Nat} (h:k.format.mul x y=some r):canF k r=r:=Ko (λd a=>UW a) h
theorem acA {k:a6} {x y r:Nat} (h:k.format.div x y=some r):canF k r=r:=Ko (λd a=>SW a) h
theorem ado (k:a6) (n:Nat):canF k (c0 k (canF k n))=canF k (c0 k n):=by
 have key: ∀m,Ct k (c0 k m)=Ct k m:= λm=>by
  unfold Ct c0 Ieee.Format.signWeight
  rw [Nat.xor_mod_two_pow,Nat.mod_self,Nat.xor_zero]
 cases h:Ct k n with
 | true=>rw [uc h,uc (by rw [key];exact Nn k),uc (by rw [key];exact h)]
 | false=>rw [BT h]
theorem acG (k:a6) (x y t:Nat):Ct k ((Question.nanBits k x y).cut t)=true:=by
 refine decide_eq_true ?_
 have h1:=Nat.mod_two_eq_zero_or_one t
 cases k
 ·show 255*2 ^ 23 < ((t % 2)*2 ^ 31+0x7f800000+1+(t / 2) % (2 ^ 23 - 1)) % 2 ^ 31
  have h2:=Nat.mod_lt (t / 2) (show 0 < 2 ^ 23 - 1 by decide)
  generalize (t / 2) % (2 ^ 23 - 1)=c at h2 ⊢
  rcases h1 with h | h<;>rw [h]<;>omega
 ·show 2047*2 ^ 52 < ((t % 2)*2 ^ 63+0x7ff0000000000000+1+(t / 2) % (2 ^ 52 - 1)) % 2 ^ 63
  have h2:=Nat.mod_lt (t / 2) (show 0 < 2 ^ 52 - 1 by decide)
  generalize (t / 2) % (2 ^ 52 - 1)=c at h2 ⊢
  rcases h1 with h | h<;>rw [h]<;>omega
inductive RV (w:a7) (ok:Nat->Prop):IV->a5->Prop
 | bool (b:Bool):RV w ok (.bool b) (.bool b)
 | int (k:ca) (n:Int):RV w ok (.int k n) (.int k n)
 | flt (k:a6) (n:Nat):RV w ok (.flt k (canF k n)) (.float k n)
 | str (s:ByteArray):RV w ok (.str s) (.string s)
 | nilp:RV w ok .nilp (.pointer none)
 | nilf:RV w ok .nilf .nilFunc
 | nili:RV w ok .nilf .nilIface
 | ifc (t:al) (x:IV) (v:a5) (h:RV w ok x v):RV w ok (.ifc t false x) (.iface t v)
 | ifc1 (t:al) (x:IV) (v:a5) (h:RV w ok x v):RV w ok (.ifc t true x) (.iface t (.agg #[v]))
 | lst (es:List (List IV)) (a:Option fl) (cap sz:Nat) (vals:Nat->Nat->a5) (hcap:es.length<=cap) (hsz: ∀e∈es,e.length=sz)
    (hmem: ∀i j,i < es.length->j < sz-> ∃ad,a=some ad/\ok ad.block/\w.cell? (ad.add (i*sz+j))=some (vals i j))
    (hrel: ∀(i j:Nat) (e:List IV) (c:IV),es[i]? =some e->e[j]? =some c->RV w ok c (vals i j)):RV w ok (.lst es) (.slice a es.length cap)
 | ptr (cs:List IV) (j b off:Nat) (vals:Nat->a5) (hok:ok b) (hmem: ∀i,i < cs.length->w.cell? ⟨b,off+i,none⟩=some (vals i))
    (hrel: ∀(i:Nat) (c:IV),cs[i]? =some c->RV w ok c (vals i)):RV w ok (.ptr cs j) (.pointer (some ⟨b,off+j,none⟩))
 | clo (fn:Fn) (caps:List IV) (cv:Array a5) (hlen:caps.length=cv.size)
    (hrel: ∀(i:Nat) (c:IV) (v:a5),caps[i]? =some c->cv[i]? =some v->RV w ok c v):RV w ok (.clo fn caps) (.func fn #[] cv)
 | map (es:List (List IV)) (b:Nat) (me:Array e5) (clock:Nat) (hok:ok b) (hb:w.heap[b]? =some (.map me clock)) (hlen:es.length=me.size) (h2: ∀e∈es,e.length=2)
    (hrel: ∀(i j:Nat) (e:List IV) (c:IV) (x:e5),es[i]? =some e->e[j]? =some c->me[i]? =some x->RV w ok c (if j=0 then x.key else x.val)):RV w ok (.map es) (.map (some b))
structure Keeps (w:a7) (ok:Nat->Prop) (w':a7) (ok':Nat->Prop):Prop where
 block: ∀b,ok b->w'.heap[b]? =w.heap[b]?
 more: ∀b,ok b->ok' b
theorem Keeps.refl (w:a7) (ok:Nat->Prop):Keeps w ok w ok:=⟨λ_ _=>rfl,λ_ h=>h⟩
theorem Keeps.trans {w w1 w2:a7} {ok a c:Nat->Prop} (h:Keeps w ok w1 a) (k:Keeps w1 a w2 c):Keeps w ok w2 c:=
 ⟨λb hb=>(k.block b (h.more b hb)).trans (h.block b hb),λb hb=>k.more b (h.more b hb)⟩
theorem fC {w w':a7} {a:fl} (h:w'.heap[a.block]? =w.heap[a.block]?):w'.cell? a=w.cell? a:=by
 unfold World.cell?;rw [h]
theorem mZ (a:fl) (n:Nat):(a.add n).block=a.block:=by unfold Addr.add;split<;>rfl
theorem RV.keeps {w w':a7} {ok ok':Nat->Prop} (h:Keeps w ok w' ok') {x:IV} {v:a5} (r:RV w ok x v):RV w' ok' x v:=by
 induction r with
 | bool b=>exact .bool b
 | int k n=>exact .int k n
 | flt k n=>exact .flt k n
 | str s=>exact .str s
 | nilp=>exact .nilp
 | nilf=>exact .nilf
 | nili=>exact .nili
 | ifc t x v h ih=>exact .ifc t x v ih
 | ifc1 t x v h ih=>exact .ifc1 t x v ih
 | lst es a cap sz vals hcap hsz hmem hrel ih=>
   refine .lst es a cap sz vals hcap hsz (λi j hi hj=> ?_) ih
   obtain ⟨ad,e,c,hc⟩:=hmem i j hi hj
   refine ⟨ad,e,h.more _ c,?_⟩
   rw [fC (w:=w) (by rw [mZ];exact h.block _ c)];exact hc
 | ptr cs j b off vals hok hmem hrel ih=>
   refine .ptr cs j b off vals (h.more _ hok) (λi hi=> ?_) ih
   rw [fC (w:=w) (h.block _ hok)];exact hmem i hi
 | clo fn caps cv hlen hrel ih=>exact .clo fn caps cv hlen ih
 | map es b me clock hok hb hlen h2 hrel ih=>exact .map es b me clock (h.more _ hok) ((h.block _ hok).trans hb) hlen h2 ih
def Ic (w:a7) (ok:Nat->Prop) (b:Nat) (es:List (List IV)):Prop:=
 ∃(me:Array e5) (clock:Nat),w.heap[b]? =some (.map me clock)/\es.length=me.size/\(∀e∈es,e.length=2)/\
  ∀(i j:Nat) (e:List IV) (c:IV) (x:e5),es[i]? =some e->e[j]? =some c->me[i]? =some x->RV w ok c (if j=0 then x.key else x.val)
theorem Ic.rv {w:a7} {ok:Nat->Prop} {b:Nat} {es:List (List IV)} (h:Ic w ok b es) (hok:ok b):RV w ok (.map es) (.map (some b)):=by
 obtain ⟨me,clock,h1,h2,a,c⟩:=h
 exact .map es b me clock hok h1 h2 a c
theorem Ic.keeps {w w':a7} {ok ok':Nat->Prop} (h:Keeps w ok w' ok') {b:Nat} {es:List (List IV)} (r:Ic w ok b es) (hb:w'.heap[b]? =w.heap[b]?):Ic w' ok' b es:=by
 obtain ⟨me,clock,h1,h2,g,k⟩:=r
 exact ⟨me,clock,hb.trans h1,h2,g,λi j e c x a d f=>(k i j e c x a d f).keeps h⟩
structure Pl where
 loc:Option (Nat×Nat)
 len:Nat
 sz:Nat
abbrev Mu:=Nat->Option Pl
def Hdr (pl:Pl) (l n cap:Nat) (a:Option fl):Prop:=
 n<=cap/\((n=0/\cap=0)\/ ∃b base,pl.loc=some (b,base)/\a=some ⟨b,base+l*pl.sz,none⟩)
def TyH (w:a7) (pl:Pl) (T:al) (n:Nat) (v:a5):Prop:=
 (v= .slice none 0 0/\n=0/\pl.loc=none)\/ ∃b cap,pl.loc=some (b,0)/\v= .slice (some ⟨b,0,none⟩) n cap/\n<=cap/\cap<=maxLen/\ ∃(c:Array a5) (z:Nat×Nat),w.heap[b]? =some (.cells c T z)/\c.size=cap*pl.sz
def SnH (w:a7) (pl:Pl) (T:al) (n:Nat) (v:a5):Prop:=
 ∃b,pl.loc=some (b,0)/\(v= .pointer none\/v= .pointer (some ⟨b,0,none⟩))/\ ∃(c:Array a5) (z:Nat×Nat),w.heap[b]? =some (.cells c T z)/\c.size=n
inductive RP (w:a7) (ok:Nat->Prop) (mu:Mu):PV->a5->Prop
 | undef (v:a5):RP w ok mu .undef v
 | skip:RP w ok mu .skip undef
 | imm {x:IV} {v:a5} (h:RV w ok x v):RP w ok mu (.imm x) v
 | nils (a:Option fl):RP w ok mu .nils (.slice a 0 0)
 | agg (cs:List PV) (vs:Array a5) (hlen:cs.length=vs.size) (hrel: ∀(i:Nat) (p:PV) (v:a5),cs[i]? =some p->vs[i]? =some v->RP w ok mu p v):RP w ok mu (.agg cs) (.agg vs)
 | tup (cs:List PV) (vs:Array a5) (hlen:cs.length=vs.size) (hrel: ∀(i:Nat) (p:PV) (v:a5),cs[i]? =some p->vs[i]? =some v->RP w ok mu p v):RP w ok mu (.tup cs) (.tuple vs)
 | buf (o n:Nat) (a:Option fl) (cap:Nat) (pl:Pl) (hm:mu o=some pl) (hn:n=pl.len) (hh:Hdr pl 0 n cap a) (hc: ∀b base,pl.loc=some (b,base)-> ∃(c:Array a5) (T:al) (z:Nat×Nat),w.heap[b]? =some (.cells c T z)/\base+cap*pl.sz<=c.size):RP w ok mu (.buf o n) (.slice a n cap)
 | sub (o l h:Nat) (a:Option fl) (cap:Nat) (pl:Pl) (hm:mu o=some pl) (hl:l<=h) (hn:h<=pl.len) (hh:Hdr pl l (h - l) cap a) (hc: ∀b base,pl.loc=some (b,base)-> ∃(c:Array a5) (T:al) (z:Nat×Nat),w.heap[b]? =some (.cells c T z)/\base+(l+cap)*pl.sz<=c.size):RP w ok mu (.sub o l h) (.slice a (h - l) cap)
 | ptr (o j:Nat) (pl:Pl) (b base:Nat) (hm:mu o=some pl) (hl:pl.loc=some (b,base)):RP w ok mu (.ptr o j) (.pointer (some ⟨b,base+j,none⟩))
 | bptr (o i j:Nat) (pl:Pl) (b base:Nat) (hm:mu o=some pl) (hl:pl.loc=some (b,base)):RP w ok mu (.bptr o i j) (.pointer (some ⟨b,base+i*pl.sz+j,none⟩))
 | eptr (es:List (List IV)) (e:List IV) (i j b off:Nat) (vals:Nat->a5) (hok:ok b) (he:es[i]? =some e) (hmem: ∀q,q < e.length->w.cell? ⟨b,off+q,none⟩=some (vals q))
    (hrel: ∀(q:Nat) (c:IV),e[q]? =some c->RV w ok c (vals q)):RP w ok mu (.eptr (.lst es) i j) (.pointer (some ⟨b,off+j,none⟩))
 | iptr (cs:List IV) (j0 j b off:Nat) (vals:Nat->a5) (hok:ok b) (hmem: ∀q,q < cs.length->w.cell? ⟨b,off+q,none⟩=some (vals q))
    (hrel: ∀(q:Nat) (c:IV),cs[q]? =some c->RV w ok c (vals q)):RP w ok mu (.iptr (.ptr cs j0) j) (.pointer (some ⟨b,off+(j0+j),none⟩))
 | mp (o:Nat) (pl:Pl) (b:Nat) (hm:mu o=some pl) (hl:pl.loc=some (b,0)) (hz:pl.sz=0):RP w ok mu (.mp o) (.map (some b))
 | clo (fn:Fn) (caps:List PV) (cv:Array a5) (hlen:caps.length=cv.size)
    (hrel: ∀(i:Nat) (c:PV) (v:a5),caps[i]? =some c->cv[i]? =some v->RP w ok mu c v):RP w ok mu (.clo fn caps) (.func fn #[] cv)
 | sn (T:al) (n o:Nat) (pl:Pl) (v:a5) (hm:mu o=some pl) (hv:SnH w pl T n v):RP w ok mu (.sn T n o) v
 | tnil:RP w ok mu .tnil (.slice none 0 0)
 | tbuf (T:al) (o n:Nat) (pl:Pl) (v:a5) (hm:mu o=some pl) (hn:n=pl.len) (hv:TyH w pl T n v):RP w ok mu (.tbuf T o n) v
def Sizes (w w':a7):Prop:= ∀(b:Nat) (c:Array a5) (T:al) (z:Nat×Nat),w.heap[b]? =some (.cells c T z)-> ∃(c':Array a5) (a:Nat×Nat),w'.heap[b]? =some (.cells c' T a)/\c'.size=c.size
theorem Sizes.refl (w:a7):Sizes w w:= λ_ c _ z h=>⟨c,z,h,rfl⟩
theorem Sizes.trans {a b c:a7} (h:Sizes a b) (k:Sizes b c):Sizes a c:= λx u T z hx=>by
 obtain ⟨u',f,h1,h2⟩:=h x u T z hx
 obtain ⟨u2,g,d,e⟩:=k x u' T f h1
 exact ⟨u2,g,d,e.trans h2⟩
structure Later (w:a7) (ok:Nat->Prop) (mu:Mu) (w':a7) (ok':Nat->Prop) (mu':Mu):Prop where
 keeps:Keeps w ok w' ok'
 mu: ∀o pl,mu o=some pl->mu' o=some pl
 sizes:Sizes w w'
theorem Later.refl (w:a7) (ok:Nat->Prop) (mu:Mu):Later w ok mu w ok mu:=⟨.refl _ _,λ_ _ h=>h,.refl _⟩
theorem Later.trans {w w1 w2:a7} {ok c d:Nat->Prop} {mu a b:Mu} (h:Later w ok mu w1 c a) (k:Later w1 c a w2 d b):Later w ok mu w2 d b:=
 ⟨h.keeps.trans k.keeps,λo pl e=>k.mu o pl (h.mu o pl e),h.sizes.trans k.sizes⟩
theorem TyH.sizes {w w':a7} (h:Sizes w w') {pl:Pl} {T:al} {n:Nat} {v:a5} (r:TyH w pl T n v):TyH w' pl T n v:=by
 rcases r with r | ⟨b,cap,h1,h2,a,d,c,z,e,f⟩
 ·exact .inl r
 ·obtain ⟨c',j,g,i⟩:=h b c T z e
  exact .inr ⟨b,cap,h1,h2,a,d,c',j,g,i.trans f⟩
theorem SnH.sizes {w w':a7} (h:Sizes w w') {pl:Pl} {T:al} {n:Nat} {v:a5} (r:SnH w pl T n v):SnH w' pl T n v:=by
 obtain ⟨b,h1,h2,c,z,a,d⟩:=r
 obtain ⟨c',g,e,f⟩:=h b c T z a
 exact ⟨b,h1,h2,c',g,e,f.trans d⟩
theorem RP.later {w w':a7} {ok ok':Nat->Prop} {mu mu':Mu} (h:Later w ok mu w' ok' mu') {p:PV} {v:a5} (r:RP w ok mu p v):RP w' ok' mu' p v:=by
 induction r with
 | undef v=>exact .undef v
 | skip=>exact .skip
 | imm r=>exact .imm (r.keeps h.keeps)
 | nils a=>exact .nils a
 | agg cs vs hlen hrel ih=>exact .agg cs vs hlen ih
 | tup cs vs hlen hrel ih=>exact .tup cs vs hlen ih
 | buf o n a cap pl hm hn hh hc=>
   refine .buf o n a cap pl (h.mu _ _ hm) hn hh λb base hl=> ?_
   obtain ⟨c,T,z,h1,h2⟩:=hc b base hl
   obtain ⟨c',g,d,k⟩:=h.sizes b c T z h1
   exact ⟨c',T,g,d,by omega⟩
 | sub o l u a cap pl hm hl hn hh hc=>
   refine .sub o l u a cap pl (h.mu _ _ hm) hl hn hh λb base hl=> ?_
   obtain ⟨c,T,z,h1,h2⟩:=hc b base hl
   obtain ⟨c',g,d,k⟩:=h.sizes b c T z h1
   exact ⟨c',T,g,d,by omega⟩
 | ptr o j pl b base hm hl=>exact .ptr o j pl b base (h.mu _ _ hm) hl
 | bptr o i j pl b base hm hl=>exact .bptr o i j pl b base (h.mu _ _ hm) hl
 | eptr es e i j b off vals hok he hmem hrel=>
   exact .eptr es e i j b off vals (h.keeps.more _ hok) he (λq f=>(fC (w:=w) (h.keeps.block _ hok)).trans (hmem q f)) λq c hc=>(hrel q c hc).keeps h.keeps
 | iptr cs j0 j b off vals hok hmem hrel=>
   exact .iptr cs j0 j b off vals (h.keeps.more _ hok) (λq f=>(fC (w:=w) (h.keeps.block _ hok)).trans (hmem q f)) λq c hc=>(hrel q c hc).keeps h.keeps
 | mp o pl b hm hl hz=>exact .mp o pl b (h.mu _ _ hm) hl hz
 | clo fn caps cv hlen hrel ih=>exact .clo fn caps cv hlen ih
 | sn T n o pl v hm hv=>exact .sn T n o pl v (h.mu _ _ hm) (hv.sizes h.sizes)
 | tnil=>exact .tnil
 | tbuf T o n pl v hm hn hv=>exact .tbuf T o n pl v (h.mu _ _ hm) hn (hv.sizes h.sizes)
def zc (w:a7) (ok:Nat->Prop) (pl:Pl) (sz:Nat) (x:IV):Prop:=
 pl.sz=sz/\ ∃es,x= .lst es/\es.length=pl.len/\(∀e∈es,e.length=sz)/\(pl.loc=none->es=[])/\
     ∀b base,pl.loc=some (b,base)-> ∃(c:Array a5) (T:al),w.heap[b]? =some (.cells c T (0,0))/\base+es.length*sz<=c.size/\ ∀(i j:Nat) (e:List IV) (x:IV),es[i]? =some e->e[j]? =some x-> ∃v:a5,c[base+i*sz+j]? =some v/\RV w ok x v
def ObOk (w:a7) (ok:Nat->Prop) (mu:Mu) (pl:Pl):Ob->Prop
 | .dead=>True
 | .box m cs=> ∃(b base:Nat) (c:Array a5) (T:al),pl.loc=some (b,base)/\w.heap[b]? =some (.cells c T (0,0))/\base+cs.length<=c.size/\(∀(j:Nat) (p:PV),cs[j]? =some p-> ∃v:a5,c[base+j]? =some v/\RP w ok mu p v)
 | .arr m sz x=>(0 < sz/\zc w ok pl sz x)\/(pl.sz=sz/\ ∃es b,x= .map es/\pl.loc=some (b,0)/\Ic w ok b es)
theorem ObOk.sz {w:a7} {ok:Nat->Prop} {mu:Mu} {pl:Pl} {m:Md} {sz:Nat} {x:IV} (h:ObOk w ok mu pl (.arr m sz x)):pl.sz=sz:=by
 rcases h with h | h
 ·exact h.2.1
 ·exact h.1
theorem ObOk.arrN {w:a7} {ok:Nat->Prop} {mu:Mu} {pl:Pl} {m:Md} {sz:Nat} {x:IV} (h:ObOk w ok mu pl (.arr m sz x)) (hx: ∀es,x≠ .map es):zc w ok pl sz x:=by
 rcases h with h | ⟨_,es,b,h1,_⟩
 ·exact h.2
 ·exact absurd h1 (hx es)
theorem ObOk.arrC {w:a7} {ok:Nat->Prop} {mu:Mu} {pl:Pl} {m:Md} {sz:Nat} {x:IV} (h:ObOk w ok mu pl (.arr m sz x)) {p:Nat->Nat->Array a5->Prop} (hc: ∀b base,pl.loc=some (b,base)-> ∃(c:Array a5) (T:al) (z:Nat×Nat),w.heap[b]? =some (.cells c T z)/\p b base c):zc w ok pl sz x:=by
 rcases h with h | ⟨_,es,b,h1,h2,me,clock,d,_⟩
 ·exact h.2
 ·obtain ⟨c,T,z,a,_⟩:=hc b 0 h2
  rw [d] at a;cases a
theorem ObOk.pos {w:a7} {ok:Nat->Prop} {mu:Mu} {pl:Pl} {m:Md} {sz:Nat} {x:IV} (h:ObOk w ok mu pl (.arr m sz x)) (hx: ∀es,x≠ .map es):0 < sz:=by
 rcases h with h | ⟨_,es,b,h1,_⟩
 ·exact h.1
 ·exact absurd h1 (hx es)
theorem ObOk.posC {w:a7} {ok:Nat->Prop} {mu:Mu} {pl:Pl} {m:Md} {sz:Nat} {x:IV} (h:ObOk w ok mu pl (.arr m sz x)) {p:Nat->Nat->Array a5->Prop} (hc: ∀b base,pl.loc=some (b,base)-> ∃(c:Array a5) (T:al) (z:Nat×Nat),w.heap[b]? =some (.cells c T z)/\p b base c):0 < sz:=by
 rcases h with h | ⟨_,es,b,h1,h2,me,clock,d,_⟩
 ·exact h.1
 ·obtain ⟨c,T,z,a,_⟩:=hc b 0 h2
  rw [d] at a;cases a
theorem ObOk.mapZ {w:a7} {ok:Nat->Prop} {mu:Mu} {pl:Pl} {m:Md} {sz:Nat} {x:IV} (h:ObOk w ok mu pl (.arr m sz x)) (hz:pl.sz=0) {b base:Nat} (hl:pl.loc=some (b,base)):sz=0/\ ∃es,x= .map es/\Ic w ok b es:=by
 have hsz:=h.sz
 refine ⟨by omega,?_⟩
 rcases h with h | ⟨h0,es,b',h1,h2,a⟩
 ·have:=h.1;omega
 ·rw [hl] at h2;cases h2
  exact ⟨es,h1,a⟩
def Ob.live:Ob->Bool
 | .dead=>false
 | _=>true
def Ob.fz:Ob->Bool
 | .box .fz _ | .arr .fz _ _=>true
 | _=>false
structure O0 where
 ok:Nat->Prop
 lent:Nat->Prop
def Own0 (w0:a7) (ok0:O0) (b:Nat):Prop:=w0.heap.size<=b\/ok0.lent b
structure BelowM (m:Nat->Prop) (B:Nat) (w w':a7):Prop where
 os:w'.os=w.os
 tape:w'.tape=w.tape
 output:w'.output=w.output
 size:w.heap.size<=w'.heap.size
 block: ∀k,k < B-> ¬m k->w'.heap[k]? =w.heap[k]?
theorem BelowM.refl (m:Nat->Prop) (B:Nat) (w:a7):BelowM m B w w:=⟨rfl,rfl,rfl,cc _,λ_ _ _=>rfl⟩
theorem BelowM.trans {m:Nat->Prop} {B:Nat} {a b c:a7} (h:BelowM m B a b) (k:Below B b c):BelowM m B a c:=
 ⟨k.os.trans h.os,k.tape.trans h.tape,k.output.trans h.output,Nat.le_trans h.size k.size,λi hi hm=>(k.block i hi).trans (h.block i hi hm)⟩
theorem BelowM.below {m:Nat->Prop} {B:Nat} {a b:a7} (h:BelowM m B a b) (hm: ∀k,¬m k):Below B a b:=⟨h.os,h.tape,h.output,h.size,λk hk=>h.block k hk (hm k)⟩
theorem Own0.ne {w0:a7} {ok0:O0} {b k:Nat} (h:Own0 w0 ok0 b) (hk:k < w0.heap.size) (hm: ¬ok0.lent k):k≠b:= λe=>by
 subst e
 rcases h with h | h
 ·omega
 ·exact hm h
structure Inv (w0:a7) (ok0:O0) (w:a7) (ok:Nat->Prop) (mu:Mu) (h:List Ob):Prop where
 below:BelowM ok0.lent w0.heap.size w0 w
 okw: ∀b,ok b->b < w.heap.size
 okb: ∀b,ok b->ok0.ok b\/Own0 w0 ok0 b
 ob: ∀o pl,mu o=some pl->ObOk w ok mu pl (getOb h o)
 own: ∀o pl b base,mu o=some pl->pl.loc=some (b,base)->Own0 w0 ok0 b/\b < w.heap.size/\((getOb h o).live=true->(getOb h o).fz=false-> ¬ok b)
 inj: ∀o o' pl pl' b base base',mu o=some pl->mu o'=some pl'->pl.loc=some (b,base)->pl'.loc=some (b,base')->(getOb h o).live=true->(getOb h o').live=true->o=o'
structure Fr (w:a7) (ok:Nat->Prop) (mu:Mu) (fr:List PV) (tmps:Array a5):Prop where
 size:fr.length=tmps.size
 rel: ∀(t:Nat) (p:PV) (v:a5),fr[t]? =some p->tmps[t]? =some v->RP w ok mu p v
theorem Fr.later {w w':a7} {ok ok':Nat->Prop} {mu mu':Mu} {fr:List PV} {tmps:Array a5} (h:Later w ok mu w' ok' mu') (r:Fr w ok mu fr tmps):Fr w' ok' mu' fr tmps:=
 ⟨r.size,λt p v h1 h2=>(r.rel t p v h1 h2).later h⟩
theorem Fr.set {w:a7} {ok:Nat->Prop} {mu:Mu} {fr:List PV} {tmps:Array a5} (r:Fr w ok mu fr tmps) (t:Nat) {p:PV} {v:a5} (h:RP w ok mu p v):Fr w ok mu (fr.set t p) (tmps.setIfInBounds t v):=by
 refine ⟨by simp [r.size],λu q x h1 h2=> ?_⟩
 by_cases e:t=u
 ·subst e
  rw [ek] at h1
  rw [Array.getElem?_setIfInBounds] at h2
  simp only [if_true] at h1 h2
  split at h1
  ·split at h2
   ·cases h1;cases h2;exact h
   ·cases h2
  ·cases h1
 ·rw [c4 e] at h1
  rw [Array.getElem?_setIfInBounds_ne e] at h2
  exact r.rel u q x h1 h2
theorem Fr.forget1 {w:a7} {ok:Nat->Prop} {mu:Mu} {fr:List PV} {tmps:Array a5} (r:Fr w ok mu fr tmps) (t:Nat):Fr w ok mu (fr.set t .undef) tmps:=by
 refine ⟨by simp [r.size],λu q x h1 h2=> ?_⟩
 by_cases e:t=u
 ·subst e
  rw [ek] at h1
  simp only [if_true] at h1
  split at h1
  ·cases h1;exact .undef x
  ·cases h1
 ·rw [c4 e] at h1
  exact r.rel u q x h1 h2
theorem Fr.forget {w:a7} {ok:Nat->Prop} {mu:Mu} {tmps:Array a5} (l:List Nat): ∀{fr:List PV},Fr w ok mu fr tmps->Fr w ok mu (AM.forget fr l) tmps:=by
 induction l with
 | nil=>exact λr=>r
 | cons t l ih=>exact λr=>ih (r.forget1 t)
theorem RP.mB (w:a7) (ok:Nat->Prop) (mu:Mu) (v:a5):RP w ok mu (AM.mB v) v:=by
 unfold AM.mB
 split<;>first | exact .imm (.bool _) | exact .imm (.int _ _) | exact .imm (.flt _ _) | exact .imm (.str _) | exact .imm .nilp | exact .imm .nilf | exact .nils _ | exact .undef _
theorem RP.lk (w:a7) (ok:Nat->Prop) (mu:Mu) (v:a5):RP w ok mu (AM.lk v) v:=by
 unfold AM.lk
 split
 ·rename_i cs
  refine .agg _ _ (by simp) λi p v h1 h2=> ?_
  rw [cO] at h1
  rw [<-b6] at h2
  rw [h2] at h1
  cases h1
  exact .mB w ok mu v
 ·exact .mB w ok mu v
theorem Fr.ev {w:a7} {ok:Nat->Prop} {mu:Mu} {fr:List PV} {a:Act} (r:Fr w ok mu fr a.tmps) (x:a2):RP w ok mu (AM.ev fr x) (a.eval x):=by
 cases x with
 | tmp t=>
   show RP w ok mu (fr.getD t .undef) (a.tmps.getD t Go.undef)
   by_cases h:t < fr.length
   ·have h':t < a.tmps.size:=by rw [<-r.size];exact h
    have h1:fr[t]? =some fr[t]:=a1 h
    have h2:a.tmps[t]? =some a.tmps[t]:=a8 h'
    simp only [br,h1,Option.getD_some,cd,h2]
    exact r.rel t _ _ h1 h2
   ·have h1:fr[t]? =none:=List.getElem?_eq_none (Nat.le_of_not_lt h)
    simp only [br,h1,Option.getD_none]
    exact .undef _
 | const v=>exact .lk w ok mu v
 | global g=>exact .undef _
 | func f=>exact .imm (.clo _ _ _ rfl (λi c v h _=>by simp at h))
end Go.AM
namespace Go.AM
open Go.RowKit
def ix (P:cb) (o:eg) (a:Act) (w:a7) (R:a5->a7->Prop):Prop:=
 ∀(next:Act->a7->Prop) (Q:Exit->Act->a7->Prop),(∀v w',R v w'->next (a.put o.dst v) w')->o.wp P a w next Q
section
variable {P:cb} {o:eg} {a:Act} {w:a7} {R:a5->a7->Prop}
theorem ix.value {v:a5} {w':a7} (h:(execOp a.eval o).run P w= .ok (.value v) w') (b:R v w'):ix P o a w R:= λnext Q hn=>by
 unfold Oper.wp;rw [h];exact hn v w' b
theorem ix.skip {w':a7} (h:(execOp a.eval o).run P w= .ok .skip w') (b:R undef w'):ix P o a w R:= λnext Q hn=>by
 unfold Oper.wp;rw [h];exact hn undef w' b
theorem ix.enter {f:c1} {args:Array a5} {w1:a7} (h:(execOp a.eval o).run P w= .ok (.enter f args) w1) (hc:Calls P f args w1 λe w'=> ∃v,e= .returned v/\R v w'):ix P o a w R:= λnext Q hn=>by
 unfold Oper.wp;rw [h]
 refine Calls.mono hc λe w' he=> ?_
 obtain ⟨v,rfl,b⟩:=he
 exact hn v w' b
theorem ix.mono {b:a5->a7->Prop} (h:ix P o a w R) (hr: ∀v w',R v w'->b v w'):ix P o a w b:= λnext Q hn=>h next Q λv w' c=>hn v w' (hr v w' c)
end
theorem gx {P:cb} {w w':a7} {s:Sem a5} {v:a5} (h:s.run P w= .ok v w'):(do pure (bb (<-s)):Sem Next).run P w= .ok (.value v) w':=by
 simp [aB,h,ao]
theorem MC {P:cb} {w w':a7} {s:Sem Unit} (h:s.run P w= .ok () w'):(do s;pure Next.skip:Sem Next).run P w= .ok .skip w':=by
 simp [aB,h,ao]
theorem gp {α β:Type} {f:α->Option β}: ∀{cs:List α} {l:List β},cs.mapM f=some l->l.length=cs.length/\ ∀(i:Nat) (c:α),cs[i]? =some c-> ∃x:β,l[i]? =some x/\f c=some x
 | [],l,h=>by simp at h;subst h;simp
 | c::cs,l,h=>by
   simp only [e4] at h
   cases h1:f c with
   | none=>simp [h1] at h
   | some x=>
     cases h2:cs.mapM f with
     | none=>simp [h1,h2] at h
     | some xs=>
       simp [h1,h2] at h
       subst h
       obtain ⟨hl,b⟩:=gp h2
       refine ⟨by simp [hl],λi d a=> ?_⟩
       cases i with
       | zero=>simp at a;subst a;exact ⟨x,by simp,h1⟩
       | succ i=>simpa using b i d (by simpa using a)
structure InvQ (w:a7) (ok:Nat->Prop) (mu:Mu) (h:List Ob):Prop where
 okw: ∀b,ok b->b < w.heap.size
 ob: ∀o pl,mu o=some pl->ObOk w ok mu pl (getOb h o)
 loc: ∀o pl b base,mu o=some pl->pl.loc=some (b,base)->b < w.heap.size
theorem Inv.q {w0:a7} {ok0:O0} {w:a7} {ok:Nat->Prop} {mu:Mu} {h:List Ob} (i:Inv w0 ok0 w ok mu h):InvQ w ok mu h:=
 ⟨i.okw,i.ob,λo pl b base h1 h2=>(i.own o pl b base h1 h2).2.1⟩
def Blk (mu:Mu) (l:List Nat) (b:Nat):Prop:= ∃o∈l,∃pl base,mu o=some pl/\pl.loc=some (b,base)
def jG (ok:Nat->Prop) (mu:Mu) (l:List Nat):Nat->Prop:= λb=>ok b\/Blk mu l b
theorem jG.sub {ok:Nat->Prop} {mu:Mu} {l a:List Nat} (hs: ∀o∈l,o∈a) {b:Nat} (h:jG ok mu l b):jG ok mu a b:=by
 rcases h with h | ⟨o,c,r⟩
 ·exact .inl h
 ·exact .inr ⟨o,hs o c,r⟩
theorem RV.more {w:a7} {ok ok':Nat->Prop} (h: ∀b,ok b->ok' b) {x:IV} {v:a5} (r:RV w ok x v):RV w ok' x v:=r.keeps ⟨λ_ _=>rfl,h⟩
theorem RV.scalar {w w':a7} {ok ok':Nat->Prop} {x:IV} {v:a5} (r:RV w ok x v) (hs:x.scalar=true):RV w' ok' x v:=by
 cases r<;>first | exact .bool _ | exact .int _ _ | exact .flt _ _ | exact .str _ | exact .nilp | exact .nilf | exact .nili | (simp [IV.scalar] at hs)
theorem iY {w:a7} {b:Nat} {c:Array a5} {T:al} {fr:Nat×Nat} (h:w.heap[b]? =some (.cells c T fr)) (i:Nat):w.cell? ⟨b,i,none⟩=c[i]? :=by
 unfold World.cell?;simp [h]
theorem dI (b o n:Nat):(⟨b,o,none⟩:fl).add n=⟨b,o+n,none⟩:=by unfold Addr.add;split<;>simp_all
theorem RV.atomic {w:a7} {ok:Nat->Prop} {x:IV} {v:a5} (r:RV w ok x v):v.oneCell'=true:=by cases r<;>rfl
theorem RP.atomic {w:a7} {ok:Nat->Prop} {mu:Mu} {p:PV} {v:a5} (r:RP w ok mu p v) (h:p.atom=true):v.oneCell'=true:=by
 cases r with
 | imm r=>exact r.atomic
 | undef | skip | agg | tup | sn | tbuf | tnil=>simp [PV.atom] at h
 | _=>rfl
section
variable {w:a7} {ok:Nat->Prop} {mu:Mu} {h:List Ob}
theorem abB {pl:Pl} {es:List (List IV)} {sz:Nat} (hsz:pl.sz=sz) (he: ∀e∈es,e.length=sz) {o:Nat} (hm:mu o=some pl) (k:pl.loc=none->es=[])
  (hc: ∀b base,pl.loc=some (b,base)-> ∃(c:Array a5) (T:al),w.heap[b]? =some (.cells c T (0,0))/\base+es.length*sz<=c.size/\ ∀(i j:Nat) (e:List IV) (x:IV),es[i]? =some e->e[j]? =some x-> ∃v:a5,c[base+i*sz+j]? =some v/\RV w ok x v)
  {a:Option fl} {l u cap:Nat} (hl:l<=u) (hu:u<=es.length) (hh:Hdr pl l (u - l) cap a):RV w (jG ok mu [o]) (.lst ((es.drop l).take (u - l))) (.slice a (u - l) cap):=by
 have hlen:((es.drop l).take (u - l)).length=u - l:=by simp;omega
 have key:RV w (jG ok mu [o]) (.lst ((es.drop l).take (u - l))) (.slice a ((es.drop l).take (u - l)).length cap):=by
  rcases hh.2 with ⟨h0,h1⟩ | ⟨b,base,hb,n⟩
  ·have d:(es.drop l).take (u - l)=[]:=by rw [h0];simp
   rw [d]
   exact .lst [] a cap sz (λ_ _=>undef) (by simp) (by simp) (λi j hi=>by simp at hi) (λi j e c h=>by simp at h)
  ·obtain ⟨c,T,hw,hs,hr⟩:=hc b base hb
   refine .lst _ a cap sz (λi j=>(c[base+(l+i)*sz+j]?).getD undef) (by rw [hlen];exact hh.1) (λe hm=>he e (c5 (c6 hm))) (λi j hi hj=> ?_) (λi j e x h1 h2=> ?_)
   ·rw [hlen] at hi
    refine ⟨_,n,.inr ⟨o,by simp,pl,base,hm,hb⟩,?_⟩
    rw [dI,iY hw,hsz]
    have:base+l*sz+(i*sz+j)=base+(l+i)*sz+j:=by rw [c7];omega
    rw [this]
    have g:base+(l+i)*sz+j < c.size:=by
     have:(l+i)*sz+j < es.length*sz:=by
      calc (l+i)*sz+j < (l+i)*sz+sz:=by omega
       _=(l+i+1)*sz:=by rw [eP]
       _<=es.length*sz:=b0 _ (by omega)
     omega
    simp [g]
   ·have hi:i < u - l:=by
     have:=(ab.1 h1).1;rw [hlen] at this;exact this
    have f:es[l+i]? =some e:=by
     rw [bd hi,bm] at h1;exact h1
    obtain ⟨v,hv,m⟩:=hr (l+i) j e x f h2
    rw [hv]
    exact m.more λb hb=> .inl hb
 rwa [hlen] at key
theorem F8 (es:List (List IV)) (l u:Nat):Ej (.lst es) l u= .lst ((es.drop l).take (u - l)):=rfl
theorem qZ (F:InvQ w ok mu h): ∀(n:Nat) (p:PV) (x:IV) (v:a5),qn h n p=some x->RP w ok mu p v->RV w (jG ok mu (refs h n p)) x v:=by
 intro n
 induction n with
 | zero=>intro p x v hx;simp [qn] at hx
 | succ n ih=>
   intro p x v hx r
   cases p with
   | imm y=>simp only [qn,bC] at hx;subst hx;cases r with | imm r=>exact r.more λb hb=> .inl hb
   | nils=>
     simp only [qn,bC] at hx;subst hx
     cases r
     exact .lst [] _ 0 0 (λ_ _=>undef) (by simp) (by simp) (λi j hi=>by simp at hi) (λi j e c h=>by simp at h)
   | buf o m=>
     simp only [qn] at hx
     cases r with
     | buf o m a cap pl hm hn hh hc=>
       have d:=F.ob o pl hm
       split at hx
       ·rename_i md sz y s
        cases hx
        rw [s] at d
        obtain ⟨hsz,es,rfl,hlen,he,k,f⟩:=d.arrC hc
        have:=abB (ok:=ok) (mu:=mu) hsz he hm k f (l:=0) (u:=es.length) (e1 _) (cc _) (a:=a) (cap:=cap) (by simpa [hn,hlen] using hh)
        have z:(es.drop 0).take (es.length - 0)=es:=by simp
        rw [z] at this
        simpa [refs,hn,hlen] using this
       ·cases hx
   | sub o l u=>
     simp only [qn] at hx
     cases r with
     | sub o l u a cap pl hm hl hn hh hc=>
       have d:=F.ob o pl hm
       split at hx
       ·rename_i md sz y s
        cases hx
        rw [s] at d
        obtain ⟨hsz,es,rfl,hlen,he,k,f⟩:=d.arrC hc
        have:=abB (ok:=ok) (mu:=mu) hsz he hm k f hl (u:=u) (by omega) hh
        simpa [refs,F8] using this
       ·cases hx
   | ptr o j=>
     simp only [qn] at hx
     cases r with
     | ptr o j pl b base hm hl=>
       have d:=F.ob o pl hm
       split at hx
       ·rename_i md cs s
        cases g:cs.mapM (qn h n) with
        | none=>rw [g] at hx;simp at hx
        | some l=>
          rw [g] at hx
          simp only [e2,bC] at hx
          subst hx
          rw [s] at d
          obtain ⟨b',base',c,T,C,hw,hs,hr⟩:=d
          rw [hl] at C
          cases C
          obtain ⟨hlen,q⟩:=gp g
          refine .ptr l j b base (λi=>(c[base+i]?).getD undef) (.inr ⟨o,by simp [refs],pl,base,hm,hl⟩) (λi hi=> ?_) λi y A=> ?_
          ·rw [iY hw]
           have:base+i < c.size:=by omega
           simp [this]
          ·have hi:i < cs.length:=by rw [<-hlen];exact (ab.1 A).1
           obtain ⟨H,h1,h2⟩:=q i cs[i] (a1 hi)
           rw [h1] at A
           cases A
           obtain ⟨v,hv,G⟩:=hr i cs[i] (a1 hi)
           rw [hv]
           refine (ih _ _ _ h2 G).more λb hb=>jG.sub (λo' t=> ?_) hb
           simp only [refs,s,List.mem_cons,eZ]
           exact .inr ⟨cs[i],b7 hi,t⟩
       ·cases hx
   | mp o=>
     simp only [qn] at hx
     cases r with
     | mp o pl b hm hl hz=>
       have d:=F.ob o pl hm
       split at hx
       ·rename_i md sz y s
        cases hx
        rw [s] at d
        obtain ⟨_,es,rfl,E⟩:=d.mapZ hz hl
        refine (E.keeps ⟨λ_ _=>rfl,λb hb=> .inl hb⟩ rfl).rv (.inr ⟨o,by simp [refs],pl,0,hm,hl⟩)
       ·cases hx
   | sn T n o=>simp [qn] at hx
   | tbuf T o n=>simp [qn] at hx
   | tnil=>simp [qn] at hx
   | clo fn caps=>
     simp only [qn] at hx
     cases r with
     | clo fn caps cv hlen hrel=>
       cases g:caps.mapM (qn h n) with
       | none=>rw [g] at hx;simp at hx
       | some l=>
         rw [g] at hx
         simp only [e2,bC] at hx
         subst hx
         obtain ⟨D,q⟩:=gp g
         refine .clo fn l cv (by rw [D,hlen]) λi y v A hv=> ?_
         have hi:i < caps.length:=by rw [<-D];exact (ab.1 A).1
         obtain ⟨H,h1,h2⟩:=q i caps[i] (a1 hi)
         rw [h1] at A
         cases A
         refine (ih _ _ _ h2 (hrel i _ v (a1 hi) hv)).more λb hb=>jG.sub (λo' t=> ?_) hb
         simp only [refs,eZ]
         exact ⟨caps[i],b7 hi,t⟩
   | undef | skip | agg _ | tup _ | bptr _ _ _ | eptr _ _ _ | iptr _ _=>simp [qn] at hx
end
end Go.AM
namespace Go.AM
open Go.RowKit
structure Grow (w:a7) (ok:Nat->Prop) (mu:Mu) (n:Nat) (news:List Ob) (fz:List Nat) (p:PV) (v:a5) (w':a7) (ok':Nat->Prop) (mu':Mu):Prop where
 below:Below w.heap.size w w'
 more: ∀b,ok b->ok' b
 new: ∀b,ok' b->ok b\/(w.heap.size<=b/\b < w'.heap.size)\/Blk mu fz b
 same: ∀o,o≠n->mu' o=mu o
 obs:(news=[]/\mu' n=mu n)\/ ∃ob pl,news=[ob]/\mu' n=some pl/\ob.live=true/\ObOk w' ok' mu' pl ob/\ ∀b base,pl.loc=some (b,base)->w.heap.size<=b/\b < w'.heap.size/\ ¬ok' b
 rp:RP w' ok' mu' p v
def aI (P:cb) (o:eg) (a:Act) (w:a7) (ok:Nat->Prop) (mu:Mu) (h:List Ob) (p:PV) (h':List Ob):Prop:=
 ∃news fz h1,wh h fz=some h1/\h'=h1++news/\ix P o a w λv w'=> ∃ok' mu',Grow w ok mu h.length news fz p v w' ok' mu'
theorem Grow.refl {w:a7} {ok:Nat->Prop} {mu:Mu} {n:Nat} {p:PV} {v:a5} (r:RP w ok mu p v):Grow w ok mu n [] [] p v w ok mu:=
 ⟨.refl _ _,λ_ h=>h,λ_ h=> .inl h,λ_ _=>rfl,.inl ⟨rfl,rfl⟩,r⟩
theorem Grow.later {w:a7} {ok:Nat->Prop} {mu:Mu} {n:Nat} {news:List Ob} {fz:List Nat} {p:PV} {v:a5} {w':a7} {ok':Nat->Prop} {mu':Mu} (g:Grow w ok mu n news fz p v w' ok' mu') (hok: ∀b,ok b->b < w.heap.size) (hn:mu n=none):Later w ok mu w' ok' mu':=by
 refine ⟨⟨λb hb=>g.below.block b (hok b hb),g.more⟩,λo pl e=> ?_,λb c T z hb=>⟨c,z,?_,rfl⟩⟩
 ·by_cases a:o=n
  ·subst a;rw [hn] at e;cases e
  ·rw [g.same o a];exact e
 ·rw [g.below.block b (ck.1 hb).1];exact hb
section
variable {P:cb} {o:eg} {a:Act} {w:a7} {ok:Nat->Prop} {mu:Mu} {h:List Ob}
theorem aI.value {p:PV} {v:a5} (b:(execOp a.eval o).run P w= .ok (.value v) w) (r:RP w ok mu p v):aI P o a w ok mu h p h:=
 ⟨[],[],h,rfl,by simp,ix.value b ⟨ok,mu,Grow.refl r⟩⟩
theorem aI.val {p:PV} {v:a5} {s:Sem a5} (he:execOp a.eval o=(do pure (bb (<-s)))) (b:s.run P w= .ok v w) (r:RP w ok mu p v):aI P o a w ok mu h p h:=
 aI.value (by rw [he];exact gx b) r
theorem Grow.fresh {cells:Array a5} {T:al} {ob:Ob} {pl:Pl} {p:PV} {v:a5} (c:pl.loc=some (w.heap.size,0)) (a:ob.live=true) (d: ∀b,ok b->b < w.heap.size)
  (e:ObOk (w.alloc (.cells cells T)) ok (λo=>if o=h.length then some pl else mu o) pl ob) (hn:mu h.length=none)
  (hr:RP (w.alloc (.cells cells T)) ok (λo=>if o=h.length then some pl else mu o) p v):
  Grow w ok mu h.length [ob] [] p v (w.alloc (.cells cells T)) ok (λo=>if o=h.length then some pl else mu o):=by
 refine ⟨(Below.refl _ _).alloc (cc _) _,λ_ hb=>hb,λ_ hb=> .inl hb,λo f=>by simp [f],.inr ⟨ob,pl,rfl,by simp,a,e,λb base hb=> ?_⟩,hr⟩
 rw [c] at hb
 cases hb
 exact ⟨cc _,by show w.heap.size < (w.heap.push _).size;simp,λhb=>by have:=d _ hb;omega⟩
theorem gq (w:a7) (ob:Obj):(w.alloc ob).heap[w.heap.size]? =some ob:=by show (w.heap.push ob)[w.heap.size]? =some ob;simp
theorem H8 (ob:Obj) (hok: ∀b,ok b->b < w.heap.size) {n:Nat} {pl:Pl} (hn:mu n=none):Later w ok mu (w.alloc ob) ok (λo=>if o=n then some pl else mu o):=by
 refine ⟨⟨λb hb=>Below.heap_alloc w ob b (hok b hb),λ_ hb=>hb⟩,λo q e=> ?_,λb c T z hb=>⟨c,z,?_,rfl⟩⟩
 ·by_cases a:o=n
  ·subst a;rw [hn] at e;cases e
  ·simp [a,e]
 ·rw [Below.heap_alloc w ob b (ck.1 hb).1];exact hb
theorem RP.cellsRel {p:PV} {v:a5} (r:RP w ok mu p v) (hw:p.whole=true):v.cells.size=p.cells.length/\ ∀(j:Nat) (q:PV),p.cells[j]? =some q-> ∃u:a5,v.cells[j]? =some u/\RP w ok mu q u:=by
 have single:p.cells=[p]->v.cells= #[v]->v.cells.size=p.cells.length/\ ∀(j:Nat) (q:PV),p.cells[j]? =some q-> ∃u:a5,v.cells[j]? =some u/\RP w ok mu q u:=by
  intro b c
  rw [b,c]
  refine ⟨rfl,λj q hj=> ?_⟩
  cases j with
  | zero=>simp at hj;subst hj;exact ⟨v,by simp,r⟩
  | succ j=>simp at hj
 cases r with
 | undef=>simp [PV.whole,PV.atom] at hw
 | skip=>simp [PV.whole,PV.atom] at hw
 | tup=>simp [PV.whole,PV.atom] at hw
 | sn=>simp [PV.whole,PV.atom] at hw
 | tbuf=>simp [PV.whole,PV.atom] at hw
 | tnil=>simp [PV.whole,PV.atom] at hw
 | agg cs vs hlen hrel=>
   refine ⟨hlen.symm,λj q hj=> ?_⟩
   have a:j < vs.size:=by rw [<-hlen];exact (ab.1 hj).1
   exact ⟨vs[j],a8 a,hrel j q _ hj (a8 a)⟩
 | imm r=>exact single rfl (by cases r<;>rfl)
 | _=>exact single rfl rfl
theorem Sj (z:a5):(mB z).cells=[mB z]:=by unfold mB;split<;>rfl
theorem mi (z:a5):(lk z).cells.length=z.cells.size/\ ∀(j:Nat) (q:PV),(lk z).cells[j]? =some q-> ∃u:a5,z.cells[j]? =some u/\RP w ok mu q u:=by
 by_cases hz: ∃cs,z= .agg cs
 ·obtain ⟨cs,rfl⟩:=hz
  refine ⟨by simp [lk,PV.cells,Value.cells],λj q hj=> ?_⟩
  simp only [lk,PV.cells,cO] at hj
  cases hc:cs.toList[j]? with
  | none=>rw [hc] at hj;simp at hj
  | some c=>rw [hc] at hj;simp at hj;subst hj;exact ⟨c,by simpa [Value.cells] using hc,.mB _ _ _ _⟩
 ·have h1:lk z=mB z:=by unfold lk;split<;>first | rfl | exact absurd ⟨_,rfl⟩ hz
  have h2:z.cells= #[z]:=by unfold Value.cells;split<;>first | rfl | exact absurd ⟨_,rfl⟩ hz
  rw [h1,h2,Sj]
  refine ⟨rfl,λj q hj=> ?_⟩
  cases j with
  | zero=>simp at hj;subst hj;exact ⟨z,rfl,.mB _ _ _ _⟩
  | succ j=>simp at hj
theorem abf {x:a2} (hop:o.op= .move x\/o.op= .assign x) {fr:List PV} (hf:Fr w ok mu fr a.tmps):aI P o a w ok mu h (ev fr x) h:=
 aI.value (v:=a.eval x) (by rcases hop with hop | hop<;>simp [execOp,hop,pure,bf]) (hf.ev x)
theorem ach {c x y:a2} (hop:o.op= .pick c x y) {fr:List PV} (hf:Fr w ok mu fr a.tmps) {b:Bool} (hc:ev fr c= .imm (.bool b)):aI P o a w ok mu h (if b then ev fr x else ev fr y) h:=by
 have r:=hf.ev c
 rw [hc] at r
 cases r with
 | imm r=>
   generalize hv:a.eval c=vc at r
   cases r
   refine aI.value (v:=if b then a.eval x else a.eval y) (by simp [execOp,hop,hv,asBool,pure,bf,bind,fc]) ?_
   cases b
   ·exact hf.ev y
   ·exact hf.ev x
theorem ac1 {t:al} (hop:o.op= .alloc t) {z:a5} (hz:m7 P t=some z) (d:InvQ w ok mu h) (hn:mu h.length=none):aI P o a w ok mu h (.ptr h.length 0) (h++[.box .rw (lk z).cells]):=by
 refine ⟨[.box .rw (lk z).cells],[],h,rfl,rfl,?_⟩
 have hi: ∃i,P.info? t=some i/\i.zero=some z:=by
  unfold m7 at hz
  cases hi:P.info? t with
  | none=>simp [hi] at hz
  | some i=>exact ⟨i,rfl,by simpa [hi] using hz⟩
 obtain ⟨i,hi,c⟩:=hi
 have b:(execOp a.eval o).run P w= .ok (.value (.pointer (some ⟨w.heap.size,0,none⟩))) (w.alloc (.cells z.cells t)):=by
  have he:execOp a.eval o=(do pure (bb (<-c8 t true (.tuple #[])))):=by simp [execOp,hop]
  rw [he]
  apply gx
  simp [c8,zeroValue,typeInfo,hi,c,newVar,newRow]
 refine ix.value b ⟨ok,_,Grow.fresh (pl:=⟨some (w.heap.size,0),0,0⟩) rfl rfl d.okw ?_ hn (.ptr _ _ ⟨some (w.heap.size,0),0,0⟩ w.heap.size 0 (by simp) rfl)⟩
 refine ⟨w.heap.size,0,z.cells,t,rfl,gq w _,by simp [(mi (w:=w) (ok:=ok) (mu:=mu) z).1],λj q hj=> ?_⟩
 obtain ⟨u,h1,h2⟩:=(mi (w:=w.alloc (.cells z.cells t)) (ok:=ok) (mu:= λo=>if o=h.length then some ⟨some (w.heap.size,0),0,0⟩ else mu o) z).2 j q hj
 exact ⟨u,by simpa using h1,h2⟩
theorem V1 {t:al} (h:Rl P t=true):m7 P t=some (.agg #[.pointer none,.slice none 0 0]):=by
 unfold Rl at h
 split at h
 ·rename_i a z _ hz
  split at h
  ·rename_i f g _ hl
   rw [hz,<-hl]
  ·cases h
 ·cases h
theorem acq {t:al} (hop:o.op= .alloc t) (d:Rl P t=true) (f:InvQ w ok mu h) (hn:mu h.length=none):aI P o a w ok mu h (.ptr h.length 0) (h++[.box .rw [.sn t 2 h.length,.tnil]]):=by
 refine ⟨[.box .rw [.sn t 2 h.length,.tnil]],[],h,rfl,rfl,?_⟩
 have hz:=V1 d
 have hi: ∃i,P.info? t=some i/\i.zero=some (.agg #[.pointer none,.slice none 0 0]):=by
  unfold m7 at hz
  cases hi:P.info? t with
  | none=>simp [hi] at hz
  | some i=>exact ⟨i,rfl,by simpa [hi] using hz⟩
 obtain ⟨i,hi,e⟩:=hi
 have c:(execOp a.eval o).run P w= .ok (.value (.pointer (some ⟨w.heap.size,0,none⟩))) (w.alloc (.cells #[.pointer none,.slice none 0 0] t)):=by
  have he:execOp a.eval o=(do pure (bb (<-c8 t true (.tuple #[])))):=by simp [execOp,hop]
  rw [he]
  apply gx
  simp [c8,zeroValue,typeInfo,hi,e,newVar,newRow,Value.cells]
 have b:=gq w (.cells #[.pointer none,.slice none 0 0] t)
 refine ix.value c ⟨ok,_,Grow.fresh (pl:=⟨some (w.heap.size,0),0,0⟩) rfl rfl f.okw ?_ hn (.ptr _ _ ⟨some (w.heap.size,0),0,0⟩ w.heap.size 0 (by simp) rfl)⟩
 refine ⟨w.heap.size,0,_,t,rfl,b,by simp,λj q hj=> ?_⟩
 match j,hj with
 | 0,hj=>simp at hj;subst hj;exact ⟨.pointer none,by simp,.sn t 2 h.length ⟨some (w.heap.size,0),0,0⟩ _ (by simp) ⟨w.heap.size,rfl,.inl rfl,_,_,b,rfl⟩⟩
 | 1,hj=>simp at hj;subst hj;exact ⟨.slice none 0 0,by simp,.tnil⟩
 | j+2,hj=>simp at hj
theorem age (m:Md) (c:m= .rw\/m= .lock) {t:al} {x:a2} (hop:o.op= .box t x) {fr:List PV} (hf:Fr w ok mu fr a.tmps) (hw:(ev fr x).whole=true) (d:InvQ w ok mu h) (hn:mu h.length=none):aI P o a w ok mu h (.ptr h.length 0) (h++[.box m (ev fr x).cells]):=by
 refine ⟨[.box m (ev fr x).cells],[],h,rfl,rfl,?_⟩
 have b:(execOp a.eval o).run P w= .ok (.value (.pointer (some ⟨w.heap.size,0,none⟩))) (w.alloc (.cells (a.eval x).cells t)):=by
  have he:execOp a.eval o=(do pure (bb (<-fv t (a.eval x)))):=by simp [execOp,hop]
  rw [he]
  apply gx
  simp [fv,newVar,newRow]
 obtain ⟨hs,hr⟩:=(hf.ev x).cellsRel hw
 refine ix.value b ⟨ok,_,Grow.fresh (pl:=⟨some (w.heap.size,0),0,0⟩) rfl (by rcases c with rfl | rfl<;>rfl) d.okw ?_ hn (.ptr _ _ ⟨some (w.heap.size,0),0,0⟩ w.heap.size 0 (by simp) rfl)⟩
 refine ⟨w.heap.size,0,(a.eval x).cells,t,rfl,gq w _,by omega,λj q hj=> ?_⟩
 obtain ⟨u,h1,h2⟩:=hr j q hj
 exact ⟨u,by simpa using h1,h2.later (H8 _ d.okw hn)⟩
def F2 (w:a7) (ok:Nat->Prop) (mu:Mu) (cs:List PV) (vs:Array a5):Prop:=cs.length=vs.size/\ ∀(i:Nat) (p:PV) (v:a5),cs[i]? =some p->vs[i]? =some v->RP w ok mu p v
theorem F2.set {cs:List PV} {vs:Array a5} (r:F2 w ok mu cs vs) (i:Nat) {p:PV} {v:a5} (hp:RP w ok mu p v):F2 w ok mu (cs.set i p) (vs.setIfInBounds i v):=by
 have:=Fr.set ⟨r.1,r.2⟩ i hp
 exact ⟨this.size,this.rel⟩
theorem F2.setAt {off:Nat}: ∀(ps:List PV) (us:List a5) (j:Nat) {cs:List PV} {vs:Array a5},F2 w ok mu cs vs->us.length=ps.length->(∀(i:Nat) (q:PV),ps[i]? =some q-> ∃u:a5,us[i]? =some u/\RP w ok mu q u)->
  F2 w ok mu (setAt cs (off+j) ps) ((us.zipIdx j).foldl (λcs (c,i)=>cs.setIfInBounds (off+i) c) vs)
 | [],us,j,cs,vs,r,hl,_=>by
   have:us=[]:=List.length_eq_zero_iff.1 (by simpa using hl)
   subst this
   simpa [AM.setAt] using r
 | p::ps,us,j,cs,vs,r,hl,hr=>by
   cases us with
   | nil=>simp at hl
   | cons u us=>
     obtain ⟨u',h1,h2⟩:=hr 0 p (by simp)
     simp at h1;subst h1
     have ih:=F2.setAt (off:=off) ps us (j+1) (r.set (off+j) h2) (by simpa using hl) (λi q a=>by simpa using hr (i+1) q (by simpa using a))
     simpa [AM.setAt,List.zipIdx_cons,bx] using ih
def E2 (w:a7) (ok:Nat->Prop) (mu:Mu):List (Nat×PV)->List (Nat×a5)->Prop
 | [],[]=>True
 | (i,p)::ps,(j,u)::us=>i=j/\RP w ok mu p u/\E2 w ok mu ps us
 | _,_=>False
theorem FC {fr:List PV} (hf:Fr w ok mu fr a.tmps): ∀(l:List (Nat×a2)),E2 w ok mu (l.map λp=>(p.1,ev fr p.2)) (l.map λp=>(p.1,a.eval p.2))
 | []=>trivial
 | (i,x)::l=>⟨rfl,hf.ev x,FC hf l⟩
theorem Fr.evK {k:c1->Bool} {fr:List PV} (hf:Fr w ok mu fr a.tmps) (x:a2):RP w ok mu (AM.evK k fr x) (a.eval x):=by
 cases x with
 | func f=>
   unfold AM.evK
   simp only
   split
   ·exact .clo _ _ _ rfl (λi c v h _=>by simp at h)
   ·exact hf.ev (.func f)
 | tmp t=>exact hf.ev (.tmp t)
 | const v=>exact hf.ev (.const v)
 | global g=>exact hf.ev (.global g)
theorem wq {k:c1->Bool} {fr:List PV} (hf:Fr w ok mu fr a.tmps): ∀(l:List (Nat×a2)),E2 w ok mu (l.map λp=>(p.1,AM.evK k fr p.2)) (l.map λp=>(p.1,a.eval p.2))
 | []=>trivial
 | (i,x)::l=>⟨rfl,hf.evK x,wq hf l⟩
theorem Ca {place:Nat->Option (Nat×Nat)}: ∀(ps:List (Nat×PV)) (us:List (Nat×a5)) {cs a:List PV} {vs:Array a5},F2 w ok mu cs vs->E2 w ok mu ps us->Dg place cs ps=some a->
  ∃vs',fs place vs us=some vs'/\F2 w ok mu a vs'
 | [],[],cs,a,vs,r,hf,h=>by
   simp only [Dg,bC] at h
   subst h
   exact ⟨vs,rfl,r⟩
 | [],_::_,cs,a,vs,r,hf,h=>hf.elim
 | _::_,[],cs,a,vs,r,hf,h=>by
   cases hf
 | (i,p)::ps,(j,u)::us,cs,a,vs,r,hf,h=>by
     obtain ⟨rfl,hp,ht⟩:=hf
     simp only [Dg] at h
     cases c:place i with
     | none=>simp [c] at h
     | some os=>
       obtain ⟨off,size⟩:=os
       simp only [c] at h
       split at h
       ·rename_i hc
        obtain ⟨hw,hs,hb⟩:=hc
        obtain ⟨e,d⟩:=hp.cellsRel hw
        have r':=F2.setAt (off:=off) p.cells u.cells.toList 0 r (by simp [e]) (λi q f=>by obtain ⟨x,h1,h2⟩:=d i q f;exact ⟨x,by simpa using h1,h2⟩)
        obtain ⟨vs',h1,h2⟩:=Ca ps us r' ht h
        refine ⟨vs',?_,h2⟩
        have b: ¬(u.cells.size≠size\/off+u.cells.size > vs.size):=by
         have:=r.1
         omega
        simp only [fs,c]
        rw [if_neg (by simpa using b)]
        rw [<-h1]
        congr 1
        rw [<-Array.foldl_toList,Array.toList_zipIdx]
       ·cases h
theorem MX {t:al} {parts:Array (Nat×a2)} (hop:o.op= .build t parts) {k:c1->Bool} {fr:List PV} (hf:Fr w ok mu fr a.tmps) {d:Array Field} (hu:P.underlying t=some (.struct d)) {z:a5} (hz:m7 P t=some z)
  (hi:d.all (λf=>(P.info? f.type).isSome)=true) {cs:List PV} (hc:Dg (λi=>(d[i]?).map λf=>(f.offset,P.cellsOf f.type)) (lk z).cells (parts.toList.map λp=>(p.1,AM.evK k fr p.2))=some cs):aI P o a w ok mu h (.agg cs) h:=by
 have e: ∃it,P.info? t=some it/\it.zero=some z:=by
  unfold m7 at hz
  cases hi:P.info? t with
  | none=>simp [hi] at hz
  | some i=>exact ⟨i,rfl,by simpa [hi] using hz⟩
 obtain ⟨it,j,m⟩:=e
 have h0:F2 w ok mu (lk z).cells z.cells:=⟨(mi (w:=w) (ok:=ok) (mu:=mu) z).1,λi p v h1 h2=>by
  obtain ⟨u,n,q⟩:=(mi (w:=w) (ok:=ok) (mu:=mu) z).2 i p h1
  rw [h2] at n;cases n;exact q⟩
 obtain ⟨vs,h1,h2⟩:=Ca _ _ h0 (wq hf parts.toList) hc
 have b:d.toList.mapM (λf=>(P.info? f.type).map λi=>(f.offset,i.size))=some (d.toList.map λf=>(f.offset,P.cellsOf f.type)):=by
  have c: ∀f∈d.toList,(P.info? f.type).isSome=true:= λf hm=>by
   have:=Array.all_eq_true_iff_forall_mem.1 hi f (by simpa using hm)
   exact this
  clear hc h1 hu hi
  generalize d.toList=l at*
  induction l with
  | nil=>rfl
  | cons f l ih=>
    obtain ⟨i,hi⟩:=bA.1 (c f (by simp))
    simp [e4,hi,ih (λg r=>c g (by simp [r])),ch]
 have hb:P.built t (parts.map λ(i,x)=>(i,a.eval x)).toList=some vs:=by
  unfold e6
  simp only [j,hu,m,b]
  rw [<-h1]
  congr 1
  ·funext i;simp [dq,<-b6]
  ·simp
 refine aI.val (v:= .agg vs) (by simp [execOp,hop]) (run_build w t _ vs hb) (.agg cs vs h2.1 h2.2)
theorem OI {t:al} {parts:Array (Nat×a2)} (hop:o.op= .build t parts) {k:c1->Bool} {fr:List PV} (hf:Fr w ok mu fr a.tmps) {n:Nat} {e:al} (hu:P.underlying t=some (.array n e)) {z:a5} (hz:m7 P t=some z)
  (hi:(P.info? e).isSome=true) {cs:List PV} (hc:Dg (λi=>some (i*P.cellsOf e,P.cellsOf e)) (lk z).cells (parts.toList.map λp=>(p.1,AM.evK k fr p.2))=some cs):aI P o a w ok mu h (.agg cs) h:=by
 have c: ∃it,P.info? t=some it/\it.zero=some z:=by
  unfold m7 at hz
  cases hi:P.info? t with
  | none=>simp [hi] at hz
  | some i=>exact ⟨i,rfl,by simpa [hi] using hz⟩
 obtain ⟨it,d,f⟩:=c
 obtain ⟨l,b⟩:=bA.1 hi
 have h0:F2 w ok mu (lk z).cells z.cells:=⟨(mi (w:=w) (ok:=ok) (mu:=mu) z).1,λi p v h1 h2=>by
  obtain ⟨u,g,j⟩:=(mi (w:=w) (ok:=ok) (mu:=mu) z).2 i p h1
  rw [h2] at g;cases g;exact j⟩
 obtain ⟨vs,h1,h2⟩:=Ca _ _ h0 (wq hf parts.toList) hc
 have hsz:P.cellsOf e=l.size:=by simp [ch,b]
 have hb:P.built t (parts.map λ(i,x)=>(i,a.eval x)).toList=some vs:=by
  unfold e6
  simp only [d,hu,f,b]
  rw [<-h1,hsz]
  congr 1
  simp
 refine aI.val (v:= .agg vs) (by simp [execOp,hop]) (run_build w t _ vs hb) (.agg cs vs h2.1 h2.2)
theorem qb {t:al} (h:dX P t=true) (w:a7):(isAgg t).run P w= .ok true w:=by
 unfold dX at h
 split at h
 ·rename_i hu;simp [isAgg,run_underlying hu]
 ·rename_i hu;simp [isAgg,run_underlying hu]
 ·cases h
theorem oq {t:al} (h:lD P t=true) (w:a7):(isAgg t).run P w= .ok false w:=by
 unfold lD at h
 cases hu:P.underlying t with
 | none=>simp [hu] at h
 | some d=>
   cases d<;>first | (simp [hu] at h;done) | simp [isAgg,run_underlying hu]
theorem Bd {t:al} (h:dX P t=true): ∃i,P.info? t=some i:=by
 unfold dX at h
 cases hi:P.info? t with
 | some i=>exact ⟨i,rfl⟩
 | none=>simp [Program.underlying,hi] at h
theorem sT {t:al} (h:dX P t=true) (w:a7):(sizeOf t).run P w= .ok (P.cellsOf t) w:=by
 obtain ⟨i,hi⟩:=Bd h
 exact run_sizeOf w hi
theorem yY {t:al} (h:dX P t=true) {b off:Nat} {vs:List a5} (hl:vs.length=P.cellsOf t) (hc: ∀j v,vs[j]? =some v->w.cell? ⟨b,off+j,none⟩=some v):
  (loadVar t ⟨b,off,none⟩).run P w= .ok (.agg vs.toArray) w:=by
 have:=run_loadCells_list (P:=P) w ⟨b,off,none⟩ vs (λj v hj=>by rw [dI];exact hc j v hj)
 simp [loadVar,qb h,sT h,<-hl,this]
theorem yR {t:al} (h:lD P t=true) {b off:Nat} {v:a5} (hc:w.cell? ⟨b,off,none⟩=some v):(loadVar t ⟨b,off,none⟩).run P w= .ok v w:=by
 simp [loadVar,oq h,run_load,hc]
theorem Kw {r:List IV} {i:Nat} (h:i < r.length):r[i]? =some (nth r i):=by
 unfold nth;rw [br,a1 h];simp
theorem tp (r:List IV): ∀(i n j:Nat),j < n->(iR r i n)[j]? =some (.imm (nth r (i+j)))
 | i,0,j,h=>by omega
 | i,n+1,0,h=>by simp [iR]
 | i,n+1,j+1,h=>by
   have ih:=tp r (i+1) n j (Nat.lt_of_succ_lt_succ h)
   simp only [iR,List.getElem?_cons_succ]
   rw [ih,show i+1+j=i+(j+1) by omega]
theorem dt (r:List IV): ∀(i n:Nat),(iR r i n).length=n
 | i,0=>rfl
 | i,n+1=>by simp [iR,dt r (i+1) n]
theorem adn {r:List IV} {vs:Array a5} (hl:r.length=vs.size) (hr: ∀(i:Nat) (x:IV) (v:a5),r[i]? =some x->vs[i]? =some v->RV w ok x v):RP w ok mu (.agg (iR r 0 r.length)) (.agg vs):=by
 refine .agg _ _ (by rw [dt,hl]) λi p v h1 h2=> ?_
 have hi:i < r.length:=by
  have:=(ab.1 h1).1;rw [dt] at this;exact this
 rw [tp r 0 r.length i hi,e9] at h1
 cases h1
 exact .imm (hr i _ v (Kw hi) h2)
theorem KK {t:al} {x:a2} (hop:o.op= .load t x) (c:dX P t=true) {b off:Nat} (hx:a.eval x= .pointer (some ⟨b,off,none⟩)) {vs:List a5} (hl:vs.length=P.cellsOf t)
  (hc: ∀j v,vs[j]? =some v->w.cell? ⟨b,off+j,none⟩=some v) {p:PV} (r:RP w ok mu p (.agg vs.toArray)):aI P o a w ok mu h p h:=
 aI.val (v:= .agg vs.toArray) (s:=c2 t (a.eval x)) (by simp [execOp,hop]) (by rw [hx];simp [c2,cl,yY c hl hc]) r
theorem NI {t:al} {x:a2} (hop:o.op= .load t x) (c:lD P t=true) {b off:Nat} (hx:a.eval x= .pointer (some ⟨b,off,none⟩)) {v:a5}
  (hc:w.cell? ⟨b,off,none⟩=some v) {p:PV} (r:RP w ok mu p v):aI P o a w ok mu h p h:=
 aI.val (v:=v) (s:=c2 t (a.eval x)) (by simp [execOp,hop]) (by rw [hx];simp [c2,cl,yR c hc]) r
def Row (w:a7) (ok:Nat->Prop) (e:List IV) (b off:Nat):Prop:= ∀(q:Nat) (c:IV),e[q]? =some c-> ∃v,w.cell? ⟨b,off+q,none⟩=some v/\RV w ok c v
theorem yb {t:al} {x:a2} (hop:o.op= .load t x) (n:dX P t=true) {e:List IV} {b off j:Nat} (l:Row w ok e b off) (hx:a.eval x= .pointer (some ⟨b,off+j,none⟩)) (hj:j+P.cellsOf t<=e.length):
  aI P o a w ok mu h (.agg (iR ((e.drop j).take (P.cellsOf t)) 0 (P.cellsOf t))) h:=by
 have hlen:((e.drop j).take (P.cellsOf t)).length=P.cellsOf t:=by simp;omega
 have k: ∀i,i < P.cellsOf t->((e.drop j).take (P.cellsOf t))[i]? =e[j+i]? := λi hi=>by rw [bd hi,bm]
 have hv: ∀i,i < P.cellsOf t-> ∃v,w.cell? ⟨b,off+j+i,none⟩=some v/\ ∀c,e[j+i]? =some c->RV w ok c v:= λi hi=>by
  have d:j+i < e.length:=by omega
  obtain ⟨v,h1,h2⟩:=l (j+i) e[j+i] (a1 d)
  refine ⟨v,by rw [bx];exact h1,λc hc=> ?_⟩
  rw [a1 d] at hc;cases hc;exact h2
 let vs:List a5:=(c3 (P.cellsOf t)).map λi=>(w.cell? ⟨b,off+j+i,none⟩).getD undef
 have g:vs.length=P.cellsOf t:=by simp [vs]
 have m: ∀i v,vs[i]? =some v->i < P.cellsOf t/\w.cell? ⟨b,off+j+i,none⟩=some v:= λi v hi=>by
  have d:i < P.cellsOf t:=by have:=(ab.1 hi).1;rwa [g] at this
  obtain ⟨u,h1,_⟩:=hv i d
  simp [vs,d,h1] at hi
  exact ⟨d,by rw [h1,hi]⟩
 refine KK hop n hx g (λi v hi=>(m i v hi).2) ?_
 have:=adn (w:=w) (ok:=ok) (mu:=mu) (r:=(e.drop j).take (P.cellsOf t)) (vs:=vs.toArray) (by rw [hlen];simp [g]) λi c v h1 h2=>by
  obtain ⟨d,f⟩:=m i v (by simpa using h2)
  obtain ⟨u,p,q⟩:=hv i d
  rw [f] at p;cases p
  rw [k i d] at h1
  exact q c h1
 rwa [hlen] at this
theorem ye {t:al} {x:a2} (hop:o.op= .load t x) (f:lD P t=true) {e:List IV} {b off j:Nat} (d:Row w ok e b off) (hx:a.eval x= .pointer (some ⟨b,off+j,none⟩)) {c:IV} (hj:e[j]? =some c):
  aI P o a w ok mu h (.imm c) h:=by
 obtain ⟨v,h1,h2⟩:=d j c hj
 exact NI hop f hx h1 (.imm h2)
end
end Go.AM
namespace Go.AM
open Go.RowKit
def Vw (mu:Mu) (h:List Ob):Prop:= ∀o pl md sz x,mu o=some pl->getOb h o= .arr md sz x->pl.sz=sz
theorem InvQ.sized {w:a7} {ok:Nat->Prop} {mu:Mu} {h:List Ob} (b:InvQ w ok mu h):Vw mu h:= λo pl md sz x hm a=>by
 have:=b.ob o pl hm;rw [a] at this;exact this.sz
section
variable {P:cb} {o:eg} {a:Act} {w:a7} {ok:Nat->Prop} {mu:Mu} {h:List Ob} {fr:List PV}
theorem KW {t:al} {x:a2} (hop:o.op= .load t x) (r:RP w ok mu (ev fr x) (a.eval x)) (y:InvQ w ok mu h) {q j:Nat} (hx:ev fr x= .ptr q j) {md:Md} {cs:List PV} (s:getOb h q= .box md cs) {p:PV}
  (hp:(dX P t=true/\j+P.cellsOf t<=cs.length/\p= .agg ((cs.drop j).take (P.cellsOf t)))\/(lD P t=true/\cs[j]? =some p)):aI P o a w ok mu h p h:=by
 rw [hx] at r
 generalize hv:a.eval x=v at r
 cases r with
 | ptr q j pl b base hm hl=>
   have f:=y.ob q pl hm
   rw [s] at f
   obtain ⟨b',base',c,T,e,hw,hs,hr⟩:=f
   rw [hl] at e;cases e
   rcases hp with ⟨m,hj,rfl⟩ | ⟨n,hj⟩
   ·have g:((c.toList.drop (base+j)).take (P.cellsOf t)).length=P.cellsOf t:=by simp;omega
    refine KK hop m hv (vs:=(c.toList.drop (base+j)).take (P.cellsOf t)) g (λi v hi=> ?_) ?_
    ·have d:i < P.cellsOf t:=by have:=(ab.1 hi).1;rwa [g] at this
     rw [bd d,bm] at hi
     rw [iY hw]
     simpa using hi
    ·refine .agg _ _ (by simp;omega) λi p v h1 h2=> ?_
     have d:i < P.cellsOf t:=by
      have:=(ab.1 h1).1;simp at this;omega
     rw [bd d,bm] at h1
     rw [List.getElem?_toArray,bd d,bm] at h2
     obtain ⟨u,k,l⟩:=hr (j+i) p h1
     have:c[base+(j+i)]? =some v:=by rw [<-bx];simpa using h2
     rw [k] at this;cases this
     exact l
   ·obtain ⟨u,k,l⟩:=hr j p hj
    exact NI hop n hv (by rw [iY hw];exact k) l
theorem aaV {q:Nat} {pl:Pl} {b base:Nat} (m:InvQ w ok mu h) (hm:mu q=some pl) (hl:pl.loc=some (b,base)) {md:Md} {sz:Nat} {es:List (List IV)} (l:getOb h q= .arr md sz (.lst es)) {i:Nat} {e:List IV} (he:es[i]? =some e):Row w ok e b (base+i*pl.sz):=by
 have a:=m.ob q pl hm
 rw [l] at a
 obtain ⟨hsz,k,d,hlen,g,f,hc⟩:=a.arrN (λ_ h=>by cases h)
 cases d
 obtain ⟨c,T,hw,hs,hr⟩:=hc b base hl
 intro j x hx
 obtain ⟨v,h1,h2⟩:=hr i j e x he hx
 exact ⟨v,by rw [iY hw,hsz];exact h1,h2⟩
theorem VB {x:IV} {i j n:Nat} {r:List IV} (h:eo x i j n=some r): ∃es e,x= .lst es/\es[i]? =some e/\j+n<=e.length/\r=(e.drop j).take n:=by
 unfold eo at h
 split at h
 ·rename_i es
  cases he:es[i]? with
  | none=>simp [he] at h
  | some e=>
    simp only [he,b1] at h
    split at h
    ·exact ⟨es,e,rfl,he,‹_›,by simpa using h.symm⟩
    ·cases h
 ·cases h
theorem Yn {x:IV} {i j:Nat} {c:IV} (h:dh x i j=some c): ∃es e,x= .lst es/\es[i]? =some e/\e[j]? =some c:=by
 unfold dh at h
 split at h
 ·rename_i es
  cases he:es[i]? with
  | none=>simp [he] at h
  | some e=>exact ⟨es,e,rfl,he,by simpa [he] using h⟩
 ·cases h
theorem Ii {t:al} {x:a2} (hop:o.op= .load t x) (r:RP w ok mu (ev fr x) (a.eval x)) (k:InvQ w ok mu h) {q i j:Nat} (hx:ev fr x= .bptr q i j) {md:Md} {sz:Nat} {y:IV} (g:getOb h q= .arr md sz y) {p:PV}
  (hp:(dX P t=true/\ ∃r,eo y i j (P.cellsOf t)=some r/\p= .agg (iR r 0 (P.cellsOf t)))\/(lD P t=true/\ ∃c,dh y i j=some c/\p= .imm c)):aI P o a w ok mu h p h:=by
 rw [hx] at r
 generalize hv:a.eval x=v at r
 cases r with
 | bptr q i j pl b base hm hl=>
   rcases hp with ⟨d,r,hr,rfl⟩ | ⟨f,c,hc,rfl⟩
   ·obtain ⟨es,e,rfl,he,hj,rfl⟩:=VB hr
    exact yb hop d (aaV k hm hl g he) hv hj
   ·obtain ⟨es,e,rfl,he,hj⟩:=Yn hc
    exact ye hop f (aaV k hm hl g he) hv hj
theorem I8 {t:al} {x:a2} (hop:o.op= .load t x) (r:RP w ok mu (ev fr x) (a.eval x)) {y:IV} {i j:Nat} (hx:ev fr x= .eptr y i j) {p:PV}
  (hp:(dX P t=true/\ ∃r,eo y i j (P.cellsOf t)=some r/\p= .agg (iR r 0 (P.cellsOf t)))\/(lD P t=true/\ ∃c,dh y i j=some c/\p= .imm c)):aI P o a w ok mu h p h:=by
 rw [hx] at r
 generalize hv:a.eval x=v at r
 cases r with
 | eptr es e i j b off vals hok he hmem hrel=>
   have f:Row w ok e b off:= λq c hc=>⟨vals q,hmem q (ab.1 hc).1,hrel q c hc⟩
   rcases hp with ⟨l,r,hr,rfl⟩ | ⟨m,c,hc,rfl⟩
   ·obtain ⟨k,n,g,d,hj,rfl⟩:=VB hr
    cases g
    rw [he] at d;cases d
    exact yb hop l f hv hj
   ·obtain ⟨k,n,g,d,hj⟩:=Yn hc
    cases g
    rw [he] at d;cases d
    exact ye hop m f hv hj
theorem Q0 {x:IV} {j n:Nat} {r:List IV} (h:yX x j n=some r): ∃cs j0,x= .ptr cs j0/\j0+j+n<=cs.length/\r=(cs.drop (j0+j)).take n:=by
 unfold yX at h
 split at h
 ·split at h
  ·exact ⟨_,_,rfl,‹_›,by simpa using h.symm⟩
  ·cases h
 ·cases h
theorem Vl {x:IV} {j:Nat} {c:IV} (h:iW x j=some c): ∃cs j0,x= .ptr cs j0/\cs[j0+j]? =some c:=by
 unfold iW at h
 split at h
 ·exact ⟨_,_,rfl,h⟩
 ·cases h
theorem vM {t:al} {x:a2} (hop:o.op= .load t x) (r:RP w ok mu (ev fr x) (a.eval x)) {y:IV} {j:Nat} (hx:ev fr x= .iptr y j\/(ev fr x= .imm y/\j=0)) {p:PV}
  (hp:(dX P t=true/\ ∃r,yX y j (P.cellsOf t)=some r/\p= .agg (iR r 0 (P.cellsOf t)))\/(lD P t=true/\ ∃c,iW y j=some c/\p= .imm c)):aI P o a w ok mu h p h:=by
 have key: ∀(cs:List IV) (j0 b off:Nat),y= .ptr cs j0->a.eval x= .pointer (some ⟨b,off+(j0+j),none⟩)->Row w ok cs b off->aI P o a w ok mu h p h:=by
  intro cs j0 b off f hv e
  rcases hp with ⟨i,r,hr,rfl⟩ | ⟨k,c,hc,rfl⟩
  ·obtain ⟨g,l,d,hj,rfl⟩:=Q0 hr
   rw [f] at d;cases d
   exact yb hop i e hv (by omega)
  ·obtain ⟨g,l,d,hj⟩:=Vl hc
   rw [f] at d;cases d
   exact ye hop k e hv hj
 rcases hx with hx | ⟨hx,rfl⟩
 ·rw [hx] at r
  generalize hv:a.eval x=v at r
  cases r with
  | iptr cs j0 j b off vals hok hmem hrel=>exact key cs j0 b off rfl hv λq c hc=>⟨vals q,hmem q (ab.1 hc).1,hrel q c hc⟩
 ·rw [hx] at r
  generalize hv:a.eval x=v at r
  cases r with
  | imm r=>
    have f: ∃cs j0,y= .ptr cs j0:=by
     rcases hp with ⟨_,r,hr,_⟩ | ⟨_,c,hc,_⟩
     ·obtain ⟨cs,j0,h,_⟩:=Q0 hr;exact ⟨cs,j0,h⟩
     ·obtain ⟨cs,j0,h,_⟩:=Vl hc;exact ⟨cs,j0,h⟩
    obtain ⟨cs,j0,rfl⟩:=f
    cases r with
    | ptr cs j0 b off vals hok hmem hrel=>exact key cs j0 b off rfl (by simpa using hv) λq c hc=>⟨vals q,hmem q (ab.1 hc).1,hrel q c hc⟩
theorem Mc {op:c9} {t:al} {x y:a2} {u v:IV} {p q:a5} (hu:RV w ok u p) (hv:RV w ok v q) (a:u≠ .nilf):(eqGuard op t x y p q).run P w= .ok () w:=by
 have key: ∀b:Bool,(if b=true then (pure ():Sem Unit) else pure ()).run P w= .ok () w:= λb=>by cases b<;>rfl
 cases hu<;>first | exact absurd rfl a | (cases hv<;>exact key _)
theorem acI {k:a6} {x y:Nat} {o:Option Nat} {s:Sem a5} (h1: ∀r,o=some r->s.run P w= .ok (.float k r) w) (h2:o=none->s.run P w= .ok (.float k ((Question.nanBits k x y).cut (w.tape w.drawn (.nanBits k x y)))) w.drew) (hc: ∀r,o=some r->canF k r=r):
  ∃r w',s.run P w= .ok r w'/\(w'=w\/w'=w.drew)/\RV w' ok (.flt k (ZH k o)) r:=by
 cases o with
 | some r=>exact ⟨_,w,h1 r rfl,.inl rfl,by have:=RV.flt (w:=w) (ok:=ok) k r;rw [hc r rfl] at this;exact this⟩
 | none=>
   refine ⟨_,w.drew,h2 rfl,.inr rfl,?_⟩
   have:=RV.flt (w:=w.drew) (ok:=ok) k ((Question.nanBits k x y).cut (w.tape w.drawn (.nanBits k x y)))
   rw [uc (acG k x y _)] at this
   exact this
theorem Zb {op:c9} {t:al} {u v z:IV} {p q:a5} (hu:RV w ok u p) (hv:RV w ok v q) (hz:aa op u v=some z): ∃r w',(binOp op t p q).run P w= .ok r w'/\(w'=w\/w'=w.drew)/\RV w' ok z r:=by
 unfold aa at hz
 split at hz
 ·rename_i k a k' b
  cases hu;cases hv
  split at hz
  ·split at hz
   ·cases hz
   ·rename_i hb
    cases hz
    exact ⟨_,w,by simp [binOp,Op.shift,hb,pure,bf],.inl rfl,.int _ _⟩
  ·split at hz
   ·cases hz
   ·rename_i hb
    cases hz
    exact ⟨_,w,by simp [binOp,Op.shift,hb,pure,bf],.inl rfl,.int _ _⟩
  ·rename_i h1 h2
   split at hz
   ·rename_i hk
    subst hk
    unfold cr at hz
    cases op<;>simp only [reduceCtorEq] at hz h1 h2<;>first
     | exact absurd rfl h1
     | exact absurd rfl h2
     | (cases hz;exact ⟨_,w,by simp [binOp,Op.intArith,Op.intCmp,Op.intBits,pure,bf],.inl rfl,.int _ _⟩)
     | (cases hz;exact ⟨_,w,by simp [binOp,Op.intArith,Op.intCmp,Op.intBits,pure,bf],.inl rfl,.bool _⟩)
     | (split at hz
        ·cases hz
        ·rename_i hb;cases hz;exact ⟨_,w,by simp [binOp,Op.intDiv,hb,pure,bf],.inl rfl,.int _ _⟩)
   ·cases hz
 ·rename_i k a k' b
  cases hu;cases hv
  split at hz
  ·rename_i hk
   subst hk
   unfold Yj at hz
   simp only [acX,acM,acU,acz,ZP] at hz
   cases op<;>simp only [reduceCtorEq] at hz<;>first
    | (cases hz;exact ⟨_,w,by simp [binOp,Op.floatCmp,pure,bf],.inl rfl,.bool _⟩)
    | (cases hz;exact acI (λr hr=>by simp [binOp,e7,hr,pure,bf]) (λhr=>by simp only [binOp,e7,hr];rw [if_neg (by simp)];rfl) λr hr=>by first | exact acQ hr | exact acy hr | exact adg hr | exact acA hr)
  ·cases hz
 ·rename_i a b
  cases hu;cases hv
  unfold RQ at hz
  cases op<;>simp only [reduceCtorEq] at hz<;>first
   | (cases hz;exact ⟨_,w,by simp [binOp,Op.stringOp,pure,bf],.inl rfl,.bool _⟩)
   | (split at hz
      ·cases hz
      ·rename_i hb;cases hz;exact ⟨_,w,by simp only [binOp,Op.stringOp];rw [if_neg hb];rfl,.inl rfl,.str _⟩)
 ·cases hz
theorem agc {op:c9} {t t':al} {x y:a2} (hop:o.op= .binOp op t x y t') {u v z:IV} (hx:ev fr x= .imm u) (f:ev fr y= .imm v) (rx:RP w ok mu (ev fr x) (a.eval x)) (c:RP w ok mu (ev fr y) (a.eval y)) (hz:aa op u v=some z):
  aI P o a w ok mu h (.imm z) h:=by
 rw [hx] at rx;rw [f] at c
 cases rx with
 | imm rx=>
   cases c with
   | imm c=>
     obtain ⟨r,w',h1,d,h2⟩:=Zb (P:=P) (t:=t) rx c hz
     have b:(do eqGuard op t x y (a.eval x) (a.eval y);binOp op t (a.eval x) (a.eval y):Sem a5).run P w= .ok r w':=by
      simp [aB,Mc rx c (λe=>by subst e;cases v<;>cases hz),h1,ao]
     refine ⟨[],[],h,rfl,by simp,ix.value (w':=w') (by simp only [execOp,hop];exact gx b) ⟨ok,mu,?_⟩⟩
     refine ⟨?_,λ_ h=>h,λ_ h=> .inl h,λ_ _=>rfl,.inl ⟨rfl,rfl⟩,.imm h2⟩
     rcases d with rfl | rfl
     ·exact .refl _ _
     ·exact (Below.refl _ _).drew
theorem run_equalIn_bool (d:Nat) {t:al} (hu:P.underlying t=some .bool) (x y:Bool):(et (d+1) t (.bool x) (.bool y)).run P w= .ok (x==y) w:=by
 simp only [et,aB,run_underlying hu,ao]
 rfl
theorem run_equal_bool {t:al} (hu:P.underlying t=some .bool) (x y:Bool):(Op.equal t (.bool x) (.bool y)).run P w= .ok (x==y) w:=run_equalIn_bool 9999 hu x y
theorem aeH {op:c9} {t t':al} {x y:a2} (hop:o.op= .binOp op t x y t') (ht:SG P t=true) {u v z:IV} (hx:ev fr x= .imm u) (d:ev fr y= .imm v) (rx:RP w ok mu (ev fr x) (a.eval x)) (b:RP w ok mu (ev fr y) (a.eval y)) (hz:Qy op u v=some z):
  aI P o a w ok mu h (.imm z) h:=by
 rw [hx] at rx;rw [d] at b
 have hu:P.underlying t=some .bool:=by
  unfold SG at ht;split at ht
  ·assumption
  ·cases ht
 cases rx with
 | imm rx=>
   cases b with
   | imm b=>
     have c:=Mc (P:=P) (op:=op) (t:=t) (x:=x) (y:=y) rx b (λe=>by subst e;cases v<;>cases hz)
     have he:execOp a.eval o=(do pure (bb (<-do eqGuard op t x y (a.eval x) (a.eval y);binOp op t (a.eval x) (a.eval y)))):=by simp [execOp,hop]
     generalize a.eval x=p at*
     generalize a.eval y=q at*
     unfold Qy at hz
     split at hz
     ·rename_i u' v'
      cases rx;cases b
      cases op<;>simp only [reduceCtorEq] at hz
      ·cases hz
       refine aI.val he ?_ (.imm (.bool _))
       simp [aB,c,ao,binOp,run_equal_bool hu]
      ·cases hz
       refine aI.val he ?_ (.imm (.bool _))
       simp [aB,c,ao,binOp,run_equal_bool hu]
     ·cases hz
theorem JC (d:Nat) {t e:al} (hu:P.underlying t=some (.pointer e)) (x:Option fl):(et (d+1) t (.pointer x) (.pointer none)).run P w= .ok x.isNone w:=by
 simp only [et,aB,run_underlying hu,ao]
 cases x<;>rfl
theorem C5 {t e:al} (hu:P.underlying t=some (.pointer e)) (x:Option fl):(Op.equal t (.pointer x) (.pointer none)).run P w= .ok x.isNone w:=JC 9999 hu x
theorem W9 {op:c9} {t t':al} {x y:a2} (hop:o.op= .binOp op t x y t') (ht:HW P t=true) {v:Option fl} (hx:a.eval x= .pointer v) (c:a.eval y= .pointer none) {z:IV} (hz:Zd op (!v.isNone)=some z):
  aI P o a w ok mu h (.imm z) h:=by
 obtain ⟨e,hu⟩: ∃e,P.underlying t=some (.pointer e):=by
  unfold HW at ht;split at ht
  ·exact ⟨_,by assumption⟩
  ·cases ht
 have b:(eqGuard op t x y (.pointer v) (.pointer none)).run P w= .ok () w:=by
  cases op<;>rfl
 have he:execOp a.eval o=(do pure (bb (<-do eqGuard op t x y (a.eval x) (a.eval y);binOp op t (a.eval x) (a.eval y)))):=by simp [execOp,hop]
 rw [hx,c] at he
 unfold Zd at hz
 split at hz
 ·cases hz
  refine aI.val he ?_ (.imm (.bool _))
  simp [aB,b,ao,binOp,C5 hu]
 ·cases hz
  refine aI.val he ?_ (.imm (.bool _))
  simp [aB,b,ao,binOp,C5 hu]
 ·cases hz
theorem adC {op:c9} {t t':al} {x y:a2} (hop:o.op= .binOp op t x y t') (ht:HW P t=true) {u v z:IV} (hx:ev fr x= .imm u) (d:ev fr y= .imm v) (rx:RP w ok mu (ev fr x) (a.eval x)) (b:RP w ok mu (ev fr y) (a.eval y)) (hz:Wb op u v=some z):
  aI P o a w ok mu h (.imm z) h:=by
 rw [hx] at rx;rw [d] at b
 generalize hp:a.eval x=p at rx
 generalize c:a.eval y=q at b
 cases rx with
 | imm rx=>
   cases b with
   | imm b=>
     unfold Wb at hz
     split at hz
     ·cases rx;cases b
      exact W9 hop ht hp c hz
     ·cases rx;cases b
      exact W9 hop ht hp c hz
     ·cases hz
theorem acx {op:c9} {t t':al} {x y:a2} (hop:o.op= .binOp op t x y t') (ht:HW P t=true) {q j:Nat} {z:IV} (hx:ev fr x= .ptr q j) (e:ev fr y= .imm .nilp) (rx:RP w ok mu (ev fr x) (a.eval x)) (c:RP w ok mu (ev fr y) (a.eval y)) (hz:Zd op true=some z):
  aI P o a w ok mu h (.imm z) h:=by
 rw [hx] at rx;rw [e] at c
 generalize hp:a.eval x=p at rx
 generalize d:a.eval y=q at c
 cases rx with
 | ptr _ _ pl b base hm hl=>
   cases c with
   | imm c=>cases c;exact W9 hop ht hp d hz
theorem ZW {op:UnOp} {u z:IV} {p:a5} (hu:RV w ok u p) (hz:ll op u=some z): ∃r,(Op.unary op p).run P w= .ok r w/\RV w ok z r:=by
 unfold ll at hz
 split at hz<;>first
  | (cases hz;done)
  | (cases hu;cases hz;exact ⟨_,rfl,.int _ _⟩)
  | (cases hu;cases hz;exact ⟨_,rfl,.bool _⟩)
  | (cases hu;cases hz;exact ⟨_,rfl,by rw [ado];exact .flt _ _⟩)
theorem ah0 {op:UnOp} {t:al} {x:a2} (hop:o.op= .unOp op t x) {u z:IV} (hx:ev fr x= .imm u) (rx:RP w ok mu (ev fr x) (a.eval x)) (hz:ll op u=some z):aI P o a w ok mu h (.imm z) h:=by
 rw [hx] at rx
 cases rx with
 | imm rx=>
   obtain ⟨r,h1,h2⟩:=ZW (P:=P) rx hz
   exact aI.val (by simp [execOp,hop]) h1 (.imm h2)
theorem ae0 {s d:al} {x:a2} (hop:o.op= .convert s d x) {k k':ca} (hs:P.underlying s=some (.int k')) (b:P.underlying d=some (.int k)) {u z:IV} (hx:ev fr x= .imm u) (rx:RP w ok mu (ev fr x) (a.eval x)) (hz:bE k u=some z):aI P o a w ok mu h (.imm z) h:=by
 rw [hx] at rx
 cases rx with
 | imm rx=>
   unfold bE at hz
   split at hz
   ·cases hz
    generalize hv:a.eval x=v at rx
    cases rx
    refine aI.val (s:=convert s d (a.eval x)) (by simp [execOp,hop]) ?_ (.imm (.int _ _))
    rw [hv]
    simp [convert,run_underlying hs,run_underlying b,Conv.intToInt,pure,bf]
   ·cases hz
theorem aeC {s d:al} {x:a2} (hop:o.op= .convert s d x) {k:ca} {k':a6} (hs:P.underlying s=some (.float k')) (c:P.underlying d=some (.int k)) {u z:IV} (hx:ev fr x= .imm u) (rx:RP w ok mu (ev fr x) (a.eval x)) (hz:Rh k u=some z):aI P o a w ok mu h (.imm z) h:=by
 rw [hx] at rx
 cases rx with
 | imm rx=>
   unfold Rh at hz
   split at hz
   ·rename_i e b
    generalize hv:a.eval x=v at rx
    cases rx with
    | flt _ b=>
    simp only [Zt] at hz
    cases hn:(e.decode b).toInt .zero with
    | none=>simp [hn] at hz
    | some n=>
      simp only [hn] at hz
      split at hz
      ·rename_i hr
       cases hz
       refine aI.val (s:=convert s d (a.eval x)) (by simp [execOp,hop]) ?_ (.imm (.int _ _))
       rw [hv]
       simp [convert,run_underlying hs,run_underlying c,Conv.floatToInt,hn,hr,pure,bf]
      ·cases hz
   ·cases hz
theorem aen {s d:al} {x:a2} (hop:o.op= .convert s d x) {k:a6} {k':ca} (hs:P.underlying s=some (.int k')) (b:P.underlying d=some (.float k)) {u z:IV} (hx:ev fr x= .imm u) (rx:RP w ok mu (ev fr x) (a.eval x)) (hz:Xl k u=some z):aI P o a w ok mu h (.imm z) h:=by
 rw [hx] at rx
 cases rx with
 | imm rx=>
   unfold Xl at hz
   split at hz
   ·cases hz
    generalize hv:a.eval x=v at rx
    cases rx
    refine aI.val (s:=convert s d (a.eval x)) (by simp [execOp,hop]) ?_ (.imm (.flt _ _))
    rw [hv]
    simp [convert,run_underlying hs,run_underlying b,Conv.intToFloat,pure,bf]
   ·cases hz
theorem Xf {fn:Fn} {caps:Array a2} {d:Bool} (hop:o.op= .makeFunc fn #[] caps) (hf:Fr w ok mu fr a.tmps):aI P o a w ok mu h (if caps.isEmpty&&d then .imm (.clo fn []) else .clo fn (caps.toList.map (ev fr))) h:=by
 have b:(execOp a.eval o).run P w= .ok (.value (.func fn #[] (caps.map a.eval))) w:=by simp [execOp,hop,Instr.makeFunc,pure,bf,bind,fc]
 refine aI.value b ?_
 split
 ·rename_i hc
  have:caps= #[]:=by simp at hc;exact hc.1
  subst this
  exact .imm (.clo fn [] _ (by simp) λi c v h _=>by simp at h)
 ·refine .clo fn _ _ (by simp) λi c v h1 h2=> ?_
  rw [cO] at h1
  rw [dq,<-b6] at h2
  cases hc:caps.toList[i]? with
  | none=>simp [hc] at h1
  | some x=>simp [hc] at h1 h2;subst h1;subst h2;exact hf.ev x
theorem Z7 {x:a2} {i:Nat} (hop:o.op= .extract x i) (rx:RP w ok mu (ev fr x) (a.eval x)) {cs:List PV} (hx:ev fr x= .tup cs) {p:PV} (hp:cs[i]? =some p):aI P o a w ok mu h p h:=by
 rw [hx] at rx
 generalize hv:a.eval x=v at rx
 cases rx with
 | tup cs vs hlen hrel=>
   have hi:i < vs.size:=by rw [<-hlen];exact (ab.1 hp).1
   have b:vs[i]? =some vs[i]:=a8 hi
   refine aI.val (s:=e8 (a.eval x) i) (v:=vs[i]) (by simp [execOp,hop]) ?_ (hrel i p _ hp b)
   rw [hv]
   simp [e8,b,pure,bf]
theorem Ib {t:al} {f:Nat} {fd:Field} (h:Ek P t f=some fd): ∃a,P.underlying t=some (.struct a)/\a[f]? =some fd:=by
 unfold Ek at h
 split at h
 ·rename_i a hu;exact ⟨a,hu,h⟩
 ·cases h
theorem YF {t:al} {x:a2} {f:Nat} (hop:o.op= .field t x f) (rx:RP w ok mu (ev fr x) (a.eval x)) {fd:Field} (d:Ek P t f=some fd) {cs:List PV} (hx:ev fr x= .agg cs) {p:PV}
  (hp:(dX P fd.type=true/\p= .agg ((cs.drop fd.offset).take (P.cellsOf fd.type)))\/(lD P fd.type=true/\cs[fd.offset]? =some p)):aI P o a w ok mu h p h:=by
 obtain ⟨l,hu,e⟩:=Ib d
 rw [hx] at rx
 generalize hv:a.eval x=v at rx
 cases rx with
 | agg cs vs hlen hrel=>
   have b: ∀{v':a5},(part fd.type vs fd.offset).run P w= .ok v' w->(fb t (a.eval x) f).run P w= .ok v' w:= λ{v'} hp=>by
    rw [hv]
    simp [fb,run_underlying hu,e,asAgg,hp,pure,bf,aB,ao]
   rcases hp with ⟨c,rfl⟩ | ⟨j,hp⟩
   ·refine aI.val (v:= .agg (vs.extract fd.offset (fd.offset+P.cellsOf fd.type))) (by simp [execOp,hop]) (b (by simp [part,qb c,sT c])) ?_
    refine .agg _ _ (by simp [hlen];omega) λi p v h1 h2=> ?_
    have g:i < P.cellsOf fd.type:=by
     have:=(ab.1 h1).1;simp at this;omega
    rw [bd g,bm] at h1
    rw [b4] at h2
    split at h2
    ·exact hrel _ p v h1 h2
    ·cases h2
   ·have hi:fd.offset < vs.size:=by rw [<-hlen];exact (ab.1 hp).1
    have k:vs[fd.offset]? =some vs[fd.offset]:=a8 hi
    exact aI.val (v:=vs[fd.offset]) (by simp [execOp,hop]) (b (by simp [part,oq j,k])) (hrel _ p _ hp k)
end
end Go.AM
namespace Go.AM
open Go.RowKit
section
variable {P:cb} {o:eg} {a:Act} {w:a7} {ok:Nat->Prop} {mu:Mu} {h:List Ob} {fr:List PV}
theorem mj {t:al} (h:P.cellsOf t≠0) (w:a7):(sizeOf t).run P w= .ok (P.cellsOf t) w:=by
 cases hi:P.info? t with
 | none=>simp [ch,hi] at h
 | some i=>exact run_sizeOf w hi
theorem rT {s:al} {f:Nat} {fd:Field} (c:Ek P s f=some fd) (a:P.cellsOf fd.type≠0) (b off:Nat) (w:a7):
  (ds s (.pointer (some ⟨b,off,none⟩)) f).run P w= .ok (.pointer (some ⟨b,off+fd.offset,none⟩)) w:=by
 obtain ⟨e,hu,d⟩:=Ib c
 simp [ds,run_underlying hu,d,cl,fieldPlace,mj a,a,dI,aB,ao,pure,bf]
theorem rV {s:al} {x:a2} {f:Nat} (hop:o.op= .fieldAddr s x f) (rx:RP w ok mu (ev fr x) (a.eval x)) {fd:Field} (c:Ek P s f=some fd) (d:P.cellsOf fd.type≠0) {p:PV}
  (hp:(∃q j,ev fr x= .ptr q j/\p= .ptr q (j+fd.offset))\/(∃q i j,ev fr x= .bptr q i j/\p= .bptr q i (j+fd.offset))\/(∃y i j,ev fr x= .eptr y i j/\p= .eptr y i (j+fd.offset))\/(∃y j,ev fr x= .iptr y j/\p= .iptr y (j+fd.offset))\/(∃cs j0,ev fr x= .imm (.ptr cs j0)/\p= .iptr (.ptr cs j0) fd.offset)):
  aI P o a w ok mu h p h:=by
 have he:execOp a.eval o=(do pure (bb (<-ds s (a.eval x) f))):=by simp [execOp,hop]
 generalize hv:a.eval x=v at*
 rcases hp with ⟨q,j,hx,rfl⟩ | ⟨q,i,j,hx,rfl⟩ | ⟨y,i,j,hx,rfl⟩ | ⟨y,j,hx,rfl⟩ | ⟨cs,j0,hx,rfl⟩<;>rw [hx] at rx
 ·cases rx with
  | ptr q j pl b base hm hl=>exact aI.val he (rT c d _ _ w) (by rw [bx];exact .ptr _ _ pl b base hm hl)
 ·cases rx with
  | bptr q i j pl b base hm hl=>exact aI.val he (rT c d _ _ w) (by rw [bx];exact .bptr _ _ _ pl b base hm hl)
 ·cases rx with
  | eptr es e i j b off vals hok g hmem hrel=>exact aI.val he (rT c d _ _ w) (by rw [bx];exact .eptr es e i _ b off vals hok g hmem hrel)
 ·cases rx with
  | iptr cs j0 j b off vals hok hmem hrel=>exact aI.val he (rT c d _ _ w) (by rw [show off+(j0+j)+fd.offset=off+(j0+(j+fd.offset)) by omega];exact .iptr cs j0 _ b off vals hok hmem hrel)
 ·cases rx with
  | imm rx=>
    cases rx with
    | ptr cs j b off vals hok hmem hrel=>exact aI.val he (rT c d _ _ w) (by rw [bx];exact .iptr cs j0 _ b off vals hok hmem hrel)
theorem fM {t:al} (h:cu P t=true): ∃e,P.underlying t=some (.slice e)/\bG P t=e:=by
 unfold cu at h
 split at h
 ·rename_i e hu;exact ⟨e,hu,by simp [bG,hu]⟩
 ·cases h
theorem GN {t:al} (h:zP P t=true):P.underlying t=some .string:=by
 unfold zP at h
 split at h
 ·assumption
 ·cases h
theorem Bv {t e:al} (hu:P.underlying t=some (.slice e)) (a:P.cellsOf e≠0) {ad:fl} {n cap:Nat} {k:ca} {i:Int} (h0:0<=i) (h1:i < n) (w:a7):
  (bR t (.slice (some ad) n cap) (.int k i)).run P w= .ok (.pointer (some (ad.add (i.toNat*P.cellsOf e)))) w:=by
 simp [bR,asIntOf,run_underlying hu,h0,h1,mj a,aB,ao,pure,bf]
theorem Jv {t:al} {x i:a2} (hop:o.op= .indexAddr t x i) (ht:cu P t=true) (rx:RP w ok mu (ev fr x) (a.eval x)) (r:RP w ok mu (ev fr i) (a.eval i)) {u n:IV} (hx:ev fr x= .imm u) (hi:ev fr i= .imm n) {m:Nat} (hm:aK u n (P.cellsOf (bG P t))=some m):
  aI P o a w ok mu h (.eptr u m 0) h:=by
 obtain ⟨e,hu,rfl⟩:=fM ht
 have he:execOp a.eval o=(do pure (bb (<-bR t (a.eval x) (a.eval i)))):=by simp [execOp,hop]
 rw [hx] at rx;rw [hi] at r
 cases rx with
 | imm rx=>
   cases r with
   | imm r=>
     generalize a.eval x=v at*
     generalize a.eval i=H at*
     unfold aK at hm
     split at hm
     ·rename_i es k i0
      split at hm
      ·rename_i hc
       obtain ⟨h0,h1,hlen,C⟩:=hc
       cases hm
       cases r
       cases rx with
       | lst es ad cap sz vals hcap hsz hmem hrel=>
         have f:i0.toNat < es.length:=by omega
         have g:es[i0.toNat]? =some es[i0.toNat]:=a1 f
         have hl:es[i0.toNat].length=P.cellsOf (bG P t):=by
          rw [br,g] at hlen;exact hlen
         have p:sz=P.cellsOf (bG P t):=by rw [<-hl];exact (hsz _ (b7 f)).symm
         obtain ⟨A,E,hok,F⟩:=hmem i0.toNat 0 f (by omega)
         subst E
         have d: ∀q,q < sz->w.cell? ⟨A.block,A.off+i0.toNat*sz+q,none⟩=some (vals i0.toNat q)/\A.add (i0.toNat*sz)=⟨A.block,A.off+i0.toNat*sz,none⟩:=by
          intro q D
          obtain ⟨A',y,_,l⟩:=hmem i0.toNat q f D
          cases y
          have hn:A.spot=none:=by
           cases hs:A.spot with
           | none=>rfl
           | some s=>
             obtain ⟨G,z,_,b⟩:=hmem 0 0 (by omega) (by omega)
             cases z
             simp only [fa,e9] at b
             unfold Addr.add World.cell? at b
             simp [hs] at b
             split at b<;>cases b
          have j:A=⟨A.block,A.off,none⟩:=by cases A;simp_all
          rw [j,dI] at l
          refine ⟨by simpa [bx] using l,?_⟩
          rw [j,dI]
         refine aI.val he (Bv hu (by omega) h0 h1 w) ?_
         rw [<-p,(d 0 (by omega)).2]
         have:=RP.eptr (w:=w) (ok:=ok) (mu:=mu) es es[i0.toNat] i0.toNat 0 A.block (A.off+i0.toNat*sz) (vals i0.toNat) hok g (λq D=>(d q (by omega)).1) (λq c hc=>hrel _ q _ c g hc)
         simpa using this
      ·cases hm
     ·cases hm
theorem tJ {n:Nat} {i:IV} {m:Nat} (h:bU n i=some m): ∃k z,i= .int k z/\0<=z/\z < n/\m=z.toNat:=by
 unfold bU at h
 split at h
 ·split at h
  ·rename_i hc;cases h;exact ⟨_,_,rfl,hc.1,hc.2,rfl⟩
  ·cases h
 ·cases h
theorem JP {t:al} {x i:a2} (hop:o.op= .indexAddr t x i) (ht:cu P t=true) (j:0 < P.cellsOf (bG P t)) (g:Vw mu h) (rx:RP w ok mu (ev fr x) (a.eval x)) (d:RP w ok mu (ev fr i) (a.eval i)) {q n:Nat} {y:IV} (hx:ev fr x= .buf q n) (hi:ev fr i= .imm y)
  {md:Md} {sz:Nat} {l:IV} (r:getOb h q= .arr md sz l) (hsz:sz=P.cellsOf (bG P t)) {m:Nat} (hm:bU n y=some m):aI P o a w ok mu h (.bptr q m 0) h:=by
 obtain ⟨e,hu,rfl⟩:=fM ht
 have he:execOp a.eval o=(do pure (bb (<-bR t (a.eval x) (a.eval i)))):=by simp [execOp,hop]
 rw [hx] at rx;rw [hi] at d
 obtain ⟨k,z,rfl,h0,h1,rfl⟩:=tJ hm
 cases d with
 | imm d=>
   generalize a.eval x=v at*
   generalize a.eval i=s at*
   cases d
   cases rx with
   | buf q n A cap pl c hn hh hc=>
     have f:=g q pl md sz l c r
     rcases hh.2 with ⟨hz,_⟩ | ⟨b,base,hl,p⟩
     ·omega
     ·subst p
      refine aI.val he (Bv hu (by omega) h0 h1 w) ?_
      rw [dI,<-hsz,<-f,fa,Nat.add_zero]
      have:=RP.bptr (w:=w) (ok:=ok) q z.toNat 0 pl b base c hl
      simpa using this
theorem VL {t e:al} {len:Nat} (hu:P.underlying t=some (.array len e)) (a:P.cellsOf e≠0) {b off:Nat} {k:ca} {i:Int} (h0:0<=i) (h1:i < len) (w:a7):
  (bR t (.pointer (some ⟨b,off,none⟩)) (.int k i)).run P w= .ok (.pointer (some ⟨b,off+i.toNat*P.cellsOf e,none⟩)) w:=by
 simp [bR,cl,asIntOf,run_underlying hu,h0,h1,mj a,aB,ao,pure,bf,dI]
theorem J6 {t:al} {x i:a2} (hop:o.op= .indexAddr t x i) {len:Nat} {e:al} (hu:P.underlying t=some (.array len e)) (f:0 < P.cellsOf e) (rx:RP w ok mu (ev fr x) (a.eval x)) (c:RP w ok mu (ev fr i) (a.eval i)) {q j:Nat} {y:IV} (hx:ev fr x= .ptr q j) (hi:ev fr i= .imm y)
  {m:Nat} (hm:bU len y=some m):aI P o a w ok mu h (.ptr q (j+m*P.cellsOf e)) h:=by
 have he:execOp a.eval o=(do pure (bb (<-bR t (a.eval x) (a.eval i)))):=by simp [execOp,hop]
 rw [hx] at rx;rw [hi] at c
 obtain ⟨k,z,rfl,h0,h1,rfl⟩:=tJ hm
 cases c with
 | imm c=>
   generalize a.eval x=v at*
   generalize a.eval i=g at*
   cases c
   cases rx with
   | ptr q j pl b base d hl=>
     refine aI.val he (VL hu (by omega) h0 h1 w) ?_
     rw [bx]
     exact .ptr q _ pl b base d hl
theorem Jw {t:al} {x i:a2} (hop:o.op= .indexAddr t x i) (ht:cu P t=true) (j:0 < P.cellsOf (bG P t)) (g:Vw mu h) (rx:RP w ok mu (ev fr x) (a.eval x)) (d:RP w ok mu (ev fr i) (a.eval i)) {q l u:Nat} {y:IV} (hx:ev fr x= .sub q l u) (hi:ev fr i= .imm y)
  {md:Md} {sz:Nat} {n:IV} (r:getOb h q= .arr md sz n) (hsz:sz=P.cellsOf (bG P t)) {m:Nat} (hm:bU (u - l) y=some m):aI P o a w ok mu h (.bptr q (l+m) 0) h:=by
 obtain ⟨e,hu,rfl⟩:=fM ht
 have he:execOp a.eval o=(do pure (bb (<-bR t (a.eval x) (a.eval i)))):=by simp [execOp,hop]
 rw [hx] at rx;rw [hi] at d
 obtain ⟨k,z,rfl,h0,h1,rfl⟩:=tJ hm
 cases d with
 | imm d=>
   generalize a.eval x=v at*
   generalize a.eval i=C at*
   cases d
   cases rx with
   | sub q l u A cap pl c s hn hh hc=>
     have f:=g q pl md sz n c r
     rcases hh.2 with ⟨hz,_⟩ | ⟨b,base,hl,p⟩
     ·omega
     ·subst p
      refine aI.val he (Bv hu (by omega) h0 h1 w) ?_
      rw [dI,<-hsz,<-f]
      have:=RP.bptr (w:=w) (ok:=ok) q (l+z.toNat) 0 pl b base c hl
      rw [c7] at this
      simpa [bx] using this
theorem Un {t:al} {x i:a2} (hop:o.op= .index t x i) (ht:zP P t=true) (rx:RP w ok mu (ev fr x) (a.eval x)) (c:RP w ok mu (ev fr i) (a.eval i)) {u n z:IV} (hx:ev fr x= .imm u) (hi:ev fr i= .imm n) (hz:Ho u n=some z):
  aI P o a w ok mu h (.imm z) h:=by
 have hu:=GN ht
 have he:execOp a.eval o=(do pure (bb (<-b2 t (a.eval x) (a.eval i)))):=by simp [execOp,hop]
 rw [hx] at rx;rw [hi] at c
 cases rx with
 | imm rx=>
   cases c with
   | imm c=>
     generalize a.eval x=v at*
     generalize a.eval i=d at*
     unfold Ho at hz
     split at hz
     ·rename_i s k i0
      cases rx;cases c
      obtain ⟨b,hb,rfl⟩:=Option.map_eq_some_iff.1 hz
      refine aI.val he ?_ (.imm (.int _ _))
      simp [b2,asIntOf,run_underlying hu,aB,ao]
      rw [hb]
      rfl
     ·cases hz
theorem Mb: ∀{cs:List PV} {l:List IV},PX cs=some l->l.length=cs.length/\ ∀(i:Nat) (c:PV),cs[i]? =some c-> ∃x,l[i]? =some x/\c= .imm x:=by
 intro cs l hl
 obtain ⟨h1,h2⟩:=gp hl
 refine ⟨h1,λi c hc=> ?_⟩
 obtain ⟨x,b,a⟩:=h2 i c hc
 refine ⟨x,b,?_⟩
 cases c<;>simp at a
 rw [a]
theorem IQ {t:al} {x i:a2} (hop:o.op= .index t x i) {len:Nat} {e:al} (hu:P.underlying t=some (.array len e)) (rx:RP w ok mu (ev fr x) (a.eval x)) (C:RP w ok mu (ev fr i) (a.eval i)) {cs:List PV} {l:List IV} {n:IV} (hx:ev fr x= .agg cs) (hl:PX cs=some l) (hi:ev fr i= .imm n)
  (hlen:l.length=len*P.cellsOf e) {m:Nat} (hm:bU len n=some m) {p:PV} (hp:(dX P e=true/\p= .agg ((c3 (P.cellsOf e)).map λj=> .imm (nth l (m*P.cellsOf e+j))))\/(lD P e=true/\P.cellsOf e=1/\p= .imm (nth l m))):aI P o a w ok mu h p h:=by
 have he:execOp a.eval o=(do pure (bb (<-b2 t (a.eval x) (a.eval i)))):=by simp [execOp,hop]
 rw [hx] at rx;rw [hi] at C
 obtain ⟨k,z,rfl,h0,h1,rfl⟩:=tJ hm
 obtain ⟨L,r⟩:=Mb hl
 cases C with
 | imm C=>
   generalize a.eval x=v at*
   generalize a.eval i=N at*
   cases C
   cases rx with
   | agg cs vs J hrel=>
     have b: ∀q,q < l.length-> ∃v,vs[q]? =some v/\RV w ok (nth l q) v:= λq I=>by
      have u:q < cs.length:=by omega
      have A:q < vs.size:=by omega
      obtain ⟨y,g,d⟩:=r q cs[q] (a1 u)
      have hr:=hrel q _ vs[q] (a1 u) (a8 A)
      rw [d] at hr
      have:nth l q=y:=by unfold nth;rw [br,g];rfl
      cases hr with
      | imm hr=>exact ⟨vs[q],a8 A,by rw [this];exact hr⟩
     have H:z.toNat < len:=by omega
     have s:z.toNat*P.cellsOf e+P.cellsOf e<=l.length:=by
      rw [hlen,<-eP];exact b0 _ H
     rcases hp with ⟨f,rfl⟩ | ⟨G,c,rfl⟩
     ·obtain ⟨M,K⟩:=Bd f
      refine aI.val (v:= .agg (vs.extract (z.toNat*P.cellsOf e) (z.toNat*P.cellsOf e+P.cellsOf e))) he ?_ ?_
      ·simp [b2,asIntOf,run_underlying hu,h0,h1,sT f,part,qb f,aB,ao,pure,bf]
      ·refine .agg _ _ (by simp;omega) λq p v g d=> ?_
       have I:q < P.cellsOf e:=by
        have:=(ab.1 g).1;simpa using this
       simp [I] at g
       subst g
       rw [b4] at d
       split at d
       ·obtain ⟨v',D,E⟩:=b (z.toNat*P.cellsOf e+q) (by omega)
        rw [D] at d;cases d
        exact .imm E
       ·cases d
     ·obtain ⟨v',D,E⟩:=b z.toNat (by rw [c] at s;omega)
      refine aI.val (v:=v') he ?_ (.imm E)
      have F:P.cellsOf e≠0:=by omega
      simp [b2,asIntOf,run_underlying hu,h0,h1,mj F,part,oq G,c,D,aB,ao,pure,bf]
theorem HY {t:al} {x i:a2} (hop:o.op= .index t x i) {len:Nat} {e:al} (hu:P.underlying t=some (.array len e)) (rx:RP w ok mu (ev fr x) (a.eval x)) (j:RP w ok mu (ev fr i) (a.eval i)) {cs:List PV} {n:IV} (hx:ev fr x= .agg cs) (hi:ev fr i= .imm n)
  (hlen:cs.length=len*P.cellsOf e) (y:0 < P.cellsOf e) {m:Nat} (hm:bU len n=some m) {p:PV} (hp:(dX P e=true/\p= .agg ((cs.drop (m*P.cellsOf e)).take (P.cellsOf e)))\/(dX P e=false/\lD P e=true/\P.cellsOf e=1/\cs[m]? =some p)):aI P o a w ok mu h p h:=by
 have he:execOp a.eval o=(do pure (bb (<-b2 t (a.eval x) (a.eval i)))):=by simp [execOp,hop]
 rw [hx] at rx;rw [hi] at j
 obtain ⟨k,z,rfl,h0,h1,rfl⟩:=tJ hm
 cases j with
 | imm j=>
   generalize a.eval x=v at*
   generalize a.eval i=F at*
   cases j
   cases rx with
   | agg cs vs A hrel=>
     have u:z.toNat < len:=by omega
     have d:z.toNat*P.cellsOf e+P.cellsOf e<=cs.length:=by
      rw [hlen,<-eP];exact b0 _ u
     rcases hp with ⟨b,rfl⟩ | ⟨b,s,c,hp⟩
     ·obtain ⟨E,C⟩:=Bd b
      refine aI.val (v:= .agg (vs.extract (z.toNat*P.cellsOf e) (z.toNat*P.cellsOf e+P.cellsOf e))) he ?_ ?_
      ·simp [b2,asIntOf,run_underlying hu,h0,h1,sT b,part,qb b,aB,ao,pure,bf]
      ·refine .agg _ _ (by simp;omega) λq p v l g=> ?_
       have D:q < P.cellsOf e:=by
        have:=(ab.1 l).1;simp at this;omega
       rw [bd D,bm] at l
       rw [b4] at g
       split at g
       ·exact hrel _ p v l g
       ·cases g
     ·have f:z.toNat < vs.size:=by rw [c] at d;omega
      have hv:vs[z.toNat]? =some vs[z.toNat]:=a8 f
      refine aI.val (v:=vs[z.toNat]) he ?_ (hrel _ _ _ hp hv)
      have r:P.cellsOf e≠0:=by omega
      simp [b2,asIntOf,run_underlying hu,h0,h1,mj r,part,oq s,c,hv,aB,ao,pure,bf]
theorem Ak {x:IV} {n m:Nat} (h:TR x n=some m): ∃k z,x= .int k z/\0<=z/\z<=n/\m=z.toNat:=by
 unfold TR at h
 split at h
 ·split at h
  ·rename_i hc;cases h;exact ⟨_,_,rfl,hc.1,hc.2,rfl⟩
  ·cases h
 ·cases h
theorem jE {k:ca} {z:Int} {n:Nat} (c:BoundsCode) (h0:0<=z) (h1:z<=n) (w:a7):(e0 (.int k z) n c).run P w= .ok z.toNat w:=by
 simp [e0,asIntOf,h0,h1,aB,ao,pure,bf]
theorem ow {isS:Bool} {len cap:Nat} (hcap:len<=cap) {lo hi:Option IV} {g hv:Option a5} {p:Nat×Nat} (hp:lj len lo hi=some p)
  (hl: ∀x,lo=some x-> ∃v,g=some v/\RV w ok x v) (c:lo=none->g=none) (hh: ∀x,hi=some x-> ∃v,hv=some v/\RV w ok x v) (f:hi=none->hv=none):
  (bM isS len cap g hv none).run P w= .ok (p.1,p.2,cap) w/\p.1<=p.2/\p.2<=len:=by
 unfold lj at hp
 cases hi with
 | none=>
   have:=f rfl;subst this
   simp only [b1] at hp
   cases lo with
   | none=>
     have:=c rfl;subst this
     simp only [b1,bC] at hp
     subst hp
     exact ⟨by simp [bM,aB,ao,pure,bf],by simp,by simp⟩
   | some x=>
     obtain ⟨v,rfl,r⟩:=hl x rfl
     simp only at hp
     cases hb:TR x len with
     | none=>simp [hb] at hp
     | some m=>
       obtain ⟨k,z,rfl,h0,h1,rfl⟩:=Ak hb
       cases r
       simp [hb] at hp
       subst hp
       refine ⟨by simp [bM,jE _ h0 h1,aB,ao,pure,bf],?_,?_⟩<;>simp<;>omega
 | some y=>
   obtain ⟨l,rfl,h⟩:=hh y rfl
   simp only at hp
   cases hb:TR y len with
   | none=>simp [hb] at hp
   | some m=>
     obtain ⟨k,z,rfl,h0,h1,rfl⟩:=Ak hb
     cases h
     simp only [hb,b1] at hp
     have b:z<=cap:=by omega
     cases lo with
     | none=>
       have:=c rfl;subst this
       simp only [b1,bC] at hp
       subst hp
       refine ⟨by simp [bM,jE _ h0 b,aB,ao,pure,bf],?_,?_⟩<;>simp<;>omega
     | some x=>
       obtain ⟨v,rfl,r⟩:=hl x rfl
       simp only at hp
       cases a:TR x z.toNat with
       | none=>simp [a] at hp
       | some j=>
         obtain ⟨i,n,rfl,d,e,rfl⟩:=Ak a
         cases r
         simp [a] at hp
         subst hp
         refine ⟨by simp [bM,jE _ h0 b,jE _ d e,aB,ao,pure,bf],?_,?_⟩<;>simp<;>omega
theorem oX (hf:Fr w ok mu fr a.tmps) {lo:Option a2} {l:Option IV} (h:p4 fr lo=some l):(∀x,l=some x-> ∃v,lo.map a.eval=some v/\RV w ok x v)/\(l=none->lo.map a.eval=none):=by
 unfold p4 at h
 split at h
 ·cases h;exact ⟨λx hx=>(by cases hx),λ_=>rfl⟩
 ·rename_i y
  split at h
  ·rename_i v hv
   cases h
   refine ⟨λx hx=> ?_,λhx=>(by cases hx)⟩
   cases hx
   have:=hf.ev y
   rw [hv] at this
   cases this with
   | imm r=>exact ⟨_,rfl,r⟩
  ·cases h
theorem U7 {t:al} {x:a2} {lo hi:Option a2} (hop:o.op= .slice t x lo hi none) (ht:zP P t=true) (hf:Fr w ok mu fr a.tmps) {u z:IV} (hx:ev fr x= .imm u) {l r:Option IV} (hl:p4 fr lo=some l) (hr:p4 fr hi=some r) (hz:ea u l r=some z):aI P o a w ok mu h (.imm z) h:=by
 have hu:=GN ht
 have he:execOp a.eval o=(do pure (bb (<-bB t (a.eval x) (lo.map a.eval) (hi.map a.eval) none))):=by simp [execOp,hop]
 have rx:=hf.ev x
 rw [hx] at rx
 cases rx with
 | imm rx=>
   generalize a.eval x=v at*
   unfold ea at hz
   split at hz
   ·rename_i s
    cases rx
    cases hp:lj s.size l r with
    | none=>simp [hp] at hz
    | some p=>
      simp [hp] at hz
      subst hz
      obtain ⟨b,c⟩:=oX hf hl
      obtain ⟨d,e⟩:=oX hf hr
      obtain ⟨h1,h2,f⟩:=ow (P:=P) (isS:=false) (cc _) hp b c d e
      refine aI.val he ?_ (.imm (.str _))
      simp [bB,e3,run_underlying hu,h1,aB,ao,pure,bf]
   ·cases hz
theorem Gq {t e:al} (hu:P.underlying t=some (.slice e)) (hi:(P.info? e).isSome=true) {A:Option fl} {n cap:Nat} {b hv:Option a5} {p:Nat×Nat} (hb:(bM true n cap b hv none).run P w= .ok (p.1,p.2,cap) w):
  (bB t (.slice A n cap) b hv none).run P w= .ok (.slice (if cap=p.1 then A else A.map (·.add (p.1*P.cellsOf e))) (p.2 - p.1) (cap - p.1)) w:=by
 obtain ⟨c,a⟩:=bA.1 hi
 simp [bB,e3,run_underlying hu,hb,run_sizeOf w a,aB,ao,pure,bf]
theorem kn {t:al} (h:0 < P.cellsOf t):(P.info? t).isSome=true:=by
 cases hi:P.info? t with
 | none=>simp [ch,hi] at h
 | some i=>rfl
theorem UG {t:al} {x:a2} {lo hi:Option a2} (hop:o.op= .slice t x lo hi none) (ht:cu P t=true) (f:0 < P.cellsOf (bG P t)) (hf:Fr w ok mu fr a.tmps) {u z:IV} (hx:ev fr x= .imm u) {l r:Option IV} (hl:p4 fr lo=some l) (hr:p4 fr hi=some r) (hz:ly (P.cellsOf (bG P t)) u l r=some z):aI P o a w ok mu h (.imm z) h:=by
 obtain ⟨e,hu,rfl⟩:=fM ht
 have he:execOp a.eval o=(do pure (bb (<-bB t (a.eval x) (lo.map a.eval) (hi.map a.eval) none))):=by simp [execOp,hop]
 have rx:=hf.ev x
 rw [hx] at rx
 cases rx with
 | imm rx=>
   generalize a.eval x=v at*
   unfold ly at hz
   split at hz
   ·rename_i es
    split at hz
    ·rename_i d
     cases rx with
     | lst es A cap sz vals hcap hsz hmem hrel=>
       cases hp:lj es.length l r with
       | none=>simp [hp] at hz
       | some p=>
         simp [hp] at hz
         subst hz
         obtain ⟨k,m⟩:=oX hf hl
         obtain ⟨n,q⟩:=oX hf hr
         obtain ⟨h1,h2,C⟩:=ow (P:=P) (isS:=true) hcap hp k m n q
         refine aI.val he (Gq hu (kn f) h1) (.imm ?_)
         have hlen:((es.drop p.1).take (p.2 - p.1)).length=p.2 - p.1:=by simp;omega
         have key: ∀A',(p.2 - p.1≠0->A'=A.map (·.add (p.1*P.cellsOf (bG P t))))->RV w ok (.lst ((es.drop p.1).take (p.2 - p.1))) (.slice A' ((es.drop p.1).take (p.2 - p.1)).length (cap - p.1)):=by
          intro A' g
          refine .lst _ A' (cap - p.1) sz (λi j=>vals (p.1+i) j) (by rw [hlen];omega) (λe hm=>hsz e (c5 (c6 hm))) (λi j hi hj=> ?_) (λi j e c h1 h2=> ?_)
          ·rw [hlen] at hi
           obtain ⟨ad,s,hok,b⟩:=hmem (p.1+i) j (by omega) hj
           have hs:sz=P.cellsOf (bG P t):=by
            have h0:es[0]'(by omega)∈es:=b7 _
            have:=List.all_eq_true.1 d _ h0
            rw [hsz _ h0] at this
            simpa using this
           refine ⟨ad.add (p.1*P.cellsOf (bG P t)),by rw [g (by omega),s];rfl,by rw [mZ];exact hok,?_⟩
           rw [<-b]
           congr 1
           rw [<-hs]
           unfold Addr.add
           have:(p.1+i)*sz=p.1*sz+i*sz:=c7 _ _ _
           split<;>split<;>split<;>simp_all<;>omega
          ·have hi:i < p.2 - p.1:=by have:=(ab.1 h1).1;rw [hlen] at this;exact this
           rw [bd hi,bm] at h1
           exact hrel _ j e c h1 h2
         rw [hlen] at key
         refine key _ λy=> ?_
         rw [if_neg (by omega)]
    ·cases hz
   ·cases hz
theorem V2 {t:al} {x:a2} {lo hi:Option a2} (hop:o.op= .slice t x lo hi none) (ht:cu P t=true) (f:0 < P.cellsOf (bG P t)) (u:Vw mu h) (hf:Fr w ok mu fr a.tmps) {q n:Nat} (hx:ev fr x= .buf q n) {md:Md} {sz:Nat} {y:IV} (D:getOb h q= .arr md sz y) (hsz:sz=P.cellsOf (bG P t))
  {l r:Option IV} (hl:p4 fr lo=some l) (hr:p4 fr hi=some r) {p:Nat×Nat} (hp:lj n l r=some p):aI P o a w ok mu h (.sub q p.1 p.2) h:=by
 obtain ⟨e,hu,rfl⟩:=fM ht
 have he:execOp a.eval o=(do pure (bb (<-bB t (a.eval x) (lo.map a.eval) (hi.map a.eval) none))):=by simp [execOp,hop]
 have rx:=hf.ev x
 rw [hx] at rx
 generalize a.eval x=v at*
 obtain ⟨i,j⟩:=oX hf hl
 obtain ⟨m,s⟩:=oX hf hr
 cases rx with
 | buf q n A cap pl d hn hh hc=>
   have k:=u q pl md sz y d D
   obtain ⟨h1,h2,F⟩:=ow (P:=P) (isS:=true) hh.1 hp i j m s
   refine aI.val he (Gq hu (kn f) h1) ?_
   refine .sub q p.1 p.2 _ (cap - p.1) pl d h2 (by omega) ⟨by have:=hh.1;omega,?_⟩ λb base hb=> ?_
   ·rcases hh.2 with ⟨hz,E⟩ | ⟨b,base,hb,C⟩
    ·exact .inl ⟨by omega,by omega⟩
    ·by_cases g:cap=p.1
     ·exact .inl ⟨by have:=hh.1;omega,by omega⟩
     ·refine .inr ⟨b,base,hb,?_⟩
      rw [if_neg g,C,<-hsz,<-k]
      simp [dI]
   ·obtain ⟨c,T,z,hw,hs⟩:=hc b base hb
    refine ⟨c,T,z,hw,?_⟩
    have:p.1+(cap - p.1)=cap:=by have:=hh.1;omega
    rw [this];exact hs
theorem abC {t:al} {x hi j:a2} (hop:o.op= .slice t x none (some hi) (some j)) (ht:cu P t=true) (f:0 < P.cellsOf (bG P t)) (hf:Fr w ok mu fr a.tmps) {q n:Nat} (hx:ev fr x= .buf q n) {md:Md} {sz:Nat} {K:IV} (M:getOb h q= .arr md sz K)
  {u v:IV} (E:ev fr hi= .imm u) (F:ev fr j= .imm v) {p:Nat} (hp:TR u n=some p) (D:TR v n=some p):aI P o a w ok mu h (.sub q 0 p) h:=by
 obtain ⟨e,hu,rfl⟩:=fM ht
 have he:execOp a.eval o=(do pure (bb (<-bB t (a.eval x) none (some (a.eval hi)) (some (a.eval j))))):=by simp [execOp,hop]
 have rx:=hf.ev x
 rw [hx] at rx
 have l:=hf.ev hi
 rw [E] at l
 have rv:=hf.ev j
 rw [F] at rv
 generalize a.eval x=z at*
 generalize a.eval hi=O at*
 generalize a.eval j=Q at*
 obtain ⟨k,i,rfl,h0,h1,rfl⟩:=Ak hp
 obtain ⟨k',d,rfl,m,G,I⟩:=Ak D
 cases rx with
 | buf q n A cap pl C hn hh hc=>
   cases l with
   | imm l=>
   cases l
   cases rv with
   | imm rv=>
   cases rv
   obtain ⟨N,y⟩:=bA.1 (kn f)
   have hcap:=hh.1
   have r:d<=(cap:Int):=by omega
   have s:i<=((d.toNat:Nat):Int):=by omega
   have g:(bB t (.slice A n cap) none (some (.int k i)) (some (.int k' d))).run P w= .ok (.slice (if d.toNat=0 then A else A.map (·.add (0*P.cellsOf (bG P t)))) (i.toNat - 0) (d.toNat - 0)) w:=by
    simp [bB,e3,run_underlying hu,bM,jE _ m r,jE _ h0 s,run_sizeOf w y,aB,ao,pure,bf]
   refine aI.val he g ?_
   refine .sub q 0 i.toNat _ _ pl C (e1 _) (by omega) ⟨by omega,?_⟩ λb base hb=> ?_
   ·rcases hh.2 with ⟨hz,J⟩ | ⟨b,base,hb,H⟩
    ·exact .inl ⟨by omega,by omega⟩
    ·refine .inr ⟨b,base,hb,?_⟩
     rw [H]
     simp [dI]
   ·obtain ⟨c,T,z,hw,hs⟩:=hc b base hb
    refine ⟨c,T,z,hw,?_⟩
    have L:(0+(d.toNat - 0))*pl.sz<=cap*pl.sz:=b0 _ (by omega)
    omega
theorem TL {t:al} {x:a2} {lo hi:Option a2} (hop:o.op= .slice t x lo hi none) (ht:cu P t=true) (g:0 < P.cellsOf (bG P t)) (u:Vw mu h) (hf:Fr w ok mu fr a.tmps) {q d u0:Nat} (hx:ev fr x= .sub q d u0) {md:Md} {sz:Nat} {y:IV} (D:getOb h q= .arr md sz y) (hsz:sz=P.cellsOf (bG P t))
  {l r:Option IV} (hl:p4 fr lo=some l) (hr:p4 fr hi=some r) {p:Nat×Nat} (hp:lj (u0 - d) l r=some p):aI P o a w ok mu h (.sub q (d+p.1) (d+p.2)) h:=by
 obtain ⟨e,hu,rfl⟩:=fM ht
 have he:execOp a.eval o=(do pure (bb (<-bB t (a.eval x) (lo.map a.eval) (hi.map a.eval) none))):=by simp [execOp,hop]
 have rx:=hf.ev x
 rw [hx] at rx
 generalize a.eval x=v at*
 obtain ⟨j,k⟩:=oX hf hl
 obtain ⟨n,s⟩:=oX hf hr
 cases rx with
 | sub q d u0 A cap pl f E hn hh hc=>
   have m:=u q pl md sz y f D
   obtain ⟨h1,h2,G⟩:=ow (P:=P) (isS:=true) hh.1 hp j k n s
   refine aI.val he (Gq hu (kn g) h1) ?_
   have key:RP w ok mu (.sub q (d+p.1) (d+p.2)) (.slice (if cap=p.1 then A else A.map (·.add (p.1*P.cellsOf (bG P t)))) (d+p.2 - (d+p.1)) (cap - p.1)):=by
    refine .sub q _ _ _ (cap - p.1) pl f (by omega) (by omega) ⟨by have:=hh.1;omega,?_⟩ λb base hb=> ?_
    ·rcases hh.2 with ⟨hz,F⟩ | ⟨b,base,hb,C⟩
     ·exact .inl ⟨by omega,by omega⟩
     ·by_cases i:cap=p.1
      ·exact .inl ⟨by have:=hh.1;omega,by omega⟩
      ·refine .inr ⟨b,base,hb,?_⟩
       rw [if_neg i,C,<-hsz,<-m]
       simp [dI,c7,bx]
    ·obtain ⟨c,T,z,hw,hs⟩:=hc b base hb
     refine ⟨c,T,z,hw,?_⟩
     have:d+p.1+(cap - p.1)=d+cap:=by have:=hh.1;omega
     rw [this];exact hs
   rw [show d+p.2 - (d+p.1)=p.2 - p.1 by omega] at key
   exact key
theorem p6 {c:Call} {b:Builtin} (hop:o.op= .call c) (hc:c.callee= .builtin b) {s:Sem a5} (hb: ∀consts,builtin b c.argTypes o.type consts (c.args.map a.eval)=(do pure (bb (<-s)))):execOp a.eval o=(do pure (bb (<-s))):=by
 simp only [execOp,hop,resolve,hc]
 simp only [pure,bind,fc,invoke]
 exact hb _
theorem U6 {c:Call} (hop:o.op= .call c) (hc:c.callee= .builtin .len) {x:a2} (d:c.args= #[x]) {t:al} (f:c.argTypes.getD 0 0=t) (g:c.argTypes[0]?.isSome=true) {n:Nat} {p:PV}
  (hv:(cu P t=true/\ ∃A cap,a.eval x= .slice A n cap)\/(zP P t=true/\ ∃s:ByteArray,a.eval x= .string s/\s.size=n)) (hp:p= .imm (.int .i64 n)):aI P o a w ok mu h p h:=by
 subst hp
 have b:c.argTypes[0]? =some t:=by
  obtain ⟨t',i⟩:=bA.1 g
  rw [cd,i] at f
  rw [i];simpa using f
 have he:execOp a.eval o=(do pure (bb (<-Builtin.len_ c.argTypes o.type #[a.eval x]))):=p6 hop hc λconsts=>by simp [builtin,d]
 refine aI.val he (v:= .int .i64 n) ?_ (.imm (.int _ _))
 rcases hv with ⟨ht,A,cap,hx⟩ | ⟨ht,s,hx,hs⟩
 ·obtain ⟨e,hu,_⟩:=fM ht
  simp [Builtin.len_,b,hx,run_underlying hu,goInt,pure,bf]
 ·have hu:=GN ht
  simp [Builtin.len_,b,hx,run_underlying hu,goInt,pure,bf,hs]
theorem aaH {x y z:IV} (h:imax x y=some z): ∃k a b,x= .int k a/\y= .int k b/\z= .int k (if b > a then b else a):=by
 unfold imax at h
 split at h
 ·split at h
  ·rename_i hk;subst hk;cases h;exact ⟨_,_,_,rfl,rfl,rfl⟩
  ·cases h
 ·cases h
theorem aan {x y z:IV} (h:Xy x y=some z): ∃k a b,x= .int k a/\y= .int k b/\z= .int k (if b < a then b else a):=by
 unfold Xy at h
 split at h
 ·split at h
  ·rename_i hk;subst hk;cases h;exact ⟨_,_,_,rfl,rfl,rfl⟩
  ·cases h
 ·cases h
theorem agO {c:Call} (hop:o.op= .call c) (hc:c.callee= .builtin .max) {x y:a2} (b:c.args= #[x,y]) (rx:RP w ok mu (ev fr x) (a.eval x)) (d:RP w ok mu (ev fr y) (a.eval y)) {u v z:IV} (hx:ev fr x= .imm u) (e:ev fr y= .imm v) (hz:imax u v=some z):aI P o a w ok mu h (.imm z) h:=by
 have he:execOp a.eval o=(do pure (bb (<-Builtin.max_ c.argTypes o.type #[a.eval x,a.eval y]))):=p6 hop hc λconsts=>by simp [builtin,b]
 rw [hx] at rx;rw [e] at d
 obtain ⟨k,m,n,rfl,rfl,rfl⟩:=aaH hz
 cases rx with
 | imm rx=>
   cases d with
   | imm d=>
     generalize a.eval x=p at*
     generalize a.eval y=q at*
     cases rx;cases d
     refine aI.val he ?_ (.imm (.int _ _))
     simp [Builtin.max_,Builtin.max2,pure,bf]
theorem agd {c:Call} (hop:o.op= .call c) (hc:c.callee= .builtin .min) {x y:a2} (b:c.args= #[x,y]) (rx:RP w ok mu (ev fr x) (a.eval x)) (d:RP w ok mu (ev fr y) (a.eval y)) {u v z:IV} (hx:ev fr x= .imm u) (e:ev fr y= .imm v) (hz:Xy u v=some z):aI P o a w ok mu h (.imm z) h:=by
 have he:execOp a.eval o=(do pure (bb (<-Builtin.min_ c.argTypes o.type #[a.eval x,a.eval y]))):=p6 hop hc λconsts=>by simp [builtin,b]
 rw [hx] at rx;rw [e] at d
 obtain ⟨k,m,n,rfl,rfl,rfl⟩:=aan hz
 cases rx with
 | imm rx=>
   cases d with
   | imm d=>
     generalize a.eval x=p at*
     generalize a.eval y=q at*
     cases rx;cases d
     refine aI.val he ?_ (.imm (.int _ _))
     simp [Builtin.min_,Builtin.min2,pure,bf]
theorem uq {x:a2} (hop:o.op= .nilCheck x) (rx:RP w ok mu (ev fr x) (a.eval x)) (hx:(∃q j,ev fr x= .ptr q j)\/(∃q i j,ev fr x= .bptr q i j)\/(∃y i j,ev fr x= .eptr y i j)\/(∃y j,ev fr x= .iptr y j)\/(∃f cs,ev fr x= .clo f cs)):aI P o a w ok mu h (ev fr x) h:=by
 refine aI.value (v:=a.eval x) ?_ rx
 generalize hv:a.eval x=v at*
 rcases hx with ⟨q,j,hx⟩ | ⟨q,i,j,hx⟩ | ⟨y,i,j,hx⟩ | ⟨y,j,hx⟩ | ⟨f,cs,hx⟩<;>rw [hx] at rx<;>cases rx
 ·simp [execOp,hop,hv,pure,bf]
 ·simp [execOp,hop,hv,pure,bf]
 ·simp [execOp,hop,hv,pure,bf]
 ·simp [execOp,hop,hv,pure,bf]
 ·rename_i cv hlen hrel
  cases f<;>simp [execOp,hop,hv,pure,bf]
theorem Uw {x:a2} (hop:o.op= .nilCheck x) (rx:RP w ok mu (ev fr x) (a.eval x)) {y z:IV} (hx:ev fr x= .imm y) (hz:gA y=some z):aI P o a w ok mu h (.imm z) h:=by
 rw [hx] at rx
 generalize hv:a.eval x=v at rx
 unfold gA at hz
 split at hz
 ·cases hz
  cases rx with
  | imm rx=>
    refine aI.value (v:=a.eval x) ?_ (by rw [hv];exact .imm rx)
    cases rx
    simp [execOp,hop,hv,pure,bf]
 ·cases hz
end
end Go.AM
