/- Files, plainly: bytes; numbers of seven bits a byte. -/
import Derived.Test.YtgoenohknokcmaaGreatFf
open Option renaming bind_some->ab,map_some->b1,bind_assoc->e3
open List renaming replicate->ad,getElem?_eq_getElem->al,getElem?_eq_some_iff->ao,length_map->a1,getElem?_append_left->a2,mem_of_getElem?->a5,getD_eq_getElem?_getD->a7,length_replicate->a8,length_append->bb,getElem?_append_right->bd,mem_cons_self->br,mem_iff_getElem?->bs,drop_eq_getElem_cons->bx,mem_cons_of_mem->bA,flatMap_cons->bB,append_assoc->bM,mem_of_mem_take->bR,take_of_length_le->b3,take_append_drop->b6,length_cons->b7,length_take->ca,nil_append->cl,flatMap_append->cv,mem_append->cO,replicate_succ->c0,getLast?_eq_some_iff->c7,getLast?_eq_none_iff->c8,getElem?_map->dq,drop_eq_nil_of_le->ds,mem_append_left->eP,mem_cons->e2,cons_append->e6,drop_zero->fl
open BitVec renaming ofInt->aB,ofInt_natCast->bO,toNat_ofNat->b0,xor_allOnes->eZ,toNat_ofInt->e1,toNat_not->e5,xor_zero->e8,allOnes->fr
open Nat renaming lt_of_le_of_lt->a6,mod_eq_of_lt->bf,eq_zero_or_pos->bm,testBit_lt_two_pow->b4,le_refl->b5,min_eq_right->cb,and_le_right->cc,pow_le_pow_right->cd,mul_le_mul_right->ch,lt_of_lt_of_le->c5,xor_lt_two_pow->c6,shiftRight_eq_div_pow->c9,testBit_shiftRight->eg,add_comm->ek,testBit_shiftLeft->et,mul_le_mul_left->eW,or_lt_two_pow->e4,shiftLeft_eq->e7,zero_le->e9,testBit_and->fa,two_pow_pos->fb,div_le_self->fc,testBit_or->fs,sub_zero->fz,lt_or_ge->gd,mul_comm->gf
open Go.IntKind renaming u64->bC,i64->ck,u8->fv,wrap->fH
open Int renaming toNat_natCast->dd
set_option linter.unusedVariables false
set_option linter.unusedSimpArgs false
namespace Go.AM
abbrev Byt:=List UInt8
def B (l:Byt):IV:= .str ⟨l.toArray⟩
def eB (b:UInt8):List IV:=[.int .u8 b.toNat]
theorem afX (s:ByteArray):IV.str s=B s.data.toList:=by unfold B;simp
theorem wM (l:Byt):(⟨l.toArray⟩:ByteArray).size=l.length:=by show l.toArray.size=_;simp
@[simp] theorem ja (l:Byt):ft (B l)=some (.int .i64 l.length):=by unfold B;rw [kV,wM]
theorem WD {l:Byt} {i:Nat} {b:UInt8} {k:IntKind} (h:l[i]? =some b):Ho (B l) (.int k (i:Int))=some (.int .u8 b.toNat):=by
 unfold B
 simp only [Ho,dd]
 rw [if_pos (by omega),ab3]
 simp [h]
theorem adZ (l:Byt) (a b:Nat):(⟨l.toArray⟩:ByteArray).extract a b=⟨((l.drop a).take (b - a)).toArray⟩:=by
 have:((⟨l.toArray⟩:ByteArray).extract a b).data.toList=(l.drop a).take (b - a):=by
  simp [ByteArray.data_extract,List.extract_eq_take_drop]
 exact ByteArray.ext (Array.toList_inj.1 (this.trans rfl))
theorem Be {l:Byt} {i:Nat} {k:IntKind} (h:i<=l.length):ea (B l) (some (.int k (i:Int))) none=some (B (l.drop i)):=by
 unfold B
 simp only [ea,lj,TR,wM,ab]
 rw [if_pos ⟨by omega,by omega⟩]
 simp only [ab,dd,adZ]
 rw [b3 (by simp)]
theorem BC {l:Byt} {i:Nat} {k:IntKind} (h:i<=l.length):ea (B l) none (some (.int k (i:Int)))=some (B (l.take i)):=by
 unfold B
 simp only [ea,lj,TR,wM,ab]
 rw [if_pos ⟨by omega,by omega⟩]
 simp only [ab,dd,adZ,fl,fz]
theorem M6 {a b:Byt} (h:a.length+b.length < 2 ^ 60):aa .add (B a) (B b)=some (B (a++b)):=by
 unfold B
 simp only [aa,RQ,wM]
 rw [if_neg (by show ¬_ > (9223372036854775807:Int);omega)]
 congr 2
theorem mD (l:Byt):jW (.lst (l.map eB))=some (B l):=by
 have:(l.map eB).mapM AQ=some l:=by
  induction l with
  | nil=>rfl
  | cons b l ih=>
    have hb:AQ (eB b)=some b:=by
     have:=b.toNat_lt
     simp only [AQ,eB]
     rw [if_pos (by omega)]
     simp
    simp [List.mapM_cons,hb,ih]
 simp only [jW,this];rfl
theorem abI {l:Byt} {b:UInt8} {x:Int} (hx:x=b.toNat) (h:l.length < 2 ^ 30):bS 1 1 (.lst (l.map eB)) (.lst [[.int .u8 x]])=some (.lst ((l++[b]).map eB)):=by
 subst hx
 simp only [bS]
 rw [if_pos ⟨by simp;omega,by simp⟩]
 simp [eB]
def Ez (n:Nat):UInt8:=UInt8.ofNat n
theorem oV {n:Nat} (h:n < 256):(Ez n).toNat=n:=by unfold Ez;simp [UInt8.toNat_ofNat];omega
def aJ (n:Nat):Byt:=if n < 128 then [Ez n] else Ez (n % 128+128)::aJ (n / 128)
 termination_by n
theorem ud {n:Nat} (h:n < 128):aJ n=[Ez n]:=by rw [aJ,if_pos h]
theorem Ao {n:Nat} (h: ¬n < 128):aJ n=Ez (n % 128+128)::aJ (n / 128):=by rw [aJ,if_neg h]
theorem aa1 {a:Nat}:fv.wrap (a:Int)=((a % 256:Nat):Int):=by
 unfold fH
 show (if (false&&decide (((a:Int) % (2 ^ 8:Int))>=(2 ^ 7:Int)))=true then ((a:Int) % (2 ^ 8:Int)) - (2 ^ 8:Int) else ((a:Int) % (2 ^ 8:Int)))=_
 simp
theorem Tg (a:Nat) {k:IntKind}:bE .u8 (.int k (a:Int))=some (.int .u8 ((a % 256:Nat):Int)):=by simp only [bE,aa1]
theorem ae3 (a:Nat) (h:a < 256):aa .or (.int .u8 (a:Int)) (.int .u8 128)=some (.int .u8 ((a % 128+128:Nat):Int)):=by
 have: ∀a:Fin 256,(aB 8 ((a.val:Nat):Int)|||aB 8 128).toNat=a.val % 128+128:=by decide+kernel
 have e:=this ⟨a,h⟩
 simp only [aa,cr,if_true]
 show some (IV.int .u8 (fv.wrap ((aB 8 (a:Int)|||aB 8 128).toNat:Int)))=_
 rw [e,aa1,bf (by omega)]
theorem adK (a:Nat) (h:a < 256):aa .andNot (.int .u8 (a:Int)) (.int .u8 128)=some (.int .u8 ((a % 128:Nat):Int)):=by
 have: ∀a:Fin 256,(aB 8 ((a.val:Nat):Int)&&& ~~~(aB 8 128)).toNat=a.val % 128:=by decide+kernel
 have e:=this ⟨a,h⟩
 simp only [aa,cr,if_true]
 show some (IV.int .u8 (fv.wrap ((aB 8 (a:Int)&&& ~~~(aB 8 128)).toNat:Int)))=_
 rw [e,aa1,bf (by omega)]
theorem MY: ∀(j n m:Nat) (acc:Byt),n < 128 ^ j->0 < j->j<=m->n < 2 ^ 64->acc.length+j<=100->
  ∃(k:Nat) (ini:Byt),k < 128/\aJ n=ini++[Ez k]/\ini.length < j/\iter m l6 [.int .u64 (n:Int),.lst (acc.map eB)]=some (0,[.int .u64 (k:Int),.lst ((acc++ini).map eB)])
 | 0,n,m,acc,_,h0,_,_,_=>by omega
 | j+1,n,m,acc,hn,_,hm,hw,f=>by
   obtain ⟨m,rfl⟩: ∃p,m=p+1:=⟨m - 1,by omega⟩
   by_cases h:n < 128
   ·refine ⟨n,[],h,by rw [ud h];rfl,by simp,?_⟩
    have: ¬((128:Int)<=(n:Int)):=by omega
    have hf:l6 [.int .u64 (n:Int),.lst (acc.map eB)]=some (.done 0 [.int .u64 (n:Int),.lst (acc.map eB)]):=by
     unfold l6
     simp [this]
    simp [iter,hf]
   ·have d:((128:Int)<=(n:Int)):=by omega
    have hj:0 < j:=by
     rcases bm j with rfl | hj
     ·simp at hn;omega
     ·exact hj
    have e:n / 128 < 128 ^ j:=by
     rw [Nat.div_lt_iff_lt_mul (by decide)];rw [Nat.pow_succ] at hn;exact hn
    have i:(n % 256) % 128+128=n % 128+128:=by omega
    have g:=ae3 (n % 256) (Nat.mod_lt _ (by decide))
    rw [i] at g
    have c:=abI (l:=acc) (b:=Ez (n % 128+128)) (x:=((n % 128+128:Nat):Int)) (by rw [oV (by omega)]) (by omega)
    have hs:aa .shr (.int .u64 (n:Int)) (.int .u64 7)=some (.int .u64 ((n / 128:Nat):Int)):=mS (a:=n) (b:=7) (by decide)
    have hf:l6 [.int .u64 (n:Int),.lst (acc.map eB)]=some (.next [.int .u64 ((n / 128:Nat):Int),.lst ((acc++[Ez (n % 128+128)]).map eB)]):=by
     unfold l6
     simp only [af,ai,dm,d,decide_true,ab,ah,Tg,g,c,hs]
    obtain ⟨k,ini,h1,h2,q,o⟩:=MY j (n / 128) m (acc++[Ez (n % 128+128)]) e hj (by omega) (by omega) (by simp;omega)
    refine ⟨k,Ez (n % 128+128)::ini,h1,by rw [Ao h,h2];rfl,by simp;omega,?_⟩
    simp only [iter,hf,ab]
    rw [o];simp
theorem dC {n:Nat} (h:n < 2 ^ 64):b9 (.int .u64 (n:Int))=some [B (aJ n)]:=by
 obtain ⟨k,ini,h1,h2,e,d⟩:=MY 10 n rounds [] (by omega) (by decide) (by rw [bg];decide) h (by decide)
 have c:=abI (l:=ini) (b:=Ez k) (x:=((k % 256:Nat):Int)) (by rw [oV (by omega)];omega) (by omega)
 unfold b9
 have a:iter rounds l6 [.int .u64 (n:Int),.lst []]=some (0,[.int .u64 (k:Int),.lst (ini.map eB)]):=d
 simp only [a,ab,aW,af,ai,Tg,c,mD,h2]
 rfl
theorem aM {n:Nat} (h:n < 2 ^ 64):(aJ n).length<=10:=by
 obtain ⟨k,ini,h1,h2,a,b⟩:=MY 10 n rounds [] (by omega) (by decide) (by rw [bg];decide) h (by decide)
 rw [h2];simp;omega
theorem Hy:ct (.bool true) (.int .i64 2)=some []:=rfl
theorem acj (s t:Byt): ∀(i n a m:Nat) (pre:Byt) (x:IV),s=pre++aJ n++t->pre.length=i->a < 2 ^ (7*i)->a+n*2 ^ (7*i) < 2 ^ 64->(i=0\/0 < n)->i<=9->10<=m+i->
  iter m (aP (B s)) [x,.int .u64 (a:Int),.int .i64 (i:Int)]=some (0,[.int .u64 ((a+n*2 ^ (7*i):Nat):Int),B t]):=by
 intro i n
 induction n using Nat.strongRecOn generalizing i with
 | _ n ih=>
 intro a m pre x hs hp S hn h0 hi hm
 obtain ⟨m,rfl⟩: ∃T,m=T+1:=⟨m - 1,by omega⟩
 obtain ⟨b,rest,g,w⟩: ∃b rest,aJ n=b::rest/\s[i]? =some b:=by
  by_cases h:n < 128
  ·exact ⟨_,_,ud h,by rw [hs,ud h,bM,bd (by omega),<-hp];simp⟩
  ·exact ⟨_,_,Ao h,by rw [hs,Ao h,bM,bd (by omega),<-hp];simp⟩
 have r:=(ao.1 w).1
 have hc:((i:Int) < (s.length:Int)):=by omega
 have L:=WD (k:= .i64) w
 have N:2 ^ (7*i)<=2 ^ 63:=cd (by decide) (by omega)
 have hmul:aa .mul (.int .i64 7) (.int .i64 (i:Int))=some (.int .i64 ((7*i:Nat):Int)):=by
  simp only [aa,cr,if_true]
  rw [wrap64 (by omega) (by omega)]
  congr 2
 have c:=au (i:=i) (by omega)
 have A:=b.toNat_lt
 have o:=adK b.toNat A
 have p:bE .u64 (.int .u8 ((b.toNat % 128:Nat):Int))=some (.int .u64 ((b.toNat % 128:Nat):Int)):=by
  simp only [bE,xB (show b.toNat % 128 < 2 ^ 64 by omega)]
 have key: ∀d:Nat,b.toNat % 128=d->d*2 ^ (7*i) < 2 ^ 64->
   ((aa .shl (.int .u64 ((b.toNat % 128:Nat):Int)) (.int .i64 ((7*i:Nat):Int))).bind λK=>aa .or (.int .u64 (a:Int)) K)=some (.int .u64 ((a+d*2 ^ (7*i):Nat):Int)):= λd C r=>by
  rw [C,GS (by omega) r,ab,rL (by omega) r,Nat.or_comm,UN _ S,ek]
 have v:(i < 9\/b.toNat<=1)->(i=0\/b.toNat≠0)->((aa .lss (.int .i64 (i:Int)) (.int .i64 9)).bind λZ=>
   ae Z (λ_=>(aa .eql (.int .i64 (i:Int)) (.int .i64 0)).bind λv9=>
    ae v9 (λ_=>(ct (.bool true) (.int .i64 3)).bind λU=>some ([]:List IV)) (λ_=>(aa .neq (.int .u8 (b.toNat:Int)) (.int .u8 0)).bind λG=>(ct G (.int .i64 3)).bind λV=>some ([]:List IV)))
   (λ_=>(aa .leq (.int .u8 (b.toNat:Int)) (.int .u8 1)).bind λH=>
     ae H (λ_=>(aa .eql (.int .i64 (i:Int)) (.int .i64 0)).bind λI=>
      ae I (λ_=>(ct (.bool true) (.int .i64 3)).bind λW=>some ([]:List IV)) (λ_=>(aa .neq (.int .u8 (b.toNat:Int)) (.int .u8 0)).bind λJ=>(ct J (.int .i64 3)).bind λX=>some ([]:List IV)))
     (λ_=>(ct (.bool false) (.int .i64 3)).bind λY=>some ([]:List IV))))=some []:= λh1 h2=>by
  simp only [an,db,eb,gk,ab,bw]
  have O:(i:Int)=0↔i=0:=by omega
  have P:((b.toNat:Int)≠0)↔b.toNat≠0:=by omega
  by_cases q1:(i:Int) < 9
  ·rw [if_pos q1]
   by_cases u:(i:Int)=0
   ·rw [if_pos u];rfl
   ·rw [if_neg u,decide_eq_true (P.2 (h2.resolve_left λe=>u (O.2 e)))];rfl
  ·rw [if_neg q1,if_pos (by omega)]
   by_cases u:(i:Int)=0
   ·rw [if_pos u];rfl
   ·rw [if_neg u,decide_eq_true (P.2 (h2.resolve_left λe=>u (O.2 e)))];rfl
 by_cases h:n < 128
 ·have j:b=Ez n:=by rw [ud h] at g;injection g with h1 h2;exact h1.symm
  have y:b.toNat=n:=by rw [j,oV (by omega)]
  have Q:i < 9\/b.toNat<=1:=by
   rcases gd i 9 with q | q
   ·exact .inl q
   ·right
    obtain rfl:i=9:=by omega
    rw [y];omega
  have hk:=key n (by omega) (by omega)
  have C:s.drop (i+1)=t:=by
   rw [hs,ud h,<-hp]
   simp
  have E:=Be (l:=s) (i:=i+1) (k:= .i64) (by omega)
  have hl:((b.toNat:Int) < 128):=by omega
  simp only [iter]
  unfold aP
  simp only [af,ai,aA,ja,ab,an (.i64) (i:Int) (s.length:Int),hc,decide_true,Hy,L,v Q (by omega),o,p,hmul]
  rw [<-e3,hk]
  simp only [ab,an,hl,decide_true,ah,c,E,C]
 ·have j:b=Ez (n % 128+128):=by rw [Ao h] at g;injection g with h1 h2;exact h1.symm
  have y:b.toNat=n % 128+128:=by rw [j,oV (by omega)]
  have q:i < 9:=by
   rcases gd i 9 with q | q
   ·exact q
   ·obtain rfl:i=9:=by omega
    omega
  have z:2 ^ (7*(i+1))=128*2 ^ (7*i):=by rw [Nat.mul_add,Nat.pow_add,gf]
  have D:n=128*(n / 128)+n % 128:=by omega
  have f:n*2 ^ (7*i)=(n % 128)*2 ^ (7*i)+(n / 128)*(128*2 ^ (7*i)):=by
   conv=>lhs;rw [D,Nat.add_mul]
   rw [gf 128 (n / 128),Nat.mul_assoc,ek]
  have hk:=key (n % 128) (by omega) (by rw [f] at hn;omega)
  have hl: ¬((b.toNat:Int) < 128):=by omega
  have F:aP (B s) [x,.int .u64 (a:Int),.int .i64 (i:Int)]=some (.next [x,.int .u64 ((a+(n % 128)*2 ^ (7*i):Nat):Int),.int .i64 ((i+1:Nat):Int)]):=by
   unfold aP
   simp only [af,ai,aA,ja,ab,an (.i64) (i:Int) (s.length:Int),hc,decide_true,Hy,L,v (.inl q) (by omega),o,p,hmul]
   rw [<-e3,hk]
   simp only [ab,an,hl,decide_false,ag,c]
  simp only [iter,F,ab]
  have M:=ch (2 ^ (7*i)) (show n % 128<=127 by omega)
  rw [ih (n / 128) (by omega) (i+1) (a+(n % 128)*2 ^ (7*i)) m (pre++[b]) x (by rw [hs,Ao h,j];simp) (by simp [hp]) (by rw [z];omega) (by rw [z];rw [f] at hn;omega) (.inr (by omega)) (by omega) (by omega),z]
  have R:a+n % 128*2 ^ (7*i)+n / 128*(128*2 ^ (7*i))=a+n*2 ^ (7*i):=by rw [f];omega
  rw [R]
theorem pT {n:Nat} (h:n < 2 ^ 64) (t:Byt):az (B (aJ n++t)) (.int .i64 0)=some [B t,.int .i64 0,.int .u64 (n:Int)]:=by
 unfold az
 have:=acj (aJ n++t) t 0 n 0 rounds [] (.int .u64 0) (by simp) rfl (by decide) (by omega) (.inl rfl) (by decide) (by rw [bg];decide)
 have h2:iter rounds (aP (B (aJ n++t))) [.int .u64 0,.int .u64 0,.int .i64 0]=some (0,[.int .u64 (n:Int),B t]):=by
  have e:0+n*2 ^ (7*0)=n:=by omega
  rw [e] at this;exact this
 simp [h2]
end Go.AM
namespace Go.AM
theorem yC (l t:Byt) (k:Int) (hk:k=l.length):bj (B (l++t)) (.int .i64 0) (.int .i64 k)=some [B t,.int .i64 0,B l]:=by
 subst hk
 have h1:(0:Int)<=(l.length:Int):=by omega
 have h2:(l.length:Int)<=((l++t).length:Int):=by simp;omega
 have a:=BC (l:=l++t) (i:=l.length) (k:= .i64) (by simp)
 have b:=Be (l:=l++t) (i:=l.length) (k:= .i64) (by simp)
 rw [List.take_left] at a
 rw [List.drop_left] at b
 unfold bj
 simp only [eb,ne_eq,not_true_eq_false,decide_false,ab,af,ag,dm,h1,decide_true,ah,ja,gk,h2,Hy,a,b]
theorem pQ (l:Byt) (e:IV):bl (B l) e=some [.int .i64 l.length]:=by
 show (ft (B l)).bind (λv=>aw [v])=_
 rw [ja];rfl
theorem tP (s:IV) (e:Int):aH s (.int .i64 e)=some [.int .i64 e]:=rfl
theorem Fa:bN (B []) (.int .i64 0)=some [B [],.int .i64 0,.int .i64 0]:=by
 unfold bN
 simp [tP,pQ]
def vf (n:Int):Nat:=if 0<=n then (2*n).toNat else (-2*n - 1).toNat
theorem Kq {n:Int} (h:in64 n):vf n < 2 ^ 64:=by unfold vf;obtain ⟨h1,h2⟩:=h;split<;>omega
theorem abl (z:Int):bC.wrap z=z % 2 ^ 64:=by
 unfold fH
 show (if (false&&decide ((z % (2 ^ 64:Int))>=(2 ^ 63:Int)))=true then (z % (2 ^ 64:Int)) - (2 ^ 64:Int) else (z % (2 ^ 64:Int)))=_
 simp
theorem agW {a:Nat} (h:a < 2 ^ 64):aa .xor (.int .u64 (a:Int)) (.int .u64 0)=some (.int .u64 (a:Int)):=by
 simp only [aa,cr,if_true]
 have:(aB bC.bits (a:Int) ^^^ aB bC.bits 0).toNat=a:=by
  show (aB 64 (a:Int) ^^^ 0#64).toNat=a
  rw [e8,bO,b0,bf h]
 rw [this,xB h]
theorem afO {a:Nat} (h:a < 2 ^ 64):aa .xor (.int .u64 (a:Int)) (.int .u64 18446744073709551615)=some (.int .u64 ((2 ^ 64 - 1 - a:Nat):Int)):=by
 simp only [aa,cr,if_true]
 have:(aB bC.bits (a:Int) ^^^ aB bC.bits 18446744073709551615).toNat=2 ^ 64 - 1 - a:=by
  show (aB 64 (a:Int) ^^^ fr 64).toNat=_
  rw [eZ,e5,bO,b0,bf h]
 rw [this,xB (by omega)]
theorem TG {n:Int} (h:in64 n):lS (.int .i64 n)=some [.int .u64 (vf n:Int)]:=by
 obtain ⟨h1,h2⟩:=h
 have hs:aa .shr (.int .i64 n) (.int .u64 63)=some (.int .i64 (if 0<=n then 0 else -1)):=by
  simp only [aa]
  rw [if_neg (by omega)]
  show some (IV.int .i64 (n.fdiv (2 ^ 63)))=_
  congr 2
  rw [Int.fdiv_eq_ediv_of_nonneg _ (by decide)]
  split<;>omega
 have hl:aa .shl (.int .u64 (n % 2 ^ 64)) (.int .u64 1)=some (.int .u64 ((2*n) % 2 ^ 64)):=by
  simp only [aa]
  rw [if_neg (by omega)]
  show some (IV.int .u64 (bC.wrap (n % 2 ^ 64*2)))=_
  rw [abl]
  congr 2
  omega
 unfold lS
 simp only [bE,abl,ab,hl,hs]
 unfold vf
 by_cases h0:0<=n
 ·rw [if_pos h0,if_pos h0]
  have e:(2*n) % 2 ^ 64=(((2*n).toNat:Nat):Int):=by omega
  have a:(0:Int) % 2 ^ 64=0:=by decide
  rw [e,a,agW (by omega),ab];rfl
 ·rw [if_neg h0,if_neg h0]
  have e:(2*n) % 2 ^ 64=(((2 ^ 64+2*n).toNat:Nat):Int):=by omega
  have a:(-1:Int) % 2 ^ 64=18446744073709551615:=by decide
  rw [e,a,afO (by omega),ab]
  have b:2 ^ 64 - 1 - (2 ^ 64+2*n).toNat=(-2*n - 1).toNat:=by omega
  rw [b];rfl
theorem Qh (z:Int):ck.wrap z=(z+2 ^ 63) % 2 ^ 64 - 2 ^ 63:=by rw [IntKind.wrap_i64];omega
theorem Uh {n:Int} (h:in64 n):qy (.int .u64 (vf n:Int))=some [.int .i64 n]:=by
 obtain ⟨h1,h2⟩:=h
 have hz:=Kq ⟨h1,h2⟩
 have hs:aa .shr (.int .u64 (vf n:Int)) (.int .u64 1)=some (.int .u64 ((vf n / 2:Nat):Int)):=mS (b:=1) (by decide)
 have g:aa .and (.int .u64 (vf n:Int)) (.int .u64 1)=some (.int .u64 ((vf n % 2:Nat):Int)):=by
  rw [show (1:Int)=((1:Nat):Int) from rfl,qU hz (by decide),Nat.and_one_is_mod]
 unfold qy
 simp only [hs,g,ab,bE,Qh]
 by_cases h0:0<=n
 ·have a:((vf n / 2:Nat):Int)=n:=by unfold vf;rw [if_pos h0];omega
  have c:vf n % 2=0:=by unfold vf;rw [if_pos h0];omega
  rw [a,c]
  have d:(n+2 ^ 63) % 2 ^ 64 - 2 ^ 63=n:=by omega
  have e:ll .neg (.int .i64 ((((0:Nat):Int)+2 ^ 63) % 2 ^ 64 - 2 ^ 63))=some (.int .i64 0):=by rfl
  rw [d,e,ab]
  have f:aa .xor (.int .i64 n) (.int .i64 0)=some (.int .i64 n):=by
   simp only [aa,cr,if_true]
   have:(aB ck.bits n ^^^ aB ck.bits 0).toNat=n.toNat:=by
    show (aB 64 n ^^^ 0#64).toNat=_
    rw [e8,e1];omega
   have q:(((n.toNat:Nat):Int)+2 ^ 63) % 2 ^ 64 - 2 ^ 63=n:=by omega
   rw [this,Qh,q]
  rw [f];rfl
 ·have a:((vf n / 2:Nat):Int)= -n - 1:=by unfold vf;rw [if_neg h0];omega
  have c:vf n % 2=1:=by unfold vf;rw [if_neg h0];omega
  rw [a,c]
  have d:(-n - 1+2 ^ 63) % 2 ^ 64 - 2 ^ 63= -n - 1:=by omega
  have e:ll .neg (.int .i64 ((((1:Nat):Int)+2 ^ 63) % 2 ^ 64 - 2 ^ 63))=some (.int .i64 (-1)):=by rfl
  rw [d,e,ab]
  have f:aa .xor (.int .i64 (-n - 1)) (.int .i64 (-1))=some (.int .i64 n):=by
   simp only [aa,cr,if_true]
   have:(aB ck.bits (-n - 1) ^^^ aB ck.bits (-1)).toNat=(2 ^ 64+n).toNat:=by
    show (aB 64 (-n - 1) ^^^ fr 64).toNat=_
    rw [eZ,e5,e1];omega
   have q:((((2 ^ 64+n).toNat:Nat):Int)+2 ^ 63) % 2 ^ 64 - 2 ^ 63=n:=by omega
   rw [this,Qh,q]
  rw [f];rfl
def GR (n:Int):Byt:=aJ (vf n)
theorem afr {n:Int} (h:in64 n) (t:Byt):gP (B (GR n++t)) (.int .i64 0)=some [B t,.int .i64 0,.int .i64 n]:=by
 unfold gP GR
 rw [pT (Kq h)]
 show (qy (.int .u64 (vf n:Int))).bind (λa=>some [B t,.int .i64 0,nth a 0])=_
 rw [Uh h];rfl
theorem oM {α:Type} {f:α->Byt} {l:List α} {i:Nat} {x:α} (h:l[i]? =some x):(l.drop i).flatMap f=f x++(l.drop (i+1)).flatMap f:=by
 have hi:=(ao.1 h).1
 rw [bx hi,bB,(ao.1 h).2]
theorem fj {α:Type} {f:α->Byt} {k:Nat}: ∀{l:List α},(∀x∈l,(f x).length<=k)->(l.flatMap f).length<=k*l.length
 | [],_=>by simp
 | x::l,h=>by
   have h1:=h x br
   have h2:=fj (l:=l) λy a=>h y (bA _ a)
   simp only [bB,bb,b7,Nat.mul_succ];omega
theorem Rc {α:Type} {f:α->Byt}: ∀{l:List α},(∀x∈l,1<=(f x).length)->l.length<=(l.flatMap f).length
 | [],_=>by simp
 | x::l,h=>by
   have h1:=h x br
   have h2:=Rc (l:=l) λy a=>h y (bA _ a)
   simp only [bB,bb,b7];omega
theorem ER (n:Nat):1<=(aJ n).length:=by rw [aJ];split<;>simp
theorem sI {l:List Int} {n:Int} (h:l.length < 2 ^ 20):bS 1 8 (bD l) (.lst [[.int .i64 n]])=some (bD (l++[n])):=by
 simp only [bS]
 rw [if_pos ⟨by simp;omega,by simp⟩]
 simp [Y7]
def wI (z:Int):Int:=ck.wrap z
theorem YJ (z:Int):in64 (wI z):=by unfold wI;rw [Qh];constructor<;>omega
def zA:Int->List Int->List Int
 | _,[]=>[]
 | a,n::ns=>wI (n - a)::zA n ns
theorem rK: ∀(a:Int) (ns:List Int),(zA a ns).length=ns.length
 | _,[]=>rfl
 | a,n::ns=>by simp [zA,rK n ns]
theorem SI: ∀(a:Int) (ns:List Int),∀x∈zA a ns,in64 x
 | _,[],x,h=>by cases h
 | a,n::ns,x,h=>by
   rcases e2.1 h with rfl | h
   ·exact YJ _
   ·exact SI n ns x h
def deltaL (ns:List Int):Byt:=(zA 0 ns).flatMap GR
theorem TZ {n:Int} (h:in64 n):(GR n).length<=10:=aM (Kq h)
theorem gv {ns:List Int}:(deltaL ns).length<=10*ns.length:=by
 have:=fj (l:=zA 0 ns) (f:=GR) λx hx=>TZ (SI 0 ns x hx)
 rw [rK] at this;exact this
theorem LW: ∀(ns:List Int) (a:Int) (acc:Byt),acc.length+10*ns.length < 2 ^ 40->s7 lS b9 a (ns.map Y7) ⟨acc.toArray⟩=some [B (acc++(zA a ns).flatMap GR)]
 | [],a,acc,_=>by simp [s7,zA,B]
 | n::ns,a,acc,h=>by
   have hz:=TG (YJ (n - a))
   have hp:=dC (Kq (YJ (n - a)))
   have hl:=TZ (YJ (n - a))
   have ih:=LW ns n (acc++GR (wI (n - a))) (by simp at h ⊢;omega)
   show (lS (.int .i64 (wI (n - a)))).bind _=_
   rw [hz,ab,af,hp,ab,af]
   have e:(⟨acc.toArray⟩:ByteArray)++(⟨(aJ (vf (wI (n - a)))).toArray⟩:ByteArray)=⟨(acc++GR (wI (n - a))).toArray⟩:=by
    apply ByteArray.ext
    simp [ByteArray.data_append,GR]
   show (if (⟨acc.toArray⟩:ByteArray).size+(⟨(aJ (vf (wI (n - a)))).toArray⟩:ByteArray).size<=140737488355328 then s7 lS b9 n (ns.map Y7) ((⟨acc.toArray⟩:ByteArray)++(⟨(aJ (vf (wI (n - a)))).toArray⟩:ByteArray)) else none)=_
   rw [if_pos (by rw [wM,wM];simp at h;unfold GR at hl;omega),e,ih]
   simp [zA]
theorem ov {ns:List Int} (h:ns.length < 2 ^ 16):gg (bD ns)=some [B (deltaL ns)]:=by
 unfold gg L8
 simp only [a1]
 rw [if_pos (by omega)]
 have:=LW ns 0 [] (by simp;omega)
 simpa [deltaL] using this
theorem Ol: ∀{ns:List Int},ns.length < 2 ^ 16->(∀n∈ns,in64 n)->pR (bD (zA 0 ns))=some [bD ns]:=by
 intro ns h b
 unfold pR
 simp only [ax,ab,a1,rK]
 have o: ∀(i:Nat) (x:Int) (ns:List Int) (a:Int),ns[i]? =some x->(zA a ns)[i]? =some (wI (x - (a::ns).getD i 0)):=by
  intro i
  induction i with
  | zero=>intro x ns a hx;cases ns with
    | nil=>simp at hx
    | cons n ns=>simp at hx;subst hx;rfl
  | succ i ih=>intro x ns a hx;cases ns with
    | nil=>simp at hx
    | cons n ns=>simp at hx;have:=ih x ns n hx;simpa [zA] using this
 rw [kX (vs0:=[.lst [],.int .i64 0,.int .i64 0]) (λi (s:List Int)=>[bD s,.int .i64 ((0::ns).getD i 0),.int .i64 (i:Int)]) (λs x=>s++[x]) 0 (λs=>[bD s]) (λi s=>s.length=i) ns [] rfl (by have:=bg;omega) rfl]
 ·have:ns.foldl (λs x=>s++[x]) []=ns:=by
   have: ∀(l a:List Int),l.foldl (λs x=>s++[x]) a=a++l:= λl=>by
    induction l with
    | nil=>simp
    | cons x l ih=>intro a;simp [ih]
   simp [this]
  simp [this]
 ·intro i s x hx k
  have hi:i < ns.length:=(ao.1 hx).1
  have e:=nk (o i x ns 0 hx)
  have d:=b x (a5 hx)
  have p:(0::ns).getD (i+1) 0=x:=by simp [a7,hx]
  have g:in64 ((0::ns).getD i 0):=by
   cases i with
   | zero=>show in64 0;exact ⟨by decide,by decide⟩
   | succ j=>
     have hj:j < ns.length:=by omega
     rw [a7,List.getElem?_cons_succ,al hj]
     exact b _ (List.getElem_mem hj)
  refine ⟨by simp [k],?_⟩
  unfold wG
  have c:aa .add (.int .i64 ((0::ns).getD i 0)) (.int .i64 (wI (x - (0::ns).getD i 0)))=some (.int .i64 x):=by
   simp only [aa,cr,if_true]
   obtain ⟨q,r⟩:=d
   obtain ⟨m,b2⟩:=g
   generalize (0::ns).getD i 0=y at m b2
   congr 2
   unfold wI
   rw [Qh,Qh];omega
  have f:((i:Int) < (ns.length:Int)):=by omega
  simp only [af,ai,aA,an,f,decide_true,ab,ah,e,c,sI (show s.length < 2 ^ 20 by omega),au (show i < 2 ^ 62 by omega),p]
 ·intro s k
  unfold wG
  simp
theorem eM {ns:List Int} (h:ns.length < 2 ^ 16) (j: ∀n∈ns,in64 n):bt (B (deltaL ns)) (.int .i64 ns.length)=some [bD ns,.int .i64 0]:=by
 unfold bt
 have o: ¬((ns.length:Int) < 0):=by omega
 have p: ¬(((deltaL ns).length:Int) < (ns.length:Int)):=by
  have:=Rc (l:=zA 0 ns) (f:=GR) λx _=>ER _
  rw [rK] at this
  unfold deltaL;omega
 simp only [an,o,decide_false,ab,ag,ja,aR,p]
 have g:cg (B (deltaL ns))=some [B (deltaL ns),.int .i64 0]:=rfl
 simp only [g,ab,af,ai]
 rw [kX (vs0:=[B (deltaL ns),.int .i64 0,.lst [],.int .i64 0]) (λi (s:List Int)=>[B (((zA 0 ns).drop i).flatMap GR),.int .i64 0,bD s,.int .i64 (i:Int)]) (λs x=>s++[x]) 0 (λs=>[B [],.int .i64 0,bD s]) (λi s=>s.length=i) (zA 0 ns) [] rfl (by have:=bg;rw [rK];omega) rfl]
 ·have: ∀(l a:List Int),l.foldl (λs x=>s++[x]) a=a++l:= λl=>by
   induction l with
   | nil=>simp
   | cons x l ih=>intro a;simp [ih]
  simp only [this,cl,ab,aW,af,ai,aA,Fa]
  show (aa .neq (.int .i64 0) (.int .i64 0)).bind _=_
  simp [Ol h j]
 ·intro i s x hx m
  have hi:i < (zA 0 ns).length:=(ao.1 hx).1
  rw [rK] at hi
  refine ⟨by simp [m],?_⟩
  have d:=afr (SI 0 ns x (a5 hx)) (((zA 0 ns).drop (i+1)).flatMap GR)
  rw [<-oM hx] at d
  have k:((i:Int) < (ns.length:Int)):=by omega
  have hdr: ∀a b c:IV,([a,b,c]:List IV).drop 2=[c]:= λ_ _ _=>rfl
  unfold sg
  simp only [af,ai,aA,aD,an,k,decide_true,ab,ah,d,hdr,sI (show s.length < 2 ^ 20 by omega),au (show i < 2 ^ 62 by omega)]
 ·intro s m
  unfold sg
  have e:(zA 0 ns).drop ns.length=[]:=ds (by rw [rK];exact b5 _)
  simp [rK,e]
end Go.AM
namespace Go.AM
theorem CY {f:List IV->Option SR} (enc:Nat->List IV) (n a:Nat) (out:List IV) (hs: ∀i,i < n->f (enc i)=some (.next (enc (i+1)))) (he:f (enc n)=some (.done a out)): ∀(m i:Nat),i<=n->n - i < m->iter m f (enc i)=some (a,out)
 | 0,i,_,h=>by omega
 | m+1,i,hi,hm=>by
   by_cases h:i=n
   ·subst h;exact gL m he
   ·rw [oN m (hs i (by omega))]
    exact CY enc n a out hs he m (i+1) (by omega) (by omega)
theorem aN {f:List IV->Option SR} {vs0:List IV} (enc:Nat->List IV) (n a:Nat) (out:List IV) (h0:vs0=enc 0) (hn:n < 999999) (hs: ∀i,i < n->f (enc i)=some (.next (enc (i+1)))) (he:f (enc n)=some (.done a out)):iter rounds f vs0=some (a,out):=by
 subst h0
 exact CY enc n a out hs he rounds 0 (e9 _) (by rw [bg];omega)
theorem mN {α:Type} {f:α->Byt} {l:List α} {i:Nat} {x:α} (h:l[i]? =some x):(l.take (i+1)).flatMap f=(l.take i).flatMap f++f x:=by
 rw [bn h];simp
theorem aa9 (l:Byt):yg ⟨l.toArray⟩=l.map eB:=by simp [yg,eB]
theorem oI {x:IV} {a b:Byt} (h:a.length+b.length<=140737488355328):mo [[x,.lst (a.map eB)],[B b]]=some [.nilp,.lst ((a++b).map eB),.int .i64 b.length,.nilf]:=by
 show (if (a.map eB).length+(⟨b.toArray⟩:ByteArray).size<=140737488355328 then some [IV.nilp,.lst (a.map eB++yg ⟨b.toArray⟩),.int .i64 (⟨b.toArray⟩:ByteArray).size,.nilf] else none)=_
 rw [if_pos (by rw [wM];simpa using h),aa9,wM,List.map_append]
theorem dT {a:Nat} {k:IntKind} (h:a < 2 ^ 64):bE .u64 (.int k (a:Int))=some (.int .u64 (a:Int)):=by simp only [bE,xB h]
theorem fA {a:Nat} {k:IntKind} (h:a < 2 ^ 63):bE .i64 (.int k (a:Int))=some (.int .i64 (a:Int)):=by simp only [bE];rw [wrap64 (by omega) (by omega)]
def eU (n:Nat):List IV:=[.int .u64 (n:Int)]
abbrev NO (l:List Nat):IV:= .lst (l.map eU)
theorem ac3 {l:List Nat} {i:Nat} {x:Nat} (h:l[i]? =some x):aK (NO l) (.int .i64 (i:Int)) 1=some i/\dh (NO l) i 0=some (.int .u64 (x:Int)):=
 ⟨dY h rfl (by decide),by rw [cf h];rfl⟩
theorem acd {l k:List Nat} (hl:l.length < 2 ^ 20) (hk:k.length < 2 ^ 20):bS 1 8 (NO l) (NO k)=some (NO (l++k)):=by
 simp only [bS]
 rw [if_pos ⟨by simp;omega,by simp [eU]⟩]
 simp
abbrev Rn:=Nat×Nat
def eRn (r:Rn):List IV:=[.int .u64 (r.1:Int),.int .i64 (r.2:Int)]
abbrev yf (l:List Rn):IV:= .lst (l.map eRn)
theorem QP {l:List Rn} {i:Nat} {x:Rn} (h:l[i]? =some x):aK (yf l) (.int .i64 (i:Int)) 2=some i/\eo (yf l) i 0 2=some (eRn x)/\dh (yf l) i 0=some (.int .u64 (x.1:Int))/\dh (yf l) i 1=some (.int .i64 (x.2:Int)):=
 ⟨dY h rfl (by decide),rM h rfl,by rw [cf h];rfl,by rw [cf h];rfl⟩
theorem S9 {l:List Rn} {r:Rn} (hl:l.length < 2 ^ 20):bS 2 16 (yf l) (.lst [eRn r])=some (yf (l++[r])):=by
 simp only [bS]
 rw [if_pos ⟨by simp;omega,by simp [eRn]⟩]
 simp
def IW (rs:List Rn) (x:Nat):List Rn:=match rs.getLast? with
 | some r=>if r.1=x then rs.set (rs.length - 1) (r.1,r.2+1) else rs++[(x,1)]
 | none=>[(x,1)]
def cP (l:List Nat):List Rn:=l.foldl IW []
def sprR (rs:List Rn):List Nat:=rs.flatMap λr=>ad r.2 r.1
structure OkR (l:List Nat) (rs:List Rn):Prop where
 spr:sprR rs=l
 cnt: ∀r∈rs,1<=r.2
 adj: ∀i r q,rs[i]? =some r->rs[i+1]? =some q->r.1≠q.1
 val: ∀r∈rs,r.1 < 2 ^ 64
theorem OkR.add {l:List Nat} {rs:List Rn} (h:OkR l rs) {x:Nat} (hx:x < 2 ^ 64):OkR (l++[x]) (IW rs x):=by
 unfold IW
 split
 ·rename_i r hr
  obtain ⟨ini,rfl⟩:=c7.1 hr
  split
  ·rename_i g
   have e:(ini++[r]).set ((ini++[r]).length - 1) (r.1,r.2+1)=ini++[(r.1,r.2+1)]:=by simp
   rw [e]
   refine ⟨?_,?_,?_,?_⟩
   ·rw [<-h.spr]
    simp only [sprR,cv,bB,List.flatMap_nil,List.append_nil,bM]
    rw [List.replicate_succ',g]
   ·intro q c
    rcases cO.1 c with c | c
    ·exact h.cnt q (eP _ c)
    ·simp at c;subst c;show 1<=r.2+1;omega
   ·intro i a b f hb
    have hi:i+1 < (ini++[(r.1,r.2+1)]).length:=(ao.1 hb).1
    simp at hi
    rw [a2 (by omega)] at f
    by_cases d:i+1 < ini.length
    ·rw [a2 d] at hb
     exact h.adj i a b (by rw [a2 (by omega)];exact f) (by rw [a2 d];exact hb)
    ·rw [bd (by omega)] at hb
     have:i+1 - ini.length=0:=by omega
     rw [this] at hb
     simp at hb;subst hb
     exact h.adj i a r (by rw [a2 (by omega)];exact f) (by rw [bd (by omega),this];rfl)
   ·intro q c
    rcases cO.1 c with c | c
    ·exact h.val q (eP _ c)
    ·simp at c;subst c;exact h.val r (by simp)
  ·rename_i g
   refine ⟨?_,?_,?_,?_⟩
   ·rw [<-h.spr];simp [sprR]
   ·intro q c
    rcases cO.1 c with c | c
    ·exact h.cnt q c
    ·simp at c;subst c;exact b5 1
   ·intro i a b f hb
    have hi:i+1 < (ini++[r]++[(x,1)]).length:=(ao.1 hb).1
    simp at hi
    by_cases d:i+1 < (ini++[r]).length
    ·rw [a2 d] at hb
     rw [a2 (by omega)] at f
     exact h.adj i a b f hb
    ·simp at d
     have e:i=ini.length:=by omega
     subst e
     simp at f hb
     subst f hb
     exact g
   ·intro q c
    rcases cO.1 c with c | c
    ·exact h.val q c
    ·simp at c;subst c;exact hx
 ·rename_i hr
  rw [c8] at hr
  subst hr
  have hl:l=[]:=h.spr.symm
  subst hl
  refine ⟨by simp [sprR],λq c=>by simp at c;subst c;exact b5 1,λi a b f hb=>by simp at hb,λq c=>by simp at c;subst c;exact hx⟩
theorem HN: ∀(l a:List Nat) (rs:List Rn),OkR a rs->(∀x∈l,x < 2 ^ 64)->OkR (a++l) (l.foldl IW rs)
 | [],a,rs,h,_=>by simpa using h
 | x::l,a,rs,h,hx=>by
   have:=HN l (a++[x]) (IW rs x) (h.add (hx x br)) λy b=>hx y (bA _ b)
   simpa using this
theorem OkR.len {l:List Nat} {rs:List Rn} (h:OkR l rs):rs.length<=l.length:=by
 rw [<-h.spr]
 have: ∀rs:List Rn,(∀r∈rs,1<=r.2)->rs.length<=(sprR rs).length:=by
  intro rs
  induction rs with
  | nil=>intro _;simp
  | cons r rs ih=>
    intro h
    have h1:=h r br
    have h2:=ih λq a=>h q (bA _ a)
    simp only [sprR,bB,bb,a8,b7] at h2 ⊢
    omega
 exact this rs h.cnt
theorem Xq {l:List Nat} (h: ∀x∈l,x < 2 ^ 64):OkR l (cP l):=by
 have:=HN l [] [] ⟨rfl,by simp,by simp,by simp⟩ h
 simpa [cP] using this
theorem WQ {l:List Nat} (hl:l.length < 2 ^ 16) (h: ∀x∈l,x < 2 ^ 64):jz (NO l)=some [yf (cP l)]:=by
 unfold jz
 simp only [ax,ab,a1]
 rw [aN (λi=>[yf ((l.take i).foldl IW []),.int .i64 (i:Int)]) l.length 0 [yf (cP l)] (by simp) (by omega) (λi hi=> ?_) (by
  unfold qg
  simp [cP])]
 ·simp
 ·have hx:=al hi
  generalize l[i]=x at hx
  obtain ⟨n,o⟩:=ac3 hx
  have k:((i:Int) < (l.length:Int)):=by omega
  have hok:=HN (l.take i) [] [] ⟨rfl,by simp,by simp,by simp⟩ λy w=>h y (bR w)
  simp only [cl] at hok
  have hlen:=hok.len
  simp only [bn hx,List.foldl_append,List.foldl_cons,List.foldl_nil]
  generalize v:(l.take i).foldl IW []=rs at*
  simp only [ca] at hlen
  have a:=au (i:=i) (by omega)
  unfold qg
  simp only [af,ai,an,k,decide_true,ah,ab,n,o,bZ,a1]
  unfold IW
  cases j:rs.getLast? with
  | none=>
    rw [c8] at j
    subst j
    have e:aa .sub (.int .i64 ((([]:List Rn).length:Nat):Int)) (.int .i64 1)=some (.int .i64 (-1)):=rfl
    have g:aa .geq (.int .i64 (-1)) (.int .i64 0)=some (.bool false):=rfl
    have c:=S9 (l:=[]) (r:=(x,1)) (by decide)
    simp only [eRn] at c
    simp only [e,g,ab,ag,af,a,cl] at c ⊢
    have s:bS 2 16 (yf []) (.lst [[.int .u64 (x:Int),.int .i64 1]])=some (yf [(x,1)]):=c
    rw [s];rfl
  | some r=>
    obtain ⟨ini,b⟩:=c7.1 j
    have f:0 < rs.length:=by rw [b];simp
    have d:rs[rs.length - 1]? =some r:=by rw [b];simp
    obtain ⟨z,b2,p,q⟩:=QP d
    have e:=tq (i:=rs.length) (by omega) f
    have g:aa .geq (.int .i64 ((rs.length - 1:Nat):Int)) (.int .i64 0)=some (.bool true):=by rw [dm];simp
    have t:bU rs.length (.int .i64 ((rs.length - 1:Nat):Int))=some (rs.length - 1):=dj (by omega)
    simp only [e,g,ab,ah,t,p,db]
    by_cases hr:r.1=x
    ·have h1:((r.1:Int)=(x:Int)):=by omega
     have hc:r.2<=l.length:=by
      have h2:(ad r.2 r.1).length<=(sprR rs).length:=by
       rw [b];simp [sprR]
      rw [hok.spr] at h2
      simp at h2;omega
     have u:aa .add (.int .i64 (r.2:Int)) (.int .i64 1)=some (.int .i64 ((r.2+1:Nat):Int)):=au (by omega)
     have m:r8 (yf rs) (rs.length - 1) 1 [.int .i64 ((r.2+1:Nat):Int)]=some (yf (rs.set (rs.length - 1) (r.1,r.2+1))):=by
      simp only [r8,dq,d,b1,ab]
      rw [if_pos (by simp [eRn])]
      simp [setCells,eRn,List.map_set]
     simp only [h1,decide_true,af,ah,q,ab,u,m,a,hr,if_true]
    ·have h1: ¬((r.1:Int)=(x:Int)):=by omega
     have c:bS 2 16 (yf rs) (.lst [[.int .u64 (x:Int),.int .i64 1]])=some (yf (rs++[(x,1)])):=S9 (r:=(x,1)) (by omega)
     simp only [h1,decide_false,af,ag,ab,c,a,hr,if_false]
def Wf (r:Rn):Byt:=aJ r.1++aJ r.2
def pX (l:List Nat):Byt:=(cP l).flatMap Wf
theorem YP {l:List Nat} {rs:List Rn} (h:OkR l rs) {i:Nat} {r:Rn} (hr:rs[i]? =some r):r.2+(sprR (rs.take i)).length<=l.length:=by
 have hi:=(ao.1 hr).1
 have:(sprR (rs.take (i+1))).length<=(sprR rs).length:=by
  conv=>rhs;rw [<-b6 (i+1) rs]
  unfold sprR
  rw [cv,bb]
  exact Nat.le_add_right _ _
 rw [bn hr,h.spr] at this
 simp [sprR] at this ⊢
 omega
theorem Yc {r:Rn} (h1:r.1 < 2 ^ 64) (h2:r.2 < 2 ^ 64):(Wf r).length<=20:=by
 have:=aM h1;have:=aM h2
 simp [Wf];omega
theorem OkR.cmax {l:List Nat} {rs:List Rn} (h:OkR l rs) (hl:l.length < 2 ^ 16): ∀r∈rs,r.2 < 2 ^ 16:= λr hr=>by
 obtain ⟨i,hi⟩:=bs.1 hr
 have:=YP h hi
 omega
theorem B8 {l:List Nat} (hl:l.length < 2 ^ 16) (h: ∀x∈l,x < 2 ^ 64):(pX l).length<=20*l.length:=by
 have hok:=Xq h
 have h1:=fj (f:=Wf) (l:=cP l) (k:=20) λr hr=>Yc (hok.val r hr) (by have:=hok.cmax hl r hr;omega)
 have h2:=hok.len
 unfold pX;omega
theorem Bl {l:List Nat} (hl:l.length < 2 ^ 16) (h: ∀x∈l,x < 2 ^ 64):kZ (NO l)=some [B (pX l)]:=by
 have hok:=Xq h
 have hlen:=hok.len
 have c:=hok.cmax hl
 unfold kZ
 simp only [WQ hl h,ab,af,ax,a1]
 rw [aN (λi=>[.nilp,.lst ((((cP l).take i).flatMap Wf).map eB),.int .i64 (i:Int)]) (cP l).length 0 [.nilp,.lst ((pX l).map eB)] (by simp) (by omega) (λi hi=> ?_) (by
  unfold tx
  simp [pX])]
 ·simp only [ab,aW,ai,mD]
  rfl
 ·have hx:=al hi
  generalize (cP l)[i]=r at hx
  have hr:=a5 hx
  obtain ⟨o,b2,p,s⟩:=QP hx
  have e:((i:Int) < ((cP l).length:Int)):=by omega
  have h1:=hok.val r hr
  have h2:=c r hr
  have d:=fj (f:=Wf) (l:=(cP l).take i) (k:=20) λq m=>Yc (hok.val q (bR m)) (by have:=c q (bR m);omega)
  have t:=aM h1
  have u:=aM (n:=r.2) (by omega)
  simp only [ca] at d
  have g:=oI (x:= .nilp) (a:=((cP l).take i).flatMap Wf) (b:=aJ r.1) (by omega)
  have j:=oI (x:= .nilp) (a:=((cP l).take i).flatMap Wf++aJ r.1) (b:=aJ r.2) (by rw [bb];omega)
  unfold tx
  simp only [af,ai,aA,an,e,decide_true,ah,ab,o,b2,eRn,dC h1,g,dT (show r.2 < 2 ^ 64 by omega),dC (show r.2 < 2 ^ 64 by omega),j,au (show i < 2 ^ 62 by omega),mN hx,Wf,bM]
end Go.AM
namespace Go.AM
theorem Qz {a b:Nat} (h:a*b < 2 ^ 64):aa .mul (.int .u64 (a:Int)) (.int .u64 (b:Int))=some (.int .u64 ((a*b:Nat):Int)):=by
 simp only [aa,cr,if_true]
 rw [<-Int.natCast_mul,xB h]
theorem FK {n:Nat} (h:n < 2 ^ 32):qH (.int .u64 1) (.int .u64 (n:Int))=some [.int .u64 0,.int .u64 (n:Int)]:=by
 have c:aa .and (.int .u64 1) (.int .u64 4294967295)=some (.int .u64 1):=rfl
 have d:aa .shr (.int .u64 1) (.int .u64 32)=some (.int .u64 0):=rfl
 have f:aa .and (.int .u64 (n:Int)) (.int .u64 4294967295)=some (.int .u64 (n:Int)):=by
  have e:n&&&4294967295=n:=by
   have:=Nat.and_two_pow_sub_one_eq_mod n 32
   rw [show (2:Nat) ^ 32 - 1=4294967295 from rfl,bf h] at this
   exact this
  have:=qU (a:=n) (b:=4294967295) (by omega) (by decide)
  rw [e] at this;exact this
 have g:aa .shr (.int .u64 (n:Int)) (.int .u64 32)=some (.int .u64 0):=by
  have:=mS (a:=n) (b:=32) (k:= .u64) (by decide)
  rw [Nat.div_eq_of_lt h] at this;exact this
 have i:aa .mul (.int .u64 1) (.int .u64 (n:Int))=some (.int .u64 (n:Int)):=by
  have:=Qz (a:=1) (b:=n) (by omega)
  rw [Nat.one_mul] at this;exact this
 have j:aa .mul (.int .u64 0) (.int .u64 (n:Int))=some (.int .u64 0):=by
  have:=Qz (a:=0) (b:=n) (by omega)
  rw [Nat.zero_mul] at this;exact this
 have l:aa .add (.int .u64 0) (.int .u64 0)=some (.int .u64 0):=rfl
 have b2:aa .and (.int .u64 0) (.int .u64 4294967295)=some (.int .u64 0):=rfl
 have m:aa .shr (.int .u64 0) (.int .u64 32)=some (.int .u64 0):=rfl
 have o:aa .mul (.int .u64 1) (.int .u64 0)=some (.int .u64 0):=rfl
 have p:aa .mul (.int .u64 0) (.int .u64 0)=some (.int .u64 0):=rfl
 unfold qH sV
 simp only [c,d,f,g,i,j,l,b2,m,o,p,ab,xl,eh,b1,af,ai]
theorem abc {x z:IV} {m n:Nat} (h:m<=n):qx 1 (.lst (ad m [x]++ad (n - m) [z])) m n (Ej (.lst (ad m [x]++ad (n - m) [z])) 0 m)=some (.lst (ad (m+min (n - m) m) [x]++ad (n - (m+min (n - m) m)) [z]),.int .i64 ((min (n - m) m:Nat):Int)):=by
 have a:(ad m [x]++ad (n - m) [z]).take m=ad m [x]:=List.take_left' (by simp)
 simp only [YV,fl,fz,a,qx,a8]
 rw [if_pos ⟨h,by simp;omega,by simp⟩]
 have b:(ad m [x]++ad (n - m) [z]).drop (m+min (n - m) m)=ad (n - (m+min (n - m) m)) [z]:=by
  rw [List.drop_append]
  simp
  omega
 simp only [a8,b,List.take_replicate]
 rw [List.replicate_append_replicate,Nat.min_eq_left (Nat.min_le_right _ _)]
theorem Lr {x z:IV} {n:Nat} (hn:n < 2 ^ 16): ∀(j m:Nat),1<=m->m<=n->n - m < j->iter j bT [.lst (ad m [x]++ad (n - m) [z]),.int .i64 (m:Int)]=some (0,[.lst (ad n [x])])
 | 0,m,_,_,h=>by omega
 | j+1,m,h1,h2,c=>by
   by_cases h:m=n
   ·subst h
    refine gL j ?_
    unfold bT
    simp
   ·have b:((m:Int) < (n:Int)):=by omega
    have hl:(ad m [x]++ad (n - m) [z]).length=n:=by simp;omega
    have a:aa .add (.int .i64 (m:Int)) (.int .i64 ((min (n - m) m:Nat):Int))=some (.int .i64 ((m+min (n - m) m:Nat):Int)):=wW (by omega)
    rw [oN j (vs':=[.lst (ad (m+min (n - m) m) [x]++ad (n - (m+min (n - m) m)) [z]),.int .i64 ((m+min (n - m) m:Nat):Int)])]
    ·exact Lr hn j _ (by omega) (by omega) (by omega)
    ·unfold bT
     simp only [af,ai,bZ,hl,an,b,decide_true,ah,ab,Bm (show m<=n from h2),KT (show m<=n from h2),abc h2,a]
theorem YZ {x:IV} {n:Nat} (hn:n < 2 ^ 16):dk (.lst [[x]]) (.int .i64 (n:Int))=some [.lst (ad n [x])]:=by
 have e0: ¬((n:Int) < 0):=by omega
 have a:aC (.lst [[x]])=some (.int .i64 1):=rfl
 have b:bE .u64 (.int .i64 1)=some (.int .u64 1):=rfl
 have c:aa .gtr (.int .u64 0) (.int .u64 0)=some (.bool false):=rfl
 have d: ¬((9223372036854775807:Int) < (n:Int)):=by omega
 have e:lr 8 [.int .u64 0] (.int .i64 (n:Int)) (.int .i64 (n:Int))=some (.lst (ad n [.int .u64 0])):=by
  simp only [lr]
  rw [if_pos ⟨trivial,by omega,by simp;omega⟩];simp
 have f:qx 1 (.lst (ad n [.int .u64 0])) 0 n (.lst [[x]])=some (.lst (ad (min n 1) [x]++ad (n - min n 1) [.int .u64 0]),.int .i64 ((min n 1:Nat):Int)):=by
  simp only [qx]
  rw [if_pos ⟨e9 _,by simp,by simp⟩]
  have:([[x]]:List (List IV)).take (min n 1)=ad (min n 1) [x]:=by
   rcases bm n with h | h
   ·subst h;rfl
   ·rw [cb h];rfl
  simp [this]
 unfold dk
 simp only [an,e0,decide_false,ab,ag,a,b,dT (show n < 2 ^ 64 by omega),FK (show n < 2 ^ 32 by omega),af,ai,c,aR,d,fA (show n < 2 ^ 63 by omega),e,bZ,a8,f]
 rcases bm n with h | h
 ·subst h
  rw [show rounds=999999+1 from rfl,gL 999999 (k:=0) (o:=[.lst []])]
  ·rfl
  ·unfold bT
   simp
 ·rw [cb h,Lr hn rounds 1 (b5 _) h (by rw [bg];omega)]
  rfl
theorem XI {x:IV} {n:Nat} (hn:n < 2 ^ 16):ec (.lst [[x]]) (.int .i64 (n:Int))=some [.lst (ad n [x])]:=by
 have e0: ¬((n:Int) < 0):=by omega
 have b:aC (.lst [[x]])=some (.int .i64 1):=rfl
 have c:bE .u64 (.int .i64 1)=some (.int .u64 1):=rfl
 have d:aa .gtr (.int .u64 0) (.int .u64 0)=some (.bool false):=rfl
 have e: ¬((9223372036854775807:Int) < (n:Int)):=by omega
 have f:lr 1 [.bool false] (.int .i64 (n:Int)) (.int .i64 (n:Int))=some (.lst (ad n [.bool false])):=by
  simp only [lr]
  rw [if_pos ⟨trivial,by omega,by simp;omega⟩];simp
 have g:qx 1 (.lst (ad n [.bool false])) 0 n (.lst [[x]])=some (.lst (ad (min n 1) [x]++ad (n - min n 1) [.bool false]),.int .i64 ((min n 1:Nat):Int)):=by
  simp only [qx]
  rw [if_pos ⟨e9 _,by simp,by simp⟩]
  have:([[x]]:List (List IV)).take (min n 1)=ad (min n 1) [x]:=by
   rcases bm n with h | h
   ·subst h;rfl
   ·rw [cb h];rfl
  simp [this]
 have a:qw=bT:=rfl
 unfold ec
 simp only [an,e0,decide_false,ab,ag,b,c,dT (show n < 2 ^ 64 by omega),FK (show n < 2 ^ 32 by omega),af,ai,d,aR,e,fA (show n < 2 ^ 63 by omega),f,bZ,a8,g,a]
 rcases bm n with h | h
 ·subst h
  rw [show rounds=999999+1 from rfl,gL 999999 (k:=0) (o:=[.lst []])]
  ·rfl
  ·unfold bT
   simp
 ·rw [cb h,Lr hn rounds 1 (b5 _) h (by rw [bg];omega)]
  rfl
theorem UE {l:List Nat} {rs:List Rn} (h:OkR l rs) (hl:rs.length < 2 ^ 16):ui (yf rs)=some [.bool true]:=by
 unfold ui
 simp only [ax,ab,a1]
 rw [aN (λi=>[.int .i64 (i:Int)]) rs.length 0 [] (by simp) (by omega) (λi hi=> ?_) (by
  unfold Ad
  simp)]
 ·rfl
 ·have hx:=al hi
  generalize rs[i]=r at hx
  obtain ⟨d,b2,f,g⟩:=QP hx
  have b:((i:Int) < (rs.length:Int)):=by omega
  have hc: ¬((r.2:Int) < 1):=by have:=h.cnt r (a5 hx);omega
  have hs:=au (i:=i) (by omega)
  unfold Ad
  simp only [af,ai,an,b,decide_true,ah,ab,d,b2,eRn,hc,decide_false,ag,aR]
  by_cases h0:(0:Int) < (i:Int)
  ·have c:=al (show i - 1 < rs.length by omega)
   generalize rs[i - 1]=q at c
   obtain ⟨c1,c2,c3,c4⟩:=QP c
   have e:=h.adj (i - 1) q r c (by rw [show i - 1+1=i by omega];exact hx)
   have a: ¬((q.1:Int)=(r.1:Int)):=by omega
   simp only [h0,decide_true,ah,tq (i:=i) (by omega) (by omega),ab,c1,c3,db,a,decide_false,af,ag,hs]
  ·simp only [h0,decide_false,ag,ab,af,hs]
theorem L4 {l:List Nat} {rs:List Rn} (h:OkR l rs) (hl:l.length < 2 ^ 16):nO (yf rs) (.int .i64 (l.length:Int))=some [NO l,.bool true]:=by
 have hlen:=h.len
 have e0: ¬((l.length:Int) < 0):=by omega
 unfold nO
 simp only [UE h (by omega),ab,af,aY,Bool.not_true,ag,an,e0,decide_false,ax,a1]
 rw [aN (λi=>[NO (sprR (rs.take i)),.int .i64 (i:Int)]) rs.length 0 [NO l] (by simp [sprR]) (by omega) (λi hi=> ?_) (by
  unfold uV
  simp [h.spr])]
 ·rfl
 ·have hx:=al hi
  generalize rs[i]=r at hx
  obtain ⟨g,b2,m,n⟩:=QP hx
  have c:((i:Int) < (rs.length:Int)):=by omega
  have f:=YP h hx
  have b:aa .sub (.int .i64 (l.length:Int)) (.int .i64 ((sprR (rs.take i)).length:Int))=some (.int .i64 ((l.length - (sprR (rs.take i)).length:Nat):Int)):=mM (by omega) (by omega)
  have d: ¬(((l.length - (sprR (rs.take i)).length:Nat):Int) < (r.2:Int)):=by omega
  have a:=acd (l:=sprR (rs.take i)) (k:=ad r.2 r.1) (by omega) (by simp;omega)
  have e:NO (ad r.2 r.1)= .lst (ad r.2 [.int .u64 (r.1:Int)]):=by simp [eU]
  rw [e] at a
  have j:sprR (rs.take (i+1))=sprR (rs.take i)++ad r.2 r.1:=by rw [bn hx];simp [sprR]
  unfold uV
  simp only [af,ai,an,c,decide_true,ah,ab,g,b2,eRn,bZ,a1,b,aR,d,decide_false,ag,YZ (show r.2 < 2 ^ 16 by omega),a,au (show i < 2 ^ 62 by omega),j]
theorem abk {l:List Nat} {rs:List Rn} (h:OkR l rs) {i:Nat} {r:Rn} (hr:rs[i]? =some r):(sprR (rs.drop i)).length=r.2+(sprR (rs.drop (i+1))).length:=by
 have hi:=(ao.1 hr).1
 rw [bx hi,(ao.1 hr).2]
 simp only [sprR,bB,bb,a8]
theorem ae4 {l:List Nat} {rs:List Rn} (h:OkR l rs) (i:Nat):(sprR (rs.drop i)).length<=l.length:=by
 have:(sprR (rs.drop i)).length<=(sprR rs).length:=by
  conv=>rhs;rw [<-b6 i rs]
  unfold sprR
  rw [cv,bb]
  exact Nat.le_add_left _ _
 rw [h.spr] at this;exact this
theorem BB {l:List Nat} (hl:l.length<=4096) (h: ∀x∈l,x < 2 ^ 64):kM (B (pX l)) (.int .i64 (l.length:Int))=some [NO l,.int .i64 0]:=by
 have hok:=Xq h
 have hlen:=hok.len
 have e0: ¬((l.length:Int) < 0):=by omega
 have z: ¬((4096:Int) < (l.length:Int)):=by omega
 have k:cg (B (pX l))=some [B (pX l),.int .i64 0]:=rfl
 unfold kM
 simp only [an,e0,decide_false,ab,ag,aR,z,k,af,ai]
 rw [aN (λi=>[B (((cP l).drop i).flatMap Wf),.int .i64 0,yf ((cP l).take i),.int .i64 ((sprR ((cP l).drop i)).length:Int)]) (cP l).length 0 [yf (cP l),.int .i64 0] (by simp [pX,hok.spr]) (by omega) (λi hi=> ?_) (by
  unfold tF
  simp [pQ,sprR])]
 ·have A:aa .gtr (.int .i64 0) (.int .i64 0)=some (.bool false):=rfl
  simp only [ab,aW,af,ai,A,ag,L4 hok (show l.length < 2 ^ 16 by omega)]
 ·have hx:=al hi
  generalize (cP l)[i]=r at hx
  have hm:=a5 hx
  have F:=oM (f:=Wf) hx
  have hv:=hok.val r hm
  have hc:=hok.cmax (by omega) r hm
  have E:=hok.cnt r hm
  have p:=pT hv (aJ r.2++((cP l).drop (i+1)).flatMap Wf)
  have s:=pT (n:=r.2) (by omega) (((cP l).drop (i+1)).flatMap Wf)
  have hb:((cP l).drop i).flatMap Wf=aJ r.1++(aJ r.2++((cP l).drop (i+1)).flatMap Wf):=by rw [F];simp [Wf]
  have m:(0:Int) < ((((cP l).drop i).flatMap Wf).length:Int):=by
   rw [hb];have:=ER r.1;simp;omega
  have hdr: ∀a b c:IV,([a,b,c]:List IV).drop 2=[c]:= λ_ _ _=>rfl
  have y:=abk hok hx
  have w:=ae4 hok i
  have G: ¬((r.2:Int)=0):=by omega
  have H: ¬(((sprR ((cP l).drop i)).length:Int) < (r.2:Int)):=by omega
  have d:aa .sub (.int .i64 ((sprR ((cP l).drop i)).length:Int)) (.int .i64 (r.2:Int))=some (.int .i64 ((sprR ((cP l).drop (i+1))).length:Int)):=by
   rw [mM (by omega) (by omega)];congr 2;omega
  have e:=S9 (l:=(cP l).take i) (r:=r) (by simp;omega)
  simp only [eRn] at e
  have t:((cP l).take i).length=i:=by simp;omega
  have g:aa .neq (.int .i64 0) (.int .i64 0)=some (.bool false):=rfl
  rw [bn hx]
  unfold tF
  simp only [af,ai,aA,aD,pQ,ab,aR,m,decide_true,ah]
  rw [hb]
  simp only [p,s,ab,af,ai,tP,g,ag,hdr,db,G,aR,decide_false,dT (show (sprR ((cP l).drop i)).length < 2 ^ 64 by omega),H,bZ,a1,t]
  rcases bm i with h0 | h0
  ·subst h0
   have C:aa .sub (.int .i64 ((0:Nat):Int)) (.int .i64 1)=some (.int .i64 (-1)):=rfl
   have o:aa .geq (.int .i64 (-1)) (.int .i64 0)=some (.bool false):=rfl
   simp only [C,o,ab,ag,af,fA (show r.2 < 2 ^ 63 by omega),d,e]
  ·have u:=al (show i - 1 < (cP l).length by omega)
   generalize (cP l)[i - 1]=q at u
   have v:((cP l).take i)[i - 1]? =some q:=by rw [List.getElem?_take_of_lt (by omega)];exact u
   obtain ⟨c1,c2,c3,c4⟩:=QP v
   have g:=hok.adj (i - 1) q r u (by rw [show i - 1+1=i by omega];exact hx)
   have j: ¬((q.1:Int)=(r.1:Int)):=by omega
   have o:aa .geq (.int .i64 ((i - 1:Nat):Int)) (.int .i64 0)=some (.bool true):=by rw [dm];simp
   have D:bU i (.int .i64 ((i - 1:Nat):Int))=some (i - 1):=dj (by omega)
   simp only [tq (i:=i) (by omega) h0,o,ab,ah,D,c3,db,j,decide_false,ag,af,fA (show r.2 < 2 ^ 63 by omega),d,e]
end Go.AM
namespace Go.AM
def eBl (b:Bool):List IV:=[.bool b]
abbrev uN (l:List Bool):IV:= .lst (l.map eBl)
theorem Ye {l:List Bool} {i:Nat} {x:Bool} (h:l[i]? =some x):aK (uN l) (.int .i64 (i:Int)) 1=some i/\dh (uN l) i 0=some (.bool x):=
 ⟨dY h rfl (by decide),by rw [cf h];rfl⟩
theorem adA {l k:List Bool} (hl:l.length < 2 ^ 20) (hk:k.length < 2 ^ 20):bS 1 1 (uN l) (uN k)=some (uN (l++k)):=by
 simp only [bS]
 rw [if_pos ⟨by simp;omega,by simp [eBl]⟩]
 simp
abbrev nI (ns:List Nat):List Int:=ns.map λ(n:Nat)=>(n:Int)
def sprB:Bool->List Nat->List Bool
 | _,[]=>[]
 | b,n::ns=>ad n b++sprB (!b) ns
def zN:Bool->List Bool->List Nat
 | _,[]=>[]
 | b,x::l=>if x=b then (match zN b l with | []=>[1] | n::ns=>(n+1)::ns) else 0::(match zN x l with | []=>[1] | n::ns=>(n+1)::ns)
theorem Sf: ∀(l:List Bool) (b:Bool),sprB b (zN b l)=l/\(∀n∈(zN b l).tail,1<=n)/\zN b l≠[0]
 | [],b=>⟨rfl,by simp [zN],by simp [zN]⟩
 | x::l,b=>by
   unfold zN
   by_cases h:x=b
   ·subst h
    obtain ⟨h1,h2,a⟩:=Sf l x
    rw [if_pos rfl]
    cases hl:zN x l with
    | nil=>rw [hl] at h1;simp only [sprB] at h1;subst h1;simp [sprB]
    | cons n ns=>
      rw [hl] at h1 h2
      simp only [sprB] at h1 ⊢
      refine ⟨by rw [c0,e6,h1],by simpa using h2,by simp⟩
   ·rw [if_neg h]
    have hx:x= !b:=by cases x<;>cases b<;>simp_all
    obtain ⟨h1,h2,a⟩:=Sf l x
    cases hl:zN x l with
    | nil=>rw [hl] at h1;simp only [sprB] at h1;subst h1;simp [sprB,hx]
    | cons n ns=>
      rw [hl] at h1 h2
      simp only [sprB,List.replicate_zero,cl,<-hx] at h1 ⊢
      refine ⟨by rw [c0,e6,h1],λm hm=> ?_,by simp⟩
      rcases e2.1 hm with rfl | hm
      ·omega
      ·exact h2 m hm
def KQ (i:Nat):Bool:=decide (i % 2=1)
theorem AN (i:Nat):KQ (i+1)= !KQ i:=by unfold KQ;by_cases h:i % 2=1<;>simp [h]<;>omega
theorem QG: ∀(ns:List Nat) (b:Bool) (i n:Nat),ns[i]? =some n->sprB b (ns.take (i+1))=sprB b (ns.take i)++ad n (b ^^ KQ i)
 | [],_,_,_,h=>by simp at h
 | m::ns,b,0,n,h=>by simp at h;subst h;simp [sprB,KQ]
 | m::ns,b,i+1,n,h=>by
   have ih:=QG ns (!b) i n (by simpa using h)
   simp only [List.take_succ_cons,sprB]
   rw [ih,<-bM,AN]
   congr 2
   cases b<;>cases KQ i<;>rfl
theorem FX: ∀(ns:List Nat) (b:Bool),(sprB b ns).length=ns.sum
 | [],_=>rfl
 | n::ns,b=>by simp [sprB,FX ns]
theorem Bi {ns:List Nat} {i n:Nat} (h:ns[i]? =some n):(ns.drop i).sum=n+(ns.drop (i+1)).sum:=by
 have hi:=(ao.1 h).1
 rw [bx hi,(ao.1 h).2];simp
theorem B0 (ns:List Nat) (i:Nat):(ns.take i).sum+(ns.drop i).sum=ns.sum:=by
 conv=>rhs;rw [<-b6 i ns]
 rw [List.sum_append]
structure OkB (l:List Bool) (ns:List Nat):Prop where
 spr:sprB false ns=l
 pos: ∀i n,ns[i]? =some n->0 < i->1<=n
 one:ns≠[0]
theorem E8 (l:List Bool):OkB l (zN false l):=by
 obtain ⟨h1,h2,a⟩:=Sf l false
 refine ⟨h1,λi n hn h0=> ?_,a⟩
 refine h2 n ?_
 cases hl:zN false l with
 | nil=>rw [hl] at hn;simp at hn
 | cons m ms=>
   rw [hl] at hn
   obtain ⟨j,rfl⟩: ∃j,i=j+1:=⟨i - 1,by omega⟩
   exact a5 (by simpa using hn)
theorem OkB.sum {l:List Bool} {ns:List Nat} (h:OkB l ns):ns.sum=l.length:=by rw [<-h.spr,FX]
theorem OkB.len {l:List Bool} {ns:List Nat} (h:OkB l ns):ns.length<=l.length+1:=by
 rw [<-h.sum]
 cases ns with
 | nil=>simp
 | cons n ns=>
   have: ∀ns:List Nat,(∀n∈ns,1<=n)->ns.length<=ns.sum:=by
    intro ns
    induction ns with
    | nil=>simp
    | cons m ms ih=>intro hm;have:=ih λq a=>hm q (bA _ a);have:=hm m br;simp;omega
   have:=this ns λm hm=>by
    obtain ⟨i,hi⟩:=bs.1 hm
    exact h.pos (i+1) m (by simpa using hi) (by omega)
   simp;omega
theorem OkB.rest {l:List Bool} {ns:List Nat} (h:OkB l ns) {i:Nat} (hi:i < ns.length):0 < (ns.drop i).sum:=by
 have hx:=al hi
 generalize ns[i]=n at hx
 rw [Bi hx]
 by_cases h0:0 < i
 ·have:=h.pos i n hx h0;omega
 ·obtain rfl:i=0:=by omega
  by_cases hn:n=0
  ·subst hn
   cases ns with
   | nil=>simp at hi
   | cons m ms=>
     simp at hx;subst hx
     cases ms with
     | nil=>exact absurd rfl h.one
     | cons k ks=>have:=h.pos 1 k rfl (by omega);simp;omega
  ·omega
theorem Xh {l:List Bool} (hl:l.length < 2 ^ 16) (b:Bool):fk (uN l) (.bool b)=some [.int .i64 (Qe (λx=>b==x) l)]:=by
 unfold fk
 simp only [ax,ab,a1]
 rw [lM (λi=>[.int .i64 (i:Int)]) (λx=>b==x) 1 (λi=>[.int .i64 (i:Int)]) 0 [] l (by simp) (by have:=bg;omega) (λi x hx=> ?_) (by
  unfold mC
  simp)]
 ·unfold Qe
  cases l.findIdx? λx=>b==x with
  | none=>rfl
  | some i=>rfl
 ·obtain ⟨c,d⟩:=Ye hx
  have a:((i:Int) < (l.length:Int)):=by have:=(ao.1 hx).1;omega
  unfold mC
  simp only [af,an,a,decide_true,ah,ab,c,d,Z5,dr,au (show i < 2 ^ 62 by omega)]
  by_cases h:(b==x)=true<;>simp [h]
theorem ae8 {n:Nat} {b:Bool} {ns:List Nat} (a: ∀m∈ns,1<=m):Qe (λx=>(!b)==x) (sprB b (n::ns))=if ns=[] then -1 else (n:Int):=by
 have h1: ∀k:Nat,(ad k b).findIdx? (λx=>(!b)==x)=none:= λk=>by
  rw [List.findIdx?_eq_none_iff]
  intro x hx
  rw [List.eq_of_mem_replicate hx];cases b<;>rfl
 unfold Qe
 simp only [sprB,List.findIdx?_append,h1]
 cases ns with
 | nil=>simp [sprB]
 | cons m ms=>
   obtain ⟨k,hk⟩: ∃k,m=k+1:=⟨m - 1,by have:=a m br;omega⟩
   subst hk
   simp [sprB,c0,List.findIdx?_cons]
theorem aaW {l:List Bool} {i:Nat} (hi:i<=l.length):ly 1 (uN l) (some (.int .i64 (i:Int))) none=some (uN (l.drop i)):=by
 simp only [ly]
 rw [if_pos (by simp [eBl])]
 simp only [a1,Bm hi,ab]
 rw [<-List.map_drop,<-List.map_take,b3 (by simp)]
theorem HQ {l:List Bool} (hl:l.length < 2 ^ 15):ku (uN l)=some [bD (nI (zN false l))]:=by
 have hok:=E8 l
 generalize zN false l=ns at hok
 have hlen:=hok.len
 have o:=hok.sum
 unfold ku
 rw [aN (λi=>[uN (sprB (KQ i) (ns.drop i)),bD (nI (ns.take i)),.bool (!KQ i)]) ns.length 0 [bD (nI ns)] (by simp [KQ,hok.spr]) (by omega) (λi hi=> ?_) (by
  unfold qz
  simp [sprB])]
 ·rfl
 ·have hx:=al hi
  have g:ns.drop i=ns[i]::ns.drop (i+1):=bx hi
  generalize ns[i]=n at hx g
  have s:=B0 ns i
  have k:=Bi hx
  have hr:=hok.rest hi
  have r:(sprB (KQ i) (ns.drop i)).length=(ns.drop i).sum:=FX _ _
  have f:(0:Int) < ((sprB (KQ i) (ns.drop i)).length:Int):=by omega
  have c: ∀m∈ns.drop (i+1),1<=m:= λm hm=>by
   obtain ⟨j,hj⟩:=bs.1 hm
   rw [List.getElem?_drop] at hj
   exact hok.pos _ m hj (by omega)
  have e:=Xh (l:=sprB (KQ i) (ns.drop i)) (by omega) (!KQ i)
  rw [g,ae8 c,<-g] at e
  have d:=sI (l:=nI (ns.take i)) (n:=(n:Int)) (by simp;omega)
  have p:nI (ns.take (i+1))=(nI (ns.take i))++[(n:Int)]:=by rw [bn hx];simp
  have b:(sprB (KQ i) (ns.drop i)).drop n=sprB (KQ (i+1)) (ns.drop (i+1)):=by
   rw [g,AN];simp only [sprB];rw [List.drop_left' (by simp)]
  have a:=aaW (l:=sprB (KQ i) (ns.drop i)) (i:=n) (by omega)
  rw [b] at a
  unfold qz
  simp only [af,ai,aA,ax,a1,ab,aR,f,decide_true,ah,aY,Bool.not_not,e,an,p]
  by_cases hn:ns.drop (i+1)=[]
  ·have q:(sprB (KQ i) (ns.drop i)).length=n:=by rw [r,k,hn];rfl
   have h:decide ((-1:Int) < 0)=true:=rfl
   simp only [hn,if_true,h,ah,q,d,ab] at a ⊢
   rw [a,AN];simp
  ·have h: ¬((n:Int) < 0):=by omega
   simp only [hn,if_false,h,decide_false,ag,a,d,ab]
   rw [AN];simp
def rZ (l:List Bool):Byt:=(zN false l).flatMap aJ
theorem OkB.max {l:List Bool} {ns:List Nat} (h:OkB l ns) {i n:Nat} (hn:ns[i]? =some n):n<=l.length:=by
 have h1:=B0 ns i;have h2:=Bi hn;rw [h.sum] at h1;omega
theorem Eo {l:List Bool} (hl:l.length < 2 ^ 15):(rZ l).length<=10*(l.length+1):=by
 have hok:=E8 l
 have h1:=fj (f:=aJ) (l:=zN false l) (k:=10) λn hn=>by
  obtain ⟨i,hi⟩:=bs.1 hn
  exact aM (by have:=hok.max hi;omega)
 have h2:=hok.len
 unfold rZ;omega
theorem JA {l:List Bool} (hl:l.length < 2 ^ 15):lI (uN l)=some [B (rZ l)]:=by
 have hok:=E8 l
 unfold lI
 simp only [HQ hl,ab,af,ax,a1]
 unfold rZ
 generalize zN false l=ns at hok
 have hlen:=hok.len
 rw [aN (λi=>[.nilp,.lst (((ns.take i).flatMap aJ).map eB),.int .i64 (i:Int)]) ns.length 0 [.nilp,.lst ((ns.flatMap aJ).map eB)] (by simp) (by omega) (λi hi=> ?_) (by
  unfold si
  simp)]
 ·simp only [ab,aW,ai,mD];rfl
 ·have hx:=al hi
  generalize ns[i]=n at hx
  have p:=hok.max hx
  have g:(nI ns)[i]? =some (n:Int):=by rw [dq,hx];rfl
  obtain ⟨_,h,b2,o⟩:=nk g
  have d:((i:Int) < (ns.length:Int)):=by omega
  have c:=fj (f:=aJ) (l:=ns.take i) (k:=10) λm hm=>by
   obtain ⟨j,hj⟩:=bs.1 (bR hm)
   exact aM (by have:=hok.max hj;omega)
  have q:=aM (n:=n) (by omega)
  simp only [ca] at c
  have e:=oI (x:= .nilp) (a:=(ns.take i).flatMap aJ) (b:=aJ n) (by omega)
  unfold si
  simp only [af,ai,aA,an,d,decide_true,ah,ab,h,o,dT (show n < 2 ^ 64 by omega),dC (show n < 2 ^ 64 by omega),e,au (show i < 2 ^ 62 by omega),mN hx]
theorem Ju {l:List Bool} {ns:List Nat} (h:OkB l ns) (hl:l.length < 2 ^ 15):l8 (bD (nI ns)) (.int .i64 (l.length:Int))=some [uN l,.bool true]:=by
 have hlen:=h.len
 have e0: ¬((l.length:Int) < 0):=by omega
 have d:((aa .eql (.int .i64 ((ns.length:Nat):Int)) (.int .i64 1)).bind λv=>
   ae v (λ_=>(aK (bD (nI ns)) (.int .i64 0) 1).bind λw=>(dh (bD (nI ns)) w 0).bind λy=>(aa .eql y (.int .i64 0)).bind λz=>some [z]) (λ_=>some [.bool false]))=some [.bool false]:=by
  rw [db,ab]
  by_cases h1:ns.length=1
  ·obtain ⟨n,rfl⟩:=List.length_eq_one_iff.1 h1
   have p:n≠0:= λe=>h.one (by rw [e])
   obtain ⟨_,m,b2,j⟩:=nk (l:=[(n:Int)]) (i:=0) (x:=(n:Int)) rfl
   have a:aK (bD [(n:Int)]) (.int .i64 0) 1=some 0:=m
   have h2: ¬((n:Int)=0):=by omega
   simp only [b7,List.length_nil,List.map_cons,List.map_nil] at a j ⊢
   simp [a,j,p]
  ·have: ¬((ns.length:Int)=1):=by omega
   simp [this]
 unfold l8
 simp only [an,e0,decide_false,ab,ag,ax,a1]
 rw [d]
 simp only [ab,af,ag]
 rw [aN (λi=>[uN (sprB false (ns.take i)),.bool (!KQ i),.int .i64 (i:Int)]) ns.length 0 [uN l] (by simp [sprB,KQ]) (by omega) (λi hi=> ?_) (by
  unfold sG
  simp [h.spr])]
 ·rfl
 ·have hx:=al hi
  generalize ns[i]=n at hx
  have s:(nI ns)[i]? =some (n:Int):=by rw [dq,hx];rfl
  obtain ⟨_,m,b2,j⟩:=nk s
  have o:((i:Int) < (ns.length:Int)):=by omega
  have A:(sprB false (ns.take i)).length=(ns.take i).sum:=FX _ _
  have r:=B0 ns i
  have u:=Bi hx
  rw [h.sum] at r
  have c: ¬((n:Int) < min (i:Int) 1):=by
   by_cases h0:0 < i
   ·have:=h.pos i n hx h0;omega
   ·omega
  have g:aa .sub (.int .i64 (l.length:Int)) (.int .i64 ((sprB false (ns.take i)).length:Int))=some (.int .i64 ((l.length - (sprB false (ns.take i)).length:Nat):Int)):=mM (by omega) (by omega)
  have q: ¬(((l.length - (sprB false (ns.take i)).length:Nat):Int) < (n:Int)):=by omega
  have f:=XI (x:= .bool (KQ i)) (n:=n) (by omega)
  have b:=adA (l:=sprB false (ns.take i)) (k:=ad n (KQ i)) (by omega) (by simp;omega)
  have e:uN (ad n (KQ i))= .lst (ad n [.bool (KQ i)]):=by simp [eBl]
  rw [e] at b
  have t:=QG ns false i n hx
  rw [Bool.false_xor] at t
  unfold sG
  simp only [af,ai,aA,an,o,decide_true,ah,ab,m,j,adT,c,decide_false,ag,bZ,a1,g,aR,q,aY,Bool.not_not,f,b,au (show i < 2 ^ 62 by omega),t,AN]
theorem Jc {l:List Bool} (hl:l.length<=4096):ma (B (rZ l)) (.int .i64 (l.length:Int))=some [uN l,.int .i64 0]:=by
 have hok:=E8 l
 unfold rZ
 generalize zN false l=ns at hok
 have hlen:=hok.len
 have e0: ¬((l.length:Int) < 0):=by omega
 have j: ¬((4096:Int) < (l.length:Int)):=by omega
 have e:cg (B (ns.flatMap aJ))=some [B (ns.flatMap aJ),.int .i64 0]:=rfl
 unfold ma
 simp only [an,e0,decide_false,ab,ag,aR,j,e,af,ai]
 rw [aN (λi=>[B ((ns.drop i).flatMap aJ),.int .i64 0,bD (nI (ns.take i)),.int .i64 ((ns.drop i).sum:Int)]) ns.length 0 [bD (nI ns),.int .i64 0] (by simp [hok.sum]) (by omega) (λi hi=> ?_) (by
  unfold sC
  simp [pQ])]
 ·have s:aa .gtr (.int .i64 0) (.int .i64 0)=some (.bool false):=rfl
  simp only [ab,aW,af,ai,s,ag,Ju hok (show l.length < 2 ^ 15 by omega),aY,Bool.not_true]
 ·have hx:=al hi
  generalize ns[i]=n at hx
  have r:=oM (f:=aJ) hx
  have t:=hok.max hx
  have k:=pT (n:=n) (by omega) ((ns.drop (i+1)).flatMap aJ)
  have g:(0:Int) < (((ns.drop i).flatMap aJ).length:Int):=by
   rw [r];have:=ER n;simp;omega
  have hdr: ∀a b c:IV,([a,b,c]:List IV).drop 2=[c]:= λ_ _ _=>rfl
  have q:=B0 ns i
  have u:=Bi hx
  rw [hok.sum] at q
  have v: ¬(((ns.drop i).sum:Int) < (n:Int)):=by omega
  have h:aa .sub (.int .i64 ((ns.drop i).sum:Int)) (.int .i64 (n:Int))=some (.int .i64 ((ns.drop (i+1)).sum:Int)):=by
   rw [mM (by omega) (by omega)];congr 2;omega
  have m:=sI (l:=nI (ns.take i)) (n:=(n:Int)) (by simp;omega)
  have j:nI (ns.take (i+1))=(nI (ns.take i))++[(n:Int)]:=by rw [bn hx];simp
  have p:aa .neq (.int .i64 0) (.int .i64 0)=some (.bool false):=rfl
  have o:(ns.take i).length=i:=by simp;omega
  unfold sC
  simp only [af,ai,aA,aD,pQ,ab,aR,g,decide_true,ah]
  rw [r]
  simp only [k,ab,af,ai,tP,p,ag,hdr,dT (show (ns.drop i).sum < 2 ^ 64 by omega),aR,v,decide_false,db,bZ,a1,o,j]
  have d:(ae (.bool (decide ((n:Int)=0))) (λ_=>some [IV.bool (decide ((0:Int) < (i:Int)))]) (λ_=>some [IV.bool false]))=some [IV.bool false]:=by
   by_cases hn:n=0
   ·have h0: ¬(0 < i):= λh0=>by have:=hok.pos i n hx h0;omega
    simp [hn];omega
   ·simp [hn]
  simp only [d,ab,af,ag,fA (show n < 2 ^ 63 by omega),h,m]
def Ou (l:List Bool):Nat:=(l.filter λb=>b).length
theorem LM {l:List Bool} (hl:l.length < 2 ^ 16):nZ (uN l)=some [.int .i64 (Ou l:Int)]:=by
 unfold nZ
 simp only [ax,ab,a1]
 rw [aN (λi=>[.int .i64 (Ou (l.take i):Int),.int .i64 (i:Int)]) l.length 0 [.int .i64 (Ou l:Int)] (by simp [Ou]) (by omega) (λi hi=> ?_) (by
  unfold u9
  simp)]
 ·rfl
 ·have hx:=al hi
  generalize l[i]=b at hx
  obtain ⟨c,d⟩:=Ye hx
  have a:((i:Int) < (l.length:Int)):=by omega
  have hc:Ou (l.take i)<=i:=by
   unfold Ou
   exact Nat.le_trans (List.length_filter_le _ _) (by simp;omega)
  unfold u9
  simp only [af,ai,an,a,decide_true,ah,ab,c,d,au (show i < 2 ^ 62 by omega),au (show Ou (l.take i) < 2 ^ 62 by omega),bn hx]
  cases b<;>simp [Ou]
end Go.AM
namespace Go.AM
def Wr (k m u:Nat):Nat:=u / 2 ^ k&&&m|||(u&&&m)*2 ^ k
def rho (k i:Nat):Nat:=if i / k % 2=0 then i+k else i - k
theorem Yk {k m u i:Nat} (hk:k=8\/k=16) (hm: ∀i:Fin 64,m.testBit i=decide (i.val / k % 2=0)) (hi:i < 64):(Wr k m u).testBit i=u.testBit (rho k i):=by
 have h1:=hm ⟨i,hi⟩
 simp only at h1
 unfold Wr rho
 rw [<-c9,<-e7,fs,fa,eg,et,fa,h1]
 by_cases hb:i / k % 2=0
 ·have:(decide (i>=k)&&(u.testBit (i - k)&&m.testBit (i - k)))=false:=by
   by_cases a:i>=k
   ·have h2:=hm ⟨i - k,by omega⟩
    simp only at h2
    rw [h2,show decide ((i - k) / k % 2=0)=false from decide_eq_false (by rcases hk with rfl | rfl<;>omega),Bool.and_false,Bool.and_false]
   ·rw [decide_eq_false a,Bool.false_and]
  rw [this,if_pos hb,decide_eq_true hb,Bool.and_true,Bool.or_false,ek]
 ·have a:i>=k:=by rcases hk with rfl | rfl<;>omega
  have h2:=hm ⟨i - k,by omega⟩
  simp only at h2
  rw [if_neg hb,decide_eq_false hb,Bool.and_false,Bool.false_or,h2,decide_eq_true a,Bool.true_and,decide_eq_true (by rcases hk with rfl | rfl<;>omega),Bool.and_true]
theorem SJ {k m u:Nat} (h:m*2 ^ k < 2 ^ 64):Wr k m u < 2 ^ 64:=by
 have hp:1<=2 ^ k:=fb k
 have hm:m < 2 ^ 64:=a6 (by simpa using eW m hp) h
 refine e4 (a6 cc hm) (a6 (ch _ cc) h)
abbrev m8:Nat:=71777214294589695
abbrev m16:Nat:=281470681808895
def qa (u:Nat):Nat:=Wr 16 m16 (Wr 8 m8 u) / 2 ^ 32|||Wr 16 m16 (Wr 8 m8 u)*2 ^ 32 % 2 ^ 64
theorem aeO: ∀i:Fin 64,m8.testBit i=decide (i.val / 8 % 2=0):=by decide+kernel
theorem acK: ∀i:Fin 64,m16.testBit i=decide (i.val / 16 % 2=0):=by decide+kernel
theorem tI (u:Nat):qa u < 2 ^ 64:=by
 have h:=SJ (k:=16) (m:=m16) (u:=Wr 8 m8 u) (by decide)
 exact e4 (a6 (fc _ _) h) (Nat.mod_lt _ (by decide))
def aa7 (i:Nat):Nat:=rho 8 (rho 16 (if i < 32 then i+32 else i - 32))
theorem Qu {u i:Nat} (hi:i < 64):(qa u).testBit i=u.testBit (aa7 i):=by
 have h:=SJ (k:=16) (m:=m16) (u:=Wr 8 m8 u) (by decide)
 have key:(qa u).testBit i=(Wr 16 m16 (Wr 8 m8 u)).testBit (if i < 32 then i+32 else i - 32):=by
  unfold qa
  generalize Wr 16 m16 (Wr 8 m8 u)=b at h
  rw [<-c9,<-e7,fs,eg,Nat.testBit_mod_two_pow,et,decide_eq_true hi,Bool.true_and]
  by_cases hl:i < 32
  ·rw [if_pos hl,decide_eq_false (show ¬i>=32 by omega),Bool.false_and,Bool.or_false,ek]
  ·rw [if_neg hl,decide_eq_true (show i>=32 by omega),Bool.true_and,b4 (show b < 2 ^ (32+i) from c5 h (cd (by decide) (by omega))),Bool.false_or]
 have hj:(if i < 32 then i+32 else i - 32) < 64:=by split<;>omega
 rw [key]
 unfold aa7
 generalize (if i < 32 then i+32 else i - 32)=j at hj
 have hk:rho 16 j < 64:=by unfold rho;split<;>omega
 rw [Yk (.inr rfl) acK hj,Yk (.inl rfl) aeO hk]
theorem adt: ∀i:Fin 64,aa7 i.val < 64/\aa7 (aa7 i.val)=i.val:=by decide+kernel
theorem swap_swap {u:Nat} (h:u < 2 ^ 64):qa (qa u)=u:=by
 apply Nat.eq_of_testBit_eq
 intro i
 by_cases hi:i < 64
 ·obtain ⟨h1,h2⟩:=adt ⟨i,hi⟩
  simp only at h1 h2
  rw [Qu hi,Qu h1,h2]
 ·have hp:2 ^ 64<=2 ^ i:=cd (by decide) (by omega)
  rw [b4 (c5 (tI _) hp),b4 (c5 h hp)]
theorem abN {k m u:Nat} (hu:u < 2 ^ 64) (hk:k<=64) (h:m*2 ^ k < 2 ^ 64):aa .shr (.int .u64 (u:Int)) (.int .u64 (k:Int))=some (.int .u64 ((u / 2 ^ k:Nat):Int))/\aa .and (.int .u64 ((u / 2 ^ k:Nat):Int)) (.int .u64 (m:Int))=some (.int .u64 ((u / 2 ^ k&&&m:Nat):Int))/\aa .and (.int .u64 (u:Int)) (.int .u64 (m:Int))=some (.int .u64 ((u&&&m:Nat):Int))/\
  aa .shl (.int .u64 ((u&&&m:Nat):Int)) (.int .u64 (k:Int))=some (.int .u64 (((u&&&m)*2 ^ k:Nat):Int))/\aa .or (.int .u64 ((u / 2 ^ k&&&m:Nat):Int)) (.int .u64 (((u&&&m)*2 ^ k:Nat):Int))=some (.int .u64 (Wr k m u:Int)):=by
 have hp:1<=2 ^ k:=fb k
 have hm:m < 2 ^ 64:=a6 (by simpa using eW m hp) h
 have h1:u / 2 ^ k < 2 ^ 64:=a6 (fc _ _) hu
 have h2:(u&&&m)*2 ^ k < 2 ^ 64:=a6 (ch _ cc) h
 exact ⟨mS hk,qU h1 hm,qU hu hm,GS hk h2,rL (a6 cc hm) h2⟩
theorem Dr {u:Nat} (h:u < 2 ^ 64):m5 (.int .u64 (u:Int))=some [.int .u64 (qa u:Int)]:=by
 obtain ⟨c,d,e,f,g⟩:=abN (k:=8) (m:=m8) h (by decide) (by decide)
 have h1:=SJ (k:=8) (m:=m8) (u:=u) (by decide)
 obtain ⟨i,b2,j,l,n⟩:=abN (k:=16) (m:=m16) h1 (by decide) (by decide)
 have h2:=SJ (k:=16) (m:=m16) (u:=Wr 8 m8 u) (by decide)
 unfold m5
 rw [show (8:Int)=((8:Nat):Int) from rfl,show (16:Int)=((16:Nat):Int) from rfl,show (71777214294589695:Int)=((m8:Nat):Int) from rfl,show (281470681808895:Int)=((m16:Nat):Int) from rfl]
 simp only [c,d,e,f,g,i,b2,j,l,n,ab]
 unfold qa
 generalize Wr 16 m16 (Wr 8 m8 u)=b at h2
 have c1:aa .shr (.int .u64 (b:Int)) (.int .u64 32)=some (.int .u64 ((b / 2 ^ 32:Nat):Int)):=mS (b:=32) (by decide)
 have c2:aa .shl (.int .u64 (b:Int)) (.int .u64 32)=some (.int .u64 ((b*2 ^ 32 % 2 ^ 64:Nat):Int)):=by
  simp only [aa]
  rw [if_neg (by omega)]
  show some (IV.int .u64 (bC.wrap ((b:Int)*2 ^ 32)))=_
  rw [abl];congr 2
 have c3:=rL (a:=b / 2 ^ 32) (b:=b*2 ^ 32 % 2 ^ 64) (by omega) (by omega)
 simp only [c1,c2,c3,ab,xl,eh,b1]
theorem Qd {a b:Nat} (c:a < 2 ^ 64) (hb:b < 2 ^ 64):aa .xor (.int .u64 (a:Int)) (.int .u64 (b:Int))=some (.int .u64 ((a ^^^ b:Nat):Int)):=by
 simp only [aa,cr,if_true]
 have:(aB bC.bits (a:Int) ^^^ aB bC.bits (b:Int)).toNat=a ^^^ b:=by
  show (aB 64 (a:Int) ^^^ aB 64 (b:Int)).toNat=_
  rw [BitVec.toNat_xor,bO,bO,b0,b0,bf c,bf hb]
 rw [this,xB (c6 c hb)]
def eFl (w:Nat):List IV:=[.flt .f64 w]
abbrev qV (l:List Nat):IV:= .lst (l.map eFl)
theorem UU {l:List Nat} {i:Nat} {x:Nat} (h:l[i]? =some x):aK (qV l) (.int .i64 (i:Int)) 1=some i/\dh (qV l) i 0=some (.flt .f64 x):=
 ⟨dY h rfl (by decide),by rw [cf h];rfl⟩
theorem Fo {l:List Nat} {x:Nat} (hl:l.length < 2 ^ 20):bS 1 8 (qV l) (.lst [[.flt .f64 x]])=some (qV (l++[x])):=by
 simp only [bS]
 rw [if_pos ⟨by simp;omega,by simp⟩]
 simp [eFl]
structure CanW (w:Nat):Prop where
 lt:w < 2 ^ 64
 can:bitsN w=w
def FT:Nat->List Nat->List Nat
 | _,[]=>[]
 | a,n::ns=>(n ^^^ a)::FT n ns
theorem Bn: ∀(a:Nat) (ns:List Nat),(FT a ns).length=ns.length
 | _,[]=>rfl
 | a,n::ns=>by simp [FT,Bn n ns]
theorem S4: ∀(i x:Nat) (ns:List Nat) (a:Nat),ns[i]? =some x->(FT a ns)[i]? =some (x ^^^ (a::ns).getD i 0)
 | 0,x,[],a,h=>by simp at h
 | 0,x,n::ns,a,h=>by simp at h;subst h;rfl
 | i+1,x,[],a,h=>by simp at h
 | i+1,x,n::ns,a,h=>by
   have:=S4 i x ns n (by simpa using h)
   simpa [FT] using this
def so (ns:List Nat):Byt:=(FT 0 ns).flatMap λu=>aJ (qa u)
theorem Es {ns:List Nat}:(so ns).length<=10*ns.length:=by
 have:=fj (l:=FT 0 ns) (f:= λu=>aJ (qa u)) (k:=10) λx _=>aM (tI x)
 rw [Bn] at this;exact this
theorem prev_lt {ns:List Nat} (h: ∀n∈ns,CanW n) (i:Nat):(0::ns).getD i 0 < 2 ^ 64:=by
 rw [a7]
 cases hx:(0::ns)[i]? with
 | none=>simp
 | some x=>
   rcases e2.1 (a5 hx) with rfl | hm
   ·simp
   ·exact (h x hm).lt
theorem JK {ns:List Nat} (hl:ns.length < 2 ^ 16) (h: ∀n∈ns,CanW n):lJ (qV ns)=some [B (so ns)]:=by
 unfold lJ
 simp only [ax,ab,a1]
 rw [aN (λi=>[.int .u64 ((0::ns).getD i 0:Nat),.clo (.func fP) [],.nilp,.lst ((((FT 0 ns).take i).flatMap λu=>aJ (qa u)).map eB),.int .i64 (i:Int)]) ns.length 0 [.nilp,.lst ((so ns).map eB)] (by simp) (by omega) (λi hi=> ?_) (by
  unfold r9
  simp only [af,ai,aA,aD,cp,an,decide_false,ab,Int.lt_irrefl,ag]
  rw [b3 (by rw [Bn];exact b5 _)];rfl)]
 ·simp only [ab,aW,ai,mD];rfl
 ·have hx:=al hi
  generalize ns[i]=w at hx
  obtain ⟨p,q⟩:=UU hx
  have hc:=h w (a5 hx)
  have hp:=prev_lt h i
  have g:((i:Int) < (ns.length:Int)):=by omega
  have t:=S4 i w ns 0 hx
  have s:(0::ns).getD (i+1) 0=w:=by simp [a7,hx]
  have o:=pM hc.lt
  rw [hc.can] at o
  have c:=c6 hc.lt hp
  have r:cX (.clo (.func fP) []) [1] [[.int .u64 (w:Int)],[.int .u64 ((w ^^^ (0::ns).getD i 0:Nat):Int)]]=some [.int .u64 (w:Int)]:=rfl
  have d:=fj (f:= λu=>aJ (qa u)) (l:=(FT 0 ns).take i) (k:=10) λm _=>aM (tI m)
  simp only [ca] at d
  have v:=aM (tI (w ^^^ (0::ns).getD i 0))
  have j:=oI (x:= .nilp) (a:=((FT 0 ns).take i).flatMap λu=>aJ (qa u)) (b:=aJ (qa (w ^^^ (0::ns).getD i 0))) (by omega)
  have e:=mN (f:= λu=>aJ (qa u)) t
  simp only [s,e]
  unfold r9
  simp only [af,ai,aA,aD,cp,an,g,decide_true,ah,ab,p,q,o,Qd hc.lt hp,r,Dr c,dC (tI _),j,au (show i < 2 ^ 62 by omega)]
theorem C4 {w:Nat} (h:CanW w):mT (.int .u64 (w:Int))=some [.bool true]:=by
 have c:=h.lt
 have e:aa .shr (.int .u64 (w:Int)) (.int .u64 52)=some (.int .u64 ((w / 2 ^ 52:Nat):Int)):=mS (b:=52) (by decide)
 have f:aa .and (.int .u64 ((w / 2 ^ 52:Nat):Int)) (.int .u64 2047)=some (.int .u64 ((w / 2 ^ 52 % 2048:Nat):Int)):=Kl (w:=w / 2 ^ 52) (by omega) (k:=11) (by decide)
 have s4:aa .and (.int .u64 (w:Int)) (.int .u64 4503599627370495)=some (.int .u64 ((w % 2 ^ 52:Nat):Int)):=Kl (w:=w) c (k:=52) (by decide)
 unfold mT
 simp only [e,f,s4,ab,eb,db]
 have hc:=h.can
 unfold bitsN at hc
 by_cases h1:w / 2 ^ 52 % 2048=2047
 ·by_cases h2:w % 2 ^ 52=0
  ·have a:(((w / 2 ^ 52 % 2048:Nat):Int)=2047):=by omega
   have d:(((w % 2 ^ 52:Nat):Int)=0):=by omega
   simp only [a,d,ne_eq,not_true_eq_false,decide_false,ag,decide_true,ah,ab,af,fR,eh,b1]
  ·rw [if_pos (by show 2047*2 ^ 52 < w % 2 ^ 63;omega)] at hc
   subst hc;rfl
 ·have a: ¬(((w / 2 ^ 52 % 2048:Nat):Int)=2047):=by omega
  simp only [a,ne_eq,not_false_eq_true,decide_true,ah,ab,af,fR,eh,b1]
theorem J1 {ns:List Nat} (hl:ns.length < 2 ^ 16) (h: ∀n∈ns,CanW n):lQ (B (so ns)) (.int .i64 (ns.length:Int))=some [qV ns,.int .i64 0]:=by
 have e0: ¬((ns.length:Int) < 0):=by omega
 have q: ¬(((so ns).length:Int) < (ns.length:Int)):=by
  have:=Rc (l:=FT 0 ns) (f:= λu=>aJ (qa u)) λx _=>ER _
  rw [Bn] at this
  unfold so;omega
 have g:cg (B (so ns))=some [B (so ns),.int .i64 0]:=rfl
 unfold lQ
 simp only [an,e0,decide_false,ab,ag,ja,aR,q,g,af,ai]
 rw [aN (λi=>[.int .u64 ((0::ns).getD i 0:Nat),.clo (.func fQ) [],B (((FT 0 ns).drop i).flatMap λu=>aJ (qa u)),.int .i64 0,qV (ns.take i),.int .i64 (i:Int)]) ns.length 0 [B [],.int .i64 0,qV ns] (by simp [so]) (by omega) (λi hi=> ?_) (by
  unfold sE
  have e:(FT 0 ns).drop ns.length=[]:=ds (by rw [Bn];exact b5 _)
  simp [e])]
 ·simp only [ab,aW,af,ai,aA,Fa]
  rfl
 ·have hx:=al hi
  generalize ns[i]=w at hx
  have hc:=h w (a5 hx)
  have hp:=prev_lt h i
  have m:((i:Int) < (ns.length:Int)):=by omega
  have v:=S4 i w ns 0 hx
  have t:(0::ns).getD (i+1) 0=w:=by simp [a7,hx]
  have d:=c6 hc.lt hp
  have p:=pT (tI (w ^^^ (0::ns).getD i 0)) (((FT 0 ns).drop (i+1)).flatMap λu=>aJ (qa u))
  have s:=oM (f:= λu=>aJ (qa u)) v
  rw [<-s] at p
  have j:=Dr (tI (w ^^^ (0::ns).getD i 0))
  rw [swap_swap d] at j
  have k:=Qd d hp
  rw [Nat.xor_assoc,Nat.xor_self,Nat.xor_zero] at k
  have r:cW (.clo (.func fQ) []) [1] [[.int .u64 ((w ^^^ (0::ns).getD i 0:Nat):Int)],[.int .u64 (w:Int)]]=some [.int .u64 (w:Int)]:=rfl
  have hdr: ∀a b c:IV,([a,b,c]:List IV).drop 2=[c]:= λ_ _ _=>rfl
  have o:aa .neq (.int .i64 0) (.int .i64 0)=some (.bool false):=rfl
  simp only [t,bn hx]
  unfold sE
  simp only [af,ai,aA,aD,cp,cn,an,m,decide_true,ah,ab,p,hdr,j,k,r,tP,o,ag,C4 hc,aY,Bool.not_true,CR hc.lt hc.can,Fo (show (ns.take i).length < 2 ^ 20 by simp;omega),au (show i < 2 ^ 62 by omega)]
end Go.AM
