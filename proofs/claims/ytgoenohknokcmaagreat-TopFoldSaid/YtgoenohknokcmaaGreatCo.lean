/- Files, plainly: bytes; numbers of seven bits a byte. -/
import Derived.Test.YtgoenohknokcmaaGreatFf
open Option renaming bind_some->ab,map_some->b3,bind_assoc->e4
open List renaming replicate->ad,getElem?_eq_getElem->ao,getElem?_eq_some_iff->aB,length_map->a2,getElem?_append_left->a5,mem_of_getElem?->a6,getD_eq_getElem?_getD->a8,length_replicate->bb,length_append->bd,getElem?_append_right->bf,mem_cons_self->bs,mem_iff_getElem?->bx,drop_eq_getElem_cons->bA,mem_cons_of_mem->bB,flatMap_cons->bC,append_assoc->bO,mem_of_mem_take->b0,take_of_length_le->b4,take_append_drop->b7,length_cons->ca,length_take->cb,nil_append->cv,flatMap_append->cO,mem_append->c0,replicate_succ->c5,getLast?_eq_some_iff->c8,getLast?_eq_none_iff->c9,getElem?_map->ds,drop_eq_nil_of_le->eg,mem_append_left->eW,mem_cons->e3,cons_append->e7,drop_zero->fs
open BitVec renaming ofInt->a1,ofInt_natCast->bR,toNat_ofNat->b1,xor_allOnes->e1,toNat_ofInt->e2,toNat_not->e6,xor_zero->fa,allOnes->fv
open Nat renaming lt_of_le_of_lt->a7,mod_eq_of_lt->bm,eq_zero_or_pos->br,testBit_lt_two_pow->b5,le_refl->b6,min_eq_right->cc,and_le_right->cd,pow_le_pow_right->ch,mul_le_mul_right->ck,lt_of_lt_of_le->c6,xor_lt_two_pow->c7,shiftRight_eq_div_pow->dd,testBit_shiftRight->ek,add_comm->et,testBit_shiftLeft->eP,mul_le_mul_left->eZ,or_lt_two_pow->e5,shiftLeft_eq->e8,zero_le->fb,testBit_and->fc,two_pow_pos->fl,div_le_self->fr,testBit_or->fz,sub_zero->gd,lt_or_ge->gw,mul_comm->g0
open Go.IntKind renaming u64->bM,i64->cl,u8->fH,wrap->gf
open Int renaming toNat_natCast->dq
set_option linter.unusedVariables false
set_option linter.unusedSimpArgs false
namespace Go.AM
abbrev Byt:=List UInt8
def B (l:Byt):IV:= .str ⟨l.toArray⟩
def eB (b:UInt8):List IV:=[.int .u8 b.toNat]
theorem afW (s:ByteArray):IV.str s=B s.data.toList:=by unfold B;simp
theorem xt (l:Byt):(⟨l.toArray⟩:ByteArray).size=l.length:=by show l.toArray.size=_;simp
@[simp] theorem jx (l:Byt):gM (B l)=some (.int .i64 l.length):=by unfold B;rw [sK,xt]
theorem WA {l:Byt} {i:Nat} {b:UInt8} {k:IntKind} (h:l[i]? =some b):GB (B l) (.int k (i:Int))=some (.int .u8 b.toNat):=by
 unfold B
 simp only [GB,dq]
 rw [if_pos (by omega),abW]
 simp [h]
theorem adF (l:Byt) (a b:Nat):(⟨l.toArray⟩:ByteArray).extract a b=⟨((l.drop a).take (b - a)).toArray⟩:=by
 have:((⟨l.toArray⟩:ByteArray).extract a b).data.toList=(l.drop a).take (b - a):=by
  simp [ByteArray.data_extract,List.extract_eq_take_drop]
 exact ByteArray.ext (Array.toList_inj.1 (this.trans rfl))
theorem zm {l:Byt} {i:Nat} {k:IntKind} (h:i<=l.length):fy (B l) (some (.int k (i:Int))) none=some (B (l.drop i)):=by
 unfold B
 simp only [fy,jt,Tk,xt,ab]
 rw [if_pos ⟨by omega,by omega⟩]
 simp only [ab,dq,adF]
 rw [b4 (by simp)]
theorem zY {l:Byt} {i:Nat} {k:IntKind} (h:i<=l.length):fy (B l) none (some (.int k (i:Int)))=some (B (l.take i)):=by
 unfold B
 simp only [fy,jt,Tk,xt,ab]
 rw [if_pos ⟨by omega,by omega⟩]
 simp only [ab,dq,adF,fs,gd]
theorem KB {a b:Byt} (h:a.length+b.length < 2 ^ 60):aa .add (B a) (B b)=some (B (a++b)):=by
 unfold B
 simp only [aa,R0,xt]
 rw [if_neg (by show ¬_ > (9223372036854775807:Int);omega)]
 congr 2
theorem oN (l:Byt):lR (.lst (l.map eB))=some (B l):=by
 have:(l.map eB).mapM AW=some l:=by
  induction l with
  | nil=>rfl
  | cons b l ih=>
    have hb:AW (eB b)=some b:=by
     have:=b.toNat_lt
     simp only [AW,eB]
     rw [if_pos (by omega)]
     simp
    simp [List.mapM_cons,hb,ih]
 simp only [lR,this];rfl
theorem aai {l:Byt} {b:UInt8} {x:Int} (a:x=b.toNat) (h:l.length < 2 ^ 30):b8 1 1 (.lst (l.map eB)) (.lst [[.int .u8 x]])=some (.lst ((l++[b]).map eB)):=by
 subst a
 simp only [b8]
 rw [if_pos ⟨by simp;omega,by simp⟩]
 simp [eB]
def GS (n:Nat):UInt8:=UInt8.ofNat n
theorem p7 {n:Nat} (h:n < 256):(GS n).toNat=n:=by unfold GS;simp [UInt8.toNat_ofNat];omega
def bu (n:Nat):Byt:=if n < 128 then [GS n] else GS (n % 128+128)::bu (n / 128)
 termination_by n
theorem sT {n:Nat} (h:n < 128):bu n=[GS n]:=by rw [bu,if_pos h]
theorem Ay {n:Nat} (h: ¬n < 128):bu n=GS (n % 128+128)::bu (n / 128):=by rw [bu,if_neg h]
theorem abn {a:Nat}:fH.wrap (a:Int)=((a % 256:Nat):Int):=by
 unfold gf
 show (if (false&&decide (((a:Int) % (2 ^ 8:Int))>=(2 ^ 7:Int)))=true then ((a:Int) % (2 ^ 8:Int)) - (2 ^ 8:Int) else ((a:Int) % (2 ^ 8:Int)))=_
 simp
theorem Ru (a:Nat) {k:IntKind}:bN .u8 (.int k (a:Int))=some (.int .u8 ((a % 256:Nat):Int)):=by simp only [bN,abn]
theorem aeY (a:Nat) (h:a < 256):aa .or (.int .u8 (a:Int)) (.int .u8 128)=some (.int .u8 ((a % 128+128:Nat):Int)):=by
 have: ∀a:Fin 256,(a1 8 ((a.val:Nat):Int)|||a1 8 128).toNat=a.val % 128+128:=by decide+kernel
 have e:=this ⟨a,h⟩
 simp only [aa,cm,if_true]
 show some (IV.int .u8 (fH.wrap ((a1 8 (a:Int)|||a1 8 128).toNat:Int)))=_
 rw [e,abn,bm (by omega)]
theorem acJ (a:Nat) (h:a < 256):aa .andNot (.int .u8 (a:Int)) (.int .u8 128)=some (.int .u8 ((a % 128:Nat):Int)):=by
 have: ∀a:Fin 256,(a1 8 ((a.val:Nat):Int)&&& ~~~(a1 8 128)).toNat=a.val % 128:=by decide+kernel
 have e:=this ⟨a,h⟩
 simp only [aa,cm,if_true]
 show some (IV.int .u8 (fH.wrap ((a1 8 (a:Int)&&& ~~~(a1 8 128)).toNat:Int)))=_
 rw [e,abn,bm (by omega)]
theorem Ml: ∀(j n m:Nat) (acc:Byt),n < 128 ^ j->0 < j->j<=m->n < 2 ^ 64->acc.length+j<=100->
  ∃(k:Nat) (ini:Byt),k < 128/\bu n=ini++[GS k]/\ini.length < j/\iter m kZ [.int .u64 (n:Int),.lst (acc.map eB)]=some (0,[.int .u64 (k:Int),.lst ((acc++ini).map eB)])
 | 0,n,m,acc,_,h0,_,_,_=>by omega
 | j+1,n,m,acc,hn,_,hm,hw,f=>by
   obtain ⟨m,rfl⟩: ∃p,m=p+1:=⟨m - 1,by omega⟩
   by_cases h:n < 128
   ·refine ⟨n,[],h,by rw [sT h];rfl,by simp,?_⟩
    have: ¬((128:Int)<=(n:Int)):=by omega
    have hf:kZ [.int .u64 (n:Int),.lst (acc.map eB)]=some (.done 0 [.int .u64 (n:Int),.lst (acc.map eB)]):=by
     unfold kZ
     simp [this]
    simp [iter,hf]
   ·have d:((128:Int)<=(n:Int)):=by omega
    have hj:0 < j:=by
     rcases br j with rfl | hj
     ·simp at hn;omega
     ·exact hj
    have e:n / 128 < 128 ^ j:=by
     rw [Nat.div_lt_iff_lt_mul (by decide)];rw [Nat.pow_succ] at hn;exact hn
    have i:(n % 256) % 128+128=n % 128+128:=by omega
    have g:=aeY (n % 256) (Nat.mod_lt _ (by decide))
    rw [i] at g
    have c:=aai (l:=acc) (b:=GS (n % 128+128)) (x:=((n % 128+128:Nat):Int)) (by rw [p7 (by omega)]) (by omega)
    have hs:aa .shr (.int .u64 (n:Int)) (.int .u64 7)=some (.int .u64 ((n / 128:Nat):Int)):=l7 (a:=n) (b:=7) (by decide)
    have hf:kZ [.int .u64 (n:Int),.lst (acc.map eB)]=some (.next [.int .u64 ((n / 128:Nat):Int),.lst ((acc++[GS (n % 128+128)]).map eB)]):=by
     unfold kZ
     simp only [af,ai,de,d,decide_true,ab,ah,Ru,g,c,hs]
    obtain ⟨k,ini,h1,h2,q,o⟩:=Ml j (n / 128) m (acc++[GS (n % 128+128)]) e hj (by omega) (by omega) (by simp;omega)
    refine ⟨k,GS (n % 128+128)::ini,h1,by rw [Ay h,h2];rfl,by simp;omega,?_⟩
    simp only [iter,hf,ab]
    rw [o];simp
theorem fB {n:Nat} (h:n < 2 ^ 64):cG (.int .u64 (n:Int))=some [B (bu n)]:=by
 obtain ⟨k,ini,h1,h2,e,d⟩:=Ml 10 n rounds [] (by omega) (by decide) (by rw [aO];decide) h (by decide)
 have c:=aai (l:=ini) (b:=GS k) (x:=((k % 256:Nat):Int)) (by rw [p7 (by omega)];omega) (by omega)
 unfold cG
 have a:iter rounds kZ [.int .u64 (n:Int),.lst []]=some (0,[.int .u64 (k:Int),.lst (ini.map eB)]):=d
 simp only [a,ab,aN,af,ai,Ru,c,oN,h2]
 rfl
theorem bK {n:Nat} (h:n < 2 ^ 64):(bu n).length<=10:=by
 obtain ⟨k,ini,h1,h2,a,b⟩:=Ml 10 n rounds [] (by omega) (by decide) (by rw [aO];decide) h (by decide)
 rw [h2];simp;omega
theorem Hh:cn (.bool true) (.int .i64 2)=some []:=rfl
theorem Z7 (s t:Byt): ∀(i n a m:Nat) (pre:Byt) (x:IV),s=pre++bu n++t->pre.length=i->a < 2 ^ (7*i)->a+n*2 ^ (7*i) < 2 ^ 64->(i=0\/0 < n)->i<=9->10<=m+i->
  iter m (aK (B s)) [x,.int .u64 (a:Int),.int .i64 (i:Int)]=some (0,[.int .u64 ((a+n*2 ^ (7*i):Nat):Int),B t]):=by
 intro i n
 induction n using Nat.strongRecOn generalizing i with
 | _ n ih=>
 intro a m pre x hs hp S hn h0 hi hm
 obtain ⟨m,rfl⟩: ∃T,m=T+1:=⟨m - 1,by omega⟩
 obtain ⟨b,rest,g,w⟩: ∃b rest,bu n=b::rest/\s[i]? =some b:=by
  by_cases h:n < 128
  ·exact ⟨_,_,sT h,by rw [hs,sT h,bO,bf (by omega),<-hp];simp⟩
  ·exact ⟨_,_,Ay h,by rw [hs,Ay h,bO,bf (by omega),<-hp];simp⟩
 have r:=(aB.1 w).1
 have hc:((i:Int) < (s.length:Int)):=by omega
 have L:=WA (k:= .i64) w
 have N:2 ^ (7*i)<=2 ^ 63:=ch (by decide) (by omega)
 have hmul:aa .mul (.int .i64 7) (.int .i64 (i:Int))=some (.int .i64 ((7*i:Nat):Int)):=by
  simp only [aa,cm,if_true]
  rw [wrap64 (by omega) (by omega)]
  congr 2
 have c:=au (i:=i) (by omega)
 have A:=b.toNat_lt
 have o:=acJ b.toNat A
 have p:bN .u64 (.int .u8 ((b.toNat % 128:Nat):Int))=some (.int .u64 ((b.toNat % 128:Nat):Int)):=by
  simp only [bN,yB (show b.toNat % 128 < 2 ^ 64 by omega)]
 have key: ∀d:Nat,b.toNat % 128=d->d*2 ^ (7*i) < 2 ^ 64->
   ((aa .shl (.int .u64 ((b.toNat % 128:Nat):Int)) (.int .i64 ((7*i:Nat):Int))).bind λK=>aa .or (.int .u64 (a:Int)) K)=some (.int .u64 ((a+d*2 ^ (7*i):Nat):Int)):= λd C r=>by
  rw [C,wA (by omega) r,ab,sZ (by omega) r,Nat.or_comm,Yy _ S,et]
 have v:(i < 9\/b.toNat<=1)->(i=0\/b.toNat≠0)->((aa .lss (.int .i64 (i:Int)) (.int .i64 9)).bind λZ=>
   ae Z (λ_=>(aa .eql (.int .i64 (i:Int)) (.int .i64 0)).bind λv9=>
    ae v9 (λ_=>(cn (.bool true) (.int .i64 3)).bind λU=>some ([]:List IV)) (λ_=>(aa .neq (.int .u8 (b.toNat:Int)) (.int .u8 0)).bind λG=>(cn G (.int .i64 3)).bind λV=>some ([]:List IV)))
   (λ_=>(aa .leq (.int .u8 (b.toNat:Int)) (.int .u8 1)).bind λH=>
     ae H (λ_=>(aa .eql (.int .i64 (i:Int)) (.int .i64 0)).bind λI=>
      ae I (λ_=>(cn (.bool true) (.int .i64 3)).bind λW=>some ([]:List IV)) (λ_=>(aa .neq (.int .u8 (b.toNat:Int)) (.int .u8 0)).bind λJ=>(cn J (.int .i64 3)).bind λX=>some ([]:List IV)))
     (λ_=>(cn (.bool false) (.int .i64 3)).bind λY=>some ([]:List IV))))=some []:= λh1 h2=>by
  simp only [al,dI,dm,jU,ab,bj]
  have O:(i:Int)=0↔i=0:=by omega
  have P:((b.toNat:Int)≠0)↔b.toNat≠0:=by omega
  by_cases q1:(i:Int) < 9
  ·rw [if_pos q1]
   by_cases u:(i:Int)=0
   ·rw [if_pos u];rfl
   ·rw [if_neg u,decide_eq_true (P.2 (h2.resolve_left λe=>u (O.2 e)))];rfl
  ·rw [if_neg q1,if_pos (by omega)]
   by_cases u:(i:Int)=0
   ·rw [if_pos u];rfl
   ·rw [if_neg u,decide_eq_true (P.2 (h2.resolve_left λe=>u (O.2 e)))];rfl
 by_cases h:n < 128
 ·have j:b=GS n:=by rw [sT h] at g;injection g with h1 h2;exact h1.symm
  have y:b.toNat=n:=by rw [j,p7 (by omega)]
  have Q:i < 9\/b.toNat<=1:=by
   rcases gw i 9 with q | q
   ·exact .inl q
   ·right
    obtain rfl:i=9:=by omega
    rw [y];omega
  have hk:=key n (by omega) (by omega)
  have C:s.drop (i+1)=t:=by
   rw [hs,sT h,<-hp]
   simp
  have E:=zm (l:=s) (i:=i+1) (k:= .i64) (by omega)
  have hl:((b.toNat:Int) < 128):=by omega
  simp only [iter]
  unfold aK
  simp only [af,ai,ay,jx,ab,al (.i64) (i:Int) (s.length:Int),hc,decide_true,Hh,L,v Q (by omega),o,p,hmul]
  rw [<-e4,hk]
  simp only [ab,al,hl,decide_true,ah,c,E,C]
 ·have j:b=GS (n % 128+128):=by rw [Ay h] at g;injection g with h1 h2;exact h1.symm
  have y:b.toNat=n % 128+128:=by rw [j,p7 (by omega)]
  have q:i < 9:=by
   rcases gw i 9 with q | q
   ·exact q
   ·obtain rfl:i=9:=by omega
    omega
  have z:2 ^ (7*(i+1))=128*2 ^ (7*i):=by rw [Nat.mul_add,Nat.pow_add,g0]
  have D:n=128*(n / 128)+n % 128:=by omega
  have f:n*2 ^ (7*i)=(n % 128)*2 ^ (7*i)+(n / 128)*(128*2 ^ (7*i)):=by
   conv=>lhs;rw [D,Nat.add_mul]
   rw [g0 128 (n / 128),Nat.mul_assoc,et]
  have hk:=key (n % 128) (by omega) (by rw [f] at hn;omega)
  have hl: ¬((b.toNat:Int) < 128):=by omega
  have F:aK (B s) [x,.int .u64 (a:Int),.int .i64 (i:Int)]=some (.next [x,.int .u64 ((a+(n % 128)*2 ^ (7*i):Nat):Int),.int .i64 ((i+1:Nat):Int)]):=by
   unfold aK
   simp only [af,ai,ay,jx,ab,al (.i64) (i:Int) (s.length:Int),hc,decide_true,Hh,L,v (.inl q) (by omega),o,p,hmul]
   rw [<-e4,hk]
   simp only [ab,al,hl,decide_false,ag,c]
  simp only [iter,F,ab]
  have M:=ck (2 ^ (7*i)) (show n % 128<=127 by omega)
  rw [ih (n / 128) (by omega) (i+1) (a+(n % 128)*2 ^ (7*i)) m (pre++[b]) x (by rw [hs,Ay h,j];simp) (by simp [hp]) (by rw [z];omega) (by rw [z];rw [f] at hn;omega) (.inr (by omega)) (by omega) (by omega),z]
  have R:a+n % 128*2 ^ (7*i)+n / 128*(128*2 ^ (7*i))=a+n*2 ^ (7*i):=by rw [f];omega
  rw [R]
theorem xi {n:Nat} (h:n < 2 ^ 64) (t:Byt):aC (B (bu n++t)) (.int .i64 0)=some [B t,.int .i64 0,.int .u64 (n:Int)]:=by
 unfold aC
 have:=Z7 (bu n++t) t 0 n 0 rounds [] (.int .u64 0) (by simp) rfl (by decide) (by omega) (.inl rfl) (by decide) (by rw [aO];decide)
 have h2:iter rounds (aK (B (bu n++t))) [.int .u64 0,.int .u64 0,.int .i64 0]=some (0,[.int .u64 (n:Int),B t]):=by
  have e:0+n*2 ^ (7*0)=n:=by omega
  rw [e] at this;exact this
 simp [h2]
end Go.AM
namespace Go.AM
theorem FC (l t:Byt) (k:Int) (hk:k=l.length):cg (B (l++t)) (.int .i64 0) (.int .i64 k)=some [B t,.int .i64 0,B l]:=by
 subst hk
 have h1:(0:Int)<=(l.length:Int):=by omega
 have h2:(l.length:Int)<=((l++t).length:Int):=by simp;omega
 have a:=zY (l:=l++t) (i:=l.length) (k:= .i64) (by simp)
 have b:=zm (l:=l++t) (i:=l.length) (k:= .i64) (by simp)
 rw [List.take_left] at a
 rw [List.drop_left] at b
 unfold cg
 simp only [dm,ne_eq,not_true_eq_false,decide_false,ab,af,ag,de,h1,decide_true,ah,jx,jU,h2,Hh,a,b]
theorem qv (l:Byt) (e:IV):bp (B l) e=some [.int .i64 l.length]:=by
 show (gM (B l)).bind (λv=>av [v])=_
 rw [jx];rfl
theorem yn (s:IV) (e:Int):aX s (.int .i64 e)=some [.int .i64 e]:=rfl
theorem J5:b9 (B []) (.int .i64 0)=some [B [],.int .i64 0,.int .i64 0]:=by
 unfold b9
 simp [yn,qv]
def uy (n:Int):Nat:=if 0<=n then (2*n).toNat else (-2*n - 1).toNat
theorem JY {n:Int} (h:in64 n):uy n < 2 ^ 64:=by unfold uy;obtain ⟨h1,h2⟩:=h;split<;>omega
theorem Z5 (z:Int):bM.wrap z=z % 2 ^ 64:=by
 unfold gf
 show (if (false&&decide ((z % (2 ^ 64:Int))>=(2 ^ 63:Int)))=true then (z % (2 ^ 64:Int)) - (2 ^ 64:Int) else (z % (2 ^ 64:Int)))=_
 simp
theorem afz {a:Nat} (h:a < 2 ^ 64):aa .xor (.int .u64 (a:Int)) (.int .u64 0)=some (.int .u64 (a:Int)):=by
 simp only [aa,cm,if_true]
 have:(a1 bM.bits (a:Int) ^^^ a1 bM.bits 0).toNat=a:=by
  show (a1 64 (a:Int) ^^^ 0#64).toNat=a
  rw [fa,bR,b1,bm h]
 rw [this,yB h]
theorem ag0 {a:Nat} (h:a < 2 ^ 64):aa .xor (.int .u64 (a:Int)) (.int .u64 18446744073709551615)=some (.int .u64 ((2 ^ 64 - 1 - a:Nat):Int)):=by
 simp only [aa,cm,if_true]
 have:(a1 bM.bits (a:Int) ^^^ a1 bM.bits 18446744073709551615).toNat=2 ^ 64 - 1 - a:=by
  show (a1 64 (a:Int) ^^^ fv 64).toNat=_
  rw [e1,e6,bR,b1,bm h]
 rw [this,yB (by omega)]
theorem UU {n:Int} (h:in64 n):lL (.int .i64 n)=some [.int .u64 (uy n:Int)]:=by
 obtain ⟨h1,h2⟩:=h
 have hs:aa .shr (.int .i64 n) (.int .u64 63)=some (.int .i64 (if 0<=n then 0 else -1)):=by
  simp only [aa]
  rw [if_neg (by omega)]
  show some (IV.int .i64 (n.fdiv (2 ^ 63)))=_
  congr 2
  rw [Int.fdiv_eq_ediv_of_nonneg _ (by decide)]
  split<;>omega
 have hl:aa .shl (.int .u64 (n % 2 ^ 64)) (.int .u64 1)=some (.int .u64 ((2*n) % 2 ^ 64)):=by
  simp only [aa]
  rw [if_neg (by omega)]
  show some (IV.int .u64 (bM.wrap (n % 2 ^ 64*2)))=_
  rw [Z5]
  congr 2
  omega
 unfold lL
 simp only [bN,Z5,ab,hl,hs]
 unfold uy
 by_cases h0:0<=n
 ·rw [if_pos h0,if_pos h0]
  have e:(2*n) % 2 ^ 64=(((2*n).toNat:Nat):Int):=by omega
  have a:(0:Int) % 2 ^ 64=0:=by decide
  rw [e,a,afz (by omega),ab];rfl
 ·rw [if_neg h0,if_neg h0]
  have e:(2*n) % 2 ^ 64=(((2 ^ 64+2*n).toNat:Nat):Int):=by omega
  have a:(-1:Int) % 2 ^ 64=18446744073709551615:=by decide
  rw [e,a,ag0 (by omega),ab]
  have b:2 ^ 64 - 1 - (2 ^ 64+2*n).toNat=(-2*n - 1).toNat:=by omega
  rw [b];rfl
theorem Qd (z:Int):cl.wrap z=(z+2 ^ 63) % 2 ^ 64 - 2 ^ 63:=by rw [IntKind.wrap_i64];omega
theorem TG {n:Int} (h:in64 n):qi (.int .u64 (uy n:Int))=some [.int .i64 n]:=by
 obtain ⟨h1,h2⟩:=h
 have hz:=JY ⟨h1,h2⟩
 have hs:aa .shr (.int .u64 (uy n:Int)) (.int .u64 1)=some (.int .u64 ((uy n / 2:Nat):Int)):=l7 (b:=1) (by decide)
 have g:aa .and (.int .u64 (uy n:Int)) (.int .u64 1)=some (.int .u64 ((uy n % 2:Nat):Int)):=by
  rw [show (1:Int)=((1:Nat):Int) from rfl,qp hz (by decide),Nat.and_one_is_mod]
 unfold qi
 simp only [hs,g,ab,bN,Qd]
 by_cases h0:0<=n
 ·have a:((uy n / 2:Nat):Int)=n:=by unfold uy;rw [if_pos h0];omega
  have c:uy n % 2=0:=by unfold uy;rw [if_pos h0];omega
  rw [a,c]
  have d:(n+2 ^ 63) % 2 ^ 64 - 2 ^ 63=n:=by omega
  have e:lK .neg (.int .i64 ((((0:Nat):Int)+2 ^ 63) % 2 ^ 64 - 2 ^ 63))=some (.int .i64 0):=by rfl
  rw [d,e,ab]
  have f:aa .xor (.int .i64 n) (.int .i64 0)=some (.int .i64 n):=by
   simp only [aa,cm,if_true]
   have:(a1 cl.bits n ^^^ a1 cl.bits 0).toNat=n.toNat:=by
    show (a1 64 n ^^^ 0#64).toNat=_
    rw [fa,e2];omega
   have q:(((n.toNat:Nat):Int)+2 ^ 63) % 2 ^ 64 - 2 ^ 63=n:=by omega
   rw [this,Qd,q]
  rw [f];rfl
 ·have a:((uy n / 2:Nat):Int)= -n - 1:=by unfold uy;rw [if_neg h0];omega
  have c:uy n % 2=1:=by unfold uy;rw [if_neg h0];omega
  rw [a,c]
  have d:(-n - 1+2 ^ 63) % 2 ^ 64 - 2 ^ 63= -n - 1:=by omega
  have e:lK .neg (.int .i64 ((((1:Nat):Int)+2 ^ 63) % 2 ^ 64 - 2 ^ 63))=some (.int .i64 (-1)):=by rfl
  rw [d,e,ab]
  have f:aa .xor (.int .i64 (-n - 1)) (.int .i64 (-1))=some (.int .i64 n):=by
   simp only [aa,cm,if_true]
   have:(a1 cl.bits (-n - 1) ^^^ a1 cl.bits (-1)).toNat=(2 ^ 64+n).toNat:=by
    show (a1 64 (-n - 1) ^^^ fv 64).toNat=_
    rw [e1,e6,e2];omega
   have q:((((2 ^ 64+n).toNat:Nat):Int)+2 ^ 63) % 2 ^ 64 - 2 ^ 63=n:=by omega
   rw [this,Qd,q]
  rw [f];rfl
def Gx (n:Int):Byt:=bu (uy n)
theorem aeI {n:Int} (h:in64 n) (t:Byt):gU (B (Gx n++t)) (.int .i64 0)=some [B t,.int .i64 0,.int .i64 n]:=by
 unfold gU Gx
 rw [xi (JY h)]
 show (qi (.int .u64 (uy n:Int))).bind (λa=>some [B t,.int .i64 0,nth a 0])=_
 rw [TG h];rfl
theorem sM {α:Type} {f:α->Byt} {l:List α} {i:Nat} {x:α} (h:l[i]? =some x):(l.drop i).flatMap f=f x++(l.drop (i+1)).flatMap f:=by
 have hi:=(aB.1 h).1
 rw [bA hi,bC,(aB.1 h).2]
theorem kY {α:Type} {f:α->Byt} {k:Nat}: ∀{l:List α},(∀x∈l,(f x).length<=k)->(l.flatMap f).length<=k*l.length
 | [],_=>by simp
 | x::l,h=>by
   have h1:=h x bs
   have h2:=kY (l:=l) λy a=>h y (bB _ a)
   simp only [bC,bd,ca,Nat.mul_succ];omega
theorem QX {α:Type} {f:α->Byt}: ∀{l:List α},(∀x∈l,1<=(f x).length)->l.length<=(l.flatMap f).length
 | [],_=>by simp
 | x::l,h=>by
   have h1:=h x bs
   have h2:=QX (l:=l) λy a=>h y (bB _ a)
   simp only [bC,bd,ca];omega
theorem FX (n:Nat):1<=(bu n).length:=by rw [bu];split<;>simp
theorem sU {l:List Int} {n:Int} (h:l.length < 2 ^ 20):b8 1 8 (bT l) (.lst [[.int .i64 n]])=some (bT (l++[n])):=by
 simp only [b8]
 rw [if_pos ⟨by simp;omega,by simp⟩]
 simp [Zy]
def wI (z:Int):Int:=cl.wrap z
theorem XZ (z:Int):in64 (wI z):=by unfold wI;rw [Qd];constructor<;>omega
def y2:Int->List Int->List Int
 | _,[]=>[]
 | a,n::ns=>wI (n - a)::y2 n ns
theorem ra: ∀(a:Int) (ns:List Int),(y2 a ns).length=ns.length
 | _,[]=>rfl
 | a,n::ns=>by simp [y2,ra n ns]
theorem Ti: ∀(a:Int) (ns:List Int),∀x∈y2 a ns,in64 x
 | _,[],x,h=>by cases h
 | a,n::ns,x,h=>by
   rcases e3.1 h with rfl | h
   ·exact XZ _
   ·exact Ti n ns x h
def deltaL (ns:List Int):Byt:=(y2 0 ns).flatMap Gx
theorem Ur {n:Int} (h:in64 n):(Gx n).length<=10:=bK (JY h)
theorem fW {ns:List Int}:(deltaL ns).length<=10*ns.length:=by
 have:=kY (l:=y2 0 ns) (f:=Gx) λx a=>Ur (Ti 0 ns x a)
 rw [ra] at this;exact this
theorem Kz: ∀(ns:List Int) (a:Int) (acc:Byt),acc.length+10*ns.length < 2 ^ 40->sy lL cG a (ns.map Zy) ⟨acc.toArray⟩=some [B (acc++(y2 a ns).flatMap Gx)]
 | [],a,acc,_=>by simp [sy,y2,B]
 | n::ns,a,acc,h=>by
   have hz:=UU (XZ (n - a))
   have hp:=fB (JY (XZ (n - a)))
   have hl:=Ur (XZ (n - a))
   have ih:=Kz ns n (acc++Gx (wI (n - a))) (by simp at h ⊢;omega)
   show (lL (.int .i64 (wI (n - a)))).bind _=_
   rw [hz,ab,af,hp,ab,af]
   have e:(⟨acc.toArray⟩:ByteArray)++(⟨(bu (uy (wI (n - a)))).toArray⟩:ByteArray)=⟨(acc++Gx (wI (n - a))).toArray⟩:=by
    apply ByteArray.ext
    simp [ByteArray.data_append,Gx]
   show (if (⟨acc.toArray⟩:ByteArray).size+(⟨(bu (uy (wI (n - a)))).toArray⟩:ByteArray).size<=140737488355328 then sy lL cG n (ns.map Zy) ((⟨acc.toArray⟩:ByteArray)++(⟨(bu (uy (wI (n - a)))).toArray⟩:ByteArray)) else none)=_
   rw [if_pos (by rw [xt,xt];simp at h;unfold Gx at hl;omega),e,ih]
   simp [y2]
theorem nK {ns:List Int} (h:ns.length < 2 ^ 16):gg (bT ns)=some [B (deltaL ns)]:=by
 unfold gg KC
 simp only [a2]
 rw [if_pos (by omega)]
 have:=Kz ns 0 [] (by simp;omega)
 simpa [deltaL] using this
theorem Ow: ∀{ns:List Int},ns.length < 2 ^ 16->(∀n∈ns,in64 n)->pE (bT (y2 0 ns))=some [bT ns]:=by
 intro ns h c
 unfold pE
 simp only [aw,ab,a2,ra]
 have p: ∀(i:Nat) (x:Int) (ns:List Int) (a:Int),ns[i]? =some x->(y2 a ns)[i]? =some (wI (x - (a::ns).getD i 0)):=by
  intro i
  induction i with
  | zero=>intro x ns a b;cases ns with
    | nil=>simp at b
    | cons n ns=>simp at b;subst b;rfl
  | succ i ih=>intro x ns a b;cases ns with
    | nil=>simp at b
    | cons n ns=>simp at b;have:=ih x ns n b;simpa [y2] using this
 rw [kC (vs0:=[.lst [],.int .i64 0,.int .i64 0]) (λi (s:List Int)=>[bT s,.int .i64 ((0::ns).getD i 0),.int .i64 (i:Int)]) (λs x=>s++[x]) 0 (λs=>[bT s]) (λi s=>s.length=i) ns [] rfl (by have:=aO;omega) rfl]
 ·have:ns.foldl (λs x=>s++[x]) []=ns:=by
   have: ∀(l a:List Int),l.foldl (λs x=>s++[x]) a=a++l:= λl=>by
    induction l with
    | nil=>simp
    | cons x l ih=>intro a;simp [ih]
   simp [this]
  simp [this]
 ·intro i s x b m
  have hi:i < ns.length:=(aB.1 b).1
  have f:=oT (p i x ns 0 b)
  have e:=c x (a6 b)
  have q:(0::ns).getD (i+1) 0=x:=by simp [a8,b]
  have k:in64 ((0::ns).getD i 0):=by
   cases i with
   | zero=>show in64 0;exact ⟨by decide,by decide⟩
   | succ j=>
     have hj:j < ns.length:=by omega
     rw [a8,List.getElem?_cons_succ,ao hj]
     exact c _ (List.getElem_mem hj)
  refine ⟨by simp [m],?_⟩
  unfold vz
  have d:aa .add (.int .i64 ((0::ns).getD i 0)) (.int .i64 (wI (x - (0::ns).getD i 0)))=some (.int .i64 x):=by
   simp only [aa,cm,if_true]
   obtain ⟨r,t⟩:=e
   obtain ⟨o,b2⟩:=k
   generalize (0::ns).getD i 0=y at o b2
   congr 2
   unfold wI
   rw [Qd,Qd];omega
  have g:((i:Int) < (ns.length:Int)):=by omega
  simp only [af,ai,ay,al,g,decide_true,ab,ah,f,d,sU (show s.length < 2 ^ 20 by omega),au (show i < 2 ^ 62 by omega),q]
 ·intro s m
  unfold vz
  simp
theorem eH {ns:List Int} (h:ns.length < 2 ^ 16) (j: ∀n∈ns,in64 n):bn (B (deltaL ns)) (.int .i64 ns.length)=some [bT ns,.int .i64 0]:=by
 unfold bn
 have p: ¬((ns.length:Int) < 0):=by omega
 have q: ¬(((deltaL ns).length:Int) < (ns.length:Int)):=by
  have:=QX (l:=y2 0 ns) (f:=Gx) λx _=>FX _
  rw [ra] at this
  unfold deltaL;omega
 simp only [al,p,decide_false,ab,ag,jx,aQ,q]
 have g:cq (B (deltaL ns))=some [B (deltaL ns),.int .i64 0]:=rfl
 simp only [g,ab,af,ai]
 rw [kC (vs0:=[B (deltaL ns),.int .i64 0,.lst [],.int .i64 0]) (λi (s:List Int)=>[B (((y2 0 ns).drop i).flatMap Gx),.int .i64 0,bT s,.int .i64 (i:Int)]) (λs x=>s++[x]) 0 (λs=>[B [],.int .i64 0,bT s]) (λi s=>s.length=i) (y2 0 ns) [] rfl (by have:=aO;rw [ra];omega) rfl]
 ·have: ∀(l a:List Int),l.foldl (λs x=>s++[x]) a=a++l:= λl=>by
   induction l with
   | nil=>simp
   | cons x l ih=>intro a;simp [ih]
  simp only [this,cv,ab,aN,af,ai,ay,J5]
  show (aa .neq (.int .i64 0) (.int .i64 0)).bind _=_
  simp [Ow h j]
 ·intro i s x m o
  have hi:i < (y2 0 ns).length:=(aB.1 m).1
  rw [ra] at hi
  refine ⟨by simp [o],?_⟩
  have d:=aeI (Ti 0 ns x (a6 m)) (((y2 0 ns).drop (i+1)).flatMap Gx)
  rw [<-sM m] at d
  have k:((i:Int) < (ns.length:Int)):=by omega
  have hdr: ∀a b c:IV,([a,b,c]:List IV).drop 2=[c]:= λ_ _ _=>rfl
  unfold rG
  simp only [af,ai,ay,az,al,k,decide_true,ab,ah,d,hdr,sU (show s.length < 2 ^ 20 by omega),au (show i < 2 ^ 62 by omega)]
 ·intro s o
  unfold rG
  have e:(y2 0 ns).drop ns.length=[]:=eg (by rw [ra];exact b6 _)
  simp [ra,e]
end Go.AM
namespace Go.AM
theorem Cv {f:List IV->Option SR} (enc:Nat->List IV) (n a:Nat) (out:List IV) (hs: ∀i,i < n->f (enc i)=some (.next (enc (i+1)))) (he:f (enc n)=some (.done a out)): ∀(m i:Nat),i<=n->n - i < m->iter m f (enc i)=some (a,out)
 | 0,i,_,h=>by omega
 | m+1,i,hi,hm=>by
   by_cases h:i=n
   ·subst h;exact gB m he
   ·rw [og m (hs i (by omega))]
    exact Cv enc n a out hs he m (i+1) (by omega) (by omega)
theorem bc {f:List IV->Option SR} {vs0:List IV} (enc:Nat->List IV) (n a:Nat) (out:List IV) (h0:vs0=enc 0) (hn:n < 999999) (hs: ∀i,i < n->f (enc i)=some (.next (enc (i+1)))) (he:f (enc n)=some (.done a out)):iter rounds f vs0=some (a,out):=by
 subst h0
 exact Cv enc n a out hs he rounds 0 (fb _) (by rw [aO];omega)
theorem qk {α:Type} {f:α->Byt} {l:List α} {i:Nat} {x:α} (h:l[i]? =some x):(l.take (i+1)).flatMap f=(l.take i).flatMap f++f x:=by
 rw [bt h];simp
theorem ab1 (l:Byt):xk ⟨l.toArray⟩=l.map eB:=by simp [xk,eB]
theorem xZ {x:IV} {a b:Byt} (h:a.length+b.length<=140737488355328):r7 [[x,.lst (a.map eB)],[B b]]=some [.nilp,.lst ((a++b).map eB),.int .i64 b.length,.nilf]:=by
 show (if (a.map eB).length+(⟨b.toArray⟩:ByteArray).size<=140737488355328 then some [IV.nilp,.lst (a.map eB++xk ⟨b.toArray⟩),.int .i64 (⟨b.toArray⟩:ByteArray).size,.nilf] else none)=_
 rw [if_pos (by rw [xt];simpa using h),ab1,xt,List.map_append]
theorem fk {a:Nat} {k:IntKind} (h:a < 2 ^ 64):bN .u64 (.int k (a:Int))=some (.int .u64 (a:Int)):=by simp only [bN,yB h]
theorem kI {a:Nat} {k:IntKind} (h:a < 2 ^ 63):bN .i64 (.int k (a:Int))=some (.int .i64 (a:Int)):=by simp only [bN];rw [wrap64 (by omega) (by omega)]
def eU (n:Nat):List IV:=[.int .u64 (n:Int)]
abbrev Ns (l:List Nat):IV:= .lst (l.map eU)
theorem acN {l:List Nat} {i:Nat} {x:Nat} (h:l[i]? =some x):aE (Ns l) (.int .i64 (i:Int)) 1=some i/\cV (Ns l) i 0=some (.int .u64 (x:Int)):=
 ⟨ea h rfl (by decide),by rw [bX h];rfl⟩
theorem aae {l k:List Nat} (hl:l.length < 2 ^ 20) (hk:k.length < 2 ^ 20):b8 1 8 (Ns l) (Ns k)=some (Ns (l++k)):=by
 simp only [b8]
 rw [if_pos ⟨by simp;omega,by simp [eU]⟩]
 simp
abbrev Rn:=Nat×Nat
def eRn (r:Rn):List IV:=[.int .u64 (r.1:Int),.int .i64 (r.2:Int)]
abbrev xm (l:List Rn):IV:= .lst (l.map eRn)
theorem Qh {l:List Rn} {i:Nat} {x:Rn} (h:l[i]? =some x):aE (xm l) (.int .i64 (i:Int)) 2=some i/\eV (xm l) i 0 2=some (eRn x)/\cV (xm l) i 0=some (.int .u64 (x.1:Int))/\cV (xm l) i 1=some (.int .i64 (x.2:Int)):=
 ⟨ea h rfl (by decide),qG h rfl,by rw [bX h];rfl,by rw [bX h];rfl⟩
theorem RS {l:List Rn} {r:Rn} (hl:l.length < 2 ^ 20):b8 2 16 (xm l) (.lst [eRn r])=some (xm (l++[r])):=by
 simp only [b8]
 rw [if_pos ⟨by simp;omega,by simp [eRn]⟩]
 simp
def Ik (rs:List Rn) (x:Nat):List Rn:=match rs.getLast? with
 | some r=>if r.1=x then rs.set (rs.length - 1) (r.1,r.2+1) else rs++[(x,1)]
 | none=>[(x,1)]
def cK (l:List Nat):List Rn:=l.foldl Ik []
def sprR (rs:List Rn):List Nat:=rs.flatMap λr=>ad r.2 r.1
structure OkR (l:List Nat) (rs:List Rn):Prop where
 spr:sprR rs=l
 cnt: ∀r∈rs,1<=r.2
 adj: ∀i r q,rs[i]? =some r->rs[i+1]? =some q->r.1≠q.1
 val: ∀r∈rs,r.1 < 2 ^ 64
theorem OkR.add {l:List Nat} {rs:List Rn} (h:OkR l rs) {x:Nat} (j:x < 2 ^ 64):OkR (l++[x]) (Ik rs x):=by
 unfold Ik
 split
 ·rename_i r hr
  obtain ⟨ini,rfl⟩:=c8.1 hr
  split
  ·rename_i g
   have e:(ini++[r]).set ((ini++[r]).length - 1) (r.1,r.2+1)=ini++[(r.1,r.2+1)]:=by simp
   rw [e]
   refine ⟨?_,?_,?_,?_⟩
   ·rw [<-h.spr]
    simp only [sprR,cO,bC,List.flatMap_nil,List.append_nil,bO]
    rw [List.replicate_succ',g]
   ·intro q c
    rcases c0.1 c with c | c
    ·exact h.cnt q (eW _ c)
    ·simp at c;subst c;show 1<=r.2+1;omega
   ·intro i a b f hb
    have hi:i+1 < (ini++[(r.1,r.2+1)]).length:=(aB.1 hb).1
    simp at hi
    rw [a5 (by omega)] at f
    by_cases d:i+1 < ini.length
    ·rw [a5 d] at hb
     exact h.adj i a b (by rw [a5 (by omega)];exact f) (by rw [a5 d];exact hb)
    ·rw [bf (by omega)] at hb
     have:i+1 - ini.length=0:=by omega
     rw [this] at hb
     simp at hb;subst hb
     exact h.adj i a r (by rw [a5 (by omega)];exact f) (by rw [bf (by omega),this];rfl)
   ·intro q c
    rcases c0.1 c with c | c
    ·exact h.val q (eW _ c)
    ·simp at c;subst c;exact h.val r (by simp)
  ·rename_i g
   refine ⟨?_,?_,?_,?_⟩
   ·rw [<-h.spr];simp [sprR]
   ·intro q c
    rcases c0.1 c with c | c
    ·exact h.cnt q c
    ·simp at c;subst c;exact b6 1
   ·intro i a b f hb
    have hi:i+1 < (ini++[r]++[(x,1)]).length:=(aB.1 hb).1
    simp at hi
    by_cases d:i+1 < (ini++[r]).length
    ·rw [a5 d] at hb
     rw [a5 (by omega)] at f
     exact h.adj i a b f hb
    ·simp at d
     have e:i=ini.length:=by omega
     subst e
     simp at f hb
     subst f hb
     exact g
   ·intro q c
    rcases c0.1 c with c | c
    ·exact h.val q c
    ·simp at c;subst c;exact j
 ·rename_i hr
  rw [c9] at hr
  subst hr
  have hl:l=[]:=h.spr.symm
  subst hl
  refine ⟨by simp [sprR],λq c=>by simp at c;subst c;exact b6 1,λi a b f hb=>by simp at hb,λq c=>by simp at c;subst c;exact j⟩
theorem GD: ∀(l a:List Nat) (rs:List Rn),OkR a rs->(∀x∈l,x < 2 ^ 64)->OkR (a++l) (l.foldl Ik rs)
 | [],a,rs,h,_=>by simpa using h
 | x::l,a,rs,h,b=>by
   have:=GD l (a++[x]) (Ik rs x) (h.add (b x bs)) λy c=>b y (bB _ c)
   simpa using this
theorem OkR.len {l:List Nat} {rs:List Rn} (h:OkR l rs):rs.length<=l.length:=by
 rw [<-h.spr]
 have: ∀rs:List Rn,(∀r∈rs,1<=r.2)->rs.length<=(sprR rs).length:=by
  intro rs
  induction rs with
  | nil=>intro _;simp
  | cons r rs ih=>
    intro h
    have h1:=h r bs
    have h2:=ih λq a=>h q (bB _ a)
    simp only [sprR,bC,bd,bb,ca] at h2 ⊢
    omega
 exact this rs h.cnt
theorem WN {l:List Nat} (h: ∀x∈l,x < 2 ^ 64):OkR l (cK l):=by
 have:=GD l [] [] ⟨rfl,by simp,by simp,by simp⟩ h
 simpa [cK] using this
theorem Wx {l:List Nat} (hl:l.length < 2 ^ 16) (h: ∀x∈l,x < 2 ^ 64):iT (Ns l)=some [xm (cK l)]:=by
 unfold iT
 simp only [aw,ab,a2]
 rw [bc (λi=>[xm ((l.take i).foldl Ik []),.int .i64 (i:Int)]) l.length 0 [xm (cK l)] (by simp) (by omega) (λi hi=> ?_) (by
  unfold oL
  simp [cK])]
 ·simp
 ·have n:=ao hi
  generalize l[i]=x at n
  obtain ⟨o,p⟩:=acN n
  have k:((i:Int) < (l.length:Int)):=by omega
  have hok:=GD (l.take i) [] [] ⟨rfl,by simp,by simp,by simp⟩ λy z=>h y (b0 z)
  simp only [cv] at hok
  have hlen:=hok.len
  simp only [bt n,List.foldl_append,List.foldl_cons,List.foldl_nil]
  generalize w:(l.take i).foldl Ik []=rs at*
  simp only [cb] at hlen
  have a:=au (i:=i) (by omega)
  unfold oL
  simp only [af,ai,al,k,decide_true,ah,ab,o,p,cr,a2]
  unfold Ik
  cases j:rs.getLast? with
  | none=>
    rw [c9] at j
    subst j
    have e:aa .sub (.int .i64 ((([]:List Rn).length:Nat):Int)) (.int .i64 1)=some (.int .i64 (-1)):=rfl
    have g:aa .geq (.int .i64 (-1)) (.int .i64 0)=some (.bool false):=rfl
    have c:=RS (l:=[]) (r:=(x,1)) (by decide)
    simp only [eRn] at c
    simp only [e,g,ab,ag,af,a,cv] at c ⊢
    have t:b8 2 16 (xm []) (.lst [[.int .u64 (x:Int),.int .i64 1]])=some (xm [(x,1)]):=c
    rw [t];rfl
  | some r=>
    obtain ⟨ini,b⟩:=c8.1 j
    have f:0 < rs.length:=by rw [b];simp
    have d:rs[rs.length - 1]? =some r:=by rw [b];simp
    obtain ⟨A,b2,q,s⟩:=Qh d
    have e:=sN (i:=rs.length) (by omega) f
    have g:aa .geq (.int .i64 ((rs.length - 1:Nat):Int)) (.int .i64 0)=some (.bool true):=by rw [de];simp
    have u:bP rs.length (.int .i64 ((rs.length - 1:Nat):Int))=some (rs.length - 1):=eb (by omega)
    simp only [e,g,ab,ah,u,q,dI]
    by_cases hr:r.1=x
    ·have h1:((r.1:Int)=(x:Int)):=by omega
     have hc:r.2<=l.length:=by
      have h2:(ad r.2 r.1).length<=(sprR rs).length:=by
       rw [b];simp [sprR]
      rw [hok.spr] at h2
      simp at h2;omega
     have v:aa .add (.int .i64 (r.2:Int)) (.int .i64 1)=some (.int .i64 ((r.2+1:Nat):Int)):=au (by omega)
     have m:pK (xm rs) (rs.length - 1) 1 [.int .i64 ((r.2+1:Nat):Int)]=some (xm (rs.set (rs.length - 1) (r.1,r.2+1))):=by
      simp only [pK,ds,d,b3,ab]
      rw [if_pos (by simp [eRn])]
      simp [setCells,eRn,List.map_set]
     simp only [h1,decide_true,af,ah,s,ab,v,m,a,hr,if_true]
    ·have h1: ¬((r.1:Int)=(x:Int)):=by omega
     have c:b8 2 16 (xm rs) (.lst [[.int .u64 (x:Int),.int .i64 1]])=some (xm (rs++[(x,1)])):=RS (r:=(x,1)) (by omega)
     simp only [h1,decide_false,af,ag,ab,c,a,hr,if_false]
def TJ (r:Rn):Byt:=bu r.1++bu r.2
def po (l:List Nat):Byt:=(cK l).flatMap TJ
theorem Yp {l:List Nat} {rs:List Rn} (h:OkR l rs) {i:Nat} {r:Rn} (hr:rs[i]? =some r):r.2+(sprR (rs.take i)).length<=l.length:=by
 have hi:=(aB.1 hr).1
 have:(sprR (rs.take (i+1))).length<=(sprR rs).length:=by
  conv=>rhs;rw [<-b7 (i+1) rs]
  unfold sprR
  rw [cO,bd]
  exact Nat.le_add_right _ _
 rw [bt hr,h.spr] at this
 simp [sprR] at this ⊢
 omega
theorem Yn {r:Rn} (h1:r.1 < 2 ^ 64) (h2:r.2 < 2 ^ 64):(TJ r).length<=20:=by
 have:=bK h1;have:=bK h2
 simp [TJ];omega
theorem OkR.cmax {l:List Nat} {rs:List Rn} (h:OkR l rs) (hl:l.length < 2 ^ 16): ∀r∈rs,r.2 < 2 ^ 16:= λr hr=>by
 obtain ⟨i,hi⟩:=bx.1 hr
 have:=Yp h hi
 omega
theorem BD {l:List Nat} (hl:l.length < 2 ^ 16) (h: ∀x∈l,x < 2 ^ 64):(po l).length<=20*l.length:=by
 have hok:=WN h
 have h1:=kY (f:=TJ) (l:=cK l) (k:=20) λr hr=>Yn (hok.val r hr) (by have:=hok.cmax hl r hr;omega)
 have h2:=hok.len
 unfold po;omega
theorem zJ {l:List Nat} (hl:l.length < 2 ^ 16) (h: ∀x∈l,x < 2 ^ 64):kA (Ns l)=some [B (po l)]:=by
 have hok:=WN h
 have hlen:=hok.len
 have c:=hok.cmax hl
 unfold kA
 simp only [Wx hl h,ab,af,aw,a2]
 rw [bc (λi=>[.nilp,.lst ((((cK l).take i).flatMap TJ).map eB),.int .i64 (i:Int)]) (cK l).length 0 [.nilp,.lst ((po l).map eB)] (by simp) (by omega) (λi hi=> ?_) (by
  unfold tA
  simp [po])]
 ·simp only [ab,aN,ai,oN]
  rfl
 ·have d:=ao hi
  generalize (cK l)[i]=r at d
  have hr:=a6 d
  obtain ⟨p,b2,s,t⟩:=Qh d
  have g:((i:Int) < ((cK l).length:Int)):=by omega
  have h1:=hok.val r hr
  have h2:=c r hr
  have e:=kY (f:=TJ) (l:=(cK l).take i) (k:=20) λq o=>Yn (hok.val q (b0 o)) (by have:=c q (b0 o);omega)
  have u:=bK h1
  have v:=bK (n:=r.2) (by omega)
  simp only [cb] at e
  have j:=xZ (x:= .nilp) (a:=((cK l).take i).flatMap TJ) (b:=bu r.1) (by omega)
  have m:=xZ (x:= .nilp) (a:=((cK l).take i).flatMap TJ++bu r.1) (b:=bu r.2) (by rw [bd];omega)
  unfold tA
  simp only [af,ai,ay,al,g,decide_true,ah,ab,p,b2,eRn,fB h1,j,fk (show r.2 < 2 ^ 64 by omega),fB (show r.2 < 2 ^ 64 by omega),m,au (show i < 2 ^ 62 by omega),qk d,TJ,bO]
end Go.AM
namespace Go.AM
theorem Qx {a b:Nat} (h:a*b < 2 ^ 64):aa .mul (.int .u64 (a:Int)) (.int .u64 (b:Int))=some (.int .u64 ((a*b:Nat):Int)):=by
 simp only [aa,cm,if_true]
 rw [<-Int.natCast_mul,yB h]
theorem EM {n:Nat} (h:n < 2 ^ 32):qb (.int .u64 1) (.int .u64 (n:Int))=some [.int .u64 0,.int .u64 (n:Int)]:=by
 have c:aa .and (.int .u64 1) (.int .u64 4294967295)=some (.int .u64 1):=rfl
 have d:aa .shr (.int .u64 1) (.int .u64 32)=some (.int .u64 0):=rfl
 have f:aa .and (.int .u64 (n:Int)) (.int .u64 4294967295)=some (.int .u64 (n:Int)):=by
  have e:n&&&4294967295=n:=by
   have:=Nat.and_two_pow_sub_one_eq_mod n 32
   rw [show (2:Nat) ^ 32 - 1=4294967295 from rfl,bm h] at this
   exact this
  have:=qp (a:=n) (b:=4294967295) (by omega) (by decide)
  rw [e] at this;exact this
 have g:aa .shr (.int .u64 (n:Int)) (.int .u64 32)=some (.int .u64 0):=by
  have:=l7 (a:=n) (b:=32) (k:= .u64) (by decide)
  rw [Nat.div_eq_of_lt h] at this;exact this
 have i:aa .mul (.int .u64 1) (.int .u64 (n:Int))=some (.int .u64 (n:Int)):=by
  have:=Qx (a:=1) (b:=n) (by omega)
  rw [Nat.one_mul] at this;exact this
 have j:aa .mul (.int .u64 0) (.int .u64 (n:Int))=some (.int .u64 0):=by
  have:=Qx (a:=0) (b:=n) (by omega)
  rw [Nat.zero_mul] at this;exact this
 have l:aa .add (.int .u64 0) (.int .u64 0)=some (.int .u64 0):=rfl
 have b2:aa .and (.int .u64 0) (.int .u64 4294967295)=some (.int .u64 0):=rfl
 have m:aa .shr (.int .u64 0) (.int .u64 32)=some (.int .u64 0):=rfl
 have o:aa .mul (.int .u64 1) (.int .u64 0)=some (.int .u64 0):=rfl
 have p:aa .mul (.int .u64 0) (.int .u64 0)=some (.int .u64 0):=rfl
 unfold qb sw
 simp only [c,d,f,g,i,j,l,b2,m,o,p,ab,wL,du,b3,af,ai]
theorem Z9 {x z:IV} {m n:Nat} (h:m<=n):pS 1 (.lst (ad m [x]++ad (n - m) [z])) m n (DR (.lst (ad m [x]++ad (n - m) [z])) 0 m)=some (.lst (ad (m+min (n - m) m) [x]++ad (n - (m+min (n - m) m)) [z]),.int .i64 ((min (n - m) m:Nat):Int)):=by
 have a:(ad m [x]++ad (n - m) [z]).take m=ad m [x]:=List.take_left' (by simp)
 simp only [Zw,fs,gd,a,pS,bb]
 rw [if_pos ⟨h,by simp;omega,by simp⟩]
 have b:(ad m [x]++ad (n - m) [z]).drop (m+min (n - m) m)=ad (n - (m+min (n - m) m)) [z]:=by
  rw [List.drop_append]
  simp
  omega
 simp only [bb,b,List.take_replicate]
 rw [List.replicate_append_replicate,Nat.min_eq_left (Nat.min_le_right _ _)]
theorem KE {x z:IV} {n:Nat} (hn:n < 2 ^ 16): ∀(j m:Nat),1<=m->m<=n->n - m < j->iter j bS [.lst (ad m [x]++ad (n - m) [z]),.int .i64 (m:Int)]=some (0,[.lst (ad n [x])])
 | 0,m,_,_,h=>by omega
 | j+1,m,h1,h2,c=>by
   by_cases h:m=n
   ·subst h
    refine gB j ?_
    unfold bS
    simp
   ·have b:((m:Int) < (n:Int)):=by omega
    have hl:(ad m [x]++ad (n - m) [z]).length=n:=by simp;omega
    have a:aa .add (.int .i64 (m:Int)) (.int .i64 ((min (n - m) m:Nat):Int))=some (.int .i64 ((m+min (n - m) m:Nat):Int)):=wk (by omega)
    rw [og j (vs':=[.lst (ad (m+min (n - m) m) [x]++ad (n - (m+min (n - m) m)) [z]),.int .i64 ((m+min (n - m) m:Nat):Int)])]
    ·exact KE hn j _ (by omega) (by omega) (by omega)
    ·unfold bS
     simp only [af,ai,cr,hl,al,b,decide_true,ah,ab,wD (show m<=n from h2),LY (show m<=n from h2),Z9 h2,a]
theorem YS {x:IV} {n:Nat} (hn:n < 2 ^ 16):dk (.lst [[x]]) (.int .i64 (n:Int))=some [.lst (ad n [x])]:=by
 have e0: ¬((n:Int) < 0):=by omega
 have a:aD (.lst [[x]])=some (.int .i64 1):=rfl
 have b:bN .u64 (.int .i64 1)=some (.int .u64 1):=rfl
 have c:aa .gtr (.int .u64 0) (.int .u64 0)=some (.bool false):=rfl
 have d: ¬((9223372036854775807:Int) < (n:Int)):=by omega
 have e:jd 8 [.int .u64 0] (.int .i64 (n:Int)) (.int .i64 (n:Int))=some (.lst (ad n [.int .u64 0])):=by
  simp only [jd]
  rw [if_pos ⟨trivial,by omega,by simp;omega⟩];simp
 have f:pS 1 (.lst (ad n [.int .u64 0])) 0 n (.lst [[x]])=some (.lst (ad (min n 1) [x]++ad (n - min n 1) [.int .u64 0]),.int .i64 ((min n 1:Nat):Int)):=by
  simp only [pS]
  rw [if_pos ⟨fb _,by simp,by simp⟩]
  have:([[x]]:List (List IV)).take (min n 1)=ad (min n 1) [x]:=by
   rcases br n with h | h
   ·subst h;rfl
   ·rw [cc h];rfl
  simp [this]
 unfold dk
 simp only [al,e0,decide_false,ab,ag,a,b,fk (show n < 2 ^ 64 by omega),EM (show n < 2 ^ 32 by omega),af,ai,c,aQ,d,kI (show n < 2 ^ 63 by omega),e,cr,bb,f]
 rcases br n with h | h
 ·subst h
  rw [show rounds=999999+1 from rfl,gB 999999 (k:=0) (o:=[.lst []])]
  ·rfl
  ·unfold bS
   simp
 ·rw [cc h,KE hn rounds 1 (b6 _) h (by rw [aO];omega)]
  rfl
theorem XE {x:IV} {n:Nat} (hn:n < 2 ^ 16):dZ (.lst [[x]]) (.int .i64 (n:Int))=some [.lst (ad n [x])]:=by
 have e0: ¬((n:Int) < 0):=by omega
 have b:aD (.lst [[x]])=some (.int .i64 1):=rfl
 have c:bN .u64 (.int .i64 1)=some (.int .u64 1):=rfl
 have d:aa .gtr (.int .u64 0) (.int .u64 0)=some (.bool false):=rfl
 have e: ¬((9223372036854775807:Int) < (n:Int)):=by omega
 have f:jd 1 [.bool false] (.int .i64 (n:Int)) (.int .i64 (n:Int))=some (.lst (ad n [.bool false])):=by
  simp only [jd]
  rw [if_pos ⟨trivial,by omega,by simp;omega⟩];simp
 have g:pS 1 (.lst (ad n [.bool false])) 0 n (.lst [[x]])=some (.lst (ad (min n 1) [x]++ad (n - min n 1) [.bool false]),.int .i64 ((min n 1:Nat):Int)):=by
  simp only [pS]
  rw [if_pos ⟨fb _,by simp,by simp⟩]
  have:([[x]]:List (List IV)).take (min n 1)=ad (min n 1) [x]:=by
   rcases br n with h | h
   ·subst h;rfl
   ·rw [cc h];rfl
  simp [this]
 have a:pT=bS:=rfl
 unfold dZ
 simp only [al,e0,decide_false,ab,ag,b,c,fk (show n < 2 ^ 64 by omega),EM (show n < 2 ^ 32 by omega),af,ai,d,aQ,e,kI (show n < 2 ^ 63 by omega),f,cr,bb,g,a]
 rcases br n with h | h
 ·subst h
  rw [show rounds=999999+1 from rfl,gB 999999 (k:=0) (o:=[.lst []])]
  ·rfl
  ·unfold bS
   simp
 ·rw [cc h,KE hn rounds 1 (b6 _) h (by rw [aO];omega)]
  rfl
theorem VC {l:List Nat} {rs:List Rn} (h:OkR l rs) (hl:rs.length < 2 ^ 16):sP (xm rs)=some [.bool true]:=by
 unfold sP
 simp only [aw,ab,a2]
 rw [bc (λi=>[.int .i64 (i:Int)]) rs.length 0 [] (by simp) (by omega) (λi hi=> ?_) (by
  unfold zC
  simp)]
 ·rfl
 ·have b:=ao hi
  generalize rs[i]=r at b
  obtain ⟨e,b2,g,j⟩:=Qh b
  have c:((i:Int) < (rs.length:Int)):=by omega
  have hc: ¬((r.2:Int) < 1):=by have:=h.cnt r (a6 b);omega
  have hs:=au (i:=i) (by omega)
  unfold zC
  simp only [af,ai,al,c,decide_true,ah,ab,e,b2,eRn,hc,decide_false,ag,aQ]
  by_cases h0:(0:Int) < (i:Int)
  ·have d:=ao (show i - 1 < rs.length by omega)
   generalize rs[i - 1]=q at d
   obtain ⟨c1,c2,c3,c4⟩:=Qh d
   have f:=h.adj (i - 1) q r d (by rw [show i - 1+1=i by omega];exact b)
   have a: ¬((q.1:Int)=(r.1:Int)):=by omega
   simp only [h0,decide_true,ah,sN (i:=i) (by omega) (by omega),ab,c1,c3,dI,a,decide_false,af,ag,hs]
  ·simp only [h0,decide_false,ag,ab,af,hs]
theorem LK {l:List Nat} {rs:List Rn} (h:OkR l rs) (hl:l.length < 2 ^ 16):nc (xm rs) (.int .i64 (l.length:Int))=some [Ns l,.bool true]:=by
 have hlen:=h.len
 have e0: ¬((l.length:Int) < 0):=by omega
 unfold nc
 simp only [VC h (by omega),ab,af,aW,Bool.not_true,ag,al,e0,decide_false,aw,a2]
 rw [bc (λi=>[Ns (sprR (rs.take i)),.int .i64 (i:Int)]) rs.length 0 [Ns l] (by simp [sprR]) (by omega) (λi hi=> ?_) (by
  unfold tK
  simp [h.spr])]
 ·rfl
 ·have c:=ao hi
  generalize rs[i]=r at c
  obtain ⟨j,b2,n,o⟩:=Qh c
  have d:((i:Int) < (rs.length:Int)):=by omega
  have g:=Yp h c
  have b:aa .sub (.int .i64 (l.length:Int)) (.int .i64 ((sprR (rs.take i)).length:Int))=some (.int .i64 ((l.length - (sprR (rs.take i)).length:Nat):Int)):=qD (by omega) (by omega)
  have f: ¬(((l.length - (sprR (rs.take i)).length:Nat):Int) < (r.2:Int)):=by omega
  have a:=aae (l:=sprR (rs.take i)) (k:=ad r.2 r.1) (by omega) (by simp;omega)
  have e:Ns (ad r.2 r.1)= .lst (ad r.2 [.int .u64 (r.1:Int)]):=by simp [eU]
  rw [e] at a
  have m:sprR (rs.take (i+1))=sprR (rs.take i)++ad r.2 r.1:=by rw [bt c];simp [sprR]
  unfold tK
  simp only [af,ai,al,d,decide_true,ah,ab,j,b2,eRn,cr,a2,b,aQ,f,decide_false,ag,YS (show r.2 < 2 ^ 16 by omega),a,au (show i < 2 ^ 62 by omega),m]
theorem abj {l:List Nat} {rs:List Rn} (h:OkR l rs) {i:Nat} {r:Rn} (hr:rs[i]? =some r):(sprR (rs.drop i)).length=r.2+(sprR (rs.drop (i+1))).length:=by
 have hi:=(aB.1 hr).1
 rw [bA hi,(aB.1 hr).2]
 simp only [sprR,bC,bd,bb]
theorem aem {l:List Nat} {rs:List Rn} (h:OkR l rs) (i:Nat):(sprR (rs.drop i)).length<=l.length:=by
 have:(sprR (rs.drop i)).length<=(sprR rs).length:=by
  conv=>rhs;rw [<-b7 i rs]
  unfold sprR
  rw [cO,bd]
  exact Nat.le_add_left _ _
 rw [h.spr] at this;exact this
theorem zI {l:List Nat} (hl:l.length<=4096) (h: ∀x∈l,x < 2 ^ 64):kp (B (po l)) (.int .i64 (l.length:Int))=some [Ns l,.int .i64 0]:=by
 have hok:=WN h
 have hlen:=hok.len
 have e0: ¬((l.length:Int) < 0):=by omega
 have A: ¬((4096:Int) < (l.length:Int)):=by omega
 have m:cq (B (po l))=some [B (po l),.int .i64 0]:=rfl
 unfold kp
 simp only [al,e0,decide_false,ab,ag,aQ,A,m,af,ai]
 rw [bc (λi=>[B (((cK l).drop i).flatMap TJ),.int .i64 0,xm ((cK l).take i),.int .i64 ((sprR ((cK l).drop i)).length:Int)]) (cK l).length 0 [xm (cK l),.int .i64 0] (by simp [po,hok.spr]) (by omega) (λi hi=> ?_) (by
  unfold ua
  simp [qv,sprR])]
 ·have C:aa .gtr (.int .i64 0) (.int .i64 0)=some (.bool false):=rfl
  simp only [ab,aN,af,ai,C,ag,LK hok (show l.length < 2 ^ 16 by omega)]
 ·have g:=ao hi
  generalize (cK l)[i]=r at g
  have hm:=a6 g
  have G:=sM (f:=TJ) g
  have hv:=hok.val r hm
  have hc:=hok.cmax (by omega) r hm
  have F:=hok.cnt r hm
  have s:=xi hv (bu r.2++((cK l).drop (i+1)).flatMap TJ)
  have t:=xi (n:=r.2) (by omega) (((cK l).drop (i+1)).flatMap TJ)
  have hb:((cK l).drop i).flatMap TJ=bu r.1++(bu r.2++((cK l).drop (i+1)).flatMap TJ):=by rw [G];simp [TJ]
  have o:(0:Int) < ((((cK l).drop i).flatMap TJ).length:Int):=by
   rw [hb];have:=FX r.1;simp;omega
  have hdr: ∀a b c:IV,([a,b,c]:List IV).drop 2=[c]:= λ_ _ _=>rfl
  have z:=abj hok g
  have y:=aem hok i
  have H: ¬((r.2:Int)=0):=by omega
  have I: ¬(((sprR ((cK l).drop i)).length:Int) < (r.2:Int)):=by omega
  have d:aa .sub (.int .i64 ((sprR ((cK l).drop i)).length:Int)) (.int .i64 (r.2:Int))=some (.int .i64 ((sprR ((cK l).drop (i+1))).length:Int)):=by
   rw [qD (by omega) (by omega)];congr 2;omega
  have e:=RS (l:=(cK l).take i) (r:=r) (by simp;omega)
  simp only [eRn] at e
  have u:((cK l).take i).length=i:=by simp;omega
  have j:aa .neq (.int .i64 0) (.int .i64 0)=some (.bool false):=rfl
  rw [bt g]
  unfold ua
  simp only [af,ai,ay,az,qv,ab,aQ,o,decide_true,ah]
  rw [hb]
  simp only [s,t,ab,af,ai,yn,j,ag,hdr,dI,H,aQ,decide_false,fk (show (sprR ((cK l).drop i)).length < 2 ^ 64 by omega),I,cr,a2,u]
  rcases br i with h0 | h0
  ·subst h0
   have D:aa .sub (.int .i64 ((0:Nat):Int)) (.int .i64 1)=some (.int .i64 (-1)):=rfl
   have p:aa .geq (.int .i64 (-1)) (.int .i64 0)=some (.bool false):=rfl
   simp only [D,p,ab,ag,af,kI (show r.2 < 2 ^ 63 by omega),d,e]
  ·have v:=ao (show i - 1 < (cK l).length by omega)
   generalize (cK l)[i - 1]=q at v
   have w:((cK l).take i)[i - 1]? =some q:=by rw [List.getElem?_take_of_lt (by omega)];exact v
   obtain ⟨c1,c2,c3,c4⟩:=Qh w
   have j:=hok.adj (i - 1) q r v (by rw [show i - 1+1=i by omega];exact g)
   have k: ¬((q.1:Int)=(r.1:Int)):=by omega
   have p:aa .geq (.int .i64 ((i - 1:Nat):Int)) (.int .i64 0)=some (.bool true):=by rw [de];simp
   have E:bP i (.int .i64 ((i - 1:Nat):Int))=some (i - 1):=eb (by omega)
   simp only [sN (i:=i) (by omega) h0,p,ab,ah,E,c3,dI,k,decide_false,ag,af,kI (show r.2 < 2 ^ 63 by omega),d,e]
end Go.AM
namespace Go.AM
def eBl (b:Bool):List IV:=[.bool b]
abbrev tF (l:List Bool):IV:= .lst (l.map eBl)
theorem X7 {l:List Bool} {i:Nat} {x:Bool} (h:l[i]? =some x):aE (tF l) (.int .i64 (i:Int)) 1=some i/\cV (tF l) i 0=some (.bool x):=
 ⟨ea h rfl (by decide),by rw [bX h];rfl⟩
theorem acS {l k:List Bool} (hl:l.length < 2 ^ 20) (hk:k.length < 2 ^ 20):b8 1 1 (tF l) (tF k)=some (tF (l++k)):=by
 simp only [b8]
 rw [if_pos ⟨by simp;omega,by simp [eBl]⟩]
 simp
abbrev nI (ns:List Nat):List Int:=ns.map λ(n:Nat)=>(n:Int)
def sprB:Bool->List Nat->List Bool
 | _,[]=>[]
 | b,n::ns=>ad n b++sprB (!b) ns
def y1:Bool->List Bool->List Nat
 | _,[]=>[]
 | b,x::l=>if x=b then (match y1 b l with | []=>[1] | n::ns=>(n+1)::ns) else 0::(match y1 x l with | []=>[1] | n::ns=>(n+1)::ns)
theorem S5: ∀(l:List Bool) (b:Bool),sprB b (y1 b l)=l/\(∀n∈(y1 b l).tail,1<=n)/\y1 b l≠[0]
 | [],b=>⟨rfl,by simp [y1],by simp [y1]⟩
 | x::l,b=>by
   unfold y1
   by_cases h:x=b
   ·subst h
    obtain ⟨h1,h2,c⟩:=S5 l x
    rw [if_pos rfl]
    cases hl:y1 x l with
    | nil=>rw [hl] at h1;simp only [sprB] at h1;subst h1;simp [sprB]
    | cons n ns=>
      rw [hl] at h1 h2
      simp only [sprB] at h1 ⊢
      refine ⟨by rw [c5,e7,h1],by simpa using h2,by simp⟩
   ·rw [if_neg h]
    have a:x= !b:=by cases x<;>cases b<;>simp_all
    obtain ⟨h1,h2,c⟩:=S5 l x
    cases hl:y1 x l with
    | nil=>rw [hl] at h1;simp only [sprB] at h1;subst h1;simp [sprB,a]
    | cons n ns=>
      rw [hl] at h1 h2
      simp only [sprB,List.replicate_zero,cv,<-a] at h1 ⊢
      refine ⟨by rw [c5,e7,h1],λm hm=> ?_,by simp⟩
      rcases e3.1 hm with rfl | hm
      ·omega
      ·exact h2 m hm
def L3 (i:Nat):Bool:=decide (i % 2=1)
theorem zx (i:Nat):L3 (i+1)= !L3 i:=by unfold L3;by_cases h:i % 2=1<;>simp [h]<;>omega
theorem PX: ∀(ns:List Nat) (b:Bool) (i n:Nat),ns[i]? =some n->sprB b (ns.take (i+1))=sprB b (ns.take i)++ad n (b ^^ L3 i)
 | [],_,_,_,h=>by simp at h
 | m::ns,b,0,n,h=>by simp at h;subst h;simp [sprB,L3]
 | m::ns,b,i+1,n,h=>by
   have ih:=PX ns (!b) i n (by simpa using h)
   simp only [List.take_succ_cons,sprB]
   rw [ih,<-bO,zx]
   congr 2
   cases b<;>cases L3 i<;>rfl
theorem E4: ∀(ns:List Nat) (b:Bool),(sprB b ns).length=ns.sum
 | [],_=>rfl
 | n::ns,b=>by simp [sprB,E4 ns]
theorem A7 {ns:List Nat} {i n:Nat} (h:ns[i]? =some n):(ns.drop i).sum=n+(ns.drop (i+1)).sum:=by
 have hi:=(aB.1 h).1
 rw [bA hi,(aB.1 h).2];simp
theorem BC (ns:List Nat) (i:Nat):(ns.take i).sum+(ns.drop i).sum=ns.sum:=by
 conv=>rhs;rw [<-b7 i ns]
 rw [List.sum_append]
structure OkB (l:List Bool) (ns:List Nat):Prop where
 spr:sprB false ns=l
 pos: ∀i n,ns[i]? =some n->0 < i->1<=n
 one:ns≠[0]
theorem Eb (l:List Bool):OkB l (y1 false l):=by
 obtain ⟨h1,h2,a⟩:=S5 l false
 refine ⟨h1,λi n hn h0=> ?_,a⟩
 refine h2 n ?_
 cases hl:y1 false l with
 | nil=>rw [hl] at hn;simp at hn
 | cons m ms=>
   rw [hl] at hn
   obtain ⟨j,rfl⟩: ∃j,i=j+1:=⟨i - 1,by omega⟩
   exact a6 (by simpa using hn)
theorem OkB.sum {l:List Bool} {ns:List Nat} (h:OkB l ns):ns.sum=l.length:=by rw [<-h.spr,E4]
theorem OkB.len {l:List Bool} {ns:List Nat} (h:OkB l ns):ns.length<=l.length+1:=by
 rw [<-h.sum]
 cases ns with
 | nil=>simp
 | cons n ns=>
   have: ∀ns:List Nat,(∀n∈ns,1<=n)->ns.length<=ns.sum:=by
    intro ns
    induction ns with
    | nil=>simp
    | cons m ms ih=>intro hm;have:=ih λq a=>hm q (bB _ a);have:=hm m bs;simp;omega
   have:=this ns λm hm=>by
    obtain ⟨i,hi⟩:=bx.1 hm
    exact h.pos (i+1) m (by simpa using hi) (by omega)
   simp;omega
theorem OkB.rest {l:List Bool} {ns:List Nat} (h:OkB l ns) {i:Nat} (hi:i < ns.length):0 < (ns.drop i).sum:=by
 have a:=ao hi
 generalize ns[i]=n at a
 rw [A7 a]
 by_cases h0:0 < i
 ·have:=h.pos i n a h0;omega
 ·obtain rfl:i=0:=by omega
  by_cases hn:n=0
  ·subst hn
   cases ns with
   | nil=>simp at hi
   | cons m ms=>
     simp at a;subst a
     cases ms with
     | nil=>exact absurd rfl h.one
     | cons k ks=>have:=h.pos 1 k rfl (by omega);simp;omega
  ·omega
theorem XO {l:List Bool} (hl:l.length < 2 ^ 16) (b:Bool):fe (tF l) (.bool b)=some [.int .i64 (PK (λx=>b==x) l)]:=by
 unfold fe
 simp only [aw,ab,a2]
 rw [k9 (λi=>[.int .i64 (i:Int)]) (λx=>b==x) 1 (λi=>[.int .i64 (i:Int)]) 0 [] l (by simp) (by have:=aO;omega) (λi x c=> ?_) (by
  unfold lh
  simp)]
 ·unfold PK
  cases l.findIdx? λx=>b==x with
  | none=>rfl
  | some i=>rfl
 ·obtain ⟨d,e⟩:=X7 c
  have a:((i:Int) < (l.length:Int)):=by have:=(aB.1 c).1;omega
  unfold lh
  simp only [af,al,a,decide_true,ah,ab,d,e,ZB,dc,au (show i < 2 ^ 62 by omega)]
  by_cases h:(b==x)=true<;>simp [h]
theorem aeU {n:Nat} {b:Bool} {ns:List Nat} (a: ∀m∈ns,1<=m):PK (λx=>(!b)==x) (sprB b (n::ns))=if ns=[] then -1 else (n:Int):=by
 have h1: ∀k:Nat,(ad k b).findIdx? (λx=>(!b)==x)=none:= λk=>by
  rw [List.findIdx?_eq_none_iff]
  intro x c
  rw [List.eq_of_mem_replicate c];cases b<;>rfl
 unfold PK
 simp only [sprB,List.findIdx?_append,h1]
 cases ns with
 | nil=>simp [sprB]
 | cons m ms=>
   obtain ⟨k,hk⟩: ∃k,m=k+1:=⟨m - 1,by have:=a m bs;omega⟩
   subst hk
   simp [sprB,c5,List.findIdx?_cons]
theorem abM {l:List Bool} {i:Nat} (hi:i<=l.length):fQ 1 (tF l) (some (.int .i64 (i:Int))) none=some (tF (l.drop i)):=by
 simp only [fQ]
 rw [if_pos (by simp [eBl])]
 simp only [a2,wD hi,ab]
 rw [<-List.map_drop,<-List.map_take,b4 (by simp)]
theorem Hq {l:List Bool} (hl:l.length < 2 ^ 15):kc (tF l)=some [bT (nI (y1 false l))]:=by
 have hok:=Eb l
 generalize y1 false l=ns at hok
 have hlen:=hok.len
 have p:=hok.sum
 unfold kc
 rw [bc (λi=>[tF (sprB (L3 i) (ns.drop i)),bT (nI (ns.take i)),.bool (!L3 i)]) ns.length 0 [bT (nI ns)] (by simp [L3,hok.spr]) (by omega) (λi hi=> ?_) (by
  unfold pY
  simp [sprB])]
 ·rfl
 ·have o:=ao hi
  have g:ns.drop i=ns[i]::ns.drop (i+1):=bA hi
  generalize ns[i]=n at o g
  have t:=BC ns i
  have k:=A7 o
  have hr:=hok.rest hi
  have s:(sprB (L3 i) (ns.drop i)).length=(ns.drop i).sum:=E4 _ _
  have f:(0:Int) < ((sprB (L3 i) (ns.drop i)).length:Int):=by omega
  have c: ∀m∈ns.drop (i+1),1<=m:= λm hm=>by
   obtain ⟨j,hj⟩:=bx.1 hm
   rw [List.getElem?_drop] at hj
   exact hok.pos _ m hj (by omega)
  have e:=XO (l:=sprB (L3 i) (ns.drop i)) (by omega) (!L3 i)
  rw [g,aeU c,<-g] at e
  have d:=sU (l:=nI (ns.take i)) (n:=(n:Int)) (by simp;omega)
  have q:nI (ns.take (i+1))=(nI (ns.take i))++[(n:Int)]:=by rw [bt o];simp
  have b:(sprB (L3 i) (ns.drop i)).drop n=sprB (L3 (i+1)) (ns.drop (i+1)):=by
   rw [g,zx];simp only [sprB];rw [List.drop_left' (by simp)]
  have a:=abM (l:=sprB (L3 i) (ns.drop i)) (i:=n) (by omega)
  rw [b] at a
  unfold pY
  simp only [af,ai,ay,aw,a2,ab,aQ,f,decide_true,ah,aW,Bool.not_not,e,al,q]
  by_cases hn:ns.drop (i+1)=[]
  ·have r:(sprB (L3 i) (ns.drop i)).length=n:=by rw [s,k,hn];rfl
   have h:decide ((-1:Int) < 0)=true:=rfl
   simp only [hn,if_true,h,ah,r,d,ab] at a ⊢
   rw [a,zx];simp
  ·have h: ¬((n:Int) < 0):=by omega
   simp only [hn,if_false,h,decide_false,ag,a,d,ab]
   rw [zx];simp
def rM (l:List Bool):Byt:=(y1 false l).flatMap bu
theorem OkB.max {l:List Bool} {ns:List Nat} (h:OkB l ns) {i n:Nat} (hn:ns[i]? =some n):n<=l.length:=by
 have h1:=BC ns i;have h2:=A7 hn;rw [h.sum] at h1;omega
theorem D5 {l:List Bool} (hl:l.length < 2 ^ 15):(rM l).length<=10*(l.length+1):=by
 have hok:=Eb l
 have h1:=kY (f:=bu) (l:=y1 false l) (k:=10) λn hn=>by
  obtain ⟨i,hi⟩:=bx.1 hn
  exact bK (by have:=hok.max hi;omega)
 have h2:=hok.len
 unfold rM;omega
theorem JP {l:List Bool} (hl:l.length < 2 ^ 15):lA (tF l)=some [B (rM l)]:=by
 have hok:=Eb l
 unfold lA
 simp only [Hq hl,ab,af,aw,a2]
 unfold rM
 generalize y1 false l=ns at hok
 have hlen:=hok.len
 rw [bc (λi=>[.nilp,.lst (((ns.take i).flatMap bu).map eB),.int .i64 (i:Int)]) ns.length 0 [.nilp,.lst ((ns.flatMap bu).map eB)] (by simp) (by omega) (λi hi=> ?_) (by
  unfold rB
  simp)]
 ·simp only [ab,aN,ai,oN];rfl
 ·have c:=ao hi
  generalize ns[i]=n at c
  have q:=hok.max c
  have h:(nI ns)[i]? =some (n:Int):=by rw [ds,c];rfl
  obtain ⟨_,o,b2,p⟩:=oT h
  have e:((i:Int) < (ns.length:Int)):=by omega
  have d:=kY (f:=bu) (l:=ns.take i) (k:=10) λm hm=>by
   obtain ⟨j,hj⟩:=bx.1 (b0 hm)
   exact bK (by have:=hok.max hj;omega)
  have r:=bK (n:=n) (by omega)
  simp only [cb] at d
  have g:=xZ (x:= .nilp) (a:=(ns.take i).flatMap bu) (b:=bu n) (by omega)
  unfold rB
  simp only [af,ai,ay,al,e,decide_true,ah,ab,o,p,fk (show n < 2 ^ 64 by omega),fB (show n < 2 ^ 64 by omega),g,au (show i < 2 ^ 62 by omega),qk c]
theorem JU {l:List Bool} {ns:List Nat} (h:OkB l ns) (hl:l.length < 2 ^ 15):lN (bT (nI ns)) (.int .i64 (l.length:Int))=some [tF l,.bool true]:=by
 have hlen:=h.len
 have e0: ¬((l.length:Int) < 0):=by omega
 have d:((aa .eql (.int .i64 ((ns.length:Nat):Int)) (.int .i64 1)).bind λw=>
   ae w (λ_=>(aE (bT (nI ns)) (.int .i64 0) 1).bind λy=>(cV (bT (nI ns)) y 0).bind λz=>(aa .eql z (.int .i64 0)).bind λA=>some [A]) (λ_=>some [.bool false]))=some [.bool false]:=by
  rw [dI,ab]
  by_cases h1:ns.length=1
  ·obtain ⟨n,rfl⟩:=List.length_eq_one_iff.1 h1
   have q:n≠0:= λe=>h.one (by rw [e])
   obtain ⟨_,o,b2,m⟩:=oT (l:=[(n:Int)]) (i:=0) (x:=(n:Int)) rfl
   have a:aE (bT [(n:Int)]) (.int .i64 0) 1=some 0:=o
   have h2: ¬((n:Int)=0):=by omega
   simp only [ca,List.length_nil,List.map_cons,List.map_nil] at a m ⊢
   simp [a,m,q]
  ·have: ¬((ns.length:Int)=1):=by omega
   simp [this]
 unfold lN
 simp only [al,e0,decide_false,ab,ag,aw,a2]
 rw [d]
 simp only [ab,af,ag]
 rw [bc (λi=>[tF (sprB false (ns.take i)),.bool (!L3 i),.int .i64 (i:Int)]) ns.length 0 [tF l] (by simp [sprB,L3]) (by omega) (λi hi=> ?_) (by
  unfold rJ
  simp [h.spr])]
 ·rfl
 ·have j:=ao hi
  generalize ns[i]=n at j
  have t:(nI ns)[i]? =some (n:Int):=by rw [ds,j];rfl
  obtain ⟨_,o,b2,m⟩:=oT t
  have p:((i:Int) < (ns.length:Int)):=by omega
  have C:(sprB false (ns.take i)).length=(ns.take i).sum:=E4 _ _
  have s:=BC ns i
  have v:=A7 j
  rw [h.sum] at s
  have c: ¬((n:Int) < min (i:Int) 1):=by
   by_cases h0:0 < i
   ·have:=h.pos i n j h0;omega
   ·omega
  have g:aa .sub (.int .i64 (l.length:Int)) (.int .i64 ((sprB false (ns.take i)).length:Int))=some (.int .i64 ((l.length - (sprB false (ns.take i)).length:Nat):Int)):=qD (by omega) (by omega)
  have r: ¬(((l.length - (sprB false (ns.take i)).length:Nat):Int) < (n:Int)):=by omega
  have f:=XE (x:= .bool (L3 i)) (n:=n) (by omega)
  have b:=acS (l:=sprB false (ns.take i)) (k:=ad n (L3 i)) (by omega) (by simp;omega)
  have e:tF (ad n (L3 i))= .lst (ad n [.bool (L3 i)]):=by simp [eBl]
  rw [e] at b
  have u:=PX ns false i n j
  rw [Bool.false_xor] at u
  unfold rJ
  simp only [af,ai,ay,al,p,decide_true,ah,ab,o,m,ado,c,decide_false,ag,cr,a2,g,aQ,r,aW,Bool.not_not,f,b,au (show i < 2 ^ 62 by omega),u,zx]
theorem I1 {l:List Bool} (hl:l.length<=4096):lC (B (rM l)) (.int .i64 (l.length:Int))=some [tF l,.int .i64 0]:=by
 have hok:=Eb l
 unfold rM
 generalize y1 false l=ns at hok
 have hlen:=hok.len
 have e0: ¬((l.length:Int) < 0):=by omega
 have k: ¬((4096:Int) < (l.length:Int)):=by omega
 have g:cq (B (ns.flatMap bu))=some [B (ns.flatMap bu),.int .i64 0]:=rfl
 unfold lC
 simp only [al,e0,decide_false,ab,ag,aQ,k,g,af,ai]
 rw [bc (λi=>[B ((ns.drop i).flatMap bu),.int .i64 0,bT (nI (ns.take i)),.int .i64 ((ns.drop i).sum:Int)]) ns.length 0 [bT (nI ns),.int .i64 0] (by simp [hok.sum]) (by omega) (λi hi=> ?_) (by
  unfold rT
  simp [qv])]
 ·have t:aa .gtr (.int .i64 0) (.int .i64 0)=some (.bool false):=rfl
  simp only [ab,aN,af,ai,t,ag,JU hok (show l.length < 2 ^ 15 by omega),aW,Bool.not_true]
 ·have e:=ao hi
  generalize ns[i]=n at e
  have s:=sM (f:=bu) e
  have u:=hok.max e
  have m:=xi (n:=n) (by omega) ((ns.drop (i+1)).flatMap bu)
  have h:(0:Int) < (((ns.drop i).flatMap bu).length:Int):=by
   rw [s];have:=FX n;simp;omega
  have hdr: ∀a b c:IV,([a,b,c]:List IV).drop 2=[c]:= λ_ _ _=>rfl
  have r:=BC ns i
  have v:=A7 e
  rw [hok.sum] at r
  have w: ¬(((ns.drop i).sum:Int) < (n:Int)):=by omega
  have j:aa .sub (.int .i64 ((ns.drop i).sum:Int)) (.int .i64 (n:Int))=some (.int .i64 ((ns.drop (i+1)).sum:Int)):=by
   rw [qD (by omega) (by omega)];congr 2;omega
  have o:=sU (l:=nI (ns.take i)) (n:=(n:Int)) (by simp;omega)
  have k:nI (ns.take (i+1))=(nI (ns.take i))++[(n:Int)]:=by rw [bt e];simp
  have q:aa .neq (.int .i64 0) (.int .i64 0)=some (.bool false):=rfl
  have p:(ns.take i).length=i:=by simp;omega
  unfold rT
  simp only [af,ai,ay,az,qv,ab,aQ,h,decide_true,ah]
  rw [s]
  simp only [m,ab,af,ai,yn,q,ag,hdr,fk (show (ns.drop i).sum < 2 ^ 64 by omega),aQ,w,decide_false,dI,cr,a2,p,k]
  have d:(ae (.bool (decide ((n:Int)=0))) (λ_=>some [IV.bool (decide ((0:Int) < (i:Int)))]) (λ_=>some [IV.bool false]))=some [IV.bool false]:=by
   by_cases hn:n=0
   ·have h0: ¬(0 < i):= λh0=>by have:=hok.pos i n e h0;omega
    simp [hn];omega
   ·simp [hn]
  simp only [d,ab,af,ag,kI (show n < 2 ^ 63 by omega),j,o]
def OM (l:List Bool):Nat:=(l.filter λb=>b).length
theorem KN {l:List Bool} (hl:l.length < 2 ^ 16):mZ (tF l)=some [.int .i64 (OM l:Int)]:=by
 unfold mZ
 simp only [aw,ab,a2]
 rw [bc (λi=>[.int .i64 (OM (l.take i):Int),.int .i64 (i:Int)]) l.length 0 [.int .i64 (OM l:Int)] (by simp [OM]) (by omega) (λi hi=> ?_) (by
  unfold sY
  simp)]
 ·rfl
 ·have c:=ao hi
  generalize l[i]=b at c
  obtain ⟨d,e⟩:=X7 c
  have a:((i:Int) < (l.length:Int)):=by omega
  have hc:OM (l.take i)<=i:=by
   unfold OM
   exact Nat.le_trans (List.length_filter_le _ _) (by simp;omega)
  unfold sY
  simp only [af,ai,al,a,decide_true,ah,ab,d,e,au (show i < 2 ^ 62 by omega),au (show OM (l.take i) < 2 ^ 62 by omega),bt c]
  cases b<;>simp [OM]
end Go.AM
namespace Go.AM
def TM (k m u:Nat):Nat:=u / 2 ^ k&&&m|||(u&&&m)*2 ^ k
def rho (k i:Nat):Nat:=if i / k % 2=0 then i+k else i - k
theorem X2 {k m u i:Nat} (hk:k=8\/k=16) (hm: ∀i:Fin 64,m.testBit i=decide (i.val / k % 2=0)) (hi:i < 64):(TM k m u).testBit i=u.testBit (rho k i):=by
 have h1:=hm ⟨i,hi⟩
 simp only at h1
 unfold TM rho
 rw [<-dd,<-e8,fz,fc,ek,eP,fc,h1]
 by_cases hb:i / k % 2=0
 ·have:(decide (i>=k)&&(u.testBit (i - k)&&m.testBit (i - k)))=false:=by
   by_cases a:i>=k
   ·have h2:=hm ⟨i - k,by omega⟩
    simp only at h2
    rw [h2,show decide ((i - k) / k % 2=0)=false from decide_eq_false (by rcases hk with rfl | rfl<;>omega),Bool.and_false,Bool.and_false]
   ·rw [decide_eq_false a,Bool.false_and]
  rw [this,if_pos hb,decide_eq_true hb,Bool.and_true,Bool.or_false,et]
 ·have a:i>=k:=by rcases hk with rfl | rfl<;>omega
  have h2:=hm ⟨i - k,by omega⟩
  simp only at h2
  rw [if_neg hb,decide_eq_false hb,Bool.and_false,Bool.false_or,h2,decide_eq_true a,Bool.true_and,decide_eq_true (by rcases hk with rfl | rfl<;>omega),Bool.and_true]
theorem RY {k m u:Nat} (h:m*2 ^ k < 2 ^ 64):TM k m u < 2 ^ 64:=by
 have hp:1<=2 ^ k:=fl k
 have hm:m < 2 ^ 64:=a7 (by simpa using eZ m hp) h
 refine e5 (a7 cd hm) (a7 (ck _ cd) h)
abbrev m8:Nat:=71777214294589695
abbrev m16:Nat:=281470681808895
def ph (u:Nat):Nat:=TM 16 m16 (TM 8 m8 u) / 2 ^ 32|||TM 16 m16 (TM 8 m8 u)*2 ^ 32 % 2 ^ 64
theorem aeb: ∀i:Fin 64,m8.testBit i=decide (i.val / 8 % 2=0):=by decide+kernel
theorem acC: ∀i:Fin 64,m16.testBit i=decide (i.val / 16 % 2=0):=by decide+kernel
theorem td (u:Nat):ph u < 2 ^ 64:=by
 have h:=RY (k:=16) (m:=m16) (u:=TM 8 m8 u) (by decide)
 exact e5 (a7 (fr _ _) h) (Nat.mod_lt _ (by decide))
def aas (i:Nat):Nat:=rho 8 (rho 16 (if i < 32 then i+32 else i - 32))
theorem Ql {u i:Nat} (hi:i < 64):(ph u).testBit i=u.testBit (aas i):=by
 have h:=RY (k:=16) (m:=m16) (u:=TM 8 m8 u) (by decide)
 have key:(ph u).testBit i=(TM 16 m16 (TM 8 m8 u)).testBit (if i < 32 then i+32 else i - 32):=by
  unfold ph
  generalize TM 16 m16 (TM 8 m8 u)=b at h
  rw [<-dd,<-e8,fz,ek,Nat.testBit_mod_two_pow,eP,decide_eq_true hi,Bool.true_and]
  by_cases hl:i < 32
  ·rw [if_pos hl,decide_eq_false (show ¬i>=32 by omega),Bool.false_and,Bool.or_false,et]
  ·rw [if_neg hl,decide_eq_true (show i>=32 by omega),Bool.true_and,b5 (show b < 2 ^ (32+i) from c6 h (ch (by decide) (by omega))),Bool.false_or]
 have hj:(if i < 32 then i+32 else i - 32) < 64:=by split<;>omega
 rw [key]
 unfold aas
 generalize (if i < 32 then i+32 else i - 32)=j at hj
 have hk:rho 16 j < 64:=by unfold rho;split<;>omega
 rw [X2 (.inr rfl) acC hj,X2 (.inl rfl) aeb hk]
theorem adt: ∀i:Fin 64,aas i.val < 64/\aas (aas i.val)=i.val:=by decide+kernel
theorem swap_swap {u:Nat} (h:u < 2 ^ 64):ph (ph u)=u:=by
 apply Nat.eq_of_testBit_eq
 intro i
 by_cases hi:i < 64
 ·obtain ⟨h1,h2⟩:=adt ⟨i,hi⟩
  simp only at h1 h2
  rw [Ql hi,Ql h1,h2]
 ·have hp:2 ^ 64<=2 ^ i:=ch (by decide) (by omega)
  rw [b5 (c6 (td _) hp),b5 (c6 h hp)]
theorem aby {k m u:Nat} (hu:u < 2 ^ 64) (hk:k<=64) (h:m*2 ^ k < 2 ^ 64):aa .shr (.int .u64 (u:Int)) (.int .u64 (k:Int))=some (.int .u64 ((u / 2 ^ k:Nat):Int))/\aa .and (.int .u64 ((u / 2 ^ k:Nat):Int)) (.int .u64 (m:Int))=some (.int .u64 ((u / 2 ^ k&&&m:Nat):Int))/\aa .and (.int .u64 (u:Int)) (.int .u64 (m:Int))=some (.int .u64 ((u&&&m:Nat):Int))/\
  aa .shl (.int .u64 ((u&&&m:Nat):Int)) (.int .u64 (k:Int))=some (.int .u64 (((u&&&m)*2 ^ k:Nat):Int))/\aa .or (.int .u64 ((u / 2 ^ k&&&m:Nat):Int)) (.int .u64 (((u&&&m)*2 ^ k:Nat):Int))=some (.int .u64 (TM k m u:Int)):=by
 have hp:1<=2 ^ k:=fl k
 have hm:m < 2 ^ 64:=a7 (by simpa using eZ m hp) h
 have h1:u / 2 ^ k < 2 ^ 64:=a7 (fr _ _) hu
 have h2:(u&&&m)*2 ^ k < 2 ^ 64:=a7 (ck _ cd) h
 exact ⟨l7 hk,qp h1 hm,qp hu hm,wA hk h2,sZ (a7 cd hm) h2⟩
theorem CY {u:Nat} (h:u < 2 ^ 64):mh (.int .u64 (u:Int))=some [.int .u64 (ph u:Int)]:=by
 obtain ⟨c,d,e,f,g⟩:=aby (k:=8) (m:=m8) h (by decide) (by decide)
 have h1:=RY (k:=8) (m:=m8) (u:=u) (by decide)
 obtain ⟨i,b2,j,l,n⟩:=aby (k:=16) (m:=m16) h1 (by decide) (by decide)
 have h2:=RY (k:=16) (m:=m16) (u:=TM 8 m8 u) (by decide)
 unfold mh
 rw [show (8:Int)=((8:Nat):Int) from rfl,show (16:Int)=((16:Nat):Int) from rfl,show (71777214294589695:Int)=((m8:Nat):Int) from rfl,show (281470681808895:Int)=((m16:Nat):Int) from rfl]
 simp only [c,d,e,f,g,i,b2,j,l,n,ab]
 unfold ph
 generalize TM 16 m16 (TM 8 m8 u)=b at h2
 have c1:aa .shr (.int .u64 (b:Int)) (.int .u64 32)=some (.int .u64 ((b / 2 ^ 32:Nat):Int)):=l7 (b:=32) (by decide)
 have c2:aa .shl (.int .u64 (b:Int)) (.int .u64 32)=some (.int .u64 ((b*2 ^ 32 % 2 ^ 64:Nat):Int)):=by
  simp only [aa]
  rw [if_neg (by omega)]
  show some (IV.int .u64 (bM.wrap ((b:Int)*2 ^ 32)))=_
  rw [Z5];congr 2
 have c3:=sZ (a:=b / 2 ^ 32) (b:=b*2 ^ 32 % 2 ^ 64) (by omega) (by omega)
 simp only [c1,c2,c3,ab,wL,du,b3]
theorem PZ {a b:Nat} (c:a < 2 ^ 64) (hb:b < 2 ^ 64):aa .xor (.int .u64 (a:Int)) (.int .u64 (b:Int))=some (.int .u64 ((a ^^^ b:Nat):Int)):=by
 simp only [aa,cm,if_true]
 have:(a1 bM.bits (a:Int) ^^^ a1 bM.bits (b:Int)).toNat=a ^^^ b:=by
  show (a1 64 (a:Int) ^^^ a1 64 (b:Int)).toNat=_
  rw [BitVec.toNat_xor,bR,bR,b1,b1,bm c,bm hb]
 rw [this,yB (c7 c hb)]
def eFl (w:Nat):List IV:=[.flt .f64 w]
abbrev qg (l:List Nat):IV:= .lst (l.map eFl)
theorem VH {l:List Nat} {i:Nat} {x:Nat} (h:l[i]? =some x):aE (qg l) (.int .i64 (i:Int)) 1=some i/\cV (qg l) i 0=some (.flt .f64 x):=
 ⟨ea h rfl (by decide),by rw [bX h];rfl⟩
theorem Fu {l:List Nat} {x:Nat} (hl:l.length < 2 ^ 20):b8 1 8 (qg l) (.lst [[.flt .f64 x]])=some (qg (l++[x])):=by
 simp only [b8]
 rw [if_pos ⟨by simp;omega,by simp⟩]
 simp [eFl]
structure CanW (w:Nat):Prop where
 lt:w < 2 ^ 64
 can:bitsN w=w
def Ey:Nat->List Nat->List Nat
 | _,[]=>[]
 | a,n::ns=>(n ^^^ a)::Ey n ns
theorem zS: ∀(a:Nat) (ns:List Nat),(Ey a ns).length=ns.length
 | _,[]=>rfl
 | a,n::ns=>by simp [Ey,zS n ns]
theorem Sg: ∀(i x:Nat) (ns:List Nat) (a:Nat),ns[i]? =some x->(Ey a ns)[i]? =some (x ^^^ (a::ns).getD i 0)
 | 0,x,[],a,h=>by simp at h
 | 0,x,n::ns,a,h=>by simp at h;subst h;rfl
 | i+1,x,[],a,h=>by simp at h
 | i+1,x,n::ns,a,h=>by
   have:=Sg i x ns n (by simpa using h)
   simpa [Ey] using this
def rh (ns:List Nat):Byt:=(Ey 0 ns).flatMap λu=>bu (ph u)
theorem Dm {ns:List Nat}:(rh ns).length<=10*ns.length:=by
 have:=kY (l:=Ey 0 ns) (f:= λu=>bu (ph u)) (k:=10) λx _=>bK (td x)
 rw [zS] at this;exact this
theorem prev_lt {ns:List Nat} (h: ∀n∈ns,CanW n) (i:Nat):(0::ns).getD i 0 < 2 ^ 64:=by
 rw [a8]
 cases a:(0::ns)[i]? with
 | none=>simp
 | some x=>
   rcases e3.1 (a6 a) with rfl | hm
   ·simp
   ·exact (h x hm).lt
theorem JB {ns:List Nat} (hl:ns.length < 2 ^ 16) (h: ∀n∈ns,CanW n):ln (qg ns)=some [B (rh ns)]:=by
 unfold ln
 simp only [aw,ab,a2]
 rw [bc (λi=>[.int .u64 ((0::ns).getD i 0:Nat),.clo (.func fM) [],.nilp,.lst ((((Ey 0 ns).take i).flatMap λu=>bu (ph u)).map eB),.int .i64 (i:Int)]) ns.length 0 [.nilp,.lst ((rh ns).map eB)] (by simp) (by omega) (λi hi=> ?_) (by
  unfold rj
  simp only [af,ai,ay,az,bG,al,decide_false,ab,Int.lt_irrefl,ag]
  rw [b4 (by rw [zS];exact b6 _)];rfl)]
 ·simp only [ab,aN,ai,oN];rfl
 ·have c:=ao hi
  generalize ns[i]=w at c
  obtain ⟨q,r⟩:=VH c
  have hc:=h w (a6 c)
  have hp:=prev_lt h i
  have j:((i:Int) < (ns.length:Int)):=by omega
  have v:=Sg i w ns 0 c
  have t:(0::ns).getD (i+1) 0=w:=by simp [a8,c]
  have p:=sF hc.lt
  rw [hc.can] at p
  have d:=c7 hc.lt hp
  have s:cZ (.clo (.func fM) []) [1] [[.int .u64 (w:Int)],[.int .u64 ((w ^^^ (0::ns).getD i 0:Nat):Int)]]=some [.int .u64 (w:Int)]:=rfl
  have e:=kY (f:= λu=>bu (ph u)) (l:=(Ey 0 ns).take i) (k:=10) λm _=>bK (td m)
  simp only [cb] at e
  have y:=bK (td (w ^^^ (0::ns).getD i 0))
  have o:=xZ (x:= .nilp) (a:=((Ey 0 ns).take i).flatMap λu=>bu (ph u)) (b:=bu (ph (w ^^^ (0::ns).getD i 0))) (by omega)
  have g:=qk (f:= λu=>bu (ph u)) v
  simp only [t,g]
  unfold rj
  simp only [af,ai,ay,az,bG,al,j,decide_true,ah,ab,q,r,p,PZ hc.lt hp,s,CY d,fB (td _),o,au (show i < 2 ^ 62 by omega)]
theorem NB {w:Nat} (h:CanW w):oJ (.int .u64 (w:Int))=some [.bool true]:=by
 have c:=h.lt
 have e:aa .shr (.int .u64 (w:Int)) (.int .u64 52)=some (.int .u64 ((w / 2 ^ 52:Nat):Int)):=l7 (b:=52) (by decide)
 have f:aa .and (.int .u64 ((w / 2 ^ 52:Nat):Int)) (.int .u64 2047)=some (.int .u64 ((w / 2 ^ 52 % 2048:Nat):Int)):=J4 (w:=w / 2 ^ 52) (by omega) (k:=11) (by decide)
 have s4:aa .and (.int .u64 (w:Int)) (.int .u64 4503599627370495)=some (.int .u64 ((w % 2 ^ 52:Nat):Int)):=J4 (w:=w) c (k:=52) (by decide)
 unfold oJ
 simp only [e,f,s4,ab,dm,dI]
 have hc:=h.can
 unfold bitsN at hc
 by_cases h1:w / 2 ^ 52 % 2048=2047
 ·by_cases h2:w % 2 ^ 52=0
  ·have a:(((w / 2 ^ 52 % 2048:Nat):Int)=2047):=by omega
   have d:(((w % 2 ^ 52:Nat):Int)=0):=by omega
   simp only [a,d,ne_eq,not_true_eq_false,decide_false,ag,decide_true,ah,ab,af,dR,du,b3]
  ·rw [if_pos (by show 2047*2 ^ 52 < w % 2 ^ 63;omega)] at hc
   subst hc;rfl
 ·have a: ¬(((w / 2 ^ 52 % 2048:Nat):Int)=2047):=by omega
  simp only [a,ne_eq,not_false_eq_true,decide_true,ah,ab,af,dR,du,b3]
theorem ID {ns:List Nat} (hl:ns.length < 2 ^ 16) (h: ∀n∈ns,CanW n):k7 (B (rh ns)) (.int .i64 (ns.length:Int))=some [qg ns,.int .i64 0]:=by
 have e0: ¬((ns.length:Int) < 0):=by omega
 have r: ¬(((rh ns).length:Int) < (ns.length:Int)):=by
  have:=QX (l:=Ey 0 ns) (f:= λu=>bu (ph u)) λx _=>FX _
  rw [zS] at this
  unfold rh;omega
 have g:cq (B (rh ns))=some [B (rh ns),.int .i64 0]:=rfl
 unfold k7
 simp only [al,e0,decide_false,ab,ag,jx,aQ,r,g,af,ai]
 rw [bc (λi=>[.int .u64 ((0::ns).getD i 0:Nat),.clo (.func fL) [],B (((Ey 0 ns).drop i).flatMap λu=>bu (ph u)),.int .i64 0,qg (ns.take i),.int .i64 (i:Int)]) ns.length 0 [B [],.int .i64 0,qg ns] (by simp [rh]) (by omega) (λi hi=> ?_) (by
  unfold rO
  have e:(Ey 0 ns).drop ns.length=[]:=eg (by rw [zS];exact b6 _)
  simp [e])]
 ·simp only [ab,aN,af,ai,ay,J5]
  rfl
 ·have k:=ao hi
  generalize ns[i]=w at k
  have hc:=h w (a6 k)
  have hp:=prev_lt h i
  have o:((i:Int) < (ns.length:Int)):=by omega
  have y:=Sg i w ns 0 k
  have v:(0::ns).getD (i+1) 0=w:=by simp [a8,k]
  have d:=c7 hc.lt hp
  have q:=xi (td (w ^^^ (0::ns).getD i 0)) (((Ey 0 ns).drop (i+1)).flatMap λu=>bu (ph u))
  have t:=sM (f:= λu=>bu (ph u)) y
  rw [<-t] at q
  have j:=CY (td (w ^^^ (0::ns).getD i 0))
  rw [swap_swap d] at j
  have m:=PZ d hp
  rw [Nat.xor_assoc,Nat.xor_self,Nat.xor_zero] at m
  have s:cY (.clo (.func fL) []) [1] [[.int .u64 ((w ^^^ (0::ns).getD i 0:Nat):Int)],[.int .u64 (w:Int)]]=some [.int .u64 (w:Int)]:=rfl
  have hdr: ∀a b c:IV,([a,b,c]:List IV).drop 2=[c]:= λ_ _ _=>rfl
  have p:aa .neq (.int .i64 0) (.int .i64 0)=some (.bool false):=rfl
  simp only [v,bt k]
  unfold rO
  simp only [af,ai,ay,az,bG,bE,al,o,decide_true,ah,ab,q,hdr,j,m,s,yn,p,ag,NB hc,aW,Bool.not_true,Pb hc.lt hc.can,Fu (show (ns.take i).length < 2 ^ 20 by simp;omega),au (show i < 2 ^ 62 by omega)]
end Go.AM
