/- Files, plainly: bytes; numbers of seven bits a byte. -/
import Derived.Test.YtgoenohknokcmaaGreatFf
open Option renaming bind_some->ab,map_some->b3,bind_assoc->e4
open List renaming replicate->ad,getElem?_eq_getElem->ao,getElem?_eq_some_iff->aB,length_map->a2,getElem?_append_left->a5,mem_of_getElem?->a6,getD_eq_getElem?_getD->a8,length_replicate->bb,length_append->bd,getElem?_append_right->bf,mem_cons_self->bs,mem_iff_getElem?->bx,drop_eq_getElem_cons->bA,mem_cons_of_mem->bB,flatMap_cons->bC,append_assoc->bO,mem_of_mem_take->b0,take_of_length_le->b4,take_append_drop->b7,length_cons->ca,length_take->cb,nil_append->cv,flatMap_append->cO,mem_append->c0,replicate_succ->c5,getLast?_eq_some_iff->c8,getLast?_eq_none_iff->c9,getElem?_map->ds,drop_eq_nil_of_le->eg,mem_append_left->eW,mem_cons->e3,cons_append->e7,drop_zero->fs
open BitVec renaming ofInt->a1,ofInt_natCast->bR,toNat_ofNat->b1,xor_allOnes->e1,toNat_ofInt->e2,toNat_not->e6,xor_zero->fa,allOnes->fv
open Nat renaming lt_of_le_of_lt->a7,mod_eq_of_lt->bm,eq_zero_or_pos->br,testBit_lt_two_pow->b5,le_refl->b6,min_eq_right->cc,and_le_right->cd,pow_le_pow_right->ch,mul_le_mul_right->ck,lt_of_lt_of_le->c6,xor_lt_two_pow->c7,shiftRight_eq_div_pow->dd,testBit_shiftRight->ek,add_comm->et,testBit_shiftLeft->eP,mul_le_mul_left->eZ,or_lt_two_pow->e5,shiftLeft_eq->e8,zero_le->fb,testBit_and->fc,two_pow_pos->fl,div_le_self->fr,testBit_or->fz,sub_zero->gd,lt_or_ge->gw,mul_comm->g0
open Go.IntKind renaming u64->bM,i64->cl,u8->fH,wrap->gf
open Int renaming toNat_natCast->dq
set_option linter.unusedVariables false
set_option linter.unusedSimpArgs false
namespace Go.AM
abbrev Byt:=List UInt8
def B (l:Byt):IV:= .str ⟨l.toArray⟩
def eB (b:UInt8):List IV:=[.int .u8 b.toNat]
theorem ahd (s:ByteArray):IV.str s=B s.data.toList:=by unfold B;simp
theorem yo (l:Byt):(⟨l.toArray⟩:ByteArray).size=l.length:=by show l.toArray.size=_;simp
@[simp] theorem jO (l:Byt):gv (B l)=some (.int .i64 l.length):=by unfold B;rw [qG,yo]
theorem Yw {l:Byt} {i:Nat} {b:UInt8} {k:IntKind} (h:l[i]? =some b):GV (B l) (.int k (i:Int))=some (.int .u8 b.toNat):=by
 unfold B
 simp only [GV,dq]
 rw [if_pos (by omega),abP]
 simp [h]
theorem aef (l:Byt) (a b:Nat):(⟨l.toArray⟩:ByteArray).extract a b=⟨((l.drop a).take (b - a)).toArray⟩:=by
 have:((⟨l.toArray⟩:ByteArray).extract a b).data.toList=(l.drop a).take (b - a):=by
  simp [ByteArray.data_extract,List.extract_eq_take_drop]
 exact ByteArray.ext (Array.toList_inj.1 (this.trans rfl))
theorem AD {l:Byt} {i:Nat} {k:IntKind} (h:i<=l.length):fE (B l) (some (.int k (i:Int))) none=some (B (l.drop i)):=by
 unfold B
 simp only [fE,kV,Uh,yo,ab]
 rw [if_pos ⟨by omega,by omega⟩]
 simp only [ab,dq,aef]
 rw [b4 (by simp)]
theorem AP {l:Byt} {i:Nat} {k:IntKind} (h:i<=l.length):fE (B l) none (some (.int k (i:Int)))=some (B (l.take i)):=by
 unfold B
 simp only [fE,kV,Uh,yo,ab]
 rw [if_pos ⟨by omega,by omega⟩]
 simp only [ab,dq,aef,fs,gd]
theorem NU {a b:Byt} (h:a.length+b.length < 2 ^ 60):aa .add (B a) (B b)=some (B (a++b)):=by
 unfold B
 simp only [aa,R8,yo]
 rw [if_neg (by show ¬_ > (9223372036854775807:Int);omega)]
 congr 2
theorem pc (l:Byt):lg (.lst (l.map eB))=some (B l):=by
 have:(l.map eB).mapM BJ=some l:=by
  induction l with
  | nil=>rfl
  | cons b l ih=>
    have hb:BJ (eB b)=some b:=by
     have:=b.toNat_lt
     simp only [BJ,eB]
     rw [if_pos (by omega)]
     simp
    simp [List.mapM_cons,hb,ih]
 simp only [lg,this];rfl
theorem acr {l:Byt} {b:UInt8} {x:Int} (a:x=b.toNat) (h:l.length < 2 ^ 30):bU 1 1 (.lst (l.map eB)) (.lst [[.int .u8 x]])=some (.lst ((l++[b]).map eB)):=by
 subst a
 simp only [bU]
 rw [if_pos ⟨by simp;omega,by simp⟩]
 simp [eB]
def Hp (n:Nat):UInt8:=UInt8.ofNat n
theorem qe {n:Nat} (h:n < 256):(Hp n).toNat=n:=by unfold Hp;simp [UInt8.toNat_ofNat];omega
def bw (n:Nat):Byt:=if n < 128 then [Hp n] else Hp (n % 128+128)::bw (n / 128)
 termination_by n
theorem ue {n:Nat} (h:n < 128):bw n=[Hp n]:=by rw [bw,if_pos h]
theorem Be {n:Nat} (h: ¬n < 128):bw n=Hp (n % 128+128)::bw (n / 128):=by rw [bw,if_neg h]
theorem acJ {a:Nat}:fH.wrap (a:Int)=((a % 256:Nat):Int):=by
 unfold gf
 show (if (false&&decide (((a:Int) % (2 ^ 8:Int))>=(2 ^ 7:Int)))=true then ((a:Int) % (2 ^ 8:Int)) - (2 ^ 8:Int) else ((a:Int) % (2 ^ 8:Int)))=_
 simp
theorem SJ (a:Nat) {k:IntKind}:bQ .u8 (.int k (a:Int))=some (.int .u8 ((a % 256:Nat):Int)):=by simp only [bQ,acJ]
theorem ae7 (a:Nat) (h:a < 256):aa .or (.int .u8 (a:Int)) (.int .u8 128)=some (.int .u8 ((a % 128+128:Nat):Int)):=by
 have: ∀a:Fin 256,(a1 8 ((a.val:Nat):Int)|||a1 8 128).toNat=a.val % 128+128:=by decide+kernel
 have e:=this ⟨a,h⟩
 simp only [aa,cg,if_true]
 show some (IV.int .u8 (fH.wrap ((a1 8 (a:Int)|||a1 8 128).toNat:Int)))=_
 rw [e,acJ,bm (by omega)]
theorem adh (a:Nat) (h:a < 256):aa .andNot (.int .u8 (a:Int)) (.int .u8 128)=some (.int .u8 ((a % 128:Nat):Int)):=by
 have: ∀a:Fin 256,(a1 8 ((a.val:Nat):Int)&&& ~~~(a1 8 128)).toNat=a.val % 128:=by decide+kernel
 have e:=this ⟨a,h⟩
 simp only [aa,cg,if_true]
 show some (IV.int .u8 (fH.wrap ((a1 8 (a:Int)&&& ~~~(a1 8 128)).toNat:Int)))=_
 rw [e,acJ,bm (by omega)]
theorem NN: ∀(j n m:Nat) (acc:Byt),n < 128 ^ j->0 < j->j<=m->n < 2 ^ 64->acc.length+j<=100->
  ∃(k:Nat) (ini:Byt),k < 128/\bw n=ini++[Hp k]/\ini.length < j/\iter m lS [.int .u64 (n:Int),.lst (acc.map eB)]=some (0,[.int .u64 (k:Int),.lst ((acc++ini).map eB)])
 | 0,n,m,acc,_,h0,_,_,_=>by omega
 | j+1,n,m,acc,hn,_,hm,hw,f=>by
   obtain ⟨m,rfl⟩: ∃p,m=p+1:=⟨m - 1,by omega⟩
   by_cases h:n < 128
   ·refine ⟨n,[],h,by rw [ue h];rfl,by simp,?_⟩
    have: ¬((128:Int)<=(n:Int)):=by omega
    have hf:lS [.int .u64 (n:Int),.lst (acc.map eB)]=some (.done 0 [.int .u64 (n:Int),.lst (acc.map eB)]):=by
     unfold lS
     simp [this]
    simp [iter,hf]
   ·have d:((128:Int)<=(n:Int)):=by omega
    have hj:0 < j:=by
     rcases br j with rfl | hj
     ·simp at hn;omega
     ·exact hj
    have e:n / 128 < 128 ^ j:=by
     rw [Nat.div_lt_iff_lt_mul (by decide)];rw [Nat.pow_succ] at hn;exact hn
    have i:(n % 256) % 128+128=n % 128+128:=by omega
    have g:=ae7 (n % 256) (Nat.mod_lt _ (by decide))
    rw [i] at g
    have c:=acr (l:=acc) (b:=Hp (n % 128+128)) (x:=((n % 128+128:Nat):Int)) (by rw [qe (by omega)]) (by omega)
    have hs:aa .shr (.int .u64 (n:Int)) (.int .u64 7)=some (.int .u64 ((n / 128:Nat):Int)):=mC (a:=n) (b:=7) (by decide)
    have hf:lS [.int .u64 (n:Int),.lst (acc.map eB)]=some (.next [.int .u64 ((n / 128:Nat):Int),.lst ((acc++[Hp (n % 128+128)]).map eB)]):=by
     unfold lS
     simp only [af,ai,dw,d,decide_true,ab,ah,SJ,g,c,hs]
    obtain ⟨k,ini,h1,h2,q,o⟩:=NN j (n / 128) m (acc++[Hp (n % 128+128)]) e hj (by omega) (by omega) (by simp;omega)
    refine ⟨k,Hp (n % 128+128)::ini,h1,by rw [Be h,h2];rfl,by simp;omega,?_⟩
    simp only [iter,hf,ab]
    rw [o];simp
theorem fu {n:Nat} (h:n < 2 ^ 64):cE (.int .u64 (n:Int))=some [B (bw n)]:=by
 obtain ⟨k,ini,h1,h2,e,d⟩:=NN 10 n rounds [] (by omega) (by decide) (by rw [aI];decide) h (by decide)
 have c:=acr (l:=ini) (b:=Hp k) (x:=((k % 256:Nat):Int)) (by rw [qe (by omega)];omega) (by omega)
 unfold cE
 have a:iter rounds lS [.int .u64 (n:Int),.lst []]=some (0,[.int .u64 (k:Int),.lst (ini.map eB)]):=d
 simp only [a,ab,aJ,af,ai,SJ,c,pc,h2]
 rfl
theorem bI {n:Nat} (h:n < 2 ^ 64):(bw n).length<=10:=by
 obtain ⟨k,ini,h1,h2,a,b⟩:=NN 10 n rounds [] (by omega) (by decide) (by rw [aI];decide) h (by decide)
 rw [h2];simp;omega
theorem Hr:cj (.bool true) (.int .i64 2)=some []:=rfl
theorem abn (s t:Byt): ∀(i n a m:Nat) (pre:Byt) (x:IV),s=pre++bw n++t->pre.length=i->a < 2 ^ (7*i)->a+n*2 ^ (7*i) < 2 ^ 64->(i=0\/0 < n)->i<=9->10<=m+i->
  iter m (aN (B s)) [x,.int .u64 (a:Int),.int .i64 (i:Int)]=some (0,[.int .u64 ((a+n*2 ^ (7*i):Nat):Int),B t]):=by
 intro i n
 induction n using Nat.strongRecOn generalizing i with
 | _ n ih=>
 intro a m pre x hs hp Q hn h0 hi hm
 obtain ⟨m,rfl⟩: ∃R,m=R+1:=⟨m - 1,by omega⟩
 obtain ⟨b,rest,g,w⟩: ∃b rest,bw n=b::rest/\s[i]? =some b:=by
  by_cases h:n < 128
  ·exact ⟨_,_,ue h,by rw [hs,ue h,bO,bf (by omega),<-hp];simp⟩
  ·exact ⟨_,_,Be h,by rw [hs,Be h,bO,bf (by omega),<-hp];simp⟩
 have r:=(aB.1 w).1
 have hc:((i:Int) < (s.length:Int)):=by omega
 have J:=Yw (k:= .i64) w
 have L:2 ^ (7*i)<=2 ^ 63:=ch (by decide) (by omega)
 have hmul:aa .mul (.int .i64 7) (.int .i64 (i:Int))=some (.int .i64 ((7*i:Nat):Int)):=by
  simp only [aa,cg,if_true]
  rw [wrap64 (by omega) (by omega)]
  congr 2
 have c:=au (i:=i) (by omega)
 have A:=b.toNat_lt
 have o:=adh b.toNat A
 have p:bQ .u64 (.int .u8 ((b.toNat % 128:Nat):Int))=some (.int .u64 ((b.toNat % 128:Nat):Int)):=by
  simp only [bQ,yX (show b.toNat % 128 < 2 ^ 64 by omega)]
 have key: ∀d:Nat,b.toNat % 128=d->d*2 ^ (7*i) < 2 ^ 64->
   ((aa .shl (.int .u64 ((b.toNat % 128:Nat):Int)) (.int .i64 ((7*i:Nat):Int))).bind λv23=>aa .or (.int .u64 (a:Int)) v23)=some (.int .u64 ((a+d*2 ^ (7*i):Nat):Int)):= λd C r=>by
  rw [C,xp (by omega) r,ab,tN (by omega) r,Nat.or_comm,Zh _ Q,et]
 have v:(i < 9\/b.toNat<=1)->(i=0\/b.toNat≠0)->((aa .lss (.int .i64 (i:Int)) (.int .i64 9)).bind λW=>
   ae W (λ_=>(aa .eql (.int .i64 (i:Int)) (.int .i64 0)).bind λv9=>
    ae v9 (λ_=>(cj (.bool true) (.int .i64 3)).bind λv10=>some ([]:List IV)) (λ_=>(aa .neq (.int .u8 (b.toNat:Int)) (.int .u8 0)).bind λv11=>(cj v11 (.int .i64 3)).bind λS=>some ([]:List IV)))
   (λ_=>(aa .leq (.int .u8 (b.toNat:Int)) (.int .u8 1)).bind λG=>
     ae G (λ_=>(aa .eql (.int .i64 (i:Int)) (.int .i64 0)).bind λH=>
      ae H (λ_=>(cj (.bool true) (.int .i64 3)).bind λT=>some ([]:List IV)) (λ_=>(aa .neq (.int .u8 (b.toNat:Int)) (.int .u8 0)).bind λI=>(cj I (.int .i64 3)).bind λU=>some ([]:List IV)))
     (λ_=>(cj (.bool false) (.int .i64 3)).bind λV=>some ([]:List IV))))=some []:= λh1 h2=>by
  simp only [al,dP,di,gG,ab,aZ]
  have M:(i:Int)=0↔i=0:=by omega
  have N:((b.toNat:Int)≠0)↔b.toNat≠0:=by omega
  by_cases q1:(i:Int) < 9
  ·rw [if_pos q1]
   by_cases u:(i:Int)=0
   ·rw [if_pos u];rfl
   ·rw [if_neg u,decide_eq_true (N.2 (h2.resolve_left λe=>u (M.2 e)))];rfl
  ·rw [if_neg q1,if_pos (by omega)]
   by_cases u:(i:Int)=0
   ·rw [if_pos u];rfl
   ·rw [if_neg u,decide_eq_true (N.2 (h2.resolve_left λe=>u (M.2 e)))];rfl
 by_cases h:n < 128
 ·have j:b=Hp n:=by rw [ue h] at g;injection g with h1 h2;exact h1.symm
  have y:b.toNat=n:=by rw [j,qe (by omega)]
  have O:i < 9\/b.toNat<=1:=by
   rcases gw i 9 with q | q
   ·exact .inl q
   ·right
    obtain rfl:i=9:=by omega
    rw [y];omega
  have hk:=key n (by omega) (by omega)
  have C:s.drop (i+1)=t:=by
   rw [hs,ue h,<-hp]
   simp
  have E:=AD (l:=s) (i:=i+1) (k:= .i64) (by omega)
  have hl:((b.toNat:Int) < 128):=by omega
  simp only [iter]
  unfold aN
  simp only [af,ai,ay,jO,ab,al (.i64) (i:Int) (s.length:Int),hc,decide_true,Hr,J,v O (by omega),o,p,hmul]
  rw [<-e4,hk]
  simp only [ab,al,hl,decide_true,ah,c,E,C]
 ·have j:b=Hp (n % 128+128):=by rw [Be h] at g;injection g with h1 h2;exact h1.symm
  have y:b.toNat=n % 128+128:=by rw [j,qe (by omega)]
  have q:i < 9:=by
   rcases gw i 9 with q | q
   ·exact q
   ·obtain rfl:i=9:=by omega
    omega
  have z:2 ^ (7*(i+1))=128*2 ^ (7*i):=by rw [Nat.mul_add,Nat.pow_add,g0]
  have D:n=128*(n / 128)+n % 128:=by omega
  have f:n*2 ^ (7*i)=(n % 128)*2 ^ (7*i)+(n / 128)*(128*2 ^ (7*i)):=by
   conv=>lhs;rw [D,Nat.add_mul]
   rw [g0 128 (n / 128),Nat.mul_assoc,et]
  have hk:=key (n % 128) (by omega) (by rw [f] at hn;omega)
  have hl: ¬((b.toNat:Int) < 128):=by omega
  have F:aN (B s) [x,.int .u64 (a:Int),.int .i64 (i:Int)]=some (.next [x,.int .u64 ((a+(n % 128)*2 ^ (7*i):Nat):Int),.int .i64 ((i+1:Nat):Int)]):=by
   unfold aN
   simp only [af,ai,ay,jO,ab,al (.i64) (i:Int) (s.length:Int),hc,decide_true,Hr,J,v (.inl q) (by omega),o,p,hmul]
   rw [<-e4,hk]
   simp only [ab,al,hl,decide_false,ag,c]
  simp only [iter,F,ab]
  have K:=ck (2 ^ (7*i)) (show n % 128<=127 by omega)
  rw [ih (n / 128) (by omega) (i+1) (a+(n % 128)*2 ^ (7*i)) m (pre++[b]) x (by rw [hs,Be h,j];simp) (by simp [hp]) (by rw [z];omega) (by rw [z];rw [f] at hn;omega) (.inr (by omega)) (by omega) (by omega),z]
  have P:a+n % 128*2 ^ (7*i)+n / 128*(128*2 ^ (7*i))=a+n*2 ^ (7*i):=by rw [f];omega
  rw [P]
theorem yA {n:Nat} (h:n < 2 ^ 64) (t:Byt):aD (B (bw n++t)) (.int .i64 0)=some [B t,.int .i64 0,.int .u64 (n:Int)]:=by
 unfold aD
 have:=abn (bw n++t) t 0 n 0 rounds [] (.int .u64 0) (by simp) rfl (by decide) (by omega) (.inl rfl) (by decide) (by rw [aI];decide)
 have h2:iter rounds (aN (B (bw n++t))) [.int .u64 0,.int .u64 0,.int .i64 0]=some (0,[.int .u64 (n:Int),B t]):=by
  have e:0+n*2 ^ (7*0)=n:=by omega
  rw [e] at this;exact this
 simp [h2]
end Go.AM
namespace Go.AM
theorem FW (l t:Byt) (k:Int) (hk:k=l.length):b9 (B (l++t)) (.int .i64 0) (.int .i64 k)=some [B t,.int .i64 0,B l]:=by
 subst hk
 have h1:(0:Int)<=(l.length:Int):=by omega
 have h2:(l.length:Int)<=((l++t).length:Int):=by simp;omega
 have a:=AP (l:=l++t) (i:=l.length) (k:= .i64) (by simp)
 have b:=AD (l:=l++t) (i:=l.length) (k:= .i64) (by simp)
 rw [List.take_left] at a
 rw [List.drop_left] at b
 unfold b9
 simp only [di,ne_eq,not_true_eq_false,decide_false,ab,af,ag,dw,h1,decide_true,ah,jO,gG,h2,Hr,a,b]
theorem qT (l:Byt) (e:IV):bo (B l) e=some [.int .i64 l.length]:=by
 show (gv (B l)).bind (λv=>av [v])=_
 rw [jO];rfl
theorem xR (s:IV) (e:Int):aY s (.int .i64 e)=some [.int .i64 e]:=rfl
theorem KD:bX (B []) (.int .i64 0)=some [B [],.int .i64 0,.int .i64 0]:=by
 unfold bX
 simp [xR,qT]
def uU (n:Int):Nat:=if 0<=n then (2*n).toNat else (-2*n - 1).toNat
theorem KI {n:Int} (h:in64 n):uU n < 2 ^ 64:=by unfold uU;obtain ⟨h1,h2⟩:=h;split<;>omega
theorem aco (z:Int):bM.wrap z=z % 2 ^ 64:=by
 unfold gf
 show (if (false&&decide ((z % (2 ^ 64:Int))>=(2 ^ 63:Int)))=true then (z % (2 ^ 64:Int)) - (2 ^ 64:Int) else (z % (2 ^ 64:Int)))=_
 simp
theorem ahg {a:Nat} (h:a < 2 ^ 64):aa .xor (.int .u64 (a:Int)) (.int .u64 0)=some (.int .u64 (a:Int)):=by
 simp only [aa,cg,if_true]
 have:(a1 bM.bits (a:Int) ^^^ a1 bM.bits 0).toNat=a:=by
  show (a1 64 (a:Int) ^^^ 0#64).toNat=a
  rw [fa,bR,b1,bm h]
 rw [this,yX h]
theorem ahD {a:Nat} (h:a < 2 ^ 64):aa .xor (.int .u64 (a:Int)) (.int .u64 18446744073709551615)=some (.int .u64 ((2 ^ 64 - 1 - a:Nat):Int)):=by
 simp only [aa,cg,if_true]
 have:(a1 bM.bits (a:Int) ^^^ a1 bM.bits 18446744073709551615).toNat=2 ^ 64 - 1 - a:=by
  show (a1 64 (a:Int) ^^^ fv 64).toNat=_
  rw [e1,e6,bR,b1,bm h]
 rw [this,yX (by omega)]
theorem Uf {n:Int} (h:in64 n):l6 (.int .i64 n)=some [.int .u64 (uU n:Int)]:=by
 obtain ⟨h1,h2⟩:=h
 have hs:aa .shr (.int .i64 n) (.int .u64 63)=some (.int .i64 (if 0<=n then 0 else -1)):=by
  simp only [aa]
  rw [if_neg (by omega)]
  show some (IV.int .i64 (n.fdiv (2 ^ 63)))=_
  congr 2
  rw [Int.fdiv_eq_ediv_of_nonneg _ (by decide)]
  split<;>omega
 have hl:aa .shl (.int .u64 (n % 2 ^ 64)) (.int .u64 1)=some (.int .u64 ((2*n) % 2 ^ 64)):=by
  simp only [aa]
  rw [if_neg (by omega)]
  show some (IV.int .u64 (bM.wrap (n % 2 ^ 64*2)))=_
  rw [aco]
  congr 2
  omega
 unfold l6
 simp only [bQ,aco,ab,hl,hs]
 unfold uU
 by_cases h0:0<=n
 ·rw [if_pos h0,if_pos h0]
  have e:(2*n) % 2 ^ 64=(((2*n).toNat:Nat):Int):=by omega
  have a:(0:Int) % 2 ^ 64=0:=by decide
  rw [e,a,ahg (by omega),ab];rfl
 ·rw [if_neg h0,if_neg h0]
  have e:(2*n) % 2 ^ 64=(((2 ^ 64+2*n).toNat:Nat):Int):=by omega
  have a:(-1:Int) % 2 ^ 64=18446744073709551615:=by decide
  rw [e,a,ahD (by omega),ab]
  have b:2 ^ 64 - 1 - (2 ^ 64+2*n).toNat=(-2*n - 1).toNat:=by omega
  rw [b];rfl
theorem QE (z:Int):cl.wrap z=(z+2 ^ 63) % 2 ^ 64 - 2 ^ 63:=by rw [IntKind.wrap_i64];omega
theorem U6 {n:Int} (h:in64 n):qD (.int .u64 (uU n:Int))=some [.int .i64 n]:=by
 obtain ⟨h1,h2⟩:=h
 have hz:=KI ⟨h1,h2⟩
 have hs:aa .shr (.int .u64 (uU n:Int)) (.int .u64 1)=some (.int .u64 ((uU n / 2:Nat):Int)):=mC (b:=1) (by decide)
 have g:aa .and (.int .u64 (uU n:Int)) (.int .u64 1)=some (.int .u64 ((uU n % 2:Nat):Int)):=by
  rw [show (1:Int)=((1:Nat):Int) from rfl,qj hz (by decide),Nat.and_one_is_mod]
 unfold qD
 simp only [hs,g,ab,bQ,QE]
 by_cases h0:0<=n
 ·have a:((uU n / 2:Nat):Int)=n:=by unfold uU;rw [if_pos h0];omega
  have c:uU n % 2=0:=by unfold uU;rw [if_pos h0];omega
  rw [a,c]
  have d:(n+2 ^ 63) % 2 ^ 64 - 2 ^ 63=n:=by omega
  have e:kA .neg (.int .i64 ((((0:Nat):Int)+2 ^ 63) % 2 ^ 64 - 2 ^ 63))=some (.int .i64 0):=by rfl
  rw [d,e,ab]
  have f:aa .xor (.int .i64 n) (.int .i64 0)=some (.int .i64 n):=by
   simp only [aa,cg,if_true]
   have:(a1 cl.bits n ^^^ a1 cl.bits 0).toNat=n.toNat:=by
    show (a1 64 n ^^^ 0#64).toNat=_
    rw [fa,e2];omega
   have q:(((n.toNat:Nat):Int)+2 ^ 63) % 2 ^ 64 - 2 ^ 63=n:=by omega
   rw [this,QE,q]
  rw [f];rfl
 ·have a:((uU n / 2:Nat):Int)= -n - 1:=by unfold uU;rw [if_neg h0];omega
  have c:uU n % 2=1:=by unfold uU;rw [if_neg h0];omega
  rw [a,c]
  have d:(-n - 1+2 ^ 63) % 2 ^ 64 - 2 ^ 63= -n - 1:=by omega
  have e:kA .neg (.int .i64 ((((1:Nat):Int)+2 ^ 63) % 2 ^ 64 - 2 ^ 63))=some (.int .i64 (-1)):=by rfl
  rw [d,e,ab]
  have f:aa .xor (.int .i64 (-n - 1)) (.int .i64 (-1))=some (.int .i64 n):=by
   simp only [aa,cg,if_true]
   have:(a1 cl.bits (-n - 1) ^^^ a1 cl.bits (-1)).toNat=(2 ^ 64+n).toNat:=by
    show (a1 64 (-n - 1) ^^^ fv 64).toNat=_
    rw [e1,e6,e2];omega
   have q:((((2 ^ 64+n).toNat:Nat):Int)+2 ^ 63) % 2 ^ 64 - 2 ^ 63=n:=by omega
   rw [this,QE,q]
  rw [f];rfl
def Hm (n:Int):Byt:=bw (uU n)
theorem afd {n:Int} (h:in64 n) (t:Byt):gW (B (Hm n++t)) (.int .i64 0)=some [B t,.int .i64 0,.int .i64 n]:=by
 unfold gW Hm
 rw [yA (KI h)]
 show (qD (.int .u64 (uU n:Int))).bind (λv2=>some [B t,.int .i64 0,nth v2 0])=_
 rw [U6 h];rfl
theorem s7 {α:Type} {f:α->Byt} {l:List α} {i:Nat} {x:α} (h:l[i]? =some x):(l.drop i).flatMap f=f x++(l.drop (i+1)).flatMap f:=by
 have hi:=(aB.1 h).1
 rw [bA hi,bC,(aB.1 h).2]
theorem k9 {α:Type} {f:α->Byt} {k:Nat}: ∀{l:List α},(∀x∈l,(f x).length<=k)->(l.flatMap f).length<=k*l.length
 | [],_=>by simp
 | x::l,h=>by
   have h1:=h x bs
   have h2:=k9 (l:=l) λy a=>h y (bB _ a)
   simp only [bC,bd,ca,Nat.mul_succ];omega
theorem So {α:Type} {f:α->Byt}: ∀{l:List α},(∀x∈l,1<=(f x).length)->l.length<=(l.flatMap f).length
 | [],_=>by simp
 | x::l,h=>by
   have h1:=h x bs
   have h2:=So (l:=l) λy a=>h y (bB _ a)
   simp only [bC,bd,ca];omega
theorem Gl (n:Nat):1<=(bw n).length:=by rw [bw];split<;>simp
theorem qq {l:List Int} {n:Int} (h:l.length < 2 ^ 20):bU 1 8 (bu l) (.lst [[.int .i64 n]])=some (bu (l++[n])):=by
 simp only [bU]
 rw [if_pos ⟨by simp;omega,by simp⟩]
 simp [aaw]
def wI (z:Int):Int:=cl.wrap z
theorem Zn (z:Int):in64 (wI z):=by unfold wI;rw [QE];constructor<;>omega
def zB:Int->List Int->List Int
 | _,[]=>[]
 | a,n::ns=>wI (n - a)::zB n ns
theorem rh: ∀(a:Int) (ns:List Int),(zB a ns).length=ns.length
 | _,[]=>rfl
 | a,n::ns=>by simp [zB,rh n ns]
theorem Tw: ∀(a:Int) (ns:List Int),∀x∈zB a ns,in64 x
 | _,[],x,h=>by cases h
 | a,n::ns,x,h=>by
   rcases e3.1 h with rfl | h
   ·exact Zn _
   ·exact Tw n ns x h
def deltaL (ns:List Int):Byt:=(zB 0 ns).flatMap Hm
theorem UI {n:Int} (h:in64 n):(Hm n).length<=10:=bI (KI h)
theorem ga {ns:List Int}:(deltaL ns).length<=10*ns.length:=by
 have:=k9 (l:=zB 0 ns) (f:=Hm) λx a=>UI (Tw 0 ns x a)
 rw [rh] at this;exact this
theorem Me: ∀(ns:List Int) (a:Int) (acc:Byt),acc.length+10*ns.length < 2 ^ 40->sY l6 cE a (ns.map aaw) ⟨acc.toArray⟩=some [B (acc++(zB a ns).flatMap Hm)]
 | [],a,acc,_=>by simp [sY,zB,B]
 | n::ns,a,acc,h=>by
   have hz:=Uf (Zn (n - a))
   have hp:=fu (KI (Zn (n - a)))
   have hl:=UI (Zn (n - a))
   have ih:=Me ns n (acc++Hm (wI (n - a))) (by simp at h ⊢;omega)
   show (l6 (.int .i64 (wI (n - a)))).bind _=_
   rw [hz,ab,af,hp,ab,af]
   have e:(⟨acc.toArray⟩:ByteArray)++(⟨(bw (uU (wI (n - a)))).toArray⟩:ByteArray)=⟨(acc++Hm (wI (n - a))).toArray⟩:=by
    apply ByteArray.ext
    simp [ByteArray.data_append,Hm]
   show (if (⟨acc.toArray⟩:ByteArray).size+(⟨(bw (uU (wI (n - a)))).toArray⟩:ByteArray).size<=140737488355328 then sY l6 cE n (ns.map aaw) ((⟨acc.toArray⟩:ByteArray)++(⟨(bw (uU (wI (n - a)))).toArray⟩:ByteArray)) else none)=_
   rw [if_pos (by rw [yo,yo];simp at h;unfold Hm at hl;omega),e,ih]
   simp [zB]
theorem nS {ns:List Int} (h:ns.length < 2 ^ 16):fQ (bu ns)=some [B (deltaL ns)]:=by
 unfold fQ Lb
 simp only [a2]
 rw [if_pos (by omega)]
 have:=Me ns 0 [] (by simp;omega)
 simpa [deltaL] using this
theorem O6: ∀{ns:List Int},ns.length < 2 ^ 16->(∀n∈ns,in64 n)->pb (bu (zB 0 ns))=some [bu ns]:=by
 intro ns h c
 unfold pb
 simp only [aw,ab,a2,rh]
 have p: ∀(i:Nat) (x:Int) (ns:List Int) (a:Int),ns[i]? =some x->(zB a ns)[i]? =some (wI (x - (a::ns).getD i 0)):=by
  intro i
  induction i with
  | zero=>intro x ns a b;cases ns with
    | nil=>simp at b
    | cons n ns=>simp at b;subst b;rfl
  | succ i ih=>intro x ns a b;cases ns with
    | nil=>simp at b
    | cons n ns=>simp at b;have:=ih x ns n b;simpa [zB] using this
 rw [mI (vs0:=[.lst [],.int .i64 0,.int .i64 0]) (λi (s:List Int)=>[bu s,.int .i64 ((0::ns).getD i 0),.int .i64 (i:Int)]) (λs x=>s++[x]) 0 (λs=>[bu s]) (λi s=>s.length=i) ns [] rfl (by have:=aI;omega) rfl]
 ·have:ns.foldl (λs x=>s++[x]) []=ns:=by
   have: ∀(l a:List Int),l.foldl (λs x=>s++[x]) a=a++l:= λl=>by
    induction l with
    | nil=>simp
    | cons x l ih=>intro a;simp [ih]
   simp [this]
  simp [this]
 ·intro i s x b m
  have hi:i < ns.length:=(aB.1 b).1
  have f:=oS (p i x ns 0 b)
  have e:=c x (a6 b)
  have q:(0::ns).getD (i+1) 0=x:=by simp [a8,b]
  have k:in64 ((0::ns).getD i 0):=by
   cases i with
   | zero=>show in64 0;exact ⟨by decide,by decide⟩
   | succ j=>
     have hj:j < ns.length:=by omega
     rw [a8,List.getElem?_cons_succ,ao hj]
     exact c _ (List.getElem_mem hj)
  refine ⟨by simp [m],?_⟩
  unfold vK
  have d:aa .add (.int .i64 ((0::ns).getD i 0)) (.int .i64 (wI (x - (0::ns).getD i 0)))=some (.int .i64 x):=by
   simp only [aa,cg,if_true]
   obtain ⟨r,t⟩:=e
   obtain ⟨o,b2⟩:=k
   generalize (0::ns).getD i 0=y at o b2
   congr 2
   unfold wI
   rw [QE,QE];omega
  have g:((i:Int) < (ns.length:Int)):=by omega
  simp only [af,ai,ay,al,g,decide_true,ab,ah,f,d,qq (show s.length < 2 ^ 20 by omega),au (show i < 2 ^ 62 by omega),q]
 ·intro s m
  unfold vK
  simp
theorem eL {ns:List Int} (h:ns.length < 2 ^ 16) (j: ∀n∈ns,in64 n):bp (B (deltaL ns)) (.int .i64 ns.length)=some [bu ns,.int .i64 0]:=by
 unfold bp
 have p: ¬((ns.length:Int) < 0):=by omega
 have q: ¬(((deltaL ns).length:Int) < (ns.length:Int)):=by
  have:=So (l:=zB 0 ns) (f:=Hm) λx _=>Gl _
  rw [rh] at this
  unfold deltaL;omega
 simp only [al,p,decide_false,ab,ag,jO,aW,q]
 have g:cq (B (deltaL ns))=some [B (deltaL ns),.int .i64 0]:=rfl
 simp only [g,ab,af,ai]
 rw [mI (vs0:=[B (deltaL ns),.int .i64 0,.lst [],.int .i64 0]) (λi (s:List Int)=>[B (((zB 0 ns).drop i).flatMap Hm),.int .i64 0,bu s,.int .i64 (i:Int)]) (λs x=>s++[x]) 0 (λs=>[B [],.int .i64 0,bu s]) (λi s=>s.length=i) (zB 0 ns) [] rfl (by have:=aI;rw [rh];omega) rfl]
 ·have: ∀(l a:List Int),l.foldl (λs x=>s++[x]) a=a++l:= λl=>by
   induction l with
   | nil=>simp
   | cons x l ih=>intro a;simp [ih]
  simp only [this,cv,ab,aJ,af,ai,ay,KD]
  show (aa .neq (.int .i64 0) (.int .i64 0)).bind _=_
  simp [O6 h j]
 ·intro i s x m o
  have hi:i < (zB 0 ns).length:=(aB.1 m).1
  rw [rh] at hi
  refine ⟨by simp [o],?_⟩
  have d:=afd (Tw 0 ns x (a6 m)) (((zB 0 ns).drop (i+1)).flatMap Hm)
  rw [<-s7 m] at d
  have k:((i:Int) < (ns.length:Int)):=by omega
  have hdr: ∀a b c:IV,([a,b,c]:List IV).drop 2=[c]:= λ_ _ _=>rfl
  unfold r9
  simp only [af,ai,ay,az,al,k,decide_true,ab,ah,d,hdr,qq (show s.length < 2 ^ 20 by omega),au (show i < 2 ^ 62 by omega)]
 ·intro s o
  unfold r9
  have e:(zB 0 ns).drop ns.length=[]:=eg (by rw [rh];exact b6 _)
  simp [rh,e]
end Go.AM
namespace Go.AM
theorem Dc {f:List IV->Option SR} (enc:Nat->List IV) (n a:Nat) (out:List IV) (hs: ∀i,i < n->f (enc i)=some (.next (enc (i+1)))) (he:f (enc n)=some (.done a out)): ∀(m i:Nat),i<=n->n - i < m->iter m f (enc i)=some (a,out)
 | 0,i,_,h=>by omega
 | m+1,i,hi,hm=>by
   by_cases h:i=n
   ·subst h;exact fL m he
   ·rw [mB m (hs i (by omega))]
    exact Dc enc n a out hs he m (i+1) (by omega) (by omega)
theorem ba {f:List IV->Option SR} {vs0:List IV} (enc:Nat->List IV) (n a:Nat) (out:List IV) (h0:vs0=enc 0) (hn:n < 999999) (hs: ∀i,i < n->f (enc i)=some (.next (enc (i+1)))) (he:f (enc n)=some (.done a out)):iter rounds f vs0=some (a,out):=by
 subst h0
 exact Dc enc n a out hs he rounds 0 (fb _) (by rw [aI];omega)
theorem qy {α:Type} {f:α->Byt} {l:List α} {i:Nat} {x:α} (h:l[i]? =some x):(l.take (i+1)).flatMap f=(l.take i).flatMap f++f x:=by
 rw [bt h];simp
theorem aaQ (l:Byt):xF ⟨l.toArray⟩=l.map eB:=by simp [xF,eB]
theorem xI {x:IV} {a b:Byt} (h:a.length+b.length<=140737488355328):sB [[x,.lst (a.map eB)],[B b]]=some [.nilp,.lst ((a++b).map eB),.int .i64 b.length,.nilf]:=by
 show (if (a.map eB).length+(⟨b.toArray⟩:ByteArray).size<=140737488355328 then some [IV.nilp,.lst (a.map eB++xF ⟨b.toArray⟩),.int .i64 (⟨b.toArray⟩:ByteArray).size,.nilf] else none)=_
 rw [if_pos (by rw [yo];simpa using h),aaQ,yo,List.map_append]
theorem fq {a:Nat} {k:IntKind} (h:a < 2 ^ 64):bQ .u64 (.int k (a:Int))=some (.int .u64 (a:Int)):=by simp only [bQ,yX h]
theorem kQ {a:Nat} {k:IntKind} (h:a < 2 ^ 63):bQ .i64 (.int k (a:Int))=some (.int .i64 (a:Int)):=by simp only [bQ];rw [wrap64 (by omega) (by omega)]
def eU (n:Nat):List IV:=[.int .u64 (n:Int)]
abbrev NW (l:List Nat):IV:= .lst (l.map eU)
theorem adX {l:List Nat} {i:Nat} {x:Nat} (h:l[i]? =some x):aK (NW l) (.int .i64 (i:Int)) 1=some i/\dU (NW l) i 0=some (.int .u64 (x:Int)):=
 ⟨ea h rfl (by decide),by rw [b8 h];rfl⟩
theorem aa7 {l k:List Nat} (hl:l.length < 2 ^ 20) (hk:k.length < 2 ^ 20):bU 1 8 (NW l) (NW k)=some (NW (l++k)):=by
 simp only [bU]
 rw [if_pos ⟨by simp;omega,by simp [eU]⟩]
 simp
abbrev Rn:=Nat×Nat
def eRn (r:Rn):List IV:=[.int .u64 (r.1:Int),.int .i64 (r.2:Int)]
abbrev xr (l:List Rn):IV:= .lst (l.map eRn)
theorem QV {l:List Rn} {i:Nat} {x:Rn} (h:l[i]? =some x):aK (xr l) (.int .i64 (i:Int)) 2=some i/\dN (xr l) i 0 2=some (eRn x)/\dU (xr l) i 0=some (.int .u64 (x.1:Int))/\dU (xr l) i 1=some (.int .i64 (x.2:Int)):=
 ⟨ea h rfl (by decide),rK h rfl,by rw [b8 h];rfl,by rw [b8 h];rfl⟩
theorem Sv {l:List Rn} {r:Rn} (hl:l.length < 2 ^ 20):bU 2 16 (xr l) (.lst [eRn r])=some (xr (l++[r])):=by
 simp only [bU]
 rw [if_pos ⟨by simp;omega,by simp [eRn]⟩]
 simp
def Je (rs:List Rn) (x:Nat):List Rn:=match rs.getLast? with
 | some r=>if r.1=x then rs.set (rs.length - 1) (r.1,r.2+1) else rs++[(x,1)]
 | none=>[(x,1)]
def cR (l:List Nat):List Rn:=l.foldl Je []
def sprR (rs:List Rn):List Nat:=rs.flatMap λr=>ad r.2 r.1
structure OkR (l:List Nat) (rs:List Rn):Prop where
 spr:sprR rs=l
 cnt: ∀r∈rs,1<=r.2
 adj: ∀i r q,rs[i]? =some r->rs[i+1]? =some q->r.1≠q.1
 val: ∀r∈rs,r.1 < 2 ^ 64
theorem OkR.add {l:List Nat} {rs:List Rn} (h:OkR l rs) {x:Nat} (j:x < 2 ^ 64):OkR (l++[x]) (Je rs x):=by
 unfold Je
 split
 ·rename_i r hr
  obtain ⟨ini,rfl⟩:=c8.1 hr
  split
  ·rename_i g
   have e:(ini++[r]).set ((ini++[r]).length - 1) (r.1,r.2+1)=ini++[(r.1,r.2+1)]:=by simp
   rw [e]
   refine ⟨?_,?_,?_,?_⟩
   ·rw [<-h.spr]
    simp only [sprR,cO,bC,List.flatMap_nil,List.append_nil,bO]
    rw [List.replicate_succ',g]
   ·intro q c
    rcases c0.1 c with c | c
    ·exact h.cnt q (eW _ c)
    ·simp at c;subst c;show 1<=r.2+1;omega
   ·intro i a b f hb
    have hi:i+1 < (ini++[(r.1,r.2+1)]).length:=(aB.1 hb).1
    simp at hi
    rw [a5 (by omega)] at f
    by_cases d:i+1 < ini.length
    ·rw [a5 d] at hb
     exact h.adj i a b (by rw [a5 (by omega)];exact f) (by rw [a5 d];exact hb)
    ·rw [bf (by omega)] at hb
     have:i+1 - ini.length=0:=by omega
     rw [this] at hb
     simp at hb;subst hb
     exact h.adj i a r (by rw [a5 (by omega)];exact f) (by rw [bf (by omega),this];rfl)
   ·intro q c
    rcases c0.1 c with c | c
    ·exact h.val q (eW _ c)
    ·simp at c;subst c;exact h.val r (by simp)
  ·rename_i g
   refine ⟨?_,?_,?_,?_⟩
   ·rw [<-h.spr];simp [sprR]
   ·intro q c
    rcases c0.1 c with c | c
    ·exact h.cnt q c
    ·simp at c;subst c;exact b6 1
   ·intro i a b f hb
    have hi:i+1 < (ini++[r]++[(x,1)]).length:=(aB.1 hb).1
    simp at hi
    by_cases d:i+1 < (ini++[r]).length
    ·rw [a5 d] at hb
     rw [a5 (by omega)] at f
     exact h.adj i a b f hb
    ·simp at d
     have e:i=ini.length:=by omega
     subst e
     simp at f hb
     subst f hb
     exact g
   ·intro q c
    rcases c0.1 c with c | c
    ·exact h.val q c
    ·simp at c;subst c;exact j
 ·rename_i hr
  rw [c9] at hr
  subst hr
  have hl:l=[]:=h.spr.symm
  subst hl
  refine ⟨by simp [sprR],λq c=>by simp at c;subst c;exact b6 1,λi a b f hb=>by simp at hb,λq c=>by simp at c;subst c;exact j⟩
theorem HZ: ∀(l a:List Nat) (rs:List Rn),OkR a rs->(∀x∈l,x < 2 ^ 64)->OkR (a++l) (l.foldl Je rs)
 | [],a,rs,h,_=>by simpa using h
 | x::l,a,rs,h,b=>by
   have:=HZ l (a++[x]) (Je rs x) (h.add (b x bs)) λy c=>b y (bB _ c)
   simpa using this
theorem OkR.len {l:List Nat} {rs:List Rn} (h:OkR l rs):rs.length<=l.length:=by
 rw [<-h.spr]
 have: ∀rs:List Rn,(∀r∈rs,1<=r.2)->rs.length<=(sprR rs).length:=by
  intro rs
  induction rs with
  | nil=>intro _;simp
  | cons r rs ih=>
    intro h
    have h1:=h r bs
    have h2:=ih λq a=>h q (bB _ a)
    simp only [sprR,bC,bd,bb,ca] at h2 ⊢
    omega
 exact this rs h.cnt
theorem Yq {l:List Nat} (h: ∀x∈l,x < 2 ^ 64):OkR l (cR l):=by
 have:=HZ l [] [] ⟨rfl,by simp,by simp,by simp⟩ h
 simpa [cR] using this
theorem Yt {l:List Nat} (hl:l.length < 2 ^ 16) (h: ∀x∈l,x < 2 ^ 64):jh (NW l)=some [xr (cR l)]:=by
 unfold jh
 simp only [aw,ab,a2]
 rw [ba (λi=>[xr ((l.take i).foldl Je []),.int .i64 (i:Int)]) l.length 0 [xr (cR l)] (by simp) (by omega) (λi hi=> ?_) (by
  unfold ph
  simp [cR])]
 ·simp
 ·have n:=ao hi
  generalize l[i]=x at n
  obtain ⟨o,p⟩:=adX n
  have k:((i:Int) < (l.length:Int)):=by omega
  have hok:=HZ (l.take i) [] [] ⟨rfl,by simp,by simp,by simp⟩ λy z=>h y (b0 z)
  simp only [cv] at hok
  have hlen:=hok.len
  simp only [bt n,List.foldl_append,List.foldl_cons,List.foldl_nil]
  generalize w:(l.take i).foldl Je []=rs at*
  simp only [cb] at hlen
  have a:=au (i:=i) (by omega)
  unfold ph
  simp only [af,ai,al,k,decide_true,ah,ab,o,p,cx,a2]
  unfold Je
  cases j:rs.getLast? with
  | none=>
    rw [c9] at j
    subst j
    have e:aa .sub (.int .i64 ((([]:List Rn).length:Nat):Int)) (.int .i64 1)=some (.int .i64 (-1)):=rfl
    have g:aa .geq (.int .i64 (-1)) (.int .i64 0)=some (.bool false):=rfl
    have c:=Sv (l:=[]) (r:=(x,1)) (by decide)
    simp only [eRn] at c
    simp only [e,g,ab,ag,af,a,cv] at c ⊢
    have t:bU 2 16 (xr []) (.lst [[.int .u64 (x:Int),.int .i64 1]])=some (xr [(x,1)]):=c
    rw [t];rfl
  | some r=>
    obtain ⟨ini,b⟩:=c8.1 j
    have f:0 < rs.length:=by rw [b];simp
    have d:rs[rs.length - 1]? =some r:=by rw [b];simp
    obtain ⟨A,b2,q,s⟩:=QV d
    have e:=s9 (i:=rs.length) (by omega) f
    have g:aa .geq (.int .i64 ((rs.length - 1:Nat):Int)) (.int .i64 0)=some (.bool true):=by rw [dw];simp
    have u:cA rs.length (.int .i64 ((rs.length - 1:Nat):Int))=some (rs.length - 1):=e9 (by omega)
    simp only [e,g,ab,ah,u,q,dP]
    by_cases hr:r.1=x
    ·have h1:((r.1:Int)=(x:Int)):=by omega
     have hc:r.2<=l.length:=by
      have h2:(ad r.2 r.1).length<=(sprR rs).length:=by
       rw [b];simp [sprR]
      rw [hok.spr] at h2
      simp at h2;omega
     have v:aa .add (.int .i64 (r.2:Int)) (.int .i64 1)=some (.int .i64 ((r.2+1:Nat):Int)):=au (by omega)
     have m:rU (xr rs) (rs.length - 1) 1 [.int .i64 ((r.2+1:Nat):Int)]=some (xr (rs.set (rs.length - 1) (r.1,r.2+1))):=by
      simp only [rU,ds,d,b3,ab]
      rw [if_pos (by simp [eRn])]
      simp [setCells,eRn,List.map_set]
     simp only [h1,decide_true,af,ah,s,ab,v,m,a,hr,if_true]
    ·have h1: ¬((r.1:Int)=(x:Int)):=by omega
     have c:bU 2 16 (xr rs) (.lst [[.int .u64 (x:Int),.int .i64 1]])=some (xr (rs++[(x,1)])):=Sv (r:=(x,1)) (by omega)
     simp only [h1,decide_false,af,ag,ab,c,a,hr,if_false]
def Vk (r:Rn):Byt:=bw r.1++bw r.2
def pL (l:List Nat):Byt:=(cR l).flatMap Vk
theorem Zb {l:List Nat} {rs:List Rn} (h:OkR l rs) {i:Nat} {r:Rn} (hr:rs[i]? =some r):r.2+(sprR (rs.take i)).length<=l.length:=by
 have hi:=(aB.1 hr).1
 have:(sprR (rs.take (i+1))).length<=(sprR rs).length:=by
  conv=>rhs;rw [<-b7 (i+1) rs]
  unfold sprR
  rw [cO,bd]
  exact Nat.le_add_right _ _
 rw [bt hr,h.spr] at this
 simp [sprR] at this ⊢
 omega
theorem YP {r:Rn} (h1:r.1 < 2 ^ 64) (h2:r.2 < 2 ^ 64):(Vk r).length<=20:=by
 have:=bI h1;have:=bI h2
 simp [Vk];omega
theorem OkR.cmax {l:List Nat} {rs:List Rn} (h:OkR l rs) (hl:l.length < 2 ^ 16): ∀r∈rs,r.2 < 2 ^ 16:= λr hr=>by
 obtain ⟨i,hi⟩:=bx.1 hr
 have:=Zb h hi
 omega
theorem B0 {l:List Nat} (hl:l.length < 2 ^ 16) (h: ∀x∈l,x < 2 ^ 64):(pL l).length<=20*l.length:=by
 have hok:=Yq h
 have h1:=k9 (f:=Vk) (l:=cR l) (k:=20) λr hr=>YP (hok.val r hr) (by have:=hok.cmax hl r hr;omega)
 have h2:=hok.len
 unfold pL;omega
theorem Bg {l:List Nat} (hl:l.length < 2 ^ 16) (h: ∀x∈l,x < 2 ^ 64):ky (NW l)=some [B (pL l)]:=by
 have hok:=Yq h
 have hlen:=hok.len
 have c:=hok.cmax hl
 unfold ky
 simp only [Yt hl h,ab,af,aw,a2]
 rw [ba (λi=>[.nilp,.lst ((((cR l).take i).flatMap Vk).map eB),.int .i64 (i:Int)]) (cR l).length 0 [.nilp,.lst ((pL l).map eB)] (by simp) (by omega) (λi hi=> ?_) (by
  unfold tA
  simp [pL])]
 ·simp only [ab,aJ,ai,pc]
  rfl
 ·have d:=ao hi
  generalize (cR l)[i]=r at d
  have hr:=a6 d
  obtain ⟨p,b2,s,t⟩:=QV d
  have g:((i:Int) < ((cR l).length:Int)):=by omega
  have h1:=hok.val r hr
  have h2:=c r hr
  have e:=k9 (f:=Vk) (l:=(cR l).take i) (k:=20) λq o=>YP (hok.val q (b0 o)) (by have:=c q (b0 o);omega)
  have u:=bI h1
  have v:=bI (n:=r.2) (by omega)
  simp only [cb] at e
  have j:=xI (x:= .nilp) (a:=((cR l).take i).flatMap Vk) (b:=bw r.1) (by omega)
  have m:=xI (x:= .nilp) (a:=((cR l).take i).flatMap Vk++bw r.1) (b:=bw r.2) (by rw [bd];omega)
  unfold tA
  simp only [af,ai,ay,al,g,decide_true,ah,ab,p,b2,eRn,fu h1,j,fq (show r.2 < 2 ^ 64 by omega),fu (show r.2 < 2 ^ 64 by omega),m,au (show i < 2 ^ 62 by omega),qy d,Vk,bO]
end Go.AM
namespace Go.AM
theorem QW {a b:Nat} (h:a*b < 2 ^ 64):aa .mul (.int .u64 (a:Int)) (.int .u64 (b:Int))=some (.int .u64 ((a*b:Nat):Int)):=by
 simp only [aa,cg,if_true]
 rw [<-Int.natCast_mul,yX h]
theorem EW {n:Nat} (h:n < 2 ^ 32):qm (.int .u64 1) (.int .u64 (n:Int))=some [.int .u64 0,.int .u64 (n:Int)]:=by
 have c:aa .and (.int .u64 1) (.int .u64 4294967295)=some (.int .u64 1):=rfl
 have d:aa .shr (.int .u64 1) (.int .u64 32)=some (.int .u64 0):=rfl
 have a3:aa .and (.int .u64 (n:Int)) (.int .u64 4294967295)=some (.int .u64 (n:Int)):=by
  have e:n&&&4294967295=n:=by
   have:=Nat.and_two_pow_sub_one_eq_mod n 32
   rw [show (2:Nat) ^ 32 - 1=4294967295 from rfl,bm h] at this
   exact this
  have:=qj (a:=n) (b:=4294967295) (by omega) (by decide)
  rw [e] at this;exact this
 have a4:aa .shr (.int .u64 (n:Int)) (.int .u64 32)=some (.int .u64 0):=by
  have:=mC (a:=n) (b:=32) (k:= .u64) (by decide)
  rw [Nat.div_eq_of_lt h] at this;exact this
 have f:aa .mul (.int .u64 1) (.int .u64 (n:Int))=some (.int .u64 (n:Int)):=by
  have:=QW (a:=1) (b:=n) (by omega)
  rw [Nat.one_mul] at this;exact this
 have g:aa .mul (.int .u64 0) (.int .u64 (n:Int))=some (.int .u64 0):=by
  have:=QW (a:=0) (b:=n) (by omega)
  rw [Nat.zero_mul] at this;exact this
 have i:aa .add (.int .u64 0) (.int .u64 0)=some (.int .u64 0):=rfl
 have b2:aa .and (.int .u64 0) (.int .u64 4294967295)=some (.int .u64 0):=rfl
 have j:aa .shr (.int .u64 0) (.int .u64 32)=some (.int .u64 0):=rfl
 have l:aa .mul (.int .u64 1) (.int .u64 0)=some (.int .u64 0):=rfl
 have m:aa .mul (.int .u64 0) (.int .u64 0)=some (.int .u64 0):=rfl
 unfold qm sK
 simp only [c,d,a3,a4,f,g,i,b2,j,l,m,ab,xg,cX,b3,af,ai]
theorem aaT {x z:IV} {m n:Nat} (h:m<=n):qa 1 (.lst (ad m [x]++ad (n - m) [z])) m n (Dy (.lst (ad m [x]++ad (n - m) [z])) 0 m)=some (.lst (ad (m+min (n - m) m) [x]++ad (n - (m+min (n - m) m)) [z]),.int .i64 ((min (n - m) m:Nat):Int)):=by
 have a:(ad m [x]++ad (n - m) [z]).take m=ad m [x]:=List.take_left' (by simp)
 simp only [ZK,fs,gd,a,qa,bb]
 rw [if_pos ⟨h,by simp;omega,by simp⟩]
 have b:(ad m [x]++ad (n - m) [z]).drop (m+min (n - m) m)=ad (n - (m+min (n - m) m)) [z]:=by
  rw [List.drop_append]
  simp
  omega
 simp only [bb,b,List.take_replicate]
 rw [List.replicate_append_replicate,Nat.min_eq_left (Nat.min_le_right _ _)]
theorem Ms {x z:IV} {n:Nat} (hn:n < 2 ^ 16): ∀(j m:Nat),1<=m->m<=n->n - m < j->iter j bT [.lst (ad m [x]++ad (n - m) [z]),.int .i64 (m:Int)]=some (0,[.lst (ad n [x])])
 | 0,m,_,_,h=>by omega
 | j+1,m,h1,h2,c=>by
   by_cases h:m=n
   ·subst h
    refine fL j ?_
    unfold bT
    simp
   ·have b:((m:Int) < (n:Int)):=by omega
    have hl:(ad m [x]++ad (n - m) [z]).length=n:=by simp;omega
    have a:aa .add (.int .i64 (m:Int)) (.int .i64 ((min (n - m) m:Nat):Int))=some (.int .i64 ((m+min (n - m) m:Nat):Int)):=xl (by omega)
    rw [mB j (vs':=[.lst (ad (m+min (n - m) m) [x]++ad (n - (m+min (n - m) m)) [z]),.int .i64 ((m+min (n - m) m:Nat):Int)])]
    ·exact Ms hn j _ (by omega) (by omega) (by omega)
    ·unfold bT
     simp only [af,ai,cx,hl,al,b,decide_true,ah,ab,Bn (show m<=n from h2),M8 (show m<=n from h2),aaT h2,a]
theorem aaj {x:IV} {n:Nat} (hn:n < 2 ^ 16):dv (.lst [[x]]) (.int .i64 (n:Int))=some [.lst (ad n [x])]:=by
 have e0: ¬((n:Int) < 0):=by omega
 have a:aC (.lst [[x]])=some (.int .i64 1):=rfl
 have b:bQ .u64 (.int .i64 1)=some (.int .u64 1):=rfl
 have c:aa .gtr (.int .u64 0) (.int .u64 0)=some (.bool false):=rfl
 have d: ¬((9223372036854775807:Int) < (n:Int)):=by omega
 have e:kM 8 [.int .u64 0] (.int .i64 (n:Int)) (.int .i64 (n:Int))=some (.lst (ad n [.int .u64 0])):=by
  simp only [kM]
  rw [if_pos ⟨trivial,by omega,by simp;omega⟩];simp
 have f:qa 1 (.lst (ad n [.int .u64 0])) 0 n (.lst [[x]])=some (.lst (ad (min n 1) [x]++ad (n - min n 1) [.int .u64 0]),.int .i64 ((min n 1:Nat):Int)):=by
  simp only [qa]
  rw [if_pos ⟨fb _,by simp,by simp⟩]
  have:([[x]]:List (List IV)).take (min n 1)=ad (min n 1) [x]:=by
   rcases br n with h | h
   ·subst h;rfl
   ·rw [cc h];rfl
  simp [this]
 unfold dv
 simp only [al,e0,decide_false,ab,ag,a,b,fq (show n < 2 ^ 64 by omega),EW (show n < 2 ^ 32 by omega),af,ai,c,aW,d,kQ (show n < 2 ^ 63 by omega),e,cx,bb,f]
 rcases br n with h | h
 ·subst h
  rw [show rounds=999999+1 from rfl,fL 999999 (k:=0) (o:=[.lst []])]
  ·rfl
  ·unfold bT
   simp
 ·rw [cc h,Ms hn rounds 1 (b6 _) h (by rw [aI];omega)]
  rfl
theorem XK {x:IV} {n:Nat} (hn:n < 2 ^ 16):eh (.lst [[x]]) (.int .i64 (n:Int))=some [.lst (ad n [x])]:=by
 have e0: ¬((n:Int) < 0):=by omega
 have b:aC (.lst [[x]])=some (.int .i64 1):=rfl
 have c:bQ .u64 (.int .i64 1)=some (.int .u64 1):=rfl
 have d:aa .gtr (.int .u64 0) (.int .u64 0)=some (.bool false):=rfl
 have e: ¬((9223372036854775807:Int) < (n:Int)):=by omega
 have f:kM 1 [.bool false] (.int .i64 (n:Int)) (.int .i64 (n:Int))=some (.lst (ad n [.bool false])):=by
  simp only [kM]
  rw [if_pos ⟨trivial,by omega,by simp;omega⟩];simp
 have g:qa 1 (.lst (ad n [.bool false])) 0 n (.lst [[x]])=some (.lst (ad (min n 1) [x]++ad (n - min n 1) [.bool false]),.int .i64 ((min n 1:Nat):Int)):=by
  simp only [qa]
  rw [if_pos ⟨fb _,by simp,by simp⟩]
  have:([[x]]:List (List IV)).take (min n 1)=ad (min n 1) [x]:=by
   rcases br n with h | h
   ·subst h;rfl
   ·rw [cc h];rfl
  simp [this]
 have a:p5=bT:=rfl
 unfold eh
 simp only [al,e0,decide_false,ab,ag,b,c,fq (show n < 2 ^ 64 by omega),EW (show n < 2 ^ 32 by omega),af,ai,d,aW,e,kQ (show n < 2 ^ 63 by omega),f,cx,bb,g,a]
 rcases br n with h | h
 ·subst h
  rw [show rounds=999999+1 from rfl,fL 999999 (k:=0) (o:=[.lst []])]
  ·rfl
  ·unfold bT
   simp
 ·rw [cc h,Ms hn rounds 1 (b6 _) h (by rw [aI];omega)]
  rfl
theorem VZ {l:List Nat} {rs:List Rn} (h:OkR l rs) (hl:rs.length < 2 ^ 16):tH (xr rs)=some [.bool true]:=by
 unfold tH
 simp only [aw,ab,a2]
 rw [ba (λi=>[.int .i64 (i:Int)]) rs.length 0 [] (by simp) (by omega) (λi hi=> ?_) (by
  unfold Ap
  simp)]
 ·rfl
 ·have b:=ao hi
  generalize rs[i]=r at b
  obtain ⟨e,b2,g,j⟩:=QV b
  have c:((i:Int) < (rs.length:Int)):=by omega
  have hc: ¬((r.2:Int) < 1):=by have:=h.cnt r (a6 b);omega
  have hs:=au (i:=i) (by omega)
  unfold Ap
  simp only [af,ai,al,c,decide_true,ah,ab,e,b2,eRn,hc,decide_false,ag,aW]
  by_cases h0:(0:Int) < (i:Int)
  ·have d:=ao (show i - 1 < rs.length by omega)
   generalize rs[i - 1]=q at d
   obtain ⟨c1,c2,c3,c4⟩:=QV d
   have f:=h.adj (i - 1) q r d (by rw [show i - 1+1=i by omega];exact b)
   have a: ¬((q.1:Int)=(r.1:Int)):=by omega
   simp only [h0,decide_true,ah,s9 (i:=i) (by omega) (by omega),ab,c1,c3,dP,a,decide_false,af,ag,hs]
  ·simp only [h0,decide_false,ag,ab,af,hs]
theorem NG {l:List Nat} {rs:List Rn} (h:OkR l rs) (hl:l.length < 2 ^ 16):nC (xr rs) (.int .i64 (l.length:Int))=some [NW l,.bool true]:=by
 have hlen:=h.len
 have e0: ¬((l.length:Int) < 0):=by omega
 unfold nC
 simp only [VZ h (by omega),ab,af,aX,Bool.not_true,ag,al,e0,decide_false,aw,a2]
 rw [ba (λi=>[NW (sprR (rs.take i)),.int .i64 (i:Int)]) rs.length 0 [NW l] (by simp [sprR]) (by omega) (λi hi=> ?_) (by
  unfold tg
  simp [h.spr])]
 ·rfl
 ·have c:=ao hi
  generalize rs[i]=r at c
  obtain ⟨j,b2,n,o⟩:=QV c
  have d:((i:Int) < (rs.length:Int)):=by omega
  have g:=Zb h c
  have b:aa .sub (.int .i64 (l.length:Int)) (.int .i64 ((sprR (rs.take i)).length:Int))=some (.int .i64 ((l.length - (sprR (rs.take i)).length:Nat):Int)):=qP (by omega) (by omega)
  have f: ¬(((l.length - (sprR (rs.take i)).length:Nat):Int) < (r.2:Int)):=by omega
  have a:=aa7 (l:=sprR (rs.take i)) (k:=ad r.2 r.1) (by omega) (by simp;omega)
  have e:NW (ad r.2 r.1)= .lst (ad r.2 [.int .u64 (r.1:Int)]):=by simp [eU]
  rw [e] at a
  have m:sprR (rs.take (i+1))=sprR (rs.take i)++ad r.2 r.1:=by rw [bt c];simp [sprR]
  unfold tg
  simp only [af,ai,al,d,decide_true,ah,ab,j,b2,eRn,cx,a2,b,aW,f,decide_false,ag,aaj (show r.2 < 2 ^ 16 by omega),a,au (show i < 2 ^ 62 by omega),m]
theorem acE {l:List Nat} {rs:List Rn} (h:OkR l rs) {i:Nat} {r:Rn} (hr:rs[i]? =some r):(sprR (rs.drop i)).length=r.2+(sprR (rs.drop (i+1))).length:=by
 have hi:=(aB.1 hr).1
 rw [bA hi,(aB.1 hr).2]
 simp only [sprR,bC,bd,bb]
theorem afS {l:List Nat} {rs:List Rn} (h:OkR l rs) (i:Nat):(sprR (rs.drop i)).length<=l.length:=by
 have:(sprR (rs.drop i)).length<=(sprR rs).length:=by
  conv=>rhs;rw [<-b7 i rs]
  unfold sprR
  rw [cO,bd]
  exact Nat.le_add_left _ _
 rw [h.spr] at this;exact this
theorem BD {l:List Nat} (hl:l.length<=4096) (h: ∀x∈l,x < 2 ^ 64):kE (B (pL l)) (.int .i64 (l.length:Int))=some [NW l,.int .i64 0]:=by
 have hok:=Yq h
 have hlen:=hok.len
 have e0: ¬((l.length:Int) < 0):=by omega
 have A: ¬((4096:Int) < (l.length:Int)):=by omega
 have m:cq (B (pL l))=some [B (pL l),.int .i64 0]:=rfl
 unfold kE
 simp only [al,e0,decide_false,ab,ag,aW,A,m,af,ai]
 rw [ba (λi=>[B (((cR l).drop i).flatMap Vk),.int .i64 0,xr ((cR l).take i),.int .i64 ((sprR ((cR l).drop i)).length:Int)]) (cR l).length 0 [xr (cR l),.int .i64 0] (by simp [pL,hok.spr]) (by omega) (λi hi=> ?_) (by
  unfold uf
  simp [qT,sprR])]
 ·have C:aa .gtr (.int .i64 0) (.int .i64 0)=some (.bool false):=rfl
  simp only [ab,aJ,af,ai,C,ag,NG hok (show l.length < 2 ^ 16 by omega)]
 ·have g:=ao hi
  generalize (cR l)[i]=r at g
  have hm:=a6 g
  have G:=s7 (f:=Vk) g
  have hv:=hok.val r hm
  have hc:=hok.cmax (by omega) r hm
  have F:=hok.cnt r hm
  have s:=yA hv (bw r.2++((cR l).drop (i+1)).flatMap Vk)
  have t:=yA (n:=r.2) (by omega) (((cR l).drop (i+1)).flatMap Vk)
  have hb:((cR l).drop i).flatMap Vk=bw r.1++(bw r.2++((cR l).drop (i+1)).flatMap Vk):=by rw [G];simp [Vk]
  have o:(0:Int) < ((((cR l).drop i).flatMap Vk).length:Int):=by
   rw [hb];have:=Gl r.1;simp;omega
  have hdr: ∀a b c:IV,([a,b,c]:List IV).drop 2=[c]:= λ_ _ _=>rfl
  have z:=acE hok g
  have y:=afS hok i
  have H: ¬((r.2:Int)=0):=by omega
  have I: ¬(((sprR ((cR l).drop i)).length:Int) < (r.2:Int)):=by omega
  have d:aa .sub (.int .i64 ((sprR ((cR l).drop i)).length:Int)) (.int .i64 (r.2:Int))=some (.int .i64 ((sprR ((cR l).drop (i+1))).length:Int)):=by
   rw [qP (by omega) (by omega)];congr 2;omega
  have e:=Sv (l:=(cR l).take i) (r:=r) (by simp;omega)
  simp only [eRn] at e
  have u:((cR l).take i).length=i:=by simp;omega
  have j:aa .neq (.int .i64 0) (.int .i64 0)=some (.bool false):=rfl
  rw [bt g]
  unfold uf
  simp only [af,ai,ay,az,qT,ab,aW,o,decide_true,ah]
  rw [hb]
  simp only [s,t,ab,af,ai,xR,j,ag,hdr,dP,H,aW,decide_false,fq (show (sprR ((cR l).drop i)).length < 2 ^ 64 by omega),I,cx,a2,u]
  rcases br i with h0 | h0
  ·subst h0
   have D:aa .sub (.int .i64 ((0:Nat):Int)) (.int .i64 1)=some (.int .i64 (-1)):=rfl
   have p:aa .geq (.int .i64 (-1)) (.int .i64 0)=some (.bool false):=rfl
   simp only [D,p,ab,ag,af,kQ (show r.2 < 2 ^ 63 by omega),d,e]
  ·have v:=ao (show i - 1 < (cR l).length by omega)
   generalize (cR l)[i - 1]=q at v
   have w:((cR l).take i)[i - 1]? =some q:=by rw [List.getElem?_take_of_lt (by omega)];exact v
   obtain ⟨c1,c2,c3,c4⟩:=QV w
   have j:=hok.adj (i - 1) q r v (by rw [show i - 1+1=i by omega];exact g)
   have k: ¬((q.1:Int)=(r.1:Int)):=by omega
   have p:aa .geq (.int .i64 ((i - 1:Nat):Int)) (.int .i64 0)=some (.bool true):=by rw [dw];simp
   have E:cA i (.int .i64 ((i - 1:Nat):Int))=some (i - 1):=e9 (by omega)
   simp only [s9 (i:=i) (by omega) h0,p,ab,ah,E,c3,dP,k,decide_false,ag,af,kQ (show r.2 < 2 ^ 63 by omega),d,e]
end Go.AM
namespace Go.AM
def eBl (b:Bool):List IV:=[.bool b]
abbrev tK (l:List Bool):IV:= .lst (l.map eBl)
theorem Y3 {l:List Bool} {i:Nat} {x:Bool} (h:l[i]? =some x):aK (tK l) (.int .i64 (i:Int)) 1=some i/\dU (tK l) i 0=some (.bool x):=
 ⟨ea h rfl (by decide),by rw [b8 h];rfl⟩
theorem adH {l k:List Bool} (hl:l.length < 2 ^ 20) (hk:k.length < 2 ^ 20):bU 1 1 (tK l) (tK k)=some (tK (l++k)):=by
 simp only [bU]
 rw [if_pos ⟨by simp;omega,by simp [eBl]⟩]
 simp
abbrev nI (ns:List Nat):List Int:=ns.map λ(n:Nat)=>(n:Int)
def sprB:Bool->List Nat->List Bool
 | _,[]=>[]
 | b,n::ns=>ad n b++sprB (!b) ns
def zE:Bool->List Bool->List Nat
 | _,[]=>[]
 | b,x::l=>if x=b then (match zE b l with | []=>[1] | n::ns=>(n+1)::ns) else 0::(match zE x l with | []=>[1] | n::ns=>(n+1)::ns)
theorem Tn: ∀(l:List Bool) (b:Bool),sprB b (zE b l)=l/\(∀n∈(zE b l).tail,1<=n)/\zE b l≠[0]
 | [],b=>⟨rfl,by simp [zE],by simp [zE]⟩
 | x::l,b=>by
   unfold zE
   by_cases h:x=b
   ·subst h
    obtain ⟨h1,h2,c⟩:=Tn l x
    rw [if_pos rfl]
    cases hl:zE x l with
    | nil=>rw [hl] at h1;simp only [sprB] at h1;subst h1;simp [sprB]
    | cons n ns=>
      rw [hl] at h1 h2
      simp only [sprB] at h1 ⊢
      refine ⟨by rw [c5,e7,h1],by simpa using h2,by simp⟩
   ·rw [if_neg h]
    have a:x= !b:=by cases x<;>cases b<;>simp_all
    obtain ⟨h1,h2,c⟩:=Tn l x
    cases hl:zE x l with
    | nil=>rw [hl] at h1;simp only [sprB] at h1;subst h1;simp [sprB,a]
    | cons n ns=>
      rw [hl] at h1 h2
      simp only [sprB,List.replicate_zero,cv,<-a] at h1 ⊢
      refine ⟨by rw [c5,e7,h1],λm hm=> ?_,by simp⟩
      rcases e3.1 hm with rfl | hm
      ·omega
      ·exact h2 m hm
def L1 (i:Nat):Bool:=decide (i % 2=1)
theorem AW (i:Nat):L1 (i+1)= !L1 i:=by unfold L1;by_cases h:i % 2=1<;>simp [h]<;>omega
theorem Qq: ∀(ns:List Nat) (b:Bool) (i n:Nat),ns[i]? =some n->sprB b (ns.take (i+1))=sprB b (ns.take i)++ad n (b ^^ L1 i)
 | [],_,_,_,h=>by simp at h
 | m::ns,b,0,n,h=>by simp at h;subst h;simp [sprB,L1]
 | m::ns,b,i+1,n,h=>by
   have ih:=Qq ns (!b) i n (by simpa using h)
   simp only [List.take_succ_cons,sprB]
   rw [ih,<-bO,AW]
   congr 2
   cases b<;>cases L1 i<;>rfl
theorem FG: ∀(ns:List Nat) (b:Bool),(sprB b ns).length=ns.sum
 | [],_=>rfl
 | n::ns,b=>by simp [sprB,FG ns]
theorem Aw {ns:List Nat} {i n:Nat} (h:ns[i]? =some n):(ns.drop i).sum=n+(ns.drop (i+1)).sum:=by
 have hi:=(aB.1 h).1
 rw [bA hi,(aB.1 h).2];simp
theorem BR (ns:List Nat) (i:Nat):(ns.take i).sum+(ns.drop i).sum=ns.sum:=by
 conv=>rhs;rw [<-b7 i ns]
 rw [List.sum_append]
structure OkB (l:List Bool) (ns:List Nat):Prop where
 spr:sprB false ns=l
 pos: ∀i n,ns[i]? =some n->0 < i->1<=n
 one:ns≠[0]
theorem Fk (l:List Bool):OkB l (zE false l):=by
 obtain ⟨h1,h2,a⟩:=Tn l false
 refine ⟨h1,λi n hn h0=> ?_,a⟩
 refine h2 n ?_
 cases hl:zE false l with
 | nil=>rw [hl] at hn;simp at hn
 | cons m ms=>
   rw [hl] at hn
   obtain ⟨j,rfl⟩: ∃j,i=j+1:=⟨i - 1,by omega⟩
   exact a6 (by simpa using hn)
theorem OkB.sum {l:List Bool} {ns:List Nat} (h:OkB l ns):ns.sum=l.length:=by rw [<-h.spr,FG]
theorem OkB.len {l:List Bool} {ns:List Nat} (h:OkB l ns):ns.length<=l.length+1:=by
 rw [<-h.sum]
 cases ns with
 | nil=>simp
 | cons n ns=>
   have: ∀ns:List Nat,(∀n∈ns,1<=n)->ns.length<=ns.sum:=by
    intro ns
    induction ns with
    | nil=>simp
    | cons m ms ih=>intro hm;have:=ih λq a=>hm q (bB _ a);have:=hm m bs;simp;omega
   have:=this ns λm hm=>by
    obtain ⟨i,hi⟩:=bx.1 hm
    exact h.pos (i+1) m (by simpa using hi) (by omega)
   simp;omega
theorem OkB.rest {l:List Bool} {ns:List Nat} (h:OkB l ns) {i:Nat} (hi:i < ns.length):0 < (ns.drop i).sum:=by
 have a:=ao hi
 generalize ns[i]=n at a
 rw [Aw a]
 by_cases h0:0 < i
 ·have:=h.pos i n a h0;omega
 ·obtain rfl:i=0:=by omega
  by_cases hn:n=0
  ·subst hn
   cases ns with
   | nil=>simp at hi
   | cons m ms=>
     simp at a;subst a
     cases ms with
     | nil=>exact absurd rfl h.one
     | cons k ks=>have:=h.pos 1 k rfl (by omega);simp;omega
  ·omega
theorem X5 {l:List Bool} (hl:l.length < 2 ^ 16) (b:Bool):ff (tK l) (.bool b)=some [.int .i64 (QT (λx=>b==x) l)]:=by
 unfold ff
 simp only [aw,ab,a2]
 rw [lP (λi=>[.int .i64 (i:Int)]) (λx=>b==x) 1 (λi=>[.int .i64 (i:Int)]) 0 [] l (by simp) (by have:=aI;omega) (λi x c=> ?_) (by
  unfold lV
  simp)]
 ·unfold QT
  cases l.findIdx? λx=>b==x with
  | none=>rfl
  | some i=>rfl
 ·obtain ⟨d,e⟩:=Y3 c
  have a:((i:Int) < (l.length:Int)):=by have:=(aB.1 c).1;omega
  unfold lV
  simp only [af,al,a,decide_true,ah,ab,d,e,aao,cm,au (show i < 2 ^ 62 by omega)]
  by_cases h:(b==x)=true<;>simp [h]
theorem afW {n:Nat} {b:Bool} {ns:List Nat} (a: ∀m∈ns,1<=m):QT (λx=>(!b)==x) (sprB b (n::ns))=if ns=[] then -1 else (n:Int):=by
 have h1: ∀k:Nat,(ad k b).findIdx? (λx=>(!b)==x)=none:= λk=>by
  rw [List.findIdx?_eq_none_iff]
  intro x c
  rw [List.eq_of_mem_replicate c];cases b<;>rfl
 unfold QT
 simp only [sprB,List.findIdx?_append,h1]
 cases ns with
 | nil=>simp [sprB]
 | cons m ms=>
   obtain ⟨k,hk⟩: ∃k,m=k+1:=⟨m - 1,by have:=a m bs;omega⟩
   subst hk
   simp [sprB,c5,List.findIdx?_cons]
theorem abv {l:List Bool} {i:Nat} (hi:i<=l.length):kN 1 (tK l) (some (.int .i64 (i:Int))) none=some (tK (l.drop i)):=by
 simp only [kN]
 rw [if_pos (by simp [eBl])]
 simp only [a2,Bn hi,ab]
 rw [<-List.map_drop,<-List.map_take,b4 (by simp)]
theorem Gu {l:List Bool} (hl:l.length < 2 ^ 15):jT (tK l)=some [bu (nI (zE false l))]:=by
 have hok:=Fk l
 generalize zE false l=ns at hok
 have hlen:=hok.len
 have p:=hok.sum
 unfold jT
 rw [ba (λi=>[tK (sprB (L1 i) (ns.drop i)),bu (nI (ns.take i)),.bool (!L1 i)]) ns.length 0 [bu (nI ns)] (by simp [L1,hok.spr]) (by omega) (λi hi=> ?_) (by
  unfold qc
  simp [sprB])]
 ·rfl
 ·have o:=ao hi
  have g:ns.drop i=ns[i]::ns.drop (i+1):=bA hi
  generalize ns[i]=n at o g
  have t:=BR ns i
  have k:=Aw o
  have hr:=hok.rest hi
  have s:(sprB (L1 i) (ns.drop i)).length=(ns.drop i).sum:=FG _ _
  have f:(0:Int) < ((sprB (L1 i) (ns.drop i)).length:Int):=by omega
  have c: ∀m∈ns.drop (i+1),1<=m:= λm hm=>by
   obtain ⟨j,hj⟩:=bx.1 hm
   rw [List.getElem?_drop] at hj
   exact hok.pos _ m hj (by omega)
  have e:=X5 (l:=sprB (L1 i) (ns.drop i)) (by omega) (!L1 i)
  rw [g,afW c,<-g] at e
  have d:=qq (l:=nI (ns.take i)) (n:=(n:Int)) (by simp;omega)
  have q:nI (ns.take (i+1))=(nI (ns.take i))++[(n:Int)]:=by rw [bt o];simp
  have b:(sprB (L1 i) (ns.drop i)).drop n=sprB (L1 (i+1)) (ns.drop (i+1)):=by
   rw [g,AW];simp only [sprB];rw [List.drop_left' (by simp)]
  have a:=abv (l:=sprB (L1 i) (ns.drop i)) (i:=n) (by omega)
  rw [b] at a
  unfold qc
  simp only [af,ai,ay,aw,a2,ab,aW,f,decide_true,ah,aX,Bool.not_not,e,al,q]
  by_cases hn:ns.drop (i+1)=[]
  ·have r:(sprB (L1 i) (ns.drop i)).length=n:=by rw [s,k,hn];rfl
   have h:decide ((-1:Int) < 0)=true:=rfl
   simp only [hn,if_true,h,ah,r,d,ab] at a ⊢
   rw [a,AW];simp
  ·have h: ¬((n:Int) < 0):=by omega
   simp only [hn,if_false,h,decide_false,ag,a,d,ab]
   rw [AW];simp
def r8 (l:List Bool):Byt:=(zE false l).flatMap bw
theorem OkB.max {l:List Bool} {ns:List Nat} (h:OkB l ns) {i n:Nat} (hn:ns[i]? =some n):n<=l.length:=by
 have h1:=BR ns i;have h2:=Aw hn;rw [h.sum] at h1;omega
theorem D2 {l:List Bool} (hl:l.length < 2 ^ 15):(r8 l).length<=10*(l.length+1):=by
 have hok:=Fk l
 have h1:=k9 (f:=bw) (l:=zE false l) (k:=10) λn hn=>by
  obtain ⟨i,hi⟩:=bx.1 hn
  exact bI (by have:=hok.max hi;omega)
 have h2:=hok.len
 unfold r8;omega
theorem Kr {l:List Bool} (hl:l.length < 2 ^ 15):mi (tK l)=some [B (r8 l)]:=by
 have hok:=Fk l
 unfold mi
 simp only [Gu hl,ab,af,aw,a2]
 unfold r8
 generalize zE false l=ns at hok
 have hlen:=hok.len
 rw [ba (λi=>[.nilp,.lst (((ns.take i).flatMap bw).map eB),.int .i64 (i:Int)]) ns.length 0 [.nilp,.lst ((ns.flatMap bw).map eB)] (by simp) (by omega) (λi hi=> ?_) (by
  unfold se
  simp)]
 ·simp only [ab,aJ,ai,pc];rfl
 ·have c:=ao hi
  generalize ns[i]=n at c
  have q:=hok.max c
  have h:(nI ns)[i]? =some (n:Int):=by rw [ds,c];rfl
  obtain ⟨_,o,b2,p⟩:=oS h
  have e:((i:Int) < (ns.length:Int)):=by omega
  have d:=k9 (f:=bw) (l:=ns.take i) (k:=10) λm hm=>by
   obtain ⟨j,hj⟩:=bx.1 (b0 hm)
   exact bI (by have:=hok.max hj;omega)
  have r:=bI (n:=n) (by omega)
  simp only [cb] at d
  have g:=xI (x:= .nilp) (a:=(ns.take i).flatMap bw) (b:=bw n) (by omega)
  unfold se
  simp only [af,ai,ay,al,e,decide_true,ah,ab,o,p,fq (show n < 2 ^ 64 by omega),fu (show n < 2 ^ 64 by omega),g,au (show i < 2 ^ 62 by omega),qy c]
theorem Jp {l:List Bool} {ns:List Nat} (h:OkB l ns) (hl:l.length < 2 ^ 15):ln (bu (nI ns)) (.int .i64 (l.length:Int))=some [tK l,.bool true]:=by
 have hlen:=h.len
 have e0: ¬((l.length:Int) < 0):=by omega
 have d:((aa .eql (.int .i64 ((ns.length:Nat):Int)) (.int .i64 1)).bind λv3=>
   ae v3 (λ_=>(aK (bu (nI ns)) (.int .i64 0) 1).bind λv4=>(dU (bu (nI ns)) v4 0).bind λw=>(aa .eql w (.int .i64 0)).bind λv6=>some [v6]) (λ_=>some [.bool false]))=some [.bool false]:=by
  rw [dP,ab]
  by_cases h1:ns.length=1
  ·obtain ⟨n,rfl⟩:=List.length_eq_one_iff.1 h1
   have q:n≠0:= λe=>h.one (by rw [e])
   obtain ⟨_,o,b2,m⟩:=oS (l:=[(n:Int)]) (i:=0) (x:=(n:Int)) rfl
   have a:aK (bu [(n:Int)]) (.int .i64 0) 1=some 0:=o
   have h2: ¬((n:Int)=0):=by omega
   simp only [ca,List.length_nil,List.map_cons,List.map_nil] at a m ⊢
   simp [a,m,q]
  ·have: ¬((ns.length:Int)=1):=by omega
   simp [this]
 unfold ln
 simp only [al,e0,decide_false,ab,ag,aw,a2]
 rw [d]
 simp only [ab,af,ag]
 rw [ba (λi=>[tK (sprB false (ns.take i)),.bool (!L1 i),.int .i64 (i:Int)]) ns.length 0 [tK l] (by simp [sprB,L1]) (by omega) (λi hi=> ?_) (by
  unfold sf
  simp [h.spr])]
 ·rfl
 ·have j:=ao hi
  generalize ns[i]=n at j
  have t:(nI ns)[i]? =some (n:Int):=by rw [ds,j];rfl
  obtain ⟨_,o,b2,m⟩:=oS t
  have p:((i:Int) < (ns.length:Int)):=by omega
  have y:(sprB false (ns.take i)).length=(ns.take i).sum:=FG _ _
  have s:=BR ns i
  have v:=Aw j
  rw [h.sum] at s
  have c: ¬((n:Int) < min (i:Int) 1):=by
   by_cases h0:0 < i
   ·have:=h.pos i n j h0;omega
   ·omega
  have g:aa .sub (.int .i64 (l.length:Int)) (.int .i64 ((sprB false (ns.take i)).length:Int))=some (.int .i64 ((l.length - (sprB false (ns.take i)).length:Nat):Int)):=qP (by omega) (by omega)
  have r: ¬(((l.length - (sprB false (ns.take i)).length:Nat):Int) < (n:Int)):=by omega
  have f:=XK (x:= .bool (L1 i)) (n:=n) (by omega)
  have b:=adH (l:=sprB false (ns.take i)) (k:=ad n (L1 i)) (by omega) (by simp;omega)
  have e:tK (ad n (L1 i))= .lst (ad n [.bool (L1 i)]):=by simp [eBl]
  rw [e] at b
  have u:=Qq ns false i n j
  rw [Bool.false_xor] at u
  unfold sf
  simp only [af,ai,ay,al,p,decide_true,ah,ab,o,m,ad8,c,decide_false,ag,cx,a2,g,aW,r,aX,Bool.not_not,f,b,au (show i < 2 ^ 62 by omega),u,AW]
theorem Kb {l:List Bool} (hl:l.length<=4096):mg (B (r8 l)) (.int .i64 (l.length:Int))=some [tK l,.int .i64 0]:=by
 have hok:=Fk l
 unfold r8
 generalize zE false l=ns at hok
 have hlen:=hok.len
 have e0: ¬((l.length:Int) < 0):=by omega
 have k: ¬((4096:Int) < (l.length:Int)):=by omega
 have g:cq (B (ns.flatMap bw))=some [B (ns.flatMap bw),.int .i64 0]:=rfl
 unfold mg
 simp only [al,e0,decide_false,ab,ag,aW,k,g,af,ai]
 rw [ba (λi=>[B ((ns.drop i).flatMap bw),.int .i64 0,bu (nI (ns.take i)),.int .i64 ((ns.drop i).sum:Int)]) ns.length 0 [bu (nI ns),.int .i64 0] (by simp [hok.sum]) (by omega) (λi hi=> ?_) (by
  unfold rV
  simp [qT])]
 ·have t:aa .gtr (.int .i64 0) (.int .i64 0)=some (.bool false):=rfl
  simp only [ab,aJ,af,ai,t,ag,Jp hok (show l.length < 2 ^ 15 by omega),aX,Bool.not_true]
 ·have e:=ao hi
  generalize ns[i]=n at e
  have s:=s7 (f:=bw) e
  have u:=hok.max e
  have m:=yA (n:=n) (by omega) ((ns.drop (i+1)).flatMap bw)
  have h:(0:Int) < (((ns.drop i).flatMap bw).length:Int):=by
   rw [s];have:=Gl n;simp;omega
  have hdr: ∀a b c:IV,([a,b,c]:List IV).drop 2=[c]:= λ_ _ _=>rfl
  have r:=BR ns i
  have v:=Aw e
  rw [hok.sum] at r
  have w: ¬(((ns.drop i).sum:Int) < (n:Int)):=by omega
  have j:aa .sub (.int .i64 ((ns.drop i).sum:Int)) (.int .i64 (n:Int))=some (.int .i64 ((ns.drop (i+1)).sum:Int)):=by
   rw [qP (by omega) (by omega)];congr 2;omega
  have o:=qq (l:=nI (ns.take i)) (n:=(n:Int)) (by simp;omega)
  have k:nI (ns.take (i+1))=(nI (ns.take i))++[(n:Int)]:=by rw [bt e];simp
  have q:aa .neq (.int .i64 0) (.int .i64 0)=some (.bool false):=rfl
  have p:(ns.take i).length=i:=by simp;omega
  unfold rV
  simp only [af,ai,ay,az,qT,ab,aW,h,decide_true,ah]
  rw [s]
  simp only [m,ab,af,ai,xR,q,ag,hdr,fq (show (ns.drop i).sum < 2 ^ 64 by omega),aW,w,decide_false,dP,cx,a2,p,k]
  have d:(ae (.bool (decide ((n:Int)=0))) (λ_=>some [IV.bool (decide ((0:Int) < (i:Int)))]) (λ_=>some [IV.bool false]))=some [IV.bool false]:=by
   by_cases hn:n=0
   ·have h0: ¬(0 < i):= λh0=>by have:=hok.pos i n e h0;omega
    simp [hn];omega
   ·simp [hn]
  simp only [d,ab,af,ag,kQ (show n < 2 ^ 63 by omega),j,o]
def Oe (l:List Bool):Nat:=(l.filter λb=>b).length
theorem MV {l:List Bool} (hl:l.length < 2 ^ 16):nt (tK l)=some [.int .i64 (Oe l:Int)]:=by
 unfold nt
 simp only [aw,ab,a2]
 rw [ba (λi=>[.int .i64 (Oe (l.take i):Int),.int .i64 (i:Int)]) l.length 0 [.int .i64 (Oe l:Int)] (by simp [Oe]) (by omega) (λi hi=> ?_) (by
  unfold tw
  simp)]
 ·rfl
 ·have c:=ao hi
  generalize l[i]=b at c
  obtain ⟨d,e⟩:=Y3 c
  have a:((i:Int) < (l.length:Int)):=by omega
  have hc:Oe (l.take i)<=i:=by
   unfold Oe
   exact Nat.le_trans (List.length_filter_le _ _) (by simp;omega)
  unfold tw
  simp only [af,ai,al,a,decide_true,ah,ab,d,e,au (show i < 2 ^ 62 by omega),au (show Oe (l.take i) < 2 ^ 62 by omega),bt c]
  cases b<;>simp [Oe]
end Go.AM
namespace Go.AM
def W6 (k m u:Nat):Nat:=u / 2 ^ k&&&m|||(u&&&m)*2 ^ k
def rho (k i:Nat):Nat:=if i / k % 2=0 then i+k else i - k
theorem Y4 {k m u i:Nat} (hk:k=8\/k=16) (hm: ∀i:Fin 64,m.testBit i=decide (i.val / k % 2=0)) (hi:i < 64):(W6 k m u).testBit i=u.testBit (rho k i):=by
 have h1:=hm ⟨i,hi⟩
 simp only at h1
 unfold W6 rho
 rw [<-dd,<-e8,fz,fc,ek,eP,fc,h1]
 by_cases hb:i / k % 2=0
 ·have:(decide (i>=k)&&(u.testBit (i - k)&&m.testBit (i - k)))=false:=by
   by_cases a:i>=k
   ·have h2:=hm ⟨i - k,by omega⟩
    simp only at h2
    rw [h2,show decide ((i - k) / k % 2=0)=false from decide_eq_false (by rcases hk with rfl | rfl<;>omega),Bool.and_false,Bool.and_false]
   ·rw [decide_eq_false a,Bool.false_and]
  rw [this,if_pos hb,decide_eq_true hb,Bool.and_true,Bool.or_false,et]
 ·have a:i>=k:=by rcases hk with rfl | rfl<;>omega
  have h2:=hm ⟨i - k,by omega⟩
  simp only at h2
  rw [if_neg hb,decide_eq_false hb,Bool.and_false,Bool.false_or,h2,decide_eq_true a,Bool.true_and,decide_eq_true (by rcases hk with rfl | rfl<;>omega),Bool.and_true]
theorem Ts {k m u:Nat} (h:m*2 ^ k < 2 ^ 64):W6 k m u < 2 ^ 64:=by
 have hp:1<=2 ^ k:=fl k
 have hm:m < 2 ^ 64:=a7 (by simpa using eZ m hp) h
 refine e5 (a7 cd hm) (a7 (ck _ cd) h)
abbrev m8:Nat:=71777214294589695
abbrev m16:Nat:=281470681808895
def o4 (u:Nat):Nat:=W6 16 m16 (W6 8 m8 u) / 2 ^ 32|||W6 16 m16 (W6 8 m8 u)*2 ^ 32 % 2 ^ 64
theorem ae2: ∀i:Fin 64,m8.testBit i=decide (i.val / 8 % 2=0):=by decide+kernel
theorem adC: ∀i:Fin 64,m16.testBit i=decide (i.val / 16 % 2=0):=by decide+kernel
theorem tM (u:Nat):o4 u < 2 ^ 64:=by
 have h:=Ts (k:=16) (m:=m16) (u:=W6 8 m8 u) (by decide)
 exact e5 (a7 (fr _ _) h) (Nat.mod_lt _ (by decide))
def abD (i:Nat):Nat:=rho 8 (rho 16 (if i < 32 then i+32 else i - 32))
theorem QR {u i:Nat} (hi:i < 64):(o4 u).testBit i=u.testBit (abD i):=by
 have h:=Ts (k:=16) (m:=m16) (u:=W6 8 m8 u) (by decide)
 have key:(o4 u).testBit i=(W6 16 m16 (W6 8 m8 u)).testBit (if i < 32 then i+32 else i - 32):=by
  unfold o4
  generalize W6 16 m16 (W6 8 m8 u)=b at h
  rw [<-dd,<-e8,fz,ek,Nat.testBit_mod_two_pow,eP,decide_eq_true hi,Bool.true_and]
  by_cases hl:i < 32
  ·rw [if_pos hl,decide_eq_false (show ¬i>=32 by omega),Bool.false_and,Bool.or_false,et]
  ·rw [if_neg hl,decide_eq_true (show i>=32 by omega),Bool.true_and,b5 (show b < 2 ^ (32+i) from c6 h (ch (by decide) (by omega))),Bool.false_or]
 have hj:(if i < 32 then i+32 else i - 32) < 64:=by split<;>omega
 rw [key]
 unfold abD
 generalize (if i < 32 then i+32 else i - 32)=j at hj
 have hk:rho 16 j < 64:=by unfold rho;split<;>omega
 rw [Y4 (.inr rfl) adC hj,Y4 (.inl rfl) ae2 hk]
theorem ac4: ∀i:Fin 64,abD i.val < 64/\abD (abD i.val)=i.val:=by decide+kernel
theorem swap_swap {u:Nat} (h:u < 2 ^ 64):o4 (o4 u)=u:=by
 apply Nat.eq_of_testBit_eq
 intro i
 by_cases hi:i < 64
 ·obtain ⟨h1,h2⟩:=ac4 ⟨i,hi⟩
  simp only at h1 h2
  rw [QR hi,QR h1,h2]
 ·have hp:2 ^ 64<=2 ^ i:=ch (by decide) (by omega)
  rw [b5 (c6 (tM _) hp),b5 (c6 h hp)]
theorem ab9 {k m u:Nat} (hu:u < 2 ^ 64) (hk:k<=64) (h:m*2 ^ k < 2 ^ 64):aa .shr (.int .u64 (u:Int)) (.int .u64 (k:Int))=some (.int .u64 ((u / 2 ^ k:Nat):Int))/\aa .and (.int .u64 ((u / 2 ^ k:Nat):Int)) (.int .u64 (m:Int))=some (.int .u64 ((u / 2 ^ k&&&m:Nat):Int))/\aa .and (.int .u64 (u:Int)) (.int .u64 (m:Int))=some (.int .u64 ((u&&&m:Nat):Int))/\
  aa .shl (.int .u64 ((u&&&m:Nat):Int)) (.int .u64 (k:Int))=some (.int .u64 (((u&&&m)*2 ^ k:Nat):Int))/\aa .or (.int .u64 ((u / 2 ^ k&&&m:Nat):Int)) (.int .u64 (((u&&&m)*2 ^ k:Nat):Int))=some (.int .u64 (W6 k m u:Int)):=by
 have hp:1<=2 ^ k:=fl k
 have hm:m < 2 ^ 64:=a7 (by simpa using eZ m hp) h
 have h1:u / 2 ^ k < 2 ^ 64:=a7 (fr _ _) hu
 have h2:(u&&&m)*2 ^ k < 2 ^ 64:=a7 (ck _ cd) h
 exact ⟨mC hk,qj h1 hm,qj hu hm,xp hk h2,tN (a7 cd hm) h2⟩
theorem C6 {u:Nat} (h:u < 2 ^ 64):mF (.int .u64 (u:Int))=some [.int .u64 (o4 u:Int)]:=by
 obtain ⟨c,d,a3,a4,e⟩:=ab9 (k:=8) (m:=m8) h (by decide) (by decide)
 have h1:=Ts (k:=8) (m:=m8) (u:=u) (by decide)
 obtain ⟨f,b2,g,i,j⟩:=ab9 (k:=16) (m:=m16) h1 (by decide) (by decide)
 have h2:=Ts (k:=16) (m:=m16) (u:=W6 8 m8 u) (by decide)
 unfold mF
 rw [show (8:Int)=((8:Nat):Int) from rfl,show (16:Int)=((16:Nat):Int) from rfl,show (71777214294589695:Int)=((m8:Nat):Int) from rfl,show (281470681808895:Int)=((m16:Nat):Int) from rfl]
 simp only [c,d,a3,a4,e,f,b2,g,i,j,ab]
 unfold o4
 generalize W6 16 m16 (W6 8 m8 u)=b at h2
 have c1:aa .shr (.int .u64 (b:Int)) (.int .u64 32)=some (.int .u64 ((b / 2 ^ 32:Nat):Int)):=mC (b:=32) (by decide)
 have c2:aa .shl (.int .u64 (b:Int)) (.int .u64 32)=some (.int .u64 ((b*2 ^ 32 % 2 ^ 64:Nat):Int)):=by
  simp only [aa]
  rw [if_neg (by omega)]
  show some (IV.int .u64 (bM.wrap ((b:Int)*2 ^ 32)))=_
  rw [aco];congr 2
 have c3:=tN (a:=b / 2 ^ 32) (b:=b*2 ^ 32 % 2 ^ 64) (by omega) (by omega)
 simp only [c1,c2,c3,ab,xg,cX,b3]
theorem Qk {a b:Nat} (c:a < 2 ^ 64) (hb:b < 2 ^ 64):aa .xor (.int .u64 (a:Int)) (.int .u64 (b:Int))=some (.int .u64 ((a ^^^ b:Nat):Int)):=by
 simp only [aa,cg,if_true]
 have:(a1 bM.bits (a:Int) ^^^ a1 bM.bits (b:Int)).toNat=a ^^^ b:=by
  show (a1 64 (a:Int) ^^^ a1 64 (b:Int)).toNat=_
  rw [BitVec.toNat_xor,bR,bR,b1,b1,bm c,bm hb]
 rw [this,yX (c7 c hb)]
def eFl (w:Nat):List IV:=[.flt .f64 w]
abbrev qx (l:List Nat):IV:= .lst (l.map eFl)
theorem Vf {l:List Nat} {i:Nat} {x:Nat} (h:l[i]? =some x):aK (qx l) (.int .i64 (i:Int)) 1=some i/\dU (qx l) i 0=some (.flt .f64 x):=
 ⟨ea h rfl (by decide),by rw [b8 h];rfl⟩
theorem FJ {l:List Nat} {x:Nat} (hl:l.length < 2 ^ 20):bU 1 8 (qx l) (.lst [[.flt .f64 x]])=some (qx (l++[x])):=by
 simp only [bU]
 rw [if_pos ⟨by simp;omega,by simp⟩]
 simp [eFl]
structure CanW (w:Nat):Prop where
 lt:w < 2 ^ 64
 can:bitsN w=w
def FT:Nat->List Nat->List Nat
 | _,[]=>[]
 | a,n::ns=>(n ^^^ a)::FT n ns
theorem zZ: ∀(a:Nat) (ns:List Nat),(FT a ns).length=ns.length
 | _,[]=>rfl
 | a,n::ns=>by simp [FT,zZ n ns]
theorem TV: ∀(i x:Nat) (ns:List Nat) (a:Nat),ns[i]? =some x->(FT a ns)[i]? =some (x ^^^ (a::ns).getD i 0)
 | 0,x,[],a,h=>by simp at h
 | 0,x,n::ns,a,h=>by simp at h;subst h;rfl
 | i+1,x,[],a,h=>by simp at h
 | i+1,x,n::ns,a,h=>by
   have:=TV i x ns n (by simpa using h)
   simpa [FT] using this
def rN (ns:List Nat):Byt:=(FT 0 ns).flatMap λu=>bw (o4 u)
theorem Ec {ns:List Nat}:(rN ns).length<=10*ns.length:=by
 have:=k9 (l:=FT 0 ns) (f:= λu=>bw (o4 u)) (k:=10) λx _=>bI (tM x)
 rw [zZ] at this;exact this
theorem prev_lt {ns:List Nat} (h: ∀n∈ns,CanW n) (i:Nat):(0::ns).getD i 0 < 2 ^ 64:=by
 rw [a8]
 cases a:(0::ns)[i]? with
 | none=>simp
 | some x=>
   rcases e3.1 (a6 a) with rfl | hm
   ·simp
   ·exact (h x hm).lt
theorem J4 {ns:List Nat} (hl:ns.length < 2 ^ 16) (h: ∀n∈ns,CanW n):lF (qx ns)=some [B (rN ns)]:=by
 unfold lF
 simp only [aw,ab,a2]
 rw [ba (λi=>[.int .u64 ((0::ns).getD i 0:Nat),.clo (.func fJ) [],.nilp,.lst ((((FT 0 ns).take i).flatMap λu=>bw (o4 u)).map eB),.int .i64 (i:Int)]) ns.length 0 [.nilp,.lst ((rN ns).map eB)] (by simp) (by omega) (λi hi=> ?_) (by
  unfold rP
  simp only [af,ai,ay,az,bH,al,decide_false,ab,Int.lt_irrefl,ag]
  rw [b4 (by rw [zZ];exact b6 _)];rfl)]
 ·simp only [ab,aJ,ai,pc];rfl
 ·have c:=ao hi
  generalize ns[i]=w at c
  obtain ⟨q,r⟩:=Vf c
  have hc:=h w (a6 c)
  have hp:=prev_lt h i
  have j:((i:Int) < (ns.length:Int)):=by omega
  have v:=TV i w ns 0 c
  have t:(0::ns).getD (i+1) 0=w:=by simp [a8,c]
  have p:=sN hc.lt
  rw [hc.can] at p
  have d:=c7 hc.lt hp
  have s:da (.clo (.func fJ) []) [1] [[.int .u64 (w:Int)],[.int .u64 ((w ^^^ (0::ns).getD i 0:Nat):Int)]]=some [.int .u64 (w:Int)]:=rfl
  have e:=k9 (f:= λu=>bw (o4 u)) (l:=(FT 0 ns).take i) (k:=10) λm _=>bI (tM m)
  simp only [cb] at e
  have y:=bI (tM (w ^^^ (0::ns).getD i 0))
  have o:=xI (x:= .nilp) (a:=((FT 0 ns).take i).flatMap λu=>bw (o4 u)) (b:=bw (o4 (w ^^^ (0::ns).getD i 0))) (by omega)
  have g:=qy (f:= λu=>bw (o4 u)) v
  simp only [t,g]
  unfold rP
  simp only [af,ai,ay,az,bH,al,j,decide_true,ah,ab,q,r,p,Qk hc.lt hp,s,C6 d,fu (tM _),o,au (show i < 2 ^ 62 by omega)]
theorem On {w:Nat} (h:CanW w):po (.int .u64 (w:Int))=some [.bool true]:=by
 have c:=h.lt
 have s1:aa .shr (.int .u64 (w:Int)) (.int .u64 52)=some (.int .u64 ((w / 2 ^ 52:Nat):Int)):=mC (b:=52) (by decide)
 have s2:aa .and (.int .u64 ((w / 2 ^ 52:Nat):Int)) (.int .u64 2047)=some (.int .u64 ((w / 2 ^ 52 % 2048:Nat):Int)):=KF (w:=w / 2 ^ 52) (by omega) (k:=11) (by decide)
 have s4:aa .and (.int .u64 (w:Int)) (.int .u64 4503599627370495)=some (.int .u64 ((w % 2 ^ 52:Nat):Int)):=KF (w:=w) c (k:=52) (by decide)
 unfold po
 simp only [s1,s2,s4,ab,di,dP]
 have hc:=h.can
 unfold bitsN at hc
 by_cases h1:w / 2 ^ 52 % 2048=2047
 ·by_cases h2:w % 2 ^ 52=0
  ·have a:(((w / 2 ^ 52 % 2048:Nat):Int)=2047):=by omega
   have d:(((w % 2 ^ 52:Nat):Int)=0):=by omega
   simp only [a,d,ne_eq,not_true_eq_false,decide_false,ag,decide_true,ah,ab,af,df,cX,b3]
  ·rw [if_pos (by show 2047*2 ^ 52 < w % 2 ^ 63;omega)] at hc
   subst hc;rfl
 ·have a: ¬(((w / 2 ^ 52 % 2048:Nat):Int)=2047):=by omega
  simp only [a,ne_eq,not_false_eq_true,decide_true,ah,ab,af,df,cX,b3]
theorem Jr {ns:List Nat} (hl:ns.length < 2 ^ 16) (h: ∀n∈ns,CanW n):lL (B (rN ns)) (.int .i64 (ns.length:Int))=some [qx ns,.int .i64 0]:=by
 have e0: ¬((ns.length:Int) < 0):=by omega
 have r: ¬(((rN ns).length:Int) < (ns.length:Int)):=by
  have:=So (l:=FT 0 ns) (f:= λu=>bw (o4 u)) λx _=>Gl _
  rw [zZ] at this
  unfold rN;omega
 have g:cq (B (rN ns))=some [B (rN ns),.int .i64 0]:=rfl
 unfold lL
 simp only [al,e0,decide_false,ab,ag,jO,aW,r,g,af,ai]
 rw [ba (λi=>[.int .u64 ((0::ns).getD i 0:Nat),.clo (.func fO) [],B (((FT 0 ns).drop i).flatMap λu=>bw (o4 u)),.int .i64 0,qx (ns.take i),.int .i64 (i:Int)]) ns.length 0 [B [],.int .i64 0,qx ns] (by simp [rN]) (by omega) (λi hi=> ?_) (by
  unfold rY
  have e:(FT 0 ns).drop ns.length=[]:=eg (by rw [zZ];exact b6 _)
  simp [e])]
 ·simp only [ab,aJ,af,ai,ay,KD]
  rfl
 ·have k:=ao hi
  generalize ns[i]=w at k
  have hc:=h w (a6 k)
  have hp:=prev_lt h i
  have o:((i:Int) < (ns.length:Int)):=by omega
  have y:=TV i w ns 0 k
  have v:(0::ns).getD (i+1) 0=w:=by simp [a8,k]
  have d:=c7 hc.lt hp
  have q:=yA (tM (w ^^^ (0::ns).getD i 0)) (((FT 0 ns).drop (i+1)).flatMap λu=>bw (o4 u))
  have t:=s7 (f:= λu=>bw (o4 u)) y
  rw [<-t] at q
  have j:=C6 (tM (w ^^^ (0::ns).getD i 0))
  rw [swap_swap d] at j
  have m:=Qk d hp
  rw [Nat.xor_assoc,Nat.xor_self,Nat.xor_zero] at m
  have s:cZ (.clo (.func fO) []) [1] [[.int .u64 ((w ^^^ (0::ns).getD i 0:Nat):Int)],[.int .u64 (w:Int)]]=some [.int .u64 (w:Int)]:=rfl
  have hdr: ∀a b c:IV,([a,b,c]:List IV).drop 2=[c]:= λ_ _ _=>rfl
  have p:aa .neq (.int .i64 0) (.int .i64 0)=some (.bool false):=rfl
  simp only [v,bt k]
  unfold rY
  simp only [af,ai,ay,az,bH,bL,al,o,decide_true,ah,ab,q,hdr,j,m,s,xR,p,ag,On hc,aX,Bool.not_true,Oa hc.lt hc.can,FJ (show (ns.take i).length < 2 ^ 20 by simp;omega),au (show i < 2 ^ 62 by omega)]
end Go.AM
