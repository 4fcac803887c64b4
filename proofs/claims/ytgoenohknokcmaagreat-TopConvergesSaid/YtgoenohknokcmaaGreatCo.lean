/- Files, plainly: bytes; numbers of seven bits a byte. -/
import Derived.Test.YtgoenohknokcmaaGreatFf
open Option renaming bind_some->ab,map_some->b3,bind_assoc->e2
open List renaming replicate->ad,getElem?_eq_getElem->ao,getElem?_eq_some_iff->aB,length_map->a2,getElem?_append_left->a5,mem_of_getElem?->a6,getD_eq_getElem?_getD->a8,length_replicate->bb,length_append->bd,getElem?_append_right->bf,mem_cons_self->bs,mem_iff_getElem?->bx,drop_eq_getElem_cons->bA,mem_cons_of_mem->bB,flatMap_cons->bC,append_assoc->bO,mem_of_mem_take->b0,take_of_length_le->b4,take_append_drop->b7,length_cons->ca,length_take->cb,nil_append->cv,flatMap_append->cO,mem_append->c0,replicate_succ->c5,getLast?_eq_some_iff->c8,getLast?_eq_none_iff->c9,getElem?_map->ds,drop_eq_nil_of_le->ec,mem_append_left->et,mem_cons->e1,cons_append->e5,drop_zero->fl
open BitVec renaming ofInt->a1,ofInt_natCast->bR,toNat_ofNat->b1,xor_allOnes->eW,toNat_ofInt->eZ,toNat_not->e4,xor_zero->e7,allOnes->fq
open Nat renaming lt_of_le_of_lt->a7,mod_eq_of_lt->bm,eq_zero_or_pos->br,testBit_lt_two_pow->b5,le_refl->b6,min_eq_right->cc,and_le_right->cd,pow_le_pow_right->ch,mul_le_mul_right->ck,lt_of_lt_of_le->c6,xor_lt_two_pow->c7,shiftRight_eq_div_pow->dd,testBit_shiftRight->eg,add_comm->ek,testBit_shiftLeft->er,mul_le_mul_left->eP,or_lt_two_pow->e3,shiftLeft_eq->e6,zero_le->e8,testBit_and->fa,two_pow_pos->fb,div_le_self->fc,testBit_or->fr,sub_zero->fv,lt_or_ge->fH,mul_comm->gd
open Go.IntKind renaming u64->bM,i64->cl,u8->fs,wrap->fz
open Int renaming toNat_natCast->dq
set_option linter.unusedVariables false
set_option linter.unusedSimpArgs false
namespace Go.AM
abbrev Byt:=List UInt8
def B (l:Byt):IV:= .str ⟨l.toArray⟩
def eB (b:UInt8):List IV:=[.int .u8 b.toNat]
theorem af2 (s:ByteArray):IV.str s=B s.data.toList:=by unfold B;simp
theorem yz (l:Byt):(⟨l.toArray⟩:ByteArray).size=l.length:=by show l.toArray.size=_;simp
@[simp] theorem jR (l:Byt):gS (B l)=some (.int .i64 l.length):=by unfold B;rw [sT,yz]
theorem WS {l:Byt} {i:Nat} {b:UInt8} {k:IntKind} (h:l[i]? =some b):Gi (B l) (.int k (i:Int))=some (.int .u8 b.toNat):=by
 unfold B
 simp only [Gi,dq]
 rw [if_pos (by omega),aaY]
 simp [h]
theorem adX (l:Byt) (a b:Nat):(⟨l.toArray⟩:ByteArray).extract a b=⟨((l.drop a).take (b - a)).toArray⟩:=by
 have:((⟨l.toArray⟩:ByteArray).extract a b).data.toList=(l.drop a).take (b - a):=by
  simp [ByteArray.data_extract,List.extract_eq_take_drop]
 exact ByteArray.ext (Array.toList_inj.1 (this.trans rfl))
theorem zI {l:Byt} {i:Nat} {k:IntKind} (h:i<=l.length):fx (B l) (some (.int k (i:Int))) none=some (B (l.drop i)):=by
 unfold B
 simp only [fx,kV,TQ,yz,ab]
 rw [if_pos ⟨by omega,by omega⟩]
 simp only [ab,dq,adX]
 rw [b4 (by simp)]
theorem Af {l:Byt} {i:Nat} {k:IntKind} (h:i<=l.length):fx (B l) none (some (.int k (i:Int)))=some (B (l.take i)):=by
 unfold B
 simp only [fx,kV,TQ,yz,ab]
 rw [if_pos ⟨by omega,by omega⟩]
 simp only [ab,dq,adX,fl,fv]
theorem L5 {a b:Byt} (h:a.length+b.length < 2 ^ 60):aa .add (B a) (B b)=some (B (a++b)):=by
 unfold B
 simp only [aa,Ru,yz]
 rw [if_neg (by show ¬_ > (9223372036854775807:Int);omega)]
 congr 2
theorem oO (l:Byt):lH (.lst (l.map eB))=some (B l):=by
 have:(l.map eB).mapM A3=some l:=by
  induction l with
  | nil=>rfl
  | cons b l ih=>
    have hb:A3 (eB b)=some b:=by
     have:=b.toNat_lt
     simp only [A3,eB]
     rw [if_pos (by omega)]
     simp
    simp [List.mapM_cons,hb,ih]
 simp only [lH,this];rfl
theorem aa9 {l:Byt} {b:UInt8} {x:Int} (a:x=b.toNat) (h:l.length < 2 ^ 30):bX 1 1 (.lst (l.map eB)) (.lst [[.int .u8 x]])=some (.lst ((l++[b]).map eB)):=by
 subst a
 simp only [bX]
 rw [if_pos ⟨by simp;omega,by simp⟩]
 simp [eB]
def Gx (n:Nat):UInt8:=UInt8.ofNat n
theorem qc {n:Nat} (h:n < 256):(Gx n).toNat=n:=by unfold Gx;simp [UInt8.toNat_ofNat];omega
def bt (n:Nat):Byt:=if n < 128 then [Gx n] else Gx (n % 128+128)::bt (n / 128)
 termination_by n
theorem tp {n:Nat} (h:n < 128):bt n=[Gx n]:=by rw [bt,if_pos h]
theorem AF {n:Nat} (h: ¬n < 128):bt n=Gx (n % 128+128)::bt (n / 128):=by rw [bt,if_neg h]
theorem aaB {a:Nat}:fs.wrap (a:Int)=((a % 256:Nat):Int):=by
 unfold fz
 show (if (false&&decide (((a:Int) % (2 ^ 8:Int))>=(2 ^ 7:Int)))=true then ((a:Int) % (2 ^ 8:Int)) - (2 ^ 8:Int) else ((a:Int) % (2 ^ 8:Int)))=_
 simp
theorem SE (a:Nat) {k:IntKind}:bL .u8 (.int k (a:Int))=some (.int .u8 ((a % 256:Nat):Int)):=by simp only [bL,aaB]
theorem ad5 (a:Nat) (h:a < 256):aa .or (.int .u8 (a:Int)) (.int .u8 128)=some (.int .u8 ((a % 128+128:Nat):Int)):=by
 have: ∀a:Fin 256,(a1 8 ((a.val:Nat):Int)|||a1 8 128).toNat=a.val % 128+128:=by decide+kernel
 have e:=this ⟨a,h⟩
 simp only [aa,bZ,if_true]
 show some (IV.int .u8 (fs.wrap ((a1 8 (a:Int)|||a1 8 128).toNat:Int)))=_
 rw [e,aaB,bm (by omega)]
theorem aco (a:Nat) (h:a < 256):aa .andNot (.int .u8 (a:Int)) (.int .u8 128)=some (.int .u8 ((a % 128:Nat):Int)):=by
 have: ∀a:Fin 256,(a1 8 ((a.val:Nat):Int)&&& ~~~(a1 8 128)).toNat=a.val % 128:=by decide+kernel
 have e:=this ⟨a,h⟩
 simp only [aa,bZ,if_true]
 show some (IV.int .u8 (fs.wrap ((a1 8 (a:Int)&&& ~~~(a1 8 128)).toNat:Int)))=_
 rw [e,aaB,bm (by omega)]
theorem KL: ∀(j n m:Nat) (acc:Byt),n < 128 ^ j->0 < j->j<=m->n < 2 ^ 64->acc.length+j<=100->
  ∃(k:Nat) (ini:Byt),k < 128/\bt n=ini++[Gx k]/\ini.length < j/\iter m lK [.int .u64 (n:Int),.lst (acc.map eB)]=some (0,[.int .u64 (k:Int),.lst ((acc++ini).map eB)])
 | 0,n,m,acc,_,h0,_,_,_=>by omega
 | j+1,n,m,acc,hn,_,hm,hw,f=>by
   obtain ⟨m,rfl⟩: ∃p,m=p+1:=⟨m - 1,by omega⟩
   by_cases h:n < 128
   ·refine ⟨n,[],h,by rw [tp h];rfl,by simp,?_⟩
    have: ¬((128:Int)<=(n:Int)):=by omega
    have hf:lK [.int .u64 (n:Int),.lst (acc.map eB)]=some (.done 0 [.int .u64 (n:Int),.lst (acc.map eB)]):=by
     unfold lK
     simp [this]
    simp [iter,hf]
   ·have d:((128:Int)<=(n:Int)):=by omega
    have hj:0 < j:=by
     rcases br j with rfl | hj
     ·simp at hn;omega
     ·exact hj
    have e:n / 128 < 128 ^ j:=by
     rw [Nat.div_lt_iff_lt_mul (by decide)];rw [Nat.pow_succ] at hn;exact hn
    have i:(n % 256) % 128+128=n % 128+128:=by omega
    have g:=ad5 (n % 256) (Nat.mod_lt _ (by decide))
    rw [i] at g
    have c:=aa9 (l:=acc) (b:=Gx (n % 128+128)) (x:=((n % 128+128:Nat):Int)) (by rw [qc (by omega)]) (by omega)
    have hs:aa .shr (.int .u64 (n:Int)) (.int .u64 7)=some (.int .u64 ((n / 128:Nat):Int)):=mC (a:=n) (b:=7) (by decide)
    have hf:lK [.int .u64 (n:Int),.lst (acc.map eB)]=some (.next [.int .u64 ((n / 128:Nat):Int),.lst ((acc++[Gx (n % 128+128)]).map eB)]):=by
     unfold lK
     simp only [af,ai,dk,d,decide_true,ab,ah,SE,g,c,hs]
    obtain ⟨k,ini,h1,h2,q,o⟩:=KL j (n / 128) m (acc++[Gx (n % 128+128)]) e hj (by omega) (by omega) (by simp;omega)
    refine ⟨k,Gx (n % 128+128)::ini,h1,by rw [AF h,h2];rfl,by simp;omega,?_⟩
    simp only [iter,hf,ab]
    rw [o];simp
theorem fw {n:Nat} (h:n < 2 ^ 64):cE (.int .u64 (n:Int))=some [B (bt n)]:=by
 obtain ⟨k,ini,h1,h2,e,d⟩:=KL 10 n rounds [] (by omega) (by decide) (by rw [aJ];decide) h (by decide)
 have c:=aa9 (l:=ini) (b:=Gx k) (x:=((k % 256:Nat):Int)) (by rw [qc (by omega)];omega) (by omega)
 unfold cE
 have a:iter rounds lK [.int .u64 (n:Int),.lst []]=some (0,[.int .u64 (k:Int),.lst (ini.map eB)]):=d
 simp only [a,ab,aK,af,ai,SE,c,oO,h2]
 rfl
theorem bE {n:Nat} (h:n < 2 ^ 64):(bt n).length<=10:=by
 obtain ⟨k,ini,h1,h2,a,b⟩:=KL 10 n rounds [] (by omega) (by decide) (by rw [aJ];decide) h (by decide)
 rw [h2];simp;omega
theorem Gr:cm (.bool true) (.int .i64 2)=some []:=rfl
theorem abU (s t:Byt): ∀(i n a m:Nat) (pre:Byt) (x:IV),s=pre++bt n++t->pre.length=i->a < 2 ^ (7*i)->a+n*2 ^ (7*i) < 2 ^ 64->(i=0\/0 < n)->i<=9->10<=m+i->
  iter m (aM (B s)) [x,.int .u64 (a:Int),.int .i64 (i:Int)]=some (0,[.int .u64 ((a+n*2 ^ (7*i):Nat):Int),B t]):=by
 intro i n
 induction n using Nat.strongRecOn generalizing i with
 | _ n ih=>
 intro a m pre x hs hp S hn h0 hi hm
 obtain ⟨m,rfl⟩: ∃T,m=T+1:=⟨m - 1,by omega⟩
 obtain ⟨b,rest,g,w⟩: ∃b rest,bt n=b::rest/\s[i]? =some b:=by
  by_cases h:n < 128
  ·exact ⟨_,_,tp h,by rw [hs,tp h,bO,bf (by omega),<-hp];simp⟩
  ·exact ⟨_,_,AF h,by rw [hs,AF h,bO,bf (by omega),<-hp];simp⟩
 have r:=(aB.1 w).1
 have hc:((i:Int) < (s.length:Int)):=by omega
 have L:=WS (k:= .i64) w
 have N:2 ^ (7*i)<=2 ^ 63:=ch (by decide) (by omega)
 have hmul:aa .mul (.int .i64 7) (.int .i64 (i:Int))=some (.int .i64 ((7*i:Nat):Int)):=by
  simp only [aa,bZ,if_true]
  rw [wrap64 (by omega) (by omega)]
  congr 2
 have c:=au (i:=i) (by omega)
 have A:=b.toNat_lt
 have o:=aco b.toNat A
 have p:bL .u64 (.int .u8 ((b.toNat % 128:Nat):Int))=some (.int .u64 ((b.toNat % 128:Nat):Int)):=by
  simp only [bL,yU (show b.toNat % 128 < 2 ^ 64 by omega)]
 have key: ∀d:Nat,b.toNat % 128=d->d*2 ^ (7*i) < 2 ^ 64->
   ((aa .shl (.int .u64 ((b.toNat % 128:Nat):Int)) (.int .i64 ((7*i:Nat):Int))).bind λK=>aa .or (.int .u64 (a:Int)) K)=some (.int .u64 ((a+d*2 ^ (7*i):Nat):Int)):= λd C r=>by
  rw [C,xc (by omega) r,ab,uc (by omega) r,Nat.or_comm,Yw _ S,ek]
 have v:(i < 9\/b.toNat<=1)->(i=0\/b.toNat≠0)->((aa .lss (.int .i64 (i:Int)) (.int .i64 9)).bind λZ=>
   ae Z (λ_=>(aa .eql (.int .i64 (i:Int)) (.int .i64 0)).bind λv9=>
    ae v9 (λ_=>(cm (.bool true) (.int .i64 3)).bind λU=>some ([]:List IV)) (λ_=>(aa .neq (.int .u8 (b.toNat:Int)) (.int .u8 0)).bind λG=>(cm G (.int .i64 3)).bind λV=>some ([]:List IV)))
   (λ_=>(aa .leq (.int .u8 (b.toNat:Int)) (.int .u8 1)).bind λH=>
     ae H (λ_=>(aa .eql (.int .i64 (i:Int)) (.int .i64 0)).bind λI=>
      ae I (λ_=>(cm (.bool true) (.int .i64 3)).bind λW=>some ([]:List IV)) (λ_=>(aa .neq (.int .u8 (b.toNat:Int)) (.int .u8 0)).bind λJ=>(cm J (.int .i64 3)).bind λX=>some ([]:List IV)))
     (λ_=>(cm (.bool false) (.int .i64 3)).bind λY=>some ([]:List IV))))=some []:= λh1 h2=>by
  simp only [al,dc,dv,e9,ab,bj]
  have O:(i:Int)=0↔i=0:=by omega
  have P:((b.toNat:Int)≠0)↔b.toNat≠0:=by omega
  by_cases q1:(i:Int) < 9
  ·rw [if_pos q1]
   by_cases u:(i:Int)=0
   ·rw [if_pos u];rfl
   ·rw [if_neg u,decide_eq_true (P.2 (h2.resolve_left λe=>u (O.2 e)))];rfl
  ·rw [if_neg q1,if_pos (by omega)]
   by_cases u:(i:Int)=0
   ·rw [if_pos u];rfl
   ·rw [if_neg u,decide_eq_true (P.2 (h2.resolve_left λe=>u (O.2 e)))];rfl
 by_cases h:n < 128
 ·have j:b=Gx n:=by rw [tp h] at g;injection g with h1 h2;exact h1.symm
  have y:b.toNat=n:=by rw [j,qc (by omega)]
  have Q:i < 9\/b.toNat<=1:=by
   rcases fH i 9 with q | q
   ·exact .inl q
   ·right
    obtain rfl:i=9:=by omega
    rw [y];omega
  have hk:=key n (by omega) (by omega)
  have C:s.drop (i+1)=t:=by
   rw [hs,tp h,<-hp]
   simp
  have E:=zI (l:=s) (i:=i+1) (k:= .i64) (by omega)
  have hl:((b.toNat:Int) < 128):=by omega
  simp only [iter]
  unfold aM
  simp only [af,ai,ay,jR,ab,al (.i64) (i:Int) (s.length:Int),hc,decide_true,Gr,L,v Q (by omega),o,p,hmul]
  rw [<-e2,hk]
  simp only [ab,al,hl,decide_true,ah,c,E,C]
 ·have j:b=Gx (n % 128+128):=by rw [AF h] at g;injection g with h1 h2;exact h1.symm
  have y:b.toNat=n % 128+128:=by rw [j,qc (by omega)]
  have q:i < 9:=by
   rcases fH i 9 with q | q
   ·exact q
   ·obtain rfl:i=9:=by omega
    omega
  have z:2 ^ (7*(i+1))=128*2 ^ (7*i):=by rw [Nat.mul_add,Nat.pow_add,gd]
  have D:n=128*(n / 128)+n % 128:=by omega
  have f:n*2 ^ (7*i)=(n % 128)*2 ^ (7*i)+(n / 128)*(128*2 ^ (7*i)):=by
   conv=>lhs;rw [D,Nat.add_mul]
   rw [gd 128 (n / 128),Nat.mul_assoc,ek]
  have hk:=key (n % 128) (by omega) (by rw [f] at hn;omega)
  have hl: ¬((b.toNat:Int) < 128):=by omega
  have F:aM (B s) [x,.int .u64 (a:Int),.int .i64 (i:Int)]=some (.next [x,.int .u64 ((a+(n % 128)*2 ^ (7*i):Nat):Int),.int .i64 ((i+1:Nat):Int)]):=by
   unfold aM
   simp only [af,ai,ay,jR,ab,al (.i64) (i:Int) (s.length:Int),hc,decide_true,Gr,L,v (.inl q) (by omega),o,p,hmul]
   rw [<-e2,hk]
   simp only [ab,al,hl,decide_false,ag,c]
  simp only [iter,F,ab]
  have M:=ck (2 ^ (7*i)) (show n % 128<=127 by omega)
  rw [ih (n / 128) (by omega) (i+1) (a+(n % 128)*2 ^ (7*i)) m (pre++[b]) x (by rw [hs,AF h,j];simp) (by simp [hp]) (by rw [z];omega) (by rw [z];rw [f] at hn;omega) (.inr (by omega)) (by omega) (by omega),z]
  have R:a+n % 128*2 ^ (7*i)+n / 128*(128*2 ^ (7*i))=a+n*2 ^ (7*i):=by rw [f];omega
  rw [R]
theorem yu {n:Nat} (h:n < 2 ^ 64) (t:Byt):aA (B (bt n++t)) (.int .i64 0)=some [B t,.int .i64 0,.int .u64 (n:Int)]:=by
 unfold aA
 have:=abU (bt n++t) t 0 n 0 rounds [] (.int .u64 0) (by simp) rfl (by decide) (by omega) (.inl rfl) (by decide) (by rw [aJ];decide)
 have h2:iter rounds (aM (B (bt n++t))) [.int .u64 0,.int .u64 0,.int .i64 0]=some (0,[.int .u64 (n:Int),B t]):=by
  have e:0+n*2 ^ (7*0)=n:=by omega
  rw [e] at this;exact this
 simp [h2]
end Go.AM
namespace Go.AM
theorem FU (l t:Byt) (k:Int) (hk:k=l.length):b8 (B (l++t)) (.int .i64 0) (.int .i64 k)=some [B t,.int .i64 0,B l]:=by
 subst hk
 have h1:(0:Int)<=(l.length:Int):=by omega
 have h2:(l.length:Int)<=((l++t).length:Int):=by simp;omega
 have a:=Af (l:=l++t) (i:=l.length) (k:= .i64) (by simp)
 have b:=zI (l:=l++t) (i:=l.length) (k:= .i64) (by simp)
 rw [List.take_left] at a
 rw [List.drop_left] at b
 unfold b8
 simp only [dv,ne_eq,not_true_eq_false,decide_false,ab,af,ag,dk,h1,decide_true,ah,jR,e9,h2,Gr,a,b]
theorem qx (l:Byt) (e:IV):bl (B l) e=some [.int .i64 l.length]:=by
 show (gS (B l)).bind (λv=>av [v])=_
 rw [jR];rfl
theorem yy (s:IV) (e:Int):aX s (.int .i64 e)=some [.int .i64 e]:=rfl
theorem Kh:b9 (B []) (.int .i64 0)=some [B [],.int .i64 0,.int .i64 0]:=by
 unfold b9
 simp [yy,qx]
def uD (n:Int):Nat:=if 0<=n then (2*n).toNat else (-2*n - 1).toNat
theorem Kk {n:Int} (h:in64 n):uD n < 2 ^ 64:=by unfold uD;obtain ⟨h1,h2⟩:=h;split<;>omega
theorem abG (z:Int):bM.wrap z=z % 2 ^ 64:=by
 unfold fz
 show (if (false&&decide ((z % (2 ^ 64:Int))>=(2 ^ 63:Int)))=true then (z % (2 ^ 64:Int)) - (2 ^ 64:Int) else (z % (2 ^ 64:Int)))=_
 simp
theorem agO {a:Nat} (h:a < 2 ^ 64):aa .xor (.int .u64 (a:Int)) (.int .u64 0)=some (.int .u64 (a:Int)):=by
 simp only [aa,bZ,if_true]
 have:(a1 bM.bits (a:Int) ^^^ a1 bM.bits 0).toNat=a:=by
  show (a1 64 (a:Int) ^^^ 0#64).toNat=a
  rw [e7,bR,b1,bm h]
 rw [this,yU h]
theorem ahb {a:Nat} (h:a < 2 ^ 64):aa .xor (.int .u64 (a:Int)) (.int .u64 18446744073709551615)=some (.int .u64 ((2 ^ 64 - 1 - a:Nat):Int)):=by
 simp only [aa,bZ,if_true]
 have:(a1 bM.bits (a:Int) ^^^ a1 bM.bits 18446744073709551615).toNat=2 ^ 64 - 1 - a:=by
  show (a1 64 (a:Int) ^^^ fq 64).toNat=_
  rw [eW,e4,bR,b1,bm h]
 rw [this,yU (by omega)]
theorem VU {n:Int} (h:in64 n):l6 (.int .i64 n)=some [.int .u64 (uD n:Int)]:=by
 obtain ⟨h1,h2⟩:=h
 have hs:aa .shr (.int .i64 n) (.int .u64 63)=some (.int .i64 (if 0<=n then 0 else -1)):=by
  simp only [aa]
  rw [if_neg (by omega)]
  show some (IV.int .i64 (n.fdiv (2 ^ 63)))=_
  congr 2
  rw [Int.fdiv_eq_ediv_of_nonneg _ (by decide)]
  split<;>omega
 have hl:aa .shl (.int .u64 (n % 2 ^ 64)) (.int .u64 1)=some (.int .u64 ((2*n) % 2 ^ 64)):=by
  simp only [aa]
  rw [if_neg (by omega)]
  show some (IV.int .u64 (bM.wrap (n % 2 ^ 64*2)))=_
  rw [abG]
  congr 2
  omega
 unfold l6
 simp only [bL,abG,ab,hl,hs]
 unfold uD
 by_cases h0:0<=n
 ·rw [if_pos h0,if_pos h0]
  have e:(2*n) % 2 ^ 64=(((2*n).toNat:Nat):Int):=by omega
  have a:(0:Int) % 2 ^ 64=0:=by decide
  rw [e,a,agO (by omega),ab];rfl
 ·rw [if_neg h0,if_neg h0]
  have e:(2*n) % 2 ^ 64=(((2 ^ 64+2*n).toNat:Nat):Int):=by omega
  have a:(-1:Int) % 2 ^ 64=18446744073709551615:=by decide
  rw [e,a,ahb (by omega),ab]
  have b:2 ^ 64 - 1 - (2 ^ 64+2*n).toNat=(-2*n - 1).toNat:=by omega
  rw [b];rfl
theorem PX (z:Int):cl.wrap z=(z+2 ^ 63) % 2 ^ 64 - 2 ^ 63:=by rw [IntKind.wrap_i64];omega
theorem Vr {n:Int} (h:in64 n):qq (.int .u64 (uD n:Int))=some [.int .i64 n]:=by
 obtain ⟨h1,h2⟩:=h
 have hz:=Kk ⟨h1,h2⟩
 have hs:aa .shr (.int .u64 (uD n:Int)) (.int .u64 1)=some (.int .u64 ((uD n / 2:Nat):Int)):=mC (b:=1) (by decide)
 have g:aa .and (.int .u64 (uD n:Int)) (.int .u64 1)=some (.int .u64 ((uD n % 2:Nat):Int)):=by
  rw [show (1:Int)=((1:Nat):Int) from rfl,qh hz (by decide),Nat.and_one_is_mod]
 unfold qq
 simp only [hs,g,ab,bL,PX]
 by_cases h0:0<=n
 ·have a:((uD n / 2:Nat):Int)=n:=by unfold uD;rw [if_pos h0];omega
  have c:uD n % 2=0:=by unfold uD;rw [if_pos h0];omega
  rw [a,c]
  have d:(n+2 ^ 63) % 2 ^ 64 - 2 ^ 63=n:=by omega
  have e:ly .neg (.int .i64 ((((0:Nat):Int)+2 ^ 63) % 2 ^ 64 - 2 ^ 63))=some (.int .i64 0):=by rfl
  rw [d,e,ab]
  have f:aa .xor (.int .i64 n) (.int .i64 0)=some (.int .i64 n):=by
   simp only [aa,bZ,if_true]
   have:(a1 cl.bits n ^^^ a1 cl.bits 0).toNat=n.toNat:=by
    show (a1 64 n ^^^ 0#64).toNat=_
    rw [e7,eZ];omega
   have q:(((n.toNat:Nat):Int)+2 ^ 63) % 2 ^ 64 - 2 ^ 63=n:=by omega
   rw [this,PX,q]
  rw [f];rfl
 ·have a:((uD n / 2:Nat):Int)= -n - 1:=by unfold uD;rw [if_neg h0];omega
  have c:uD n % 2=1:=by unfold uD;rw [if_neg h0];omega
  rw [a,c]
  have d:(-n - 1+2 ^ 63) % 2 ^ 64 - 2 ^ 63= -n - 1:=by omega
  have e:ly .neg (.int .i64 ((((1:Nat):Int)+2 ^ 63) % 2 ^ 64 - 2 ^ 63))=some (.int .i64 (-1)):=by rfl
  rw [d,e,ab]
  have f:aa .xor (.int .i64 (-n - 1)) (.int .i64 (-1))=some (.int .i64 n):=by
   simp only [aa,bZ,if_true]
   have:(a1 cl.bits (-n - 1) ^^^ a1 cl.bits (-1)).toNat=(2 ^ 64+n).toNat:=by
    show (a1 64 (-n - 1) ^^^ fq 64).toNat=_
    rw [eW,e4,eZ];omega
   have q:((((2 ^ 64+n).toNat:Nat):Int)+2 ^ 63) % 2 ^ 64 - 2 ^ 63=n:=by omega
   rw [this,PX,q]
  rw [f];rfl
def Gy (n:Int):Byt:=bt (uD n)
theorem afl {n:Int} (h:in64 n) (t:Byt):gU (B (Gy n++t)) (.int .i64 0)=some [B t,.int .i64 0,.int .i64 n]:=by
 unfold gU Gy
 rw [yu (Kk h)]
 show (qq (.int .u64 (uD n:Int))).bind (λa=>some [B t,.int .i64 0,nth a 0])=_
 rw [Vr h];rfl
theorem sP {α:Type} {f:α->Byt} {l:List α} {i:Nat} {x:α} (h:l[i]? =some x):(l.drop i).flatMap f=f x++(l.drop (i+1)).flatMap f:=by
 have hi:=(aB.1 h).1
 rw [bA hi,bC,(aB.1 h).2]
theorem lD {α:Type} {f:α->Byt} {k:Nat}: ∀{l:List α},(∀x∈l,(f x).length<=k)->(l.flatMap f).length<=k*l.length
 | [],_=>by simp
 | x::l,h=>by
   have h1:=h x bs
   have h2:=lD (l:=l) λy a=>h y (bB _ a)
   simp only [bC,bd,ca,Nat.mul_succ];omega
theorem RU {α:Type} {f:α->Byt}: ∀{l:List α},(∀x∈l,1<=(f x).length)->l.length<=(l.flatMap f).length
 | [],_=>by simp
 | x::l,h=>by
   have h1:=h x bs
   have h2:=RU (l:=l) λy a=>h y (bB _ a)
   simp only [bC,bd,ca];omega
theorem EU (n:Nat):1<=(bt n).length:=by rw [bt];split<;>simp
theorem tZ {l:List Int} {n:Int} (h:l.length < 2 ^ 20):bX 1 8 (bQ l) (.lst [[.int .i64 n]])=some (bQ (l++[n])):=by
 simp only [bX]
 rw [if_pos ⟨by simp;omega,by simp⟩]
 simp [Y4]
def wI (z:Int):Int:=cl.wrap z
theorem Yt (z:Int):in64 (wI z):=by unfold wI;rw [PX];constructor<;>omega
def zm:Int->List Int->List Int
 | _,[]=>[]
 | a,n::ns=>wI (n - a)::zm n ns
theorem rb: ∀(a:Int) (ns:List Int),(zm a ns).length=ns.length
 | _,[]=>rfl
 | a,n::ns=>by simp [zm,rb n ns]
theorem RJ: ∀(a:Int) (ns:List Int),∀x∈zm a ns,in64 x
 | _,[],x,h=>by cases h
 | a,n::ns,x,h=>by
   rcases e1.1 h with rfl | h
   ·exact Yt _
   ·exact RJ n ns x h
def deltaL (ns:List Int):Byt:=(zm 0 ns).flatMap Gy
theorem VB {n:Int} (h:in64 n):(Gy n).length<=10:=bE (Kk h)
theorem fU {ns:List Int}:(deltaL ns).length<=10*ns.length:=by
 have:=lD (l:=zm 0 ns) (f:=Gy) λx a=>VB (RJ 0 ns x a)
 rw [rb] at this;exact this
theorem KY: ∀(ns:List Int) (a:Int) (acc:Byt),acc.length+10*ns.length < 2 ^ 40->sF l6 cE a (ns.map Y4) ⟨acc.toArray⟩=some [B (acc++(zm a ns).flatMap Gy)]
 | [],a,acc,_=>by simp [sF,zm,B]
 | n::ns,a,acc,h=>by
   have hz:=VU (Yt (n - a))
   have hp:=fw (Kk (Yt (n - a)))
   have hl:=VB (Yt (n - a))
   have ih:=KY ns n (acc++Gy (wI (n - a))) (by simp at h ⊢;omega)
   show (l6 (.int .i64 (wI (n - a)))).bind _=_
   rw [hz,ab,af,hp,ab,af]
   have e:(⟨acc.toArray⟩:ByteArray)++(⟨(bt (uD (wI (n - a)))).toArray⟩:ByteArray)=⟨(acc++Gy (wI (n - a))).toArray⟩:=by
    apply ByteArray.ext
    simp [ByteArray.data_append,Gy]
   show (if (⟨acc.toArray⟩:ByteArray).size+(⟨(bt (uD (wI (n - a)))).toArray⟩:ByteArray).size<=140737488355328 then sF l6 cE n (ns.map Y4) ((⟨acc.toArray⟩:ByteArray)++(⟨(bt (uD (wI (n - a)))).toArray⟩:ByteArray)) else none)=_
   rw [if_pos (by rw [yz,yz];simp at h;unfold Gy at hl;omega),e,ih]
   simp [zm]
theorem nP {ns:List Int} (h:ns.length < 2 ^ 16):gp (bQ ns)=some [B (deltaL ns)]:=by
 unfold gp KX
 simp only [a2]
 rw [if_pos (by omega)]
 have:=KY ns 0 [] (by simp;omega)
 simpa [deltaL] using this
theorem PO: ∀{ns:List Int},ns.length < 2 ^ 16->(∀n∈ns,in64 n)->pj (bQ (zm 0 ns))=some [bQ ns]:=by
 intro ns h c
 unfold pj
 simp only [aw,ab,a2,rb]
 have p: ∀(i:Nat) (x:Int) (ns:List Int) (a:Int),ns[i]? =some x->(zm a ns)[i]? =some (wI (x - (a::ns).getD i 0)):=by
  intro i
  induction i with
  | zero=>intro x ns a b;cases ns with
    | nil=>simp at b
    | cons n ns=>simp at b;subst b;rfl
  | succ i ih=>intro x ns a b;cases ns with
    | nil=>simp at b
    | cons n ns=>simp at b;have:=ih x ns n b;simpa [zm] using this
 rw [kE (vs0:=[.lst [],.int .i64 0,.int .i64 0]) (λi (s:List Int)=>[bQ s,.int .i64 ((0::ns).getD i 0),.int .i64 (i:Int)]) (λs x=>s++[x]) 0 (λs=>[bQ s]) (λi s=>s.length=i) ns [] rfl (by have:=aJ;omega) rfl]
 ·have:ns.foldl (λs x=>s++[x]) []=ns:=by
   have: ∀(l a:List Int),l.foldl (λs x=>s++[x]) a=a++l:= λl=>by
    induction l with
    | nil=>simp
    | cons x l ih=>intro a;simp [ih]
   simp [this]
  simp [this]
 ·intro i s x b m
  have hi:i < ns.length:=(aB.1 b).1
  have f:=pH (p i x ns 0 b)
  have e:=c x (a6 b)
  have q:(0::ns).getD (i+1) 0=x:=by simp [a8,b]
  have k:in64 ((0::ns).getD i 0):=by
   cases i with
   | zero=>show in64 0;exact ⟨by decide,by decide⟩
   | succ j=>
     have hj:j < ns.length:=by omega
     rw [a8,List.getElem?_cons_succ,ao hj]
     exact c _ (List.getElem_mem hj)
  refine ⟨by simp [m],?_⟩
  unfold vO
  have d:aa .add (.int .i64 ((0::ns).getD i 0)) (.int .i64 (wI (x - (0::ns).getD i 0)))=some (.int .i64 x):=by
   simp only [aa,bZ,if_true]
   obtain ⟨r,t⟩:=e
   obtain ⟨o,b2⟩:=k
   generalize (0::ns).getD i 0=y at o b2
   congr 2
   unfold wI
   rw [PX,PX];omega
  have g:((i:Int) < (ns.length:Int)):=by omega
  simp only [af,ai,ay,al,g,decide_true,ab,ah,f,d,tZ (show s.length < 2 ^ 20 by omega),au (show i < 2 ^ 62 by omega),q]
 ·intro s m
  unfold vO
  simp
theorem eV {ns:List Int} (h:ns.length < 2 ^ 16) (j: ∀n∈ns,in64 n):bo (B (deltaL ns)) (.int .i64 ns.length)=some [bQ ns,.int .i64 0]:=by
 unfold bo
 have p: ¬((ns.length:Int) < 0):=by omega
 have q: ¬(((deltaL ns).length:Int) < (ns.length:Int)):=by
  have:=RU (l:=zm 0 ns) (f:=Gy) λx _=>EU _
  rw [rb] at this
  unfold deltaL;omega
 simp only [al,p,decide_false,ab,ag,jR,aV,q]
 have g:cn (B (deltaL ns))=some [B (deltaL ns),.int .i64 0]:=rfl
 simp only [g,ab,af,ai]
 rw [kE (vs0:=[B (deltaL ns),.int .i64 0,.lst [],.int .i64 0]) (λi (s:List Int)=>[B (((zm 0 ns).drop i).flatMap Gy),.int .i64 0,bQ s,.int .i64 (i:Int)]) (λs x=>s++[x]) 0 (λs=>[B [],.int .i64 0,bQ s]) (λi s=>s.length=i) (zm 0 ns) [] rfl (by have:=aJ;rw [rb];omega) rfl]
 ·have: ∀(l a:List Int),l.foldl (λs x=>s++[x]) a=a++l:= λl=>by
   induction l with
   | nil=>simp
   | cons x l ih=>intro a;simp [ih]
  simp only [this,cv,ab,aK,af,ai,ay,Kh]
  show (aa .neq (.int .i64 0) (.int .i64 0)).bind _=_
  simp [PO h j]
 ·intro i s x m o
  have hi:i < (zm 0 ns).length:=(aB.1 m).1
  rw [rb] at hi
  refine ⟨by simp [o],?_⟩
  have d:=afl (RJ 0 ns x (a6 m)) (((zm 0 ns).drop (i+1)).flatMap Gy)
  rw [<-sP m] at d
  have k:((i:Int) < (ns.length:Int)):=by omega
  have hdr: ∀a b c:IV,([a,b,c]:List IV).drop 2=[c]:= λ_ _ _=>rfl
  unfold rV
  simp only [af,ai,ay,aH,al,k,decide_true,ab,ah,d,hdr,tZ (show s.length < 2 ^ 20 by omega),au (show i < 2 ^ 62 by omega)]
 ·intro s o
  unfold rV
  have e:(zm 0 ns).drop ns.length=[]:=ec (by rw [rb];exact b6 _)
  simp [rb,e]
end Go.AM
namespace Go.AM
theorem CA {f:List IV->Option SR} (enc:Nat->List IV) (n a:Nat) (out:List IV) (hs: ∀i,i < n->f (enc i)=some (.next (enc (i+1)))) (he:f (enc n)=some (.done a out)): ∀(m i:Nat),i<=n->n - i < m->iter m f (enc i)=some (a,out)
 | 0,i,_,h=>by omega
 | m+1,i,hi,hm=>by
   by_cases h:i=n
   ·subst h;exact ep m he
   ·rw [jd m (hs i (by omega))]
    exact CA enc n a out hs he m (i+1) (by omega) (by omega)
theorem ba {f:List IV->Option SR} {vs0:List IV} (enc:Nat->List IV) (n a:Nat) (out:List IV) (h0:vs0=enc 0) (hn:n < 999999) (hs: ∀i,i < n->f (enc i)=some (.next (enc (i+1)))) (he:f (enc n)=some (.done a out)):iter rounds f vs0=some (a,out):=by
 subst h0
 exact CA enc n a out hs he rounds 0 (e8 _) (by rw [aJ];omega)
theorem qk {α:Type} {f:α->Byt} {l:List α} {i:Nat} {x:α} (h:l[i]? =some x):(l.take (i+1)).flatMap f=(l.take i).flatMap f++f x:=by
 rw [bp h];simp
theorem aau (l:Byt):xv ⟨l.toArray⟩=l.map eB:=by simp [xv,eB]
theorem xw {x:IV} {a b:Byt} (h:a.length+b.length<=140737488355328):sf [[x,.lst (a.map eB)],[B b]]=some [.nilp,.lst ((a++b).map eB),.int .i64 b.length,.nilf]:=by
 show (if (a.map eB).length+(⟨b.toArray⟩:ByteArray).size<=140737488355328 then some [IV.nilp,.lst (a.map eB++xv ⟨b.toArray⟩),.int .i64 (⟨b.toArray⟩:ByteArray).size,.nilf] else none)=_
 rw [if_pos (by rw [yz];simpa using h),aau,yz,List.map_append]
theorem fp {a:Nat} {k:IntKind} (h:a < 2 ^ 64):bL .u64 (.int k (a:Int))=some (.int .u64 (a:Int)):=by simp only [bL,yU h]
theorem kX {a:Nat} {k:IntKind} (h:a < 2 ^ 63):bL .i64 (.int k (a:Int))=some (.int .i64 (a:Int)):=by simp only [bL];rw [wrap64 (by omega) (by omega)]
def eU (n:Nat):List IV:=[.int .u64 (n:Int)]
abbrev NF (l:List Nat):IV:= .lst (l.map eU)
theorem adI {l:List Nat} {i:Nat} {x:Nat} (h:l[i]? =some x):aP (NF l) (.int .i64 (i:Int)) 1=some i/\dV (NF l) i 0=some (.int .u64 (x:Int)):=
 ⟨ee h rfl (by decide),by rw [cg h];rfl⟩
theorem ach {l k:List Nat} (hl:l.length < 2 ^ 20) (hk:k.length < 2 ^ 20):bX 1 8 (NF l) (NF k)=some (NF (l++k)):=by
 simp only [bX]
 rw [if_pos ⟨by simp;omega,by simp [eU]⟩]
 simp
abbrev Rn:=Nat×Nat
def eRn (r:Rn):List IV:=[.int .u64 (r.1:Int),.int .i64 (r.2:Int)]
abbrev xu (l:List Rn):IV:= .lst (l.map eRn)
theorem Qp {l:List Rn} {i:Nat} {x:Rn} (h:l[i]? =some x):aP (xu l) (.int .i64 (i:Int)) 2=some i/\ff (xu l) i 0 2=some (eRn x)/\dV (xu l) i 0=some (.int .u64 (x.1:Int))/\dV (xu l) i 1=some (.int .i64 (x.2:Int)):=
 ⟨ee h rfl (by decide),qM h rfl,by rw [cg h];rfl,by rw [cg h];rfl⟩
theorem Rt {l:List Rn} {r:Rn} (hl:l.length < 2 ^ 20):bX 2 16 (xu l) (.lst [eRn r])=some (xu (l++[r])):=by
 simp only [bX]
 rw [if_pos ⟨by simp;omega,by simp [eRn]⟩]
 simp
def HJ (rs:List Rn) (x:Nat):List Rn:=match rs.getLast? with
 | some r=>if r.1=x then rs.set (rs.length - 1) (r.1,r.2+1) else rs++[(x,1)]
 | none=>[(x,1)]
def cL (l:List Nat):List Rn:=l.foldl HJ []
def sprR (rs:List Rn):List Nat:=rs.flatMap λr=>ad r.2 r.1
structure OkR (l:List Nat) (rs:List Rn):Prop where
 spr:sprR rs=l
 cnt: ∀r∈rs,1<=r.2
 adj: ∀i r q,rs[i]? =some r->rs[i+1]? =some q->r.1≠q.1
 val: ∀r∈rs,r.1 < 2 ^ 64
theorem OkR.add {l:List Nat} {rs:List Rn} (h:OkR l rs) {x:Nat} (j:x < 2 ^ 64):OkR (l++[x]) (HJ rs x):=by
 unfold HJ
 split
 ·rename_i r hr
  obtain ⟨ini,rfl⟩:=c8.1 hr
  split
  ·rename_i g
   have e:(ini++[r]).set ((ini++[r]).length - 1) (r.1,r.2+1)=ini++[(r.1,r.2+1)]:=by simp
   rw [e]
   refine ⟨?_,?_,?_,?_⟩
   ·rw [<-h.spr]
    simp only [sprR,cO,bC,List.flatMap_nil,List.append_nil,bO]
    rw [List.replicate_succ',g]
   ·intro q c
    rcases c0.1 c with c | c
    ·exact h.cnt q (et _ c)
    ·simp at c;subst c;show 1<=r.2+1;omega
   ·intro i a b f hb
    have hi:i+1 < (ini++[(r.1,r.2+1)]).length:=(aB.1 hb).1
    simp at hi
    rw [a5 (by omega)] at f
    by_cases d:i+1 < ini.length
    ·rw [a5 d] at hb
     exact h.adj i a b (by rw [a5 (by omega)];exact f) (by rw [a5 d];exact hb)
    ·rw [bf (by omega)] at hb
     have:i+1 - ini.length=0:=by omega
     rw [this] at hb
     simp at hb;subst hb
     exact h.adj i a r (by rw [a5 (by omega)];exact f) (by rw [bf (by omega),this];rfl)
   ·intro q c
    rcases c0.1 c with c | c
    ·exact h.val q (et _ c)
    ·simp at c;subst c;exact h.val r (by simp)
  ·rename_i g
   refine ⟨?_,?_,?_,?_⟩
   ·rw [<-h.spr];simp [sprR]
   ·intro q c
    rcases c0.1 c with c | c
    ·exact h.cnt q c
    ·simp at c;subst c;exact b6 1
   ·intro i a b f hb
    have hi:i+1 < (ini++[r]++[(x,1)]).length:=(aB.1 hb).1
    simp at hi
    by_cases d:i+1 < (ini++[r]).length
    ·rw [a5 d] at hb
     rw [a5 (by omega)] at f
     exact h.adj i a b f hb
    ·simp at d
     have e:i=ini.length:=by omega
     subst e
     simp at f hb
     subst f hb
     exact g
   ·intro q c
    rcases c0.1 c with c | c
    ·exact h.val q c
    ·simp at c;subst c;exact j
 ·rename_i hr
  rw [c9] at hr
  subst hr
  have hl:l=[]:=h.spr.symm
  subst hl
  refine ⟨by simp [sprR],λq c=>by simp at c;subst c;exact b6 1,λi a b f hb=>by simp at hb,λq c=>by simp at c;subst c;exact j⟩
theorem Hs: ∀(l a:List Nat) (rs:List Rn),OkR a rs->(∀x∈l,x < 2 ^ 64)->OkR (a++l) (l.foldl HJ rs)
 | [],a,rs,h,_=>by simpa using h
 | x::l,a,rs,h,b=>by
   have:=Hs l (a++[x]) (HJ rs x) (h.add (b x bs)) λy c=>b y (bB _ c)
   simpa using this
theorem OkR.len {l:List Nat} {rs:List Rn} (h:OkR l rs):rs.length<=l.length:=by
 rw [<-h.spr]
 have: ∀rs:List Rn,(∀r∈rs,1<=r.2)->rs.length<=(sprR rs).length:=by
  intro rs
  induction rs with
  | nil=>intro _;simp
  | cons r rs ih=>
    intro h
    have h1:=h r bs
    have h2:=ih λq a=>h q (bB _ a)
    simp only [sprR,bC,bd,bb,ca] at h2 ⊢
    omega
 exact this rs h.cnt
theorem Xw {l:List Nat} (h: ∀x∈l,x < 2 ^ 64):OkR l (cL l):=by
 have:=Hs l [] [] ⟨rfl,by simp,by simp,by simp⟩ h
 simpa [cL] using this
theorem WE {l:List Nat} (hl:l.length < 2 ^ 16) (h: ∀x∈l,x < 2 ^ 64):iZ (NF l)=some [xu (cL l)]:=by
 unfold iZ
 simp only [aw,ab,a2]
 rw [ba (λi=>[xu ((l.take i).foldl HJ []),.int .i64 (i:Int)]) l.length 0 [xu (cL l)] (by simp) (by omega) (λi hi=> ?_) (by
  unfold o7
  simp [cL])]
 ·simp
 ·have n:=ao hi
  generalize l[i]=x at n
  obtain ⟨o,p⟩:=adI n
  have k:((i:Int) < (l.length:Int)):=by omega
  have hok:=Hs (l.take i) [] [] ⟨rfl,by simp,by simp,by simp⟩ λy z=>h y (b0 z)
  simp only [cv] at hok
  have hlen:=hok.len
  simp only [bp n,List.foldl_append,List.foldl_cons,List.foldl_nil]
  generalize w:(l.take i).foldl HJ []=rs at*
  simp only [cb] at hlen
  have a:=au (i:=i) (by omega)
  unfold o7
  simp only [af,ai,al,k,decide_true,ah,ab,o,p,cC,a2]
  unfold HJ
  cases j:rs.getLast? with
  | none=>
    rw [c9] at j
    subst j
    have e:aa .sub (.int .i64 ((([]:List Rn).length:Nat):Int)) (.int .i64 1)=some (.int .i64 (-1)):=rfl
    have g:aa .geq (.int .i64 (-1)) (.int .i64 0)=some (.bool false):=rfl
    have c:=Rt (l:=[]) (r:=(x,1)) (by decide)
    simp only [eRn] at c
    simp only [e,g,ab,ag,af,a,cv] at c ⊢
    have t:bX 2 16 (xu []) (.lst [[.int .u64 (x:Int),.int .i64 1]])=some (xu [(x,1)]):=c
    rw [t];rfl
  | some r=>
    obtain ⟨ini,b⟩:=c8.1 j
    have f:0 < rs.length:=by rw [b];simp
    have d:rs[rs.length - 1]? =some r:=by rw [b];simp
    obtain ⟨A,b2,q,s⟩:=Qp d
    have e:=qi (i:=rs.length) (by omega) f
    have g:aa .geq (.int .i64 ((rs.length - 1:Nat):Int)) (.int .i64 0)=some (.bool true):=by rw [dk];simp
    have u:cx rs.length (.int .i64 ((rs.length - 1:Nat):Int))=some (rs.length - 1):=fi (by omega)
    simp only [e,g,ab,ah,u,q,dc]
    by_cases hr:r.1=x
    ·have h1:((r.1:Int)=(x:Int)):=by omega
     have hc:r.2<=l.length:=by
      have h2:(ad r.2 r.1).length<=(sprR rs).length:=by
       rw [b];simp [sprR]
      rw [hok.spr] at h2
      simp at h2;omega
     have v:aa .add (.int .i64 (r.2:Int)) (.int .i64 1)=some (.int .i64 ((r.2+1:Nat):Int)):=au (by omega)
     have m:rI (xu rs) (rs.length - 1) 1 [.int .i64 ((r.2+1:Nat):Int)]=some (xu (rs.set (rs.length - 1) (r.1,r.2+1))):=by
      simp only [rI,ds,d,b3,ab]
      rw [if_pos (by simp [eRn])]
      simp [setCells,eRn,List.map_set]
     simp only [h1,decide_true,af,ah,s,ab,v,m,a,hr,if_true]
    ·have h1: ¬((r.1:Int)=(x:Int)):=by omega
     have c:bX 2 16 (xu rs) (.lst [[.int .u64 (x:Int),.int .i64 1]])=some (xu (rs++[(x,1)])):=Rt (r:=(x,1)) (by omega)
     simp only [h1,decide_false,af,ag,ab,c,a,hr,if_false]
def U4 (r:Rn):Byt:=bt r.1++bt r.2
def ph (l:List Nat):Byt:=(cL l).flatMap U4
theorem Yh {l:List Nat} {rs:List Rn} (h:OkR l rs) {i:Nat} {r:Rn} (hr:rs[i]? =some r):r.2+(sprR (rs.take i)).length<=l.length:=by
 have hi:=(aB.1 hr).1
 have:(sprR (rs.take (i+1))).length<=(sprR rs).length:=by
  conv=>rhs;rw [<-b7 (i+1) rs]
  unfold sprR
  rw [cO,bd]
  exact Nat.le_add_right _ _
 rw [bp hr,h.spr] at this
 simp [sprR] at this ⊢
 omega
theorem Yf {r:Rn} (h1:r.1 < 2 ^ 64) (h2:r.2 < 2 ^ 64):(U4 r).length<=20:=by
 have:=bE h1;have:=bE h2
 simp [U4];omega
theorem OkR.cmax {l:List Nat} {rs:List Rn} (h:OkR l rs) (hl:l.length < 2 ^ 16): ∀r∈rs,r.2 < 2 ^ 16:= λr hr=>by
 obtain ⟨i,hi⟩:=bx.1 hr
 have:=Yh h hi
 omega
theorem BJ {l:List Nat} (hl:l.length < 2 ^ 16) (h: ∀x∈l,x < 2 ^ 64):(ph l).length<=20*l.length:=by
 have hok:=Xw h
 have h1:=lD (f:=U4) (l:=cL l) (k:=20) λr hr=>Yf (hok.val r hr) (by have:=hok.cmax hl r hr;omega)
 have h2:=hok.len
 unfold ph;omega
theorem AQ {l:List Nat} (hl:l.length < 2 ^ 16) (h: ∀x∈l,x < 2 ^ 64):kp (NF l)=some [B (ph l)]:=by
 have hok:=Xw h
 have hlen:=hok.len
 have c:=hok.cmax hl
 unfold kp
 simp only [WE hl h,ab,af,aw,a2]
 rw [ba (λi=>[.nilp,.lst ((((cL l).take i).flatMap U4).map eB),.int .i64 (i:Int)]) (cL l).length 0 [.nilp,.lst ((ph l).map eB)] (by simp) (by omega) (λi hi=> ?_) (by
  unfold ur
  simp [ph])]
 ·simp only [ab,aK,ai,oO]
  rfl
 ·have d:=ao hi
  generalize (cL l)[i]=r at d
  have hr:=a6 d
  obtain ⟨p,b2,s,t⟩:=Qp d
  have g:((i:Int) < ((cL l).length:Int)):=by omega
  have h1:=hok.val r hr
  have h2:=c r hr
  have e:=lD (f:=U4) (l:=(cL l).take i) (k:=20) λq o=>Yf (hok.val q (b0 o)) (by have:=c q (b0 o);omega)
  have u:=bE h1
  have v:=bE (n:=r.2) (by omega)
  simp only [cb] at e
  have j:=xw (x:= .nilp) (a:=((cL l).take i).flatMap U4) (b:=bt r.1) (by omega)
  have m:=xw (x:= .nilp) (a:=((cL l).take i).flatMap U4++bt r.1) (b:=bt r.2) (by rw [bd];omega)
  unfold ur
  simp only [af,ai,ay,al,g,decide_true,ah,ab,p,b2,eRn,fw h1,j,fp (show r.2 < 2 ^ 64 by omega),fw (show r.2 < 2 ^ 64 by omega),m,au (show i < 2 ^ 62 by omega),qk d,U4,bO]
end Go.AM
namespace Go.AM
theorem Qz {a b:Nat} (h:a*b < 2 ^ 64):aa .mul (.int .u64 (a:Int)) (.int .u64 (b:Int))=some (.int .u64 ((a*b:Nat):Int)):=by
 simp only [aa,bZ,if_true]
 rw [<-Int.natCast_mul,yU h]
theorem E1 {n:Nat} (h:n < 2 ^ 32):qm (.int .u64 1) (.int .u64 (n:Int))=some [.int .u64 0,.int .u64 (n:Int)]:=by
 have c:aa .and (.int .u64 1) (.int .u64 4294967295)=some (.int .u64 1):=rfl
 have d:aa .shr (.int .u64 1) (.int .u64 32)=some (.int .u64 0):=rfl
 have f:aa .and (.int .u64 (n:Int)) (.int .u64 4294967295)=some (.int .u64 (n:Int)):=by
  have e:n&&&4294967295=n:=by
   have:=Nat.and_two_pow_sub_one_eq_mod n 32
   rw [show (2:Nat) ^ 32 - 1=4294967295 from rfl,bm h] at this
   exact this
  have:=qh (a:=n) (b:=4294967295) (by omega) (by decide)
  rw [e] at this;exact this
 have g:aa .shr (.int .u64 (n:Int)) (.int .u64 32)=some (.int .u64 0):=by
  have:=mC (a:=n) (b:=32) (k:= .u64) (by decide)
  rw [Nat.div_eq_of_lt h] at this;exact this
 have i:aa .mul (.int .u64 1) (.int .u64 (n:Int))=some (.int .u64 (n:Int)):=by
  have:=Qz (a:=1) (b:=n) (by omega)
  rw [Nat.one_mul] at this;exact this
 have j:aa .mul (.int .u64 0) (.int .u64 (n:Int))=some (.int .u64 0):=by
  have:=Qz (a:=0) (b:=n) (by omega)
  rw [Nat.zero_mul] at this;exact this
 have l:aa .add (.int .u64 0) (.int .u64 0)=some (.int .u64 0):=rfl
 have b2:aa .and (.int .u64 0) (.int .u64 4294967295)=some (.int .u64 0):=rfl
 have m:aa .shr (.int .u64 0) (.int .u64 32)=some (.int .u64 0):=rfl
 have o:aa .mul (.int .u64 1) (.int .u64 0)=some (.int .u64 0):=rfl
 have p:aa .mul (.int .u64 0) (.int .u64 0)=some (.int .u64 0):=rfl
 unfold qm sJ
 simp only [c,d,f,g,i,j,l,b2,m,o,p,ab,wo,dm,b3,af,ai]
theorem aat {x z:IV} {m n:Nat} (h:m<=n):pT 1 (.lst (ad m [x]++ad (n - m) [z])) m n (DW (.lst (ad m [x]++ad (n - m) [z])) 0 m)=some (.lst (ad (m+min (n - m) m) [x]++ad (n - (m+min (n - m) m)) [z]),.int .i64 ((min (n - m) m:Nat):Int)):=by
 have a:(ad m [x]++ad (n - m) [z]).take m=ad m [x]:=List.take_left' (by simp)
 simp only [ZQ,fl,fv,a,pT,bb]
 rw [if_pos ⟨h,by simp;omega,by simp⟩]
 have b:(ad m [x]++ad (n - m) [z]).drop (m+min (n - m) m)=ad (n - (m+min (n - m) m)) [z]:=by
  rw [List.drop_append]
  simp
  omega
 simp only [bb,b,List.take_replicate]
 rw [List.replicate_append_replicate,Nat.min_eq_left (Nat.min_le_right _ _)]
theorem Kw {x z:IV} {n:Nat} (hn:n < 2 ^ 16): ∀(j m:Nat),1<=m->m<=n->n - m < j->iter j bP [.lst (ad m [x]++ad (n - m) [z]),.int .i64 (m:Int)]=some (0,[.lst (ad n [x])])
 | 0,m,_,_,h=>by omega
 | j+1,m,h1,h2,c=>by
   by_cases h:m=n
   ·subst h
    refine ep j ?_
    unfold bP
    simp
   ·have b:((m:Int) < (n:Int)):=by omega
    have hl:(ad m [x]++ad (n - m) [z]).length=n:=by simp;omega
    have a:aa .add (.int .i64 (m:Int)) (.int .i64 ((min (n - m) m:Nat):Int))=some (.int .i64 ((m+min (n - m) m:Nat):Int)):=sS (by omega)
    rw [jd j (vs':=[.lst (ad (m+min (n - m) m) [x]++ad (n - (m+min (n - m) m)) [z]),.int .i64 ((m+min (n - m) m:Nat):Int)])]
    ·exact Kw hn j _ (by omega) (by omega) (by omega)
    ·unfold bP
     simp only [af,ai,cC,hl,al,b,decide_true,ah,ab,Az (show m<=n from h2),Ly (show m<=n from h2),aat h2,a]
theorem Zp {x:IV} {n:Nat} (hn:n < 2 ^ 16):di (.lst [[x]]) (.int .i64 (n:Int))=some [.lst (ad n [x])]:=by
 have e0: ¬((n:Int) < 0):=by omega
 have a:aC (.lst [[x]])=some (.int .i64 1):=rfl
 have b:bL .u64 (.int .i64 1)=some (.int .u64 1):=rfl
 have c:aa .gtr (.int .u64 0) (.int .u64 0)=some (.bool false):=rfl
 have d: ¬((9223372036854775807:Int) < (n:Int)):=by omega
 have e:kQ 8 [.int .u64 0] (.int .i64 (n:Int)) (.int .i64 (n:Int))=some (.lst (ad n [.int .u64 0])):=by
  simp only [kQ]
  rw [if_pos ⟨trivial,by omega,by simp;omega⟩];simp
 have f:pT 1 (.lst (ad n [.int .u64 0])) 0 n (.lst [[x]])=some (.lst (ad (min n 1) [x]++ad (n - min n 1) [.int .u64 0]),.int .i64 ((min n 1:Nat):Int)):=by
  simp only [pT]
  rw [if_pos ⟨e8 _,by simp,by simp⟩]
  have:([[x]]:List (List IV)).take (min n 1)=ad (min n 1) [x]:=by
   rcases br n with h | h
   ·subst h;rfl
   ·rw [cc h];rfl
  simp [this]
 unfold di
 simp only [al,e0,decide_false,ab,ag,a,b,fp (show n < 2 ^ 64 by omega),E1 (show n < 2 ^ 32 by omega),af,ai,c,aV,d,kX (show n < 2 ^ 63 by omega),e,cC,bb,f]
 rcases br n with h | h
 ·subst h
  rw [show rounds=999999+1 from rfl,ep 999999 (k:=0) (o:=[.lst []])]
  ·rfl
  ·unfold bP
   simp
 ·rw [cc h,Kw hn rounds 1 (b6 _) h (by rw [aJ];omega)]
  rfl
theorem Wv {x:IV} {n:Nat} (hn:n < 2 ^ 16):ei (.lst [[x]]) (.int .i64 (n:Int))=some [.lst (ad n [x])]:=by
 have e0: ¬((n:Int) < 0):=by omega
 have b:aC (.lst [[x]])=some (.int .i64 1):=rfl
 have c:bL .u64 (.int .i64 1)=some (.int .u64 1):=rfl
 have d:aa .gtr (.int .u64 0) (.int .u64 0)=some (.bool false):=rfl
 have e: ¬((9223372036854775807:Int) < (n:Int)):=by omega
 have f:kQ 1 [.bool false] (.int .i64 (n:Int)) (.int .i64 (n:Int))=some (.lst (ad n [.bool false])):=by
  simp only [kQ]
  rw [if_pos ⟨trivial,by omega,by simp;omega⟩];simp
 have g:pT 1 (.lst (ad n [.bool false])) 0 n (.lst [[x]])=some (.lst (ad (min n 1) [x]++ad (n - min n 1) [.bool false]),.int .i64 ((min n 1:Nat):Int)):=by
  simp only [pT]
  rw [if_pos ⟨e8 _,by simp,by simp⟩]
  have:([[x]]:List (List IV)).take (min n 1)=ad (min n 1) [x]:=by
   rcases br n with h | h
   ·subst h;rfl
   ·rw [cc h];rfl
  simp [this]
 have a:pS=bP:=rfl
 unfold ei
 simp only [al,e0,decide_false,ab,ag,b,c,fp (show n < 2 ^ 64 by omega),E1 (show n < 2 ^ 32 by omega),af,ai,d,aV,e,kX (show n < 2 ^ 63 by omega),f,cC,bb,g,a]
 rcases br n with h | h
 ·subst h
  rw [show rounds=999999+1 from rfl,ep 999999 (k:=0) (o:=[.lst []])]
  ·rfl
  ·unfold bP
   simp
 ·rw [cc h,Kw hn rounds 1 (b6 _) h (by rw [aJ];omega)]
  rfl
theorem TE {l:List Nat} {rs:List Rn} (h:OkR l rs) (hl:rs.length < 2 ^ 16):uv (xu rs)=some [.bool true]:=by
 unfold uv
 simp only [aw,ab,a2]
 rw [ba (λi=>[.int .i64 (i:Int)]) rs.length 0 [] (by simp) (by omega) (λi hi=> ?_) (by
  unfold AN
  simp)]
 ·rfl
 ·have b:=ao hi
  generalize rs[i]=r at b
  obtain ⟨e,b2,g,j⟩:=Qp b
  have c:((i:Int) < (rs.length:Int)):=by omega
  have hc: ¬((r.2:Int) < 1):=by have:=h.cnt r (a6 b);omega
  have hs:=au (i:=i) (by omega)
  unfold AN
  simp only [af,ai,al,c,decide_true,ah,ab,e,b2,eRn,hc,decide_false,ag,aV]
  by_cases h0:(0:Int) < (i:Int)
  ·have d:=ao (show i - 1 < rs.length by omega)
   generalize rs[i - 1]=q at d
   obtain ⟨c1,c2,c3,c4⟩:=Qp d
   have f:=h.adj (i - 1) q r d (by rw [show i - 1+1=i by omega];exact b)
   have a: ¬((q.1:Int)=(r.1:Int)):=by omega
   simp only [h0,decide_true,ah,qi (i:=i) (by omega) (by omega),ab,c1,c3,dc,a,decide_false,af,ag,hs]
  ·simp only [h0,decide_false,ag,ab,af,hs]
theorem Ni {l:List Nat} {rs:List Rn} (h:OkR l rs) (hl:l.length < 2 ^ 16):m9 (xu rs) (.int .i64 (l.length:Int))=some [NF l,.bool true]:=by
 have hlen:=h.len
 have e0: ¬((l.length:Int) < 0):=by omega
 unfold m9
 simp only [TE h (by omega),ab,af,aZ,Bool.not_true,ag,al,e0,decide_false,aw,a2]
 rw [ba (λi=>[NF (sprR (rs.take i)),.int .i64 (i:Int)]) rs.length 0 [NF l] (by simp [sprR]) (by omega) (λi hi=> ?_) (by
  unfold tP
  simp [h.spr])]
 ·rfl
 ·have c:=ao hi
  generalize rs[i]=r at c
  obtain ⟨j,b2,n,o⟩:=Qp c
  have d:((i:Int) < (rs.length:Int)):=by omega
  have g:=Yh h c
  have b:aa .sub (.int .i64 (l.length:Int)) (.int .i64 ((sprR (rs.take i)).length:Int))=some (.int .i64 ((l.length - (sprR (rs.take i)).length:Nat):Int)):=qE (by omega) (by omega)
  have f: ¬(((l.length - (sprR (rs.take i)).length:Nat):Int) < (r.2:Int)):=by omega
  have a:=ach (l:=sprR (rs.take i)) (k:=ad r.2 r.1) (by omega) (by simp;omega)
  have e:NF (ad r.2 r.1)= .lst (ad r.2 [.int .u64 (r.1:Int)]):=by simp [eU]
  rw [e] at a
  have m:sprR (rs.take (i+1))=sprR (rs.take i)++ad r.2 r.1:=by rw [bp c];simp [sprR]
  unfold tP
  simp only [af,ai,al,d,decide_true,ah,ab,j,b2,eRn,cC,a2,b,aV,f,decide_false,ag,Zp (show r.2 < 2 ^ 16 by omega),a,au (show i < 2 ^ 62 by omega),m]
theorem aaF {l:List Nat} {rs:List Rn} (h:OkR l rs) {i:Nat} {r:Rn} (hr:rs[i]? =some r):(sprR (rs.drop i)).length=r.2+(sprR (rs.drop (i+1))).length:=by
 have hi:=(aB.1 hr).1
 rw [bA hi,(aB.1 hr).2]
 simp only [sprR,bC,bd,bb]
theorem afj {l:List Nat} {rs:List Rn} (h:OkR l rs) (i:Nat):(sprR (rs.drop i)).length<=l.length:=by
 have:(sprR (rs.drop i)).length<=(sprR rs).length:=by
  conv=>rhs;rw [<-b7 i rs]
  unfold sprR
  rw [cO,bd]
  exact Nat.le_add_left _ _
 rw [h.spr] at this;exact this
theorem zX {l:List Nat} (hl:l.length<=4096) (h: ∀x∈l,x < 2 ^ 64):kG (B (ph l)) (.int .i64 (l.length:Int))=some [NF l,.int .i64 0]:=by
 have hok:=Xw h
 have hlen:=hok.len
 have e0: ¬((l.length:Int) < 0):=by omega
 have A: ¬((4096:Int) < (l.length:Int)):=by omega
 have m:cn (B (ph l))=some [B (ph l),.int .i64 0]:=rfl
 unfold kG
 simp only [al,e0,decide_false,ab,ag,aV,A,m,af,ai]
 rw [ba (λi=>[B (((cL l).drop i).flatMap U4),.int .i64 0,xu ((cL l).take i),.int .i64 ((sprR ((cL l).drop i)).length:Int)]) (cL l).length 0 [xu (cL l),.int .i64 0] (by simp [ph,hok.spr]) (by omega) (λi hi=> ?_) (by
  unfold tL
  simp [qx,sprR])]
 ·have C:aa .gtr (.int .i64 0) (.int .i64 0)=some (.bool false):=rfl
  simp only [ab,aK,af,ai,C,ag,Ni hok (show l.length < 2 ^ 16 by omega)]
 ·have g:=ao hi
  generalize (cL l)[i]=r at g
  have hm:=a6 g
  have G:=sP (f:=U4) g
  have hv:=hok.val r hm
  have hc:=hok.cmax (by omega) r hm
  have F:=hok.cnt r hm
  have s:=yu hv (bt r.2++((cL l).drop (i+1)).flatMap U4)
  have t:=yu (n:=r.2) (by omega) (((cL l).drop (i+1)).flatMap U4)
  have hb:((cL l).drop i).flatMap U4=bt r.1++(bt r.2++((cL l).drop (i+1)).flatMap U4):=by rw [G];simp [U4]
  have o:(0:Int) < ((((cL l).drop i).flatMap U4).length:Int):=by
   rw [hb];have:=EU r.1;simp;omega
  have hdr: ∀a b c:IV,([a,b,c]:List IV).drop 2=[c]:= λ_ _ _=>rfl
  have z:=aaF hok g
  have y:=afj hok i
  have H: ¬((r.2:Int)=0):=by omega
  have I: ¬(((sprR ((cL l).drop i)).length:Int) < (r.2:Int)):=by omega
  have d:aa .sub (.int .i64 ((sprR ((cL l).drop i)).length:Int)) (.int .i64 (r.2:Int))=some (.int .i64 ((sprR ((cL l).drop (i+1))).length:Int)):=by
   rw [qE (by omega) (by omega)];congr 2;omega
  have e:=Rt (l:=(cL l).take i) (r:=r) (by simp;omega)
  simp only [eRn] at e
  have u:((cL l).take i).length=i:=by simp;omega
  have j:aa .neq (.int .i64 0) (.int .i64 0)=some (.bool false):=rfl
  rw [bp g]
  unfold tL
  simp only [af,ai,ay,aH,qx,ab,aV,o,decide_true,ah]
  rw [hb]
  simp only [s,t,ab,af,ai,yy,j,ag,hdr,dc,H,aV,decide_false,fp (show (sprR ((cL l).drop i)).length < 2 ^ 64 by omega),I,cC,a2,u]
  rcases br i with h0 | h0
  ·subst h0
   have D:aa .sub (.int .i64 ((0:Nat):Int)) (.int .i64 1)=some (.int .i64 (-1)):=rfl
   have p:aa .geq (.int .i64 (-1)) (.int .i64 0)=some (.bool false):=rfl
   simp only [D,p,ab,ag,af,kX (show r.2 < 2 ^ 63 by omega),d,e]
  ·have v:=ao (show i - 1 < (cL l).length by omega)
   generalize (cL l)[i - 1]=q at v
   have w:((cL l).take i)[i - 1]? =some q:=by rw [List.getElem?_take_of_lt (by omega)];exact v
   obtain ⟨c1,c2,c3,c4⟩:=Qp w
   have j:=hok.adj (i - 1) q r v (by rw [show i - 1+1=i by omega];exact g)
   have k: ¬((q.1:Int)=(r.1:Int)):=by omega
   have p:aa .geq (.int .i64 ((i - 1:Nat):Int)) (.int .i64 0)=some (.bool true):=by rw [dk];simp
   have E:cx i (.int .i64 ((i - 1:Nat):Int))=some (i - 1):=fi (by omega)
   simp only [qi (i:=i) (by omega) h0,p,ab,ah,E,c3,dc,k,decide_false,ag,af,kX (show r.2 < 2 ^ 63 by omega),d,e]
end Go.AM
namespace Go.AM
def eBl (b:Bool):List IV:=[.bool b]
abbrev s8 (l:List Bool):IV:= .lst (l.map eBl)
theorem YL {l:List Bool} {i:Nat} {x:Bool} (h:l[i]? =some x):aP (s8 l) (.int .i64 (i:Int)) 1=some i/\dV (s8 l) i 0=some (.bool x):=
 ⟨ee h rfl (by decide),by rw [cg h];rfl⟩
theorem acV {l k:List Bool} (hl:l.length < 2 ^ 20) (hk:k.length < 2 ^ 20):bX 1 1 (s8 l) (s8 k)=some (s8 (l++k)):=by
 simp only [bX]
 rw [if_pos ⟨by simp;omega,by simp [eBl]⟩]
 simp
abbrev nI (ns:List Nat):List Int:=ns.map λ(n:Nat)=>(n:Int)
def sprB:Bool->List Nat->List Bool
 | _,[]=>[]
 | b,n::ns=>ad n b++sprB (!b) ns
def y4:Bool->List Bool->List Nat
 | _,[]=>[]
 | b,x::l=>if x=b then (match y4 b l with | []=>[1] | n::ns=>(n+1)::ns) else 0::(match y4 x l with | []=>[1] | n::ns=>(n+1)::ns)
theorem Ss: ∀(l:List Bool) (b:Bool),sprB b (y4 b l)=l/\(∀n∈(y4 b l).tail,1<=n)/\y4 b l≠[0]
 | [],b=>⟨rfl,by simp [y4],by simp [y4]⟩
 | x::l,b=>by
   unfold y4
   by_cases h:x=b
   ·subst h
    obtain ⟨h1,h2,c⟩:=Ss l x
    rw [if_pos rfl]
    cases hl:y4 x l with
    | nil=>rw [hl] at h1;simp only [sprB] at h1;subst h1;simp [sprB]
    | cons n ns=>
      rw [hl] at h1 h2
      simp only [sprB] at h1 ⊢
      refine ⟨by rw [c5,e5,h1],by simpa using h2,by simp⟩
   ·rw [if_neg h]
    have a:x= !b:=by cases x<;>cases b<;>simp_all
    obtain ⟨h1,h2,c⟩:=Ss l x
    cases hl:y4 x l with
    | nil=>rw [hl] at h1;simp only [sprB] at h1;subst h1;simp [sprB,a]
    | cons n ns=>
      rw [hl] at h1 h2
      simp only [sprB,List.replicate_zero,cv,<-a] at h1 ⊢
      refine ⟨by rw [c5,e5,h1],λm hm=> ?_,by simp⟩
      rcases e1.1 hm with rfl | hm
      ·omega
      ·exact h2 m hm
def Nj (i:Nat):Bool:=decide (i % 2=1)
theorem Aw (i:Nat):Nj (i+1)= !Nj i:=by unfold Nj;by_cases h:i % 2=1<;>simp [h]<;>omega
theorem QK: ∀(ns:List Nat) (b:Bool) (i n:Nat),ns[i]? =some n->sprB b (ns.take (i+1))=sprB b (ns.take i)++ad n (b ^^ Nj i)
 | [],_,_,_,h=>by simp at h
 | m::ns,b,0,n,h=>by simp at h;subst h;simp [sprB,Nj]
 | m::ns,b,i+1,n,h=>by
   have ih:=QK ns (!b) i n (by simpa using h)
   simp only [List.take_succ_cons,sprB]
   rw [ih,<-bO,Aw]
   congr 2
   cases b<;>cases Nj i<;>rfl
theorem FK: ∀(ns:List Nat) (b:Bool),(sprB b ns).length=ns.sum
 | [],_=>rfl
 | n::ns,b=>by simp [sprB,FK ns]
theorem Bk {ns:List Nat} {i n:Nat} (h:ns[i]? =some n):(ns.drop i).sum=n+(ns.drop (i+1)).sum:=by
 have hi:=(aB.1 h).1
 rw [bA hi,(aB.1 h).2];simp
theorem BV (ns:List Nat) (i:Nat):(ns.take i).sum+(ns.drop i).sum=ns.sum:=by
 conv=>rhs;rw [<-b7 i ns]
 rw [List.sum_append]
structure OkB (l:List Bool) (ns:List Nat):Prop where
 spr:sprB false ns=l
 pos: ∀i n,ns[i]? =some n->0 < i->1<=n
 one:ns≠[0]
theorem FZ (l:List Bool):OkB l (y4 false l):=by
 obtain ⟨h1,h2,a⟩:=Ss l false
 refine ⟨h1,λi n hn h0=> ?_,a⟩
 refine h2 n ?_
 cases hl:y4 false l with
 | nil=>rw [hl] at hn;simp at hn
 | cons m ms=>
   rw [hl] at hn
   obtain ⟨j,rfl⟩: ∃j,i=j+1:=⟨i - 1,by omega⟩
   exact a6 (by simpa using hn)
theorem OkB.sum {l:List Bool} {ns:List Nat} (h:OkB l ns):ns.sum=l.length:=by rw [<-h.spr,FK]
theorem OkB.len {l:List Bool} {ns:List Nat} (h:OkB l ns):ns.length<=l.length+1:=by
 rw [<-h.sum]
 cases ns with
 | nil=>simp
 | cons n ns=>
   have: ∀ns:List Nat,(∀n∈ns,1<=n)->ns.length<=ns.sum:=by
    intro ns
    induction ns with
    | nil=>simp
    | cons m ms ih=>intro hm;have:=ih λq a=>hm q (bB _ a);have:=hm m bs;simp;omega
   have:=this ns λm hm=>by
    obtain ⟨i,hi⟩:=bx.1 hm
    exact h.pos (i+1) m (by simpa using hi) (by omega)
   simp;omega
theorem OkB.rest {l:List Bool} {ns:List Nat} (h:OkB l ns) {i:Nat} (hi:i < ns.length):0 < (ns.drop i).sum:=by
 have a:=ao hi
 generalize ns[i]=n at a
 rw [Bk a]
 by_cases h0:0 < i
 ·have:=h.pos i n a h0;omega
 ·obtain rfl:i=0:=by omega
  by_cases hn:n=0
  ·subst hn
   cases ns with
   | nil=>simp at hi
   | cons m ms=>
     simp at a;subst a
     cases ms with
     | nil=>exact absurd rfl h.one
     | cons k ks=>have:=h.pos 1 k rfl (by omega);simp;omega
  ·omega
theorem W7 {l:List Bool} (hl:l.length < 2 ^ 16) (b:Bool):fe (s8 l) (.bool b)=some [.int .i64 (Qx (λx=>b==x) l)]:=by
 unfold fe
 simp only [aw,ab,a2]
 rw [lI (λi=>[.int .i64 (i:Int)]) (λx=>b==x) 1 (λi=>[.int .i64 (i:Int)]) 0 [] l (by simp) (by have:=aJ;omega) (λi x c=> ?_) (by
  unfold ll
  simp)]
 ·unfold Qx
  cases l.findIdx? λx=>b==x with
  | none=>rfl
  | some i=>rfl
 ·obtain ⟨d,e⟩:=YL c
  have a:((i:Int) < (l.length:Int)):=by have:=(aB.1 c).1;omega
  unfold ll
  simp only [af,al,a,decide_true,ah,ab,d,e,YW,db,au (show i < 2 ^ 62 by omega)]
  by_cases h:(b==x)=true<;>simp [h]
theorem aeO {n:Nat} {b:Bool} {ns:List Nat} (a: ∀m∈ns,1<=m):Qx (λx=>(!b)==x) (sprB b (n::ns))=if ns=[] then -1 else (n:Int):=by
 have h1: ∀k:Nat,(ad k b).findIdx? (λx=>(!b)==x)=none:= λk=>by
  rw [List.findIdx?_eq_none_iff]
  intro x c
  rw [List.eq_of_mem_replicate c];cases b<;>rfl
 unfold Qx
 simp only [sprB,List.findIdx?_append,h1]
 cases ns with
 | nil=>simp [sprB]
 | cons m ms=>
   obtain ⟨k,hk⟩: ∃k,m=k+1:=⟨m - 1,by have:=a m bs;omega⟩
   subst hk
   simp [sprB,c5,List.findIdx?_cons]
theorem aaO {l:List Bool} {i:Nat} (hi:i<=l.length):kT 1 (s8 l) (some (.int .i64 (i:Int))) none=some (s8 (l.drop i)):=by
 simp only [kT]
 rw [if_pos (by simp [eBl])]
 simp only [a2,Az hi,ab]
 rw [<-List.map_drop,<-List.map_take,b4 (by simp)]
theorem GS {l:List Bool} (hl:l.length < 2 ^ 15):j7 (s8 l)=some [bQ (nI (y4 false l))]:=by
 have hok:=FZ l
 generalize y4 false l=ns at hok
 have hlen:=hok.len
 have p:=hok.sum
 unfold j7
 rw [ba (λi=>[s8 (sprB (Nj i) (ns.drop i)),bQ (nI (ns.take i)),.bool (!Nj i)]) ns.length 0 [bQ (nI ns)] (by simp [Nj,hok.spr]) (by omega) (λi hi=> ?_) (by
  unfold qt
  simp [sprB])]
 ·rfl
 ·have o:=ao hi
  have g:ns.drop i=ns[i]::ns.drop (i+1):=bA hi
  generalize ns[i]=n at o g
  have t:=BV ns i
  have k:=Bk o
  have hr:=hok.rest hi
  have s:(sprB (Nj i) (ns.drop i)).length=(ns.drop i).sum:=FK _ _
  have f:(0:Int) < ((sprB (Nj i) (ns.drop i)).length:Int):=by omega
  have c: ∀m∈ns.drop (i+1),1<=m:= λm hm=>by
   obtain ⟨j,hj⟩:=bx.1 hm
   rw [List.getElem?_drop] at hj
   exact hok.pos _ m hj (by omega)
  have e:=W7 (l:=sprB (Nj i) (ns.drop i)) (by omega) (!Nj i)
  rw [g,aeO c,<-g] at e
  have d:=tZ (l:=nI (ns.take i)) (n:=(n:Int)) (by simp;omega)
  have q:nI (ns.take (i+1))=(nI (ns.take i))++[(n:Int)]:=by rw [bp o];simp
  have b:(sprB (Nj i) (ns.drop i)).drop n=sprB (Nj (i+1)) (ns.drop (i+1)):=by
   rw [g,Aw];simp only [sprB];rw [List.drop_left' (by simp)]
  have a:=aaO (l:=sprB (Nj i) (ns.drop i)) (i:=n) (by omega)
  rw [b] at a
  unfold qt
  simp only [af,ai,ay,aw,a2,ab,aV,f,decide_true,ah,aZ,Bool.not_not,e,al,q]
  by_cases hn:ns.drop (i+1)=[]
  ·have r:(sprB (Nj i) (ns.drop i)).length=n:=by rw [s,k,hn];rfl
   have h:decide ((-1:Int) < 0)=true:=rfl
   simp only [hn,if_true,h,ah,r,d,ab] at a ⊢
   rw [a,Aw];simp
  ·have h: ¬((n:Int) < 0):=by omega
   simp only [hn,if_false,h,decide_false,ag,a,d,ab]
   rw [Aw];simp
def rG (l:List Bool):Byt:=(y4 false l).flatMap bt
theorem OkB.max {l:List Bool} {ns:List Nat} (h:OkB l ns) {i n:Nat} (hn:ns[i]? =some n):n<=l.length:=by
 have h1:=BV ns i;have h2:=Bk hn;rw [h.sum] at h1;omega
theorem Dr {l:List Bool} (hl:l.length < 2 ^ 15):(rG l).length<=10*(l.length+1):=by
 have hok:=FZ l
 have h1:=lD (f:=bt) (l:=y4 false l) (k:=10) λn hn=>by
  obtain ⟨i,hi⟩:=bx.1 hn
  exact bE (by have:=hok.max hi;omega)
 have h2:=hok.len
 unfold rG;omega
theorem Jf {l:List Bool} (hl:l.length < 2 ^ 15):lg (s8 l)=some [B (rG l)]:=by
 have hok:=FZ l
 unfold lg
 simp only [GS hl,ab,af,aw,a2]
 unfold rG
 generalize y4 false l=ns at hok
 have hlen:=hok.len
 rw [ba (λi=>[.nilp,.lst (((ns.take i).flatMap bt).map eB),.int .i64 (i:Int)]) ns.length 0 [.nilp,.lst ((ns.flatMap bt).map eB)] (by simp) (by omega) (λi hi=> ?_) (by
  unfold rB
  simp)]
 ·simp only [ab,aK,ai,oO];rfl
 ·have c:=ao hi
  generalize ns[i]=n at c
  have q:=hok.max c
  have h:(nI ns)[i]? =some (n:Int):=by rw [ds,c];rfl
  obtain ⟨_,o,b2,p⟩:=pH h
  have e:((i:Int) < (ns.length:Int)):=by omega
  have d:=lD (f:=bt) (l:=ns.take i) (k:=10) λm hm=>by
   obtain ⟨j,hj⟩:=bx.1 (b0 hm)
   exact bE (by have:=hok.max hj;omega)
  have r:=bE (n:=n) (by omega)
  simp only [cb] at d
  have g:=xw (x:= .nilp) (a:=(ns.take i).flatMap bt) (b:=bt n) (by omega)
  unfold rB
  simp only [af,ai,ay,al,e,decide_true,ah,ab,o,p,fp (show n < 2 ^ 64 by omega),fw (show n < 2 ^ 64 by omega),g,au (show i < 2 ^ 62 by omega),qk c]
theorem J5 {l:List Bool} {ns:List Nat} (h:OkB l ns) (hl:l.length < 2 ^ 15):k9 (bQ (nI ns)) (.int .i64 (l.length:Int))=some [s8 l,.bool true]:=by
 have hlen:=h.len
 have e0: ¬((l.length:Int) < 0):=by omega
 have d:((aa .eql (.int .i64 ((ns.length:Nat):Int)) (.int .i64 1)).bind λw=>
   ae w (λ_=>(aP (bQ (nI ns)) (.int .i64 0) 1).bind λy=>(dV (bQ (nI ns)) y 0).bind λz=>(aa .eql z (.int .i64 0)).bind λA=>some [A]) (λ_=>some [.bool false]))=some [.bool false]:=by
  rw [dc,ab]
  by_cases h1:ns.length=1
  ·obtain ⟨n,rfl⟩:=List.length_eq_one_iff.1 h1
   have q:n≠0:= λe=>h.one (by rw [e])
   obtain ⟨_,o,b2,m⟩:=pH (l:=[(n:Int)]) (i:=0) (x:=(n:Int)) rfl
   have a:aP (bQ [(n:Int)]) (.int .i64 0) 1=some 0:=o
   have h2: ¬((n:Int)=0):=by omega
   simp only [ca,List.length_nil,List.map_cons,List.map_nil] at a m ⊢
   simp [a,m,q]
  ·have: ¬((ns.length:Int)=1):=by omega
   simp [this]
 unfold k9
 simp only [al,e0,decide_false,ab,ag,aw,a2]
 rw [d]
 simp only [ab,af,ag]
 rw [ba (λi=>[s8 (sprB false (ns.take i)),.bool (!Nj i),.int .i64 (i:Int)]) ns.length 0 [s8 l] (by simp [sprB,Nj]) (by omega) (λi hi=> ?_) (by
  unfold rL
  simp [h.spr])]
 ·rfl
 ·have j:=ao hi
  generalize ns[i]=n at j
  have t:(nI ns)[i]? =some (n:Int):=by rw [ds,j];rfl
  obtain ⟨_,o,b2,m⟩:=pH t
  have p:((i:Int) < (ns.length:Int)):=by omega
  have C:(sprB false (ns.take i)).length=(ns.take i).sum:=FK _ _
  have s:=BV ns i
  have v:=Bk j
  rw [h.sum] at s
  have c: ¬((n:Int) < min (i:Int) 1):=by
   by_cases h0:0 < i
   ·have:=h.pos i n j h0;omega
   ·omega
  have g:aa .sub (.int .i64 (l.length:Int)) (.int .i64 ((sprB false (ns.take i)).length:Int))=some (.int .i64 ((l.length - (sprB false (ns.take i)).length:Nat):Int)):=qE (by omega) (by omega)
  have r: ¬(((l.length - (sprB false (ns.take i)).length:Nat):Int) < (n:Int)):=by omega
  have f:=Wv (x:= .bool (Nj i)) (n:=n) (by omega)
  have b:=acV (l:=sprB false (ns.take i)) (k:=ad n (Nj i)) (by omega) (by simp;omega)
  have e:s8 (ad n (Nj i))= .lst (ad n [.bool (Nj i)]):=by simp [eBl]
  rw [e] at b
  have u:=QK ns false i n j
  rw [Bool.false_xor] at u
  unfold rL
  simp only [af,ai,ay,al,p,decide_true,ah,ab,o,m,adG,c,decide_false,ag,cC,a2,g,aV,r,aZ,Bool.not_not,f,b,au (show i < 2 ^ 62 by omega),u,Aw]
theorem IX {l:List Bool} (hl:l.length<=4096):lq (B (rG l)) (.int .i64 (l.length:Int))=some [s8 l,.int .i64 0]:=by
 have hok:=FZ l
 unfold rG
 generalize y4 false l=ns at hok
 have hlen:=hok.len
 have e0: ¬((l.length:Int) < 0):=by omega
 have k: ¬((4096:Int) < (l.length:Int)):=by omega
 have g:cn (B (ns.flatMap bt))=some [B (ns.flatMap bt),.int .i64 0]:=rfl
 unfold lq
 simp only [al,e0,decide_false,ab,ag,aV,k,g,af,ai]
 rw [ba (λi=>[B ((ns.drop i).flatMap bt),.int .i64 0,bQ (nI (ns.take i)),.int .i64 ((ns.drop i).sum:Int)]) ns.length 0 [bQ (nI ns),.int .i64 0] (by simp [hok.sum]) (by omega) (λi hi=> ?_) (by
  unfold r7
  simp [qx])]
 ·have t:aa .gtr (.int .i64 0) (.int .i64 0)=some (.bool false):=rfl
  simp only [ab,aK,af,ai,t,ag,J5 hok (show l.length < 2 ^ 15 by omega),aZ,Bool.not_true]
 ·have e:=ao hi
  generalize ns[i]=n at e
  have s:=sP (f:=bt) e
  have u:=hok.max e
  have m:=yu (n:=n) (by omega) ((ns.drop (i+1)).flatMap bt)
  have h:(0:Int) < (((ns.drop i).flatMap bt).length:Int):=by
   rw [s];have:=EU n;simp;omega
  have hdr: ∀a b c:IV,([a,b,c]:List IV).drop 2=[c]:= λ_ _ _=>rfl
  have r:=BV ns i
  have v:=Bk e
  rw [hok.sum] at r
  have w: ¬(((ns.drop i).sum:Int) < (n:Int)):=by omega
  have j:aa .sub (.int .i64 ((ns.drop i).sum:Int)) (.int .i64 (n:Int))=some (.int .i64 ((ns.drop (i+1)).sum:Int)):=by
   rw [qE (by omega) (by omega)];congr 2;omega
  have o:=tZ (l:=nI (ns.take i)) (n:=(n:Int)) (by simp;omega)
  have k:nI (ns.take (i+1))=(nI (ns.take i))++[(n:Int)]:=by rw [bp e];simp
  have q:aa .neq (.int .i64 0) (.int .i64 0)=some (.bool false):=rfl
  have p:(ns.take i).length=i:=by simp;omega
  unfold r7
  simp only [af,ai,ay,aH,qx,ab,aV,h,decide_true,ah]
  rw [s]
  simp only [m,ab,af,ai,yy,q,ag,hdr,fp (show (ns.drop i).sum < 2 ^ 64 by omega),aV,w,decide_false,dc,cC,a2,p,k]
  have d:(ae (.bool (decide ((n:Int)=0))) (λ_=>some [IV.bool (decide ((0:Int) < (i:Int)))]) (λ_=>some [IV.bool false]))=some [IV.bool false]:=by
   by_cases hn:n=0
   ·have h0: ¬(0 < i):= λh0=>by have:=hok.pos i n e h0;omega
    simp [hn];omega
   ·simp [hn]
  simp only [d,ab,af,ag,kX (show n < 2 ^ 63 by omega),j,o]
def OP (l:List Bool):Nat:=(l.filter λb=>b).length
theorem MK {l:List Bool} (hl:l.length < 2 ^ 16):m7 (s8 l)=some [.int .i64 (OP l:Int)]:=by
 unfold m7
 simp only [aw,ab,a2]
 rw [ba (λi=>[.int .i64 (OP (l.take i):Int),.int .i64 (i:Int)]) l.length 0 [.int .i64 (OP l:Int)] (by simp [OP]) (by omega) (λi hi=> ?_) (by
  unfold ux
  simp)]
 ·rfl
 ·have c:=ao hi
  generalize l[i]=b at c
  obtain ⟨d,e⟩:=YL c
  have a:((i:Int) < (l.length:Int)):=by omega
  have hc:OP (l.take i)<=i:=by
   unfold OP
   exact Nat.le_trans (List.length_filter_le _ _) (by simp;omega)
  unfold ux
  simp only [af,ai,al,a,decide_true,ah,ab,d,e,au (show i < 2 ^ 62 by omega),au (show OP (l.take i) < 2 ^ 62 by omega),bp c]
  cases b<;>simp [OP]
end Go.AM
namespace Go.AM
def UL (k m u:Nat):Nat:=u / 2 ^ k&&&m|||(u&&&m)*2 ^ k
def rho (k i:Nat):Nat:=if i / k % 2=0 then i+k else i - k
theorem Yr {k m u i:Nat} (hk:k=8\/k=16) (hm: ∀i:Fin 64,m.testBit i=decide (i.val / k % 2=0)) (hi:i < 64):(UL k m u).testBit i=u.testBit (rho k i):=by
 have h1:=hm ⟨i,hi⟩
 simp only at h1
 unfold UL rho
 rw [<-dd,<-e6,fr,fa,eg,er,fa,h1]
 by_cases hb:i / k % 2=0
 ·have:(decide (i>=k)&&(u.testBit (i - k)&&m.testBit (i - k)))=false:=by
   by_cases a:i>=k
   ·have h2:=hm ⟨i - k,by omega⟩
    simp only at h2
    rw [h2,show decide ((i - k) / k % 2=0)=false from decide_eq_false (by rcases hk with rfl | rfl<;>omega),Bool.and_false,Bool.and_false]
   ·rw [decide_eq_false a,Bool.false_and]
  rw [this,if_pos hb,decide_eq_true hb,Bool.and_true,Bool.or_false,ek]
 ·have a:i>=k:=by rcases hk with rfl | rfl<;>omega
  have h2:=hm ⟨i - k,by omega⟩
  simp only at h2
  rw [if_neg hb,decide_eq_false hb,Bool.and_false,Bool.false_or,h2,decide_eq_true a,Bool.true_and,decide_eq_true (by rcases hk with rfl | rfl<;>omega),Bool.and_true]
theorem SJ {k m u:Nat} (h:m*2 ^ k < 2 ^ 64):UL k m u < 2 ^ 64:=by
 have hp:1<=2 ^ k:=fb k
 have hm:m < 2 ^ 64:=a7 (by simpa using eP m hp) h
 refine e3 (a7 cd hm) (a7 (ck _ cd) h)
abbrev m8:Nat:=71777214294589695
abbrev m16:Nat:=281470681808895
def pa (u:Nat):Nat:=UL 16 m16 (UL 8 m8 u) / 2 ^ 32|||UL 16 m16 (UL 8 m8 u)*2 ^ 32 % 2 ^ 64
theorem adY: ∀i:Fin 64,m8.testBit i=decide (i.val / 8 % 2=0):=by decide+kernel
theorem adJ: ∀i:Fin 64,m16.testBit i=decide (i.val / 16 % 2=0):=by decide+kernel
theorem uA (u:Nat):pa u < 2 ^ 64:=by
 have h:=SJ (k:=16) (m:=m16) (u:=UL 8 m8 u) (by decide)
 exact e3 (a7 (fc _ _) h) (Nat.mod_lt _ (by decide))
def aaz (i:Nat):Nat:=rho 8 (rho 16 (if i < 32 then i+32 else i - 32))
theorem Qy {u i:Nat} (hi:i < 64):(pa u).testBit i=u.testBit (aaz i):=by
 have h:=SJ (k:=16) (m:=m16) (u:=UL 8 m8 u) (by decide)
 have key:(pa u).testBit i=(UL 16 m16 (UL 8 m8 u)).testBit (if i < 32 then i+32 else i - 32):=by
  unfold pa
  generalize UL 16 m16 (UL 8 m8 u)=b at h
  rw [<-dd,<-e6,fr,eg,Nat.testBit_mod_two_pow,er,decide_eq_true hi,Bool.true_and]
  by_cases hl:i < 32
  ·rw [if_pos hl,decide_eq_false (show ¬i>=32 by omega),Bool.false_and,Bool.or_false,ek]
  ·rw [if_neg hl,decide_eq_true (show i>=32 by omega),Bool.true_and,b5 (show b < 2 ^ (32+i) from c6 h (ch (by decide) (by omega))),Bool.false_or]
 have hj:(if i < 32 then i+32 else i - 32) < 64:=by split<;>omega
 rw [key]
 unfold aaz
 generalize (if i < 32 then i+32 else i - 32)=j at hj
 have hk:rho 16 j < 64:=by unfold rho;split<;>omega
 rw [Yr (.inr rfl) adJ hj,Yr (.inl rfl) adY hk]
theorem ady: ∀i:Fin 64,aaz i.val < 64/\aaz (aaz i.val)=i.val:=by decide+kernel
theorem swap_swap {u:Nat} (h:u < 2 ^ 64):pa (pa u)=u:=by
 apply Nat.eq_of_testBit_eq
 intro i
 by_cases hi:i < 64
 ·obtain ⟨h1,h2⟩:=ady ⟨i,hi⟩
  simp only at h1 h2
  rw [Qy hi,Qy h1,h2]
 ·have hp:2 ^ 64<=2 ^ i:=ch (by decide) (by omega)
  rw [b5 (c6 (uA _) hp),b5 (c6 h hp)]
theorem aaD {k m u:Nat} (hu:u < 2 ^ 64) (hk:k<=64) (h:m*2 ^ k < 2 ^ 64):aa .shr (.int .u64 (u:Int)) (.int .u64 (k:Int))=some (.int .u64 ((u / 2 ^ k:Nat):Int))/\aa .and (.int .u64 ((u / 2 ^ k:Nat):Int)) (.int .u64 (m:Int))=some (.int .u64 ((u / 2 ^ k&&&m:Nat):Int))/\aa .and (.int .u64 (u:Int)) (.int .u64 (m:Int))=some (.int .u64 ((u&&&m:Nat):Int))/\
  aa .shl (.int .u64 ((u&&&m:Nat):Int)) (.int .u64 (k:Int))=some (.int .u64 (((u&&&m)*2 ^ k:Nat):Int))/\aa .or (.int .u64 ((u / 2 ^ k&&&m:Nat):Int)) (.int .u64 (((u&&&m)*2 ^ k:Nat):Int))=some (.int .u64 (UL k m u:Int)):=by
 have hp:1<=2 ^ k:=fb k
 have hm:m < 2 ^ 64:=a7 (by simpa using eP m hp) h
 have h1:u / 2 ^ k < 2 ^ 64:=a7 (fc _ _) hu
 have h2:(u&&&m)*2 ^ k < 2 ^ 64:=a7 (ck _ cd) h
 exact ⟨mC hk,qh h1 hm,qh hu hm,xc hk h2,uc (a7 cd hm) h2⟩
theorem C5 {u:Nat} (h:u < 2 ^ 64):mG (.int .u64 (u:Int))=some [.int .u64 (pa u:Int)]:=by
 obtain ⟨c,d,e,f,g⟩:=aaD (k:=8) (m:=m8) h (by decide) (by decide)
 have h1:=SJ (k:=8) (m:=m8) (u:=u) (by decide)
 obtain ⟨i,b2,j,l,n⟩:=aaD (k:=16) (m:=m16) h1 (by decide) (by decide)
 have h2:=SJ (k:=16) (m:=m16) (u:=UL 8 m8 u) (by decide)
 unfold mG
 rw [show (8:Int)=((8:Nat):Int) from rfl,show (16:Int)=((16:Nat):Int) from rfl,show (71777214294589695:Int)=((m8:Nat):Int) from rfl,show (281470681808895:Int)=((m16:Nat):Int) from rfl]
 simp only [c,d,e,f,g,i,b2,j,l,n,ab]
 unfold pa
 generalize UL 16 m16 (UL 8 m8 u)=b at h2
 have c1:aa .shr (.int .u64 (b:Int)) (.int .u64 32)=some (.int .u64 ((b / 2 ^ 32:Nat):Int)):=mC (b:=32) (by decide)
 have c2:aa .shl (.int .u64 (b:Int)) (.int .u64 32)=some (.int .u64 ((b*2 ^ 32 % 2 ^ 64:Nat):Int)):=by
  simp only [aa]
  rw [if_neg (by omega)]
  show some (IV.int .u64 (bM.wrap ((b:Int)*2 ^ 32)))=_
  rw [abG];congr 2
 have c3:=uc (a:=b / 2 ^ 32) (b:=b*2 ^ 32 % 2 ^ 64) (by omega) (by omega)
 simp only [c1,c2,c3,ab,wo,dm,b3]
theorem PU {a b:Nat} (c:a < 2 ^ 64) (hb:b < 2 ^ 64):aa .xor (.int .u64 (a:Int)) (.int .u64 (b:Int))=some (.int .u64 ((a ^^^ b:Nat):Int)):=by
 simp only [aa,bZ,if_true]
 have:(a1 bM.bits (a:Int) ^^^ a1 bM.bits (b:Int)).toNat=a ^^^ b:=by
  show (a1 64 (a:Int) ^^^ a1 64 (b:Int)).toNat=_
  rw [BitVec.toNat_xor,bR,bR,b1,b1,bm c,bm hb]
 rw [this,yU (c7 c hb)]
def eFl (w:Nat):List IV:=[.flt .f64 w]
abbrev qu (l:List Nat):IV:= .lst (l.map eFl)
theorem Vj {l:List Nat} {i:Nat} {x:Nat} (h:l[i]? =some x):aP (qu l) (.int .i64 (i:Int)) 1=some i/\dV (qu l) i 0=some (.flt .f64 x):=
 ⟨ee h rfl (by decide),by rw [cg h];rfl⟩
theorem EE {l:List Nat} {x:Nat} (hl:l.length < 2 ^ 20):bX 1 8 (qu l) (.lst [[.flt .f64 x]])=some (qu (l++[x])):=by
 simp only [bX]
 rw [if_pos ⟨by simp;omega,by simp⟩]
 simp [eFl]
structure CanW (w:Nat):Prop where
 lt:w < 2 ^ 64
 can:bitsN w=w
def FY:Nat->List Nat->List Nat
 | _,[]=>[]
 | a,n::ns=>(n ^^^ a)::FY n ns
theorem AP: ∀(a:Nat) (ns:List Nat),(FY a ns).length=ns.length
 | _,[]=>rfl
 | a,n::ns=>by simp [FY,AP n ns]
theorem SO: ∀(i x:Nat) (ns:List Nat) (a:Nat),ns[i]? =some x->(FY a ns)[i]? =some (x ^^^ (a::ns).getD i 0)
 | 0,x,[],a,h=>by simp at h
 | 0,x,n::ns,a,h=>by simp at h;subst h;rfl
 | i+1,x,[],a,h=>by simp at h
 | i+1,x,n::ns,a,h=>by
   have:=SO i x ns n (by simpa using h)
   simpa [FY] using this
def rE (ns:List Nat):Byt:=(FY 0 ns).flatMap λu=>bt (pa u)
theorem Dw {ns:List Nat}:(rE ns).length<=10*ns.length:=by
 have:=lD (l:=FY 0 ns) (f:= λu=>bt (pa u)) (k:=10) λx _=>bE (uA x)
 rw [AP] at this;exact this
theorem prev_lt {ns:List Nat} (h: ∀n∈ns,CanW n) (i:Nat):(0::ns).getD i 0 < 2 ^ 64:=by
 rw [a8]
 cases a:(0::ns)[i]? with
 | none=>simp
 | some x=>
   rcases e1.1 (a6 a) with rfl | hm
   ·simp
   ·exact (h x hm).lt
theorem Jo {ns:List Nat} (hl:ns.length < 2 ^ 16) (h: ∀n∈ns,CanW n):lh (qu ns)=some [B (rE ns)]:=by
 unfold lh
 simp only [aw,ab,a2]
 rw [ba (λi=>[.int .u64 ((0::ns).getD i 0:Nat),.clo (.func fQ) [],.nilp,.lst ((((FY 0 ns).take i).flatMap λu=>bt (pa u)).map eB),.int .i64 (i:Int)]) ns.length 0 [.nilp,.lst ((rE ns).map eB)] (by simp) (by omega) (λi hi=> ?_) (by
  unfold rZ
  simp only [af,ai,ay,aH,bW,al,decide_false,ab,Int.lt_irrefl,ag]
  rw [b4 (by rw [AP];exact b6 _)];rfl)]
 ·simp only [ab,aK,ai,oO];rfl
 ·have c:=ao hi
  generalize ns[i]=w at c
  obtain ⟨q,r⟩:=Vj c
  have hc:=h w (a6 c)
  have hp:=prev_lt h i
  have j:((i:Int) < (ns.length:Int)):=by omega
  have v:=SO i w ns 0 c
  have t:(0::ns).getD (i+1) 0=w:=by simp [a8,c]
  have p:=sw hc.lt
  rw [hc.can] at p
  have d:=c7 hc.lt hp
  have s:cX (.clo (.func fQ) []) [1] [[.int .u64 (w:Int)],[.int .u64 ((w ^^^ (0::ns).getD i 0:Nat):Int)]]=some [.int .u64 (w:Int)]:=rfl
  have e:=lD (f:= λu=>bt (pa u)) (l:=(FY 0 ns).take i) (k:=10) λm _=>bE (uA m)
  simp only [cb] at e
  have y:=bE (uA (w ^^^ (0::ns).getD i 0))
  have o:=xw (x:= .nilp) (a:=((FY 0 ns).take i).flatMap λu=>bt (pa u)) (b:=bt (pa (w ^^^ (0::ns).getD i 0))) (by omega)
  have g:=qk (f:= λu=>bt (pa u)) v
  simp only [t,g]
  unfold rZ
  simp only [af,ai,ay,aH,bW,al,j,decide_true,ah,ab,q,r,p,PU hc.lt hp,s,C5 d,fw (uA _),o,au (show i < 2 ^ 62 by omega)]
theorem NJ {w:Nat} (h:CanW w):o6 (.int .u64 (w:Int))=some [.bool true]:=by
 have c:=h.lt
 have e:aa .shr (.int .u64 (w:Int)) (.int .u64 52)=some (.int .u64 ((w / 2 ^ 52:Nat):Int)):=mC (b:=52) (by decide)
 have f:aa .and (.int .u64 ((w / 2 ^ 52:Nat):Int)) (.int .u64 2047)=some (.int .u64 ((w / 2 ^ 52 % 2048:Nat):Int)):=J9 (w:=w / 2 ^ 52) (by omega) (k:=11) (by decide)
 have s4:aa .and (.int .u64 (w:Int)) (.int .u64 4503599627370495)=some (.int .u64 ((w % 2 ^ 52:Nat):Int)):=J9 (w:=w) c (k:=52) (by decide)
 unfold o6
 simp only [e,f,s4,ab,dv,dc]
 have hc:=h.can
 unfold bitsN at hc
 by_cases h1:w / 2 ^ 52 % 2048=2047
 ·by_cases h2:w % 2 ^ 52=0
  ·have a:(((w / 2 ^ 52 % 2048:Nat):Int)=2047):=by omega
   have d:(((w % 2 ^ 52:Nat):Int)=0):=by omega
   simp only [a,d,ne_eq,not_true_eq_false,decide_false,ag,decide_true,ah,ab,af,dQ,dm,b3]
  ·rw [if_pos (by show 2047*2 ^ 52 < w % 2 ^ 63;omega)] at hc
   subst hc;rfl
 ·have a: ¬(((w / 2 ^ 52 % 2048:Nat):Int)=2047):=by omega
  simp only [a,ne_eq,not_false_eq_true,decide_true,ah,ab,af,dQ,dm,b3]
theorem J7 {ns:List Nat} (hl:ns.length < 2 ^ 16) (h: ∀n∈ns,CanW n):lx (B (rE ns)) (.int .i64 (ns.length:Int))=some [qu ns,.int .i64 0]:=by
 have e0: ¬((ns.length:Int) < 0):=by omega
 have r: ¬(((rE ns).length:Int) < (ns.length:Int)):=by
  have:=RU (l:=FY 0 ns) (f:= λu=>bt (pa u)) λx _=>EU _
  rw [AP] at this
  unfold rE;omega
 have g:cn (B (rE ns))=some [B (rE ns),.int .i64 0]:=rfl
 unfold lx
 simp only [al,e0,decide_false,ab,ag,jR,aV,r,g,af,ai]
 rw [ba (λi=>[.int .u64 ((0::ns).getD i 0:Nat),.clo (.func fL) [],B (((FY 0 ns).drop i).flatMap λu=>bt (pa u)),.int .i64 0,qu (ns.take i),.int .i64 (i:Int)]) ns.length 0 [B [],.int .i64 0,qu ns] (by simp [rE]) (by omega) (λi hi=> ?_) (by
  unfold rT
  have e:(FY 0 ns).drop ns.length=[]:=ec (by rw [AP];exact b6 _)
  simp [e])]
 ·simp only [ab,aK,af,ai,ay,Kh]
  rfl
 ·have k:=ao hi
  generalize ns[i]=w at k
  have hc:=h w (a6 k)
  have hp:=prev_lt h i
  have o:((i:Int) < (ns.length:Int)):=by omega
  have y:=SO i w ns 0 k
  have v:(0::ns).getD (i+1) 0=w:=by simp [a8,k]
  have d:=c7 hc.lt hp
  have q:=yu (uA (w ^^^ (0::ns).getD i 0)) (((FY 0 ns).drop (i+1)).flatMap λu=>bt (pa u))
  have t:=sP (f:= λu=>bt (pa u)) y
  rw [<-t] at q
  have j:=C5 (uA (w ^^^ (0::ns).getD i 0))
  rw [swap_swap d] at j
  have m:=PU d hp
  rw [Nat.xor_assoc,Nat.xor_self,Nat.xor_zero] at m
  have s:cY (.clo (.func fL) []) [1] [[.int .u64 ((w ^^^ (0::ns).getD i 0:Nat):Int)],[.int .u64 (w:Int)]]=some [.int .u64 (w:Int)]:=rfl
  have hdr: ∀a b c:IV,([a,b,c]:List IV).drop 2=[c]:= λ_ _ _=>rfl
  have p:aa .neq (.int .i64 0) (.int .i64 0)=some (.bool false):=rfl
  simp only [v,bp k]
  unfold rT
  simp only [af,ai,ay,aH,bW,bV,al,o,decide_true,ah,ab,q,hdr,j,m,s,yy,p,ag,NJ hc,aZ,Bool.not_true,Pe hc.lt hc.can,EE (show (ns.take i).length < 2 ^ 20 by simp;omega),au (show i < 2 ^ 62 by omega)]
end Go.AM
