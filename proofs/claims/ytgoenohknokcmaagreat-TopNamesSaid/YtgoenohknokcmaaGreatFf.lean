/- Numbers with a point, off their words. -/
import Derived.Test.YtgoenohknokcmaaGreatFr
open Option renaming bind_some->ab
open Nat renaming mul_assoc->ad,mul_lt_mul_of_pos_right->al,eq_of_mul_eq_mul_right->ao,lt_of_le_of_lt->aB,two_pow_pos->a1,mul_le_mul_right->a2,mul_le_mul_left->a5,le_of_lt->a6,min_eq_left->a7,pow_add->a8,mul_pos->bb
set_option linter.unusedVariables false
set_option linter.unusedSimpArgs false
namespace Go.AM
open Ieee
theorem Wy {f c p:Nat} (a:0 < f) (hf:f < fInf) (hc:c < fInf) (hp:p<=1023) (h:val c=val f*P2 p):double.mul f (pw (p:Int))=some c:=by
 obtain ⟨c',c1,_,_,c4⟩:=Gn a hf hp (b:=2098) (Nat.le_refl _) (by rw [<-h];exact Ku hc)
 rw [c1,val_inj (c4.trans h.symm)]
theorem Wv {f c p:Nat} (b:0 < f) (hf:f < fInf) (hc:c < fInf) (hp:p<=1022) (h:val f=val c*P2 p):double.mul f (pw (-(p:Int)))=some c:=by
 have hs:=qB (w:=c)
 have a:min (ew c*2 ^ 52+mw c) (2047*2 ^ 52)=c:=by rw [<-hs];exact a7 (a6 hc)
 rw [H5,H5] at h
 have:=mul_pow hf (k:= -(p:Int)) (by omega) (by omega) (GX b) (vJ c) (Ce c) (by
  by_cases d:p<=ew f
  ·left
   refine ⟨by omega,?_⟩
   have e:P2 (ew f)=P2 (ew f - p)*P2 p:=by rw [<-eY];congr 1;omega
   rw [e,<-ad] at h
   have:=ao (po p) h
   rw [show ((ew f:Int)+ -(p:Int)).toNat=ew f - p by omega,<-ee,<-ee]
   exact this
  ·right
   refine ⟨by omega,?_⟩
   have e:P2 p=P2 (p - ew f)*P2 (ew f):=by rw [<-eY];congr 1;omega
   rw [e,<-ad] at h
   have:=ao (po _) h
   rw [show (-((ew f:Int)+ -(p:Int))).toNat=p - ew f by omega,<-ee,<-ee]
   exact this)
 rw [this,a]
theorem TA {m j:Nat} (hm:0 < m) (d:m < 2 ^ 53) (h:m*P2 j < P2 2098): ∃c,0 < c/\c < fInf/\val c=m*P2 j:=by
 have key: ∀(M E:Nat),M < 2 ^ 53->(2 ^ 52<=M\/E=0)->0 < M->m*P2 j=M*P2 E-> ∃c,0 < c/\c < fInf/\val c=m*P2 j:= λM E f hn g he=>by
  refine ⟨E*2 ^ 52+M,by omega,?_,by rw [aai f hn,he]⟩
  rcases hn with a | h0
  ·have:P2 (52+E) < P2 2098:=by
    rw [eY]
    refine aB (a2 _ ?_) (he▸h)
    rw [ee];exact a
   have:=QV this
   show E*2 ^ 52+M < 2047*2 ^ 52
   omega
  ·subst h0;show 0*2 ^ 52+M < 2047*2 ^ 52;omega
 have b:m≠0:=by omega
 by_cases a:2 ^ 52<=m
 ·exact key m j d (.inl a) hm rfl
 ·have i:m.log2 < 52:=(Nat.log2_lt b).2 (by omega)
  obtain ⟨e,b2⟩:=(Nat.log2_eq_iff b).1 rfl
  have up: ∀s,m.log2+s<=52->m*2 ^ s < 2 ^ 53:= λs hs=>by
   calc m*2 ^ s < 2 ^ (m.log2+1)*2 ^ s:=al b2 (a1 _)
    _=2 ^ (m.log2+1+s):=(a8 _ _ _).symm
    _<=2 ^ 53:=Nat.pow_le_pow_right (by decide) (by omega)
  by_cases hs:m.log2+j<=52
  ·refine key (m*2 ^ j) 0 (up j hs) (.inr rfl) (bb hm (a1 _)) (by rw [ee,ee];simp)
  ·refine key (m*2 ^ (52 - m.log2)) (j - (52 - m.log2)) (up _ (by omega)) (.inl ?_) (bb hm (a1 _)) ?_
   ·calc 2 ^ 52=2 ^ (m.log2+(52 - m.log2)):=by congr 1;omega
     _=2 ^ m.log2*2 ^ (52 - m.log2):=a8 _ _ _
     _<=m*2 ^ (52 - m.log2):=a2 _ e
   ·rw [<-ee (52 - m.log2),ad,<-eY]
    congr 2;omega
structure ScI (w f:Nat) (n:Int):Prop where
 pos:0 < f
 fin:f < fInf
 le:n<=(ew w:Int)
 val:val f=mw w*P2 ((ew w:Int) - n).toNat
theorem ScI.up {w f:Nat} {n:Int} (h:ScI w f n) (h0:0 < w) (hw:w < fInf) {p:Nat} (hp:p<=512) (hn:(p:Int)<=n): ∃c,double.mul f (pw (p:Int))=some c/\ScI w c (n - p):=by
 have hle:=h.le
 have hm:=GX h0
 obtain ⟨c,c1,c2,c3⟩:=TA (m:=mw w) (j:=((ew w:Int) - (n - p)).toNat) (by omega) (vJ w) (by
  refine aB ?_ (Ku hw)
  rw [H5]
  exact a5 _ (Yl (by omega)))
 refine ⟨c,Wy h.pos h.fin c2 (by omega) ?_,c1,c2,by omega,c3⟩
 rw [c3,h.val,ad,<-eY]
 congr 2;omega
theorem ScI.down {w f:Nat} {n:Int} (h:ScI w f n) (h0:0 < w) (hw:w < fInf) {p:Nat} (hp:p<=512) (hn:n<= -(p:Int)): ∃c,double.mul f (pw (-(p:Int)))=some c/\ScI w c (n+p):=by
 have hle:=h.le
 have hm:=GX h0
 have a:=Ku h.fin
 rw [h.val] at a
 obtain ⟨c,c1,c2,c3⟩:=TA (m:=mw w) (j:=((ew w:Int) - (n+p)).toNat) (by omega) (vJ w) (by
  refine aB ?_ a
  exact a5 _ (Yl (by omega)))
 refine ⟨c,Wv h.pos h.fin c2 (by omega) ?_,c1,c2,by omega,c3⟩
 rw [c3,h.val,ad,<-eY]
 congr 2;omega
theorem ScI.end {w f:Nat} (h:ScI w f 0):f=w:=by
 refine val_inj ?_
 rw [h.val,H5 w];congr 2
theorem Vb {p:Nat} (h:p<=512):ll .neg (.int .i64 (p:Int))=some (.int .i64 (-(p:Int))):=by
 simp only [ll]
 rw [wrap64 (by omega) (by omega)]
 congr 2;omega
theorem TV {w:Nat} (h0:0 < w) (hw:w < fInf) {i p:Nat} (hp:JM[i]? =some p): ∀(j f:Nat) (n:Int),ScI w f n-> -1100<=n->n<=1100->n.toNat < j->
  ∃b a,iter j (rf j8 i) [.flt .f64 f,.int .i64 n]=some (0,[.flt .f64 b,.int .i64 a])/\ScI w b a/\a < p/\(a=n\/0<=a/\a<=n)
 | 0,f,n,_,_,_,h=>by omega
 | j+1,f,n,h,h1,h2,hj=>by
   obtain ⟨t0,t1,r,q,k,hi⟩:=Ft i p hp
   by_cases hn:(p:Int)<=n
   ·obtain ⟨c,c1,c2⟩:=h.up h0 hw k hn
    have hs:aa .sub (.int .i64 n) (.int .i64 (p:Int))=some (.int .i64 (n - p)):=wU (by omega) (by omega) (by omega) (by omega)
    obtain ⟨b,a,d,e,g,m⟩:=TV h0 hw hp j c (n - p) c2 (by omega) (by omega) (by omega)
    refine ⟨b,a,?_,e,g,by omega⟩
    rw [oN j (vs':=[.flt .f64 c,.int .i64 (n - p)]),d]
    generalize o:pw (p:Int)=l at t1 c1
    unfold rf
    simp only [Ag,af,ai,t0,t1,dm,hn,decide_true,ab,ah,xM c1,hs]
   ·refine ⟨f,n,gL j ?_,h,by omega,.inl rfl⟩
    unfold rf
    simp only [Ag,af,ai,t0,dm,hn,decide_false,ab,ag]
theorem Ny {w:Nat} (h0:0 < w) (hw:w < fInf) {i p:Nat} (hp:JM[i]? =some p): ∀(j f:Nat) (n:Int),ScI w f n-> -1100<=n->n<=1100->(-n).toNat < j->
  ∃b a,iter j (rr j8 i) [.flt .f64 f,.int .i64 n]=some (0,[.flt .f64 b,.int .i64 a])/\ScI w b a/\ -(p:Int) < a/\(a=n\/a<=0/\n<=a)
 | 0,f,n,_,_,_,h=>by omega
 | j+1,f,n,h,h1,h2,hj=>by
   obtain ⟨t0,t1,e,r,d,hi⟩:=Ft i p hp
   by_cases hn:n<= -(p:Int)
   ·obtain ⟨c,c1,c2⟩:=h.down h0 hw d hn
    have hs:aa .add (.int .i64 n) (.int .i64 (p:Int))=some (.int .i64 (n+p)):=B9 (by omega) (by omega) (by omega) (by omega)
    obtain ⟨b,a,g,k,l,o⟩:=Ny h0 hw hp j c (n+p) c2 (by omega) (by omega) (by omega)
    refine ⟨b,a,?_,k,l,by omega⟩
    rw [oN j (vs':=[.flt .f64 c,.int .i64 (n+p)]),g]
    generalize q:pw (-(p:Int))=m at e c1
    unfold rr
    simp only [Ag,af,ai,t0,e,Vb d,gk,hn,decide_true,ab,ah,xM c1,hs]
   ·refine ⟨f,n,gL j ?_,h,by omega,.inl rfl⟩
    unfold rr
    simp only [Ag,af,ai,t0,Vb d,gk,hn,decide_false,ab,ag]
theorem adO {i:Nat} (h:i < 10): ∃p,JM[i]? =some p:=⟨_,List.getElem?_eq_getElem (show i < JM.length from h)⟩
theorem Lv {w:Nat} (h0:0 < w) (hw:w < fInf): ∀(k j i f:Nat) (n:Int),i+k=10->k < j->ScI w f n-> -1100<=n->n<=1100->(i=10->n=0)->iter j (nJ j8) [.flt .f64 f,.int .i64 n,.int .i64 (i:Int)]=some (0,[.flt .f64 w])
 | 0,j,i,f,n,hi,hj,h,h1,h2,d=>by
   obtain ⟨j,rfl⟩: ∃b,j=b+1:=⟨j - 1,by omega⟩
   obtain rfl:i=10:=by omega
   obtain rfl:=d rfl
   obtain rfl:=h.end
   refine gL j ?_
   unfold nJ
   simp
 | k+1,j,i,f,n,hi,hj,h,h1,h2,d=>by
   obtain ⟨j,rfl⟩: ∃b,j=b+1:=⟨j - 1,by omega⟩
   obtain ⟨p,hp⟩:=adO (show i < 10 by omega)
   obtain ⟨_,_,_,x,y,_⟩:=Ft i p hp
   obtain ⟨q,r,l,m,s,t⟩:=TV h0 hw hp rounds f n h h1 h2 (by rw [bg];omega)
   obtain ⟨c,g,o,b2,u,v⟩:=Ny h0 hw hp rounds q r m (by omega) (by omega) (by rw [bg];omega)
   have a:((i:Int) < 10):=by omega
   rw [oN j (vs':=[.flt .f64 c,.int .i64 g,.int .i64 ((i+1:Nat):Int)])]
   ·refine Lv h0 hw k j (i+1) c g (by omega) (by omega) b2 (by omega) (by omega) λe=> ?_
    have:i=9:=by omega
    subst this
    cases hp
    omega
   ·unfold nJ
    simp only [af,ai,aA,an,a,decide_true,ah,ab,dj (show i < 10 by omega),l,aW,o,au (show i < 2 ^ 62 by omega)]
theorem ab4 {w f:Nat} {n:Int} (h0:0 < w) (hw:w < fInf) (h:ScI w f n) (h1: -1100<=n) (h2:n<=1100):ka (.flt .f64 f) (.int .i64 n)=some [.flt .f64 w]:=by
 unfold ka
 rw [AU]
 have:=Lv h0 hw 10 rounds 0 f n rfl (by rw [bg];decide) h h1 h2 (by omega)
 rw [ab,show iter rounds (nJ j8) [.flt .f64 f,.int .i64 n,.int .i64 0]=some (0,[.flt .f64 w]) from this]
 rfl
theorem acZ {w:Nat} (h0:0 < w) (hw:w < fInf): ∃f,Xl .f64 (.int .u64 (mw w:Int))=some (.flt .f64 f)/\ScI w f ((ew w:Int) - 1074):=by
 have hm:=GX h0
 have a:=vJ w
 obtain ⟨c,c1,c2,c3⟩:=TA (m:=mw w) (j:=1074) (by omega) a (by
  calc mw w*P2 1074 < P2 53*P2 1074:=al (by rw [ee];exact a) (po _)
   _=P2 1127:=(eY _ _).symm
   _ < P2 2098:=agt (by decide))
 refine ⟨c,?_,c1,c2,by omega,by rw [c3];congr 2;omega⟩
 have hc:=qB (w:=c)
 have key:FloatKind.f64.nearest (mw w:Int)=c:=by
  show double.nearest (decide ((mw w:Int) < 0)) (mw w:Int).natAbs 0=c
  rw [decide_eq_false (by omega),Int.natAbs_natCast,CX hm (vJ c) (Ce c) (.inl ⟨by omega,?_⟩)]
  ·rw [<-hc];exact a7 (a6 c2)
  ·obtain ⟨N,b⟩: ∃N:Nat,N=1074:=⟨_,rfl⟩
   have e:(0+1074:Int).toNat=N:=by rw [b];rfl
   rw [e,<-ee,<-ee,<-H5,b,c3]
 simp only [Xl,key]
 rw [YM (a6 c2)]
theorem Kl {w:Nat} (hw:w < 2 ^ 64) {k:Nat} (hk:2 ^ k - 1 < 2 ^ 64):aa .and (.int .u64 (w:Int)) (.int .u64 ((2 ^ k - 1:Nat):Int))=some (.int .u64 ((w % 2 ^ k:Nat):Int)):=by
 rw [qU hw hk,Nat.and_two_pow_sub_one_eq_mod]
theorem ac6 {w x:Nat} (hx:x < 2 ^ 63) (hw:w=x\/w=2 ^ 63+x):w&&&2 ^ 63=if w=x then 0 else 2 ^ 63:=by
 have ht:=Nat.testBit_lt_two_pow hx
 have key:w.testBit 63=decide (w≠x):=by
  rcases hw with rfl | rfl
  ·simp [ht]
  ·rw [Nat.testBit_two_pow_add_eq,ht];simp
 apply Nat.eq_of_testBit_eq
 intro i
 rw [Nat.testBit_and]
 by_cases hi:i=63
 ·subst hi
  rw [key,Nat.testBit_two_pow_self]
  by_cases h:w=x
  ·simp [h]
  ·simp [h];rfl
 ·have h2:(2 ^ 63).testBit i=false:=by rw [Nat.testBit_two_pow];simp;omega
  rw [h2,Bool.and_false]
  split
  ·simp
  ·exact h2.symm
theorem Na {w x:Nat} (h0:0 < x) (hx:x < fInf) (hw:w=x\/w=2 ^ 63+x):kb (.int .u64 (w:Int))=some [.flt .f64 w]:=by
 have z:x < 2047*2 ^ 52:=hx
 have c:w < 2 ^ 64:=by omega
 have A:aa .shr (.int .u64 (w:Int)) (.int .u64 52)=some (.int .u64 ((w / 2 ^ 52:Nat):Int)):=mS (b:=52) (by decide)
 have C:aa .and (.int .u64 ((w / 2 ^ 52:Nat):Int)) (.int .u64 2047)=some (.int .u64 ((x / 2 ^ 52:Nat):Int)):=by
  have:=Kl (w:=w / 2 ^ 52) (by omega) (k:=11) (by decide)
  rw [show (2 ^ 11 - 1:Nat)=2047 from rfl,show w / 2 ^ 52 % 2 ^ 11=x / 2 ^ 52 by omega] at this
  exact this
 have D:bE .i64 (.int .u64 ((x / 2 ^ 52:Nat):Int))=some (.int .i64 ((x / 2 ^ 52:Nat):Int)):=by
  simp only [bE];rw [wrap64 (by omega) (by omega)]
 have s4:aa .and (.int .u64 (w:Int)) (.int .u64 4503599627370495)=some (.int .u64 ((x % 2 ^ 52:Nat):Int)):=by
  have:=Kl (w:=w) c (k:=52) (by decide)
  rw [show (2 ^ 52 - 1:Nat)=4503599627370495 from rfl,show w % 2 ^ 52=x % 2 ^ 52 by omega] at this
  exact this
 have E: ¬(((x / 2 ^ 52:Nat):Int)=2047):=by omega
 have u:((aa .and (.int .u64 (w:Int)) (.int .u64 9223372036854775808)).bind λp=>(aa .neq p (.int .u64 0)).bind λq=>ae q (λ_=>(ll .neg (.flt .f64 x)).bind λr=>aw [r]) (λ_=>aw [.flt .f64 x]))=some [.flt .f64 w]:=by
  have n:=qU c (show 2 ^ 63 < 2 ^ 64 by decide)
  have d:x < 2 ^ 63:=by omega
  rw [ac6 d hw] at n
  rcases hw with rfl | rfl
  ·have g:aa .and (.int .u64 (w:Int)) (.int .u64 9223372036854775808)=some (.int .u64 0):=by simpa using n
   rw [g];rfl
  ·have g:aa .and (.int .u64 ((2 ^ 63+x:Nat):Int)) (.int .u64 9223372036854775808)=some (.int .u64 9223372036854775808):=by simpa using n
   rw [g,ab]
   have hn:ll .neg (.flt .f64 x)=some (.flt .f64 (2 ^ 63+x)):=by
    show some (IV.flt .f64 (canF .f64 (x ^^^ 2 ^ 63)))=_
    have e:x ^^^ 2 ^ 63=2 ^ 63+x:=by
     have h1:=Uk d
     have h2:((2 ^ 63+x) ^^^ 2 ^ 63) ^^^ 2 ^ 63=x ^^^ 2 ^ 63:=by rw [h1]
     rw [Nat.xor_assoc,Nat.xor_self,Nat.xor_zero] at h2
     exact h2.symm
    rw [e,B5]
    unfold bitsN
    rw [if_neg (by show ¬(2047*2 ^ 52 < (2 ^ 63+x) % 2 ^ 63);omega)]
   have i:aa .neq (.int .u64 9223372036854775808) (.int .u64 0)=some (.bool true):=rfl
   rw [i,ab,ah,hn,ab];rfl
 obtain ⟨f,m,v⟩:=acZ h0 hx
 have y:ew x<=2046:=by unfold ew;omega
 have h:=ab4 h0 hx v (by omega) (by omega)
 unfold kb
 simp only [A,C,D,s4,ab,db,E,decide_false,ag,af]
 by_cases he:x / 2 ^ 52=0
 ·have l:x < 2 ^ 52:=by omega
  have i:mw x=x % 2 ^ 52:=by unfold mw;rw [if_pos l];omega
  have t:ew x=0:=VQ l
  rw [i] at m
  rw [t] at h
  have j:ka (.flt .f64 f) (.int .i64 (-1074))=some [.flt .f64 x]:=h
  have s:(((x / 2 ^ 52:Nat):Int)=0):=by omega
  simp only [s,decide_true,ah,m,ab,j,af]
  exact u
 ·have s: ¬(((x / 2 ^ 52:Nat):Int)=0):=by omega
  have i:mw x=2 ^ 52+x % 2 ^ 52:=by unfold mw;rw [if_neg (by omega)]
  have t:(ew x:Int)=((x / 2 ^ 52:Nat):Int) - 1:=by unfold ew;omega
  have o:aa .or (.int .u64 ((x % 2 ^ 52:Nat):Int)) (.int .u64 4503599627370496)=some (.int .u64 (mw x:Int)):=by
   have:=rL (a:=x % 2 ^ 52) (b:=2 ^ 52) (by omega) (by decide)
   have e:x % 2 ^ 52|||2 ^ 52=mw x:=by
    rw [i,Nat.or_comm]
    have:=UN (a:=1) (b:=x % 2 ^ 52) 52 (Nat.mod_lt _ (by decide))
    rw [Nat.one_mul] at this;exact this
   rw [e] at this;exact this
  have u1:aa .sub (.int .i64 ((x / 2 ^ 52:Nat):Int)) (.int .i64 1023)=some (.int .i64 (((x / 2 ^ 52:Nat):Int) - 1023)):=qe (by omega) (by omega)
  have u2:aa .sub (.int .i64 (((x / 2 ^ 52:Nat):Int) - 1023)) (.int .i64 52)=some (.int .i64 ((ew x:Int) - 1074)):=by
   rw [qe (by omega) (by omega)];congr 2;omega
  simp only [s,decide_false,ag,o,ab,m,u1,u2,h,af]
  exact u
theorem CR {w:Nat} (h:w < 2 ^ 64) (hc:bitsN w=w):kb (.int .u64 (w:Int))=some [.flt .f64 w]:=by
 rcases Yu w h with h1 | rfl | rfl | rfl | rfl | ⟨h1,h2⟩ | ⟨x,rfl,h1,h2⟩
 ·have e:w=9221120237041090560:=by unfold bitsN at hc;rw [if_pos h1] at hc;exact hc.symm
  subst e;rfl
 ·rfl
 ·rfl
 ·rfl
 ·rfl
 ·exact Na h1 h2 (.inl rfl)
 ·exact Na h1 h2 (.inr rfl)
end Go.AM
