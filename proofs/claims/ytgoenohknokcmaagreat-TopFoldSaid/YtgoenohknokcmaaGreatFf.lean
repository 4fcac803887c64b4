/- Numbers with a point, off their words. -/
import Derived.Test.YtgoenohknokcmaaGreatFr
open Option renaming bind_some->ab
open Nat renaming mul_assoc->ad,mul_lt_mul_of_pos_right->ao,eq_of_mul_eq_mul_right->aB,lt_of_le_of_lt->a1,two_pow_pos->a2,mul_le_mul_right->a5,mul_le_mul_left->a6,le_of_lt->a7,min_eq_left->a8,pow_add->bb,mul_pos->bd
set_option linter.unusedVariables false
set_option linter.unusedSimpArgs false
namespace Go.AM
open Ieee
theorem Xf {f c p:Nat} (a:0 < f) (hf:f < fInf) (hc:c < fInf) (hp:p<=1023) (h:val c=val f*P2 p):double.mul f (pw (p:Int))=some c:=by
 obtain ⟨c',c1,_,_,c4⟩:=DK a hf hp (b:=2098) (Nat.le_refl _) (by rw [<-h];exact EF hc)
 rw [c1,val_inj (c4.trans h.symm)]
theorem Wl {f c p:Nat} (b:0 < f) (hf:f < fInf) (hc:c < fInf) (hp:p<=1022) (h:val f=val c*P2 p):double.mul f (pw (-(p:Int)))=some c:=by
 have hs:=p5 (w:=c)
 have a:min (ew c*2 ^ 52+mw c) (2047*2 ^ 52)=c:=by rw [<-hs];exact a8 (a7 hc)
 rw [Iu,Iu] at h
 have:=mul_pow hf (k:= -(p:Int)) (by omega) (by omega) (F3 b) (uN c) (BO c) (by
  by_cases d:p<=ew f
  ·left
   refine ⟨by omega,?_⟩
   have e:P2 (ew f)=P2 (ew f - p)*P2 p:=by rw [<-bF];congr 1;omega
   rw [e,<-ad] at h
   have:=aB (jj p) h
   rw [show ((ew f:Int)+ -(p:Int)).toNat=ew f - p by omega,<-cT,<-cT]
   exact this
  ·right
   refine ⟨by omega,?_⟩
   have e:P2 p=P2 (p - ew f)*P2 (ew f):=by rw [<-bF];congr 1;omega
   rw [e,<-ad] at h
   have:=aB (jj _) h
   rw [show (-((ew f:Int)+ -(p:Int))).toNat=p - ew f by omega,<-cT,<-cT]
   exact this)
 rw [this,a]
theorem S7 {m j:Nat} (hm:0 < m) (d:m < 2 ^ 53) (h:m*P2 j < P2 2098): ∃c,0 < c/\c < fInf/\val c=m*P2 j:=by
 have key: ∀(M E:Nat),M < 2 ^ 53->(2 ^ 52<=M\/E=0)->0 < M->m*P2 j=M*P2 E-> ∃c,0 < c/\c < fInf/\val c=m*P2 j:= λM E f hn g he=>by
  refine ⟨E*2 ^ 52+M,by omega,?_,by rw [Rb f hn,he]⟩
  rcases hn with a | h0
  ·have:P2 (52+E) < P2 2098:=by
    rw [bF]
    refine a1 (a5 _ ?_) (he▸h)
    rw [cT];exact a
   have:=K7 this
   show E*2 ^ 52+M < 2047*2 ^ 52
   omega
  ·subst h0;show 0*2 ^ 52+M < 2047*2 ^ 52;omega
 have b:m≠0:=by omega
 by_cases a:2 ^ 52<=m
 ·exact key m j d (.inl a) hm rfl
 ·have i:m.log2 < 52:=(Nat.log2_lt b).2 (by omega)
  obtain ⟨e,b2⟩:=(Nat.log2_eq_iff b).1 rfl
  have up: ∀s,m.log2+s<=52->m*2 ^ s < 2 ^ 53:= λs hs=>by
   calc m*2 ^ s < 2 ^ (m.log2+1)*2 ^ s:=ao b2 (a2 _)
    _=2 ^ (m.log2+1+s):=(bb _ _ _).symm
    _<=2 ^ 53:=Nat.pow_le_pow_right (by decide) (by omega)
  by_cases hs:m.log2+j<=52
  ·refine key (m*2 ^ j) 0 (up j hs) (.inr rfl) (bd hm (a2 _)) (by rw [cT,cT];simp)
  ·refine key (m*2 ^ (52 - m.log2)) (j - (52 - m.log2)) (up _ (by omega)) (.inl ?_) (bd hm (a2 _)) ?_
   ·calc 2 ^ 52=2 ^ (m.log2+(52 - m.log2)):=by congr 1;omega
     _=2 ^ m.log2*2 ^ (52 - m.log2):=bb _ _ _
     _<=m*2 ^ (52 - m.log2):=a5 _ e
   ·rw [<-cT (52 - m.log2),ad,<-bF]
    congr 2;omega
structure ScI (w f:Nat) (n:Int):Prop where
 pos:0 < f
 fin:f < fInf
 le:n<=(ew w:Int)
 val:val f=mw w*P2 ((ew w:Int) - n).toNat
theorem ScI.up {w f:Nat} {n:Int} (h:ScI w f n) (h0:0 < w) (hw:w < fInf) {p:Nat} (hp:p<=512) (hn:(p:Int)<=n): ∃c,double.mul f (pw (p:Int))=some c/\ScI w c (n - p):=by
 have hle:=h.le
 have hm:=F3 h0
 obtain ⟨c,c1,c2,c3⟩:=S7 (m:=mw w) (j:=((ew w:Int) - (n - p)).toNat) (by omega) (uN w) (by
  refine a1 ?_ (EF hw)
  rw [Iu]
  exact a6 _ (Vh (by omega)))
 refine ⟨c,Xf h.pos h.fin c2 (by omega) ?_,c1,c2,by omega,c3⟩
 rw [c3,h.val,ad,<-bF]
 congr 2;omega
theorem ScI.down {w f:Nat} {n:Int} (h:ScI w f n) (h0:0 < w) (hw:w < fInf) {p:Nat} (hp:p<=512) (hn:n<= -(p:Int)): ∃c,double.mul f (pw (-(p:Int)))=some c/\ScI w c (n+p):=by
 have hle:=h.le
 have hm:=F3 h0
 have a:=EF h.fin
 rw [h.val] at a
 obtain ⟨c,c1,c2,c3⟩:=S7 (m:=mw w) (j:=((ew w:Int) - (n+p)).toNat) (by omega) (uN w) (by
  refine a1 ?_ a
  exact a6 _ (Vh (by omega)))
 refine ⟨c,Wl h.pos h.fin c2 (by omega) ?_,c1,c2,by omega,c3⟩
 rw [c3,h.val,ad,<-bF]
 congr 2;omega
theorem ScI.end {w f:Nat} (h:ScI w f 0):f=w:=by
 refine val_inj ?_
 rw [h.val,Iu w];congr 2
theorem Ui {p:Nat} (h:p<=512):lK .neg (.int .i64 (p:Int))=some (.int .i64 (-(p:Int))):=by
 simp only [lK]
 rw [wrap64 (by omega) (by omega)]
 congr 2;omega
theorem V3 {w:Nat} (h0:0 < w) (hw:w < fInf) {i p:Nat} (hp:Jm[i]? =some p): ∀(j f:Nat) (n:Int),ScI w f n-> -1100<=n->n<=1100->n.toNat < j->
  ∃b a,iter j (qz jD i) [.flt .f64 f,.int .i64 n]=some (0,[.flt .f64 b,.int .i64 a])/\ScI w b a/\a < p/\(a=n\/0<=a/\a<=n)
 | 0,f,n,_,_,_,h=>by omega
 | j+1,f,n,h,h1,h2,hj=>by
   obtain ⟨t0,t1,r,q,k,hi⟩:=Ez i p hp
   by_cases hn:(p:Int)<=n
   ·obtain ⟨c,c1,c2⟩:=h.up h0 hw k hn
    have hs:aa .sub (.int .i64 n) (.int .i64 (p:Int))=some (.int .i64 (n - p)):=wa (by omega) (by omega) (by omega) (by omega)
    obtain ⟨b,a,d,e,g,m⟩:=V3 h0 hw hp j c (n - p) c2 (by omega) (by omega) (by omega)
    refine ⟨b,a,?_,e,g,by omega⟩
    rw [og j (vs':=[.flt .f64 c,.int .i64 (n - p)]),d]
    generalize o:pw (p:Int)=l at t1 c1
    unfold qz
    simp only [zD,af,ai,t0,t1,de,hn,decide_true,ab,ah,rI c1,hs]
   ·refine ⟨f,n,gB j ?_,h,by omega,.inl rfl⟩
    unfold qz
    simp only [zD,af,ai,t0,de,hn,decide_false,ab,ag]
theorem MX {w:Nat} (h0:0 < w) (hw:w < fInf) {i p:Nat} (hp:Jm[i]? =some p): ∀(j f:Nat) (n:Int),ScI w f n-> -1100<=n->n<=1100->(-n).toNat < j->
  ∃b a,iter j (qw jD i) [.flt .f64 f,.int .i64 n]=some (0,[.flt .f64 b,.int .i64 a])/\ScI w b a/\ -(p:Int) < a/\(a=n\/a<=0/\n<=a)
 | 0,f,n,_,_,_,h=>by omega
 | j+1,f,n,h,h1,h2,hj=>by
   obtain ⟨t0,t1,e,r,d,hi⟩:=Ez i p hp
   by_cases hn:n<= -(p:Int)
   ·obtain ⟨c,c1,c2⟩:=h.down h0 hw d hn
    have hs:aa .add (.int .i64 n) (.int .i64 (p:Int))=some (.int .i64 (n+p)):=BL (by omega) (by omega) (by omega) (by omega)
    obtain ⟨b,a,g,k,l,o⟩:=MX h0 hw hp j c (n+p) c2 (by omega) (by omega) (by omega)
    refine ⟨b,a,?_,k,l,by omega⟩
    rw [og j (vs':=[.flt .f64 c,.int .i64 (n+p)]),g]
    generalize q:pw (-(p:Int))=m at e c1
    unfold qw
    simp only [zD,af,ai,t0,e,Ui d,jU,hn,decide_true,ab,ah,rI c1,hs]
   ·refine ⟨f,n,gB j ?_,h,by omega,.inl rfl⟩
    unfold qw
    simp only [zD,af,ai,t0,Ui d,jU,hn,decide_false,ab,ag]
theorem adl {i:Nat} (h:i < 10): ∃p,Jm[i]? =some p:=⟨_,List.getElem?_eq_getElem (show i < Jm.length from h)⟩
theorem LS {w:Nat} (h0:0 < w) (hw:w < fInf): ∀(k j i f:Nat) (n:Int),i+k=10->k < j->ScI w f n-> -1100<=n->n<=1100->(i=10->n=0)->iter j (ni jD) [.flt .f64 f,.int .i64 n,.int .i64 (i:Int)]=some (0,[.flt .f64 w])
 | 0,j,i,f,n,hi,hj,h,h1,h2,d=>by
   obtain ⟨j,rfl⟩: ∃b,j=b+1:=⟨j - 1,by omega⟩
   obtain rfl:i=10:=by omega
   obtain rfl:=d rfl
   obtain rfl:=h.end
   refine gB j ?_
   unfold ni
   simp
 | k+1,j,i,f,n,hi,hj,h,h1,h2,d=>by
   obtain ⟨j,rfl⟩: ∃b,j=b+1:=⟨j - 1,by omega⟩
   obtain ⟨p,hp⟩:=adl (show i < 10 by omega)
   obtain ⟨_,_,_,x,y,_⟩:=Ez i p hp
   obtain ⟨q,r,l,m,s,t⟩:=V3 h0 hw hp rounds f n h h1 h2 (by rw [aO];omega)
   obtain ⟨c,g,o,b2,u,v⟩:=MX h0 hw hp rounds q r m (by omega) (by omega) (by rw [aO];omega)
   have a:((i:Int) < 10):=by omega
   rw [og j (vs':=[.flt .f64 c,.int .i64 g,.int .i64 ((i+1:Nat):Int)])]
   ·refine LS h0 hw k j (i+1) c g (by omega) (by omega) b2 (by omega) (by omega) λe=> ?_
    have:i=9:=by omega
    subst this
    cases hp
    omega
   ·unfold ni
    simp only [af,ai,ay,al,a,decide_true,ah,ab,eb (show i < 10 by omega),l,aN,o,au (show i < 2 ^ 62 by omega)]
theorem abL {w f:Nat} {n:Int} (h0:0 < w) (hw:w < fInf) (h:ScI w f n) (h1: -1100<=n) (h2:n<=1100):jC (.flt .f64 f) (.int .i64 n)=some [.flt .f64 w]:=by
 unfold jC
 rw [A6]
 have:=LS h0 hw 10 rounds 0 f n rfl (by rw [aO];decide) h h1 h2 (by omega)
 rw [ab,show iter rounds (ni jD) [.flt .f64 f,.int .i64 n,.int .i64 0]=some (0,[.flt .f64 w]) from this]
 rfl
theorem ac9 {w:Nat} (h0:0 < w) (hw:w < fInf): ∃f,Xe .f64 (.int .u64 (mw w:Int))=some (.flt .f64 f)/\ScI w f ((ew w:Int) - 1074):=by
 have hm:=F3 h0
 have a:=uN w
 obtain ⟨c,c1,c2,c3⟩:=S7 (m:=mw w) (j:=1074) (by omega) a (by
  calc mw w*P2 1074 < P2 53*P2 1074:=ao (by rw [cT];exact a) (jj _)
   _=P2 1127:=(bF _ _).symm
   _ < P2 2098:=abv (by decide))
 refine ⟨c,?_,c1,c2,by omega,by rw [c3];congr 2;omega⟩
 have hc:=p5 (w:=c)
 have key:FloatKind.f64.nearest (mw w:Int)=c:=by
  show double.nearest (decide ((mw w:Int) < 0)) (mw w:Int).natAbs 0=c
  rw [decide_eq_false (by omega),Int.natAbs_natCast,vJ hm (uN c) (BO c) (.inl ⟨by omega,?_⟩)]
  ·rw [<-hc];exact a8 (a7 c2)
  ·obtain ⟨N,b⟩: ∃N:Nat,N=1074:=⟨_,rfl⟩
   have e:(0+1074:Int).toNat=N:=by rw [b];rfl
   rw [e,<-cT,<-cT,<-Iu,b,c3]
 simp only [Xe,key]
 rw [Ye (a7 c2)]
theorem J4 {w:Nat} (hw:w < 2 ^ 64) {k:Nat} (hk:2 ^ k - 1 < 2 ^ 64):aa .and (.int .u64 (w:Int)) (.int .u64 ((2 ^ k - 1:Nat):Int))=some (.int .u64 ((w % 2 ^ k:Nat):Int)):=by
 rw [qp hw hk,Nat.and_two_pow_sub_one_eq_mod]
theorem acD {w x:Nat} (b:x < 2 ^ 63) (hw:w=x\/w=2 ^ 63+x):w&&&2 ^ 63=if w=x then 0 else 2 ^ 63:=by
 have a:=Nat.testBit_lt_two_pow b
 have key:w.testBit 63=decide (w≠x):=by
  rcases hw with rfl | rfl
  ·simp [a]
  ·rw [Nat.testBit_two_pow_add_eq,a];simp
 apply Nat.eq_of_testBit_eq
 intro i
 rw [Nat.testBit_and]
 by_cases hi:i=63
 ·subst hi
  rw [key,Nat.testBit_two_pow_self]
  by_cases h:w=x
  ·simp [h]
  ·simp [h];rfl
 ·have h2:(2 ^ 63).testBit i=false:=by rw [Nat.testBit_two_pow];simp;omega
  rw [h2,Bool.and_false]
  split
  ·simp
  ·exact h2.symm
theorem KZ {w x:Nat} (h0:0 < x) (p:x < fInf) (hw:w=x\/w=2 ^ 63+x):l8 (.int .u64 (w:Int))=some [.flt .f64 w]:=by
 have A:x < 2047*2 ^ 52:=p
 have c:w < 2 ^ 64:=by omega
 have C:aa .shr (.int .u64 (w:Int)) (.int .u64 52)=some (.int .u64 ((w / 2 ^ 52:Nat):Int)):=l7 (b:=52) (by decide)
 have D:aa .and (.int .u64 ((w / 2 ^ 52:Nat):Int)) (.int .u64 2047)=some (.int .u64 ((x / 2 ^ 52:Nat):Int)):=by
  have:=J4 (w:=w / 2 ^ 52) (by omega) (k:=11) (by decide)
  rw [show (2 ^ 11 - 1:Nat)=2047 from rfl,show w / 2 ^ 52 % 2 ^ 11=x / 2 ^ 52 by omega] at this
  exact this
 have E:bN .i64 (.int .u64 ((x / 2 ^ 52:Nat):Int))=some (.int .i64 ((x / 2 ^ 52:Nat):Int)):=by
  simp only [bN];rw [wrap64 (by omega) (by omega)]
 have s4:aa .and (.int .u64 (w:Int)) (.int .u64 4503599627370495)=some (.int .u64 ((x % 2 ^ 52:Nat):Int)):=by
  have:=J4 (w:=w) c (k:=52) (by decide)
  rw [show (2 ^ 52 - 1:Nat)=4503599627370495 from rfl,show w % 2 ^ 52=x % 2 ^ 52 by omega] at this
  exact this
 have F: ¬(((x / 2 ^ 52:Nat):Int)=2047):=by omega
 have v:((aa .and (.int .u64 (w:Int)) (.int .u64 9223372036854775808)).bind λq=>(aa .neq q (.int .u64 0)).bind λr=>ae r (λ_=>(lK .neg (.flt .f64 x)).bind λs=>av [s]) (λ_=>av [.flt .f64 x]))=some [.flt .f64 w]:=by
  have n:=qp c (show 2 ^ 63 < 2 ^ 64 by decide)
  have d:x < 2 ^ 63:=by omega
  rw [acD d hw] at n
  rcases hw with rfl | rfl
  ·have g:aa .and (.int .u64 (w:Int)) (.int .u64 9223372036854775808)=some (.int .u64 0):=by simpa using n
   rw [g];rfl
  ·have g:aa .and (.int .u64 ((2 ^ 63+x:Nat):Int)) (.int .u64 9223372036854775808)=some (.int .u64 9223372036854775808):=by simpa using n
   rw [g,ab]
   have hn:lK .neg (.flt .f64 x)=some (.flt .f64 (2 ^ 63+x)):=by
    show some (IV.flt .f64 (canF .f64 (x ^^^ 2 ^ 63)))=_
    have e:x ^^^ 2 ^ 63=2 ^ 63+x:=by
     have h1:=Vy d
     have h2:((2 ^ 63+x) ^^^ 2 ^ 63) ^^^ 2 ^ 63=x ^^^ 2 ^ 63:=by rw [h1]
     rw [Nat.xor_assoc,Nat.xor_self,Nat.xor_zero] at h2
     exact h2.symm
    rw [e,Gw]
    unfold bitsN
    rw [if_neg (by show ¬(2047*2 ^ 52 < (2 ^ 63+x) % 2 ^ 63);omega)]
   have i:aa .neq (.int .u64 9223372036854775808) (.int .u64 0)=some (.bool true):=rfl
   rw [i,ab,ah,hn,ab];rfl
 obtain ⟨f,m,y⟩:=ac9 h0 p
 have z:ew x<=2046:=by unfold ew;omega
 have h:=abL h0 p y (by omega) (by omega)
 unfold l8
 simp only [C,D,E,s4,ab,dI,F,decide_false,ag,af]
 by_cases he:x / 2 ^ 52=0
 ·have l:x < 2 ^ 52:=by omega
  have i:mw x=x % 2 ^ 52:=by unfold mw;rw [if_pos l];omega
  have u:ew x=0:=Ua l
  rw [i] at m
  rw [u] at h
  have j:jC (.flt .f64 f) (.int .i64 (-1074))=some [.flt .f64 x]:=h
  have t:(((x / 2 ^ 52:Nat):Int)=0):=by omega
  simp only [t,decide_true,ah,m,ab,j,af]
  exact v
 ·have t: ¬(((x / 2 ^ 52:Nat):Int)=0):=by omega
  have i:mw x=2 ^ 52+x % 2 ^ 52:=by unfold mw;rw [if_neg (by omega)]
  have u:(ew x:Int)=((x / 2 ^ 52:Nat):Int) - 1:=by unfold ew;omega
  have o:aa .or (.int .u64 ((x % 2 ^ 52:Nat):Int)) (.int .u64 4503599627370496)=some (.int .u64 (mw x:Int)):=by
   have:=sZ (a:=x % 2 ^ 52) (b:=2 ^ 52) (by omega) (by decide)
   have e:x % 2 ^ 52|||2 ^ 52=mw x:=by
    rw [i,Nat.or_comm]
    have:=Yy (a:=1) (b:=x % 2 ^ 52) 52 (Nat.mod_lt _ (by decide))
    rw [Nat.one_mul] at this;exact this
   rw [e] at this;exact this
  have u1:aa .sub (.int .i64 ((x / 2 ^ 52:Nat):Int)) (.int .i64 1023)=some (.int .i64 (((x / 2 ^ 52:Nat):Int) - 1023)):=pC (by omega) (by omega)
  have u2:aa .sub (.int .i64 (((x / 2 ^ 52:Nat):Int) - 1023)) (.int .i64 52)=some (.int .i64 ((ew x:Int) - 1074)):=by
   rw [pC (by omega) (by omega)];congr 2;omega
  simp only [t,decide_false,ag,o,ab,m,u1,u2,h,af]
  exact v
theorem Pb {w:Nat} (h:w < 2 ^ 64) (hc:bitsN w=w):l8 (.int .u64 (w:Int))=some [.flt .f64 w]:=by
 rcases S2 w h with h1 | rfl | rfl | rfl | rfl | ⟨h1,h2⟩ | ⟨x,rfl,h1,h2⟩
 ·have e:w=9221120237041090560:=by unfold bitsN at hc;rw [if_pos h1] at hc;exact hc.symm
  subst e;rfl
 ·rfl
 ·rfl
 ·rfl
 ·rfl
 ·exact KZ h1 h2 (.inl rfl)
 ·exact KZ h1 h2 (.inr rfl)
end Go.AM
