/- Numbers with a point, plainly: what their words stand for; exact products. -/
import Derived.Test.YtgoenohknokcmaaGreatMk
open Option renaming bind_some->ab,map_some->cd
open Nat renaming mul_lt_mul_of_pos_right->ad,mul_assoc->ao,two_pow_pos->aB,eq_of_mul_eq_mul_right->a1,pow_add->a2,mul_le_mul_right->a5,pow_le_pow_right->a6,shiftLeft_eq->bb,shiftLeft_zero->bd,testBit_lt_two_pow->bm,lt_trichotomy->br,mod_eq_of_lt->bx,log2_eq_iff->bB,mul_ne_zero->bC,mul_le_mul_left->bM,lt_of_mul_lt_mul_right->bO,lt_of_le_of_lt->bR,le_of_not_lt->b0,min_eq_left->b1,mul_div_cancel->b4,lt_of_lt_of_le->b5,eq_zero_or_pos->b6,le_of_lt->b7,lt_of_not_le->ca,log2_lt->cb,le_refl->cc,not_lt_zero->ch,pow_zero->ck,ne_of_gt->cl,zero_add->cv,zero_mul->cO,mod_one->c0,mul_pos->c5,mul_one->c6,one_mul->c7
open Bool renaming false_eq_true->a7
open BitVec renaming ofInt_natCast->a8,toNat_ofNat->bf,ofInt->b3
open Go.IntKind renaming u64->bs
open Go.FloatKind renaming f64->bA
set_option linter.unusedVariables false
set_option linter.unusedSimpArgs false
namespace Go.AM
open Ieee
theorem adH: ∃f:Nat->Nat,∀k,f k=2 ^ k:=⟨λk=>2 ^ k,λ_=>rfl⟩
 noncomputable def P2:Nat->Nat:=Classical.choose adH
theorem cT (k:Nat):P2 k=2 ^ k:=Classical.choose_spec adH k
theorem jj (k:Nat):0 < P2 k:=by rw [cT];exact aB k
theorem bF (a b:Nat):P2 (a+b)=P2 a*P2 b:=by rw [cT,cT,cT];exact a2 2 a b
theorem abv {a b:Nat} (h:a < b):P2 a < P2 b:=by rw [cT,cT];exact Nat.pow_lt_pow_right (by decide) h
theorem Vh {a b:Nat} (h:a<=b):P2 a<=P2 b:=by rw [cT,cT];exact a6 (by decide) h
theorem K7 {a b:Nat} (h:P2 a < P2 b):a < b:=by rw [cT,cT] at h;exact (Nat.pow_lt_pow_iff_right (by decide)).1 h
theorem Rh:double.leastPlace= -1074:=by decide
theorem J0:double.binade=2 ^ 52:=by decide
theorem BP:double.infRung=2047*2 ^ 52:=by decide
theorem K9:double.signWeight=2 ^ 63:=by decide
theorem ad5:double.fractionBits=52:=rfl
def mw (w:Nat):Nat:=if w < 2 ^ 52 then w else 2 ^ 52+w % 2 ^ 52
def ew (w:Nat):Nat:=w / 2 ^ 52 - 1
def val (w:Nat):Nat:=mw w*2 ^ ew w
theorem Ua {w:Nat} (h:w < 2 ^ 52):ew w=0:=by unfold ew;omega
theorem p5 {w:Nat}:w=ew w*2 ^ 52+mw w:=by
 unfold ew mw
 split
 ·omega
 ·omega
theorem uN (w:Nat):mw w < 2 ^ 53:=by unfold mw;split<;>omega
theorem BO (w:Nat):2 ^ 52<=mw w\/ew w=0:=by unfold mw ew;split<;>omega
theorem tP {w:Nat} (h:w < 2047*2 ^ 52):double.read w= .number false (mw w) ((ew w:Int) - 1074):=by
 unfold Format.read
 simp only [K9,J0,BP,Rh]
 have h1:w / 2 ^ 63=0:=by omega
 have h2:w % 2 ^ 63=w:=by omega
 rw [h1,h2]
 unfold mw ew
 by_cases hs:w < 2 ^ 52
 ·rw [if_pos hs,if_pos hs,show w / 2 ^ 52 - 1=0 by omega];rfl
 ·rw [if_neg hs,if_pos h,if_neg hs]
  have e:(-1074:Int)+((w / 2 ^ 52 - 1:Nat):Int)=((w / 2 ^ 52 - 1:Nat):Int) - 1074:=by omega
  rw [e];rfl
theorem si {n k:Nat} (h:n≠0):(n*2 ^ k).log2=n.log2+k:=by
 have hp:0 < 2 ^ k:=aB k
 rw [bB (bC h (by omega))]
 obtain ⟨h1,h2⟩:=(bB h).1 rfl
 constructor
 ·rw [a2];exact a5 _ h1
 ·rw [show n.log2+k+1=n.log2+1+k by omega,a2];exact ad h2 hp
theorem Pd (n:Nat):Toward.even.cut false n 0=n:=by
 unfold Toward.cut
 simp [c0]
theorem P3 (a:Toward) (hw:a= .even\/a= .zero) {m d:Nat} (hm:m≠0):a.cut false (m*2 ^ d) d=m:=by
 unfold Toward.cut
 have b:min d ((m*2 ^ d).log2+2)=d:=by rw [si hm];omega
 have hp:0 < 2 ^ d:=aB d
 simp only [b,Nat.one_shiftLeft,b4 _ hp,Nat.mul_mod_left]
 rcases hw with rfl | rfl
 ·have h1: ¬(2 ^ d < 2*0):=by omega
  have h2:(2 ^ d==2*0)=false:=by simp only [Nat.mul_zero,beq_eq_false_iff_ne];omega
  simp [h2]
 ·simp
theorem vJ {mag M E:Nat} {place:Int} (b:mag≠0) (m:M < 2 ^ 53) (hn:2 ^ 52<=M\/E=0) (h:(0<=place+1074/\mag*2 ^ (place+1074).toNat=M*2 ^ E)\/(place+1074 < 0/\mag=M*2 ^ E*2 ^ (-(place+1074)).toNat)):
  double.nearest false mag place=min (E*2 ^ 52+M) (2047*2 ^ 52):=by
 have a:M≠0:=by
  intro h0;subst h0
  rcases h with ⟨_,h⟩ | ⟨_,h⟩
  ·have:0 < 2 ^ (place+1074).toNat:=aB _
   have:0 < mag*2 ^ (place+1074).toNat:=c5 (by omega) this
   omega
  ·simp at h;omega
 have i:(mag.log2:Int)+(place+1074)=(M.log2:Int)+E:=by
  rcases h with ⟨h0,h⟩ | ⟨h0,h⟩
  ·have:=congrArg Nat.log2 h
   rw [si b,si a] at this
   omega
  ·have:=congrArg Nat.log2 h
   rw [ao,<-a2,si a] at this
   omega
 have n:M.log2<=52:=by
  have:=(cb a (k:=53)).2 m;omega
 have f:2 ^ 52<=M->M.log2=52:= λh=>by
  have:=(Nat.le_log2 a).2 h;omega
 have d:max (place+(mag.log2:Int) - (52:Nat)) (-1074)=(E:Int) - 1074:=by
  rcases hn with g | l
  ·have:=f g;omega
  ·subst l;omega
 unfold Format.nearest
 rw [if_neg b]
 simp only [ad5,Rh,J0,BP]
 rw [d]
 have c:Toward.even.cut false (mag <<< (place - ((E:Int) - 1074)).toNat) (((E:Int) - 1074) - place).toNat=M:=by
  by_cases o:(E:Int) - 1074<=place
  ·have hz:(((E:Int) - 1074) - place).toNat=0:=by omega
   rw [hz,Pd,bb]
   rcases h with ⟨h0,h⟩ | ⟨h0,h⟩
   ·have e:(place+1074).toNat=(place - ((E:Int) - 1074)).toNat+E:=by omega
    rw [e,a2,<-ao] at h
    exact a1 (aB E) h
   ·omega
  ·have hz:(place - ((E:Int) - 1074)).toNat=0:=by omega
   rw [hz,bd]
   have:mag=M*2 ^ (((E:Int) - 1074) - place).toNat:=by
    rcases h with ⟨h0,h⟩ | ⟨h0,h⟩
    ·have e:E=(((E:Int) - 1074) - place).toNat+(place+1074).toNat:=by omega
     have j:M*2 ^ E=M*2 ^ (((E:Int) - 1074) - place).toNat*2 ^ (place+1074).toNat:=by
      rw [ao,<-a2,<-e]
     rw [j] at h
     exact a1 (aB _) h
    ·rw [h,ao,<-a2]
     congr 2;omega
   rw [this]
   exact P3 .even (.inl rfl) a
 rw [c]
 have:((E:Int) - 1074 - -1074).toNat=E:=by omega
 rw [this]
 simp only [Format.word,a7,if_false]
theorem Yg {M E:Nat} (a:M < 2 ^ 53) (hn:2 ^ 52<=M\/E=0):mw (E*2 ^ 52+M)=M/\ew (E*2 ^ 52+M)=E:=by
 unfold mw ew
 rcases hn with h | h
 ·constructor
  ·rw [if_neg (by omega)];omega
  ·omega
 ·subst h
  constructor
  ·split<;>omega
  ·omega
def pw (k:Int):Nat:=(1023+k).toNat*2 ^ 52
theorem mul_pow {w:Nat} (hw:w < 2047*2 ^ 52) {k:Int} (h1: -1022<=k) (h2:k<=1023) {M E:Nat} (hm:mw w≠0) (g:M < 2 ^ 53) (hn:2 ^ 52<=M\/E=0)
  (h:(0<=(ew w:Int)+k/\mw w*2 ^ ((ew w:Int)+k).toNat=M*2 ^ E)\/((ew w:Int)+k < 0/\mw w=M*2 ^ E*2 ^ (-((ew w:Int)+k)).toNat)):
  double.mul w (pw k)=some (min (E*2 ^ 52+M) (2047*2 ^ 52)):=by
 have d:pw k < 2047*2 ^ 52:=by unfold pw;omega
 have c:mw (pw k)=2 ^ 52:=by unfold mw pw;rw [if_neg (by omega)];omega
 have b:(ew (pw k):Int)=1022+k:=by unfold ew pw;omega
 unfold Format.mul
 rw [tP hw,tP d,c,b]
 show some (double.nearest (false ^^ false) (mw w*2 ^ 52) ((ew w:Int) - 1074+(1022+k - 1074)))=_
 congr 1
 refine vJ (bC hm (by decide)) g hn ?_
 have e:(ew w:Int) - 1074+(1022+k - 1074)+1074=(ew w:Int)+k - 52:=by omega
 rw [e]
 rcases h with ⟨h0,h⟩ | ⟨h0,h⟩
 ·by_cases a:0<=(ew w:Int)+k - 52
  ·refine .inl ⟨a,?_⟩
   rw [<-h,ao,<-a2]
   congr 2;omega
  ·refine .inr ⟨by omega,?_⟩
   rw [<-h,ao,<-a2]
   congr 2;omega
 ·refine .inr ⟨by omega,?_⟩
  have f:(-((ew w:Int)+k - 52)).toNat=(-((ew w:Int)+k)).toNat+52:=by omega
  rw [h,f,a2,<-ao]
end Go.AM
namespace Go.AM
open Ieee
abbrev fInf:Nat:=2047*2 ^ 52
theorem mR {w w':Nat} (h:w < w'):val w < val w':=by
 have c:=p5 (w:=w)
 have e:=p5 (w:=w')
 have b:=uN w
 have d:=uN w'
 unfold val
 rcases br (ew w) (ew w') with he | he | he
 ·have a:2 ^ 52<=mw w':=by rcases BO w' with h | h<;>omega
  calc mw w*2 ^ ew w < 2 ^ 53*2 ^ ew w:=ad b (aB _)
   _=2 ^ 52*2 ^ (ew w+1):=by rw [Nat.pow_succ];omega
   _<=2 ^ 52*2 ^ ew w':=bM _ (a6 (by decide) he)
   _<=mw w'*2 ^ ew w':=a5 _ a
 ·rw [he] at c ⊢
  exact ad (by omega) (aB _)
 ·exfalso
  have a:2 ^ 52<=mw w:=by rcases BO w with h | h<;>omega
  have:(ew w'+1)*2 ^ 52<=ew w*2 ^ 52:=a5 _ he
  omega
theorem pZ {w w':Nat}:val w < val w'↔w < w':=by
 constructor
 ·intro h
  rcases br w w' with h1 | h1 | h1
  ·exact h1
  ·subst h1;omega
  ·have:=mR h1;omega
 ·exact mR
theorem val_inj {w w':Nat} (h:val w=val w'):w=w':=by
 rcases br w w' with h1 | h1 | h1
 ·have:=mR h1;omega
 ·exact h1
 ·have:=mR h1;omega
theorem qu {k:Int} (h: -1022<=k):val (pw k)=P2 (1074+k).toNat:=by
 have hm:mw (pw k)=2 ^ 52:=by unfold mw pw;rw [if_neg (by omega)];omega
 have he:ew (pw k)=(1022+k).toNat:=by unfold ew pw;omega
 unfold val
 have e:52+(1022+k).toNat=(1074+k).toNat:=by omega
 rw [hm,he,<-a2,e,cT]
theorem Mm (k:Nat):pw (k:Int)=(1023+k)*2 ^ 52:=by
 unfold pw
 congr 1
theorem BI:pw 0=1023*2 ^ 52:=Mm 0
theorem Z6:pw 1=1024*2 ^ 52:=Mm 1
theorem ae5 {k:Nat} (h:k<=1022):pw (-(k:Int))=(1023 - k)*2 ^ 52:=by
 unfold pw
 congr 1
 omega
theorem val_zero:val 0=0:=by decide
theorem Sw {w:Nat} (h:0 < w):0 < val w:=by have:=mR h;rw [val_zero] at this;exact this
theorem F3 {w:Nat} (h:0 < w):mw w≠0:=by unfold mw;split<;>omega
theorem ac5 (a b:Nat):compare (a:Int) (b:Int)=compare a b:=by
 simp only [compare,compareOfLessAndEq,Int.ofNat_lt,Int.natCast_inj]
theorem X0 (a b k:Nat) (hk:0 < k):compare (a*k) (b*k)=compare a b:=by
 simp only [compare,compareOfLessAndEq]
 by_cases h:a < b
 ·rw [if_pos h,if_pos (ad h hk)]
 ·have: ¬(a*k < b*k):= λh2=>h (bO h2)
  rw [if_neg h,if_neg this]
  by_cases e:a=b
  ·subst e;simp
  ·have: ¬(a*k=b*k):= λh2=>e (a1 hk h2)
   rw [if_neg e,if_neg this]
theorem adr {w w':Nat}:compare (val w) (val w')=compare w w':=by
 simp only [compare,compareOfLessAndEq,pZ]
 by_cases e:w=w'
 ·subst e;simp
 ·have: ¬(val w=val w'):= λh=>e (val_inj h)
  rw [if_neg e,if_neg this]
theorem Bx {w w':Nat} (h:w < fInf) (h':w' < fInf):double.order w w'=some (compare w w'):=by
 unfold Format.order
 rw [tP h,tP h']
 show some (compare (signed false (mw w) _) (signed false (mw w') _))=_
 congr 1
 rw [<-adr]
 unfold signed val
 simp only [a7,if_false,bb]
 rw [ac5]
 rcases Nat.le_total (ew w) (ew w') with he | he
 ·have a:((ew w:Int) - 1074 - min ((ew w:Int) - 1074) ((ew w':Int) - 1074)).toNat=0:=by omega
  have b:ew w'=((ew w':Int) - 1074 - min ((ew w:Int) - 1074) ((ew w':Int) - 1074)).toNat+ew w:=by omega
  rw [a,<-X0 _ _ (2 ^ ew w) (aB _),ck,c6,ao,<-a2,<-b]
 ·have a:((ew w':Int) - 1074 - min ((ew w:Int) - 1074) ((ew w':Int) - 1074)).toNat=0:=by omega
  have b:ew w=((ew w:Int) - 1074 - min ((ew w:Int) - 1074) ((ew w':Int) - 1074)).toNat+ew w':=by omega
  rw [a,<-X0 _ _ (2 ^ ew w') (aB _),ck,c6,ao,<-a2,<-b]
theorem vr {a b:Nat} (h:a < fInf) (h':b < fInf):aa .lss (.flt .f64 a) (.flt .f64 b)=some (.bool (decide (a < b))):=by
 show some (IV.bool (double.order a b==some .lt))=_
 rw [Bx h h']
 congr 2
 simp only [compare,compareOfLessAndEq]
 by_cases h1:a < b
 ·simp [h1]
 ·by_cases h2:a=b<;>simp [h1,h2]
theorem L4 {a b:Nat} (h:a < fInf) (h':b < fInf):aa .geq (.flt .f64 a) (.flt .f64 b)=some (.bool (decide (b<=a))):=by
 show some (IV.bool (double.order a b==some .gt||double.order a b==some .eq))=_
 rw [Bx h h']
 congr 2
 simp only [compare,compareOfLessAndEq]
 by_cases h1:a < b
 ·have c: ¬b<=a:=by omega
  simp [h1,c]
 ·have c:b<=a:=by omega
  by_cases h2:a=b
  ·subst h2;simp
  ·simp [h1,h2,c]
theorem Ai {a b:Nat} (h:a < fInf) (h':b < fInf):aa .eql (.flt .f64 a) (.flt .f64 b)=some (.bool (decide (a=b))):=by
 show some (IV.bool (double.order a b==some .eq))=_
 rw [Bx h h']
 congr 2
 simp only [compare,compareOfLessAndEq]
 by_cases h1:a < b
 ·have c: ¬a=b:=by omega
  simp [h1,c]
 ·by_cases h2:a=b<;>simp [h1,h2]
theorem WQ {a b:Nat} (h:a < fInf) (h':b < fInf):aa .neq (.flt .f64 a) (.flt .f64 b)=some (.bool (decide (a≠b))):=by
 show some (IV.bool (double.order a b !=some .eq))=_
 rw [Bx h h']
 congr 2
 simp only [compare,compareOfLessAndEq]
 by_cases h1:a < b
 ·have c: ¬a=b:=by omega
  simp [h1,c]
 ·by_cases h2:a=b<;>simp [h1,h2]
theorem DK {w p:Nat} (h0:0 < w) (hw:w < fInf) (hp:p<=1023) {b:Nat} (hb:b<=2098) (hv:val w*P2 p < P2 b): ∃c,double.mul w (pw p)=some c/\0 < c/\c < fInf/\val c=val w*P2 p:=by
 have hm:=F3 h0
 have key: ∀(M E:Nat),M < 2 ^ 53->(2 ^ 52<=M\/E=0)->M≠0->mw w*2 ^ (ew w+p)=M*2 ^ E-> ∃c,double.mul w (pw p)=some c/\0 < c/\c < fInf/\val c=val w*P2 p:= λM E f hn j he=>by
  have d:E*2 ^ 52+M < fInf:=by
   rcases hn with a | h0
   ·have:P2 (52+E) < P2 b:=by
     calc P2 (52+E)=2 ^ 52*2 ^ E:=by rw [cT];exact a2 _ _ _
      _<=M*2 ^ E:=a5 _ a
      _=val w*P2 p:=by rw [<-he,cT];unfold val;rw [ao,<-a2]
      _ < _:=hv
    have:=K7 this
    show E*2 ^ 52+M < 2047*2 ^ 52
    omega
   ·subst h0;show 0*2 ^ 52+M < 2047*2 ^ 52;omega
  refine ⟨E*2 ^ 52+M,?_,by omega,d,?_⟩
  ·have:=mul_pow hw (k:=(p:Int)) (by omega) (by omega) hm f hn (.inl ⟨by omega,by rw [<-he];congr 2⟩)
   rw [this,b1 (b7 d)]
  ·obtain ⟨h,i⟩:=Yg f hn
   have:val (E*2 ^ 52+M)=M*2 ^ E:=by unfold val;rw [h,i]
   rw [this,<-he,cT]
   unfold val
   rw [ao,<-a2]
 rcases BO w with a | e
 ·exact key (mw w) (ew w+p) (uN w) (.inl a) hm rfl
 ·by_cases a:2 ^ 52<=mw w
  ·exact key (mw w) (ew w+p) (uN w) (.inl a) hm rfl
  ·have l:(mw w).log2 < 52:=(cb hm).2 (by omega)
   obtain ⟨g,b2⟩:=(bB hm).1 rfl
   by_cases hs:(mw w).log2+p<=52
   ·refine key (mw w*2 ^ p) 0 ?_ (.inr rfl) (bC hm (cl (aB _))) (by rw [e];simp)
    calc mw w*2 ^ p < 2 ^ ((mw w).log2+1)*2 ^ p:=ad b2 (aB _)
     _=2 ^ ((mw w).log2+1+p):=(a2 _ _ _).symm
     _<=2 ^ 53:=a6 (by decide) (by omega)
   ·refine key (mw w*2 ^ (52 - (mw w).log2)) (p - (52 - (mw w).log2)) ?_ (.inl ?_) (bC hm (cl (aB _))) ?_
    ·calc mw w*2 ^ (52 - (mw w).log2) < 2 ^ ((mw w).log2+1)*2 ^ (52 - (mw w).log2):=ad b2 (aB _)
      _=2 ^ ((mw w).log2+1+(52 - (mw w).log2)):=(a2 _ _ _).symm
      _<=2 ^ 53:=a6 (by decide) (by omega)
    ·calc 2 ^ 52=2 ^ ((mw w).log2+(52 - (mw w).log2)):=by congr 1;omega
      _=2 ^ (mw w).log2*2 ^ (52 - (mw w).log2):=a2 _ _ _
      _<=mw w*2 ^ (52 - (mw w).log2):=a5 _ g
    ·rw [e,ao,<-a2]
     congr 2;omega
def dn (f p:Nat):Nat:=f - p*2 ^ 52
theorem UA {w p:Nat} (h1:1<=p) (hp:p<=1022) (b:pw p<=w) (hw:w < fInf):double.mul w (pw (-(p:Int)))=some (dn w p)/\val w=val (dn w p)*P2 p/\pw 0<=dn w p:=by
 unfold dn
 rw [cT]
 have d:(1023+p)*2 ^ 52<=w:=by rw [<-Mm];exact b
 have he:ew w=ew (w - p*2 ^ 52)+p:=by unfold ew;omega
 have hm:mw w=mw (w - p*2 ^ 52):=by unfold mw;rw [if_neg (by omega),if_neg (by omega)];omega
 have hs:=p5 (w:=w - p*2 ^ 52)
 have e:w < 2047*2 ^ 52:=hw
 refine ⟨?_,?_,by have:=BI;omega⟩
 ·have a:2 ^ 52<=mw (w - p*2 ^ 52):=by unfold mw;rw [if_neg (by omega)];omega
  have c:mw w≠0:=by rw [hm];omega
  have hex:((ew w:Int)+ -(p:Int)).toNat=ew (w - p*2 ^ 52):=by omega
  have:=mul_pow hw (k:= -(p:Int)) (by omega) (by omega) c (uN (w - p*2 ^ 52)) (E:=ew (w - p*2 ^ 52)) (.inl a) (.inl ⟨by omega,by rw [hex,hm]⟩)
  rw [this,<-hs,b1 (by omega)]
 ·unfold val
  rw [hm,he,a2,ao]
theorem rI {a b c:Nat} (h:double.mul a b=some c):aa .mul (.flt .f64 a) (.flt .f64 b)=some (.flt .f64 c):=by
 show some (IV.flt .f64 (WT .f64 (double.mul a b)))=_
 rw [h];rfl
theorem Kj {w k:Nat} (hw:w < fInf) (hk:k < 2 ^ 64) (hv:val w=k*P2 1074):Ao .u64 (.flt .f64 w)=some (.int .u64 (k:Int)):=by
 have hint:(bA.decode w).toInt .zero=some (k:Int):=by
  show (double.read w).toInt .zero=_
  rw [tP hw]
  unfold Datum.toInt Datum.integral
  simp only [signed,a7,if_false,bd]
  congr 1
  have:Toward.zero.cut false (mw w <<< ((ew w:Int) - 1074).toNat) (-((ew w:Int) - 1074)).toNat=k:=by
   unfold val at hv
   by_cases he:1074<=ew w
   ·have b:(-((ew w:Int) - 1074)).toNat=0:=by omega
    have c:ew w=((ew w:Int) - 1074).toNat+1074:=by omega
    have d:2 ^ ew w=2 ^ ((ew w:Int) - 1074).toNat*P2 1074:=by
     have:=bF ((ew w:Int) - 1074).toNat 1074
     rw [<-c,cT,cT (((ew w:Int) - 1074).toNat)] at this
     exact this
    rw [b,bb]
    rw [d,<-ao] at hv
    rw [a1 (jj 1074) hv]
    unfold Toward.cut
    simp [c0]
   ·have b:((ew w:Int) - 1074).toNat=0:=by omega
    rw [b,bd]
    have c:1074=(-((ew w:Int) - 1074)).toNat+ew w:=by omega
    have hm:mw w=k*2 ^ (-((ew w:Int) - 1074)).toNat:=by
     refine a1 (aB (ew w)) ?_
     rw [hv,ao,<-a2,<-cT,<-c]
    rw [hm]
    by_cases a:k=0
    ·subst a
     simp [Toward.cut]
    ·exact P3 .zero (.inr rfl) a
  rw [this]
 simp only [Ao,hint]
 rw [if_pos]
 constructor
 ·show (0:Int)<=_;omega
 ·show (k:Int)<=2 ^ 64 - 1;omega
end Go.AM
namespace Go.AM
open Ieee
theorem yB {a:Nat} (h:a < 2 ^ 64):bs.wrap (a:Int)=(a:Int):=by
 have e:(a:Int) % (2 ^ 64:Int)=(a:Int):=Int.emod_eq_of_lt (by omega) (by omega)
 unfold IntKind.wrap
 show (if (false&&decide (((a:Int) % (2 ^ 64:Int))>=(2 ^ 63:Int)))=true then ((a:Int) % (2 ^ 64:Int)) - (2 ^ 64:Int) else ((a:Int) % (2 ^ 64:Int)))=_
 rw [e];simp
theorem od {a b:Nat} (h:a+b < 2 ^ 64):aa .add (.int .u64 (a:Int)) (.int .u64 (b:Int))=some (.int .u64 ((a+b:Nat):Int)):=by
 simp only [aa,cm,if_true]
 rw [show (a:Int)+(b:Int)=((a+b:Nat):Int) by omega,yB h]
theorem ZW {a b:Nat} (hb:b<=a) (h:a < 2 ^ 64):aa .sub (.int .u64 (a:Int)) (.int .u64 (b:Int))=some (.int .u64 ((a - b:Nat):Int)):=by
 simp only [aa,cm,if_true]
 rw [show (a:Int) - (b:Int)=((a - b:Nat):Int) by omega,yB (by omega)]
theorem wA {a b:Nat} {k:IntKind} (hb:b<=64) (h:a*2 ^ b < 2 ^ 64):aa .shl (.int .u64 (a:Int)) (.int k (b:Int))=some (.int .u64 ((a*2 ^ b:Nat):Int)):=by
 simp only [aa]
 rw [if_neg (by omega)]
 have e:min ((b:Int).toNat) bs.bits=b:=by show min _ 64=b;omega
 rw [e]
 have c:(a:Int)*2 ^ b=((a*2 ^ b:Nat):Int):=by rw [Int.natCast_mul,Int.natCast_pow];rfl
 rw [c,yB h]
theorem l7 {a b:Nat} {k:IntKind} (hb:b<=64):aa .shr (.int .u64 (a:Int)) (.int k (b:Int))=some (.int .u64 ((a / 2 ^ b:Nat):Int)):=by
 simp only [aa]
 rw [if_neg (by omega)]
 have e:min ((b:Int).toNat) bs.bits=b:=by show min _ 64=b;omega
 rw [e]
 have c:(2:Int) ^ b=((2 ^ b:Nat):Int):=by rw [Int.natCast_pow];rfl
 rw [c,Int.fdiv_eq_ediv_of_nonneg _ (Int.natCast_nonneg _),<-Int.natCast_ediv]
theorem sZ {a b:Nat} (c:a < 2 ^ 64) (hb:b < 2 ^ 64):aa .or (.int .u64 (a:Int)) (.int .u64 (b:Int))=some (.int .u64 ((a|||b:Nat):Int)):=by
 simp only [aa,cm,if_true]
 have:(b3 bs.bits (a:Int)|||b3 bs.bits (b:Int)).toNat=a|||b:=by
  rw [BitVec.toNat_or,a8,a8,bf,bf]
  show a % 2 ^ 64|||b % 2 ^ 64=_
  rw [bx c,bx hb]
 rw [this,yB (Nat.or_lt_two_pow c hb)]
theorem qp {a b:Nat} (c:a < 2 ^ 64) (hb:b < 2 ^ 64):aa .and (.int .u64 (a:Int)) (.int .u64 (b:Int))=some (.int .u64 ((a&&&b:Nat):Int)):=by
 simp only [aa,cm,if_true]
 have:(b3 bs.bits (a:Int)&&&b3 bs.bits (b:Int)).toNat=a&&&b:=by
  rw [BitVec.toNat_and,a8,a8,bf,bf]
  show a % 2 ^ 64&&&b % 2 ^ 64=_
  rw [bx c,bx hb]
 rw [this,yB (bR Nat.and_le_left c)]
theorem Yy {a b:Nat} (k:Nat) (h:b < 2 ^ k):a*2 ^ k|||b=a*2 ^ k+b:=by
 rw [<-bb,Nat.shiftLeft_add_eq_or_of_lt h]
theorem aad {a:Int} {n:Nat} (h:a=(n:Int)) (hn:n < 2 ^ 64):bN .u64 (.int .i64 a)=some (.int .u64 (n:Int)):=by
 subst h;simp only [bN,yB hn]
theorem adK {w p:Nat} (hw:w < fInf):dn w p < fInf:=bR (Nat.sub_le _ _) hw
theorem EF {w:Nat} (h:w < fInf):val w < P2 2098:=by
 unfold val
 have h1:ew w<=2045:=by have:w < 2047*2 ^ 52:=h;unfold ew;omega
 calc mw w*2 ^ ew w < 2 ^ 53*2 ^ ew w:=ad (uN w) (aB _)
  _=P2 (53+ew w):=by rw [cT];exact (a2 _ _ _).symm
  _<=P2 2098:=Vh (by omega)
theorem ML {w w':Nat}:val w<=val w'↔w<=w':=by
 have:=pZ (w:=w') (w':=w);omega
structure SpI (f0 f:Nat) (n:Int):Prop where
 pos:0 < f
 fin:f < fInf
 lo: -1074<=n
 hi:n<=1023
 eq:val f*P2 (n+2000).toNat=val f0*P2 2000
theorem SpI.down {f0 f:Nat} {n:Int} (h:SpI f0 f n) (h0:f0 < fInf) {p:Nat} (h1:1<=p) (hp:p<=512) (c:pw p<=f):double.mul f (pw (-(p:Int)))=some (dn f p)/\SpI f0 (dn f p) (n+p)/\pw 0<=dn f p:=by
 obtain ⟨e,g,d⟩:=UA h1 (by omega) c h.fin
 have hz:=BI
 have k:=h.lo
 have j:=h.hi
 have a:=adK (p:=p) h.fin
 have i:(n+(p:Int)+2000).toNat=p+(n+2000).toNat:=by omega
 have b:0 < dn f p:=by omega
 have heq:val (dn f p)*P2 (n+(p:Int)+2000).toNat=val f0*P2 2000:=by
  rw [i,bF,<-ao,<-g];exact h.eq
 have hb:P2 (1074+(n+(p:Int)+2000).toNat) < P2 4098:=by
  calc P2 (1074+(n+(p:Int)+2000).toNat)=val (pw 0)*P2 (n+(p:Int)+2000).toNat:=by
        rw [qu (by omega),bF];rfl
   _<=val (dn f p)*P2 (n+(p:Int)+2000).toNat:=a5 _ (ML.2 d)
   _=val f0*P2 2000:=heq
   _ < P2 2098*P2 2000:=ad (EF h0) (jj _)
   _=P2 4098:=(bF 2098 2000).symm
 have:=K7 hb
 exact ⟨e,⟨b,a,by omega,by omega,heq⟩,d⟩
theorem SpI.up {f0 f:Nat} {n:Int} (h:SpI f0 f n) (h0:0 < f0) {p:Nat} (h1:1<=p) (hp:p<=512) (a:f < pw (-(p:Int))): ∃c,double.mul f (pw p)=some c/\SpI f0 c (n - p)/\c < pw 0:=by
 have e0:(1074+ -(p:Int)).toNat+p=1074:=by omega
 have hv:val f*P2 p < P2 1074:=by
  calc val f*P2 p < val (pw (-(p:Int)))*P2 p:=ad (mR a) (jj _)
   _=P2 1074:=by rw [qu (by omega),<-bF,e0]
 obtain ⟨c,c1,c2,c3,c4⟩:=DK h.pos h.fin (show p<=1023 by omega) (show 1074<=2098 by omega) hv
 have e:=h.lo
 have d:=h.hi
 have b:(n+2000).toNat=p+(n - (p:Int)+2000).toNat:=by omega
 have heq:val c*P2 (n - (p:Int)+2000).toNat=val f0*P2 2000:=by
  rw [c4,ao,<-bF,<-b];exact h.eq
 have hb:P2 2000 < P2 (1074+(n - (p:Int)+2000).toNat):=by
  calc P2 2000=1*P2 2000:=by rw [c7]
   _<=val f0*P2 2000:=a5 _ (Sw h0)
   _=val c*P2 (n - (p:Int)+2000).toNat:=heq.symm
   _ < P2 1074*P2 (n - (p:Int)+2000).toNat:=ad (by rw [c4];exact hv) (jj _)
   _=_:=(bF _ _).symm
 have:=K7 hb
 refine ⟨c,c1,⟨c2,c3,by omega,by omega,heq⟩,?_⟩
 rw [<-pZ,qu (by omega),c4]
 exact hv
def Jm:List Nat:=[512,256,128,64,32,16,8,4,2,1]
def jD:List IV:=[.int .i64 512,.flt .f64 6913025428013711360,.flt .f64 2301339409586323456,.int .i64 256,.flt .f64 5760103923406864384,.flt .f64 3454260914193170432,.int .i64 128,.flt .f64 5183643171103440896,.flt .f64 4030721666496593920,.int .i64 64,.flt .f64 4895412794951729152,.flt .f64 4318952042648305664,.int .i64 32,.flt .f64 4751297606875873280,.flt .f64 4463067230724161536,.int .i64 16,.flt .f64 4679240012837945344,.flt .f64 4535124824762089472,.int .i64 8,.flt .f64 4643211215818981376,.flt .f64 4571153621781053440,.int .i64 4,.flt .f64 4625196817309499392,.flt .f64 4589168020290535424,.int .i64 2,.flt .f64 4616189618054758400,.flt .f64 4598175219545276416,.int .i64 1,.flt .f64 4611686018427387904,.flt .f64 4602678819172646912]
theorem A6:m0=some jD:=rfl
theorem zD:[nth jD 0,nth jD 1,nth jD 2,nth jD 3,nth jD 4,nth jD 5,nth jD 6,nth jD 7,nth jD 8,nth jD 9,nth jD 10,nth jD 11,nth jD 12,nth jD 13,nth jD 14,nth jD 15,nth jD 16,nth jD 17,nth jD 18,nth jD 19,nth jD 20,nth jD 21,nth jD 22,nth jD 23,nth jD 24,nth jD 25,nth jD 26,nth jD 27,nth jD 28,nth jD 29]=jD:=rfl
theorem Ez: ∀(i p:Nat),Jm[i]? =some p->nth jD (i*3+0)= .int .i64 (p:Int)/\nth jD (i*3+1)= .flt .f64 (pw (p:Int))/\nth jD (i*3+2)= .flt .f64 (pw (-(p:Int)))/\1<=p/\p<=512/\i < 10
 | 0,_,h=>by cases h;exact ⟨rfl,congrArg (IV.flt .f64) (by decide),congrArg (IV.flt .f64) (by decide),by decide,by decide,by decide⟩
 | 1,_,h=>by cases h;exact ⟨rfl,congrArg (IV.flt .f64) (by decide),congrArg (IV.flt .f64) (by decide),by decide,by decide,by decide⟩
 | 2,_,h=>by cases h;exact ⟨rfl,congrArg (IV.flt .f64) (by decide),congrArg (IV.flt .f64) (by decide),by decide,by decide,by decide⟩
 | 3,_,h=>by cases h;exact ⟨rfl,congrArg (IV.flt .f64) (by decide),congrArg (IV.flt .f64) (by decide),by decide,by decide,by decide⟩
 | 4,_,h=>by cases h;exact ⟨rfl,congrArg (IV.flt .f64) (by decide),congrArg (IV.flt .f64) (by decide),by decide,by decide,by decide⟩
 | 5,_,h=>by cases h;exact ⟨rfl,congrArg (IV.flt .f64) (by decide),congrArg (IV.flt .f64) (by decide),by decide,by decide,by decide⟩
 | 6,_,h=>by cases h;exact ⟨rfl,congrArg (IV.flt .f64) (by decide),congrArg (IV.flt .f64) (by decide),by decide,by decide,by decide⟩
 | 7,_,h=>by cases h;exact ⟨rfl,congrArg (IV.flt .f64) (by decide),congrArg (IV.flt .f64) (by decide),by decide,by decide,by decide⟩
 | 8,_,h=>by cases h;exact ⟨rfl,congrArg (IV.flt .f64) (by decide),congrArg (IV.flt .f64) (by decide),by decide,by decide,by decide⟩
 | 9,_,h=>by cases h;exact ⟨rfl,congrArg (IV.flt .f64) (by decide),congrArg (IV.flt .f64) (by decide),by decide,by decide,by decide⟩
 | i+10,p,h=>by rw [List.getElem?_eq_none (show Jm.length<=i+10 by show 10<=i+10;omega)] at h;cases h
def spF (s:Nat×Int) (p:Nat):Nat×Int:=if pw (p:Int)<=s.1 then (dn s.1 p,s.2+p) else if s.1 < pw (-(p:Int)) then ((double.mul s.1 (pw p)).getD 0,s.2 - p) else s
theorem ab2 {f0:Nat} (h0:0 < f0) (h1:f0 < fInf) {s:Nat×Int} (h:SpI f0 s.1 s.2) {p:Nat} (a:1<=p) (b:p<=512):SpI f0 (spF s p).1 (spF s p).2:=by
 unfold spF
 split
 ·rename_i d;exact (h.down h1 a b d).2.1
 ·split
  ·rename_i e
   obtain ⟨c,c1,c2,_⟩:=h.up h0 a b e
   rw [c1];exact c2
  ·exact h
theorem yR {k:Int} (h:k<=1023):pw k < fInf:=by unfold pw;show _ < 2047*2 ^ 52;omega
theorem BL {a b:Int} (h1: -(2 ^ 62)<=a) (h2:a<=2 ^ 61) (c: -(2 ^ 61)<=b) (d:b<=2 ^ 61):aa .add (.int .i64 a) (.int .i64 b)=some (.int .i64 (a+b)):=Ad (by omega) (by omega)
theorem wa {a b:Int} (h1: -(2 ^ 62)<=a) (h2:a<=2 ^ 61) (c: -(2 ^ 61)<=b) (d:b<=2 ^ 61):aa .sub (.int .i64 a) (.int .i64 b)=some (.int .i64 (a - b)):=pC (by omega) (by omega)
theorem Wr {T:List IV} (l:[nth T 0,nth T 1,nth T 2,nth T 3,nth T 4,nth T 5,nth T 6,nth T 7,nth T 8,nth T 9,nth T 10,nth T 11,nth T 12,nth T 13,nth T 14,nth T 15,nth T 16,nth T 17,nth T 18,nth T 19,nth T 20,nth T 21,nth T 22,nth T 23,nth T 24,nth T 25,nth T 26,nth T 27,nth T 28,nth T 29]=T) (F: ∀(i p:Nat),Jm[i]? =some p->nth T (i*3+0)= .int .i64 (p:Int)/\nth T (i*3+1)= .flt .f64 (pw (p:Int))/\nth T (i*3+2)= .flt .f64 (pw (-(p:Int)))/\1<=p/\p<=512/\i < 10) {f0:Nat} (h0:0 < f0) (h1:f0 < fInf) {f:Nat} {n:Int} (h:SpI f0 f n) {i p:Nat} (hp:Jm[i]? =some p):
  qE T [.flt .f64 f,.int .i64 n,.int .i64 (i:Int)]=some (.next [.flt .f64 (spF (f,n) p).1,.int .i64 (spF (f,n) p).2,.int .i64 ((i+1:Nat):Int)]):=by
 obtain ⟨t0,t1,C,z,A,hi⟩:=F i p hp
 have H:=h.lo
 have G:=h.hi
 obtain ⟨j,q⟩: ∃j,j=pw (p:Int):=⟨_,rfl⟩
 obtain ⟨g,r⟩: ∃g,g=pw (-(p:Int)):=⟨_,rfl⟩
 have s:j < fInf:=by rw [q];exact yR (by omega)
 have m:g < fInf:=by rw [r];exact yR (by omega)
 have a:= λb=>h.down h1 z A (b:pw (p:Int)<=f)
 have e:= λd=>h.up h0 z A (d:f < pw (-(p:Int)))
 have v:g<=pw 0:=by
  have:=BI
  have:=ae5 (k:=p) (by omega)
  omega
 have o:spF (f,n) p=if j<=f then (dn f p,n+p) else if f < g then ((double.mul f j).getD 0,n - p) else (f,n):=by
  unfold spF;rw [<-q,<-r]
 rw [o]
 rw [<-q] at t1 a e
 rw [<-r] at C a e
 have t:(i:Int) < 10:=by omega
 have I:aa .add (.int .i64 n) (.int .i64 (p:Int))=some (.int .i64 (n+p)):=BL (by omega) (by omega) (by omega) (by omega)
 have J:aa .sub (.int .i64 n) (.int .i64 (p:Int))=some (.int .i64 (n - p)):=wa (by omega) (by omega) (by omega) (by omega)
 have w:aa .add (.int .i64 (i:Int)) (.int .i64 1)=some (.int .i64 ((i+1:Nat):Int)):=au (by omega)
 clear q r o
 generalize pw 0=Z at v a e
 unfold qE
 simp only [l,af,ai,ay,al,t,decide_true,ah,ab,eb hi,t0,t1,C,L4 h.fin s,bj]
 by_cases b:j<=f
 ·obtain ⟨x,y,E⟩:=a b
  generalize dn f p=D at x y E ⊢
  have u: ¬(D < g):=by omega
  simp only [b,if_true]
  rw [rI x,ab,I,ab,vr y.fin m,ab,decide_eq_false u,ag,w,ab]
 ·simp only [b,if_false,vr h.fin m,ab,bj]
  by_cases d:f < g
  ·obtain ⟨c,c1,c2,_⟩:=e d
   simp only [d,if_true,rI c1,ab,J,w,c1,Option.getD_some]
  ·simp only [d,if_false,ab,w]
theorem FO:(4611686018427387904:Nat)=pw ((1:Nat):Int):=by decide
theorem aau:(4602678819172646912:Nat)=pw (-((1:Nat):Int)):=by decide
theorem Mx:(4607182418800017408:Nat)=pw 0:=by decide
theorem ahz:(4841369599423283200:Nat)=pw ((52:Nat):Int):=by decide
theorem PI {f0:Nat} (h1:f0 < fInf): ∀(m f:Nat) (n:Int),SpI f0 f n->f / 2 ^ 52 < m-> ∃c d,iter m iR [.flt .f64 f,.int .i64 n]=some (0,[.flt .f64 c,.int .i64 d])/\SpI f0 c d/\c < pw 1
 | 0,f,n,_,hm=>by omega
 | m+1,f,n,h,hm=>by
   have q:=h.lo
   have p:=h.hi
   by_cases a:pw ((1:Nat):Int)<=f
   ·obtain ⟨i,j,r⟩:=h.down h1 (cc 1) (by decide) a
    have hf:iR [.flt .f64 f,.int .i64 n]=some (.next [.flt .f64 (dn f 1),.int .i64 (n+((1:Nat):Int))]):=by
     unfold iR
     simp only [af,ai,FO,aau,L4 h.fin (yR (show ((1:Nat):Int)<=1023 by decide)),a,decide_true,ah,ab,rI i]
     rw [BL (b:=1) (by omega) (by omega) (by omega) (by omega)]
     rfl
    have g:1024*2 ^ 52<=f:=by have:=Mm 1;omega
    have e:dn f 1 / 2 ^ 52 < m:=by unfold dn;omega
    obtain ⟨c,d,k,l,o⟩:=PI h1 m (dn f 1) (n+((1:Nat):Int)) j e
    exact ⟨c,d,by simp only [iter,hf,ab];exact k,l,o⟩
   ·have hf:iR [.flt .f64 f,.int .i64 n]=some (.done 0 [.flt .f64 f,.int .i64 n]):=by
     unfold iR
     simp only [af,ai,FO,L4 h.fin (yR (show ((1:Nat):Int)<=1023 by decide)),a,decide_false,ag,ab]
    exact ⟨f,n,by simp only [iter,hf,ab],h,ca a⟩
theorem Ij {f0:Nat} (h0:0 < f0): ∀(m f:Nat) (n:Int),SpI f0 f n->f < pw 1->(n+1075).toNat < m-> ∃e i,iter m ji [.flt .f64 f,.int .i64 n]=some (0,[.flt .f64 e,.int .i64 i])/\SpI f0 e i/\pw 0<=e/\e < pw 1
 | 0,f,n,_,_,hm=>by omega
 | m+1,f,n,h,g,hm=>by
   have r:=h.lo
   have q:=h.hi
   have hz:=BI
   by_cases a:f < pw 0
   ·
    have d:=mR a
    rw [qu (by omega)] at d
    have hv:val f*P2 1 < P2 1075:=by
     calc val f*P2 1 < P2 1074*P2 1:=ad d (jj 1)
      _=P2 1075:=(bF 1074 1).symm
    obtain ⟨c,c1,c2,c3,c4⟩:=DK h.pos h.fin (show 1<=1023 by omega) (show 1075<=2098 by omega) hv
    have hb:P2 2000 < P2 (1074+(n+2000).toNat):=by
     calc P2 2000=1*P2 2000:=by rw [c7]
      _<=val f0*P2 2000:=a5 _ (Sw h0)
      _=val f*P2 (n+2000).toNat:=h.eq.symm
      _ < P2 1074*P2 (n+2000).toNat:=ad d (jj _)
      _=_:=(bF _ _).symm
    have hn:=K7 hb
    have j:(n+2000).toNat=1+(n - 1+2000).toNat:=by omega
    have p:SpI f0 c (n - 1):=⟨c2,c3,by omega,by omega,by
     rw [c4,ao,<-bF,<-j];exact h.eq⟩
    have hc:c < pw 1:=by
     rw [<-pZ,qu (by omega),c4];exact hv
    have hf:ji [.flt .f64 f,.int .i64 n]=some (.next [.flt .f64 c,.int .i64 (n - 1)]):=by
     unfold ji
     simp only [af,ai,Mx,FO,vr h.fin (yR (show (0:Int)<=1023 by decide)),a,decide_true,ah,ab]
     rw [rI (show double.mul f (pw ((1:Nat):Int))=some c from c1),wa (b:=1) (by omega) (by omega) (by omega) (by omega)]
     rfl
    obtain ⟨e,i,k,l,o⟩:=Ij h0 m c (n - 1) p hc (by omega)
    exact ⟨e,i,by simp only [iter,hf,ab];exact k,l,o⟩
   ·have hf:ji [.flt .f64 f,.int .i64 n]=some (.done 0 [.flt .f64 f,.int .i64 n]):=by
     unfold ji
     simp only [af,ai,Mx,vr h.fin (yR (show (0:Int)<=1023 by decide)),a,decide_false,ag,ab]
    exact ⟨f,n,by simp only [iter,hf,ab],h,b0 a,g⟩
theorem Ov {f0:Nat} (h0:0 < f0) (h1:f0 < fInf): ∃g n,jB (.flt .f64 f0)=some [.flt .f64 g,.int .i64 n]/\SpI f0 g n/\pw 0<=g/\g < pw 1:=by
 have d:SpI f0 f0 0:=⟨h0,h1,by omega,by omega,rfl⟩
 have a: ∀(l:List Nat),(∀p∈l,1<=p/\p<=512)-> ∀s:Nat×Int,SpI f0 s.1 s.2->SpI f0 (l.foldl spF s).1 (l.foldl spF s).2:=by
  intro l
  induction l with
  | nil=>intro _ s hs;exact hs
  | cons p l ih=>intro hl s hs;exact ih (λq j=>hl q (List.mem_cons_of_mem _ j)) _ (ab2 h0 h1 hs (hl p List.mem_cons_self).1 (hl p List.mem_cons_self).2)
 have c:=a Jm (by decide) (f0,0) d
 have hr:rounds=1000000:=rfl
 obtain ⟨h,k,e,b2,f⟩:=PI h1 rounds _ _ c (by have:=c.fin;have:(Jm.foldl spF (f0,0)).1 < 2047*2 ^ 52:=this;omega)
 obtain ⟨g,n,c1,c2,c3,c4⟩:=Ij h0 rounds h k b2 f (by have:=b2.hi;omega)
 refine ⟨g,n,?_,c2,c3,c4⟩
 unfold jB
 rw [A6]
 simp only [ab]
 rw [kC (vs0:=[.flt .f64 f0,.int .i64 0,.int .i64 0]) (λi (s:Nat×Int)=>[IV.flt .f64 s.1,.int .i64 s.2,.int .i64 (i:Int)]) spF 0 (λs=>[IV.flt .f64 s.1,.int .i64 s.2]) (λ_ s=>SpI f0 s.1 s.2) Jm (f0,0) rfl (by show 10 < rounds;omega) d]
 ·simp only [ab,aN,af,ai,e,c1,aa5,wL,du,cd]
 ·intro i s p hp hs
  have b:=Ez i p hp
  exact ⟨ab2 h0 h1 hs b.2.2.2.1 b.2.2.2.2.1,Wr zD Ez h0 h1 hs hp⟩
 ·intro s _
  unfold qE
  have:Jm.length=10:=rfl
  simp [this]
end Go.AM
namespace Go.AM
open Ieee
theorem Iu (w:Nat):val w=mw w*P2 (ew w):=by unfold val;rw [cT]
theorem Rb {M E:Nat} (c:M < 2 ^ 53) (hn:2 ^ 52<=M\/E=0):val (E*2 ^ 52+M)=M*P2 E:=by
 obtain ⟨a,b⟩:=Yg c hn
 rw [Iu,a,b]
theorem Bu {g:Nat} (h1:pw 0<=g) (h2:g < pw 1):ew g=1022/\2 ^ 52<=mw g/\mw g < 2 ^ 53/\val g=mw g*P2 1022:=by
 have a:=BI
 have b:=Z6
 have he:ew g=1022:=by unfold ew;omega
 have hm:2 ^ 52<=mw g:=by unfold mw;rw [if_neg (by omega)];omega
 refine ⟨he,hm,uN g,?_⟩
 rw [Iu,he]
theorem abp {f:Nat} (h:f < 2 ^ 52):val f=f:=by
 have he:=Ua h
 unfold val mw
 rw [if_pos h,he];omega
theorem Ym {f k:Nat} (h:val f=k) (hk:k < 2 ^ 52):f < 2 ^ 52/\f=k:=by
 have h1:val (2 ^ 52)=2 ^ 52:=by decide
 have h2:f < 2 ^ 52:=pZ.1 (by rw [h,h1];exact hk)
 exact ⟨h2,by rw [<-h,abp h2]⟩
theorem aaR {f0 g:Nat} {n:Int} (h:SpI f0 g n) (h1:pw 0<=g) (h2:g < pw 1): ∃c,aa .mul (.flt .f64 g) (.flt .f64 4841369599423283200)=some (.flt .f64 c)/\Ao .u64 (.flt .f64 c)=some (.int .u64 (mw g:Int)):=by
 obtain ⟨b,d,e,a⟩:=Bu h1 h2
 have hv:val g*P2 52 < P2 1127:=by
  have:val g < P2 1075:=by have:=mR h2;rw [qu (by omega)] at this;exact this
  calc val g*P2 52 < P2 1075*P2 52:=ad this (jj _)
   _=P2 1127:=(bF 1075 52).symm
 obtain ⟨c,c1,c2,c3,c4⟩:=DK h.pos h.fin (show 52<=1023 by omega) (show 1127<=2098 by omega) hv
 refine ⟨c,?_,Kj c3 (by omega) ?_⟩
 ·rw [ahz];exact rI c1
 ·rw [c4,a,ao,<-bF]
theorem Zi {f0 g:Nat} {n:Int} (h:SpI f0 g n) (h1:pw 0<=g) (h2:g < pw 1) (hn:0 < n+1023):f0=(n+1022).toNat*2 ^ 52+mw g:=by
 obtain ⟨f,a,b,c⟩:=Bu h1 h2
 have hh:=h.eq
 have e:=h.lo
 have d:1022+(n+2000).toNat=(n+1022).toNat+2000:=by omega
 rw [c,ao,<-bF,d,bF,<-ao] at hh
 have hv:=a1 (jj 2000) hh
 rw [<-Rb b (.inl a)] at hv
 exact (val_inj hv).symm
theorem Zr {f0 g:Nat} {n:Int} (h:SpI f0 g n) (h1:pw 0<=g) (h2:g < pw 1) (hn:n+1023<=0):mw g / 2 ^ (-1022 - n).toNat=f0/\f0 < 2 ^ 52/\(-1022 - n).toNat<=52:=by
 obtain ⟨k,l,m,d⟩:=Bu h1 h2
 have hh:=h.eq
 have i:=h.lo
 generalize hs:(-1022 - n).toNat=s
 have e:1022+(n+2000).toNat+s=2000:=by omega
 have c:1<=s:=by omega
 rw [d,ao,<-bF,<-e,bF _ s,Nat.mul_comm (P2 _) (P2 s),<-ao] at hh
 have hv:=a1 (jj _) hh
 have b:P2 1<=P2 s:=Vh c
 have a:P2 1=2:=by rw [cT]
 have hle:val f0*2<=mw g:=by rw [hv,<-a];exact bM _ b
 obtain ⟨t1,j⟩:=Ym (f:=f0) rfl (by omega)
 refine ⟨?_,t1,by omega⟩
 rw [hv,cT,b4 _ (aB s)]
 exact j.symm
theorem YE {S x:Nat} (b:S=0\/S=2 ^ 63) (c:x < 2 ^ 63):S|||x=S+x:=by
 rcases b with rfl | rfl
 ·simp
 ·have:=Yy (a:=1) 63 c
  simpa using this
theorem P5 {f0 S:Nat} (l:S=0\/S=2 ^ 63) (h0:0 < f0) (hf:f0 < fInf):((jB (.flt .f64 f0)).bind λD=>
  (aa .mul (nth D 0) (.flt .f64 4841369599423283200)).bind λO=>
  (Ao .u64 O).bind λi=>
  (aa .add (nth D 1) (.int .i64 1023)).bind λj=>
  (aa .gtr j (.int .i64 0)).bind λr=>
  ae r (λ_=>
  (bN .u64 j).bind λt=>
  (aa .shl t (.int .u64 52)).bind λu=>
  (aa .or (.int .u64 (S:Int)) u).bind λv=>
  (aa .and i (.int .u64 4503599627370495)).bind λw=>
  (aa .or v w).bind λx=>
  av [x]) (λ_=>
  (aa .sub (.int .i64 1) (nth D 1)).bind λy=>
  (aa .sub y (.int .i64 1023)).bind λz=>
  (aa .shr i z).bind λA=>
  (aa .or (.int .u64 (S:Int)) A).bind λC=>
  av [C]))=some [.int .u64 ((S+f0:Nat):Int)]:=by
 obtain ⟨g,n,E,d,e,f⟩:=Ov h0 hf
 obtain ⟨c,F,b2⟩:=aaR d e f
 obtain ⟨G,Q,R,_⟩:=Bu e f
 have K:=d.lo
 have H:=d.hi
 have h:S < 2 ^ 64:=by omega
 have p:=Zi d e f
 have q:=Zr d e f
 clear d e f G
 generalize mw g=M at*
 rw [E,ab,af,F,ab,b2,ab,ai]
 rw [BL (a:=n) (b:=1023) (by omega) (by omega) (by omega) (by omega),ab,aQ,ab,bj]
 by_cases hn:0 < n+1023
 ·rw [if_pos hn]
  have he:=p hn
  obtain ⟨k,hk⟩: ∃k:Nat,n+1023=(k:Int):=⟨(n+1023).toNat,by omega⟩
  have I:1<=k:=by omega
  have J:k<=2046:=by omega
  have m:S+f0=S+k*2 ^ 52+M % 2 ^ 52:=by
   have:(n+1022).toNat=k - 1:=by omega
   rw [this] at he
   have:k*2 ^ 52=(k - 1)*2 ^ 52+2 ^ 52:=by omega
   omega
  clear he p q
  rw [aad hk (by omega),ab]
  have w1:aa .shl (.int .u64 (k:Int)) (.int .u64 52)=some (.int .u64 ((k*2 ^ 52:Nat):Int)):=wA (b:=52) (by omega) (by omega)
  have w2:aa .or (.int .u64 (S:Int)) (.int .u64 ((k*2 ^ 52:Nat):Int))=some (.int .u64 ((S+k*2 ^ 52:Nat):Int)):=by
   rw [sZ h (by omega),YE l (by omega)]
  have w3:aa .and (.int .u64 (M:Int)) (.int .u64 4503599627370495)=some (.int .u64 ((M % 2 ^ 52:Nat):Int)):=by
   have:=qp (a:=M) (b:=2 ^ 52 - 1) (by omega) (by omega)
   rw [Nat.and_two_pow_sub_one_eq_mod] at this
   exact this
  have P:aa .or (.int .u64 ((S+k*2 ^ 52:Nat):Int)) (.int .u64 ((M % 2 ^ 52:Nat):Int))=some (.int .u64 ((S+k*2 ^ 52+M % 2 ^ 52:Nat):Int)):=by
   rw [sZ (by omega) (by omega)]
   have L:S+k*2 ^ 52=(S / 2 ^ 52+k)*2 ^ 52:=by rcases l with rfl | rfl<;>omega
   rw [L,Yy 52 (Nat.mod_lt _ (by decide))]
  rw [w1,ab,w2,ab,w3,ab,P,ab,m]
  rfl
 ·rw [if_neg hn]
  obtain ⟨t1,T,N⟩:=q (by omega)
  obtain ⟨s,hs⟩: ∃s:Nat,1 - n - 1023=(s:Int):=⟨(1 - n - 1023).toNat,by omega⟩
  have o:(-1022 - n).toNat=s:=by omega
  rw [o] at t1 N
  clear p q
  have w1:aa .shr (.int .u64 (M:Int)) (.int .i64 (s:Int))=some (.int .u64 (f0:Int)):=by
   rw [l7 (by omega),t1]
  have w2:aa .or (.int .u64 (S:Int)) (.int .u64 (f0:Int))=some (.int .u64 ((S+f0:Nat):Int)):=by
   rw [sZ h (by omega),YE l (by omega)]
  rw [wa (a:=1) (b:=n) (by omega) (by omega) (by omega) (by omega),ab,wa (a:=1 - n) (b:=1023) (by omega) (by omega) (by omega) (by omega),ab,hs,w1,ab,w2,ab]
  rfl
theorem Y8 {w:Nat} (hw:w < fInf):double.order w fInf=some .lt/\double.order fInf w=some .gt:=by
 have hr:double.read fInf= .infinity false:=by decide
 unfold Format.order
 rw [tP hw,hr]
 exact ⟨rfl,rfl⟩
theorem mul_two {w:Nat} (h0:0 < w) (hw:w < fInf): ∃c,aa .mul (.flt .f64 w) (.flt .f64 4611686018427387904)=some (.flt .f64 c)/\aa .eql (.flt .f64 w) (.flt .f64 c)=some (.bool false)/\aa .eql (.flt .f64 c) (.flt .f64 w)=some (.bool false):=by
 rw [FO]
 by_cases hv:val w*P2 1 < P2 2098
 ·obtain ⟨c,c1,c2,c3,c4⟩:=DK h0 hw (show 1<=1023 by omega) (cc _) hv
  have a:w≠c:=by
   intro e
   have hp:=Sw h0
   have b:P2 1=2:=by rw [cT]
   rw [b,<-e] at c4
   omega
  exact ⟨c,rI c1,by rw [Ai hw c3,decide_eq_false a],by rw [Ai c3 hw,decide_eq_false (Ne.symm a)]⟩
 ·have f:P2 2098 < P2 (54+ew w):=by
   calc P2 2098<=val w*P2 1:=b0 hv
    _ < P2 53*P2 (ew w)*P2 1:=by
      refine ad ?_ (jj 1)
      rw [Iu]
      refine ad ?_ (jj _)
      rw [cT];exact uN w
    _=P2 (54+ew w):=by
     have:54+ew w=53+ew w+1:=by omega
     rw [this,bF (53+ew w) 1,bF 53 (ew w)]
  have he:=K7 f
  have hs:=p5 (w:=w)
  have hm:2 ^ 52<=mw w:=by rcases BO w with h | h<;>omega
  have g:=uN w
  have hmul:=mul_pow hw (k:=((1:Nat):Int)) (by omega) (by omega) (by omega) g (E:=ew w+1) (.inl hm) (.inl ⟨by omega,by congr 2⟩)
  have d:2047*2 ^ 52<=(ew w+1)*2 ^ 52+mw w:=by omega
  rw [Nat.min_eq_right d] at hmul
  obtain ⟨i,j⟩:=Y8 hw
  refine ⟨fInf,rI hmul,?_,?_⟩
  ·show some (IV.bool (double.order w fInf==some .eq))=_
   rw [i];rfl
  ·show some (IV.bool (double.order fInf w==some .eq))=_
   rw [j];rfl
theorem U7 {w:Nat} (h:w < 2047*2 ^ 52):double.read (2 ^ 63+w)= .number true (mw w) ((ew w:Int) - 1074):=by
 unfold Format.read
 simp only [K9,J0,BP,Rh]
 have h1:(2 ^ 63+w) / 2 ^ 63=1:=by omega
 have h2:(2 ^ 63+w) % 2 ^ 63=w:=by omega
 rw [h1,h2]
 unfold mw ew
 by_cases hs:w < 2 ^ 52
 ·rw [if_pos hs,if_pos hs,show w / 2 ^ 52 - 1=0 by omega];rfl
 ·rw [if_neg hs,if_pos h,if_neg hs]
  have e:(-1074:Int)+((w / 2 ^ 52 - 1:Nat):Int)=((w / 2 ^ 52 - 1:Nat):Int) - 1074:=by omega
  rw [e];rfl
theorem QD {w:Nat} (h0:0 < w) (h:w < fInf):double.order (2 ^ 63+w) 0=some .lt:=by
 have hz:double.read 0= .number false 0 (-1074):=by decide
 unfold Format.order
 rw [U7 h,hz]
 show some (compare (signed true (mw w) _) (signed false 0 _))=_
 congr 1
 have hm:=F3 h0
 unfold signed
 simp only [if_true,a7,if_false,Nat.zero_shiftLeft,bb]
 have hp:0 < mw w*2 ^ ((ew w:Int) - 1074 - min ((ew w:Int) - 1074) (-1074)).toNat:=c5 (by omega) (aB _)
 generalize mw w*2 ^ ((ew w:Int) - 1074 - min ((ew w:Int) - 1074) (-1074)).toNat=x at hp
 simp only [compare,compareOfLessAndEq]
 rw [if_pos (by omega)]
theorem Vy {w:Nat} (h:w < 2 ^ 63):(2 ^ 63+w) ^^^ 2 ^ 63=w:=by
 refine Nat.eq_of_testBit_eq λi=> ?_
 rw [Nat.testBit_xor,Nat.testBit_two_pow]
 rcases br i 63 with hi | rfl | hi
 ·rw [Nat.testBit_two_pow_add_gt hi]
  simp [show ¬63=i by omega]
 ·rw [Nat.testBit_two_pow_add_eq,bm h];rfl
 ·rw [bm (b5 (show 2 ^ 63+w < 2 ^ 64 by omega) (a6 (by decide) hi)),bm (b5 h (a6 (by decide) (by omega)))]
  simp [show ¬63=i by omega]
theorem Ye {w:Nat} (h:w<=fInf):canF .f64 w=w:=by
 unfold canF Cn
 rw [show bA.format.infRung=2047*2 ^ 52 from BP,show bA.format.signWeight=2 ^ 63 from K9,if_neg]
 rw [decide_eq_true_eq]
 have:w<=2047*2 ^ 52:=h
 omega
theorem Uu {w:Nat} (h:w<=fInf):lK .neg (.flt .f64 (2 ^ 63+w))=some (.flt .f64 w):=by
 show some (IV.flt .f64 (canF .f64 ((2 ^ 63+w) ^^^ 2 ^ 63)))=_
 rw [Vy (by have:w<=2047*2 ^ 52:=h;omega),Ye h]
theorem aaE {w:Nat} (h:fInf < w % 2 ^ 63): ∃s t,double.read w= .nan s t:=by
 unfold Format.read
 simp only [K9,J0,BP,Rh]
 have h':2047*2 ^ 52 < w % 2 ^ 63:=h
 rw [if_neg (by omega),if_neg (by omega),if_neg (by omega)]
 exact ⟨_,_,rfl⟩
theorem BF {w x:Nat} (h:fInf < w % 2 ^ 63):double.order w x=none:=by
 obtain ⟨s,t,e⟩:=aaE h
 unfold Format.order
 rw [e];rfl
def bitsN (w:Nat):Nat:=if fInf < w % 2 ^ 63 then 9221120237041090560 else w
theorem Gw (w:Nat):canF .f64 w=bitsN w:=by
 unfold canF Cn bitsN
 rw [show bA.format.infRung=fInf from BP,show bA.format.signWeight=2 ^ 63 from K9]
 by_cases h:fInf < w % 2 ^ 63
 ·rw [if_pos (decide_eq_true h),if_pos h];rfl
 ·rw [if_neg (by rw [decide_eq_false h];simp),if_neg h]
theorem S2 (w:Nat) (h:w < 2 ^ 64):fInf < w % 2 ^ 63\/w=0\/w=2 ^ 63\/w=fInf\/w=2 ^ 63+fInf\/(0 < w/\w < fInf)\/ ∃x,w=2 ^ 63+x/\0 < x/\x < fInf:=by
 show 2047*2 ^ 52 < _\/_\/_\/w=2047*2 ^ 52\/w=2 ^ 63+2047*2 ^ 52\/(_/\w < 2047*2 ^ 52)\/ ∃x,_/\_/\x < 2047*2 ^ 52
 by_cases h1:w < 2 ^ 63
 ·omega
 ·have:w=2 ^ 63+(w - 2 ^ 63):=by omega
  by_cases h2:0 < w - 2 ^ 63/\w - 2 ^ 63 < 2047*2 ^ 52
  ·exact .inr (.inr (.inr (.inr (.inr (.inr ⟨w - 2 ^ 63,this,h2⟩)))))
  ·omega
theorem Ng {w:Nat} (h0:0 < w) (h:w < fInf):fj (.flt .f64 w)=some [.bool false]:=by
 unfold fj
 rw [vr h (show 0 < fInf by decide),ab,decide_eq_false (ch w),ag,Ai h (show 0 < fInf by decide),ab,decide_eq_false (by omega),ag,ab,af]
 rfl
theorem LL {w:Nat} (h0:0 < w) (h:w < fInf):fj (.flt .f64 (2 ^ 63+w))=some [.bool true]:=by
 unfold fj
 have:aa .lss (.flt .f64 (2 ^ 63+w)) (.flt .f64 0)=some (.bool true):=by
  show some (IV.bool (double.order (2 ^ 63+w) 0==some .lt))=_
  rw [QD h0 h];rfl
 rw [this,ab,ah,ab,af]
 rfl
theorem sF {w:Nat} (h:w < 2 ^ 64):fx (.flt .f64 w)=some [.int .u64 (bitsN w:Int)]:=by
 rcases S2 w h with hn | rfl | rfl | rfl | rfl | ⟨h0,hf⟩ | ⟨x,rfl,h0,hf⟩
 ·have e:aa .lss (.flt .f64 w) (.flt .f64 0)=some (.bool false):=by
   show some (IV.bool (double.order w 0==some .lt))=_
   rw [BF hn];rfl
  have f:aa .eql (.flt .f64 w) (.flt .f64 0)=some (.bool false):=by
   show some (IV.bool (double.order w 0==some .eq))=_
   rw [BF hn];rfl
  have g:aa .neq (.flt .f64 w) (.flt .f64 w)=some (.bool true):=by
   show some (IV.bool (double.order w w !=some .eq))=_
   rw [BF hn];rfl
  have em:fj (.flt .f64 w)=some [.bool false]:=by
   unfold fj
   rw [e,ab,ag,f,ab,ag,ab,af]
   rfl
  unfold fx bitsN
  rw [em,ab,af,ag,g,ab,ah,if_pos hn]
  rfl
 ·kernel_rfl
 ·kernel_rfl
 ·kernel_rfl
 ·kernel_rfl
 ·have hb:bitsN w=w:=by
   have:w < 2047*2 ^ 52:=hf
   unfold bitsN;rw [if_neg (by show ¬2047*2 ^ 52 < _;omega)]
  obtain ⟨c,b,d,_⟩:=mul_two h0 hf
  have a:=P5 (S:=0) (.inl rfl) h0 hf
  rw [cv] at a
  unfold fx
  rw [Ng h0 hf,ab,af,ag,WQ hf hf,ab,decide_eq_false (λhh=>hh rfl),ag,Ai hf (show 0 < fInf by decide),ab,decide_eq_false (by omega),ag,b,ab,d,ab,ag,hb]
  exact a
 ·have hb:bitsN (2 ^ 63+x)=2 ^ 63+x:=by
   have:x < 2047*2 ^ 52:=hf
   unfold bitsN;rw [if_neg (by show ¬2047*2 ^ 52 < _;omega)]
  obtain ⟨c,b,d,_⟩:=mul_two h0 hf
  have a:=P5 (S:=2 ^ 63) (.inr rfl) h0 hf
  have i:x < 2 ^ 63:=by have:x < 2047*2 ^ 52:=hf;omega
  unfold fx
  rw [LL h0 hf,ab,af,ah,Uu (b7 hf),ab,WQ hf hf,ab,decide_eq_false (λhh=>hh rfl),ag,Ai hf (show 0 < fInf by decide),ab,decide_eq_false (by omega),ag,b,ab,d,ab,ag,hb]
  exact a
end Go.AM
namespace Go.AM
open Ieee
structure ReI (f0 f e:Nat):Prop where
 pos:0 < f
 fin:f < fInf
 lo:1<=e
 hi:e<=2046
 eq:val f*P2 (e+977)=val f0*P2 2000
theorem ReI.down {f0 f e:Nat} (h:ReI f0 f e) (h0:f0 < fInf) (c:pw ((1:Nat):Int)<=f):double.mul f (pw (-((1:Nat):Int)))=some (dn f 1)/\ReI f0 (dn f 1) (e+1)/\pw 0<=dn f 1:=by
 obtain ⟨g,i,d⟩:=UA (cc 1) (by omega) c h.fin
 have hz:=BI
 have a:=adK (p:=1) h.fin
 have b:0 < dn f 1:=by omega
 have j:e+1+977=1+(e+977):=by omega
 have heq:val (dn f 1)*P2 (e+1+977)=val f0*P2 2000:=by
  rw [j,bF,<-ao,<-i];exact h.eq
 have hb:P2 (1074+(e+1+977)) < P2 4098:=by
  calc P2 (1074+(e+1+977))=val (pw 0)*P2 (e+1+977):=by rw [qu (by omega),bF];rfl
   _<=val (dn f 1)*P2 (e+1+977):=a5 _ (ML.2 d)
   _=val f0*P2 2000:=heq
   _ < P2 2098*P2 2000:=ad (EF h0) (jj _)
   _=P2 4098:=(bF 2098 2000).symm
 have:=K7 hb
 exact ⟨g,⟨b,a,by omega,by omega,heq⟩,d⟩
theorem ReI.up {f0 f e:Nat} (h:ReI f0 f e) (he:1 < e) (b:f < pw 0): ∃c,double.mul f (pw ((1:Nat):Int))=some c/\ReI f0 c (e - 1)/\c < pw 1:=by
 have a:=mR b
 rw [qu (by omega)] at a
 have hv:val f*P2 1 < P2 1075:=by
  calc val f*P2 1 < P2 1074*P2 1:=ad a (jj 1)
   _=P2 1075:=(bF 1074 1).symm
 obtain ⟨c,c1,c2,c3,c4⟩:=DK h.pos h.fin (show 1<=1023 by omega) (show 1075<=2098 by omega) hv
 have g:=h.hi
 have d:e+977=1+(e - 1+977):=by omega
 refine ⟨c,c1,⟨c2,c3,by omega,by omega,?_⟩,?_⟩
 ·rw [c4,ao,<-bF,<-d];exact h.eq
 ·rw [<-pZ,qu (by omega),c4];exact hv
theorem Uf {f0:Nat} (h1:f0 < fInf): ∀(m f e:Nat),ReI f0 f e->f / 2 ^ 52 < m-> ∃b c,iter m ed [.flt .f64 f,.int .u64 (e:Int)]=some (0,[.flt .f64 b,.int .u64 ((c:Nat):Int)])/\ReI f0 b c/\b < pw 1
 | 0,f,e,_,hm=>by omega
 | m+1,f,e,h,hm=>by
   have p:=h.lo
   have o:=h.hi
   by_cases a:pw ((1:Nat):Int)<=f
   ·obtain ⟨i,j,q⟩:=h.down h1 a
    have hf:ed [.flt .f64 f,.int .u64 (e:Int)]=some (.next [.flt .f64 (dn f 1),.int .u64 ((e+1:Nat):Int)]):=by
     unfold ed
     rw [af,ai,FO,L4 h.fin (yR (show ((1:Nat):Int)<=1023 by decide)),ab,decide_eq_true a,ah,aau,rI i,ab,show (IV.int .u64 1)= .int .u64 ((1:Nat):Int) from rfl,od (by omega),ab]
    have g:1024*2 ^ 52<=f:=by have:=Mm 1;omega
    have d:dn f 1 / 2 ^ 52 < m:=by unfold dn;omega
    obtain ⟨b,c,k,l,n⟩:=Uf h1 m (dn f 1) (e+1) j d
    exact ⟨b,c,by simp only [iter,hf,ab];exact k,l,n⟩
   ·have hf:ed [.flt .f64 f,.int .u64 (e:Int)]=some (.done 0 [.flt .f64 f,.int .u64 (e:Int)]):=by
     unfold ed
     rw [af,ai,FO,L4 h.fin (yR (show ((1:Nat):Int)<=1023 by decide)),ab,decide_eq_false a,ag]
    exact ⟨f,e,by simp only [iter,hf,ab],h,ca a⟩
theorem Ky {f0:Nat}: ∀(m f e:Nat),ReI f0 f e->f < pw 1->e < m-> ∃g i,iter m cW [.flt .f64 f,.int .u64 (e:Int)]=some (0,[.flt .f64 g,.int .u64 ((i:Nat):Int)])/\ReI f0 g i/\g < pw 1/\(pw 0<=g\/(g < pw 0/\i=1))
 | 0,f,e,_,_,hm=>by omega
 | m+1,f,e,h,d,hm=>by
   have o:=h.lo
   have n:=h.hi
   have b:aa .gtr (.int .u64 (e:Int)) (.int .u64 1)=some (.bool (decide (1 < e))):=by
    rw [aQ];congr 2;exact decide_eq_decide.2 (by omega)
   by_cases a:f < pw 0
   ·by_cases he:1 < e
    ·obtain ⟨c,c1,c2,c3⟩:=h.up he a
     have hf:cW [.flt .f64 f,.int .u64 (e:Int)]=some (.next [.flt .f64 c,.int .u64 ((e - 1:Nat):Int)]):=by
      unfold cW
      rw [af,ai,Mx,vr h.fin (yR (show (0:Int)<=1023 by decide)),ab,decide_eq_true a,ah,b,ab,ab,af,decide_eq_true he,ah,FO,rI c1,ab,show (IV.int .u64 1)= .int .u64 ((1:Nat):Int) from rfl,ZW (by omega) (by omega),ab]
     obtain ⟨g,i,j,k,l⟩:=Ky m c (e - 1) c2 c3 (by omega)
     exact ⟨g,i,by simp only [iter,hf,ab];exact j,k,l⟩
    ·have hf:cW [.flt .f64 f,.int .u64 (e:Int)]=some (.done 0 [.flt .f64 f,.int .u64 (e:Int)]):=by
      unfold cW
      rw [af,ai,Mx,vr h.fin (yR (show (0:Int)<=1023 by decide)),ab,decide_eq_true a,ah,b,ab,ab,af,decide_eq_false he,ag]
     exact ⟨f,e,by simp only [iter,hf,ab],h,d,.inr ⟨a,by omega⟩⟩
   ·have hf:cW [.flt .f64 f,.int .u64 (e:Int)]=some (.done 0 [.flt .f64 f,.int .u64 (e:Int)]):=by
     unfold cW
     rw [af,ai,Mx,vr h.fin (yR (show (0:Int)<=1023 by decide)),ab,decide_eq_false a,ag,ab,af,ag]
    exact ⟨f,e,by simp only [iter,hf,ab],h,d,.inl (b0 a)⟩
theorem agJ {f:Nat} (hf:f < fInf) (hv:val f*P2 1 < P2 2000): ∃c,double.mul f (pw ((1:Nat):Int))=some c/\c < fInf/\val c=val f*P2 1:=by
 rcases b6 f with h | h
 ·subst h
  refine ⟨0,?_,by show 0 < 2047*2 ^ 52;omega,by rw [val_zero];omega⟩
  rw [<-FO];decide
 ·obtain ⟨c,c1,_,c3,c4⟩:=DK h hf (show 1<=1023 by omega) (show 2000<=2098 by omega) hv
  exact ⟨c,c1,c3,c4⟩
theorem Xt: ∀(m i f:Nat),i<=52->52 - i < m->f < fInf->val f*P2 (52 - i) < P2 2000-> ∃c,iter m cA [.flt .f64 f,.int .i64 (i:Int)]=some (0,[.flt .f64 c])/\c < fInf/\val c=val f*P2 (52 - i)
 | 0,i,f,_,hm,_,_=>by omega
 | m+1,i,f,hi,hm,hf,hv=>by
   have b:aa .lss (.int .i64 (i:Int)) (.int .i64 52)=some (.bool (decide (i < 52))):=by
    rw [al];congr 2;exact decide_eq_decide.2 (by omega)
   by_cases h:i < 52
   ·have j:52 - i=1+(52 - (i+1)):=by omega
    have e:val f*P2 1 < P2 2000:=bR (bM _ (Vh (by omega))) hv
    obtain ⟨c,c1,c2,c3⟩:=agJ hf e
    have a:cA [.flt .f64 f,.int .i64 (i:Int)]=some (.next [.flt .f64 c,.int .i64 ((i+1:Nat):Int)]):=by
     unfold cA
     rw [af,ai,b,ab,decide_eq_true h,ah,FO,rI c1,ab,au (by omega),ab]
    have g:val c*P2 (52 - (i+1)) < P2 2000:=by rw [c3,ao,<-bF,<-j];exact hv
    obtain ⟨d,k,l,n⟩:=Xt m (i+1) c (by omega) (by omega) c2 g
    refine ⟨d,by simp only [iter,a,ab];exact k,l,?_⟩
    rw [n,c3,ao,<-bF,<-j]
   ·have a:cA [.flt .f64 f,.int .i64 (i:Int)]=some (.done 0 [.flt .f64 f]):=by
     unfold cA
     rw [af,ai,b,ab,decide_eq_false h,ag]
    refine ⟨f,by simp only [iter,a,ab],hf,?_⟩
    have:52 - i=0:=by omega
    rw [this,cT];omega
theorem acG {x:Nat} (h0:0 < x) (h:x < 2 ^ 52): ∃M j,M < 2 ^ 53/\2 ^ 52<=M/\j<=52/\M=x*2 ^ j:=by
 obtain ⟨c,b2⟩:=(bB (show x≠0 by omega)).1 rfl
 have d:x.log2 < 52:=(cb (by omega)).2 h
 have a:P2 (x.log2+1)*P2 (52 - x.log2)=P2 53:=by rw [<-bF,show x.log2+1+(52 - x.log2)=53 by omega]
 have b:P2 x.log2*P2 (52 - x.log2)=P2 52:=by rw [<-bF,show x.log2+(52 - x.log2)=52 by omega]
 rw [cT,cT,cT] at a b
 refine ⟨x*2 ^ (52 - x.log2),52 - x.log2,?_,?_,by omega,rfl⟩
 ·rw [<-a];exact ad b2 (aB _)
 ·rw [<-b];exact a5 _ c
theorem sub_one {f:Nat} (h1:pw 0<=f) (h2:f < pw 1): ∃c,aa .sub (.flt .f64 f) (.flt .f64 4607182418800017408)=some (.flt .f64 c)/\c < fInf/\val c=(mw f - 2 ^ 52)*P2 1022:=by
 obtain ⟨m,r,s,t⟩:=Bu h1 h2
 have hf:f < 2047*2 ^ 52:=by have:=Z6;omega
 have hr:double.read 4607182418800017408= .number false (2 ^ 52) (-52):=by decide
 have hs:double.sub f 4607182418800017408=some (double.nearest (if ((mw f:Int) - 2 ^ 52=0) then false else decide ((mw f:Int) - 2 ^ 52 < 0)) (mw f - 2 ^ 52) (-52)):=by
  unfold Format.sub
  rw [tP hf,hr,m]
  have hb:min (((1022:Nat):Int) - 1074) (-52)= -52:=by decide
  show ((Datum.sum (.number false (mw f) (((1022:Nat):Int) - 1074)) (.number true (2 ^ 52) (-52))).map double.write)=_
  unfold Datum.sum
  simp only [hb,cd]
  have p:(((1022:Nat):Int) - 1074 - -52).toNat=0:=by decide
  have q:((-52:Int) - -52).toNat=0:=by decide
  rw [p,q]
  have o:signed false (mw f) 0+signed true (2 ^ 52) 0=(mw f:Int) - 2 ^ 52:=by
   unfold signed
   simp only [a7,if_false,if_true,bd]
   omega
  rw [o]
  have hn:((mw f:Int) - 2 ^ 52).natAbs=mw f - 2 ^ 52:=by omega
  rw [hn]
  unfold Format.write
  simp only [Bool.false_and]
 have e:(if ((mw f:Int) - 2 ^ 52=0) then false else decide ((mw f:Int) - 2 ^ 52 < 0))=false:=by
  split
  ·rfl
  ·exact decide_eq_false (by omega)
 rw [e] at hs
 have d: ∀c,double.nearest false (mw f - 2 ^ 52) (-52)=c->aa .sub (.flt .f64 f) (.flt .f64 4607182418800017408)=some (.flt .f64 c):= λc hc=>by
  show some (IV.flt .f64 (WT .f64 (double.sub f 4607182418800017408)))=_
  rw [hs,hc];rfl
 generalize u:mw f - 2 ^ 52=x at*
 have g:x < 2 ^ 52:=by omega
 rcases b6 x with h0 | h0
 ·subst h0
  refine ⟨0,d 0 (by decide),by show 0 < 2047*2 ^ 52;omega,by rw [val_zero];omega⟩
 ·obtain ⟨M,j,k,l,hj,n⟩:=acG h0 g
  have i:x*P2 1022=M*P2 (1022 - j):=by
   rw [n,<-cT,ao,<-bF,show j+(1022 - j)=1022 by omega]
  have b:((-52:Int)+1074).toNat=1022:=by decide
  have a:=vJ (mag:=x) (place:= -52) (by omega) k (E:=1022 - j) (.inl l) (.inl ⟨by decide,by rw [<-cT,<-cT (1022 - j),b,i]⟩)
  have hc:(1022 - j)*2 ^ 52+M<=2047*2 ^ 52:=by omega
  have h:(1022 - j)*2 ^ 52+M < 2047*2 ^ 52:=by omega
  rw [b1 hc] at a
  exact ⟨_,d _ a,h,by rw [Rb k (.inl l),i]⟩
theorem agT:vY=ed:=rfl
theorem afF:wJ=cW:=rfl
theorem agm:wi=cA:=rfl
theorem agc:wM=cA:=rfl
theorem age:wN=cA:=rfl
theorem Vr {f0 S:Nat} (hS:S=0\/S=2 ^ 63) (h0:0 < f0) (hf:f0 < fInf):((iter rounds (ed) [.flt .f64 f0,.int .u64 1023]).bind λl=>
  eM l.1 [(iter rounds (cW) [nth l.2 0,nth l.2 1]).bind λh=>
  eM h.1 [(aa .lss (nth h.2 0) (.flt .f64 4607182418800017408)).bind λy=>
  ae y (λ_=>
  (iter rounds (cA) [nth h.2 0,.int .i64 0]).bind λq=>
  eM q.1 [(aa .shl (.int .u64 0) (.int .u64 52)).bind λz=>
  (aa .add (.int .u64 (S:Int)) z).bind λA=>
  (Ao .u64 (nth q.2 0)).bind λC=>
  (aa .add A C).bind λD=>
  av [D]]) (λ_=>
  (aa .sub (nth h.2 0) (.flt .f64 4607182418800017408)).bind λE=>
  (iter rounds (cA) [E,.int .i64 0]).bind λr=>
  eM r.1 [(aa .shl (nth h.2 1) (.int .u64 52)).bind λF=>
  (aa .add (.int .u64 (S:Int)) F).bind λG=>
  (Ao .u64 (nth r.2 0)).bind λH=>
  (aa .add G H).bind λI=>
  av [I]])]])=some [.int .u64 ((S+f0:Nat):Int)]:=by
 have hr:rounds=1000000:=rfl
 have U:f0 < 2047*2 ^ 52:=hf
 have T:ReI f0 f0 1023:=⟨h0,hf,by omega,by omega,rfl⟩
 obtain ⟨Q,P,L,J,M⟩:=Uf hf rounds f0 1023 T (by omega)
 obtain ⟨g,e,N,b2,K,O⟩:=Ky rounds Q P J M (by have:=J.hi;omega)
 have X:=b2.lo
 have W:=b2.hi
 have hz:aa .shl (.int .u64 0) (.int .u64 52)=some (.int .u64 ((0:Nat):Int)):=by
  have:=wA (k:= .u64) (a:=0) (b:=52) (by omega) (by rw [cO];exact aB 64)
  rw [cO] at this
  exact this
 rw [show (IV.int .u64 1023)= .int .u64 ((1023:Nat):Int) from rfl,L,ab,aN,af,ai,N,ab,aN,af,ai,Mx,vr b2.fin (yR (show (0:Int)<=1023 by decide)),ab]
 rcases O with i | ⟨m,he⟩
 ·obtain ⟨q1,Y,Z,q4⟩:=Bu i K
  obtain ⟨c,c1,c2,c3⟩:=sub_one i K
  have hv:val c*P2 (52 - 0) < P2 2000:=by
   rw [c3,ao,<-bF]
   calc (mw g - 2 ^ 52)*P2 (1022+(52 - 0)) < P2 53*P2 (1022+(52 - 0)):=ad (by rw [cT];omega) (jj _)
    _=P2 (53+(1022+(52 - 0))):=(bF _ _).symm
    _ < P2 2000:=abv (by omega)
  obtain ⟨d,s,t,u⟩:=Xt rounds 0 c (by omega) (by omega) c2 hv
  have w:Ao .u64 (.flt .f64 d)=some (.int .u64 ((mw g - 2 ^ 52:Nat):Int)):=Kj t (by omega) (by rw [u,c3,ao,<-bF])
  have V:f0=(e - 1)*2 ^ 52+mw g:=by
   have hh:=b2.eq
   have v:1022+(e+977)=(e - 1)+2000:=by omega
   rw [q4,ao,<-bF,v,bF,<-ao] at hh
   have hv:=a1 (jj 2000) hh
   rw [<-Rb Z (.inl Y)] at hv
   exact (val_inj hv).symm
  have n:S+f0=S+e*2 ^ 52+(mw g - 2 ^ 52):=by
   have:e*2 ^ 52=(e - 1)*2 ^ 52+2 ^ 52:=by omega
   omega
  have x: ¬g < pw 0:=Nat.not_lt.2 i
  have w1:aa .shl (.int .u64 (e:Int)) (.int .u64 52)=some (.int .u64 ((e*2 ^ 52:Nat):Int)):=wA (b:=52) (by omega) (by omega)
  have w2:aa .add (.int .u64 (S:Int)) (.int .u64 ((e*2 ^ 52:Nat):Int))=some (.int .u64 ((S+e*2 ^ 52:Nat):Int)):=od (by omega)
  have w3:aa .add (.int .u64 ((S+e*2 ^ 52:Nat):Int)) (.int .u64 ((mw g - 2 ^ 52:Nat):Int))=some (.int .u64 ((S+e*2 ^ 52+(mw g - 2 ^ 52):Nat):Int)):=od (by omega)
  rw [decide_eq_false x,ag,<-Mx,c1,ab,show (IV.int .i64 0)= .int .i64 ((0:Nat):Int) from rfl,s,ab,aN,w1,ab,w2,ab,af,w,ab,w3,ab,n]
  rfl
 ·subst he
  have hh:=b2.eq
  have v:2000=1022+(1+977):=by omega
  rw [v,bF 1022,<-ao] at hh
  have o:=a1 (jj _) hh
  have p:val g < P2 1074:=by have:=mR m;rw [qu (by omega)] at this;exact this
  have j:val f0 < 2 ^ 52:=by
   have R:val f0*P2 1022 < 2 ^ 52*P2 1022:=by
    calc val f0*P2 1022=val g:=o.symm
     _ < P2 1074:=p
     _=P2 52*P2 1022:=bF 52 1022
     _=2 ^ 52*P2 1022:=by rw [cT 52]
   exact bO R
  obtain ⟨t1,t2⟩:=Ym (f:=f0) rfl j
  have hv:val g*P2 (52 - 0) < P2 2000:=by
   calc val g*P2 (52 - 0) < P2 1074*P2 (52 - 0):=ad p (jj _)
    _=P2 (1074+(52 - 0)):=(bF _ _).symm
    _ < P2 2000:=abv (by omega)
  obtain ⟨d,s,t,u⟩:=Xt rounds 0 g (by omega) (by omega) b2.fin hv
  have w:Ao .u64 (.flt .f64 d)=some (.int .u64 (f0:Int)):=Kj t (by omega) (by
   rw [u,o,ao,<-bF,<-t2])
  have w2:aa .add (.int .u64 (S:Int)) (.int .u64 ((0:Nat):Int))=some (.int .u64 ((S+0:Nat):Int)):=od (by omega)
  have w3:aa .add (.int .u64 ((S+0:Nat):Int)) (.int .u64 (f0:Int))=some (.int .u64 ((S+0+f0:Nat):Int)):=od (by omega)
  rw [decide_eq_true m,ah,show (IV.int .i64 0)= .int .i64 ((0:Nat):Int) from rfl,s,ab,aN,hz,ab,w2,ab,af,w,ab,w3,ab]
  rfl
theorem JS {w:Nat} (h0:0 < w) (h:w < fInf):g9 (.flt .f64 w)=some [.bool false]:=by
 unfold g9
 rw [vr h (show 0 < fInf by decide),ab,decide_eq_false (ch w),ag,Ai h (show 0 < fInf by decide),ab,decide_eq_false (by omega),ag,ab,af]
 rfl
theorem JO {w:Nat} (h0:0 < w) (h:w < fInf):g9 (.flt .f64 (2 ^ 63+w))=some [.bool true]:=by
 unfold g9
 have:aa .lss (.flt .f64 (2 ^ 63+w)) (.flt .f64 0)=some (.bool true):=by
  show some (IV.bool (double.order (2 ^ 63+w) 0==some .lt))=_
  rw [QD h0 h];rfl
 rw [this,ab,ah,ab,af]
 rfl
theorem Xo {x:Nat} (h:x < fInf):double.order (2 ^ 63+x) (2 ^ 63+x)=some .eq:=by
 unfold Format.order
 rw [U7 h]
 show some (compare _ _)=_
 congr 1
 simp [compare,compareOfLessAndEq]
theorem Cx {w:Nat} (h:w < 2 ^ 64):gL (.flt .f64 w)=some [.int .u64 (bitsN w:Int)]:=by
 rcases S2 w h with hn | rfl | rfl | rfl | rfl | ⟨h0,hf⟩ | ⟨x,rfl,h0,hf⟩
 ·have b:aa .neq (.flt .f64 w) (.flt .f64 w)=some (.bool true):=by
   show some (IV.bool (double.order w w !=some .eq))=_
   rw [BF hn];rfl
  unfold gL bitsN
  rw [b,ab,ah,if_pos hn]
  rfl
 ·kernel_rfl
 ·kernel_rfl
 ·kernel_rfl
 ·kernel_rfl
 ·have hb:bitsN w=w:=by
   have:w < 2047*2 ^ 52:=hf
   unfold bitsN;rw [if_neg (by show ¬2047*2 ^ 52 < _;omega)]
  obtain ⟨c,d,_,e⟩:=mul_two h0 hf
  have a:=Vr (S:=0) (.inl rfl) h0 hf
  rw [cv] at a
  unfold gL
  rw [agT,afF,agc,age]
  rw [WQ hf hf,ab,decide_eq_false (λhh=>hh rfl),ag,JS h0 hf,ab,af,ag,Ai hf (show 0 < fInf by decide),ab,decide_eq_false (by omega),ag,d,ab,e,ab,ag,hb]
  exact a
 ·have hb:bitsN (2 ^ 63+x)=2 ^ 63+x:=by
   have:x < 2047*2 ^ 52:=hf
   unfold bitsN;rw [if_neg (by show ¬2047*2 ^ 52 < _;omega)]
  obtain ⟨c,d,_,e⟩:=mul_two h0 hf
  have a:=Vr (S:=2 ^ 63) (.inr rfl) h0 hf
  have b:aa .neq (.flt .f64 (2 ^ 63+x)) (.flt .f64 (2 ^ 63+x))=some (.bool false):=by
   show some (IV.bool (double.order (2 ^ 63+x) (2 ^ 63+x)!=some .eq))=_
   rw [Xo hf];rfl
  unfold gL
  rw [agm]
  rw [b,ab,ag,JO h0 hf,ab,af,ah,show u5=some [.int .u64 ((2 ^ 63:Nat):Int)] from rfl,ab,Uu (b7 hf),ab,Ai hf (show 0 < fInf by decide),ab,decide_eq_false (by omega),ag,d,ab,e,ab,ag,hb]
  exact a
end Go.AM
