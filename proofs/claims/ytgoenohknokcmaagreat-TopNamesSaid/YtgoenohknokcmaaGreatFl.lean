/- Numbers with a point, plainly: what their words stand for; exact products. -/
import Derived.Test.YtgoenohknokcmaaGreatMk
open Option renaming bind_some->ab
open Nat renaming mul_lt_mul_of_pos_right->ad,mul_assoc->al,two_pow_pos->ao,pow_add->aB,eq_of_mul_eq_mul_right->a1,mul_le_mul_right->a2,pow_le_pow_right->a5,shiftLeft_eq->a7,testBit_lt_two_pow->bd,lt_trichotomy->bf,mod_eq_of_lt->br,mul_ne_zero->bx,shiftLeft_zero->bA,log2_eq_iff->bB,mul_le_mul_left->bM,mul_div_cancel->bO,lt_of_le_of_lt->bR,lt_of_lt_of_le->b0,le_of_not_lt->b1,min_eq_left->b3,pow_zero->b4,le_of_lt->b5,ne_of_gt->b6,mod_one->b7,mul_pos->ca,log2_lt->cb,mul_one->cc,one_mul->cd,le_refl->ch
open BitVec renaming ofInt_natCast->a6,toNat_ofNat->bb,ofInt->bC
open Bool renaming false_eq_true->a8
open Go.IntKind renaming u64->bm
open Go.FloatKind renaming f64->bs
set_option linter.unusedVariables false
set_option linter.unusedSimpArgs false
namespace Go.AM
open Ieee
theorem ad8: ∃f:Nat->Nat,∀k,f k=2 ^ k:=⟨λk=>2 ^ k,λ_=>rfl⟩
 noncomputable def P2:Nat->Nat:=Classical.choose ad8
theorem ee (k:Nat):P2 k=2 ^ k:=Classical.choose_spec ad8 k
theorem po (k:Nat):0 < P2 k:=by rw [ee];exact ao k
theorem eY (a b:Nat):P2 (a+b)=P2 a*P2 b:=by rw [ee,ee,ee];exact aB 2 a b
theorem agt {a b:Nat} (h:a < b):P2 a < P2 b:=by rw [ee,ee];exact Nat.pow_lt_pow_right (by decide) h
theorem Yl {a b:Nat} (h:a<=b):P2 a<=P2 b:=by rw [ee,ee];exact a5 (by decide) h
theorem QV {a b:Nat} (h:P2 a < P2 b):a < b:=by rw [ee,ee] at h;exact (Nat.pow_lt_pow_iff_right (by decide)).1 h
theorem Tv:double.leastPlace= -1074:=by decide
theorem KC:double.binade=2 ^ 52:=by decide
theorem Cc:double.infRung=2047*2 ^ 52:=by decide
theorem KZ:double.signWeight=2 ^ 63:=by decide
theorem aem:double.fractionBits=52:=rfl
def mw (w:Nat):Nat:=if w < 2 ^ 52 then w else 2 ^ 52+w % 2 ^ 52
def ew (w:Nat):Nat:=w / 2 ^ 52 - 1
def val (w:Nat):Nat:=mw w*2 ^ ew w
theorem VQ {w:Nat} (h:w < 2 ^ 52):ew w=0:=by unfold ew;omega
theorem qB {w:Nat}:w=ew w*2 ^ 52+mw w:=by
 unfold ew mw
 split
 ·omega
 ·omega
theorem vJ (w:Nat):mw w < 2 ^ 53:=by unfold mw;split<;>omega
theorem Ce (w:Nat):2 ^ 52<=mw w\/ew w=0:=by unfold mw ew;split<;>omega
theorem xo {w:Nat} (h:w < 2047*2 ^ 52):double.read w= .number false (mw w) ((ew w:Int) - 1074):=by
 unfold Format.read
 simp only [KZ,KC,Cc,Tv]
 have h1:w / 2 ^ 63=0:=by omega
 have h2:w % 2 ^ 63=w:=by omega
 rw [h1,h2]
 unfold mw ew
 by_cases hs:w < 2 ^ 52
 ·rw [if_pos hs,if_pos hs,show w / 2 ^ 52 - 1=0 by omega];rfl
 ·rw [if_neg hs,if_pos h,if_neg hs]
  have e:(-1074:Int)+((w / 2 ^ 52 - 1:Nat):Int)=((w / 2 ^ 52 - 1:Nat):Int) - 1074:=by omega
  rw [e];rfl
theorem tg {n k:Nat} (h:n≠0):(n*2 ^ k).log2=n.log2+k:=by
 have hp:0 < 2 ^ k:=ao k
 rw [bB (bx h (by omega))]
 obtain ⟨h1,h2⟩:=(bB h).1 rfl
 constructor
 ·rw [aB];exact a2 _ h1
 ·rw [show n.log2+k+1=n.log2+1+k by omega,aB];exact ad h2 hp
theorem OJ (n:Nat):Toward.even.cut false n 0=n:=by
 unfold Toward.cut
 simp [b7]
theorem QT (a:Toward) (hw:a= .even\/a= .zero) {m d:Nat} (hm:m≠0):a.cut false (m*2 ^ d) d=m:=by
 unfold Toward.cut
 have b:min d ((m*2 ^ d).log2+2)=d:=by rw [tg hm];omega
 have hp:0 < 2 ^ d:=ao d
 simp only [b,Nat.one_shiftLeft,bO _ hp,Nat.mul_mod_left]
 rcases hw with rfl | rfl
 ·have h1: ¬(2 ^ d < 2*0):=by omega
  have h2:(2 ^ d==2*0)=false:=by simp only [Nat.mul_zero,beq_eq_false_iff_ne];omega
  simp [h2]
 ·simp
theorem CX {a M E:Nat} {place:Int} (c:a≠0) (n:M < 2 ^ 53) (hn:2 ^ 52<=M\/E=0) (h:(0<=place+1074/\a*2 ^ (place+1074).toNat=M*2 ^ E)\/(place+1074 < 0/\a=M*2 ^ E*2 ^ (-(place+1074)).toNat)):
  double.nearest false a place=min (E*2 ^ 52+M) (2047*2 ^ 52):=by
 have b:M≠0:=by
  intro h0;subst h0
  rcases h with ⟨_,h⟩ | ⟨_,h⟩
  ·have:0 < 2 ^ (place+1074).toNat:=ao _
   have:0 < a*2 ^ (place+1074).toNat:=ca (by omega) this
   omega
  ·simp at h;omega
 have j:(a.log2:Int)+(place+1074)=(M.log2:Int)+E:=by
  rcases h with ⟨h0,h⟩ | ⟨h0,h⟩
  ·have:=congrArg Nat.log2 h
   rw [tg c,tg b] at this
   omega
  ·have:=congrArg Nat.log2 h
   rw [al,<-aB,tg b] at this
   omega
 have o:M.log2<=52:=by
  have:=(cb b (k:=53)).2 n;omega
 have g:2 ^ 52<=M->M.log2=52:= λh=>by
  have:=(Nat.le_log2 b).2 h;omega
 have f:max (place+(a.log2:Int) - (52:Nat)) (-1074)=(E:Int) - 1074:=by
  rcases hn with i | m
  ·have:=g i;omega
  ·subst m;omega
 unfold Format.nearest
 rw [if_neg c]
 simp only [aem,Tv,KC,Cc]
 rw [f]
 have d:Toward.even.cut false (a <<< (place - ((E:Int) - 1074)).toNat) (((E:Int) - 1074) - place).toNat=M:=by
  by_cases p:(E:Int) - 1074<=place
  ·have hz:(((E:Int) - 1074) - place).toNat=0:=by omega
   rw [hz,OJ,a7]
   rcases h with ⟨h0,h⟩ | ⟨h0,h⟩
   ·have e:(place+1074).toNat=(place - ((E:Int) - 1074)).toNat+E:=by omega
    rw [e,aB,<-al] at h
    exact a1 (ao E) h
   ·omega
  ·have hz:(place - ((E:Int) - 1074)).toNat=0:=by omega
   rw [hz,bA]
   have:a=M*2 ^ (((E:Int) - 1074) - place).toNat:=by
    rcases h with ⟨h0,h⟩ | ⟨h0,h⟩
    ·have e:E=(((E:Int) - 1074) - place).toNat+(place+1074).toNat:=by omega
     have l:M*2 ^ E=M*2 ^ (((E:Int) - 1074) - place).toNat*2 ^ (place+1074).toNat:=by
      rw [al,<-aB,<-e]
     rw [l] at h
     exact a1 (ao _) h
    ·rw [h,al,<-aB]
     congr 2;omega
   rw [this]
   exact QT .even (.inl rfl) b
 rw [d]
 have:((E:Int) - 1074 - -1074).toNat=E:=by omega
 rw [this]
 simp only [Format.word,a8,if_false]
theorem YO {M E:Nat} (a:M < 2 ^ 53) (hn:2 ^ 52<=M\/E=0):mw (E*2 ^ 52+M)=M/\ew (E*2 ^ 52+M)=E:=by
 unfold mw ew
 rcases hn with h | h
 ·constructor
  ·rw [if_neg (by omega)];omega
  ·omega
 ·subst h
  constructor
  ·split<;>omega
  ·omega
def pw (k:Int):Nat:=(1023+k).toNat*2 ^ 52
theorem mul_pow {w:Nat} (hw:w < 2047*2 ^ 52) {k:Int} (h1: -1022<=k) (h2:k<=1023) {M E:Nat} (hm:mw w≠0) (g:M < 2 ^ 53) (hn:2 ^ 52<=M\/E=0)
  (h:(0<=(ew w:Int)+k/\mw w*2 ^ ((ew w:Int)+k).toNat=M*2 ^ E)\/((ew w:Int)+k < 0/\mw w=M*2 ^ E*2 ^ (-((ew w:Int)+k)).toNat)):
  double.mul w (pw k)=some (min (E*2 ^ 52+M) (2047*2 ^ 52)):=by
 have d:pw k < 2047*2 ^ 52:=by unfold pw;omega
 have c:mw (pw k)=2 ^ 52:=by unfold mw pw;rw [if_neg (by omega)];omega
 have b:(ew (pw k):Int)=1022+k:=by unfold ew pw;omega
 unfold Format.mul
 rw [xo hw,xo d,c,b]
 show some (double.nearest (false ^^ false) (mw w*2 ^ 52) ((ew w:Int) - 1074+(1022+k - 1074)))=_
 congr 1
 refine CX (bx hm (by decide)) g hn ?_
 have e:(ew w:Int) - 1074+(1022+k - 1074)+1074=(ew w:Int)+k - 52:=by omega
 rw [e]
 rcases h with ⟨h0,h⟩ | ⟨h0,h⟩
 ·by_cases a:0<=(ew w:Int)+k - 52
  ·refine .inl ⟨a,?_⟩
   rw [<-h,al,<-aB]
   congr 2;omega
  ·refine .inr ⟨by omega,?_⟩
   rw [<-h,al,<-aB]
   congr 2;omega
 ·refine .inr ⟨by omega,?_⟩
  have f:(-((ew w:Int)+k - 52)).toNat=(-((ew w:Int)+k)).toNat+52:=by omega
  rw [h,f,aB,<-al]
end Go.AM
namespace Go.AM
open Ieee
abbrev fInf:Nat:=2047*2 ^ 52
theorem rX {w w':Nat} (h:w < w'):val w < val w':=by
 have c:=qB (w:=w)
 have e:=qB (w:=w')
 have b:=vJ w
 have d:=vJ w'
 unfold val
 rcases bf (ew w) (ew w') with he | he | he
 ·have a:2 ^ 52<=mw w':=by rcases Ce w' with h | h<;>omega
  calc mw w*2 ^ ew w < 2 ^ 53*2 ^ ew w:=ad b (ao _)
   _=2 ^ 52*2 ^ (ew w+1):=by rw [Nat.pow_succ];omega
   _<=2 ^ 52*2 ^ ew w':=bM _ (a5 (by decide) he)
   _<=mw w'*2 ^ ew w':=a2 _ a
 ·rw [he] at c ⊢
  exact ad (by omega) (ao _)
 ·exfalso
  have a:2 ^ 52<=mw w:=by rcases Ce w with h | h<;>omega
  have:(ew w'+1)*2 ^ 52<=ew w*2 ^ 52:=a2 _ he
  omega
theorem tT {w w':Nat}:val w < val w'↔w < w':=by
 constructor
 ·intro h
  rcases bf w w' with h1 | h1 | h1
  ·exact h1
  ·subst h1;omega
  ·have:=rX h1;omega
 ·exact rX
theorem val_inj {w w':Nat} (h:val w=val w'):w=w':=by
 rcases bf w w' with h1 | h1 | h1
 ·have:=rX h1;omega
 ·exact h1
 ·have:=rX h1;omega
theorem B6 {k:Int} (h: -1022<=k):val (pw k)=P2 (1074+k).toNat:=by
 have hm:mw (pw k)=2 ^ 52:=by unfold mw pw;rw [if_neg (by omega)];omega
 have he:ew (pw k)=(1022+k).toNat:=by unfold ew pw;omega
 unfold val
 have e:52+(1022+k).toNat=(1074+k).toNat:=by omega
 rw [hm,he,<-aB,e,ee]
theorem SZ (k:Nat):pw (k:Int)=(1023+k)*2 ^ 52:=by
 unfold pw
 congr 1
theorem Fv:pw 0=1023*2 ^ 52:=SZ 0
theorem aeR:pw 1=1024*2 ^ 52:=SZ 1
theorem ae5 {k:Nat} (h:k<=1022):pw (-(k:Int))=(1023 - k)*2 ^ 52:=by
 unfold pw
 congr 1
 omega
theorem val_zero:val 0=0:=by decide
theorem Ru {w:Nat} (h:0 < w):0 < val w:=by have:=rX h;rw [val_zero] at this;exact this
theorem GX {w:Nat} (h:0 < w):mw w≠0:=by unfold mw;split<;>omega
theorem adN (a b:Nat):compare (a:Int) (b:Int)=compare a b:=by
 simp only [compare,compareOfLessAndEq,Int.ofNat_lt,Int.natCast_inj]
theorem Ym (a b k:Nat) (hk:0 < k):compare (a*k) (b*k)=compare a b:=by
 simp only [compare,compareOfLessAndEq]
 by_cases h:a < b
 ·rw [if_pos h,if_pos (ad h hk)]
 ·have: ¬(a*k < b*k):= λh2=>h (Nat.lt_of_mul_lt_mul_right h2)
  rw [if_neg h,if_neg this]
  by_cases e:a=b
  ·subst e;simp
  ·have: ¬(a*k=b*k):= λh2=>e (a1 hk h2)
   rw [if_neg e,if_neg this]
theorem acB {w w':Nat}:compare (val w) (val w')=compare w w':=by
 simp only [compare,compareOfLessAndEq,tT]
 by_cases e:w=w'
 ·subst e;simp
 ·have: ¬(val w=val w'):= λh=>e (val_inj h)
  rw [if_neg e,if_neg this]
theorem B2 {w w':Nat} (h:w < fInf) (h':w' < fInf):double.order w w'=some (compare w w'):=by
 unfold Format.order
 rw [xo h,xo h']
 show some (compare (signed false (mw w) _) (signed false (mw w') _))=_
 congr 1
 rw [<-acB]
 unfold signed val
 simp only [a8,if_false,a7]
 rw [adN]
 rcases Nat.le_total (ew w) (ew w') with he | he
 ·have a:((ew w:Int) - 1074 - min ((ew w:Int) - 1074) ((ew w':Int) - 1074)).toNat=0:=by omega
  have b:ew w'=((ew w':Int) - 1074 - min ((ew w:Int) - 1074) ((ew w':Int) - 1074)).toNat+ew w:=by omega
  rw [a,<-Ym _ _ (2 ^ ew w) (ao _),b4,cc,al,<-aB,<-b]
 ·have a:((ew w':Int) - 1074 - min ((ew w:Int) - 1074) ((ew w':Int) - 1074)).toNat=0:=by omega
  have b:ew w=((ew w:Int) - 1074 - min ((ew w:Int) - 1074) ((ew w':Int) - 1074)).toNat+ew w':=by omega
  rw [a,<-Ym _ _ (2 ^ ew w') (ao _),b4,cc,al,<-aB,<-b]
theorem MF {a b:Nat} (h:a < fInf) (h':b < fInf):aa .lss (.flt .f64 a) (.flt .f64 b)=some (.bool (decide (a < b))):=by
 show some (IV.bool (double.order a b==some .lt))=_
 rw [B2 h h']
 congr 2
 simp only [compare,compareOfLessAndEq]
 by_cases h1:a < b
 ·simp [h1]
 ·by_cases h2:a=b<;>simp [h1,h2]
theorem X2 {a b:Nat} (h:a < fInf) (h':b < fInf):aa .geq (.flt .f64 a) (.flt .f64 b)=some (.bool (decide (b<=a))):=by
 show some (IV.bool (double.order a b==some .gt||double.order a b==some .eq))=_
 rw [B2 h h']
 congr 2
 simp only [compare,compareOfLessAndEq]
 by_cases h1:a < b
 ·have c: ¬b<=a:=by omega
  simp [h1,c]
 ·have c:b<=a:=by omega
  by_cases h2:a=b
  ·subst h2;simp
  ·simp [h1,h2,c]
theorem LD {a b:Nat} (h:a < fInf) (h':b < fInf):aa .eql (.flt .f64 a) (.flt .f64 b)=some (.bool (decide (a=b))):=by
 show some (IV.bool (double.order a b==some .eq))=_
 rw [B2 h h']
 congr 2
 simp only [compare,compareOfLessAndEq]
 by_cases h1:a < b
 ·have c: ¬a=b:=by omega
  simp [h1,c]
 ·by_cases h2:a=b<;>simp [h1,h2]
theorem abr {a b:Nat} (h:a < fInf) (h':b < fInf):aa .neq (.flt .f64 a) (.flt .f64 b)=some (.bool (decide (a≠b))):=by
 show some (IV.bool (double.order a b !=some .eq))=_
 rw [B2 h h']
 congr 2
 simp only [compare,compareOfLessAndEq]
 by_cases h1:a < b
 ·have c: ¬a=b:=by omega
  simp [h1,c]
 ·by_cases h2:a=b<;>simp [h1,h2]
theorem Gn {w p:Nat} (h0:0 < w) (hw:w < fInf) (hp:p<=1023) {b:Nat} (hb:b<=2098) (hv:val w*P2 p < P2 b): ∃c,double.mul w (pw p)=some c/\0 < c/\c < fInf/\val c=val w*P2 p:=by
 have hm:=GX h0
 have key: ∀(M E:Nat),M < 2 ^ 53->(2 ^ 52<=M\/E=0)->M≠0->mw w*2 ^ (ew w+p)=M*2 ^ E-> ∃c,double.mul w (pw p)=some c/\0 < c/\c < fInf/\val c=val w*P2 p:= λM E f hn j he=>by
  have d:E*2 ^ 52+M < fInf:=by
   rcases hn with a | h0
   ·have:P2 (52+E) < P2 b:=by
     calc P2 (52+E)=2 ^ 52*2 ^ E:=by rw [ee];exact aB _ _ _
      _<=M*2 ^ E:=a2 _ a
      _=val w*P2 p:=by rw [<-he,ee];unfold val;rw [al,<-aB]
      _ < _:=hv
    have:=QV this
    show E*2 ^ 52+M < 2047*2 ^ 52
    omega
   ·subst h0;show 0*2 ^ 52+M < 2047*2 ^ 52;omega
  refine ⟨E*2 ^ 52+M,?_,by omega,d,?_⟩
  ·have:=mul_pow hw (k:=(p:Int)) (by omega) (by omega) hm f hn (.inl ⟨by omega,by rw [<-he];congr 2⟩)
   rw [this,b3 (b5 d)]
  ·obtain ⟨h,i⟩:=YO f hn
   have:val (E*2 ^ 52+M)=M*2 ^ E:=by unfold val;rw [h,i]
   rw [this,<-he,ee]
   unfold val
   rw [al,<-aB]
 rcases Ce w with a | e
 ·exact key (mw w) (ew w+p) (vJ w) (.inl a) hm rfl
 ·by_cases a:2 ^ 52<=mw w
  ·exact key (mw w) (ew w+p) (vJ w) (.inl a) hm rfl
  ·have l:(mw w).log2 < 52:=(cb hm).2 (by omega)
   obtain ⟨g,b2⟩:=(bB hm).1 rfl
   by_cases hs:(mw w).log2+p<=52
   ·refine key (mw w*2 ^ p) 0 ?_ (.inr rfl) (bx hm (b6 (ao _))) (by rw [e];simp)
    calc mw w*2 ^ p < 2 ^ ((mw w).log2+1)*2 ^ p:=ad b2 (ao _)
     _=2 ^ ((mw w).log2+1+p):=(aB _ _ _).symm
     _<=2 ^ 53:=a5 (by decide) (by omega)
   ·refine key (mw w*2 ^ (52 - (mw w).log2)) (p - (52 - (mw w).log2)) ?_ (.inl ?_) (bx hm (b6 (ao _))) ?_
    ·calc mw w*2 ^ (52 - (mw w).log2) < 2 ^ ((mw w).log2+1)*2 ^ (52 - (mw w).log2):=ad b2 (ao _)
      _=2 ^ ((mw w).log2+1+(52 - (mw w).log2)):=(aB _ _ _).symm
      _<=2 ^ 53:=a5 (by decide) (by omega)
    ·calc 2 ^ 52=2 ^ ((mw w).log2+(52 - (mw w).log2)):=by congr 1;omega
      _=2 ^ (mw w).log2*2 ^ (52 - (mw w).log2):=aB _ _ _
      _<=mw w*2 ^ (52 - (mw w).log2):=a2 _ g
    ·rw [e,al,<-aB]
     congr 2;omega
def dn (f p:Nat):Nat:=f - p*2 ^ 52
theorem abt {w p:Nat} (h1:1<=p) (hp:p<=1022) (b:pw p<=w) (hw:w < fInf):double.mul w (pw (-(p:Int)))=some (dn w p)/\val w=val (dn w p)*P2 p/\pw 0<=dn w p:=by
 unfold dn
 rw [ee]
 have d:(1023+p)*2 ^ 52<=w:=by rw [<-SZ];exact b
 have he:ew w=ew (w - p*2 ^ 52)+p:=by unfold ew;omega
 have hm:mw w=mw (w - p*2 ^ 52):=by unfold mw;rw [if_neg (by omega),if_neg (by omega)];omega
 have hs:=qB (w:=w - p*2 ^ 52)
 have e:w < 2047*2 ^ 52:=hw
 refine ⟨?_,?_,by have:=Fv;omega⟩
 ·have a:2 ^ 52<=mw (w - p*2 ^ 52):=by unfold mw;rw [if_neg (by omega)];omega
  have c:mw w≠0:=by rw [hm];omega
  have hex:((ew w:Int)+ -(p:Int)).toNat=ew (w - p*2 ^ 52):=by omega
  have:=mul_pow hw (k:= -(p:Int)) (by omega) (by omega) c (vJ (w - p*2 ^ 52)) (E:=ew (w - p*2 ^ 52)) (.inl a) (.inl ⟨by omega,by rw [hex,hm]⟩)
  rw [this,<-hs,b3 (by omega)]
 ·unfold val
  rw [hm,he,aB,al]
theorem xM {a b c:Nat} (h:double.mul a b=some c):aa .mul (.flt .f64 a) (.flt .f64 b)=some (.flt .f64 c):=by
 show some (IV.flt .f64 (ZH .f64 (double.mul a b)))=_
 rw [h];rfl
theorem aaB {w k:Nat} (hw:w < fInf) (hk:k < 2 ^ 64) (hv:val w=k*P2 1074):Rh .u64 (.flt .f64 w)=some (.int .u64 (k:Int)):=by
 have hint:(bs.decode w).toInt .zero=some (k:Int):=by
  show (double.read w).toInt .zero=_
  rw [xo hw]
  unfold Datum.toInt Datum.integral
  simp only [signed,a8,if_false,bA]
  congr 1
  have:Toward.zero.cut false (mw w <<< ((ew w:Int) - 1074).toNat) (-((ew w:Int) - 1074)).toNat=k:=by
   unfold val at hv
   by_cases he:1074<=ew w
   ·have b:(-((ew w:Int) - 1074)).toNat=0:=by omega
    have c:ew w=((ew w:Int) - 1074).toNat+1074:=by omega
    have d:2 ^ ew w=2 ^ ((ew w:Int) - 1074).toNat*P2 1074:=by
     have:=eY ((ew w:Int) - 1074).toNat 1074
     rw [<-c,ee,ee (((ew w:Int) - 1074).toNat)] at this
     exact this
    rw [b,a7]
    rw [d,<-al] at hv
    rw [a1 (po 1074) hv]
    unfold Toward.cut
    simp [b7]
   ·have b:((ew w:Int) - 1074).toNat=0:=by omega
    rw [b,bA]
    have c:1074=(-((ew w:Int) - 1074)).toNat+ew w:=by omega
    have hm:mw w=k*2 ^ (-((ew w:Int) - 1074)).toNat:=by
     refine a1 (ao (ew w)) ?_
     rw [hv,al,<-aB,<-ee,<-c]
    rw [hm]
    by_cases a:k=0
    ·subst a
     simp [Toward.cut]
    ·exact QT .zero (.inr rfl) a
  rw [this]
 simp only [Rh,hint]
 rw [if_pos]
 constructor
 ·show (0:Int)<=_;omega
 ·show (k:Int)<=2 ^ 64 - 1;omega
end Go.AM
namespace Go.AM
open Ieee
theorem xB {a:Nat} (h:a < 2 ^ 64):bm.wrap (a:Int)=(a:Int):=by
 have e:(a:Int) % (2 ^ 64:Int)=(a:Int):=Int.emod_eq_of_lt (by omega) (by omega)
 unfold IntKind.wrap
 show (if (false&&decide (((a:Int) % (2 ^ 64:Int))>=(2 ^ 63:Int)))=true then ((a:Int) % (2 ^ 64:Int)) - (2 ^ 64:Int) else ((a:Int) % (2 ^ 64:Int)))=_
 rw [e];simp
theorem Gr {a b:Nat} (h:a+b < 2 ^ 64):aa .add (.int .u64 (a:Int)) (.int .u64 (b:Int))=some (.int .u64 ((a+b:Nat):Int)):=by
 simp only [aa,cr,if_true]
 rw [show (a:Int)+(b:Int)=((a+b:Nat):Int) by omega,xB h]
theorem GS {a b:Nat} {k:IntKind} (hb:b<=64) (h:a*2 ^ b < 2 ^ 64):aa .shl (.int .u64 (a:Int)) (.int k (b:Int))=some (.int .u64 ((a*2 ^ b:Nat):Int)):=by
 simp only [aa]
 rw [if_neg (by omega)]
 have e:min ((b:Int).toNat) bm.bits=b:=by show min _ 64=b;omega
 rw [e]
 have c:(a:Int)*2 ^ b=((a*2 ^ b:Nat):Int):=by rw [Int.natCast_mul,Int.natCast_pow];rfl
 rw [c,xB h]
theorem mS {a b:Nat} {k:IntKind} (hb:b<=64):aa .shr (.int .u64 (a:Int)) (.int k (b:Int))=some (.int .u64 ((a / 2 ^ b:Nat):Int)):=by
 simp only [aa]
 rw [if_neg (by omega)]
 have e:min ((b:Int).toNat) bm.bits=b:=by show min _ 64=b;omega
 rw [e]
 have c:(2:Int) ^ b=((2 ^ b:Nat):Int):=by rw [Int.natCast_pow];rfl
 rw [c,Int.fdiv_eq_ediv_of_nonneg _ (Int.natCast_nonneg _),<-Int.natCast_ediv]
theorem rL {a b:Nat} (c:a < 2 ^ 64) (hb:b < 2 ^ 64):aa .or (.int .u64 (a:Int)) (.int .u64 (b:Int))=some (.int .u64 ((a|||b:Nat):Int)):=by
 simp only [aa,cr,if_true]
 have:(bC bm.bits (a:Int)|||bC bm.bits (b:Int)).toNat=a|||b:=by
  rw [BitVec.toNat_or,a6,a6,bb,bb]
  show a % 2 ^ 64|||b % 2 ^ 64=_
  rw [br c,br hb]
 rw [this,xB (Nat.or_lt_two_pow c hb)]
theorem qU {a b:Nat} (c:a < 2 ^ 64) (hb:b < 2 ^ 64):aa .and (.int .u64 (a:Int)) (.int .u64 (b:Int))=some (.int .u64 ((a&&&b:Nat):Int)):=by
 simp only [aa,cr,if_true]
 have:(bC bm.bits (a:Int)&&&bC bm.bits (b:Int)).toNat=a&&&b:=by
  rw [BitVec.toNat_and,a6,a6,bb,bb]
  show a % 2 ^ 64&&&b % 2 ^ 64=_
  rw [br c,br hb]
 rw [this,xB (bR Nat.and_le_left c)]
theorem UN {a b:Nat} (k:Nat) (h:b < 2 ^ k):a*2 ^ k|||b=a*2 ^ k+b:=by
 rw [<-a7,Nat.shiftLeft_add_eq_or_of_lt h]
theorem aaz {a:Int} {n:Nat} (h:a=(n:Int)) (hn:n < 2 ^ 64):bE .u64 (.int .i64 a)=some (.int .u64 (n:Int)):=by
 subst h;simp only [bE,xB hn]
theorem afS {w p:Nat} (hw:w < fInf):dn w p < fInf:=bR (Nat.sub_le _ _) hw
theorem Ku {w:Nat} (h:w < fInf):val w < P2 2098:=by
 unfold val
 have h1:ew w<=2045:=by have:w < 2047*2 ^ 52:=h;unfold ew;omega
 calc mw w*2 ^ ew w < 2 ^ 53*2 ^ ew w:=ad (vJ w) (ao _)
  _=P2 (53+ew w):=by rw [ee];exact (aB _ _ _).symm
  _<=P2 2098:=Yl (by omega)
theorem XQ {w w':Nat}:val w<=val w'↔w<=w':=by
 have:=tT (w:=w') (w':=w);omega
structure SpI (f0 f:Nat) (n:Int):Prop where
 pos:0 < f
 fin:f < fInf
 lo: -1074<=n
 hi:n<=1023
 eq:val f*P2 (n+2000).toNat=val f0*P2 2000
theorem SpI.down {f0 f:Nat} {n:Int} (h:SpI f0 f n) (h0:f0 < fInf) {p:Nat} (h1:1<=p) (hp:p<=512) (c:pw p<=f):double.mul f (pw (-(p:Int)))=some (dn f p)/\SpI f0 (dn f p) (n+p)/\pw 0<=dn f p:=by
 obtain ⟨e,g,d⟩:=abt h1 (by omega) c h.fin
 have hz:=Fv
 have k:=h.lo
 have j:=h.hi
 have a:=afS (p:=p) h.fin
 have i:(n+(p:Int)+2000).toNat=p+(n+2000).toNat:=by omega
 have b:0 < dn f p:=by omega
 have heq:val (dn f p)*P2 (n+(p:Int)+2000).toNat=val f0*P2 2000:=by
  rw [i,eY,<-al,<-g];exact h.eq
 have hb:P2 (1074+(n+(p:Int)+2000).toNat) < P2 4098:=by
  calc P2 (1074+(n+(p:Int)+2000).toNat)=val (pw 0)*P2 (n+(p:Int)+2000).toNat:=by
        rw [B6 (by omega),eY];rfl
   _<=val (dn f p)*P2 (n+(p:Int)+2000).toNat:=a2 _ (XQ.2 d)
   _=val f0*P2 2000:=heq
   _ < P2 2098*P2 2000:=ad (Ku h0) (po _)
   _=P2 4098:=(eY 2098 2000).symm
 have:=QV hb
 exact ⟨e,⟨b,a,by omega,by omega,heq⟩,d⟩
theorem SpI.up {f0 f:Nat} {n:Int} (h:SpI f0 f n) (h0:0 < f0) {p:Nat} (h1:1<=p) (hp:p<=512) (a:f < pw (-(p:Int))): ∃c,double.mul f (pw p)=some c/\SpI f0 c (n - p)/\c < pw 0:=by
 have e0:(1074+ -(p:Int)).toNat+p=1074:=by omega
 have hv:val f*P2 p < P2 1074:=by
  calc val f*P2 p < val (pw (-(p:Int)))*P2 p:=ad (rX a) (po _)
   _=P2 1074:=by rw [B6 (by omega),<-eY,e0]
 obtain ⟨c,c1,c2,c3,c4⟩:=Gn h.pos h.fin (show p<=1023 by omega) (show 1074<=2098 by omega) hv
 have e:=h.lo
 have d:=h.hi
 have b:(n+2000).toNat=p+(n - (p:Int)+2000).toNat:=by omega
 have heq:val c*P2 (n - (p:Int)+2000).toNat=val f0*P2 2000:=by
  rw [c4,al,<-eY,<-b];exact h.eq
 have hb:P2 2000 < P2 (1074+(n - (p:Int)+2000).toNat):=by
  calc P2 2000=1*P2 2000:=by rw [cd]
   _<=val f0*P2 2000:=a2 _ (Ru h0)
   _=val c*P2 (n - (p:Int)+2000).toNat:=heq.symm
   _ < P2 1074*P2 (n - (p:Int)+2000).toNat:=ad (by rw [c4];exact hv) (po _)
   _=_:=(eY _ _).symm
 have:=QV hb
 refine ⟨c,c1,⟨c2,c3,by omega,by omega,heq⟩,?_⟩
 rw [<-tT,B6 (by omega),c4]
 exact hv
def JM:List Nat:=[512,256,128,64,32,16,8,4,2,1]
def j8:List IV:=[.int .i64 512,.flt .f64 6913025428013711360,.flt .f64 2301339409586323456,.int .i64 256,.flt .f64 5760103923406864384,.flt .f64 3454260914193170432,.int .i64 128,.flt .f64 5183643171103440896,.flt .f64 4030721666496593920,.int .i64 64,.flt .f64 4895412794951729152,.flt .f64 4318952042648305664,.int .i64 32,.flt .f64 4751297606875873280,.flt .f64 4463067230724161536,.int .i64 16,.flt .f64 4679240012837945344,.flt .f64 4535124824762089472,.int .i64 8,.flt .f64 4643211215818981376,.flt .f64 4571153621781053440,.int .i64 4,.flt .f64 4625196817309499392,.flt .f64 4589168020290535424,.int .i64 2,.flt .f64 4616189618054758400,.flt .f64 4598175219545276416,.int .i64 1,.flt .f64 4611686018427387904,.flt .f64 4602678819172646912]
theorem AU:nu=some j8:=rfl
theorem Ag:[nth j8 0,nth j8 1,nth j8 2,nth j8 3,nth j8 4,nth j8 5,nth j8 6,nth j8 7,nth j8 8,nth j8 9,nth j8 10,nth j8 11,nth j8 12,nth j8 13,nth j8 14,nth j8 15,nth j8 16,nth j8 17,nth j8 18,nth j8 19,nth j8 20,nth j8 21,nth j8 22,nth j8 23,nth j8 24,nth j8 25,nth j8 26,nth j8 27,nth j8 28,nth j8 29]=j8:=rfl
theorem Ft: ∀(i p:Nat),JM[i]? =some p->nth j8 (i*3+0)= .int .i64 (p:Int)/\nth j8 (i*3+1)= .flt .f64 (pw (p:Int))/\nth j8 (i*3+2)= .flt .f64 (pw (-(p:Int)))/\1<=p/\p<=512/\i < 10
 | 0,_,h=>by cases h;exact ⟨rfl,congrArg (IV.flt .f64) (by decide),congrArg (IV.flt .f64) (by decide),by decide,by decide,by decide⟩
 | 1,_,h=>by cases h;exact ⟨rfl,congrArg (IV.flt .f64) (by decide),congrArg (IV.flt .f64) (by decide),by decide,by decide,by decide⟩
 | 2,_,h=>by cases h;exact ⟨rfl,congrArg (IV.flt .f64) (by decide),congrArg (IV.flt .f64) (by decide),by decide,by decide,by decide⟩
 | 3,_,h=>by cases h;exact ⟨rfl,congrArg (IV.flt .f64) (by decide),congrArg (IV.flt .f64) (by decide),by decide,by decide,by decide⟩
 | 4,_,h=>by cases h;exact ⟨rfl,congrArg (IV.flt .f64) (by decide),congrArg (IV.flt .f64) (by decide),by decide,by decide,by decide⟩
 | 5,_,h=>by cases h;exact ⟨rfl,congrArg (IV.flt .f64) (by decide),congrArg (IV.flt .f64) (by decide),by decide,by decide,by decide⟩
 | 6,_,h=>by cases h;exact ⟨rfl,congrArg (IV.flt .f64) (by decide),congrArg (IV.flt .f64) (by decide),by decide,by decide,by decide⟩
 | 7,_,h=>by cases h;exact ⟨rfl,congrArg (IV.flt .f64) (by decide),congrArg (IV.flt .f64) (by decide),by decide,by decide,by decide⟩
 | 8,_,h=>by cases h;exact ⟨rfl,congrArg (IV.flt .f64) (by decide),congrArg (IV.flt .f64) (by decide),by decide,by decide,by decide⟩
 | 9,_,h=>by cases h;exact ⟨rfl,congrArg (IV.flt .f64) (by decide),congrArg (IV.flt .f64) (by decide),by decide,by decide,by decide⟩
 | i+10,p,h=>by rw [List.getElem?_eq_none (show JM.length<=i+10 by show 10<=i+10;omega)] at h;cases h
def spF (s:Nat×Int) (p:Nat):Nat×Int:=if pw (p:Int)<=s.1 then (dn s.1 p,s.2+p) else if s.1 < pw (-(p:Int)) then ((double.mul s.1 (pw p)).getD 0,s.2 - p) else s
theorem aaL {f0:Nat} (h0:0 < f0) (h1:f0 < fInf) {s:Nat×Int} (h:SpI f0 s.1 s.2) {p:Nat} (a:1<=p) (b:p<=512):SpI f0 (spF s p).1 (spF s p).2:=by
 unfold spF
 split
 ·rename_i d;exact (h.down h1 a b d).2.1
 ·split
  ·rename_i e
   obtain ⟨c,c1,c2,_⟩:=h.up h0 a b e
   rw [c1];exact c2
  ·exact h
theorem QW {k:Int} (h:k<=1023):pw k < fInf:=by unfold pw;show _ < 2047*2 ^ 52;omega
theorem B9 {a b:Int} (h1: -(2 ^ 62)<=a) (h2:a<=2 ^ 61) (c: -(2 ^ 61)<=b) (d:b<=2 ^ 61):aa .add (.int .i64 a) (.int .i64 b)=some (.int .i64 (a+b)):=Ba (by omega) (by omega)
theorem wU {a b:Int} (h1: -(2 ^ 62)<=a) (h2:a<=2 ^ 61) (c: -(2 ^ 61)<=b) (d:b<=2 ^ 61):aa .sub (.int .i64 a) (.int .i64 b)=some (.int .i64 (a - b)):=qe (by omega) (by omega)
theorem XJ {T:List IV} (l:[nth T 0,nth T 1,nth T 2,nth T 3,nth T 4,nth T 5,nth T 6,nth T 7,nth T 8,nth T 9,nth T 10,nth T 11,nth T 12,nth T 13,nth T 14,nth T 15,nth T 16,nth T 17,nth T 18,nth T 19,nth T 20,nth T 21,nth T 22,nth T 23,nth T 24,nth T 25,nth T 26,nth T 27,nth T 28,nth T 29]=T) (F: ∀(i p:Nat),JM[i]? =some p->nth T (i*3+0)= .int .i64 (p:Int)/\nth T (i*3+1)= .flt .f64 (pw (p:Int))/\nth T (i*3+2)= .flt .f64 (pw (-(p:Int)))/\1<=p/\p<=512/\i < 10) {f0:Nat} (h0:0 < f0) (h1:f0 < fInf) {f:Nat} {n:Int} (h:SpI f0 f n) {i p:Nat} (hp:JM[i]? =some p):
  rh T [.flt .f64 f,.int .i64 n,.int .i64 (i:Int)]=some (.next [.flt .f64 (spF (f,n) p).1,.int .i64 (spF (f,n) p).2,.int .i64 ((i+1:Nat):Int)]):=by
 obtain ⟨t0,t1,C,z,A,hi⟩:=F i p hp
 have H:=h.lo
 have G:=h.hi
 obtain ⟨j,q⟩: ∃j,j=pw (p:Int):=⟨_,rfl⟩
 obtain ⟨g,r⟩: ∃g,g=pw (-(p:Int)):=⟨_,rfl⟩
 have s:j < fInf:=by rw [q];exact QW (by omega)
 have m:g < fInf:=by rw [r];exact QW (by omega)
 have a:= λb=>h.down h1 z A (b:pw (p:Int)<=f)
 have e:= λd=>h.up h0 z A (d:f < pw (-(p:Int)))
 have v:g<=pw 0:=by
  have:=Fv
  have:=ae5 (k:=p) (by omega)
  omega
 have o:spF (f,n) p=if j<=f then (dn f p,n+p) else if f < g then ((double.mul f j).getD 0,n - p) else (f,n):=by
  unfold spF;rw [<-q,<-r]
 rw [o]
 rw [<-q] at t1 a e
 rw [<-r] at C a e
 have t:(i:Int) < 10:=by omega
 have I:aa .add (.int .i64 n) (.int .i64 (p:Int))=some (.int .i64 (n+p)):=B9 (by omega) (by omega) (by omega) (by omega)
 have J:aa .sub (.int .i64 n) (.int .i64 (p:Int))=some (.int .i64 (n - p)):=wU (by omega) (by omega) (by omega) (by omega)
 have w:aa .add (.int .i64 (i:Int)) (.int .i64 1)=some (.int .i64 ((i+1:Nat):Int)):=au (by omega)
 clear q r o
 generalize pw 0=Z at v a e
 unfold rh
 simp only [l,af,ai,aA,an,t,decide_true,ah,ab,dj hi,t0,t1,C,X2 h.fin s,bw]
 by_cases b:j<=f
 ·obtain ⟨x,y,E⟩:=a b
  generalize dn f p=D at x y E ⊢
  have u: ¬(D < g):=by omega
  simp only [b,if_true]
  rw [xM x,ab,I,ab,MF y.fin m,ab,decide_eq_false u,ag,w,ab]
 ·simp only [b,if_false,MF h.fin m,ab,bw]
  by_cases d:f < g
  ·obtain ⟨c,c1,c2,_⟩:=e d
   simp only [d,if_true,xM c1,ab,J,w,c1,Option.getD_some]
  ·simp only [d,if_false,ab,w]
theorem UQ:(4611686018427387904:Nat)=pw ((1:Nat):Int):=by decide
theorem aeu:(4602678819172646912:Nat)=pw (-((1:Nat):Int)):=by decide
theorem ad1:(4607182418800017408:Nat)=pw 0:=by decide
theorem ahX:(4841369599423283200:Nat)=pw ((52:Nat):Int):=by decide
theorem Qs {f0:Nat} (h1:f0 < fInf): ∀(m f:Nat) (n:Int),SpI f0 f n->f / 2 ^ 52 < m-> ∃c d,iter m jy [.flt .f64 f,.int .i64 n]=some (0,[.flt .f64 c,.int .i64 d])/\SpI f0 c d/\c < pw 1
 | 0,f,n,_,hm=>by omega
 | m+1,f,n,h,hm=>by
   have q:=h.lo
   have p:=h.hi
   by_cases a:pw ((1:Nat):Int)<=f
   ·obtain ⟨i,j,r⟩:=h.down h1 (ch 1) (by decide) a
    have hf:jy [.flt .f64 f,.int .i64 n]=some (.next [.flt .f64 (dn f 1),.int .i64 (n+((1:Nat):Int))]):=by
     unfold jy
     simp only [af,ai,UQ,aeu,X2 h.fin (QW (show ((1:Nat):Int)<=1023 by decide)),a,decide_true,ah,ab,xM i]
     rw [B9 (b:=1) (by omega) (by omega) (by omega) (by omega)]
     rfl
    have g:1024*2 ^ 52<=f:=by have:=SZ 1;omega
    have e:dn f 1 / 2 ^ 52 < m:=by unfold dn;omega
    obtain ⟨c,d,k,l,o⟩:=Qs h1 m (dn f 1) (n+((1:Nat):Int)) j e
    exact ⟨c,d,by simp only [iter,hf,ab];exact k,l,o⟩
   ·have hf:jy [.flt .f64 f,.int .i64 n]=some (.done 0 [.flt .f64 f,.int .i64 n]):=by
     unfold jy
     simp only [af,ai,UQ,X2 h.fin (QW (show ((1:Nat):Int)<=1023 by decide)),a,decide_false,ag,ab]
    exact ⟨f,n,by simp only [iter,hf,ab],h,Nat.lt_of_not_le a⟩
theorem It {f0:Nat} (h0:0 < f0): ∀(m f:Nat) (n:Int),SpI f0 f n->f < pw 1->(n+1075).toNat < m-> ∃e i,iter m jr [.flt .f64 f,.int .i64 n]=some (0,[.flt .f64 e,.int .i64 i])/\SpI f0 e i/\pw 0<=e/\e < pw 1
 | 0,f,n,_,_,hm=>by omega
 | m+1,f,n,h,g,hm=>by
   have r:=h.lo
   have q:=h.hi
   have hz:=Fv
   by_cases a:f < pw 0
   ·
    have d:=rX a
    rw [B6 (by omega)] at d
    have hv:val f*P2 1 < P2 1075:=by
     calc val f*P2 1 < P2 1074*P2 1:=ad d (po 1)
      _=P2 1075:=(eY 1074 1).symm
    obtain ⟨c,c1,c2,c3,c4⟩:=Gn h.pos h.fin (show 1<=1023 by omega) (show 1075<=2098 by omega) hv
    have hb:P2 2000 < P2 (1074+(n+2000).toNat):=by
     calc P2 2000=1*P2 2000:=by rw [cd]
      _<=val f0*P2 2000:=a2 _ (Ru h0)
      _=val f*P2 (n+2000).toNat:=h.eq.symm
      _ < P2 1074*P2 (n+2000).toNat:=ad d (po _)
      _=_:=(eY _ _).symm
    have hn:=QV hb
    have j:(n+2000).toNat=1+(n - 1+2000).toNat:=by omega
    have p:SpI f0 c (n - 1):=⟨c2,c3,by omega,by omega,by
     rw [c4,al,<-eY,<-j];exact h.eq⟩
    have hc:c < pw 1:=by
     rw [<-tT,B6 (by omega),c4];exact hv
    have hf:jr [.flt .f64 f,.int .i64 n]=some (.next [.flt .f64 c,.int .i64 (n - 1)]):=by
     unfold jr
     simp only [af,ai,ad1,UQ,MF h.fin (QW (show (0:Int)<=1023 by decide)),a,decide_true,ah,ab]
     rw [xM (show double.mul f (pw ((1:Nat):Int))=some c from c1),wU (b:=1) (by omega) (by omega) (by omega) (by omega)]
     rfl
    obtain ⟨e,i,k,l,o⟩:=It h0 m c (n - 1) p hc (by omega)
    exact ⟨e,i,by simp only [iter,hf,ab];exact k,l,o⟩
   ·have hf:jr [.flt .f64 f,.int .i64 n]=some (.done 0 [.flt .f64 f,.int .i64 n]):=by
     unfold jr
     simp only [af,ai,ad1,MF h.fin (QW (show (0:Int)<=1023 by decide)),a,decide_false,ag,ab]
    exact ⟨f,n,by simp only [iter,hf,ab],h,b1 a,g⟩
theorem N3 {f0:Nat} (h0:0 < f0) (h1:f0 < fInf): ∃g n,jU (.flt .f64 f0)=some [.flt .f64 g,.int .i64 n]/\SpI f0 g n/\pw 0<=g/\g < pw 1:=by
 have d:SpI f0 f0 0:=⟨h0,h1,by omega,by omega,rfl⟩
 have a: ∀(l:List Nat),(∀p∈l,1<=p/\p<=512)-> ∀s:Nat×Int,SpI f0 s.1 s.2->SpI f0 (l.foldl spF s).1 (l.foldl spF s).2:=by
  intro l
  induction l with
  | nil=>intro _ s hs;exact hs
  | cons p l ih=>intro hl s hs;exact ih (λq j=>hl q (List.mem_cons_of_mem _ j)) _ (aaL h0 h1 hs (hl p List.mem_cons_self).1 (hl p List.mem_cons_self).2)
 have c:=a JM (by decide) (f0,0) d
 have hr:rounds=1000000:=rfl
 obtain ⟨h,k,e,b2,f⟩:=Qs h1 rounds _ _ c (by have:=c.fin;have:(JM.foldl spF (f0,0)).1 < 2047*2 ^ 52:=this;omega)
 obtain ⟨g,n,c1,c2,c3,c4⟩:=It h0 rounds h k b2 f (by have:=b2.hi;omega)
 refine ⟨g,n,?_,c2,c3,c4⟩
 unfold jU
 rw [AU]
 simp only [ab]
 rw [kX (vs0:=[.flt .f64 f0,.int .i64 0,.int .i64 0]) (λi (s:Nat×Int)=>[IV.flt .f64 s.1,.int .i64 s.2,.int .i64 (i:Int)]) spF 0 (λs=>[IV.flt .f64 s.1,.int .i64 s.2]) (λ_ s=>SpI f0 s.1 s.2) JM (f0,0) rfl (by show 10 < rounds;omega) d]
 ·simp only [ab,aW,af,ai,e,c1,abR,xl,eh,Option.map_some]
 ·intro i s p hp hs
  have b:=Ft i p hp
  exact ⟨aaL h0 h1 hs b.2.2.2.1 b.2.2.2.2.1,XJ Ag Ft h0 h1 hs hp⟩
 ·intro s _
  unfold rh
  have:JM.length=10:=rfl
  simp [this]
end Go.AM
namespace Go.AM
open Ieee
theorem H5 (w:Nat):val w=mw w*P2 (ew w):=by unfold val;rw [ee]
theorem aai {M E:Nat} (c:M < 2 ^ 53) (hn:2 ^ 52<=M\/E=0):val (E*2 ^ 52+M)=M*P2 E:=by
 obtain ⟨a,b⟩:=YO c hn
 rw [H5,a,b]
theorem KF {g:Nat} (h1:pw 0<=g) (h2:g < pw 1):ew g=1022/\2 ^ 52<=mw g/\mw g < 2 ^ 53/\val g=mw g*P2 1022:=by
 have a:=Fv
 have b:=aeR
 have he:ew g=1022:=by unfold ew;omega
 have hm:2 ^ 52<=mw g:=by unfold mw;rw [if_neg (by omega)];omega
 refine ⟨he,hm,vJ g,?_⟩
 rw [H5,he]
theorem aa5 {f:Nat} (h:f < 2 ^ 52):val f=f:=by
 have he:=VQ h
 unfold val mw
 rw [if_pos h,he];omega
theorem adE {f k:Nat} (h:val f=k) (hk:k < 2 ^ 52):f < 2 ^ 52/\f=k:=by
 have h1:val (2 ^ 52)=2 ^ 52:=by decide
 have h2:f < 2 ^ 52:=tT.1 (by rw [h,h1];exact hk)
 exact ⟨h2,by rw [<-h,aa5 h2]⟩
theorem aaE {f0 g:Nat} {n:Int} (h:SpI f0 g n) (h1:pw 0<=g) (h2:g < pw 1): ∃c,aa .mul (.flt .f64 g) (.flt .f64 4841369599423283200)=some (.flt .f64 c)/\Rh .u64 (.flt .f64 c)=some (.int .u64 (mw g:Int)):=by
 obtain ⟨b,d,e,a⟩:=KF h1 h2
 have hv:val g*P2 52 < P2 1127:=by
  have:val g < P2 1075:=by have:=rX h2;rw [B6 (by omega)] at this;exact this
  calc val g*P2 52 < P2 1075*P2 52:=ad this (po _)
   _=P2 1127:=(eY 1075 52).symm
 obtain ⟨c,c1,c2,c3,c4⟩:=Gn h.pos h.fin (show 52<=1023 by omega) (show 1127<=2098 by omega) hv
 refine ⟨c,?_,aaB c3 (by omega) ?_⟩
 ·rw [ahX];exact xM c1
 ·rw [c4,a,al,<-eY]
theorem ZT {f0 g:Nat} {n:Int} (h:SpI f0 g n) (h1:pw 0<=g) (h2:g < pw 1) (hn:0 < n+1023):f0=(n+1022).toNat*2 ^ 52+mw g:=by
 obtain ⟨f,a,b,c⟩:=KF h1 h2
 have hh:=h.eq
 have e:=h.lo
 have d:1022+(n+2000).toNat=(n+1022).toNat+2000:=by omega
 rw [c,al,<-eY,d,eY,<-al] at hh
 have hv:=a1 (po 2000) hh
 rw [<-aai b (.inl a)] at hv
 exact (val_inj hv).symm
theorem YS {f0 g:Nat} {n:Int} (h:SpI f0 g n) (h1:pw 0<=g) (h2:g < pw 1) (hn:n+1023<=0):mw g / 2 ^ (-1022 - n).toNat=f0/\f0 < 2 ^ 52/\(-1022 - n).toNat<=52:=by
 obtain ⟨k,l,m,d⟩:=KF h1 h2
 have hh:=h.eq
 have i:=h.lo
 generalize hs:(-1022 - n).toNat=s
 have e:1022+(n+2000).toNat+s=2000:=by omega
 have c:1<=s:=by omega
 rw [d,al,<-eY,<-e,eY _ s,Nat.mul_comm (P2 _) (P2 s),<-al] at hh
 have hv:=a1 (po _) hh
 have b:P2 1<=P2 s:=Yl c
 have a:P2 1=2:=by rw [ee]
 have hle:val f0*2<=mw g:=by rw [hv,<-a];exact bM _ b
 obtain ⟨t1,j⟩:=adE (f:=f0) rfl (by omega)
 refine ⟨?_,t1,by omega⟩
 rw [hv,ee,bO _ (ao s)]
 exact j.symm
theorem YI {S x:Nat} (b:S=0\/S=2 ^ 63) (hx:x < 2 ^ 63):S|||x=S+x:=by
 rcases b with rfl | rfl
 ·simp
 ·have:=UN (a:=1) 63 hx
  simpa using this
theorem Qg {f0 S:Nat} (l:S=0\/S=2 ^ 63) (h0:0 < f0) (hf:f0 < fInf):((jU (.flt .f64 f0)).bind λD=>
  (aa .mul (nth D 0) (.flt .f64 4841369599423283200)).bind λO=>
  (Rh .u64 O).bind λi=>
  (aa .add (nth D 1) (.int .i64 1023)).bind λj=>
  (aa .gtr j (.int .i64 0)).bind λr=>
  ae r (λ_=>
  (bE .u64 j).bind λt=>
  (aa .shl t (.int .u64 52)).bind λu=>
  (aa .or (.int .u64 (S:Int)) u).bind λv=>
  (aa .and i (.int .u64 4503599627370495)).bind λw=>
  (aa .or v w).bind λx=>
  aw [x]) (λ_=>
  (aa .sub (.int .i64 1) (nth D 1)).bind λy=>
  (aa .sub y (.int .i64 1023)).bind λz=>
  (aa .shr i z).bind λA=>
  (aa .or (.int .u64 (S:Int)) A).bind λC=>
  aw [C]))=some [.int .u64 ((S+f0:Nat):Int)]:=by
 obtain ⟨g,n,E,d,e,f⟩:=N3 h0 hf
 obtain ⟨c,F,b2⟩:=aaE d e f
 obtain ⟨G,Q,R,_⟩:=KF e f
 have K:=d.lo
 have H:=d.hi
 have h:S < 2 ^ 64:=by omega
 have p:=ZT d e f
 have q:=YS d e f
 clear d e f G
 generalize mw g=M at*
 rw [E,ab,af,F,ab,b2,ab,ai]
 rw [B9 (a:=n) (b:=1023) (by omega) (by omega) (by omega) (by omega),ab,aR,ab,bw]
 by_cases hn:0 < n+1023
 ·rw [if_pos hn]
  have he:=p hn
  obtain ⟨k,hk⟩: ∃k:Nat,n+1023=(k:Int):=⟨(n+1023).toNat,by omega⟩
  have I:1<=k:=by omega
  have J:k<=2046:=by omega
  have m:S+f0=S+k*2 ^ 52+M % 2 ^ 52:=by
   have:(n+1022).toNat=k - 1:=by omega
   rw [this] at he
   have:k*2 ^ 52=(k - 1)*2 ^ 52+2 ^ 52:=by omega
   omega
  clear he p q
  rw [aaz hk (by omega),ab]
  have w1:aa .shl (.int .u64 (k:Int)) (.int .u64 52)=some (.int .u64 ((k*2 ^ 52:Nat):Int)):=GS (b:=52) (by omega) (by omega)
  have w2:aa .or (.int .u64 (S:Int)) (.int .u64 ((k*2 ^ 52:Nat):Int))=some (.int .u64 ((S+k*2 ^ 52:Nat):Int)):=by
   rw [rL h (by omega),YI l (by omega)]
  have w3:aa .and (.int .u64 (M:Int)) (.int .u64 4503599627370495)=some (.int .u64 ((M % 2 ^ 52:Nat):Int)):=by
   have:=qU (a:=M) (b:=2 ^ 52 - 1) (by omega) (by omega)
   rw [Nat.and_two_pow_sub_one_eq_mod] at this
   exact this
  have P:aa .or (.int .u64 ((S+k*2 ^ 52:Nat):Int)) (.int .u64 ((M % 2 ^ 52:Nat):Int))=some (.int .u64 ((S+k*2 ^ 52+M % 2 ^ 52:Nat):Int)):=by
   rw [rL (by omega) (by omega)]
   have L:S+k*2 ^ 52=(S / 2 ^ 52+k)*2 ^ 52:=by rcases l with rfl | rfl<;>omega
   rw [L,UN 52 (Nat.mod_lt _ (by decide))]
  rw [w1,ab,w2,ab,w3,ab,P,ab,m]
  rfl
 ·rw [if_neg hn]
  obtain ⟨t1,T,N⟩:=q (by omega)
  obtain ⟨s,hs⟩: ∃s:Nat,1 - n - 1023=(s:Int):=⟨(1 - n - 1023).toNat,by omega⟩
  have o:(-1022 - n).toNat=s:=by omega
  rw [o] at t1 N
  clear p q
  have w1:aa .shr (.int .u64 (M:Int)) (.int .i64 (s:Int))=some (.int .u64 (f0:Int)):=by
   rw [mS (by omega),t1]
  have w2:aa .or (.int .u64 (S:Int)) (.int .u64 (f0:Int))=some (.int .u64 ((S+f0:Nat):Int)):=by
   rw [rL h (by omega),YI l (by omega)]
  rw [wU (a:=1) (b:=n) (by omega) (by omega) (by omega) (by omega),ab,wU (a:=1 - n) (b:=1023) (by omega) (by omega) (by omega) (by omega),ab,hs,w1,ab,w2,ab]
  rfl
theorem Zo {w:Nat} (hw:w < fInf):double.order w fInf=some .lt/\double.order fInf w=some .gt:=by
 have hr:double.read fInf= .infinity false:=by decide
 unfold Format.order
 rw [xo hw,hr]
 exact ⟨rfl,rfl⟩
theorem mul_two {w:Nat} (h0:0 < w) (hw:w < fInf): ∃c,aa .mul (.flt .f64 w) (.flt .f64 4611686018427387904)=some (.flt .f64 c)/\aa .eql (.flt .f64 w) (.flt .f64 c)=some (.bool false)/\aa .eql (.flt .f64 c) (.flt .f64 w)=some (.bool false):=by
 rw [UQ]
 by_cases hv:val w*P2 1 < P2 2098
 ·obtain ⟨c,c1,c2,c3,c4⟩:=Gn h0 hw (show 1<=1023 by omega) (ch _) hv
  have a:w≠c:=by
   intro e
   have hp:=Ru h0
   have b:P2 1=2:=by rw [ee]
   rw [b,<-e] at c4
   omega
  exact ⟨c,xM c1,by rw [LD hw c3,decide_eq_false a],by rw [LD c3 hw,decide_eq_false (Ne.symm a)]⟩
 ·have f:P2 2098 < P2 (54+ew w):=by
   calc P2 2098<=val w*P2 1:=b1 hv
    _ < P2 53*P2 (ew w)*P2 1:=by
      refine ad ?_ (po 1)
      rw [H5]
      refine ad ?_ (po _)
      rw [ee];exact vJ w
    _=P2 (54+ew w):=by
     have:54+ew w=53+ew w+1:=by omega
     rw [this,eY (53+ew w) 1,eY 53 (ew w)]
  have he:=QV f
  have hs:=qB (w:=w)
  have hm:2 ^ 52<=mw w:=by rcases Ce w with h | h<;>omega
  have g:=vJ w
  have hmul:=mul_pow hw (k:=((1:Nat):Int)) (by omega) (by omega) (by omega) g (E:=ew w+1) (.inl hm) (.inl ⟨by omega,by congr 2⟩)
  have d:2047*2 ^ 52<=(ew w+1)*2 ^ 52+mw w:=by omega
  rw [Nat.min_eq_right d] at hmul
  obtain ⟨i,j⟩:=Zo hw
  refine ⟨fInf,xM hmul,?_,?_⟩
  ·show some (IV.bool (double.order w fInf==some .eq))=_
   rw [i];rfl
  ·show some (IV.bool (double.order fInf w==some .eq))=_
   rw [j];rfl
theorem abp {w:Nat} (h:w < 2047*2 ^ 52):double.read (2 ^ 63+w)= .number true (mw w) ((ew w:Int) - 1074):=by
 unfold Format.read
 simp only [KZ,KC,Cc,Tv]
 have h1:(2 ^ 63+w) / 2 ^ 63=1:=by omega
 have h2:(2 ^ 63+w) % 2 ^ 63=w:=by omega
 rw [h1,h2]
 unfold mw ew
 by_cases hs:w < 2 ^ 52
 ·rw [if_pos hs,if_pos hs,show w / 2 ^ 52 - 1=0 by omega];rfl
 ·rw [if_neg hs,if_pos h,if_neg hs]
  have e:(-1074:Int)+((w / 2 ^ 52 - 1:Nat):Int)=((w / 2 ^ 52 - 1:Nat):Int) - 1074:=by omega
  rw [e];rfl
theorem Z1 {w:Nat} (h0:0 < w) (h:w < fInf):double.order (2 ^ 63+w) 0=some .lt:=by
 have hz:double.read 0= .number false 0 (-1074):=by decide
 unfold Format.order
 rw [abp h,hz]
 show some (compare (signed true (mw w) _) (signed false 0 _))=_
 congr 1
 have hm:=GX h0
 unfold signed
 simp only [if_true,a8,if_false,Nat.zero_shiftLeft,a7]
 have hp:0 < mw w*2 ^ ((ew w:Int) - 1074 - min ((ew w:Int) - 1074) (-1074)).toNat:=ca (by omega) (ao _)
 generalize mw w*2 ^ ((ew w:Int) - 1074 - min ((ew w:Int) - 1074) (-1074)).toNat=x at hp
 simp only [compare,compareOfLessAndEq]
 rw [if_pos (by omega)]
theorem Uk {w:Nat} (h:w < 2 ^ 63):(2 ^ 63+w) ^^^ 2 ^ 63=w:=by
 refine Nat.eq_of_testBit_eq λi=> ?_
 rw [Nat.testBit_xor,Nat.testBit_two_pow]
 rcases bf i 63 with hi | rfl | hi
 ·rw [Nat.testBit_two_pow_add_gt hi]
  simp [show ¬63=i by omega]
 ·rw [Nat.testBit_two_pow_add_eq,bd h];rfl
 ·rw [bd (b0 (show 2 ^ 63+w < 2 ^ 64 by omega) (a5 (by decide) hi)),bd (b0 h (a5 (by decide) (by omega)))]
  simp [show ¬63=i by omega]
theorem YM {w:Nat} (h:w<=fInf):canF .f64 w=w:=by
 unfold canF Ct
 rw [show bs.format.infRung=2047*2 ^ 52 from Cc,show bs.format.signWeight=2 ^ 63 from KZ,if_neg]
 rw [decide_eq_true_eq]
 have:w<=2047*2 ^ 52:=h
 omega
theorem abn {w:Nat} (h:w<=fInf):ll .neg (.flt .f64 (2 ^ 63+w))=some (.flt .f64 w):=by
 show some (IV.flt .f64 (canF .f64 ((2 ^ 63+w) ^^^ 2 ^ 63)))=_
 rw [Uk (by have:w<=2047*2 ^ 52:=h;omega),YM h]
theorem aa4 {w:Nat} (h:fInf < w % 2 ^ 63): ∃s t,double.read w= .nan s t:=by
 unfold Format.read
 simp only [KZ,KC,Cc,Tv]
 have h':2047*2 ^ 52 < w % 2 ^ 63:=h
 rw [if_neg (by omega),if_neg (by omega),if_neg (by omega)]
 exact ⟨_,_,rfl⟩
theorem Hc {w x:Nat} (h:fInf < w % 2 ^ 63):double.order w x=none:=by
 obtain ⟨s,t,e⟩:=aa4 h
 unfold Format.order
 rw [e];rfl
def bitsN (w:Nat):Nat:=if fInf < w % 2 ^ 63 then 9221120237041090560 else w
theorem B5 (w:Nat):canF .f64 w=bitsN w:=by
 unfold canF Ct bitsN
 rw [show bs.format.infRung=fInf from Cc,show bs.format.signWeight=2 ^ 63 from KZ]
 by_cases h:fInf < w % 2 ^ 63
 ·rw [if_pos (decide_eq_true h),if_pos h];rfl
 ·rw [if_neg (by rw [decide_eq_false h];simp),if_neg h]
theorem Yu (w:Nat) (h:w < 2 ^ 64):fInf < w % 2 ^ 63\/w=0\/w=2 ^ 63\/w=fInf\/w=2 ^ 63+fInf\/(0 < w/\w < fInf)\/ ∃x,w=2 ^ 63+x/\0 < x/\x < fInf:=by
 show 2047*2 ^ 52 < _\/_\/_\/w=2047*2 ^ 52\/w=2 ^ 63+2047*2 ^ 52\/(_/\w < 2047*2 ^ 52)\/ ∃x,_/\_/\x < 2047*2 ^ 52
 by_cases h1:w < 2 ^ 63
 ·omega
 ·have:w=2 ^ 63+(w - 2 ^ 63):=by omega
  by_cases h2:0 < w - 2 ^ 63/\w - 2 ^ 63 < 2047*2 ^ 52
  ·exact .inr (.inr (.inr (.inr (.inr (.inr ⟨w - 2 ^ 63,this,h2⟩)))))
  ·omega
theorem MG {w:Nat} (h0:0 < w) (h:w < fInf):fu (.flt .f64 w)=some [.bool false]:=by
 unfold fu
 rw [MF h (show 0 < fInf by decide),ab,decide_eq_false (Nat.not_lt_zero w),ag,LD h (show 0 < fInf by decide),ab,decide_eq_false (by omega),ag,ab,af]
 rfl
theorem Mg {w:Nat} (h0:0 < w) (h:w < fInf):fu (.flt .f64 (2 ^ 63+w))=some [.bool true]:=by
 unfold fu
 have:aa .lss (.flt .f64 (2 ^ 63+w)) (.flt .f64 0)=some (.bool true):=by
  show some (IV.bool (double.order (2 ^ 63+w) 0==some .lt))=_
  rw [Z1 h0 h];rfl
 rw [this,ab,ah,ab,af]
 rfl
theorem pM {w:Nat} (h:w < 2 ^ 64):ed (.flt .f64 w)=some [.int .u64 (bitsN w:Int)]:=by
 rcases Yu w h with hn | rfl | rfl | rfl | rfl | ⟨h0,hf⟩ | ⟨x,rfl,h0,hf⟩
 ·have d:aa .lss (.flt .f64 w) (.flt .f64 0)=some (.bool false):=by
   show some (IV.bool (double.order w 0==some .lt))=_
   rw [Hc hn];rfl
  have e:aa .eql (.flt .f64 w) (.flt .f64 0)=some (.bool false):=by
   show some (IV.bool (double.order w 0==some .eq))=_
   rw [Hc hn];rfl
  have f:aa .neq (.flt .f64 w) (.flt .f64 w)=some (.bool true):=by
   show some (IV.bool (double.order w w !=some .eq))=_
   rw [Hc hn];rfl
  have em:fu (.flt .f64 w)=some [.bool false]:=by
   unfold fu
   rw [d,ab,ag,e,ab,ag,ab,af]
   rfl
  unfold ed bitsN
  rw [em,ab,af,ag,f,ab,ah,if_pos hn]
  rfl
 ·kernel_rfl
 ·kernel_rfl
 ·kernel_rfl
 ·kernel_rfl
 ·have hb:bitsN w=w:=by
   have:w < 2047*2 ^ 52:=hf
   unfold bitsN;rw [if_neg (by show ¬2047*2 ^ 52 < _;omega)]
  obtain ⟨c,a,b,_⟩:=mul_two h0 hf
  have ht:=Qg (S:=0) (.inl rfl) h0 hf
  rw [Nat.zero_add] at ht
  unfold ed
  rw [MG h0 hf,ab,af,ag,abr hf hf,ab,decide_eq_false (λhh=>hh rfl),ag,LD hf (show 0 < fInf by decide),ab,decide_eq_false (by omega),ag,a,ab,b,ab,ag,hb]
  exact ht
 ·have hb:bitsN (2 ^ 63+x)=2 ^ 63+x:=by
   have:x < 2047*2 ^ 52:=hf
   unfold bitsN;rw [if_neg (by show ¬2047*2 ^ 52 < _;omega)]
  obtain ⟨c,a,b,_⟩:=mul_two h0 hf
  have ht:=Qg (S:=2 ^ 63) (.inr rfl) h0 hf
  have hx:x < 2 ^ 63:=by have:x < 2047*2 ^ 52:=hf;omega
  unfold ed
  rw [Mg h0 hf,ab,af,ah,abn (b5 hf),ab,abr hf hf,ab,decide_eq_false (λhh=>hh rfl),ag,LD hf (show 0 < fInf by decide),ab,decide_eq_false (by omega),ag,a,ab,b,ab,ag,hb]
  exact ht
end Go.AM
namespace Go.AM
open Ieee
structure ReI (f0 f e:Nat):Prop where
 pos:0 < f
 fin:f < fInf
 lo:1<=e
 hi:e<=2046
 eq:val f*P2 (e+977)=val f0*P2 2000
theorem aj5 {f:Nat} (hf:f < fInf) (hv:val f*P2 1 < P2 2000): ∃c,double.mul f (pw ((1:Nat):Int))=some c/\c < fInf/\val c=val f*P2 1:=by
 rcases Nat.eq_zero_or_pos f with h | h
 ·subst h
  refine ⟨0,?_,by show 0 < 2047*2 ^ 52;omega,by rw [val_zero];omega⟩
  rw [<-UQ];decide
 ·obtain ⟨c,c1,_,c3,c4⟩:=Gn h hf (show 1<=1023 by omega) (show 2000<=2098 by omega) hv
  exact ⟨c,c1,c3,c4⟩
end Go.AM
