/- Numbers with a point, plainly: what their words stand for; exact products. -/
import Derived.Test.YtgoenohknokcmaaGreatMk
import Derived.Test.YtgoenohknokcmaaGreatSh
import Derived.KernelRfl
set_option linter.unusedVariables false
set_option linter.unusedSimpArgs false
namespace Go.AM
open Ieee
theorem Yw: ∃f:Nat->Nat,∀k,f k=2 ^ k:=⟨fun k=>2 ^ k,fun _=>rfl⟩
 noncomputable def P2:Nat->Nat:=Classical.choose Yw
theorem ec (k:Nat):P2 k=2 ^ k:=Classical.choose_spec Yw k
theorem tU (k:Nat):0 < P2 k:=by rw [ec];exact Nat.two_pow_pos k
theorem eA (a b:Nat):P2 (a+b)=P2 a*P2 b:=by rw [ec,ec,ec];exact Nat.pow_add 2 a b
theorem YA {a b:Nat} (h:a < b):P2 a < P2 b:=by rw [ec,ec];exact Nat.pow_lt_pow_right (by decide) h
theorem Yy {a b:Nat} (h:a<=b):P2 a<=P2 b:=by rw [ec,ec];exact Nat.pow_le_pow_right (by decide) h
theorem Wp {a b:Nat} (h:P2 a < P2 b):a < b:=by rw [ec,ec] at h;exact (Nat.pow_lt_pow_iff_right (by decide)).1 h
theorem MI:double.leastPlace= -1074:=by decide
theorem FC:double.binade=2 ^ 52:=by decide
theorem Fs:double.infRung=2047*2 ^ 52:=by decide
theorem Sl:double.signWeight=2 ^ 63:=by decide
theorem aaa:double.fractionBits=52:=rfl
def mw (w:Nat):Nat:=if w < 2 ^ 52 then w else 2 ^ 52+w % 2 ^ 52
def ew (w:Nat):Nat:=w / 2 ^ 52 - 1
def val (w:Nat):Nat:=mw w*2 ^ ew w
theorem Xv {w:Nat} (h:w < 2 ^ 52):ew w=0:=by unfold ew;omega
theorem tt {w:Nat}:w=ew w*2 ^ 52+mw w:=by
 unfold ew mw
 split
 ·omega
 ·omega
theorem BB (w:Nat):mw w < 2 ^ 53:=by unfold mw;split<;>omega
theorem Fy (w:Nat):2 ^ 52<=mw w\/ew w=0:=by unfold mw ew;split<;>omega
theorem pr {w:Nat} (h:w < 2047*2 ^ 52):double.read w= .number false (mw w) ((ew w:Int) - 1074):=by
 unfold Format.read
 simp only [Sl,FC,Fs,MI]
 have h1:w / 2 ^ 63=0:=by omega
 have h2:w % 2 ^ 63=w:=by omega
 rw [h1,h2]
 unfold mw ew
 by_cases hs:w < 2 ^ 52
 ·rw [if_pos hs,if_pos hs,show w / 2 ^ 52 - 1=0 by omega];rfl
 ·rw [if_neg hs,if_pos h,if_neg hs]
  have e:(-1074:Int)+((w / 2 ^ 52 - 1:Nat):Int)=((w / 2 ^ 52 - 1:Nat):Int) - 1074:=by omega
  rw [e];rfl
theorem oN {n k:Nat} (h:n≠0):(n*2 ^ k).log2=n.log2+k:=by
 have hp:0 < 2 ^ k:=Nat.two_pow_pos k
 rw [Nat.log2_eq_iff (Nat.mul_ne_zero h (by omega))]
 obtain ⟨h1,h2⟩:=(Nat.log2_eq_iff h).1 rfl
 constructor
 ·rw [Nat.pow_add];exact Nat.mul_le_mul_right _ h1
 ·rw [show n.log2+k+1=n.log2+1+k by omega,Nat.pow_add];exact Nat.mul_lt_mul_of_pos_right h2 hp
theorem KX (n:Nat):Toward.even.cut false n 0=n:=by
 unfold Toward.cut
 simp [Nat.mod_one]
theorem Lo (way:Toward) (hw:way= .even\/way= .zero) {m d:Nat} (hm:m≠0):way.cut false (m*2 ^ d) d=m:=by
 unfold Toward.cut
 have hd:min d ((m*2 ^ d).log2+2)=d:=by rw [oN hm];omega
 have hp:0 < 2 ^ d:=Nat.two_pow_pos d
 simp only [hd,Nat.one_shiftLeft,Nat.mul_div_cancel _ hp,Nat.mul_mod_left]
 rcases hw with rfl | rfl
 ·have h1: ¬(2 ^ d < 2*0):=by omega
  have h2:(2 ^ d==2*0)=false:=by simp only [Nat.mul_zero,beq_eq_false_iff_ne];omega
  simp [h2]
 ·simp
theorem yy {mag M E:Nat} {place:Int} (hmag:mag≠0) (hM:M < 2 ^ 53) (hn:2 ^ 52<=M\/E=0) (h:(0<=place+1074/\mag*2 ^ (place+1074).toNat=M*2 ^ E)\/(place+1074 < 0/\mag=M*2 ^ E*2 ^ (-(place+1074)).toNat)):
  double.nearest false mag place=min (E*2 ^ 52+M) (2047*2 ^ 52):=by
 have hM0:M≠0:=by
  intro h0;subst h0
  rcases h with ⟨_,h⟩ | ⟨_,h⟩
  ·have:0 < 2 ^ (place+1074).toNat:=Nat.two_pow_pos _
   have:0 < mag*2 ^ (place+1074).toNat:=Nat.mul_pos (by omega) this
   omega
  ·simp at h;omega
 have hlog:(mag.log2:Int)+(place+1074)=(M.log2:Int)+E:=by
  rcases h with ⟨h0,h⟩ | ⟨h0,h⟩
  ·have:=congrArg Nat.log2 h
   rw [oN hmag,oN hM0] at this
   omega
  ·have:=congrArg Nat.log2 h
   rw [Nat.mul_assoc,<-Nat.pow_add,oN hM0] at this
   omega
 have hML:M.log2<=52:=by
  have:=(Nat.log2_lt hM0 (k:=53)).2 hM;omega
 have hML2:2 ^ 52<=M->M.log2=52:=fun h=>by
  have:=(Nat.le_log2 hM0).2 h;omega
 have hlast:max (place+(mag.log2:Int) - (52:Nat)) (-1074)=(E:Int) - 1074:=by
  rcases hn with h52 | hE
  ·have:=hML2 h52;omega
  ·subst hE;omega
 unfold Format.nearest
 rw [if_neg hmag]
 simp only [aaa,MI,FC,Fs]
 rw [hlast]
 have hkept:Toward.even.cut false (mag <<< (place - ((E:Int) - 1074)).toNat) (((E:Int) - 1074) - place).toNat=M:=by
  by_cases hge:(E:Int) - 1074<=place
  ·have hz:(((E:Int) - 1074) - place).toNat=0:=by omega
   rw [hz,KX,Nat.shiftLeft_eq]
   rcases h with ⟨h0,h⟩ | ⟨h0,h⟩
   ·have e:(place+1074).toNat=(place - ((E:Int) - 1074)).toNat+E:=by omega
    rw [e,Nat.pow_add,<-Nat.mul_assoc] at h
    exact Nat.eq_of_mul_eq_mul_right (Nat.two_pow_pos E) h
   ·omega
  ·have hz:(place - ((E:Int) - 1074)).toNat=0:=by omega
   rw [hz,Nat.shiftLeft_zero]
   have:mag=M*2 ^ (((E:Int) - 1074) - place).toNat:=by
    rcases h with ⟨h0,h⟩ | ⟨h0,h⟩
    ·have e:E=(((E:Int) - 1074) - place).toNat+(place+1074).toNat:=by omega
     have e2:M*2 ^ E=M*2 ^ (((E:Int) - 1074) - place).toNat*2 ^ (place+1074).toNat:=by
      rw [Nat.mul_assoc,<-Nat.pow_add,<-e]
     rw [e2] at h
     exact Nat.eq_of_mul_eq_mul_right (Nat.two_pow_pos _) h
    ·rw [h,Nat.mul_assoc,<-Nat.pow_add]
     congr 2;omega
   rw [this]
   exact Lo .even (.inl rfl) hM0
 rw [hkept]
 have:((E:Int) - 1074 - -1074).toNat=E:=by omega
 rw [this]
 simp only [Format.word,Bool.false_eq_true,if_false]
theorem TN {M E:Nat} (hM:M < 2 ^ 53) (hn:2 ^ 52<=M\/E=0):mw (E*2 ^ 52+M)=M/\ew (E*2 ^ 52+M)=E:=by
 unfold mw ew
 rcases hn with h | h
 ·constructor
  ·rw [if_neg (by omega)];omega
  ·omega
 ·subst h
  constructor
  ·split<;>omega
  ·omega
def pw (k:Int):Nat:=(1023+k).toNat*2 ^ 52
theorem mul_pow {w:Nat} (hw:w < 2047*2 ^ 52) {k:Int} (h1: -1022<=k) (h2:k<=1023) {M E:Nat} (hm:mw w≠0) (hM:M < 2 ^ 53) (hn:2 ^ 52<=M\/E=0)
  (h:(0<=(ew w:Int)+k/\mw w*2 ^ ((ew w:Int)+k).toNat=M*2 ^ E)\/((ew w:Int)+k < 0/\mw w=M*2 ^ E*2 ^ (-((ew w:Int)+k)).toNat)):
  double.mul w (pw k)=some (min (E*2 ^ 52+M) (2047*2 ^ 52)):=by
 have hpk:pw k < 2047*2 ^ 52:=by unfold pw;omega
 have hmp:mw (pw k)=2 ^ 52:=by unfold mw pw;rw [if_neg (by omega)];omega
 have hep:(ew (pw k):Int)=1022+k:=by unfold ew pw;omega
 unfold Format.mul
 rw [pr hw,pr hpk,hmp,hep]
 show some (double.nearest (false ^^ false) (mw w*2 ^ 52) ((ew w:Int) - 1074+(1022+k - 1074)))=_
 congr 1
 refine yy (Nat.mul_ne_zero hm (by decide)) hM hn ?_
 have e1:(ew w:Int) - 1074+(1022+k - 1074)+1074=(ew w:Int)+k - 52:=by omega
 rw [e1]
 rcases h with ⟨h0,h⟩ | ⟨h0,h⟩
 ·by_cases h52:0<=(ew w:Int)+k - 52
  ·refine .inl ⟨h52,?_⟩
   rw [<-h,Nat.mul_assoc,<-Nat.pow_add]
   congr 2;omega
  ·refine .inr ⟨by omega,?_⟩
   rw [<-h,Nat.mul_assoc,<-Nat.pow_add]
   congr 2;omega
 ·refine .inr ⟨by omega,?_⟩
  have e2:(-((ew w:Int)+k - 52)).toNat=(-((ew w:Int)+k)).toNat+52:=by omega
  rw [h,e2,Nat.pow_add,<-Nat.mul_assoc]
end Go.AM
namespace Go.AM
open Ieee
abbrev fInf:Nat:=2047*2 ^ 52
theorem po {w w':Nat} (h:w < w'):val w < val w':=by
 have s1:=tt (w:=w)
 have s2:=tt (w:=w')
 have l1:=BB w
 have l2:=BB w'
 unfold val
 rcases Nat.lt_trichotomy (ew w) (ew w') with he | he | he
 ·have h52:2 ^ 52<=mw w':=by rcases Fy w' with h | h<;>omega
  calc mw w*2 ^ ew w < 2 ^ 53*2 ^ ew w:=Nat.mul_lt_mul_of_pos_right l1 (Nat.two_pow_pos _)
   _=2 ^ 52*2 ^ (ew w+1):=by rw [Nat.pow_succ];omega
   _<=2 ^ 52*2 ^ ew w':=Nat.mul_le_mul_left _ (Nat.pow_le_pow_right (by decide) he)
   _<=mw w'*2 ^ ew w':=Nat.mul_le_mul_right _ h52
 ·rw [he] at s1 ⊢
  exact Nat.mul_lt_mul_of_pos_right (by omega) (Nat.two_pow_pos _)
 ·exfalso
  have h52:2 ^ 52<=mw w:=by rcases Fy w with h | h<;>omega
  have:(ew w'+1)*2 ^ 52<=ew w*2 ^ 52:=Nat.mul_le_mul_right _ he
  omega
theorem tP {w w':Nat}:val w < val w'↔w < w':=by
 constructor
 ·intro h
  rcases Nat.lt_trichotomy w w' with h1 | h1 | h1
  ·exact h1
  ·subst h1;omega
  ·have:=po h1;omega
 ·exact po
theorem val_inj {w w':Nat} (h:val w=val w'):w=w':=by
 rcases Nat.lt_trichotomy w w' with h1 | h1 | h1
 ·have:=po h1;omega
 ·exact h1
 ·have:=po h1;omega
theorem FA {k:Int} (h: -1022<=k):val (pw k)=P2 (1074+k).toNat:=by
 have hm:mw (pw k)=2 ^ 52:=by unfold mw pw;rw [if_neg (by omega)];omega
 have he:ew (pw k)=(1022+k).toNat:=by unfold ew pw;omega
 unfold val
 have e:52+(1022+k).toNat=(1074+k).toNat:=by omega
 rw [hm,he,<-Nat.pow_add,e,ec]
theorem M6 (k:Nat):pw (k:Int)=(1023+k)*2 ^ 52:=by
 unfold pw
 congr 1
theorem Ox:pw 0=1023*2 ^ 52:=M6 0
theorem Wv:pw 1=1024*2 ^ 52:=M6 1
theorem val_zero:val 0=0:=by decide
theorem Yj {w:Nat} (h:0 < w):0 < val w:=by have:=po h;rw [val_zero] at this;exact this
theorem VE {w:Nat} (h:0 < w):mw w≠0:=by unfold mw;split<;>omega
theorem X7 (a b:Nat):compare (a:Int) (b:Int)=compare a b:=by
 simp only [compare,compareOfLessAndEq,Int.ofNat_lt,Int.natCast_inj]
theorem Ug (a b k:Nat) (hk:0 < k):compare (a*k) (b*k)=compare a b:=by
 simp only [compare,compareOfLessAndEq]
 by_cases h:a < b
 ·rw [if_pos h,if_pos (Nat.mul_lt_mul_of_pos_right h hk)]
 ·have: ¬(a*k < b*k):=fun h2=>h (Nat.lt_of_mul_lt_mul_right h2)
  rw [if_neg h,if_neg this]
  by_cases e:a=b
  ·subst e;simp
  ·have: ¬(a*k=b*k):=fun h2=>e (Nat.eq_of_mul_eq_mul_right hk h2)
   rw [if_neg e,if_neg this]
theorem Ys {w w':Nat}:compare (val w) (val w')=compare w w':=by
 simp only [compare,compareOfLessAndEq,tP]
 by_cases e:w=w'
 ·subst e;simp
 ·have: ¬(val w=val w'):=fun h=>e (val_inj h)
  rw [if_neg e,if_neg this]
theorem xx {w w':Nat} (h:w < fInf) (h':w' < fInf):double.order w w'=some (compare w w'):=by
 unfold Format.order
 rw [pr h,pr h']
 show some (compare (signed false (mw w) _) (signed false (mw w') _))=_
 congr 1
 rw [<-Ys]
 unfold signed val
 simp only [Bool.false_eq_true,if_false,Nat.shiftLeft_eq]
 rw [X7]
 rcases Nat.le_total (ew w) (ew w') with he | he
 ·have e1:((ew w:Int) - 1074 - min ((ew w:Int) - 1074) ((ew w':Int) - 1074)).toNat=0:=by omega
  have e2:ew w'=((ew w':Int) - 1074 - min ((ew w:Int) - 1074) ((ew w':Int) - 1074)).toNat+ew w:=by omega
  rw [e1,<-Ug _ _ (2 ^ ew w) (Nat.two_pow_pos _),Nat.pow_zero,Nat.mul_one,Nat.mul_assoc,<-Nat.pow_add,<-e2]
 ·have e1:((ew w':Int) - 1074 - min ((ew w:Int) - 1074) ((ew w':Int) - 1074)).toNat=0:=by omega
  have e2:ew w=((ew w:Int) - 1074 - min ((ew w:Int) - 1074) ((ew w':Int) - 1074)).toNat+ew w':=by omega
  rw [e1,<-Ug _ _ (2 ^ ew w') (Nat.two_pow_pos _),Nat.pow_zero,Nat.mul_one,Nat.mul_assoc,<-Nat.pow_add,<-e2]
theorem Il {a b:Nat} (h:a < fInf) (h':b < fInf):aa .lss (.flt .f64 a) (.flt .f64 b)=some (.bool (decide (a < b))):=by
 show some (IV.bool (double.order a b==some .lt))=_
 rw [xx h h']
 congr 2
 simp only [compare,compareOfLessAndEq]
 by_cases h1:a < b
 ·simp [h1]
 ·by_cases h2:a=b<;>simp [h1,h2]
theorem WS {a b:Nat} (h:a < fInf) (h':b < fInf):aa .geq (.flt .f64 a) (.flt .f64 b)=some (.bool (decide (b<=a))):=by
 show some (IV.bool (double.order a b==some .gt||double.order a b==some .eq))=_
 rw [xx h h']
 congr 2
 simp only [compare,compareOfLessAndEq]
 by_cases h1:a < b
 ·have h3: ¬b<=a:=by omega
  simp [h1,h3]
 ·have h3:b<=a:=by omega
  by_cases h2:a=b
  ·subst h2;simp
  ·simp [h1,h2,h3]
theorem GA {a b:Nat} (h:a < fInf) (h':b < fInf):aa .eql (.flt .f64 a) (.flt .f64 b)=some (.bool (decide (a=b))):=by
 show some (IV.bool (double.order a b==some .eq))=_
 rw [xx h h']
 congr 2
 simp only [compare,compareOfLessAndEq]
 by_cases h1:a < b
 ·have h3: ¬a=b:=by omega
  simp [h1,h3]
 ·by_cases h2:a=b<;>simp [h1,h2]
theorem Zn {a b:Nat} (h:a < fInf) (h':b < fInf):aa .neq (.flt .f64 a) (.flt .f64 b)=some (.bool (decide (a≠b))):=by
 show some (IV.bool (double.order a b !=some .eq))=_
 rw [xx h h']
 congr 2
 simp only [compare,compareOfLessAndEq]
 by_cases h1:a < b
 ·have h3: ¬a=b:=by omega
  simp [h1,h3]
 ·by_cases h2:a=b<;>simp [h1,h2]
theorem Su {w p:Nat} (h0:0 < w) (hw:w < fInf) (hp:p<=1023) {b:Nat} (hb:b<=2098) (hv:val w*P2 p < P2 b): ∃c,double.mul w (pw p)=some c/\0 < c/\c < fInf/\val c=val w*P2 p:=by
 have hm:=VE h0
 have key: ∀(M E:Nat),M < 2 ^ 53->(2 ^ 52<=M\/E=0)->M≠0->mw w*2 ^ (ew w+p)=M*2 ^ E-> ∃c,double.mul w (pw p)=some c/\0 < c/\c < fInf/\val c=val w*P2 p:=fun M E hM hn hM0 he=>by
  have hlt:E*2 ^ 52+M < fInf:=by
   rcases hn with h52 | h0
   ·have:P2 (52+E) < P2 b:=by
     calc P2 (52+E)=2 ^ 52*2 ^ E:=by rw [ec];exact Nat.pow_add _ _ _
      _<=M*2 ^ E:=Nat.mul_le_mul_right _ h52
      _=val w*P2 p:=by rw [<-he,ec];unfold val;rw [Nat.mul_assoc,<-Nat.pow_add]
      _ < _:=hv
    have:=Wp this
    show E*2 ^ 52+M < 2047*2 ^ 52
    omega
   ·subst h0;show 0*2 ^ 52+M < 2047*2 ^ 52;omega
  refine ⟨E*2 ^ 52+M,?_,by omega,hlt,?_⟩
  ·have:=mul_pow hw (k:=(p:Int)) (by omega) (by omega) hm hM hn (.inl ⟨by omega,by rw [<-he];congr 2⟩)
   rw [this,Nat.min_eq_left (Nat.le_of_lt hlt)]
  ·obtain ⟨e1,e2⟩:=TN hM hn
   have:val (E*2 ^ 52+M)=M*2 ^ E:=by unfold val;rw [e1,e2]
   rw [this,<-he,ec]
   unfold val
   rw [Nat.mul_assoc,<-Nat.pow_add]
 rcases Fy w with h52 | hE
 ·exact key (mw w) (ew w+p) (BB w) (.inl h52) hm rfl
 ·by_cases h52:2 ^ 52<=mw w
  ·exact key (mw w) (ew w+p) (BB w) (.inl h52) hm rfl
  ·have hL:(mw w).log2 < 52:=(Nat.log2_lt hm).2 (by omega)
   obtain ⟨b1,b2⟩:=(Nat.log2_eq_iff hm).1 rfl
   by_cases hs:(mw w).log2+p<=52
   ·refine key (mw w*2 ^ p) 0 ?_ (.inr rfl) (Nat.mul_ne_zero hm (Nat.ne_of_gt (Nat.two_pow_pos _))) (by rw [hE];simp)
    calc mw w*2 ^ p < 2 ^ ((mw w).log2+1)*2 ^ p:=Nat.mul_lt_mul_of_pos_right b2 (Nat.two_pow_pos _)
     _=2 ^ ((mw w).log2+1+p):=(Nat.pow_add _ _ _).symm
     _<=2 ^ 53:=Nat.pow_le_pow_right (by decide) (by omega)
   ·refine key (mw w*2 ^ (52 - (mw w).log2)) (p - (52 - (mw w).log2)) ?_ (.inl ?_) (Nat.mul_ne_zero hm (Nat.ne_of_gt (Nat.two_pow_pos _))) ?_
    ·calc mw w*2 ^ (52 - (mw w).log2) < 2 ^ ((mw w).log2+1)*2 ^ (52 - (mw w).log2):=Nat.mul_lt_mul_of_pos_right b2 (Nat.two_pow_pos _)
      _=2 ^ ((mw w).log2+1+(52 - (mw w).log2)):=(Nat.pow_add _ _ _).symm
      _<=2 ^ 53:=Nat.pow_le_pow_right (by decide) (by omega)
    ·calc 2 ^ 52=2 ^ ((mw w).log2+(52 - (mw w).log2)):=by congr 1;omega
      _=2 ^ (mw w).log2*2 ^ (52 - (mw w).log2):=Nat.pow_add _ _ _
      _<=mw w*2 ^ (52 - (mw w).log2):=Nat.mul_le_mul_right _ b1
    ·rw [hE,Nat.mul_assoc,<-Nat.pow_add]
     congr 2;omega
def dn (f p:Nat):Nat:=f - p*2 ^ 52
theorem WV {w p:Nat} (h1:1<=p) (hp:p<=1022) (hge:pw p<=w) (hw:w < fInf):double.mul w (pw (-(p:Int)))=some (dn w p)/\val w=val (dn w p)*P2 p/\pw 0<=dn w p:=by
 unfold dn
 rw [ec]
 have hge':(1023+p)*2 ^ 52<=w:=by rw [<-M6];exact hge
 have he:ew w=ew (w - p*2 ^ 52)+p:=by unfold ew;omega
 have hm:mw w=mw (w - p*2 ^ 52):=by unfold mw;rw [if_neg (by omega),if_neg (by omega)];omega
 have hs:=tt (w:=w - p*2 ^ 52)
 have hlt:w < 2047*2 ^ 52:=hw
 refine ⟨?_,?_,by have:=Ox;omega⟩
 ·have h52:2 ^ 52<=mw (w - p*2 ^ 52):=by unfold mw;rw [if_neg (by omega)];omega
  have hne:mw w≠0:=by rw [hm];omega
  have hex:((ew w:Int)+ -(p:Int)).toNat=ew (w - p*2 ^ 52):=by omega
  have:=mul_pow hw (k:= -(p:Int)) (by omega) (by omega) hne (BB (w - p*2 ^ 52)) (E:=ew (w - p*2 ^ 52)) (.inl h52) (.inl ⟨by omega,by rw [hex,hm]⟩)
  rw [this,<-hs,Nat.min_eq_left (by omega)]
 ·unfold val
  rw [hm,he,Nat.pow_add,Nat.mul_assoc]
theorem HZ {a b c:Nat} (h:double.mul a b=some c):aa .mul (.flt .f64 a) (.flt .f64 b)=some (.flt .f64 c):=by
 show (double.mul a b).map (IV.flt .f64)=_
 rw [h];rfl
theorem PI {w k:Nat} (hw:w < fInf) (hk:k < 2 ^ 64) (hv:val w=k*P2 1074):zk .u64 (.flt .f64 w)=some (.int .u64 (k:Int)):=by
 have hint:(FloatKind.f64.decode w).toInt .zero=some (k:Int):=by
  show (double.read w).toInt .zero=_
  rw [pr hw]
  unfold Datum.toInt Datum.integral
  simp only [signed,Bool.false_eq_true,if_false,Nat.shiftLeft_zero]
  congr 1
  have:Toward.zero.cut false (mw w <<< ((ew w:Int) - 1074).toNat) (-((ew w:Int) - 1074)).toNat=k:=by
   unfold val at hv
   by_cases he:1074<=ew w
   ·have e1:(-((ew w:Int) - 1074)).toNat=0:=by omega
    have e2:ew w=((ew w:Int) - 1074).toNat+1074:=by omega
    have e3:2 ^ ew w=2 ^ ((ew w:Int) - 1074).toNat*P2 1074:=by
     have:=eA ((ew w:Int) - 1074).toNat 1074
     rw [<-e2,ec,ec (((ew w:Int) - 1074).toNat)] at this
     exact this
    rw [e1,Nat.shiftLeft_eq]
    rw [e3,<-Nat.mul_assoc] at hv
    rw [Nat.eq_of_mul_eq_mul_right (tU 1074) hv]
    unfold Toward.cut
    simp [Nat.mod_one]
   ·have e1:((ew w:Int) - 1074).toNat=0:=by omega
    rw [e1,Nat.shiftLeft_zero]
    have e2:1074=(-((ew w:Int) - 1074)).toNat+ew w:=by omega
    have hm:mw w=k*2 ^ (-((ew w:Int) - 1074)).toNat:=by
     refine Nat.eq_of_mul_eq_mul_right (Nat.two_pow_pos (ew w)) ?_
     rw [hv,Nat.mul_assoc,<-Nat.pow_add,<-ec,<-e2]
    rw [hm]
    by_cases hk0:k=0
    ·subst hk0
     simp [Toward.cut]
    ·exact Lo .zero (.inr rfl) hk0
  rw [this]
 simp only [zk,hint]
 rw [if_pos]
 constructor
 ·show (0:Int)<=_;omega
 ·show (k:Int)<=2 ^ 64 - 1;omega
end Go.AM
namespace Go.AM
open Ieee
theorem WL {a:Nat} (h:a < 2 ^ 64):IntKind.u64.wrap (a:Int)=(a:Int):=by
 have e:(a:Int) % (2 ^ 64:Int)=(a:Int):=Int.emod_eq_of_lt (by omega) (by omega)
 unfold IntKind.wrap
 show (if (false&&decide (((a:Int) % (2 ^ 64:Int))>=(2 ^ 63:Int)))=true then ((a:Int) % (2 ^ 64:Int)) - (2 ^ 64:Int) else ((a:Int) % (2 ^ 64:Int)))=_
 rw [e];simp
theorem sA {a b:Nat} (h:a+b < 2 ^ 64):aa .add (.int .u64 (a:Int)) (.int .u64 (b:Int))=some (.int .u64 ((a+b:Nat):Int)):=by
 simp only [aa,il,if_true]
 rw [show (a:Int)+(b:Int)=((a+b:Nat):Int) by omega,WL h]
theorem Vt {a b:Nat} (hb:b<=a) (h:a < 2 ^ 64):aa .sub (.int .u64 (a:Int)) (.int .u64 (b:Int))=some (.int .u64 ((a - b:Nat):Int)):=by
 simp only [aa,il,if_true]
 rw [show (a:Int) - (b:Int)=((a - b:Nat):Int) by omega,WL (by omega)]
theorem Ly {a b:Nat} {k:IntKind} (hb:b<=64) (h:a*2 ^ b < 2 ^ 64):aa .shl (.int .u64 (a:Int)) (.int k (b:Int))=some (.int .u64 ((a*2 ^ b:Nat):Int)):=by
 simp only [aa]
 rw [if_neg (by omega)]
 have e:min ((b:Int).toNat) IntKind.u64.bits=b:=by show min _ 64=b;omega
 rw [e]
 have e2:(a:Int)*2 ^ b=((a*2 ^ b:Nat):Int):=by rw [Int.natCast_mul,Int.natCast_pow];rfl
 rw [e2,WL h]
theorem abn {w p:Nat} (hw:w < fInf):dn w p < fInf:=Nat.lt_of_le_of_lt (Nat.sub_le _ _) hw
theorem XG {w:Nat} (h:w < fInf):val w < P2 2098:=by
 unfold val
 have h1:ew w<=2045:=by have:w < 2047*2 ^ 52:=h;unfold ew;omega
 calc mw w*2 ^ ew w < 2 ^ 53*2 ^ ew w:=Nat.mul_lt_mul_of_pos_right (BB w) (Nat.two_pow_pos _)
  _=P2 (53+ew w):=by rw [ec];exact (Nat.pow_add _ _ _).symm
  _<=P2 2098:=Yy (by omega)
theorem S2 {w w':Nat}:val w<=val w'↔w<=w':=by
 have:=tP (w:=w') (w':=w);omega
structure SpI (f0 f:Nat) (n:Int):Prop where
 pos:0 < f
 fin:f < fInf
 lo: -1074<=n
 hi:n<=1023
 eq:val f*P2 (n+2000).toNat=val f0*P2 2000
theorem LZ {k:Int} (h:k<=1023):pw k < fInf:=by unfold pw;show _ < 2047*2 ^ 52;omega
theorem LB:(4611686018427387904:Nat)=pw ((1:Nat):Int):=by decide
theorem ZE:(4602678819172646912:Nat)=pw (-((1:Nat):Int)):=by decide
theorem RN:(4607182418800017408:Nat)=pw 0:=by decide
end Go.AM
namespace Go.AM
open Ieee
theorem Wo (w:Nat):val w=mw w*P2 (ew w):=by unfold val;rw [ec]
theorem WB {M E:Nat} (hM:M < 2 ^ 53) (hn:2 ^ 52<=M\/E=0):val (E*2 ^ 52+M)=M*P2 E:=by
 obtain ⟨e1,e2⟩:=TN hM hn
 rw [Wo,e1,e2]
theorem TE {g:Nat} (h1:pw 0<=g) (h2:g < pw 1):ew g=1022/\2 ^ 52<=mw g/\mw g < 2 ^ 53/\val g=mw g*P2 1022:=by
 have e1:=Ox
 have e2:=Wv
 have he:ew g=1022:=by unfold ew;omega
 have hm:2 ^ 52<=mw g:=by unfold mw;rw [if_neg (by omega)];omega
 refine ⟨he,hm,BB g,?_⟩
 rw [Wo,he]
theorem WY {f:Nat} (h:f < 2 ^ 52):val f=f:=by
 have he:=Xv h
 unfold val mw
 rw [if_pos h,he];omega
theorem X4 {f k:Nat} (h:val f=k) (hk:k < 2 ^ 52):f < 2 ^ 52/\f=k:=by
 have h1:val (2 ^ 52)=2 ^ 52:=by decide
 have h2:f < 2 ^ 52:=tP.1 (by rw [h,h1];exact hk)
 exact ⟨h2,by rw [<-h,WY h2]⟩
theorem Vl {w:Nat} (hw:w < fInf):double.order w fInf=some .lt/\double.order fInf w=some .gt:=by
 have hr:double.read fInf= .infinity false:=by decide
 unfold Format.order
 rw [pr hw,hr]
 exact ⟨rfl,rfl⟩
theorem mul_two {w:Nat} (h0:0 < w) (hw:w < fInf): ∃c,aa .mul (.flt .f64 w) (.flt .f64 4611686018427387904)=some (.flt .f64 c)/\aa .eql (.flt .f64 w) (.flt .f64 c)=some (.bool false)/\aa .eql (.flt .f64 c) (.flt .f64 w)=some (.bool false):=by
 rw [LB]
 by_cases hv:val w*P2 1 < P2 2098
 ·obtain ⟨c,c1,c2,c3,c4⟩:=Su h0 hw (show 1<=1023 by omega) (Nat.le_refl _) hv
  have hne:w≠c:=by
   intro e
   have hp:=Yj h0
   have h21:P2 1=2:=by rw [ec]
   rw [h21,<-e] at c4
   omega
  exact ⟨c,HZ c1,by rw [GA hw c3,decide_eq_false hne],by rw [GA c3 hw,decide_eq_false (Ne.symm hne)]⟩
 ·have hlt:P2 2098 < P2 (54+ew w):=by
   calc P2 2098<=val w*P2 1:=Nat.le_of_not_lt hv
    _ < P2 53*P2 (ew w)*P2 1:=by
      refine Nat.mul_lt_mul_of_pos_right ?_ (tU 1)
      rw [Wo]
      refine Nat.mul_lt_mul_of_pos_right ?_ (tU _)
      rw [ec];exact BB w
    _=P2 (54+ew w):=by
     have:54+ew w=53+ew w+1:=by omega
     rw [this,eA (53+ew w) 1,eA 53 (ew w)]
  have he:=Wp hlt
  have hs:=tt (w:=w)
  have hm:2 ^ 52<=mw w:=by rcases Fy w with h | h<;>omega
  have hml:=BB w
  have hmul:=mul_pow hw (k:=((1:Nat):Int)) (by omega) (by omega) (by omega) hml (E:=ew w+1) (.inl hm) (.inl ⟨by omega,by congr 2⟩)
  have hge:2047*2 ^ 52<=(ew w+1)*2 ^ 52+mw w:=by omega
  rw [Nat.min_eq_right hge] at hmul
  obtain ⟨o1,o2⟩:=Vl hw
  refine ⟨fInf,HZ hmul,?_,?_⟩
  ·show some (IV.bool (double.order w fInf==some .eq))=_
   rw [o1];rfl
  ·show some (IV.bool (double.order fInf w==some .eq))=_
   rw [o2];rfl
theorem Qk {w:Nat} (h:w < 2047*2 ^ 52):double.read (2 ^ 63+w)= .number true (mw w) ((ew w:Int) - 1074):=by
 unfold Format.read
 simp only [Sl,FC,Fs,MI]
 have h1:(2 ^ 63+w) / 2 ^ 63=1:=by omega
 have h2:(2 ^ 63+w) % 2 ^ 63=w:=by omega
 rw [h1,h2]
 unfold mw ew
 by_cases hs:w < 2 ^ 52
 ·rw [if_pos hs,if_pos hs,show w / 2 ^ 52 - 1=0 by omega];rfl
 ·rw [if_neg hs,if_pos h,if_neg hs]
  have e:(-1074:Int)+((w / 2 ^ 52 - 1:Nat):Int)=((w / 2 ^ 52 - 1:Nat):Int) - 1074:=by omega
  rw [e];rfl
theorem Vx {w:Nat} (h0:0 < w) (h:w < fInf):double.order (2 ^ 63+w) 0=some .lt:=by
 have hz:double.read 0= .number false 0 (-1074):=by decide
 unfold Format.order
 rw [Qk h,hz]
 show some (compare (signed true (mw w) _) (signed false 0 _))=_
 congr 1
 have hm:=VE h0
 unfold signed
 simp only [if_true,Bool.false_eq_true,if_false,Nat.zero_shiftLeft,Nat.shiftLeft_eq]
 have hp:0 < mw w*2 ^ ((ew w:Int) - 1074 - min ((ew w:Int) - 1074) (-1074)).toNat:=Nat.mul_pos (by omega) (Nat.two_pow_pos _)
 generalize mw w*2 ^ ((ew w:Int) - 1074 - min ((ew w:Int) - 1074) (-1074)).toNat=x at hp
 simp only [compare,compareOfLessAndEq]
 rw [if_pos (by omega)]
theorem VI {w:Nat} (h:w < 2 ^ 63):(2 ^ 63+w) ^^^ 2 ^ 63=w:=by
 refine Nat.eq_of_testBit_eq fun i=> ?_
 rw [Nat.testBit_xor,Nat.testBit_two_pow]
 rcases Nat.lt_trichotomy i 63 with hi | rfl | hi
 ·rw [Nat.testBit_two_pow_add_gt hi]
  simp [show ¬63=i by omega]
 ·rw [Nat.testBit_two_pow_add_eq,Nat.testBit_lt_two_pow h];rfl
 ·rw [Nat.testBit_lt_two_pow (Nat.lt_of_lt_of_le (show 2 ^ 63+w < 2 ^ 64 by omega) (Nat.pow_le_pow_right (by decide) hi)),Nat.testBit_lt_two_pow (Nat.lt_of_lt_of_le h (Nat.pow_le_pow_right (by decide) (by omega)))]
  simp [show ¬63=i by omega]
theorem VK {w:Nat} (h:w < 2 ^ 63):rI .neg (.flt .f64 (2 ^ 63+w))=some (.flt .f64 w):=by
 show some (IV.flt .f64 ((2 ^ 63+w) ^^^ 2 ^ 63))=_
 rw [VI h]
theorem Xu {w:Nat} (h:fInf < w % 2 ^ 63): ∃s t,double.read w= .nan s t:=by
 unfold Format.read
 simp only [Sl,FC,Fs,MI]
 have h':2047*2 ^ 52 < w % 2 ^ 63:=h
 rw [if_neg (by omega),if_neg (by omega),if_neg (by omega)]
 exact ⟨_,_,rfl⟩
theorem UF {w x:Nat} (h:fInf < w % 2 ^ 63):double.order w x=none:=by
 obtain ⟨s,t,e⟩:=Xu h
 unfold Format.order
 rw [e];rfl
def uf (w:Nat):Nat:=if fInf < w % 2 ^ 63 then 9221120237041090560 else w
theorem Yc (w:Nat) (h:w < 2 ^ 64):fInf < w % 2 ^ 63\/w=0\/w=2 ^ 63\/w=fInf\/w=2 ^ 63+fInf\/(0 < w/\w < fInf)\/ ∃x,w=2 ^ 63+x/\0 < x/\x < fInf:=by
 show 2047*2 ^ 52 < _\/_\/_\/w=2047*2 ^ 52\/w=2 ^ 63+2047*2 ^ 52\/(_/\w < 2047*2 ^ 52)\/ ∃x,_/\_/\x < 2047*2 ^ 52
 by_cases h1:w < 2 ^ 63
 ·omega
 ·have:w=2 ^ 63+(w - 2 ^ 63):=by omega
  by_cases h2:0 < w - 2 ^ 63/\w - 2 ^ 63 < 2047*2 ^ 52
  ·exact .inr (.inr (.inr (.inr (.inr (.inr ⟨w - 2 ^ 63,this,h2⟩)))))
  ·omega
end Go.AM
namespace Go.AM
open Ieee
structure ReI (f0 f e:Nat):Prop where
 pos:0 < f
 fin:f < fInf
 lo:1<=e
 hi:e<=2046
 eq:val f*P2 (e+977)=val f0*P2 2000
theorem ReI.down {f0 f e:Nat} (h:ReI f0 f e) (h0:f0 < fInf) (hge:pw ((1:Nat):Int)<=f):double.mul f (pw (-((1:Nat):Int)))=some (dn f 1)/\ReI f0 (dn f 1) (e+1)/\pw 0<=dn f 1:=by
 obtain ⟨a1,a2,a3⟩:=WV (Nat.le_refl 1) (by omega) hge h.fin
 have hz:=Ox
 have hfin:=abn (p:=1) h.fin
 have hpos:0 < dn f 1:=by omega
 have e1:e+1+977=1+(e+977):=by omega
 have heq:val (dn f 1)*P2 (e+1+977)=val f0*P2 2000:=by
  rw [e1,eA,<-Nat.mul_assoc,<-a2];exact h.eq
 have hb:P2 (1074+(e+1+977)) < P2 4098:=by
  calc P2 (1074+(e+1+977))=val (pw 0)*P2 (e+1+977):=by rw [FA (by omega),eA];rfl
   _<=val (dn f 1)*P2 (e+1+977):=Nat.mul_le_mul_right _ (S2.2 a3)
   _=val f0*P2 2000:=heq
   _ < P2 2098*P2 2000:=Nat.mul_lt_mul_of_pos_right (XG h0) (tU _)
   _=P2 4098:=(eA 2098 2000).symm
 have:=Wp hb
 exact ⟨a1,⟨hpos,hfin,by omega,by omega,heq⟩,a3⟩
theorem ReI.up {f0 f e:Nat} (h:ReI f0 f e) (he:1 < e) (hlt:f < pw 0): ∃c,double.mul f (pw ((1:Nat):Int))=some c/\ReI f0 c (e - 1)/\c < pw 1:=by
 have hv0:=po hlt
 rw [FA (by omega)] at hv0
 have hv:val f*P2 1 < P2 1075:=by
  calc val f*P2 1 < P2 1074*P2 1:=Nat.mul_lt_mul_of_pos_right hv0 (tU 1)
   _=P2 1075:=(eA 1074 1).symm
 obtain ⟨c,c1,c2,c3,c4⟩:=Su h.pos h.fin (show 1<=1023 by omega) (show 1075<=2098 by omega) hv
 have hhi:=h.hi
 have e1:e+977=1+(e - 1+977):=by omega
 refine ⟨c,c1,⟨c2,c3,by omega,by omega,?_⟩,?_⟩
 ·rw [c4,Nat.mul_assoc,<-eA,<-e1];exact h.eq
 ·rw [<-tP,FA (by omega),c4];exact hv
theorem QD {f0:Nat} (h1:f0 < fInf): ∀(m f e:Nat),ReI f0 f e->f / 2 ^ 52 < m-> ∃f' e',iter m cU [.flt .f64 f,.int .u64 (e:Int)]=some (0,[.flt .f64 f',.int .u64 ((e':Nat):Int)])/\ReI f0 f' e'/\f' < pw 1
 | 0,f,e,_,hm=>by omega
 | m+1,f,e,h,hm=>by
   have hlo:=h.lo
   have hhi:=h.hi
   by_cases hge:pw ((1:Nat):Int)<=f
   ·obtain ⟨a1,a2,a3⟩:=h.down h1 hge
    have hf:cU [.flt .f64 f,.int .u64 (e:Int)]=some (.next [.flt .f64 (dn f 1),.int .u64 ((e+1:Nat):Int)]):=by
     unfold cU
     rw [ag,aC,LB,WS h.fin (LZ (show ((1:Nat):Int)<=1023 by decide)),Option.bind_some,decide_eq_true hge,aj,ZE,HZ a1,Option.bind_some,show (IV.int .u64 1)= .int .u64 ((1:Nat):Int) from rfl,sA (by omega),Option.bind_some]
    have hge':1024*2 ^ 52<=f:=by have:=M6 1;omega
    have hdn:dn f 1 / 2 ^ 52 < m:=by unfold dn;omega
    obtain ⟨f',e',g1,g2,g3⟩:=QD h1 m (dn f 1) (e+1) a2 hdn
    exact ⟨f',e',by simp only [iter,hf,Option.bind_some];exact g1,g2,g3⟩
   ·have hf:cU [.flt .f64 f,.int .u64 (e:Int)]=some (.done 0 [.flt .f64 f,.int .u64 (e:Int)]):=by
     unfold cU
     rw [ag,aC,LB,WS h.fin (LZ (show ((1:Nat):Int)<=1023 by decide)),Option.bind_some,decide_eq_false hge,aF]
    exact ⟨f,e,by simp only [iter,hf,Option.bind_some],h,Nat.lt_of_not_le hge⟩
theorem Hb {f0:Nat}: ∀(m f e:Nat),ReI f0 f e->f < pw 1->e < m-> ∃f' e',iter m bX [.flt .f64 f,.int .u64 (e:Int)]=some (0,[.flt .f64 f',.int .u64 ((e':Nat):Int)])/\ReI f0 f' e'/\f' < pw 1/\(pw 0<=f'\/(f' < pw 0/\e'=1))
 | 0,f,e,_,_,hm=>by omega
 | m+1,f,e,h,hlt2,hm=>by
   have hlo:=h.lo
   have hhi:=h.hi
   have hcmp:aa .gtr (.int .u64 (e:Int)) (.int .u64 1)=some (.bool (decide (1 < e))):=by
    rw [sP];congr 2;exact decide_eq_decide.2 (by omega)
   by_cases hlt:f < pw 0
   ·by_cases he:1 < e
    ·obtain ⟨c,c1,c2,c3⟩:=h.up he hlt
     have hf:bX [.flt .f64 f,.int .u64 (e:Int)]=some (.next [.flt .f64 c,.int .u64 ((e - 1:Nat):Int)]):=by
      unfold bX
      rw [ag,aC,RN,Il h.fin (LZ (show (0:Int)<=1023 by decide)),Option.bind_some,decide_eq_true hlt,aj,hcmp,Option.bind_some,Option.bind_some,ag,decide_eq_true he,aj,LB,HZ c1,Option.bind_some,show (IV.int .u64 1)= .int .u64 ((1:Nat):Int) from rfl,Vt (by omega) (by omega),Option.bind_some]
     obtain ⟨f',e',g1,g2,g3⟩:=Hb m c (e - 1) c2 c3 (by omega)
     exact ⟨f',e',by simp only [iter,hf,Option.bind_some];exact g1,g2,g3⟩
    ·have hf:bX [.flt .f64 f,.int .u64 (e:Int)]=some (.done 0 [.flt .f64 f,.int .u64 (e:Int)]):=by
      unfold bX
      rw [ag,aC,RN,Il h.fin (LZ (show (0:Int)<=1023 by decide)),Option.bind_some,decide_eq_true hlt,aj,hcmp,Option.bind_some,Option.bind_some,ag,decide_eq_false he,aF]
     exact ⟨f,e,by simp only [iter,hf,Option.bind_some],h,hlt2,.inr ⟨hlt,by omega⟩⟩
   ·have hf:bX [.flt .f64 f,.int .u64 (e:Int)]=some (.done 0 [.flt .f64 f,.int .u64 (e:Int)]):=by
     unfold bX
     rw [ag,aC,RN,Il h.fin (LZ (show (0:Int)<=1023 by decide)),Option.bind_some,decide_eq_false hlt,aF,Option.bind_some,ag,aF]
    exact ⟨f,e,by simp only [iter,hf,Option.bind_some],h,hlt2,.inl (Nat.le_of_not_lt hlt)⟩
theorem abV {f:Nat} (hf:f < fInf) (hv:val f*P2 1 < P2 2000): ∃c,double.mul f (pw ((1:Nat):Int))=some c/\c < fInf/\val c=val f*P2 1:=by
 rcases Nat.eq_zero_or_pos f with h | h
 ·subst h
  refine ⟨0,?_,by show 0 < 2047*2 ^ 52;omega,by rw [val_zero];omega⟩
  rw [<-LB];decide
 ·obtain ⟨c,c1,_,c3,c4⟩:=Su h hf (show 1<=1023 by omega) (show 2000<=2098 by omega) hv
  exact ⟨c,c1,c3,c4⟩
theorem SL: ∀(m i f:Nat),i<=52->52 - i < m->f < fInf->val f*P2 (52 - i) < P2 2000-> ∃c,iter m bH [.flt .f64 f,.int .i64 (i:Int)]=some (0,[.flt .f64 c])/\c < fInf/\val c=val f*P2 (52 - i)
 | 0,i,f,_,hm,_,_=>by omega
 | m+1,i,f,hi,hm,hf,hv=>by
   have hcmp:aa .lss (.int .i64 (i:Int)) (.int .i64 52)=some (.bool (decide (i < 52))):=by
    rw [aJ];congr 2;exact decide_eq_decide.2 (by omega)
   by_cases h:i < 52
   ·have e1:52 - i=1+(52 - (i+1)):=by omega
    have hv1:val f*P2 1 < P2 2000:=Nat.lt_of_le_of_lt (Nat.mul_le_mul_left _ (Yy (by omega))) hv
    obtain ⟨c,c1,c2,c3⟩:=abV hf hv1
    have hstep:bH [.flt .f64 f,.int .i64 (i:Int)]=some (.next [.flt .f64 c,.int .i64 ((i+1:Nat):Int)]):=by
     unfold bH
     rw [ag,aC,hcmp,Option.bind_some,decide_eq_true h,aj,LB,HZ c1,Option.bind_some,aL (by omega),Option.bind_some]
    have hv2:val c*P2 (52 - (i+1)) < P2 2000:=by rw [c3,Nat.mul_assoc,<-eA,<-e1];exact hv
    obtain ⟨d,d1,d2,d3⟩:=SL m (i+1) c (by omega) (by omega) c2 hv2
    refine ⟨d,by simp only [iter,hstep,Option.bind_some];exact d1,d2,?_⟩
    rw [d3,c3,Nat.mul_assoc,<-eA,<-e1]
   ·have hstep:bH [.flt .f64 f,.int .i64 (i:Int)]=some (.done 0 [.flt .f64 f]):=by
     unfold bH
     rw [ag,aC,hcmp,Option.bind_some,decide_eq_false h,aF]
    refine ⟨f,by simp only [iter,hstep,Option.bind_some],hf,?_⟩
    have:52 - i=0:=by omega
    rw [this,ec];omega
theorem XN {x:Nat} (h0:0 < x) (h:x < 2 ^ 52): ∃M j,M < 2 ^ 53/\2 ^ 52<=M/\j<=52/\M=x*2 ^ j:=by
 obtain ⟨b1,b2⟩:=(Nat.log2_eq_iff (show x≠0 by omega)).1 rfl
 have hL:x.log2 < 52:=(Nat.log2_lt (by omega)).2 h
 have e1:P2 (x.log2+1)*P2 (52 - x.log2)=P2 53:=by rw [<-eA,show x.log2+1+(52 - x.log2)=53 by omega]
 have e2:P2 x.log2*P2 (52 - x.log2)=P2 52:=by rw [<-eA,show x.log2+(52 - x.log2)=52 by omega]
 rw [ec,ec,ec] at e1 e2
 refine ⟨x*2 ^ (52 - x.log2),52 - x.log2,?_,?_,by omega,rfl⟩
 ·rw [<-e1];exact Nat.mul_lt_mul_of_pos_right b2 (Nat.two_pow_pos _)
 ·rw [<-e2];exact Nat.mul_le_mul_right _ b1
theorem sub_one {f:Nat} (h1:pw 0<=f) (h2:f < pw 1): ∃c,aa .sub (.flt .f64 f) (.flt .f64 4607182418800017408)=some (.flt .f64 c)/\c < fInf/\val c=(mw f - 2 ^ 52)*P2 1022:=by
 obtain ⟨e1,e2,e3,e4⟩:=TE h1 h2
 have hf:f < 2047*2 ^ 52:=by have:=Wv;omega
 have hr:double.read 4607182418800017408= .number false (2 ^ 52) (-52):=by decide
 have hs:double.sub f 4607182418800017408=some (double.nearest (if ((mw f:Int) - 2 ^ 52=0) then false else decide ((mw f:Int) - 2 ^ 52 < 0)) (mw f - 2 ^ 52) (-52)):=by
  unfold Format.sub
  rw [pr hf,hr,e1]
  have hb:min (((1022:Nat):Int) - 1074) (-52)= -52:=by decide
  show ((Datum.sum (.number false (mw f) (((1022:Nat):Int) - 1074)) (.number true (2 ^ 52) (-52))).map double.write)=_
  unfold Datum.sum
  simp only [hb,Option.map_some]
  have z1:(((1022:Nat):Int) - 1074 - -52).toNat=0:=by decide
  have z2:((-52:Int) - -52).toNat=0:=by decide
  rw [z1,z2]
  have ht:signed false (mw f) 0+signed true (2 ^ 52) 0=(mw f:Int) - 2 ^ 52:=by
   unfold signed
   simp only [Bool.false_eq_true,if_false,if_true,Nat.shiftLeft_zero]
   omega
  rw [ht]
  have hn:((mw f:Int) - 2 ^ 52).natAbs=mw f - 2 ^ 52:=by omega
  rw [hn]
  unfold Format.write
  simp only [Bool.false_and]
 have hneg:(if ((mw f:Int) - 2 ^ 52=0) then false else decide ((mw f:Int) - 2 ^ 52 < 0))=false:=by
  split
  ·rfl
  ·exact decide_eq_false (by omega)
 rw [hneg] at hs
 have hsub: ∀c,double.nearest false (mw f - 2 ^ 52) (-52)=c->aa .sub (.flt .f64 f) (.flt .f64 4607182418800017408)=some (.flt .f64 c):=fun c hc=>by
  show (double.sub f 4607182418800017408).map (IV.flt .f64)=_
  rw [hs,hc];rfl
 generalize hx:mw f - 2 ^ 52=x at*
 have hx52:x < 2 ^ 52:=by omega
 rcases Nat.eq_zero_or_pos x with h0 | h0
 ·subst h0
  refine ⟨0,hsub 0 (by decide),by show 0 < 2047*2 ^ 52;omega,by rw [val_zero];omega⟩
 ·obtain ⟨M,j,m1,m2,hj,hM⟩:=XN h0 hx52
  have h3:x*P2 1022=M*P2 (1022 - j):=by
   rw [hM,<-ec,Nat.mul_assoc,<-eA,show j+(1022 - j)=1022 by omega]
  have hplace:((-52:Int)+1074).toNat=1022:=by decide
  have hnear:=yy (mag:=x) (place:= -52) (by omega) m1 (E:=1022 - j) (.inl m2) (.inl ⟨by decide,by rw [<-ec,<-ec (1022 - j),hplace,h3]⟩)
  have hc:(1022 - j)*2 ^ 52+M<=2047*2 ^ 52:=by omega
  have hc2:(1022 - j)*2 ^ 52+M < 2047*2 ^ 52:=by omega
  rw [Nat.min_eq_left hc] at hnear
  exact ⟨_,hsub _ hnear,hc2,by rw [WB m1 (.inl m2),h3]⟩
theorem acb:so=cU:=rfl
theorem abq:se=bX:=rfl
theorem aaw:sD=bH:=rfl
theorem abD:sa=bH:=rfl
theorem aa6:sk=bH:=rfl
theorem QB {f0 S:Nat} (hS:S=0\/S=2 ^ 63) (h0:0 < f0) (hf:f0 < fInf):((iter rounds (cU) [.flt .f64 f0,(.int .u64 1023)]).bind fun v14=>
  iA v14.1 [(iter rounds (bX) [(nth v14.2 0),(nth v14.2 1)]).bind fun v21=>
  iA v21.1 [(aa .lss (nth v21.2 0) (.flt .f64 4607182418800017408)).bind fun v22=>
  af v22 (fun _=>
  (iter rounds (bH) [(nth v21.2 0),(.int .i64 0)]).bind fun v27=>
  iA v27.1 [(aa .shl (.int .u64 0) (.int .u64 52)).bind fun v28=>
  (aa .add (.int .u64 (S:Int)) v28).bind fun v29=>
  (zk .u64 (nth v27.2 0)).bind fun v30=>
  (aa .add v29 v30).bind fun v31=>
  ai [v31]]) (fun _=>
  (aa .sub (nth v21.2 0) (.flt .f64 4607182418800017408)).bind fun v32=>
  (iter rounds (bH) [v32,(.int .i64 0)]).bind fun v37=>
  iA v37.1 [(aa .shl (nth v21.2 1) (.int .u64 52)).bind fun v38=>
  (aa .add (.int .u64 (S:Int)) v38).bind fun v39=>
  (zk .u64 (nth v37.2 0)).bind fun v40=>
  (aa .add v39 v40).bind fun v41=>
  ai [v41]])]])=some [.int .u64 ((S+f0:Nat):Int)]:=by
 have hr:rounds=1000000:=rfl
 have hf':f0 < 2047*2 ^ 52:=hf
 have hI:ReI f0 f0 1023:=⟨h0,hf,by omega,by omega,rfl⟩
 obtain ⟨f1,e1,a1,a2,a3⟩:=QD hf rounds f0 1023 hI (by omega)
 obtain ⟨g,e,b1,b2,b3,b4⟩:=Hb rounds f1 e1 a2 a3 (by have:=a2.hi;omega)
 have hlo:=b2.lo
 have hhi:=b2.hi
 have hz:aa .shl (.int .u64 0) (.int .u64 52)=some (.int .u64 ((0:Nat):Int)):=by
  have:=Ly (k:= .u64) (a:=0) (b:=52) (by omega) (by rw [Nat.zero_mul];exact Nat.two_pow_pos 64)
  rw [Nat.zero_mul] at this
  exact this
 rw [show (IV.int .u64 1023)= .int .u64 ((1023:Nat):Int) from rfl,a1,Option.bind_some,jO,ag,aC,b1,Option.bind_some,jO,ag,aC,RN,Il b2.fin (LZ (show (0:Int)<=1023 by decide)),Option.bind_some]
 rcases b4 with hge | ⟨hlt,he⟩
 ·obtain ⟨q1,q2,q3,q4⟩:=TE hge b3
  obtain ⟨c,c1,c2,c3⟩:=sub_one hge b3
  have hv:val c*P2 (52 - 0) < P2 2000:=by
   rw [c3,Nat.mul_assoc,<-eA]
   calc (mw g - 2 ^ 52)*P2 (1022+(52 - 0)) < P2 53*P2 (1022+(52 - 0)):=Nat.mul_lt_mul_of_pos_right (by rw [ec];omega) (tU _)
    _=P2 (53+(1022+(52 - 0))):=(eA _ _).symm
    _ < P2 2000:=YA (by omega)
  obtain ⟨d,d1,d2,d3⟩:=SL rounds 0 c (by omega) (by omega) c2 hv
  have hd:zk .u64 (.flt .f64 d)=some (.int .u64 ((mw g - 2 ^ 52:Nat):Int)):=PI d2 (by omega) (by rw [d3,c3,Nat.mul_assoc,<-eA])
  have hf0:f0=(e - 1)*2 ^ 52+mw g:=by
   have hh:=b2.eq
   have e5:1022+(e+977)=(e - 1)+2000:=by omega
   rw [q4,Nat.mul_assoc,<-eA,e5,eA,<-Nat.mul_assoc] at hh
   have hv:=Nat.eq_of_mul_eq_mul_right (tU 2000) hh
   rw [<-WB q3 (.inl q2)] at hv
   exact (val_inj hv).symm
  have hsum:S+f0=S+e*2 ^ 52+(mw g - 2 ^ 52):=by
   have:e*2 ^ 52=(e - 1)*2 ^ 52+2 ^ 52:=by omega
   omega
  have hng: ¬g < pw 0:=Nat.not_lt.2 hge
  have w1:aa .shl (.int .u64 (e:Int)) (.int .u64 52)=some (.int .u64 ((e*2 ^ 52:Nat):Int)):=Ly (b:=52) (by omega) (by omega)
  have w2:aa .add (.int .u64 (S:Int)) (.int .u64 ((e*2 ^ 52:Nat):Int))=some (.int .u64 ((S+e*2 ^ 52:Nat):Int)):=sA (by omega)
  have w3:aa .add (.int .u64 ((S+e*2 ^ 52:Nat):Int)) (.int .u64 ((mw g - 2 ^ 52:Nat):Int))=some (.int .u64 ((S+e*2 ^ 52+(mw g - 2 ^ 52):Nat):Int)):=sA (by omega)
  rw [decide_eq_false hng,aF,<-RN,c1,Option.bind_some,show (IV.int .i64 0)= .int .i64 ((0:Nat):Int) from rfl,d1,Option.bind_some,jO,w1,Option.bind_some,w2,Option.bind_some,ag,hd,Option.bind_some,w3,Option.bind_some,hsum]
  rfl
 ·subst he
  have hh:=b2.eq
  have e5:2000=1022+(1+977):=by omega
  rw [e5,eA 1022,<-Nat.mul_assoc] at hh
  have hv0:=Nat.eq_of_mul_eq_mul_right (tU _) hh
  have hvg:val g < P2 1074:=by have:=po hlt;rw [FA (by omega)] at this;exact this
  have htiny:val f0 < 2 ^ 52:=by
   have h5:val f0*P2 1022 < 2 ^ 52*P2 1022:=by
    calc val f0*P2 1022=val g:=hv0.symm
     _ < P2 1074:=hvg
     _=P2 52*P2 1022:=eA 52 1022
     _=2 ^ 52*P2 1022:=by rw [ec 52]
   exact Nat.lt_of_mul_lt_mul_right h5
  obtain ⟨t1,t2⟩:=X4 (f:=f0) rfl htiny
  have hv:val g*P2 (52 - 0) < P2 2000:=by
   calc val g*P2 (52 - 0) < P2 1074*P2 (52 - 0):=Nat.mul_lt_mul_of_pos_right hvg (tU _)
    _=P2 (1074+(52 - 0)):=(eA _ _).symm
    _ < P2 2000:=YA (by omega)
  obtain ⟨d,d1,d2,d3⟩:=SL rounds 0 g (by omega) (by omega) b2.fin hv
  have hd:zk .u64 (.flt .f64 d)=some (.int .u64 (f0:Int)):=PI d2 (by omega) (by
   rw [d3,hv0,Nat.mul_assoc,<-eA,<-t2])
  have w2:aa .add (.int .u64 (S:Int)) (.int .u64 ((0:Nat):Int))=some (.int .u64 ((S+0:Nat):Int)):=sA (by omega)
  have w3:aa .add (.int .u64 ((S+0:Nat):Int)) (.int .u64 (f0:Int))=some (.int .u64 ((S+0+f0:Nat):Int)):=sA (by omega)
  rw [decide_eq_true hlt,aj,show (IV.int .i64 0)= .int .i64 ((0:Nat):Int) from rfl,d1,Option.bind_some,jO,hz,Option.bind_some,w2,Option.bind_some,ag,hd,Option.bind_some,w3,Option.bind_some]
  rfl
theorem ET {w:Nat} (h0:0 < w) (h:w < fInf):fk (.flt .f64 w)=some [.bool false]:=by
 unfold fk
 rw [Il h (show 0 < fInf by decide),Option.bind_some,decide_eq_false (Nat.not_lt_zero w),aF,GA h (show 0 < fInf by decide),Option.bind_some,decide_eq_false (by omega),aF,Option.bind_some,ag]
 rfl
theorem Ff {w:Nat} (h0:0 < w) (h:w < fInf):fk (.flt .f64 (2 ^ 63+w))=some [.bool true]:=by
 unfold fk
 have:aa .lss (.flt .f64 (2 ^ 63+w)) (.flt .f64 0)=some (.bool true):=by
  show some (IV.bool (double.order (2 ^ 63+w) 0==some .lt))=_
  rw [Vx h0 h];rfl
 rw [this,Option.bind_some,aj,Option.bind_some,ag]
 rfl
theorem S7 {x:Nat} (h:x < fInf):double.order (2 ^ 63+x) (2 ^ 63+x)=some .eq:=by
 unfold Format.order
 rw [Qk h]
 show some (compare _ _)=_
 congr 1
 simp [compare,compareOfLessAndEq]
theorem yZ {w:Nat} (h:w < 2 ^ 64):eG (.flt .f64 w)=some [.int .u64 (uf w:Int)]:=by
 rcases Yc w h with hn | rfl | rfl | rfl | rfl | ⟨h0,hf⟩ | ⟨x,rfl,h0,hf⟩
 ·have e3:aa .neq (.flt .f64 w) (.flt .f64 w)=some (.bool true):=by
   show some (IV.bool (double.order w w !=some .eq))=_
   rw [UF hn];rfl
  unfold eG uf
  rw [e3,Option.bind_some,aj,if_pos hn]
  rfl
 ·kernel_rfl
 ·kernel_rfl
 ·kernel_rfl
 ·kernel_rfl
 ·have hb:uf w=w:=by
   have:w < 2047*2 ^ 52:=hf
   unfold uf;rw [if_neg (by show ¬2047*2 ^ 52 < _;omega)]
  obtain ⟨c,m1,_,m2⟩:=mul_two h0 hf
  have ht:=QB (S:=0) (.inl rfl) h0 hf
  rw [Nat.zero_add] at ht
  unfold eG
  rw [acb,abq,abD,aa6]
  rw [Zn hf hf,Option.bind_some,decide_eq_false (fun hh=>hh rfl),aF,ET h0 hf,Option.bind_some,ag,aF,GA hf (show 0 < fInf by decide),Option.bind_some,decide_eq_false (by omega),aF,m1,Option.bind_some,m2,Option.bind_some,aF,hb]
  exact ht
 ·have hb:uf (2 ^ 63+x)=2 ^ 63+x:=by
   have:x < 2047*2 ^ 52:=hf
   unfold uf;rw [if_neg (by show ¬2047*2 ^ 52 < _;omega)]
  obtain ⟨c,m1,_,m2⟩:=mul_two h0 hf
  have ht:=QB (S:=2 ^ 63) (.inr rfl) h0 hf
  have hx:x < 2 ^ 63:=by have:x < 2047*2 ^ 52:=hf;omega
  have e3:aa .neq (.flt .f64 (2 ^ 63+x)) (.flt .f64 (2 ^ 63+x))=some (.bool false):=by
   show some (IV.bool (double.order (2 ^ 63+x) (2 ^ 63+x)!=some .eq))=_
   rw [S7 hf];rfl
  unfold eG
  rw [aaw]
  rw [e3,Option.bind_some,aF,Ff h0 hf,Option.bind_some,ag,aj,show qR=some [.int .u64 ((2 ^ 63:Nat):Int)] from rfl,Option.bind_some,VK hx,Option.bind_some,GA hf (show 0 < fInf by decide),Option.bind_some,decide_eq_false (by omega),aF,m1,Option.bind_some,m2,Option.bind_some,aF,hb]
  exact ht
end Go.AM
