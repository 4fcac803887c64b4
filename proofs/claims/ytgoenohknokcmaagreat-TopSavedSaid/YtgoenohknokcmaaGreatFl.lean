/- Numbers with a point, plainly: what their words stand for; exact products. -/
import Derived.Test.YtgoenohknokcmaaGreatMk
open Option renaming bind_some->ab,map_some->cd
open Nat renaming mul_lt_mul_of_pos_right->ad,mul_assoc->ao,two_pow_pos->aB,eq_of_mul_eq_mul_right->a1,pow_add->a2,mul_le_mul_right->a5,pow_le_pow_right->a6,shiftLeft_eq->bb,shiftLeft_zero->bd,testBit_lt_two_pow->bm,lt_trichotomy->br,mod_eq_of_lt->bx,log2_eq_iff->bB,mul_ne_zero->bC,mul_le_mul_left->bM,lt_of_mul_lt_mul_right->bO,lt_of_le_of_lt->bR,le_of_not_lt->b0,min_eq_left->b1,mul_div_cancel->b4,lt_of_lt_of_le->b5,eq_zero_or_pos->b6,le_of_lt->b7,lt_of_not_le->ca,log2_lt->cb,le_refl->cc,not_lt_zero->ch,pow_zero->ck,ne_of_gt->cl,zero_add->cv,zero_mul->cO,mod_one->c0,mul_pos->c5,mul_one->c6,one_mul->c7
open Bool renaming false_eq_true->a7
open BitVec renaming ofInt_natCast->a8,toNat_ofNat->bf,ofInt->b3
open Go.IntKind renaming u64->bs
open Go.FloatKind renaming f64->bA
set_option linter.unusedVariables false
set_option linter.unusedSimpArgs false
namespace Go.AM
open Ieee
theorem aeg: ∃f:Nat->Nat,∀k,f k=2 ^ k:=⟨λk=>2 ^ k,λ_=>rfl⟩
 noncomputable def P2:Nat->Nat:=Classical.choose aeg
theorem cV (k:Nat):P2 k=2 ^ k:=Classical.choose_spec aeg k
theorem jk (k:Nat):0 < P2 k:=by rw [cV];exact aB k
theorem bK (a b:Nat):P2 (a+b)=P2 a*P2 b:=by rw [cV,cV,cV];exact a2 2 a b
theorem aaU {a b:Nat} (h:a < b):P2 a < P2 b:=by rw [cV,cV];exact Nat.pow_lt_pow_right (by decide) h
theorem Wz {a b:Nat} (h:a<=b):P2 a<=P2 b:=by rw [cV,cV];exact a6 (by decide) h
theorem LV {a b:Nat} (h:P2 a < P2 b):a < b:=by rw [cV,cV] at h;exact (Nat.pow_lt_pow_iff_right (by decide)).1 h
theorem Se:double.leastPlace= -1074:=by decide
theorem KM:double.binade=2 ^ 52:=by decide
theorem BP:double.infRung=2047*2 ^ 52:=by decide
theorem NJ:double.signWeight=2 ^ 63:=by decide
theorem aft:double.fractionBits=52:=rfl
def mw (w:Nat):Nat:=if w < 2 ^ 52 then w else 2 ^ 52+w % 2 ^ 52
def ew (w:Nat):Nat:=w / 2 ^ 52 - 1
def val (w:Nat):Nat:=mw w*2 ^ ew w
theorem Vc {w:Nat} (h:w < 2 ^ 52):ew w=0:=by unfold ew;omega
theorem ql {w:Nat}:w=ew w*2 ^ 52+mw w:=by
 unfold ew mw
 split
 ·omega
 ·omega
theorem vb (w:Nat):mw w < 2 ^ 53:=by unfold mw;split<;>omega
theorem B3 (w:Nat):2 ^ 52<=mw w\/ew w=0:=by unfold mw ew;split<;>omega
theorem tZ {w:Nat} (h:w < 2047*2 ^ 52):double.read w= .number false (mw w) ((ew w:Int) - 1074):=by
 unfold Format.read
 simp only [NJ,KM,BP,Se]
 have h1:w / 2 ^ 63=0:=by omega
 have h2:w % 2 ^ 63=w:=by omega
 rw [h1,h2]
 unfold mw ew
 by_cases hs:w < 2 ^ 52
 ·rw [if_pos hs,if_pos hs,show w / 2 ^ 52 - 1=0 by omega];rfl
 ·rw [if_neg hs,if_pos h,if_neg hs]
  have e:(-1074:Int)+((w / 2 ^ 52 - 1:Nat):Int)=((w / 2 ^ 52 - 1:Nat):Int) - 1074:=by omega
  rw [e];rfl
theorem sR {n k:Nat} (h:n≠0):(n*2 ^ k).log2=n.log2+k:=by
 have hp:0 < 2 ^ k:=aB k
 rw [bB (bC h (by omega))]
 obtain ⟨h1,h2⟩:=(bB h).1 rfl
 constructor
 ·rw [a2];exact a5 _ h1
 ·rw [show n.log2+k+1=n.log2+1+k by omega,a2];exact ad h2 hp
theorem Qd (n:Nat):Toward.even.cut false n 0=n:=by
 unfold Toward.cut
 simp [c0]
theorem Qs (a:Toward) (hw:a= .even\/a= .zero) {m d:Nat} (hm:m≠0):a.cut false (m*2 ^ d) d=m:=by
 unfold Toward.cut
 have b:min d ((m*2 ^ d).log2+2)=d:=by rw [sR hm];omega
 have hp:0 < 2 ^ d:=aB d
 simp only [b,Nat.one_shiftLeft,b4 _ hp,Nat.mul_mod_left]
 rcases hw with rfl | rfl
 ·have h1: ¬(2 ^ d < 2*0):=by omega
  have h2:(2 ^ d==2*0)=false:=by simp only [Nat.mul_zero,beq_eq_false_iff_ne];omega
  simp [h2]
 ·simp
theorem vM {mag M E:Nat} {place:Int} (b:mag≠0) (m:M < 2 ^ 53) (hn:2 ^ 52<=M\/E=0) (h:(0<=place+1074/\mag*2 ^ (place+1074).toNat=M*2 ^ E)\/(place+1074 < 0/\mag=M*2 ^ E*2 ^ (-(place+1074)).toNat)):
  double.nearest false mag place=min (E*2 ^ 52+M) (2047*2 ^ 52):=by
 have a:M≠0:=by
  intro h0;subst h0
  rcases h with ⟨_,h⟩ | ⟨_,h⟩
  ·have:0 < 2 ^ (place+1074).toNat:=aB _
   have:0 < mag*2 ^ (place+1074).toNat:=c5 (by omega) this
   omega
  ·simp at h;omega
 have i:(mag.log2:Int)+(place+1074)=(M.log2:Int)+E:=by
  rcases h with ⟨h0,h⟩ | ⟨h0,h⟩
  ·have:=congrArg Nat.log2 h
   rw [sR b,sR a] at this
   omega
  ·have:=congrArg Nat.log2 h
   rw [ao,<-a2,sR a] at this
   omega
 have n:M.log2<=52:=by
  have:=(cb a (k:=53)).2 m;omega
 have f:2 ^ 52<=M->M.log2=52:= λh=>by
  have:=(Nat.le_log2 a).2 h;omega
 have d:max (place+(mag.log2:Int) - (52:Nat)) (-1074)=(E:Int) - 1074:=by
  rcases hn with g | l
  ·have:=f g;omega
  ·subst l;omega
 unfold Format.nearest
 rw [if_neg b]
 simp only [aft,Se,KM,BP]
 rw [d]
 have c:Toward.even.cut false (mag <<< (place - ((E:Int) - 1074)).toNat) (((E:Int) - 1074) - place).toNat=M:=by
  by_cases o:(E:Int) - 1074<=place
  ·have hz:(((E:Int) - 1074) - place).toNat=0:=by omega
   rw [hz,Qd,bb]
   rcases h with ⟨h0,h⟩ | ⟨h0,h⟩
   ·have e:(place+1074).toNat=(place - ((E:Int) - 1074)).toNat+E:=by omega
    rw [e,a2,<-ao] at h
    exact a1 (aB E) h
   ·omega
  ·have hz:(place - ((E:Int) - 1074)).toNat=0:=by omega
   rw [hz,bd]
   have:mag=M*2 ^ (((E:Int) - 1074) - place).toNat:=by
    rcases h with ⟨h0,h⟩ | ⟨h0,h⟩
    ·have e:E=(((E:Int) - 1074) - place).toNat+(place+1074).toNat:=by omega
     have j:M*2 ^ E=M*2 ^ (((E:Int) - 1074) - place).toNat*2 ^ (place+1074).toNat:=by
      rw [ao,<-a2,<-e]
     rw [j] at h
     exact a1 (aB _) h
    ·rw [h,ao,<-a2]
     congr 2;omega
   rw [this]
   exact Qs .even (.inl rfl) a
 rw [c]
 have:((E:Int) - 1074 - -1074).toNat=E:=by omega
 rw [this]
 simp only [Format.word,a7,if_false]
theorem Zc {M E:Nat} (a:M < 2 ^ 53) (hn:2 ^ 52<=M\/E=0):mw (E*2 ^ 52+M)=M/\ew (E*2 ^ 52+M)=E:=by
 unfold mw ew
 rcases hn with h | h
 ·constructor
  ·rw [if_neg (by omega)];omega
  ·omega
 ·subst h
  constructor
  ·split<;>omega
  ·omega
def pw (k:Int):Nat:=(1023+k).toNat*2 ^ 52
theorem mul_pow {w:Nat} (hw:w < 2047*2 ^ 52) {k:Int} (h1: -1022<=k) (h2:k<=1023) {M E:Nat} (hm:mw w≠0) (g:M < 2 ^ 53) (hn:2 ^ 52<=M\/E=0)
  (h:(0<=(ew w:Int)+k/\mw w*2 ^ ((ew w:Int)+k).toNat=M*2 ^ E)\/((ew w:Int)+k < 0/\mw w=M*2 ^ E*2 ^ (-((ew w:Int)+k)).toNat)):
  double.mul w (pw k)=some (min (E*2 ^ 52+M) (2047*2 ^ 52)):=by
 have d:pw k < 2047*2 ^ 52:=by unfold pw;omega
 have c:mw (pw k)=2 ^ 52:=by unfold mw pw;rw [if_neg (by omega)];omega
 have b:(ew (pw k):Int)=1022+k:=by unfold ew pw;omega
 unfold Format.mul
 rw [tZ hw,tZ d,c,b]
 show some (double.nearest (false ^^ false) (mw w*2 ^ 52) ((ew w:Int) - 1074+(1022+k - 1074)))=_
 congr 1
 refine vM (bC hm (by decide)) g hn ?_
 have e:(ew w:Int) - 1074+(1022+k - 1074)+1074=(ew w:Int)+k - 52:=by omega
 rw [e]
 rcases h with ⟨h0,h⟩ | ⟨h0,h⟩
 ·by_cases a:0<=(ew w:Int)+k - 52
  ·refine .inl ⟨a,?_⟩
   rw [<-h,ao,<-a2]
   congr 2;omega
  ·refine .inr ⟨by omega,?_⟩
   rw [<-h,ao,<-a2]
   congr 2;omega
 ·refine .inr ⟨by omega,?_⟩
  have f:(-((ew w:Int)+k - 52)).toNat=(-((ew w:Int)+k)).toNat+52:=by omega
  rw [h,f,a2,<-ao]
end Go.AM
namespace Go.AM
open Ieee
abbrev fInf:Nat:=2047*2 ^ 52
theorem ng {w w':Nat} (h:w < w'):val w < val w':=by
 have s1:=ql (w:=w)
 have s2:=ql (w:=w')
 have b:=vb w
 have c:=vb w'
 unfold val
 rcases br (ew w) (ew w') with he | he | he
 ·have a:2 ^ 52<=mw w':=by rcases B3 w' with h | h<;>omega
  calc mw w*2 ^ ew w < 2 ^ 53*2 ^ ew w:=ad b (aB _)
   _=2 ^ 52*2 ^ (ew w+1):=by rw [Nat.pow_succ];omega
   _<=2 ^ 52*2 ^ ew w':=bM _ (a6 (by decide) he)
   _<=mw w'*2 ^ ew w':=a5 _ a
 ·rw [he] at s1 ⊢
  exact ad (by omega) (aB _)
 ·exfalso
  have a:2 ^ 52<=mw w:=by rcases B3 w with h | h<;>omega
  have:(ew w'+1)*2 ^ 52<=ew w*2 ^ 52:=a5 _ he
  omega
theorem qh {w w':Nat}:val w < val w'↔w < w':=by
 constructor
 ·intro h
  rcases br w w' with h1 | h1 | h1
  ·exact h1
  ·subst h1;omega
  ·have:=ng h1;omega
 ·exact ng
theorem val_inj {w w':Nat} (h:val w=val w'):w=w':=by
 rcases br w w' with h1 | h1 | h1
 ·have:=ng h1;omega
 ·exact h1
 ·have:=ng h1;omega
theorem qN {k:Int} (h: -1022<=k):val (pw k)=P2 (1074+k).toNat:=by
 have hm:mw (pw k)=2 ^ 52:=by unfold mw pw;rw [if_neg (by omega)];omega
 have he:ew (pw k)=(1022+k).toNat:=by unfold ew pw;omega
 unfold val
 have e:52+(1022+k).toNat=(1074+k).toNat:=by omega
 rw [hm,he,<-a2,e,cV]
theorem KV (k:Nat):pw (k:Int)=(1023+k)*2 ^ 52:=by
 unfold pw
 congr 1
theorem BU:pw 0=1023*2 ^ 52:=KV 0
theorem acj:pw 1=1024*2 ^ 52:=KV 1
theorem afD {k:Nat} (h:k<=1022):pw (-(k:Int))=(1023 - k)*2 ^ 52:=by
 unfold pw
 congr 1
 omega
theorem val_zero:val 0=0:=by decide
theorem SQ {w:Nat} (h:0 < w):0 < val w:=by have:=ng h;rw [val_zero] at this;exact this
theorem Hi {w:Nat} (h:0 < w):mw w≠0:=by unfold mw;split<;>omega
theorem adR (a b:Nat):compare (a:Int) (b:Int)=compare a b:=by
 simp only [compare,compareOfLessAndEq,Int.ofNat_lt,Int.natCast_inj]
theorem YZ (a b k:Nat) (hk:0 < k):compare (a*k) (b*k)=compare a b:=by
 simp only [compare,compareOfLessAndEq]
 by_cases h:a < b
 ·rw [if_pos h,if_pos (ad h hk)]
 ·have: ¬(a*k < b*k):= λh2=>h (bO h2)
  rw [if_neg h,if_neg this]
  by_cases e:a=b
  ·subst e;simp
  ·have: ¬(a*k=b*k):= λh2=>e (a1 hk h2)
   rw [if_neg e,if_neg this]
theorem ac2 {w w':Nat}:compare (val w) (val w')=compare w w':=by
 simp only [compare,compareOfLessAndEq,qh]
 by_cases e:w=w'
 ·subst e;simp
 ·have: ¬(val w=val w'):= λh=>e (val_inj h)
  rw [if_neg e,if_neg this]
theorem B4 {w w':Nat} (h:w < fInf) (h':w' < fInf):double.order w w'=some (compare w w'):=by
 unfold Format.order
 rw [tZ h,tZ h']
 show some (compare (signed false (mw w) _) (signed false (mw w') _))=_
 congr 1
 rw [<-ac2]
 unfold signed val
 simp only [a7,if_false,bb]
 rw [adR]
 rcases Nat.le_total (ew w) (ew w') with he | he
 ·have a:((ew w:Int) - 1074 - min ((ew w:Int) - 1074) ((ew w':Int) - 1074)).toNat=0:=by omega
  have b:ew w'=((ew w':Int) - 1074 - min ((ew w:Int) - 1074) ((ew w':Int) - 1074)).toNat+ew w:=by omega
  rw [a,<-YZ _ _ (2 ^ ew w) (aB _),ck,c6,ao,<-a2,<-b]
 ·have a:((ew w':Int) - 1074 - min ((ew w:Int) - 1074) ((ew w':Int) - 1074)).toNat=0:=by omega
  have b:ew w=((ew w:Int) - 1074 - min ((ew w:Int) - 1074) ((ew w':Int) - 1074)).toNat+ew w':=by omega
  rw [a,<-YZ _ _ (2 ^ ew w') (aB _),ck,c6,ao,<-a2,<-b]
theorem wh {a b:Nat} (h:a < fInf) (h':b < fInf):aa .lss (.flt .f64 a) (.flt .f64 b)=some (.bool (decide (a < b))):=by
 show some (IV.bool (double.order a b==some .lt))=_
 rw [B4 h h']
 congr 2
 simp only [compare,compareOfLessAndEq]
 by_cases h1:a < b
 ·simp [h1]
 ·by_cases h2:a=b<;>simp [h1,h2]
theorem Mc {a b:Nat} (h:a < fInf) (h':b < fInf):aa .geq (.flt .f64 a) (.flt .f64 b)=some (.bool (decide (b<=a))):=by
 show some (IV.bool (double.order a b==some .gt||double.order a b==some .eq))=_
 rw [B4 h h']
 congr 2
 simp only [compare,compareOfLessAndEq]
 by_cases h1:a < b
 ·have c: ¬b<=a:=by omega
  simp [h1,c]
 ·have c:b<=a:=by omega
  by_cases h2:a=b
  ·subst h2;simp
  ·simp [h1,h2,c]
theorem zI {a b:Nat} (h:a < fInf) (h':b < fInf):aa .eql (.flt .f64 a) (.flt .f64 b)=some (.bool (decide (a=b))):=by
 show some (IV.bool (double.order a b==some .eq))=_
 rw [B4 h h']
 congr 2
 simp only [compare,compareOfLessAndEq]
 by_cases h1:a < b
 ·have c: ¬a=b:=by omega
  simp [h1,c]
 ·by_cases h2:a=b<;>simp [h1,h2]
theorem Yd {a b:Nat} (h:a < fInf) (h':b < fInf):aa .neq (.flt .f64 a) (.flt .f64 b)=some (.bool (decide (a≠b))):=by
 show some (IV.bool (double.order a b !=some .eq))=_
 rw [B4 h h']
 congr 2
 simp only [compare,compareOfLessAndEq]
 by_cases h1:a < b
 ·have c: ¬a=b:=by omega
  simp [h1,c]
 ·by_cases h2:a=b<;>simp [h1,h2]
theorem Ev {w p:Nat} (h0:0 < w) (hw:w < fInf) (hp:p<=1023) {b:Nat} (hb:b<=2098) (hv:val w*P2 p < P2 b): ∃c,double.mul w (pw p)=some c/\0 < c/\c < fInf/\val c=val w*P2 p:=by
 have hm:=Hi h0
 have key: ∀(M E:Nat),M < 2 ^ 53->(2 ^ 52<=M\/E=0)->M≠0->mw w*2 ^ (ew w+p)=M*2 ^ E-> ∃c,double.mul w (pw p)=some c/\0 < c/\c < fInf/\val c=val w*P2 p:= λM E f hn j he=>by
  have d:E*2 ^ 52+M < fInf:=by
   rcases hn with a | h0
   ·have:P2 (52+E) < P2 b:=by
     calc P2 (52+E)=2 ^ 52*2 ^ E:=by rw [cV];exact a2 _ _ _
      _<=M*2 ^ E:=a5 _ a
      _=val w*P2 p:=by rw [<-he,cV];unfold val;rw [ao,<-a2]
      _ < _:=hv
    have:=LV this
    show E*2 ^ 52+M < 2047*2 ^ 52
    omega
   ·subst h0;show 0*2 ^ 52+M < 2047*2 ^ 52;omega
  refine ⟨E*2 ^ 52+M,?_,by omega,d,?_⟩
  ·have:=mul_pow hw (k:=(p:Int)) (by omega) (by omega) hm f hn (.inl ⟨by omega,by rw [<-he];congr 2⟩)
   rw [this,b1 (b7 d)]
  ·obtain ⟨h,i⟩:=Zc f hn
   have:val (E*2 ^ 52+M)=M*2 ^ E:=by unfold val;rw [h,i]
   rw [this,<-he,cV]
   unfold val
   rw [ao,<-a2]
 rcases B3 w with a | e
 ·exact key (mw w) (ew w+p) (vb w) (.inl a) hm rfl
 ·by_cases a:2 ^ 52<=mw w
  ·exact key (mw w) (ew w+p) (vb w) (.inl a) hm rfl
  ·have l:(mw w).log2 < 52:=(cb hm).2 (by omega)
   obtain ⟨g,b2⟩:=(bB hm).1 rfl
   by_cases hs:(mw w).log2+p<=52
   ·refine key (mw w*2 ^ p) 0 ?_ (.inr rfl) (bC hm (cl (aB _))) (by rw [e];simp)
    calc mw w*2 ^ p < 2 ^ ((mw w).log2+1)*2 ^ p:=ad b2 (aB _)
     _=2 ^ ((mw w).log2+1+p):=(a2 _ _ _).symm
     _<=2 ^ 53:=a6 (by decide) (by omega)
   ·refine key (mw w*2 ^ (52 - (mw w).log2)) (p - (52 - (mw w).log2)) ?_ (.inl ?_) (bC hm (cl (aB _))) ?_
    ·calc mw w*2 ^ (52 - (mw w).log2) < 2 ^ ((mw w).log2+1)*2 ^ (52 - (mw w).log2):=ad b2 (aB _)
      _=2 ^ ((mw w).log2+1+(52 - (mw w).log2)):=(a2 _ _ _).symm
      _<=2 ^ 53:=a6 (by decide) (by omega)
    ·calc 2 ^ 52=2 ^ ((mw w).log2+(52 - (mw w).log2)):=by congr 1;omega
      _=2 ^ (mw w).log2*2 ^ (52 - (mw w).log2):=a2 _ _ _
      _<=mw w*2 ^ (52 - (mw w).log2):=a5 _ g
    ·rw [e,ao,<-a2]
     congr 2;omega
def dn (f p:Nat):Nat:=f - p*2 ^ 52
theorem Wb {w p:Nat} (h1:1<=p) (hp:p<=1022) (b:pw p<=w) (hw:w < fInf):double.mul w (pw (-(p:Int)))=some (dn w p)/\val w=val (dn w p)*P2 p/\pw 0<=dn w p:=by
 unfold dn
 rw [cV]
 have d:(1023+p)*2 ^ 52<=w:=by rw [<-KV];exact b
 have he:ew w=ew (w - p*2 ^ 52)+p:=by unfold ew;omega
 have hm:mw w=mw (w - p*2 ^ 52):=by unfold mw;rw [if_neg (by omega),if_neg (by omega)];omega
 have hs:=ql (w:=w - p*2 ^ 52)
 have e:w < 2047*2 ^ 52:=hw
 refine ⟨?_,?_,by have:=BU;omega⟩
 ·have a:2 ^ 52<=mw (w - p*2 ^ 52):=by unfold mw;rw [if_neg (by omega)];omega
  have c:mw w≠0:=by rw [hm];omega
  have hex:((ew w:Int)+ -(p:Int)).toNat=ew (w - p*2 ^ 52):=by omega
  have:=mul_pow hw (k:= -(p:Int)) (by omega) (by omega) c (vb (w - p*2 ^ 52)) (E:=ew (w - p*2 ^ 52)) (.inl a) (.inl ⟨by omega,by rw [hex,hm]⟩)
  rw [this,<-hs,b1 (by omega)]
 ·unfold val
  rw [hm,he,a2,ao]
theorem rX {a b c:Nat} (h:double.mul a b=some c):aa .mul (.flt .f64 a) (.flt .f64 b)=some (.flt .f64 c):=by
 show some (IV.flt .f64 (Xj .f64 (double.mul a b)))=_
 rw [h];rfl
theorem Mo {w k:Nat} (hw:w < fInf) (hk:k < 2 ^ 64) (hv:val w=k*P2 1074):zO .u64 (.flt .f64 w)=some (.int .u64 (k:Int)):=by
 have hint:(bA.decode w).toInt .zero=some (k:Int):=by
  show (double.read w).toInt .zero=_
  rw [tZ hw]
  unfold Datum.toInt Datum.integral
  simp only [signed,a7,if_false,bd]
  congr 1
  have:Toward.zero.cut false (mw w <<< ((ew w:Int) - 1074).toNat) (-((ew w:Int) - 1074)).toNat=k:=by
   unfold val at hv
   by_cases he:1074<=ew w
   ·have b:(-((ew w:Int) - 1074)).toNat=0:=by omega
    have c:ew w=((ew w:Int) - 1074).toNat+1074:=by omega
    have d:2 ^ ew w=2 ^ ((ew w:Int) - 1074).toNat*P2 1074:=by
     have:=bK ((ew w:Int) - 1074).toNat 1074
     rw [<-c,cV,cV (((ew w:Int) - 1074).toNat)] at this
     exact this
    rw [b,bb]
    rw [d,<-ao] at hv
    rw [a1 (jk 1074) hv]
    unfold Toward.cut
    simp [c0]
   ·have b:((ew w:Int) - 1074).toNat=0:=by omega
    rw [b,bd]
    have c:1074=(-((ew w:Int) - 1074)).toNat+ew w:=by omega
    have hm:mw w=k*2 ^ (-((ew w:Int) - 1074)).toNat:=by
     refine a1 (aB (ew w)) ?_
     rw [hv,ao,<-a2,<-cV,<-c]
    rw [hm]
    by_cases a:k=0
    ·subst a
     simp [Toward.cut]
    ·exact Qs .zero (.inr rfl) a
  rw [this]
 simp only [zO,hint]
 rw [if_pos]
 constructor
 ·show (0:Int)<=_;omega
 ·show (k:Int)<=2 ^ 64 - 1;omega
end Go.AM
namespace Go.AM
open Ieee
theorem yX {a:Nat} (h:a < 2 ^ 64):bs.wrap (a:Int)=(a:Int):=by
 have e:(a:Int) % (2 ^ 64:Int)=(a:Int):=Int.emod_eq_of_lt (by omega) (by omega)
 unfold IntKind.wrap
 show (if (false&&decide (((a:Int) % (2 ^ 64:Int))>=(2 ^ 63:Int)))=true then ((a:Int) % (2 ^ 64:Int)) - (2 ^ 64:Int) else ((a:Int) % (2 ^ 64:Int)))=_
 rw [e];simp
theorem oz {a b:Nat} (h:a+b < 2 ^ 64):aa .add (.int .u64 (a:Int)) (.int .u64 (b:Int))=some (.int .u64 ((a+b:Nat):Int)):=by
 simp only [aa,cg,if_true]
 rw [show (a:Int)+(b:Int)=((a+b:Nat):Int) by omega,yX h]
theorem aaC {a b:Nat} (hb:b<=a) (h:a < 2 ^ 64):aa .sub (.int .u64 (a:Int)) (.int .u64 (b:Int))=some (.int .u64 ((a - b:Nat):Int)):=by
 simp only [aa,cg,if_true]
 rw [show (a:Int) - (b:Int)=((a - b:Nat):Int) by omega,yX (by omega)]
theorem xp {a b:Nat} {k:IntKind} (hb:b<=64) (h:a*2 ^ b < 2 ^ 64):aa .shl (.int .u64 (a:Int)) (.int k (b:Int))=some (.int .u64 ((a*2 ^ b:Nat):Int)):=by
 simp only [aa]
 rw [if_neg (by omega)]
 have e:min ((b:Int).toNat) bs.bits=b:=by show min _ 64=b;omega
 rw [e]
 have c:(a:Int)*2 ^ b=((a*2 ^ b:Nat):Int):=by rw [Int.natCast_mul,Int.natCast_pow];rfl
 rw [c,yX h]
theorem mC {a b:Nat} {k:IntKind} (hb:b<=64):aa .shr (.int .u64 (a:Int)) (.int k (b:Int))=some (.int .u64 ((a / 2 ^ b:Nat):Int)):=by
 simp only [aa]
 rw [if_neg (by omega)]
 have e:min ((b:Int).toNat) bs.bits=b:=by show min _ 64=b;omega
 rw [e]
 have c:(2:Int) ^ b=((2 ^ b:Nat):Int):=by rw [Int.natCast_pow];rfl
 rw [c,Int.fdiv_eq_ediv_of_nonneg _ (Int.natCast_nonneg _),<-Int.natCast_ediv]
theorem tN {a b:Nat} (c:a < 2 ^ 64) (hb:b < 2 ^ 64):aa .or (.int .u64 (a:Int)) (.int .u64 (b:Int))=some (.int .u64 ((a|||b:Nat):Int)):=by
 simp only [aa,cg,if_true]
 have:(b3 bs.bits (a:Int)|||b3 bs.bits (b:Int)).toNat=a|||b:=by
  rw [BitVec.toNat_or,a8,a8,bf,bf]
  show a % 2 ^ 64|||b % 2 ^ 64=_
  rw [bx c,bx hb]
 rw [this,yX (Nat.or_lt_two_pow c hb)]
theorem qj {a b:Nat} (c:a < 2 ^ 64) (hb:b < 2 ^ 64):aa .and (.int .u64 (a:Int)) (.int .u64 (b:Int))=some (.int .u64 ((a&&&b:Nat):Int)):=by
 simp only [aa,cg,if_true]
 have:(b3 bs.bits (a:Int)&&&b3 bs.bits (b:Int)).toNat=a&&&b:=by
  rw [BitVec.toNat_and,a8,a8,bf,bf]
  show a % 2 ^ 64&&&b % 2 ^ 64=_
  rw [bx c,bx hb]
 rw [this,yX (bR Nat.and_le_left c)]
theorem Zh {a b:Nat} (k:Nat) (h:b < 2 ^ k):a*2 ^ k|||b=a*2 ^ k+b:=by
 rw [<-bb,Nat.shiftLeft_add_eq_or_of_lt h]
theorem aca {a:Int} {n:Nat} (h:a=(n:Int)) (hn:n < 2 ^ 64):bQ .u64 (.int .i64 a)=some (.int .u64 (n:Int)):=by
 subst h;simp only [bQ,yX hn]
theorem aem {w p:Nat} (hw:w < fInf):dn w p < fInf:=bR (Nat.sub_le _ _) hw
theorem E2 {w:Nat} (h:w < fInf):val w < P2 2098:=by
 unfold val
 have h1:ew w<=2045:=by have:w < 2047*2 ^ 52:=h;unfold ew;omega
 calc mw w*2 ^ ew w < 2 ^ 53*2 ^ ew w:=ad (vb w) (aB _)
  _=P2 (53+ew w):=by rw [cV];exact (a2 _ _ _).symm
  _<=P2 2098:=Wz (by omega)
theorem KR {w w':Nat}:val w<=val w'↔w<=w':=by
 have:=qh (w:=w') (w':=w);omega
structure SpI (f0 f:Nat) (n:Int):Prop where
 pos:0 < f
 fin:f < fInf
 lo: -1074<=n
 hi:n<=1023
 eq:val f*P2 (n+2000).toNat=val f0*P2 2000
theorem SpI.down {f0 f:Nat} {n:Int} (h:SpI f0 f n) (h0:f0 < fInf) {p:Nat} (h1:1<=p) (hp:p<=512) (c:pw p<=f):double.mul f (pw (-(p:Int)))=some (dn f p)/\SpI f0 (dn f p) (n+p)/\pw 0<=dn f p:=by
 obtain ⟨d,e,a3⟩:=Wb h1 (by omega) c h.fin
 have hz:=BU
 have j:=h.lo
 have i:=h.hi
 have a:=aem (p:=p) h.fin
 have g:(n+(p:Int)+2000).toNat=p+(n+2000).toNat:=by omega
 have b:0 < dn f p:=by omega
 have heq:val (dn f p)*P2 (n+(p:Int)+2000).toNat=val f0*P2 2000:=by
  rw [g,bK,<-ao,<-e];exact h.eq
 have hb:P2 (1074+(n+(p:Int)+2000).toNat) < P2 4098:=by
  calc P2 (1074+(n+(p:Int)+2000).toNat)=val (pw 0)*P2 (n+(p:Int)+2000).toNat:=by
        rw [qN (by omega),bK];rfl
   _<=val (dn f p)*P2 (n+(p:Int)+2000).toNat:=a5 _ (KR.2 a3)
   _=val f0*P2 2000:=heq
   _ < P2 2098*P2 2000:=ad (E2 h0) (jk _)
   _=P2 4098:=(bK 2098 2000).symm
 have:=LV hb
 exact ⟨d,⟨b,a,by omega,by omega,heq⟩,a3⟩
theorem SpI.up {f0 f:Nat} {n:Int} (h:SpI f0 f n) (h0:0 < f0) {p:Nat} (h1:1<=p) (hp:p<=512) (a:f < pw (-(p:Int))): ∃c,double.mul f (pw p)=some c/\SpI f0 c (n - p)/\c < pw 0:=by
 have e0:(1074+ -(p:Int)).toNat+p=1074:=by omega
 have hv:val f*P2 p < P2 1074:=by
  calc val f*P2 p < val (pw (-(p:Int)))*P2 p:=ad (ng a) (jk _)
   _=P2 1074:=by rw [qN (by omega),<-bK,e0]
 obtain ⟨c,c1,c2,c3,c4⟩:=Ev h.pos h.fin (show p<=1023 by omega) (show 1074<=2098 by omega) hv
 have e:=h.lo
 have d:=h.hi
 have b:(n+2000).toNat=p+(n - (p:Int)+2000).toNat:=by omega
 have heq:val c*P2 (n - (p:Int)+2000).toNat=val f0*P2 2000:=by
  rw [c4,ao,<-bK,<-b];exact h.eq
 have hb:P2 2000 < P2 (1074+(n - (p:Int)+2000).toNat):=by
  calc P2 2000=1*P2 2000:=by rw [c7]
   _<=val f0*P2 2000:=a5 _ (SQ h0)
   _=val c*P2 (n - (p:Int)+2000).toNat:=heq.symm
   _ < P2 1074*P2 (n - (p:Int)+2000).toNat:=ad (by rw [c4];exact hv) (jk _)
   _=_:=(bK _ _).symm
 have:=LV hb
 refine ⟨c,c1,⟨c2,c3,by omega,by omega,heq⟩,?_⟩
 rw [<-qh,qN (by omega),c4]
 exact hv
def Jf:List Nat:=[512,256,128,64,32,16,8,4,2,1]
def jM:List IV:=[.int .i64 512,.flt .f64 6913025428013711360,.flt .f64 2301339409586323456,.int .i64 256,.flt .f64 5760103923406864384,.flt .f64 3454260914193170432,.int .i64 128,.flt .f64 5183643171103440896,.flt .f64 4030721666496593920,.int .i64 64,.flt .f64 4895412794951729152,.flt .f64 4318952042648305664,.int .i64 32,.flt .f64 4751297606875873280,.flt .f64 4463067230724161536,.int .i64 16,.flt .f64 4679240012837945344,.flt .f64 4535124824762089472,.int .i64 8,.flt .f64 4643211215818981376,.flt .f64 4571153621781053440,.int .i64 4,.flt .f64 4625196817309499392,.flt .f64 4589168020290535424,.int .i64 2,.flt .f64 4616189618054758400,.flt .f64 4598175219545276416,.int .i64 1,.flt .f64 4611686018427387904,.flt .f64 4602678819172646912]
theorem A3:nq=some jM:=rfl
theorem zJ:[nth jM 0,nth jM 1,nth jM 2,nth jM 3,nth jM 4,nth jM 5,nth jM 6,nth jM 7,nth jM 8,nth jM 9,nth jM 10,nth jM 11,nth jM 12,nth jM 13,nth jM 14,nth jM 15,nth jM 16,nth jM 17,nth jM 18,nth jM 19,nth jM 20,nth jM 21,nth jM 22,nth jM 23,nth jM 24,nth jM 25,nth jM 26,nth jM 27,nth jM 28,nth jM 29]=jM:=rfl
theorem E8: ∀(i p:Nat),Jf[i]? =some p->nth jM (i*3+0)= .int .i64 (p:Int)/\nth jM (i*3+1)= .flt .f64 (pw (p:Int))/\nth jM (i*3+2)= .flt .f64 (pw (-(p:Int)))/\1<=p/\p<=512/\i < 10
 | 0,_,h=>by cases h;exact ⟨rfl,congrArg (IV.flt .f64) (by decide),congrArg (IV.flt .f64) (by decide),by decide,by decide,by decide⟩
 | 1,_,h=>by cases h;exact ⟨rfl,congrArg (IV.flt .f64) (by decide),congrArg (IV.flt .f64) (by decide),by decide,by decide,by decide⟩
 | 2,_,h=>by cases h;exact ⟨rfl,congrArg (IV.flt .f64) (by decide),congrArg (IV.flt .f64) (by decide),by decide,by decide,by decide⟩
 | 3,_,h=>by cases h;exact ⟨rfl,congrArg (IV.flt .f64) (by decide),congrArg (IV.flt .f64) (by decide),by decide,by decide,by decide⟩
 | 4,_,h=>by cases h;exact ⟨rfl,congrArg (IV.flt .f64) (by decide),congrArg (IV.flt .f64) (by decide),by decide,by decide,by decide⟩
 | 5,_,h=>by cases h;exact ⟨rfl,congrArg (IV.flt .f64) (by decide),congrArg (IV.flt .f64) (by decide),by decide,by decide,by decide⟩
 | 6,_,h=>by cases h;exact ⟨rfl,congrArg (IV.flt .f64) (by decide),congrArg (IV.flt .f64) (by decide),by decide,by decide,by decide⟩
 | 7,_,h=>by cases h;exact ⟨rfl,congrArg (IV.flt .f64) (by decide),congrArg (IV.flt .f64) (by decide),by decide,by decide,by decide⟩
 | 8,_,h=>by cases h;exact ⟨rfl,congrArg (IV.flt .f64) (by decide),congrArg (IV.flt .f64) (by decide),by decide,by decide,by decide⟩
 | 9,_,h=>by cases h;exact ⟨rfl,congrArg (IV.flt .f64) (by decide),congrArg (IV.flt .f64) (by decide),by decide,by decide,by decide⟩
 | i+10,p,h=>by rw [List.getElem?_eq_none (show Jf.length<=i+10 by show 10<=i+10;omega)] at h;cases h
def spF (s:Nat×Int) (p:Nat):Nat×Int:=if pw (p:Int)<=s.1 then (dn s.1 p,s.2+p) else if s.1 < pw (-(p:Int)) then ((double.mul s.1 (pw p)).getD 0,s.2 - p) else s
theorem abu {f0:Nat} (h0:0 < f0) (h1:f0 < fInf) {s:Nat×Int} (h:SpI f0 s.1 s.2) {p:Nat} (a:1<=p) (b:p<=512):SpI f0 (spF s p).1 (spF s p).2:=by
 unfold spF
 split
 ·rename_i d;exact (h.down h1 a b d).2.1
 ·split
  ·rename_i e
   obtain ⟨c,c1,c2,_⟩:=h.up h0 a b e
   rw [c1];exact c2
  ·exact h
theorem yP {k:Int} (h:k<=1023):pw k < fInf:=by unfold pw;show _ < 2047*2 ^ 52;omega
theorem BZ {a b:Int} (h1: -(2 ^ 62)<=a) (h2:a<=2 ^ 61) (c: -(2 ^ 61)<=b) (d:b<=2 ^ 61):aa .add (.int .i64 a) (.int .i64 b)=some (.int .i64 (a+b)):=AE (by omega) (by omega)
theorem xf {a b:Int} (h1: -(2 ^ 62)<=a) (h2:a<=2 ^ 61) (c: -(2 ^ 61)<=b) (d:b<=2 ^ 61):aa .sub (.int .i64 a) (.int .i64 b)=some (.int .i64 (a - b)):=pU (by omega) (by omega)
theorem XN {T:List IV} (l:[nth T 0,nth T 1,nth T 2,nth T 3,nth T 4,nth T 5,nth T 6,nth T 7,nth T 8,nth T 9,nth T 10,nth T 11,nth T 12,nth T 13,nth T 14,nth T 15,nth T 16,nth T 17,nth T 18,nth T 19,nth T 20,nth T 21,nth T 22,nth T 23,nth T 24,nth T 25,nth T 26,nth T 27,nth T 28,nth T 29]=T) (C: ∀(i p:Nat),Jf[i]? =some p->nth T (i*3+0)= .int .i64 (p:Int)/\nth T (i*3+1)= .flt .f64 (pw (p:Int))/\nth T (i*3+2)= .flt .f64 (pw (-(p:Int)))/\1<=p/\p<=512/\i < 10) {f0:Nat} (h0:0 < f0) (h1:f0 < fInf) {f:Nat} {n:Int} (h:SpI f0 f n) {i p:Nat} (hp:Jf[i]? =some p):
  qU T [.flt .f64 f,.int .i64 n,.int .i64 (i:Int)]=some (.next [.flt .f64 (spF (f,n) p).1,.int .i64 (spF (f,n) p).2,.int .i64 ((i+1:Nat):Int)]):=by
 obtain ⟨t0,t1,t2,z,A,hi⟩:=C i p hp
 have F:=h.lo
 have E:=h.hi
 obtain ⟨j,q⟩: ∃j,j=pw (p:Int):=⟨_,rfl⟩
 obtain ⟨g,r⟩: ∃g,g=pw (-(p:Int)):=⟨_,rfl⟩
 have s:j < fInf:=by rw [q];exact yP (by omega)
 have m:g < fInf:=by rw [r];exact yP (by omega)
 have a:= λb=>h.down h1 z A (b:pw (p:Int)<=f)
 have e:= λd=>h.up h0 z A (d:f < pw (-(p:Int)))
 have v:g<=pw 0:=by
  have:=BU
  have:=afD (k:=p) (by omega)
  omega
 have o:spF (f,n) p=if j<=f then (dn f p,n+p) else if f < g then ((double.mul f j).getD 0,n - p) else (f,n):=by
  unfold spF;rw [<-q,<-r]
 rw [o]
 rw [<-q] at t1 a e
 rw [<-r] at t2 a e
 have t:(i:Int) < 10:=by omega
 have s1:aa .add (.int .i64 n) (.int .i64 (p:Int))=some (.int .i64 (n+p)):=BZ (by omega) (by omega) (by omega) (by omega)
 have s2:aa .sub (.int .i64 n) (.int .i64 (p:Int))=some (.int .i64 (n - p)):=xf (by omega) (by omega) (by omega) (by omega)
 have w:aa .add (.int .i64 (i:Int)) (.int .i64 1)=some (.int .i64 ((i+1:Nat):Int)):=au (by omega)
 clear q r o
 generalize pw 0=Z at v a e
 unfold qU
 simp only [l,af,ai,ay,al,t,decide_true,ah,ab,e9 hi,t0,t1,t2,Mc h.fin s,aZ]
 by_cases b:j<=f
 ·obtain ⟨x,y,a3⟩:=a b
  generalize dn f p=D at x y a3 ⊢
  have u: ¬(D < g):=by omega
  simp only [b,if_true]
  rw [rX x,ab,s1,ab,wh y.fin m,ab,decide_eq_false u,ag,w,ab]
 ·simp only [b,if_false,wh h.fin m,ab,aZ]
  by_cases d:f < g
  ·obtain ⟨c,c1,c2,_⟩:=e d
   simp only [d,if_true,rX c1,ab,s2,w,c1,Option.getD_some]
  ·simp only [d,if_false,ab,w]
theorem EE:(4611686018427387904:Nat)=pw ((1:Nat):Int):=by decide
theorem acL:(4602678819172646912:Nat)=pw (-((1:Nat):Int)):=by decide
theorem NQ:(4607182418800017408:Nat)=pw 0:=by decide
theorem aiE:(4841369599423283200:Nat)=pw ((52:Nat):Int):=by decide
theorem QM {f0:Nat} (h1:f0 < fInf): ∀(m f:Nat) (n:Int),SpI f0 f n->f / 2 ^ 52 < m-> ∃c d,iter m jg [.flt .f64 f,.int .i64 n]=some (0,[.flt .f64 c,.int .i64 d])/\SpI f0 c d/\c < pw 1
 | 0,f,n,_,hm=>by omega
 | m+1,f,n,h,hm=>by
   have q:=h.lo
   have p:=h.hi
   by_cases a:pw ((1:Nat):Int)<=f
   ·obtain ⟨i,j,a3⟩:=h.down h1 (cc 1) (by decide) a
    have hf:jg [.flt .f64 f,.int .i64 n]=some (.next [.flt .f64 (dn f 1),.int .i64 (n+((1:Nat):Int))]):=by
     unfold jg
     simp only [af,ai,EE,acL,Mc h.fin (yP (show ((1:Nat):Int)<=1023 by decide)),a,decide_true,ah,ab,rX i]
     rw [BZ (b:=1) (by omega) (by omega) (by omega) (by omega)]
     rfl
    have g:1024*2 ^ 52<=f:=by have:=KV 1;omega
    have e:dn f 1 / 2 ^ 52 < m:=by unfold dn;omega
    obtain ⟨c,d,k,l,o⟩:=QM h1 m (dn f 1) (n+((1:Nat):Int)) j e
    exact ⟨c,d,by simp only [iter,hf,ab];exact k,l,o⟩
   ·have hf:jg [.flt .f64 f,.int .i64 n]=some (.done 0 [.flt .f64 f,.int .i64 n]):=by
     unfold jg
     simp only [af,ai,EE,Mc h.fin (yP (show ((1:Nat):Int)<=1023 by decide)),a,decide_false,ag,ab]
    exact ⟨f,n,by simp only [iter,hf,ab],h,ca a⟩
theorem IY {f0:Nat} (h0:0 < f0): ∀(m f:Nat) (n:Int),SpI f0 f n->f < pw 1->(n+1075).toNat < m-> ∃e i,iter m jf [.flt .f64 f,.int .i64 n]=some (0,[.flt .f64 e,.int .i64 i])/\SpI f0 e i/\pw 0<=e/\e < pw 1
 | 0,f,n,_,_,hm=>by omega
 | m+1,f,n,h,g,hm=>by
   have r:=h.lo
   have q:=h.hi
   have hz:=BU
   by_cases a:f < pw 0
   ·
    have d:=ng a
    rw [qN (by omega)] at d
    have hv:val f*P2 1 < P2 1075:=by
     calc val f*P2 1 < P2 1074*P2 1:=ad d (jk 1)
      _=P2 1075:=(bK 1074 1).symm
    obtain ⟨c,c1,c2,c3,c4⟩:=Ev h.pos h.fin (show 1<=1023 by omega) (show 1075<=2098 by omega) hv
    have hb:P2 2000 < P2 (1074+(n+2000).toNat):=by
     calc P2 2000=1*P2 2000:=by rw [c7]
      _<=val f0*P2 2000:=a5 _ (SQ h0)
      _=val f*P2 (n+2000).toNat:=h.eq.symm
      _ < P2 1074*P2 (n+2000).toNat:=ad d (jk _)
      _=_:=(bK _ _).symm
    have hn:=LV hb
    have j:(n+2000).toNat=1+(n - 1+2000).toNat:=by omega
    have p:SpI f0 c (n - 1):=⟨c2,c3,by omega,by omega,by
     rw [c4,ao,<-bK,<-j];exact h.eq⟩
    have hc:c < pw 1:=by
     rw [<-qh,qN (by omega),c4];exact hv
    have hf:jf [.flt .f64 f,.int .i64 n]=some (.next [.flt .f64 c,.int .i64 (n - 1)]):=by
     unfold jf
     simp only [af,ai,NQ,EE,wh h.fin (yP (show (0:Int)<=1023 by decide)),a,decide_true,ah,ab]
     rw [rX (show double.mul f (pw ((1:Nat):Int))=some c from c1),xf (b:=1) (by omega) (by omega) (by omega) (by omega)]
     rfl
    obtain ⟨e,i,k,l,o⟩:=IY h0 m c (n - 1) p hc (by omega)
    exact ⟨e,i,by simp only [iter,hf,ab];exact k,l,o⟩
   ·have hf:jf [.flt .f64 f,.int .i64 n]=some (.done 0 [.flt .f64 f,.int .i64 n]):=by
     unfold jf
     simp only [af,ai,NQ,wh h.fin (yP (show (0:Int)<=1023 by decide)),a,decide_false,ag,ab]
    exact ⟨f,n,by simp only [iter,hf,ab],h,b0 a,g⟩
theorem O9 {f0:Nat} (h0:0 < f0) (h1:f0 < fInf): ∃g n,jP (.flt .f64 f0)=some [.flt .f64 g,.int .i64 n]/\SpI f0 g n/\pw 0<=g/\g < pw 1:=by
 have d:SpI f0 f0 0:=⟨h0,h1,by omega,by omega,rfl⟩
 have a: ∀(l:List Nat),(∀p∈l,1<=p/\p<=512)-> ∀s:Nat×Int,SpI f0 s.1 s.2->SpI f0 (l.foldl spF s).1 (l.foldl spF s).2:=by
  intro l
  induction l with
  | nil=>intro _ s hs;exact hs
  | cons p l ih=>intro hl s hs;exact ih (λq h=>hl q (List.mem_cons_of_mem _ h)) _ (abu h0 h1 hs (hl p List.mem_cons_self).1 (hl p List.mem_cons_self).2)
 have c:=a Jf (by decide) (f0,0) d
 have hr:rounds=1000000:=rfl
 obtain ⟨f1,j,e,b2,f⟩:=QM h1 rounds _ _ c (by have:=c.fin;have:(Jf.foldl spF (f0,0)).1 < 2047*2 ^ 52:=this;omega)
 obtain ⟨g,n,c1,c2,c3,c4⟩:=IY h0 rounds f1 j b2 f (by have:=b2.hi;omega)
 refine ⟨g,n,?_,c2,c3,c4⟩
 unfold jP
 rw [A3]
 simp only [ab]
 rw [mI (vs0:=[.flt .f64 f0,.int .i64 0,.int .i64 0]) (λi (s:Nat×Int)=>[IV.flt .f64 s.1,.int .i64 s.2,.int .i64 (i:Int)]) spF 0 (λs=>[IV.flt .f64 s.1,.int .i64 s.2]) (λ_ s=>SpI f0 s.1 s.2) Jf (f0,0) rfl (by show 10 < rounds;omega) d]
 ·simp only [ab,aJ,af,ai,e,c1,abd,xg,cX,cd]
 ·intro i s p hp hs
  have b:=E8 i p hp
  exact ⟨abu h0 h1 hs b.2.2.2.1 b.2.2.2.2.1,XN zJ E8 h0 h1 hs hp⟩
 ·intro s _
  unfold qU
  have:Jf.length=10:=rfl
  simp [this]
end Go.AM
namespace Go.AM
open Ieee
theorem Ik (w:Nat):val w=mw w*P2 (ew w):=by unfold val;rw [cV]
theorem RX {M E:Nat} (c:M < 2 ^ 53) (hn:2 ^ 52<=M\/E=0):val (E*2 ^ 52+M)=M*P2 E:=by
 obtain ⟨a,b⟩:=Zc c hn
 rw [Ik,a,b]
theorem B5 {g:Nat} (h1:pw 0<=g) (h2:g < pw 1):ew g=1022/\2 ^ 52<=mw g/\mw g < 2 ^ 53/\val g=mw g*P2 1022:=by
 have a:=BU
 have b:=acj
 have he:ew g=1022:=by unfold ew;omega
 have hm:2 ^ 52<=mw g:=by unfold mw;rw [if_neg (by omega)];omega
 refine ⟨he,hm,vb g,?_⟩
 rw [Ik,he]
theorem abw {f:Nat} (h:f < 2 ^ 52):val f=f:=by
 have he:=Vc h
 unfold val mw
 rw [if_pos h,he];omega
theorem Zm {f k:Nat} (h:val f=k) (hk:k < 2 ^ 52):f < 2 ^ 52/\f=k:=by
 have h1:val (2 ^ 52)=2 ^ 52:=by decide
 have h2:f < 2 ^ 52:=qh.1 (by rw [h,h1];exact hk)
 exact ⟨h2,by rw [<-h,abw h2]⟩
theorem acx {f0 g:Nat} {n:Int} (h:SpI f0 g n) (h1:pw 0<=g) (h2:g < pw 1): ∃c,aa .mul (.flt .f64 g) (.flt .f64 4841369599423283200)=some (.flt .f64 c)/\zO .u64 (.flt .f64 c)=some (.int .u64 (mw g:Int)):=by
 obtain ⟨b,d,e,a⟩:=B5 h1 h2
 have hv:val g*P2 52 < P2 1127:=by
  have:val g < P2 1075:=by have:=ng h2;rw [qN (by omega)] at this;exact this
  calc val g*P2 52 < P2 1075*P2 52:=ad this (jk _)
   _=P2 1127:=(bK 1075 52).symm
 obtain ⟨c,c1,c2,c3,c4⟩:=Ev h.pos h.fin (show 52<=1023 by omega) (show 1127<=2098 by omega) hv
 refine ⟨c,?_,Mo c3 (by omega) ?_⟩
 ·rw [aiE];exact rX c1
 ·rw [c4,a,ao,<-bK]
theorem Z9 {f0 g:Nat} {n:Int} (h:SpI f0 g n) (h1:pw 0<=g) (h2:g < pw 1) (hn:0 < n+1023):f0=(n+1022).toNat*2 ^ 52+mw g:=by
 obtain ⟨f,a,b,c⟩:=B5 h1 h2
 have hh:=h.eq
 have e:=h.lo
 have d:1022+(n+2000).toNat=(n+1022).toNat+2000:=by omega
 rw [c,ao,<-bK,d,bK,<-ao] at hh
 have hv:=a1 (jk 2000) hh
 rw [<-RX b (.inl a)] at hv
 exact (val_inj hv).symm
theorem ZL {f0 g:Nat} {n:Int} (h:SpI f0 g n) (h1:pw 0<=g) (h2:g < pw 1) (hn:n+1023<=0):mw g / 2 ^ (-1022 - n).toNat=f0/\f0 < 2 ^ 52/\(-1022 - n).toNat<=52:=by
 obtain ⟨j,k,l,d⟩:=B5 h1 h2
 have hh:=h.eq
 have i:=h.lo
 generalize hs:(-1022 - n).toNat=s
 have e:1022+(n+2000).toNat+s=2000:=by omega
 have c:1<=s:=by omega
 rw [d,ao,<-bK,<-e,bK _ s,Nat.mul_comm (P2 _) (P2 s),<-ao] at hh
 have hv:=a1 (jk _) hh
 have b:P2 1<=P2 s:=Wz c
 have a:P2 1=2:=by rw [cV]
 have hle:val f0*2<=mw g:=by rw [hv,<-a];exact bM _ b
 obtain ⟨t1,t2⟩:=Zm (f:=f0) rfl (by omega)
 refine ⟨?_,t1,by omega⟩
 rw [hv,cV,b4 _ (aB s)]
 exact t2.symm
theorem YR {S x:Nat} (b:S=0\/S=2 ^ 63) (c:x < 2 ^ 63):S|||x=S+x:=by
 rcases b with rfl | rfl
 ·simp
 ·have:=Zh (a:=1) 63 c
  simpa using this
theorem Q9 {f0 S:Nat} (f:S=0\/S=2 ^ 63) (h0:0 < f0) (hf:f0 < fInf):((jP (.flt .f64 f0)).bind λx=>
  (aa .mul (nth x 0) (.flt .f64 4841369599423283200)).bind λv9=>
  (zO .u64 v9).bind λv10=>
  (aa .add (nth x 1) (.int .i64 1023)).bind λv11=>
  (aa .gtr v11 (.int .i64 0)).bind λm=>
  ae m (λ_=>
  (bQ .u64 v11).bind λo=>
  (aa .shl o (.int .u64 52)).bind λp=>
  (aa .or (.int .u64 (S:Int)) p).bind λq=>
  (aa .and v10 (.int .u64 4503599627370495)).bind λr=>
  (aa .or q r).bind λt=>
  av [t]) (λ_=>
  (aa .sub (.int .i64 1) (nth x 1)).bind λu=>
  (aa .sub u (.int .i64 1023)).bind λv=>
  (aa .shr v10 v).bind λv20=>
  (aa .or (.int .u64 (S:Int)) v20).bind λw=>
  av [w]))=some [.int .u64 ((S+f0:Nat):Int)]:=by
 obtain ⟨g,n,y,d,a3,a4⟩:=O9 h0 hf
 obtain ⟨c,z,b2⟩:=acx d a3 a4
 obtain ⟨A,I,J,_⟩:=B5 a3 a4
 have F:=d.lo
 have C:=d.hi
 have e:S < 2 ^ 64:=by omega
 have j:=Z9 d a3 a4
 have l:=ZL d a3 a4
 clear d a3 a4 A
 generalize mw g=M at*
 rw [y,ab,af,z,ab,b2,ab,ai]
 rw [BZ (a:=n) (b:=1023) (by omega) (by omega) (by omega) (by omega),ab,aW,ab,aZ]
 by_cases hn:0 < n+1023
 ·rw [if_pos hn]
  have he:=j hn
  obtain ⟨k,hk⟩: ∃k:Nat,n+1023=(k:Int):=⟨(n+1023).toNat,by omega⟩
  have D:1<=k:=by omega
  have E:k<=2046:=by omega
  have h:S+f0=S+k*2 ^ 52+M % 2 ^ 52:=by
   have:(n+1022).toNat=k - 1:=by omega
   rw [this] at he
   have:k*2 ^ 52=(k - 1)*2 ^ 52+2 ^ 52:=by omega
   omega
  clear he j l
  rw [aca hk (by omega),ab]
  have w1:aa .shl (.int .u64 (k:Int)) (.int .u64 52)=some (.int .u64 ((k*2 ^ 52:Nat):Int)):=xp (b:=52) (by omega) (by omega)
  have w2:aa .or (.int .u64 (S:Int)) (.int .u64 ((k*2 ^ 52:Nat):Int))=some (.int .u64 ((S+k*2 ^ 52:Nat):Int)):=by
   rw [tN e (by omega),YR f (by omega)]
  have w3:aa .and (.int .u64 (M:Int)) (.int .u64 4503599627370495)=some (.int .u64 ((M % 2 ^ 52:Nat):Int)):=by
   have:=qj (a:=M) (b:=2 ^ 52 - 1) (by omega) (by omega)
   rw [Nat.and_two_pow_sub_one_eq_mod] at this
   exact this
  have H:aa .or (.int .u64 ((S+k*2 ^ 52:Nat):Int)) (.int .u64 ((M % 2 ^ 52:Nat):Int))=some (.int .u64 ((S+k*2 ^ 52+M % 2 ^ 52:Nat):Int)):=by
   rw [tN (by omega) (by omega)]
   have G:S+k*2 ^ 52=(S / 2 ^ 52+k)*2 ^ 52:=by rcases f with rfl | rfl<;>omega
   rw [G,Zh 52 (Nat.mod_lt _ (by decide))]
  rw [w1,ab,w2,ab,w3,ab,H,ab,h]
  rfl
 ·rw [if_neg hn]
  obtain ⟨t1,t2,t3⟩:=l (by omega)
  obtain ⟨s,hs⟩: ∃s:Nat,1 - n - 1023=(s:Int):=⟨(1 - n - 1023).toNat,by omega⟩
  have i:(-1022 - n).toNat=s:=by omega
  rw [i] at t1 t3
  clear j l
  have w1:aa .shr (.int .u64 (M:Int)) (.int .i64 (s:Int))=some (.int .u64 (f0:Int)):=by
   rw [mC (by omega),t1]
  have w2:aa .or (.int .u64 (S:Int)) (.int .u64 (f0:Int))=some (.int .u64 ((S+f0:Nat):Int)):=by
   rw [tN e (by omega),YR f (by omega)]
  rw [xf (a:=1) (b:=n) (by omega) (by omega) (by omega) (by omega),ab,xf (a:=1 - n) (b:=1023) (by omega) (by omega) (by omega) (by omega),ab,hs,w1,ab,w2,ab]
  rfl
theorem aay {w:Nat} (hw:w < fInf):double.order w fInf=some .lt/\double.order fInf w=some .gt:=by
 have hr:double.read fInf= .infinity false:=by decide
 unfold Format.order
 rw [tZ hw,hr]
 exact ⟨rfl,rfl⟩
theorem mul_two {w:Nat} (h0:0 < w) (hw:w < fInf): ∃c,aa .mul (.flt .f64 w) (.flt .f64 4611686018427387904)=some (.flt .f64 c)/\aa .eql (.flt .f64 w) (.flt .f64 c)=some (.bool false)/\aa .eql (.flt .f64 c) (.flt .f64 w)=some (.bool false):=by
 rw [EE]
 by_cases hv:val w*P2 1 < P2 2098
 ·obtain ⟨c,c1,c2,c3,c4⟩:=Ev h0 hw (show 1<=1023 by omega) (cc _) hv
  have a:w≠c:=by
   intro e
   have hp:=SQ h0
   have b:P2 1=2:=by rw [cV]
   rw [b,<-e] at c4
   omega
  exact ⟨c,rX c1,by rw [zI hw c3,decide_eq_false a],by rw [zI c3 hw,decide_eq_false (Ne.symm a)]⟩
 ·have f:P2 2098 < P2 (54+ew w):=by
   calc P2 2098<=val w*P2 1:=b0 hv
    _ < P2 53*P2 (ew w)*P2 1:=by
      refine ad ?_ (jk 1)
      rw [Ik]
      refine ad ?_ (jk _)
      rw [cV];exact vb w
    _=P2 (54+ew w):=by
     have:54+ew w=53+ew w+1:=by omega
     rw [this,bK (53+ew w) 1,bK 53 (ew w)]
  have he:=LV f
  have hs:=ql (w:=w)
  have hm:2 ^ 52<=mw w:=by rcases B3 w with h | h<;>omega
  have g:=vb w
  have hmul:=mul_pow hw (k:=((1:Nat):Int)) (by omega) (by omega) (by omega) g (E:=ew w+1) (.inl hm) (.inl ⟨by omega,by congr 2⟩)
  have d:2047*2 ^ 52<=(ew w+1)*2 ^ 52+mw w:=by omega
  rw [Nat.min_eq_right d] at hmul
  obtain ⟨i,j⟩:=aay hw
  refine ⟨fInf,rX hmul,?_,?_⟩
  ·show some (IV.bool (double.order w fInf==some .eq))=_
   rw [i];rfl
  ·show some (IV.bool (double.order fInf w==some .eq))=_
   rw [j];rfl
theorem WW {w:Nat} (h:w < 2047*2 ^ 52):double.read (2 ^ 63+w)= .number true (mw w) ((ew w:Int) - 1074):=by
 unfold Format.read
 simp only [NJ,KM,BP,Se]
 have h1:(2 ^ 63+w) / 2 ^ 63=1:=by omega
 have h2:(2 ^ 63+w) % 2 ^ 63=w:=by omega
 rw [h1,h2]
 unfold mw ew
 by_cases hs:w < 2 ^ 52
 ·rw [if_pos hs,if_pos hs,show w / 2 ^ 52 - 1=0 by omega];rfl
 ·rw [if_neg hs,if_pos h,if_neg hs]
  have e:(-1074:Int)+((w / 2 ^ 52 - 1:Nat):Int)=((w / 2 ^ 52 - 1:Nat):Int) - 1074:=by omega
  rw [e];rfl
theorem Rc {w:Nat} (h0:0 < w) (h:w < fInf):double.order (2 ^ 63+w) 0=some .lt:=by
 have hz:double.read 0= .number false 0 (-1074):=by decide
 unfold Format.order
 rw [WW h,hz]
 show some (compare (signed true (mw w) _) (signed false 0 _))=_
 congr 1
 have hm:=Hi h0
 unfold signed
 simp only [if_true,a7,if_false,Nat.zero_shiftLeft,bb]
 have hp:0 < mw w*2 ^ ((ew w:Int) - 1074 - min ((ew w:Int) - 1074) (-1074)).toNat:=c5 (by omega) (aB _)
 generalize mw w*2 ^ ((ew w:Int) - 1074 - min ((ew w:Int) - 1074) (-1074)).toNat=x at hp
 simp only [compare,compareOfLessAndEq]
 rw [if_pos (by omega)]
theorem UC {w:Nat} (h:w < 2 ^ 63):(2 ^ 63+w) ^^^ 2 ^ 63=w:=by
 refine Nat.eq_of_testBit_eq λi=> ?_
 rw [Nat.testBit_xor,Nat.testBit_two_pow]
 rcases br i 63 with hi | rfl | hi
 ·rw [Nat.testBit_two_pow_add_gt hi]
  simp [show ¬63=i by omega]
 ·rw [Nat.testBit_two_pow_add_eq,bm h];rfl
 ·rw [bm (b5 (show 2 ^ 63+w < 2 ^ 64 by omega) (a6 (by decide) hi)),bm (b5 h (a6 (by decide) (by omega)))]
  simp [show ¬63=i by omega]
theorem Y5 {w:Nat} (h:w<=fInf):canF .f64 w=w:=by
 unfold canF Cq
 rw [show bA.format.infRung=2047*2 ^ 52 from BP,show bA.format.signWeight=2 ^ 63 from NJ,if_neg]
 rw [decide_eq_true_eq]
 have:w<=2047*2 ^ 52:=h
 omega
theorem Wa {w:Nat} (h:w<=fInf):kA .neg (.flt .f64 (2 ^ 63+w))=some (.flt .f64 w):=by
 show some (IV.flt .f64 (canF .f64 ((2 ^ 63+w) ^^^ 2 ^ 63)))=_
 rw [UC (by have:w<=2047*2 ^ 52:=h;omega),Y5 h]
theorem ab0 {w:Nat} (h:fInf < w % 2 ^ 63): ∃s t,double.read w= .nan s t:=by
 unfold Format.read
 simp only [NJ,KM,BP,Se]
 have h':2047*2 ^ 52 < w % 2 ^ 63:=h
 rw [if_neg (by omega),if_neg (by omega),if_neg (by omega)]
 exact ⟨_,_,rfl⟩
theorem B7 {w x:Nat} (h:fInf < w % 2 ^ 63):double.order w x=none:=by
 obtain ⟨s,t,e⟩:=ab0 h
 unfold Format.order
 rw [e];rfl
def bitsN (w:Nat):Nat:=if fInf < w % 2 ^ 63 then 9221120237041090560 else w
theorem Gy (w:Nat):canF .f64 w=bitsN w:=by
 unfold canF Cq bitsN
 rw [show bA.format.infRung=fInf from BP,show bA.format.signWeight=2 ^ 63 from NJ]
 by_cases h:fInf < w % 2 ^ 63
 ·rw [if_pos (decide_eq_true h),if_pos h];rfl
 ·rw [if_neg (by rw [decide_eq_false h];simp),if_neg h]
theorem Tp (w:Nat) (h:w < 2 ^ 64):fInf < w % 2 ^ 63\/w=0\/w=2 ^ 63\/w=fInf\/w=2 ^ 63+fInf\/(0 < w/\w < fInf)\/ ∃x,w=2 ^ 63+x/\0 < x/\x < fInf:=by
 show 2047*2 ^ 52 < _\/_\/_\/w=2047*2 ^ 52\/w=2 ^ 63+2047*2 ^ 52\/(_/\w < 2047*2 ^ 52)\/ ∃x,_/\_/\x < 2047*2 ^ 52
 by_cases h1:w < 2 ^ 63
 ·omega
 ·have:w=2 ^ 63+(w - 2 ^ 63):=by omega
  by_cases h2:0 < w - 2 ^ 63/\w - 2 ^ 63 < 2047*2 ^ 52
  ·exact .inr (.inr (.inr (.inr (.inr (.inr ⟨w - 2 ^ 63,this,h2⟩)))))
  ·omega
theorem MT {w:Nat} (h0:0 < w) (h:w < fInf):fp (.flt .f64 w)=some [.bool false]:=by
 unfold fp
 rw [wh h (show 0 < fInf by decide),ab,decide_eq_false (ch w),ag,zI h (show 0 < fInf by decide),ab,decide_eq_false (by omega),ag,ab,af]
 rfl
theorem L7 {w:Nat} (h0:0 < w) (h:w < fInf):fp (.flt .f64 (2 ^ 63+w))=some [.bool true]:=by
 unfold fp
 have:aa .lss (.flt .f64 (2 ^ 63+w)) (.flt .f64 0)=some (.bool true):=by
  show some (IV.bool (double.order (2 ^ 63+w) 0==some .lt))=_
  rw [Rc h0 h];rfl
 rw [this,ab,ah,ab,af]
 rfl
theorem sN {w:Nat} (h:w < 2 ^ 64):fA (.flt .f64 w)=some [.int .u64 (bitsN w:Int)]:=by
 rcases Tp w h with hn | rfl | rfl | rfl | rfl | ⟨h0,hf⟩ | ⟨x,rfl,h0,hf⟩
 ·have e:aa .lss (.flt .f64 w) (.flt .f64 0)=some (.bool false):=by
   show some (IV.bool (double.order w 0==some .lt))=_
   rw [B7 hn];rfl
  have f:aa .eql (.flt .f64 w) (.flt .f64 0)=some (.bool false):=by
   show some (IV.bool (double.order w 0==some .eq))=_
   rw [B7 hn];rfl
  have g:aa .neq (.flt .f64 w) (.flt .f64 w)=some (.bool true):=by
   show some (IV.bool (double.order w w !=some .eq))=_
   rw [B7 hn];rfl
  have em:fp (.flt .f64 w)=some [.bool false]:=by
   unfold fp
   rw [e,ab,ag,f,ab,ag,ab,af]
   rfl
  unfold fA bitsN
  rw [em,ab,af,ag,g,ab,ah,if_pos hn]
  rfl
 ·kernel_rfl
 ·kernel_rfl
 ·kernel_rfl
 ·kernel_rfl
 ·have hb:bitsN w=w:=by
   have:w < 2047*2 ^ 52:=hf
   unfold bitsN;rw [if_neg (by show ¬2047*2 ^ 52 < _;omega)]
  obtain ⟨c,b,d,_⟩:=mul_two h0 hf
  have a:=Q9 (S:=0) (.inl rfl) h0 hf
  rw [cv] at a
  unfold fA
  rw [MT h0 hf,ab,af,ag,Yd hf hf,ab,decide_eq_false (λhh=>hh rfl),ag,zI hf (show 0 < fInf by decide),ab,decide_eq_false (by omega),ag,b,ab,d,ab,ag,hb]
  exact a
 ·have hb:bitsN (2 ^ 63+x)=2 ^ 63+x:=by
   have:x < 2047*2 ^ 52:=hf
   unfold bitsN;rw [if_neg (by show ¬2047*2 ^ 52 < _;omega)]
  obtain ⟨c,b,d,_⟩:=mul_two h0 hf
  have a:=Q9 (S:=2 ^ 63) (.inr rfl) h0 hf
  have i:x < 2 ^ 63:=by have:x < 2047*2 ^ 52:=hf;omega
  unfold fA
  rw [L7 h0 hf,ab,af,ah,Wa (b7 hf),ab,Yd hf hf,ab,decide_eq_false (λhh=>hh rfl),ag,zI hf (show 0 < fInf by decide),ab,decide_eq_false (by omega),ag,b,ab,d,ab,ag,hb]
  exact a
end Go.AM
namespace Go.AM
open Ieee
structure ReI (f0 f e:Nat):Prop where
 pos:0 < f
 fin:f < fInf
 lo:1<=e
 hi:e<=2046
 eq:val f*P2 (e+977)=val f0*P2 2000
theorem ReI.down {f0 f e:Nat} (h:ReI f0 f e) (h0:f0 < fInf) (c:pw ((1:Nat):Int)<=f):double.mul f (pw (-((1:Nat):Int)))=some (dn f 1)/\ReI f0 (dn f 1) (e+1)/\pw 0<=dn f 1:=by
 obtain ⟨d,g,a3⟩:=Wb (cc 1) (by omega) c h.fin
 have hz:=BU
 have a:=aem (p:=1) h.fin
 have b:0 < dn f 1:=by omega
 have i:e+1+977=1+(e+977):=by omega
 have heq:val (dn f 1)*P2 (e+1+977)=val f0*P2 2000:=by
  rw [i,bK,<-ao,<-g];exact h.eq
 have hb:P2 (1074+(e+1+977)) < P2 4098:=by
  calc P2 (1074+(e+1+977))=val (pw 0)*P2 (e+1+977):=by rw [qN (by omega),bK];rfl
   _<=val (dn f 1)*P2 (e+1+977):=a5 _ (KR.2 a3)
   _=val f0*P2 2000:=heq
   _ < P2 2098*P2 2000:=ad (E2 h0) (jk _)
   _=P2 4098:=(bK 2098 2000).symm
 have:=LV hb
 exact ⟨d,⟨b,a,by omega,by omega,heq⟩,a3⟩
theorem ReI.up {f0 f e:Nat} (h:ReI f0 f e) (he:1 < e) (b:f < pw 0): ∃c,double.mul f (pw ((1:Nat):Int))=some c/\ReI f0 c (e - 1)/\c < pw 1:=by
 have a:=ng b
 rw [qN (by omega)] at a
 have hv:val f*P2 1 < P2 1075:=by
  calc val f*P2 1 < P2 1074*P2 1:=ad a (jk 1)
   _=P2 1075:=(bK 1074 1).symm
 obtain ⟨c,c1,c2,c3,c4⟩:=Ev h.pos h.fin (show 1<=1023 by omega) (show 1075<=2098 by omega) hv
 have g:=h.hi
 have d:e+977=1+(e - 1+977):=by omega
 refine ⟨c,c1,⟨c2,c3,by omega,by omega,?_⟩,?_⟩
 ·rw [c4,ao,<-bK,<-d];exact h.eq
 ·rw [<-qh,qN (by omega),c4];exact hv
theorem Uu {f0:Nat} (h1:f0 < fInf): ∀(m f e:Nat),ReI f0 f e->f / 2 ^ 52 < m-> ∃b c,iter m dZ [.flt .f64 f,.int .u64 (e:Int)]=some (0,[.flt .f64 b,.int .u64 ((c:Nat):Int)])/\ReI f0 b c/\b < pw 1
 | 0,f,e,_,hm=>by omega
 | m+1,f,e,h,hm=>by
   have p:=h.lo
   have o:=h.hi
   by_cases a:pw ((1:Nat):Int)<=f
   ·obtain ⟨i,j,a3⟩:=h.down h1 a
    have hf:dZ [.flt .f64 f,.int .u64 (e:Int)]=some (.next [.flt .f64 (dn f 1),.int .u64 ((e+1:Nat):Int)]):=by
     unfold dZ
     rw [af,ai,EE,Mc h.fin (yP (show ((1:Nat):Int)<=1023 by decide)),ab,decide_eq_true a,ah,acL,rX i,ab,show (IV.int .u64 1)= .int .u64 ((1:Nat):Int) from rfl,oz (by omega),ab]
    have g:1024*2 ^ 52<=f:=by have:=KV 1;omega
    have d:dn f 1 / 2 ^ 52 < m:=by unfold dn;omega
    obtain ⟨b,c,k,l,n⟩:=Uu h1 m (dn f 1) (e+1) j d
    exact ⟨b,c,by simp only [iter,hf,ab];exact k,l,n⟩
   ·have hf:dZ [.flt .f64 f,.int .u64 (e:Int)]=some (.done 0 [.flt .f64 f,.int .u64 (e:Int)]):=by
     unfold dZ
     rw [af,ai,EE,Mc h.fin (yP (show ((1:Nat):Int)<=1023 by decide)),ab,decide_eq_false a,ag]
    exact ⟨f,e,by simp only [iter,hf,ab],h,ca a⟩
theorem Mj {f0:Nat}: ∀(m f e:Nat),ReI f0 f e->f < pw 1->e < m-> ∃g i,iter m cW [.flt .f64 f,.int .u64 (e:Int)]=some (0,[.flt .f64 g,.int .u64 ((i:Nat):Int)])/\ReI f0 g i/\g < pw 1/\(pw 0<=g\/(g < pw 0/\i=1))
 | 0,f,e,_,_,hm=>by omega
 | m+1,f,e,h,d,hm=>by
   have o:=h.lo
   have n:=h.hi
   have b:aa .gtr (.int .u64 (e:Int)) (.int .u64 1)=some (.bool (decide (1 < e))):=by
    rw [aW];congr 2;exact decide_eq_decide.2 (by omega)
   by_cases a:f < pw 0
   ·by_cases he:1 < e
    ·obtain ⟨c,c1,c2,c3⟩:=h.up he a
     have hf:cW [.flt .f64 f,.int .u64 (e:Int)]=some (.next [.flt .f64 c,.int .u64 ((e - 1:Nat):Int)]):=by
      unfold cW
      rw [af,ai,NQ,wh h.fin (yP (show (0:Int)<=1023 by decide)),ab,decide_eq_true a,ah,b,ab,ab,af,decide_eq_true he,ah,EE,rX c1,ab,show (IV.int .u64 1)= .int .u64 ((1:Nat):Int) from rfl,aaC (by omega) (by omega),ab]
     obtain ⟨g,i,j,k,l⟩:=Mj m c (e - 1) c2 c3 (by omega)
     exact ⟨g,i,by simp only [iter,hf,ab];exact j,k,l⟩
    ·have hf:cW [.flt .f64 f,.int .u64 (e:Int)]=some (.done 0 [.flt .f64 f,.int .u64 (e:Int)]):=by
      unfold cW
      rw [af,ai,NQ,wh h.fin (yP (show (0:Int)<=1023 by decide)),ab,decide_eq_true a,ah,b,ab,ab,af,decide_eq_false he,ag]
     exact ⟨f,e,by simp only [iter,hf,ab],h,d,.inr ⟨a,by omega⟩⟩
   ·have hf:cW [.flt .f64 f,.int .u64 (e:Int)]=some (.done 0 [.flt .f64 f,.int .u64 (e:Int)]):=by
     unfold cW
     rw [af,ai,NQ,wh h.fin (yP (show (0:Int)<=1023 by decide)),ab,decide_eq_false a,ag,ab,af,ag]
    exact ⟨f,e,by simp only [iter,hf,ab],h,d,.inl (b0 a)⟩
theorem agQ {f:Nat} (hf:f < fInf) (hv:val f*P2 1 < P2 2000): ∃c,double.mul f (pw ((1:Nat):Int))=some c/\c < fInf/\val c=val f*P2 1:=by
 rcases b6 f with h | h
 ·subst h
  refine ⟨0,?_,by show 0 < 2047*2 ^ 52;omega,by rw [val_zero];omega⟩
  rw [<-EE];decide
 ·obtain ⟨c,c1,_,c3,c4⟩:=Ev h hf (show 1<=1023 by omega) (show 2000<=2098 by omega) hv
  exact ⟨c,c1,c3,c4⟩
theorem Ye: ∀(m i f:Nat),i<=52->52 - i < m->f < fInf->val f*P2 (52 - i) < P2 2000-> ∃c,iter m cH [.flt .f64 f,.int .i64 (i:Int)]=some (0,[.flt .f64 c])/\c < fInf/\val c=val f*P2 (52 - i)
 | 0,i,f,_,hm,_,_=>by omega
 | m+1,i,f,hi,hm,hf,hv=>by
   have b:aa .lss (.int .i64 (i:Int)) (.int .i64 52)=some (.bool (decide (i < 52))):=by
    rw [al];congr 2;exact decide_eq_decide.2 (by omega)
   by_cases h:i < 52
   ·have j:52 - i=1+(52 - (i+1)):=by omega
    have e:val f*P2 1 < P2 2000:=bR (bM _ (Wz (by omega))) hv
    obtain ⟨c,c1,c2,c3⟩:=agQ hf e
    have a:cH [.flt .f64 f,.int .i64 (i:Int)]=some (.next [.flt .f64 c,.int .i64 ((i+1:Nat):Int)]):=by
     unfold cH
     rw [af,ai,b,ab,decide_eq_true h,ah,EE,rX c1,ab,au (by omega),ab]
    have g:val c*P2 (52 - (i+1)) < P2 2000:=by rw [c3,ao,<-bK,<-j];exact hv
    obtain ⟨d,d1,d2,d3⟩:=Ye m (i+1) c (by omega) (by omega) c2 g
    refine ⟨d,by simp only [iter,a,ab];exact d1,d2,?_⟩
    rw [d3,c3,ao,<-bK,<-j]
   ·have a:cH [.flt .f64 f,.int .i64 (i:Int)]=some (.done 0 [.flt .f64 f]):=by
     unfold cH
     rw [af,ai,b,ab,decide_eq_false h,ag]
    refine ⟨f,by simp only [iter,a,ab],hf,?_⟩
    have:52 - i=0:=by omega
    rw [this,cV];omega
theorem adK {x:Nat} (h0:0 < x) (h:x < 2 ^ 52): ∃M j,M < 2 ^ 53/\2 ^ 52<=M/\j<=52/\M=x*2 ^ j:=by
 obtain ⟨c,b2⟩:=(bB (show x≠0 by omega)).1 rfl
 have d:x.log2 < 52:=(cb (by omega)).2 h
 have a:P2 (x.log2+1)*P2 (52 - x.log2)=P2 53:=by rw [<-bK,show x.log2+1+(52 - x.log2)=53 by omega]
 have b:P2 x.log2*P2 (52 - x.log2)=P2 52:=by rw [<-bK,show x.log2+(52 - x.log2)=52 by omega]
 rw [cV,cV,cV] at a b
 refine ⟨x*2 ^ (52 - x.log2),52 - x.log2,?_,?_,by omega,rfl⟩
 ·rw [<-a];exact ad b2 (aB _)
 ·rw [<-b];exact a5 _ c
theorem sub_one {f:Nat} (h1:pw 0<=f) (h2:f < pw 1): ∃c,aa .sub (.flt .f64 f) (.flt .f64 4607182418800017408)=some (.flt .f64 c)/\c < fInf/\val c=(mw f - 2 ^ 52)*P2 1022:=by
 obtain ⟨m,r,s,t⟩:=B5 h1 h2
 have hf:f < 2047*2 ^ 52:=by have:=acj;omega
 have hr:double.read 4607182418800017408= .number false (2 ^ 52) (-52):=by decide
 have hs:double.sub f 4607182418800017408=some (double.nearest (if ((mw f:Int) - 2 ^ 52=0) then false else decide ((mw f:Int) - 2 ^ 52 < 0)) (mw f - 2 ^ 52) (-52)):=by
  unfold Format.sub
  rw [tZ hf,hr,m]
  have hb:min (((1022:Nat):Int) - 1074) (-52)= -52:=by decide
  show ((Datum.sum (.number false (mw f) (((1022:Nat):Int) - 1074)) (.number true (2 ^ 52) (-52))).map double.write)=_
  unfold Datum.sum
  simp only [hb,cd]
  have p:(((1022:Nat):Int) - 1074 - -52).toNat=0:=by decide
  have q:((-52:Int) - -52).toNat=0:=by decide
  rw [p,q]
  have o:signed false (mw f) 0+signed true (2 ^ 52) 0=(mw f:Int) - 2 ^ 52:=by
   unfold signed
   simp only [a7,if_false,if_true,bd]
   omega
  rw [o]
  have hn:((mw f:Int) - 2 ^ 52).natAbs=mw f - 2 ^ 52:=by omega
  rw [hn]
  unfold Format.write
  simp only [Bool.false_and]
 have e:(if ((mw f:Int) - 2 ^ 52=0) then false else decide ((mw f:Int) - 2 ^ 52 < 0))=false:=by
  split
  ·rfl
  ·exact decide_eq_false (by omega)
 rw [e] at hs
 have d: ∀c,double.nearest false (mw f - 2 ^ 52) (-52)=c->aa .sub (.flt .f64 f) (.flt .f64 4607182418800017408)=some (.flt .f64 c):= λc hc=>by
  show some (IV.flt .f64 (Xj .f64 (double.sub f 4607182418800017408)))=_
  rw [hs,hc];rfl
 generalize u:mw f - 2 ^ 52=x at*
 have g:x < 2 ^ 52:=by omega
 rcases b6 x with h0 | h0
 ·subst h0
  refine ⟨0,d 0 (by decide),by show 0 < 2047*2 ^ 52;omega,by rw [val_zero];omega⟩
 ·obtain ⟨M,j,k,l,hj,n⟩:=adK h0 g
  have i:x*P2 1022=M*P2 (1022 - j):=by
   rw [n,<-cV,ao,<-bK,show j+(1022 - j)=1022 by omega]
  have b:((-52:Int)+1074).toNat=1022:=by decide
  have a:=vM (mag:=x) (place:= -52) (by omega) k (E:=1022 - j) (.inl l) (.inl ⟨by decide,by rw [<-cV,<-cV (1022 - j),b,i]⟩)
  have hc:(1022 - j)*2 ^ 52+M<=2047*2 ^ 52:=by omega
  have h:(1022 - j)*2 ^ 52+M < 2047*2 ^ 52:=by omega
  rw [b1 hc] at a
  exact ⟨_,d _ a,h,by rw [RX k (.inl l),i]⟩
theorem agx:wO=dZ:=rfl
theorem aht:xi=cW:=rfl
theorem agu:xm=cH:=rfl
theorem ahE:wR=cH:=rfl
theorem ag3:w9=cH:=rfl
theorem Vz {f0 S:Nat} (Q:S=0\/S=2 ^ 63) (h0:0 < f0) (hf:f0 < fInf):((iter rounds (dZ) [.flt .f64 f0,.int .u64 1023]).bind λl=>
  dY l.1 [(iter rounds (cW) [nth l.2 0,nth l.2 1]).bind λh=>
  dY h.1 [(aa .lss (nth h.2 0) (.flt .f64 4607182418800017408)).bind λv22=>
  ae v22 (λ_=>
  (iter rounds (cH) [nth h.2 0,.int .i64 0]).bind λv27=>
  dY v27.1 [(aa .shl (.int .u64 0) (.int .u64 52)).bind λv28=>
  (aa .add (.int .u64 (S:Int)) v28).bind λu=>
  (zO .u64 (nth v27.2 0)).bind λv30=>
  (aa .add u v30).bind λv=>
  av [v]]) (λ_=>
  (aa .sub (nth h.2 0) (.flt .f64 4607182418800017408)).bind λw=>
  (iter rounds (cH) [w,.int .i64 0]).bind λq=>
  dY q.1 [(aa .shl (nth h.2 1) (.int .u64 52)).bind λx=>
  (aa .add (.int .u64 (S:Int)) x).bind λy=>
  (zO .u64 (nth q.2 0)).bind λv40=>
  (aa .add y v40).bind λz=>
  av [z]])]])=some [.int .u64 ((S+f0:Nat):Int)]:=by
 have hr:rounds=1000000:=rfl
 have J:f0 < 2047*2 ^ 52:=hf
 have I:ReI f0 f0 1023:=⟨h0,hf,by omega,by omega,rfl⟩
 obtain ⟨f1,G,D,A,a3⟩:=Uu hf rounds f0 1023 I (by omega)
 obtain ⟨g,e,E,b2,C,F⟩:=Mj rounds f1 G A a3 (by have:=A.hi;omega)
 have M:=b2.lo
 have L:=b2.hi
 have hz:aa .shl (.int .u64 0) (.int .u64 52)=some (.int .u64 ((0:Nat):Int)):=by
  have:=xp (k:= .u64) (a:=0) (b:=52) (by omega) (by rw [cO];exact aB 64)
  rw [cO] at this
  exact this
 rw [show (IV.int .u64 1023)= .int .u64 ((1023:Nat):Int) from rfl,D,ab,aJ,af,ai,E,ab,aJ,af,ai,NQ,wh b2.fin (yP (show (0:Int)<=1023 by decide)),ab]
 rcases F with i | ⟨m,he⟩
 ·obtain ⟨q1,N,O,P⟩:=B5 i C
  obtain ⟨c,c1,c2,c3⟩:=sub_one i C
  have hv:val c*P2 (52 - 0) < P2 2000:=by
   rw [c3,ao,<-bK]
   calc (mw g - 2 ^ 52)*P2 (1022+(52 - 0)) < P2 53*P2 (1022+(52 - 0)):=ad (by rw [cV];omega) (jk _)
    _=P2 (53+(1022+(52 - 0))):=(bK _ _).symm
    _ < P2 2000:=aaU (by omega)
  obtain ⟨d,d1,d2,d3⟩:=Ye rounds 0 c (by omega) (by omega) c2 hv
  have s:zO .u64 (.flt .f64 d)=some (.int .u64 ((mw g - 2 ^ 52:Nat):Int)):=Mo d2 (by omega) (by rw [d3,c3,ao,<-bK])
  have K:f0=(e - 1)*2 ^ 52+mw g:=by
   have hh:=b2.eq
   have r:1022+(e+977)=(e - 1)+2000:=by omega
   rw [P,ao,<-bK,r,bK,<-ao] at hh
   have hv:=a1 (jk 2000) hh
   rw [<-RX O (.inl N)] at hv
   exact (val_inj hv).symm
  have n:S+f0=S+e*2 ^ 52+(mw g - 2 ^ 52):=by
   have:e*2 ^ 52=(e - 1)*2 ^ 52+2 ^ 52:=by omega
   omega
  have t: ¬g < pw 0:=Nat.not_lt.2 i
  have w1:aa .shl (.int .u64 (e:Int)) (.int .u64 52)=some (.int .u64 ((e*2 ^ 52:Nat):Int)):=xp (b:=52) (by omega) (by omega)
  have w2:aa .add (.int .u64 (S:Int)) (.int .u64 ((e*2 ^ 52:Nat):Int))=some (.int .u64 ((S+e*2 ^ 52:Nat):Int)):=oz (by omega)
  have w3:aa .add (.int .u64 ((S+e*2 ^ 52:Nat):Int)) (.int .u64 ((mw g - 2 ^ 52:Nat):Int))=some (.int .u64 ((S+e*2 ^ 52+(mw g - 2 ^ 52):Nat):Int)):=oz (by omega)
  rw [decide_eq_false t,ag,<-NQ,c1,ab,show (IV.int .i64 0)= .int .i64 ((0:Nat):Int) from rfl,d1,ab,aJ,w1,ab,w2,ab,af,s,ab,w3,ab,n]
  rfl
 ·subst he
  have hh:=b2.eq
  have r:2000=1022+(1+977):=by omega
  rw [r,bK 1022,<-ao] at hh
  have o:=a1 (jk _) hh
  have p:val g < P2 1074:=by have:=ng m;rw [qN (by omega)] at this;exact this
  have j:val f0 < 2 ^ 52:=by
   have H:val f0*P2 1022 < 2 ^ 52*P2 1022:=by
    calc val f0*P2 1022=val g:=o.symm
     _ < P2 1074:=p
     _=P2 52*P2 1022:=bK 52 1022
     _=2 ^ 52*P2 1022:=by rw [cV 52]
   exact bO H
  obtain ⟨t1,t2⟩:=Zm (f:=f0) rfl j
  have hv:val g*P2 (52 - 0) < P2 2000:=by
   calc val g*P2 (52 - 0) < P2 1074*P2 (52 - 0):=ad p (jk _)
    _=P2 (1074+(52 - 0)):=(bK _ _).symm
    _ < P2 2000:=aaU (by omega)
  obtain ⟨d,d1,d2,d3⟩:=Ye rounds 0 g (by omega) (by omega) b2.fin hv
  have s:zO .u64 (.flt .f64 d)=some (.int .u64 (f0:Int)):=Mo d2 (by omega) (by
   rw [d3,o,ao,<-bK,<-t2])
  have w2:aa .add (.int .u64 (S:Int)) (.int .u64 ((0:Nat):Int))=some (.int .u64 ((S+0:Nat):Int)):=oz (by omega)
  have w3:aa .add (.int .u64 ((S+0:Nat):Int)) (.int .u64 (f0:Int))=some (.int .u64 ((S+0+f0:Nat):Int)):=oz (by omega)
  rw [decide_eq_true m,ah,show (IV.int .i64 0)= .int .i64 ((0:Nat):Int) from rfl,d1,ab,aJ,hz,ab,w2,ab,af,s,ab,w3,ab]
  rfl
theorem Kg {w:Nat} (h0:0 < w) (h:w < fInf):ik (.flt .f64 w)=some [.bool false]:=by
 unfold ik
 rw [wh h (show 0 < fInf by decide),ab,decide_eq_false (ch w),ag,zI h (show 0 < fInf by decide),ab,decide_eq_false (by omega),ag,ab,af]
 rfl
theorem JY {w:Nat} (h0:0 < w) (h:w < fInf):ik (.flt .f64 (2 ^ 63+w))=some [.bool true]:=by
 unfold ik
 have:aa .lss (.flt .f64 (2 ^ 63+w)) (.flt .f64 0)=some (.bool true):=by
  show some (IV.bool (double.order (2 ^ 63+w) 0==some .lt))=_
  rw [Rc h0 h];rfl
 rw [this,ab,ah,ab,af]
 rfl
theorem Xw {x:Nat} (h:x < fInf):double.order (2 ^ 63+x) (2 ^ 63+x)=some .eq:=by
 unfold Format.order
 rw [WW h]
 show some (compare _ _)=_
 congr 1
 simp [compare,compareOfLessAndEq]
theorem CP {w:Nat} (h:w < 2 ^ 64):gL (.flt .f64 w)=some [.int .u64 (bitsN w:Int)]:=by
 rcases Tp w h with hn | rfl | rfl | rfl | rfl | ⟨h0,hf⟩ | ⟨x,rfl,h0,hf⟩
 ·have b:aa .neq (.flt .f64 w) (.flt .f64 w)=some (.bool true):=by
   show some (IV.bool (double.order w w !=some .eq))=_
   rw [B7 hn];rfl
  unfold gL bitsN
  rw [b,ab,ah,if_pos hn]
  rfl
 ·kernel_rfl
 ·kernel_rfl
 ·kernel_rfl
 ·kernel_rfl
 ·have hb:bitsN w=w:=by
   have:w < 2047*2 ^ 52:=hf
   unfold bitsN;rw [if_neg (by show ¬2047*2 ^ 52 < _;omega)]
  obtain ⟨c,d,_,e⟩:=mul_two h0 hf
  have a:=Vz (S:=0) (.inl rfl) h0 hf
  rw [cv] at a
  unfold gL
  rw [agx,aht,ahE,ag3]
  rw [Yd hf hf,ab,decide_eq_false (λhh=>hh rfl),ag,Kg h0 hf,ab,af,ag,zI hf (show 0 < fInf by decide),ab,decide_eq_false (by omega),ag,d,ab,e,ab,ag,hb]
  exact a
 ·have hb:bitsN (2 ^ 63+x)=2 ^ 63+x:=by
   have:x < 2047*2 ^ 52:=hf
   unfold bitsN;rw [if_neg (by show ¬2047*2 ^ 52 < _;omega)]
  obtain ⟨c,d,_,e⟩:=mul_two h0 hf
  have a:=Vz (S:=2 ^ 63) (.inr rfl) h0 hf
  have b:aa .neq (.flt .f64 (2 ^ 63+x)) (.flt .f64 (2 ^ 63+x))=some (.bool false):=by
   show some (IV.bool (double.order (2 ^ 63+x) (2 ^ 63+x)!=some .eq))=_
   rw [Xw hf];rfl
  unfold gL
  rw [agu]
  rw [b,ab,ag,JY h0 hf,ab,af,ah,show vp=some [.int .u64 ((2 ^ 63:Nat):Int)] from rfl,ab,Wa (b7 hf),ab,zI hf (show 0 < fInf by decide),ab,decide_eq_false (by omega),ag,d,ab,e,ab,ag,hb]
  exact a
end Go.AM
