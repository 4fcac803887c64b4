/- Scripts, plainly: what a deed does. -/
import Derived.Test.YtgoenohknokcmaaGreatCp
import Derived.Test.YtgoenohknokcmaaGreatTo
open Option renaming bind_some->ab
open List renaming mem_of_getElem?->ad,length_map->ao,getElem?_eq_getElem->a1,getElem?_eq_some_iff->a2,replicate->a5,eq_of_mem_replicate->a6,not_mem_nil->a7
open Bool renaming not_true->aB,not_false->a8
open Nat renaming le_succ->bb,le_refl->bd
set_option linter.unusedVariables false
set_option linter.unusedSimpArgs false
namespace Go.AM
structure Dd where
 kind:Int
 who:Int
 frm:Int
 at_:Int
 par:Int
 ch:Int
 nm:ByteArray
 rk:Nat
def eDd (d:Dd):List IV:=[.int .i64 d.kind,.int .i64 d.who,.int .i64 d.frm,.int .i64 d.at_,.int .i64 d.par,.int .i64 d.ch,.str d.nm,.flt .f64 d.rk]
abbrev Gz (l:List Dd):IV:= .lst (l.map eDd)
structure OKd (d:Dd):Prop where
 rk:d.rk < 2 ^ 64
 can:canF .f64 d.rk=d.rk
 who:in64 d.who
 at_:in64 d.at_
 par:in64 d.par
 ch:in64 d.ch
theorem ach {l:List Dd} {i:Nat} {x:Dd} (h:l[i]? =some x):aK (Gz l) (.int .i64 (i:Int)) 8=some i/\dN (Gz l) i 0 8=some (eDd x)/\dU (Gz l) i 0=some (.int .i64 x.kind)/\dU (Gz l) i 1=some (.int .i64 x.who)/\dU (Gz l) i 3=some (.int .i64 x.at_)/\dU (Gz l) i 6=some (.str x.nm):=
 ⟨ea h rfl (by decide),rK h rfl,by rw [b8 h];rfl,by rw [b8 h];rfl,by rw [b8 h];rfl,by rw [b8 h];rfl⟩
def eR (r:Rep):List IV:=Ya r []
abbrev Lg (l:List Rep):IV:= .lst (l.map eR)
structure Wd where
 reps:List Rep
 pool:List Mv
inductive Did (w:Wd) (d:Dd):Wd->Int->Prop
 | refused (e:Int) (h:e≠0):Did w d w e
 | made (i:Nat) (r:Rep) (m:Mv) (hi:w.reps[i]? =some r) (hw:d.who=(i:Int)+1) (hk:d.kind=1) (hm:OKm m) (h1:oneV m=true) (hb:befB r.fc r.fr m.c m.r=true) (hr:m.r=(i:Int)+1) (hc: ∀x,getM r.mks x < m.c):Did w d ⟨w.reps.set i (addF r m).1,w.pool++[m]⟩ 0
 | came (i:Nat) (r:Rep) (m:Mv) (j:Nat) (hi:w.reps[i]? =some r) (hw:d.who=(i:Int)+1) (hk:d.kind=2) (hj:d.at_=(j:Int)) (hp:w.pool[j]? =some m) (hb:befB r.fc r.fr m.c m.r=true):Did w d ⟨w.reps.set i (addF r m).1,w.pool⟩ 0
 | pruned (i:Nat) (r:Rep) (hi:w.reps[i]? =some r) (hw:d.who=(i:Int)+1) (hk:d.kind=3) (hn:knownB r.mks d.at_ d.frm=true):Did w d ⟨w.reps.set i (pruneF r d.at_ d.frm).1,w.pool⟩ 0
 | loaded (i:Nat) (r:Rep) (hi:w.reps[i]? =some r) (hw:d.who=(i:Int)+1) (hk:d.kind=4):Did w d w 0
structure WI (k:Nat) (w:Wd):Prop where
 few:w.reps.length<=8
 reps: ∀r∈w.reps,OkRep r/\r.base.length+r.log.length<=k/\r.mks.length<=k
 pool: ∀m∈w.pool,OKm m/\oneV m=true
 plen:w.pool.length<=k
theorem WI.sm {k:Nat} {w:Wd} (h:WI k w) {r:Rep} (hr:r∈w.reps):SmF k r:=by
 obtain ⟨_,h2,a⟩:=h.reps r hr
 exact ⟨by omega,by omega,a⟩
theorem WI.mono {k n:Nat} {w:Wd} (h:WI k w) (a:k<=n):WI n w:=
 ⟨h.few,λr hr=>by obtain ⟨h1,h2,b⟩:=h.reps r hr;exact ⟨h1,by omega,by omega⟩,h.pool,by have:=h.plen;omega⟩
theorem mem_set {α:Type} {l:List α} {i:Nat} {x y:α} (h:y∈l.set i x):y∈l\/y=x:=by
 rcases List.mem_or_eq_of_mem_set h with h | h
 ·exact .inl h
 ·exact .inr h
theorem WI.set {k:Nat} {w:Wd} (h:WI k w) {i:Nat} {r:Rep} (hr:OkRep r/\r.base.length+r.log.length<=k/\r.mks.length<=k):WI k ⟨w.reps.set i r,w.pool⟩:=
 ⟨by simp [h.few],λq a=>by
   rcases mem_set a with a | rfl
   ·exact h.reps q a
   ·exact hr,h.pool,h.plen⟩
theorem XA {k:Nat} {r:Rep} (hk:k<=300) (h:OkRep r/\r.base.length+r.log.length<=k/\r.mks.length<=k) {m:Mv} (hm:OKm m):OkRep (addF r m).1/\(addF r m).1.base.length+(addF r m).1.log.length<=k+1/\(addF r m).1.mks.length<=k+1:=by
 obtain ⟨h1,h2,b⟩:=h
 have hs:SmF k r:=⟨by omega,by omega,b⟩
 have hb:=(Xa r m).2.2
 have a:=hs.add m
 refine ⟨⟨abh h1.may (hs.mono (by omega)) m,h1.ok.add hm⟩,?_,a.mks⟩
 rw [hb]
 have:(addF r m).1.log.length<=r.log.length+1:=by
  have:=zN r.log m
  unfold addF
  split<;>(try split)<;>(try split)<;>simp<;>omega
 omega
theorem acC {k:Nat} {r:Rep} (hk:k<=300) (h:OkRep r/\r.base.length+r.log.length<=k/\r.mks.length<=k) (c t:Int):OkRep (pruneF r c t).1/\(pruneF r c t).1.base.length+(pruneF r c t).1.log.length<=k/\(pruneF r c t).1.mks.length<=k:=by
 obtain ⟨h1,h2,b⟩:=h
 have hs:SmF k r:=⟨by omega,by omega,b⟩
 refine ⟨⟨Yx h1.may (hs.mono (by omega)) c t,h1.ok.prune c t⟩,?_,by rw [Yf];exact b⟩
 have d:=uZ r.log c t
 have a:=rj (r.log.take (r.log.length - (CH r.log c t).length)) r.base
 simp only [List.length_take] at a
 unfold pruneF
 split<;>(try split)<;>simp only<;>omega
theorem Did.keeps {k:Nat} {w w':Wd} {d:Dd} {e:Int} (b:Did w d w' e) (h:WI k w) (hk:k<=300):WI (k+1) w':=by
 cases b with
 | refused e he=>exact h.mono (bb _)
 | made i r m hi hw c hm h1 hb hr hc=>
   have:=(h.mono (bb k)).set (i:=i) (XA hk (h.reps r (ad hi)) hm)
   refine ⟨this.few,this.reps,λx a=> ?_,?_⟩
   ·rcases List.mem_append.1 a with a | a
    ·exact h.pool x a
    ·simp at a;subst a;exact ⟨hm,h1⟩
   ·have:=h.plen;simp;omega
 | came i r m j hi hw f hj hp hb=>exact (h.mono (bb k)).set (i:=i) (XA hk (h.reps r (ad hi)) (h.pool m (ad hp)).1)
 | pruned i r hi hw g hn=>
   have hp:=acC hk (h.reps r (ad hi)) d.at_ d.frm
   exact (h.mono (bb k)).set (i:=i) ⟨hp.1,by omega,by omega⟩
 | loaded i r hi hw l=>exact h.mono (bb _)
theorem ajD {l:List Rep} {i:Nat} {x:Rep} (h:l[i]? =some x):dN (Lg l) i 0 5=some (eR x):=rK h rfl
theorem DN {w:Wd} {i:Nat} {r:Rep} (hi:w.reps[i]? =some r) (hl:w.reps.length<=8):bk (Lg w.reps) (bg w.pool) (.int .i64 ((i:Int)+1))=some [Lg w.reps,bg w.pool,cr r.base,.int .i64 r.fc,.int .i64 r.fr,bg r.log,aA r.mks,.bool true]:=by
 have a:=(a2.1 hi).1
 have b: ¬((i:Int)+1 < 1):=by omega
 have c: ¬((w.reps.length:Int) < (i:Int)+1):=by omega
 have hs:aa .sub (.int .i64 ((i:Int)+1)) (.int .i64 1)=some (.int .i64 (i:Int)):=by
  rw [pU (by omega) (by omega)];congr 2;omega
 unfold bk
 simp only [al,b,decide_false,ag,ab,aW,cx,ao,c,af,hs,e9 a,ajD hi,eR,Ya]
 rfl
theorem WV {w:Wd} {who:Int} (h:who < 1\/(w.reps.length:Int) < who):bk (Lg w.reps) (bg w.pool) (.int .i64 who)=some [Lg w.reps,bg w.pool,.lst [],.int .i64 0,.int .i64 0,.lst [],.lst [],.bool false]:=by
 unfold bk
 simp only [al,ab,aW,cx,ao]
 by_cases h1:who < 1
 ·simp [h1]
 ·have h2:(w.reps.length:Int) < who:=by omega
  simp [h1,h2]
theorem Zg {l:List Rep} {i:Nat} {x y:Rep} (h:l[i]? =some x):rU (Lg l) i 0 [cr y.base,.int .i64 y.fc,.int .i64 y.fr,bg y.log,aA y.mks]=some (Lg (l.set i y)):=by
 simp only [rU,List.getElem?_map,h,Option.map_some,ab]
 rw [if_pos (by simp [eR,Ya])]
 rw [show setCells (eR x) 0 [cr y.base,.int .i64 y.fc,.int .i64 y.fr,bg y.log,aA y.mks]=eR y from rfl,<-List.map_set]
theorem ZP {l:List Rep} {i:Nat} {x:Rep} (h:l[i]? =some x):l.set i x=l:=by
 obtain ⟨h1,h2⟩:=a2.1 h
 rw [<-h2];simp
set_option maxHeartbeats 2000000 in
theorem adP {k:Nat} {w:Wd} (h:WI k w) (hk:k<=300) {d:Dd} (R:OKd d): ∃w' e,aL (Lg w.reps) (bg w.pool) (.int .i64 d.kind) (.int .i64 d.who) (.int .i64 d.frm) (.int .i64 d.at_) (.int .i64 d.par) (.int .i64 d.ch) (.str d.nm) (.flt .f64 d.rk)=some [Lg w'.reps,bg w'.pool,.int .i64 e]/\Did w d w' e/\(∀m,d.kind=2->1<=d.who->d.who<=(w.reps.length:Int)->0<=d.at_->w.pool[d.at_.toNat]? =some m->(∀r,w.reps[(d.who - 1).toNat]? =some r->befB r.fc r.fr m.c m.r=true)->e=0):=by
 by_cases hw:d.who < 1\/(w.reps.length:Int) < d.who
 ·refine ⟨w,1,?_,.refused 1 (by decide),λm _ T U=>by omega⟩
  have d2: ∀a b c d e f g h:IV,([a,b,c,d,e,f,g,h]:List IV).drop 2=[c,d,e,f,g,h]:= λ_ _ _ _ _ _ _ _=>rfl
  unfold aL
  simp only [WV hw,ab,d2,bL,aX,a8,ah,af,ai]
 ·obtain ⟨i,hi⟩: ∃i:Nat,d.who=(i:Int)+1:=⟨(d.who - 1).toNat,by omega⟩
  have N:i < w.reps.length:=by omega
  have hr:=a1 N
  generalize w.reps[i]=r at hr
  have hmem:=ad hr
  have C:=DN hr h.few
  obtain ⟨G,aT,a0⟩:=h.reps r hmem
  have I:=h.sm hmem
  have ac:=h.few
  have d2: ∀a b c d e f g h:IV,([a,b,c,d,e,f,g,h]:List IV).drop 2=[c,d,e,f,g,h]:= λ_ _ _ _ _ _ _ _=>rfl
  have u:aa .sub (.int .i64 ((i:Int)+1)) (.int .i64 1)=some (.int .i64 (i:Int)):=by
   rw [pU (by omega) (by omega)];congr 2;omega
  have E:cA w.reps.length (.int .i64 (i:Int))=some i:=e9 N
  have D:aa .eql (.int .i64 0) (.int .i64 0)=some (.bool true):=rfl
  have n7: ∀a b c d e f g h:IV,nth [a,b,c,d,e,f,g,h] 7=h:= λ_ _ _ _ _ _ _ _=>rfl
  by_cases k1:d.kind=1
  ·have A: ¬((1:Int)≠d.kind):=by omega
   by_cases hn:4611686018427387903<=GC r.mks (max 0 r.fc)\/d.who < 1\/255 < d.who
   ·refine ⟨w,10,?_,.refused 10 (by decide),λm g=>by omega⟩
    have F:=C3 (v:=r.mks) (by omega) r.fc r.fr d.who
    unfold YL at F
    rw [if_pos hn,hi] at F
    have s:aa .eql (.int .i64 10) (.int .i64 0)=some (.bool false):=rfl
    rw [hi]
    unfold aL dR
    simp only [C,ab,d2,bL,aX,aB,ag,af,ai,ay,az,bH,di,A,decide_false,F,a8,ah,s]
   ·obtain ⟨m,p⟩: ∃m:Mv,m=⟨GC r.mks (max 0 r.fc)+1,d.who,d.par,d.ch,d.nm,d.rk⟩:=⟨_,rfl⟩
    have hm:OKm m:=by rw [p];exact ⟨R.rk,R.can,R.ch,R.par⟩
    have F:=C3 (v:=r.mks) (by omega) r.fc r.fr d.who
    unfold YL at F
    rw [if_neg hn,hi] at F
    have z:=xQ (I.mono (by omega)) G.ok hm
    rw [p] at z
    simp only at z
    rw [<-p,hi] at z
    have q:befB r.fc r.fr m.c m.r=true:=by
     have:=KA r.mks (max 0 r.fc)
     rw [L3,p];left;simp only;omega
    have o:=Wm G.may m
    have W:bU 6 56 (bg w.pool) (.lst [[.int .i64 (GC r.mks (max 0 r.fc)+1),.int .i64 ((i:Int)+1),.int .i64 d.par,.int .i64 d.ch,.str d.nm,.flt .f64 d.rk]])=some (bg (w.pool++[m])):=by
     have:=SX (l:=w.pool) (k:=[m]) (by have:=h.plen;omega) (by simp)
     rw [p] at this ⊢
     simp only [List.map_cons,List.map_nil,eMv,hi] at this ⊢
     exact this
    by_cases h1:oneV m=true
    ·rw [if_pos h1,if_pos q] at o
     refine ⟨⟨w.reps.set i (addF r m).1,w.pool++[m]⟩,0,?_,.made i r m hr hi k1 hm h1 q (by rw [p];exact hi) (λx=> ?_),λm g=>by omega⟩
     ·rw [o] at z
      rw [hi]
      unfold aL dR
      simp only [C,ab,d2,bL,aX,aB,ag,af,ai,ay,az,bH,nR,di,A,decide_false,F,z,D,ah,W,u,cx,ao,E,Zg hr]
     ·have:=UE (v:=r.mks) (n:=max 0 r.fc) (by omega) x
      rw [p];simp only;omega
    ·rw [if_neg h1] at o
     have M:=acs (r:=r) (m:=m) (by rw [o];decide)
     have s:aa .eql (.int .i64 1) (.int .i64 0)=some (.bool false):=rfl
     refine ⟨w,1,?_,.refused 1 (by decide),λm g=>by omega⟩
     rw [o] at z
     rw [hi]
     unfold aL dR
     simp only [C,ab,d2,bL,aX,aB,ag,af,ai,ay,az,bH,nR,di,A,decide_false,F,z,s]
  ·have A:(1:Int)≠d.kind:= λe=>k1 e.symm
   by_cases J:d.kind=2
   ·have b2: ¬((2:Int)≠d.kind):=by omega
    by_cases ha:d.at_ < 0\/(w.pool.length:Int)<=d.at_
    ·have s:aa .eql (.int .i64 1) (.int .i64 0)=some (.bool false):=rfl
     refine ⟨w,1,?_,.refused 1 (by decide),λm _ _ _ g0 g=> ?_⟩
     ·rw [hi]
      unfold aL de
      simp only [C,ab,d2,bL,aX,aB,ag,af,ai,ay,az,bH,di,ne_eq,A,not_false_eq_true,decide_true,ah,b2,decide_false,al,dw,cx,ao]
      by_cases L:d.at_ < 0
      ·simp only [L,decide_true,ah,ab,af,ai,d2,bL,s,ag]
      ·have V:(w.pool.length:Int)<=d.at_:=by omega
       simp only [L,V,decide_true,decide_false,ah,ab,af,ai,d2,bL,s,ag]
     ·have:=(a2.1 g).1
      omega
    ·obtain ⟨j,hj⟩: ∃j:Nat,d.at_=(j:Int):=⟨d.at_.toNat,by omega⟩
     have O:j < w.pool.length:=by omega
     have hm:=a1 O
     generalize w.pool[j]=m at hm
     obtain ⟨Y,X⟩:=h.pool m (ad hm)
     have z:=xQ (I.mono (by omega)) G.ok Y
     have o:=Wm G.may m
     rw [if_pos X] at o
     have T: ¬((j:Int) < 0):=by omega
     have U: ¬((w.pool.length:Int)<=(j:Int)):=by omega
     obtain ⟨_,_,Z,_⟩:=uX hm
     have P:cA w.pool.length (.int .i64 (j:Int))=some j:=e9 O
     by_cases q:befB r.fc r.fr m.c m.r=true
     ·rw [if_pos q] at o
      refine ⟨⟨w.reps.set i (addF r m).1,w.pool⟩,0,?_,.came i r m j hr hi J hj hm q,λ_ _ _ _ _ _ _=>rfl⟩
      rw [o] at z
      rw [hi,hj]
      unfold aL de
      simp only [C,ab,d2,bL,aX,aB,ag,af,ai,ay,az,bH,nR,di,ne_eq,A,not_false_eq_true,decide_true,ah,b2,decide_false,al,T,dw,cx,ao,U,P,Z,z,D,u,E,Zg hr]
     ·rw [if_neg q] at o
      have s:aa .eql (.int .i64 9) (.int .i64 0)=some (.bool false):=rfl
      refine ⟨w,9,?_,.refused 9 (by decide),λm' _ _ _ _ g hf=> ?_⟩
      ·rw [o] at z
       rw [hi,hj]
       unfold aL de
       simp only [C,ab,d2,bL,aX,aB,ag,af,ai,ay,az,bH,nR,di,ne_eq,A,not_false_eq_true,decide_true,ah,b2,decide_false,al,T,dw,cx,ao,U,P,Z,z,s]
      ·rw [hj] at g
       simp only [Int.toNat_natCast] at g
       rw [hm] at g;cases g
       exact absurd (hf r (by rw [hi,show ((i:Int)+1 - 1).toNat=i by omega];exact hr)) q
   ·have b2:(2:Int)≠d.kind:= λe=>J e.symm
    by_cases k3:d.kind=3
    ·have K: ¬((3:Int)≠d.kind):=by omega
     have Q:=Mw (I.mono (by omega)) G.ok d.at_ d.frm
     have o:=Xq G.may (c:=d.at_) (t:=d.frm)
     by_cases hn:knownB r.mks d.at_ d.frm=true
     ·rw [if_pos hn] at o
      refine ⟨⟨w.reps.set i (pruneF r d.at_ d.frm).1,w.pool⟩,0,?_,.pruned i r hr hi k3 hn,λm g=>absurd g J⟩
      rw [o] at Q
      rw [hi]
      unfold aL fS
      simp only [C,ab,d2,bL,aX,aB,ag,af,ai,ay,az,bH,nR,di,ne_eq,A,b2,not_false_eq_true,decide_true,ah,K,decide_false,Q,D,u,cx,ao,E,Zg hr]
     ·rw [if_neg hn] at o
      have M:=Xk (r:=r) (c:=d.at_) (t:=d.frm) (by rw [o];decide)
      have s:aa .eql (.int .i64 1) (.int .i64 0)=some (.bool false):=rfl
      refine ⟨w,1,?_,.refused 1 (by decide),λm g=>absurd g J⟩
      rw [o] at Q
      rw [hi]
      unfold aL fS
      simp only [C,ab,d2,bL,aX,aB,ag,af,ai,ay,az,bH,nR,di,ne_eq,A,b2,not_false_eq_true,decide_true,ah,K,decide_false,Q,s]
    ·have K:(3:Int)≠d.kind:= λe=>k3 e.symm
     by_cases k4:d.kind=4
     ·have S: ¬((4:Int)≠d.kind):=by omega
      have hS:=vX G
      have hL:=Dn G
      unfold Ya at hL
      refine ⟨w,0,?_,.loaded i r hr hi k4,λm g=>absurd g J⟩
      have H:=Zg (y:=r) hr
      rw [ZP hr] at H
      rw [hi]
      unfold aL iV
      simp only [C,ab,d2,bL,aX,aB,ag,af,ai,ay,az,bH,nR,di,ne_eq,A,b2,K,not_false_eq_true,decide_true,ah,S,decide_false,hS,not_true_eq_false,hL,D,u,cx,ao,E,H]
     ·have S:(4:Int)≠d.kind:= λe=>k4 e.symm
      refine ⟨w,1,?_,.refused 1 (by decide),λm g=>absurd g J⟩
      rw [hi]
      unfold aL
      simp only [C,ab,d2,bL,aX,aB,ag,af,ai,di,ne_eq,A,b2,K,S,not_false_eq_true,decide_true,ah]
end Go.AM
namespace Go.AM
abbrev ahb:List Sh:=[.int .i64,.int .i64,.int .i64,.int .i64,.int .i64,.int .i64,.str,.flt .f64]
theorem afR (e:List IV) (h:Typed ahb e): ∃x,e=eDd x/\OKd x:=by
 obtain ⟨r,_,rfl,h0,h⟩:=h.cons_inv
 obtain ⟨c1,_,rfl,h1,h⟩:=h.cons_inv
 obtain ⟨c2,_,rfl,h2,h⟩:=h.cons_inv
 obtain ⟨c3,_,rfl,a,h⟩:=h.cons_inv
 obtain ⟨c4,_,rfl,b,h⟩:=h.cons_inv
 obtain ⟨c5,_,rfl,c,h⟩:=h.cons_inv
 obtain ⟨c6,_,rfl,d,h⟩:=h.cons_inv
 obtain ⟨c7,_,rfl,f,h⟩:=h.cons_inv
 cases h.nil_inv
 obtain ⟨g,rfl,w0⟩:=qO h0
 obtain ⟨i,rfl,w1⟩:=qO h1
 obtain ⟨j,rfl,w2⟩:=qO h2
 obtain ⟨k,rfl,w3⟩:=qO a
 obtain ⟨l,rfl,n⟩:=qO b
 obtain ⟨m,rfl,o⟩:=qO c
 cases d
 obtain ⟨n7,rfl,p,q⟩:=Y7 f
 exact ⟨⟨g,i,j,k,l,m,_,n7⟩,rfl,p,q,w1,w3,n,o⟩
theorem adb {cs:List IV} (h:Typed [.slc ahb] cs): ∃v:List Dd,cs=[Gz v]/\ ∀d∈v,OKd d:=by
 obtain ⟨c,rfl,h1⟩:=h.one_inv
 obtain ⟨l,rfl,hl⟩:=h1.list_invP afR
 exact ⟨l,rfl,hl⟩
end Go.AM
namespace Go.AM
def Yj:Rep:=⟨[],0,0,[],[]⟩
theorem M5:MayF Yj:=BB.1 rfl
theorem Y6:OkRep Yj:=⟨M5,⟨λy a=>absurd a a7,λy a=>absurd a a7⟩⟩
structure EngF (i:Nat) (r:Rep):Prop where
 may:MayF r
 ok:OKF r
 base:r.base=[]
 fc:r.fc=0
 fr:r.fr=0
 log:r.log.length<=i
 mks:r.mks.length<=i
theorem TwoF.self {a:Rep} (h:MayF a):TwoF [] a a:=by
 refine ⟨rfl,rfl,rfl,h,h,λx c=>absurd c a7,?_⟩
 cases b:befB a.fc a.fr a.fc a.fr with
 | false=>rfl
 | true=>rw [L3] at b;omega
def Gh (k:Nat) (b a:Rep):Prop:=EngF k a/\ ∃E,TwoF E a b
theorem Gh.nil:Gh 0 Yj Yj:=⟨⟨M5,Y6.ok,rfl,rfl,rfl,bd _,bd _⟩,[],.self M5⟩
def GhA (k:Nat) (w:Wd) (gs:List Rep):Prop:=gs.length=w.reps.length/\ ∀(i:Nat) (b a:Rep),w.reps[i]? =some b->gs[i]? =some a->Gh k b a
theorem acW {k:Nat} {w:Wd} (h:WI k w) (hk:k<=300) {i:Nat} {r:Rep} (hi:w.reps[i]? =some r):eu (Lg w.reps) (bg w.pool) (.int .i64 ((i:Int)+1))=some [Lg w.reps,bg w.pool,cr (allV r.base r.log)]:=by
 have j:=DN hi h.few
 have hm:=ad hi
 have l:=vL ((h.sm hm).mono (show k<=2000 by omega)) (h.reps r hm).1.ok (.int .i64 r.fc) (.int .i64 r.fr) (aA r.mks)
 have d2: ∀a b c d e f g h:IV,([a,b,c,d,e,f,g,h]:List IV).drop 2=[c,d,e,f,g,h]:= λ_ _ _ _ _ _ _ _=>rfl
 unfold eu
 simp only [j,ab,d2,af,ai,ay,az,bH,l]
theorem aa4 {l:List Dd} {n:Nat} (hr:n < 999999): ∃b,kr (Gz l) (.int .i64 (n:Int))=some [.bool b]/\(b=true->l.length<=n):=by
 unfold kr
 simp only [aw,ab,ao,aW]
 by_cases hl:(n:Int) < (l.length:Int)
 ·exact ⟨false,by simp only [hl,decide_true,ah];rfl,λh=>by cases h⟩
 ·· simp only [hl,decide_false,ag]
    rw [qI (λi=>[.int .i64 (i:Int)]) (λ_ d=>decide (100 < d.nm.size)) 1 [.bool false] 0 [] l (by simp) (by rw [aI];omega) (λi x c=> ?_) (by
     unfold tP
     simp)]
    ·cases anyI (λ_ d=>decide (100 < d.nm.size)) l 0 with
     | true=>exact ⟨false,rfl,λh=>by cases h⟩
     | false=>exact ⟨true,rfl,λ_=>by omega⟩
    ·obtain ⟨f,_,_,_,_,g⟩:=ach c
     have a:((i:Int) < (l.length:Int)):=by have:=(a2.1 c).1;omega
     unfold tP
     simp only [af,aw,ao,ab,al,a,decide_true,ah,f,g,qG,aW,aZ,au (show i < 2 ^ 62 by have:=(a2.1 c).1;omega)]
     by_cases e:100 < x.nm.size
     ·have:(100:Int) < (x.nm.size:Int):=by omega
      simp [e,this]
     ·have: ¬(100:Int) < (x.nm.size:Int):=by omega
      simp [e,this]
end Go.AM
namespace Go.AM
def Tq (n:Nat):Wd:=⟨a5 n Yj,[]⟩
theorem ad1 {n:Nat} (h:n<=8):WI 0 (Tq n)/\GhA 0 (Tq n) (a5 n Yj):=by
 refine ⟨⟨by simp [Tq,h],λr hr=> ?_,λm hm=>absurd hm a7,bd _⟩,by simp [Tq],λi b a h1 h2=> ?_⟩
 ·rw [a6 hr];exact ⟨Y6,bd _,bd _⟩
 ·rw [a6 (ad h1),a6 (ad h2)];exact Gh.nil
theorem adt {n:Nat} (h:n<=8):kM 88 [.lst [],.int .i64 0,.int .i64 0,.lst [],.lst []] (.int .i64 (n:Int)) (.int .i64 (n:Int))=some (Lg (Tq n).reps):=by
 simp only [kM]
 rw [if_pos ⟨trivial,by omega,by simp;omega⟩]
 simp [Tq,eR,Ya,Yj]
end Go.AM
namespace Go.AM
theorem UW (a b c d e f g h:IV):fg a b c d e f g h=some [.int .i64 1]:=rfl
theorem Vv {l:List Dd} (hl:l.length<=100):iter rounds (ct (.int .i64 (l.length:Int)) (Gz l)) [.lst [],.int .i64 0]=some (0,[bu (a5 l.length 1)]):=by
 rw [ba (λi=>[bu (a5 i 1),.int .i64 (i:Int)]) l.length 0 [bu (a5 l.length 1)] (by simp) (by omega) (λi hi=> ?_) (by
  unfold ct
  simp)]
 have c:=a1 hi
 generalize l[i]=d at c
 obtain ⟨f,g,_⟩:=ach c
 have b:((i:Int) < (l.length:Int)):=by omega
 have a:=qq (l:=a5 i 1) (n:=1) (by simp;omega)
 have e:a5 (i+1) (1:Int)=a5 i 1++[1]:=List.replicate_succ'
 rw [e]
 unfold ct
 simp only [af,ai,al,b,decide_true,ah,ab,f,g,UW,a,au (show i < 2 ^ 62 by omega)]
theorem WE {l:List Dd} (hl:l.length<=40) (u: ∀d∈l,OKd d) {n:Nat}: ∀(k m i:Nat) (w:Wd) (es:List Int),i+k=l.length->k < m->es.length=i->WI i w->w.reps.length=n->
  ∃w' f,iter m (cC (.int .i64 (l.length:Int)) (Gz l)) [Lg w.reps,bg w.pool,bu es,.int .i64 (i:Int)]=some (0,[Lg w'.reps,bg w'.pool,bu f])/\WI l.length w'/\w'.reps.length=n/\f.length=l.length
 | 0,m,i,w,es,hi,hm,he,h,hn=>by
   obtain ⟨m,rfl⟩: ∃s,m=s+1:=⟨m - 1,by omega⟩
   have o:i=l.length:=by omega
   refine ⟨w,es,fL m ?_,o▸h,hn,by omega⟩
   have: ¬((i:Int) < (l.length:Int)):=by omega
   unfold cC
   simp only [az,al,this,decide_false,ag,ab,af,ai,ay]
 | k+1,m,i,w,es,hi,hm,he,h,hn=>by
   obtain ⟨m,rfl⟩: ∃s,m=s+1:=⟨m - 1,by omega⟩
   have r:=a1 (show i < l.length by omega)
   generalize l[i]'(show i < l.length by omega)=d at r
   obtain ⟨v,x,_⟩:=ach r
   have p:((i:Int) < (l.length:Int)):=by omega
   obtain ⟨w',e,A,t,_⟩:=adP h (by omega) (u d (ad r))
   have C:=t.keeps h (by omega)
   have q:w'.reps.length=n:=by cases t<;>simpa using hn
   have d3: ∀a b c:IV,([a,b,c]:List IV).drop 2=[c]:= λ_ _ _=>rfl
   have j:=qq (l:=es) (n:=e) (by omega)
   obtain ⟨w2,g,y,z⟩:=WE hl u k m (i+1) w' (es++[e]) (by omega) (by omega) (by simp [he]) C q
   refine ⟨w2,g,?_,z⟩
   rw [mB m (vs':=[Lg w'.reps,bg w'.pool,bu (es++[e]),.int .i64 ((i+1:Nat):Int)]),y]
   unfold cC
   simp only [af,ai,ay,az,al,p,decide_true,ah,ab,v,x,eDd,bH,bL,nR,B8,A,d3,j,au (show i < 2 ^ 62 by omega)]
theorem QL {ms:List Mv} (d: ∀m∈ms,OKm m) (g:ms.length<=10): ∀(k n i:Nat) (r:Rep),i+k=ms.length->k < n->(OkRep r/\r.base.length+r.log.length<=100+i/\r.mks.length<=100+i)->
  ∃c,OkRep c/\iter n (jn (bg ms)) [cr r.base,.int .i64 r.fc,.int .i64 r.fr,bg r.log,aA r.mks,cr r.base,.int .i64 r.fc,.int .i64 r.fr,bg r.log,aA r.mks,.int .i64 (i:Int)]=some (0,[cr c.base,.int .i64 c.fc,.int .i64 c.fr,bg c.log,aA c.mks,cr c.base,.int .i64 c.fc,.int .i64 c.fr,bg c.log,aA c.mks])
 | 0,n,i,r,hi,hn,h=>by
   obtain ⟨n,rfl⟩: ∃l,n=l+1:=⟨n - 1,by omega⟩
   have: ¬((i:Int) < (ms.length:Int)):=by omega
   refine ⟨r,h.1,fL n ?_⟩
   unfold jn
   simp only [aw,ao,ab,n10,al,this,decide_false,ag,af,ai,ay,az,bH,bL,nR,B8,n8,n9]
 | k+1,n,i,r,hi,hn,h=>by
   obtain ⟨n,rfl⟩: ∃l,n=l+1:=⟨n - 1,by omega⟩
   have j:=a1 (show i < ms.length by omega)
   generalize ms[i]'(show i < ms.length by omega)=m at j
   have hm:=d m (ad j)
   obtain ⟨a0,q,s,a3⟩:=uX j
   have f:((i:Int) < (ms.length:Int)):=by omega
   obtain ⟨h1,h2,v⟩:=h
   have w:=xQ (r:=r) (m:=m) ⟨by omega,by omega,by omega⟩ h1.ok hm
   have h':=XA (by omega) ⟨h1,h2,v⟩ hm
   obtain ⟨c,t,u⟩:=QL d g k n (i+1) (addF r m).1 (by omega) (by omega) h'
   refine ⟨c,t,?_⟩
   rw [mB n,u]
   have x:=vL h'.1.sm h'.1.ok (.int .i64 (addF r m).1.fc) (.int .i64 (addF r m).1.fr) (aA (addF r m).1.mks)
   have o:OKl (allV (addF r m).1.base (addF r m).1.log):=OKl.allV h'.1.ok.base h'.1.ok.log
   have p:=wj (a:=allV (addF r m).1.base (addF r m).1.log) (b:=allV (addF r m).1.base (addF r m).1.log) (by have:=rj (addF r m).1.log (addF r m).1.base;omega) o.fl o.fl
   rw [DL] at p
   have hb: ∀b:Bool,H9 .neq (.bool b) (.bool b)=some (.bool false):= λb=>by cases b<;>rfl
   have he: ∀e:Int,aa .neq (.int .i64 e) (.int .i64 e)=some (.bool false):= λe=>by rw [di];simp
   unfold jn
   simp only [aw,ao,ab,n10,al,f,decide_true,ah,af,ai,ay,az,bH,bL,nR,B8,n8,n9,q,s,w,hb,he,ag,x,p,aX,aB,au (show i < 2 ^ 62 by omega)]
set_option maxHeartbeats 2000000 in
theorem abm {k n:Nat} {w:Wd} (h:WI k w) (hk:k<=40) (hn:w.reps.length=n) {ms:List Mv} (y: ∀m∈ms,OKm m) (x:ms.length<=10):iter rounds (nX (bg ms)) [Lg w.reps,bg w.pool,.int .i64 1]=some (0,[]):=by
 have s:=h.few
 have d3: ∀a b c:IV,([a,b,c]:List IV).drop 2=[c]:= λ_ _ _=>rfl
 have d4: ∀a b c d:IV,([a,b,c,d]:List IV).drop 2=[c,d]:= λ_ _ _ _=>rfl
 have d8: ∀a b c d e f g h:IV,([a,b,c,d,e,f,g,h]:List IV).drop 2=[c,d,e,f,g,h]:= λ_ _ _ _ _ _ _ _=>rfl
 have l:ja (Lg w.reps) (bg w.pool)=some [Lg w.reps,bg w.pool,.int .i64 (n:Int)]:=by
  unfold ja
  simp only [cx,ao,hn]
 rw [ba (λi=>[Lg w.reps,bg w.pool,.int .i64 ((i:Int)+1)]) n 0 [] (by simp) (by omega) (λi hi=> ?_) (by
  have: ¬((n:Int)+1<=(n:Int)):=by omega
  unfold nX
  simp only [af,ai,ay,l,d3,ab,gG,this,decide_false,ag])]
 have hr:=a1 (show i < w.reps.length by omega)
 generalize w.reps[i]'(show i < w.reps.length by omega)=r at hr
 obtain ⟨j,hb,hm⟩:=h.reps r (ad hr)
 have hle:((i:Int)+1<=(n:Int)):=by omega
 have D:=DN hr s
 have H:=vX j
 have A:=Dn j
 unfold Ya at A
 have F:gS (Lg w.reps) (bg w.pool) (.int .i64 ((i:Int)+1))=some [Lg w.reps,bg w.pool,B (fileR r),.int .i64 0]:=by
  unfold gS
  simp only [D,ab,d8,bL,aX,aB,ag,af,ai,ay,az,bH,H]
 have o:=N7 (a:=r) (b:=r) j.sm j.ok j.ok
 rw [XT] at o
 have I:=vL j.sm j.ok (.int .i64 r.fc) (.int .i64 r.fr) (aA r.mks)
 have J:=acW h (by omega) hr
 have C:OKl (allV r.base r.log):=OKl.allV j.ok.base j.ok.log
 have p:=wj (a:=allV r.base r.log) (b:=allV r.base r.log) (by have:=rj r.log r.base;omega) C.fl C.fl
 rw [DL] at p
 obtain ⟨E,z,G⟩:=QL y x ms.length rounds 0 r (by omega) (by rw [aI];omega) ⟨j,by omega,by omega⟩
 have t:iter rounds (jn (bg ms)) [cr r.base,.int .i64 r.fc,.int .i64 r.fr,bg r.log,aA r.mks,cr r.base,.int .i64 r.fc,.int .i64 r.fr,bg r.log,aA r.mks,.int .i64 0]=_:=G
 have u:=vX z
 have v:aa .neq (B (fileR E)) (B (fileR E))=some (.bool false):=by rw [Zf];simp
 have q:aa .add (.int .i64 ((i:Int)+1)) (.int .i64 1)=some (.int .i64 (((i+1:Nat):Int)+1)):=by
  rw [AE (by omega) (by omega)];congr 2
 unfold nX
 simp only [af,ai,ay,l,d3,ab,gG,hle,decide_true,ah,D,F,d4,A,d8,bL,aX,aB,ag,yI,az,bH,o,I,J,p,t,aJ,u,nR,B8,n8,n9,v,q]
theorem Gm (n:Int) (l:List Dd) (ms:List Mv) (r: ∀d∈l,OKd d) (g: ∀m∈ms,OKm m):pO (.int .i64 n) (Gz l) (bg ms)=some [.bool true]:=by
 obtain ⟨b,p,hb⟩:=aa4 (l:=l) (n:=30) (by decide)
 have e:kr (Gz l) (.int .i64 30)=some [.bool b]:=p
 have o:ot (bg ms) (.int .i64 10)=some [.bool (ZG ms 10)]:=Tz (n:=10) (by decide)
 unfold pO
 simp only [e,o,ab,af,aX]
 cases b with
 | false=>simp only [a8,ah,ab,af,o9];rfl
 | true=>
   have hl:=hb rfl
   simp only [aB,ag,ab]
   cases hm:ZG ms 10 with
   | false=>simp only [af,a8,ah,o9,ab];rfl
   | true=>
     have f:=aaZ hm
     simp only [af,aB,ag,al,ab,aW,aw,ao]
     by_cases h1:n < 1
     ·simp only [h1,decide_true,ah,ab,af,Vv (show l.length<=100 by omega),aJ,o9];rfl
     ·by_cases h2:8 < n
      ·simp only [h1,h2,decide_true,decide_false,ah,ag,ab,af,Vv (show l.length<=100 by omega),aJ,o9];rfl
      ·obtain ⟨k,rfl⟩: ∃k:Nat,n=(k:Int):=⟨n.toNat,by omega⟩
       have hk:k<=8:=by omega
       obtain ⟨w1,_⟩:=ad1 hk
       obtain ⟨w',a,h,i,j,s⟩:=WE (by omega) r (n:=k) l.length rounds 0 (Tq k) [] (by omega) (by rw [aI];omega) rfl w1 (by simp [Tq])
       have c:iter rounds (cC (.int .i64 (l.length:Int)) (Gz l)) [Lg (Tq k).reps,.lst [],.lst [],.int .i64 0]=some (0,[Lg w'.reps,bg w'.pool,bu a]):=h
       have q:=abm i (by omega) j g f
       simp only [h1,h2,decide_false,ag,ab,af,ai,adt hk,c,aJ,q,o9]
       rfl
end Go.AM
