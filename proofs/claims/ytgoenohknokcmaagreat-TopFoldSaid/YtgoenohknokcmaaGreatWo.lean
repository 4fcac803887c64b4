/- Scripts, plainly: what a deed does. -/
import Derived.Test.YtgoenohknokcmaaGreatCp
import Derived.Test.YtgoenohknokcmaaGreatTo
open Option renaming bind_some->ad
open List renaming getElem?_eq_some_iff->ao,mem_of_getElem?->aB,length_map->a7,getElem?_eq_getElem->bd,not_mem_nil->bf,eq_of_mem_replicate->bm,replicate->br,mem_append->bA,map_set->bB
open Bool renaming not_true->a8,not_false->bx
open Nat renaming le_succ->bb,le_refl->bs,le_trans->bC
set_option linter.unusedVariables false
set_option linter.unusedSimpArgs false
namespace Go.AM
structure Dd where
 kind:Int
 who:Int
 frm:Int
 at_:Int
 par:Int
 ch:Int
 nm:ByteArray
 rk:Nat
def eDd (d:Dd):List IV:=[.int .i64 d.kind,.int .i64 d.who,.int .i64 d.frm,.int .i64 d.at_,.int .i64 d.par,.int .i64 d.ch,.str d.nm,.flt .f64 d.rk]
abbrev GZ (l:List Dd):IV:= .lst (l.map eDd)
structure OKd (d:Dd):Prop where
 rk:d.rk < 2 ^ 64
 can:canF .f64 d.rk=d.rk
 who:in64 d.who
 at_:in64 d.at_
 par:in64 d.par
 ch:in64 d.ch
theorem adE {l:List Dd} {i:Nat} {x:Dd} (h:l[i]? =some x):aE (GZ l) (.int .i64 (i:Int)) 8=some i/\eV (GZ l) i 0 8=some (eDd x)/\cV (GZ l) i 0=some (.int .i64 x.kind)/\cV (GZ l) i 1=some (.int .i64 x.who)/\cV (GZ l) i 3=some (.int .i64 x.at_)/\cV (GZ l) i 6=some (.str x.nm):=
 ⟨ea h rfl (by decide),qG h rfl,by rw [bX h];rfl,by rw [bX h];rfl,by rw [bX h];rfl,by rw [bX h];rfl⟩
def eR (r:Rep):List IV:=YM r []
abbrev Qg (l:List Rep):IV:= .lst (l.map eR)
structure Wd where
 reps:List Rep
 pool:List Mv
inductive Did (w:Wd) (d:Dd):Wd->Int->Prop
 | refused (e:Int) (h:e≠0):Did w d w e
 | made (i:Nat) (r:Rep) (m:Mv) (hi:w.reps[i]? =some r) (hw:d.who=(i:Int)+1) (hk:d.kind=1) (hm:OKm m) (h1:oneV m=true) (hb:befB r.fc r.fr m.c m.r=true) (hr:m.r=(i:Int)+1) (hc: ∀x,getM r.mks x < m.c):Did w d ⟨w.reps.set i (addF r m).1,w.pool++[m]⟩ 0
 | came (i:Nat) (r:Rep) (m:Mv) (j:Nat) (hi:w.reps[i]? =some r) (hw:d.who=(i:Int)+1) (hk:d.kind=2) (hj:d.at_=(j:Int)) (hp:w.pool[j]? =some m) (hb:befB r.fc r.fr m.c m.r=true):Did w d ⟨w.reps.set i (addF r m).1,w.pool⟩ 0
 | pruned (i:Nat) (r:Rep) (hi:w.reps[i]? =some r) (hw:d.who=(i:Int)+1) (hk:d.kind=3) (hn:knownB r.mks d.at_ d.frm=true):Did w d ⟨w.reps.set i (pruneF r d.at_ d.frm).1,w.pool⟩ 0
 | loaded (i:Nat) (r:Rep) (hi:w.reps[i]? =some r) (hw:d.who=(i:Int)+1) (hk:d.kind=4):Did w d w 0
structure WI (k:Nat) (w:Wd):Prop where
 few:w.reps.length<=8
 reps: ∀r∈w.reps,OkRep r/\r.base.length+r.log.length<=k/\r.mks.length<=k
 pool: ∀m∈w.pool,OKm m/\oneV m=true
 plen:w.pool.length<=k
theorem WI.sm {k:Nat} {w:Wd} (h:WI k w) {r:Rep} (hr:r∈w.reps):SmF k r:=by
 obtain ⟨_,h2,a⟩:=h.reps r hr
 exact ⟨by omega,by omega,a⟩
theorem WI.mono {k n:Nat} {w:Wd} (h:WI k w) (a:k<=n):WI n w:=
 ⟨h.few,λr hr=>by obtain ⟨h1,h2,b⟩:=h.reps r hr;exact ⟨h1,by omega,by omega⟩,h.pool,by have:=h.plen;omega⟩
theorem mem_set {α:Type} {l:List α} {i:Nat} {x y:α} (h:y∈l.set i x):y∈l\/y=x:=by
 rcases List.mem_or_eq_of_mem_set h with h | h
 ·exact .inl h
 ·exact .inr h
theorem WI.set {k:Nat} {w:Wd} (h:WI k w) {i:Nat} {r:Rep} (hr:OkRep r/\r.base.length+r.log.length<=k/\r.mks.length<=k):WI k ⟨w.reps.set i r,w.pool⟩:=
 ⟨by simp [h.few],λq a=>by
   rcases mem_set a with a | rfl
   ·exact h.reps q a
   ·exact hr,h.pool,h.plen⟩
theorem abI {k:Nat} {r:Rep} (hk:k<=300) (h:OkRep r/\r.base.length+r.log.length<=k/\r.mks.length<=k) {m:Mv} (hm:OKm m):OkRep (addF r m).1/\(addF r m).1.base.length+(addF r m).1.log.length<=k+1/\(addF r m).1.mks.length<=k+1:=by
 obtain ⟨h1,h2,b⟩:=h
 have hs:SmF k r:=⟨by omega,by omega,b⟩
 have hb:=(LZ r m).2.2
 have a:=hs.add m
 refine ⟨⟨F0 h1.may (hs.mono (by omega)) m,h1.ok.add hm⟩,?_,a.mks⟩
 rw [hb]
 have:(addF r m).1.log.length<=r.log.length+1:=by
  have:=vb r.log m
  unfold addF
  split<;>(try split)<;>(try split)<;>simp<;>omega
 omega
theorem abo {k:Nat} {r:Rep} (hk:k<=300) (h:OkRep r/\r.base.length+r.log.length<=k/\r.mks.length<=k) (c t:Int):OkRep (pruneF r c t).1/\(pruneF r c t).1.base.length+(pruneF r c t).1.log.length<=k/\(pruneF r c t).1.mks.length<=k:=by
 obtain ⟨h1,h2,b⟩:=h
 have hs:SmF k r:=⟨by omega,by omega,b⟩
 refine ⟨⟨Np h1.may (hs.mono (by omega)) c t,h1.ok.prune c t⟩,?_,by rw [WK];exact b⟩
 have d:=uY r.log c t
 have a:=uI (r.log.take (r.log.length - (oy r.log c t).length)) r.base
 simp only [List.length_take] at a
 unfold pruneF
 split<;>(try split)<;>simp only<;>omega
theorem Did.keeps {k:Nat} {w w':Wd} {d:Dd} {e:Int} (b:Did w d w' e) (h:WI k w) (hk:k<=300):WI (k+1) w':=by
 cases b with
 | refused e he=>exact h.mono (bb _)
 | made i r m hi hw c hm h1 hb hr hc=>
   have:=(h.mono (bb k)).set (i:=i) (abI hk (h.reps r (aB hi)) hm)
   refine ⟨this.few,this.reps,λx a=> ?_,?_⟩
   ·rcases bA.1 a with a | a
    ·exact h.pool x a
    ·simp at a;subst a;exact ⟨hm,h1⟩
   ·have:=h.plen;simp;omega
 | came i r m j hi hw f hj hp hb=>exact (h.mono (bb k)).set (i:=i) (abI hk (h.reps r (aB hi)) (h.pool m (aB hp)).1)
 | pruned i r hi hw g hn=>
   have hp:=abo hk (h.reps r (aB hi)) d.at_ d.frm
   exact (h.mono (bb k)).set (i:=i) ⟨hp.1,by omega,by omega⟩
 | loaded i r hi hw l=>exact h.mono (bb _)
theorem aiQ {l:List Rep} {i:Nat} {x:Rep} (h:l[i]? =some x):eV (Qg l) i 0 5=some (eR x):=qG h rfl
theorem K0 {w:Wd} {i:Nat} {r:Rep} (hi:w.reps[i]? =some r) (hl:w.reps.length<=8):bZ (Qg w.reps) (aZ w.pool) (.int .i64 ((i:Int)+1))=some [Qg w.reps,aZ w.pool,cQ r.base,.int .i64 r.fc,.int .i64 r.fr,aZ r.log,aL r.mks,.bool true]:=by
 have a:=(ao.1 hi).1
 have b: ¬((i:Int)+1 < 1):=by omega
 have c: ¬((w.reps.length:Int) < (i:Int)+1):=by omega
 have hs:aa .sub (.int .i64 ((i:Int)+1)) (.int .i64 1)=some (.int .i64 (i:Int)):=by
  rw [pC (by omega) (by omega)];congr 2;omega
 unfold bZ
 simp only [al,b,decide_false,ag,ad,aQ,cr,a7,c,af,hs,eb a,aiQ hi,eR,YM]
 rfl
theorem Vw {w:Wd} {who:Int} (h:who < 1\/(w.reps.length:Int) < who):bZ (Qg w.reps) (aZ w.pool) (.int .i64 who)=some [Qg w.reps,aZ w.pool,.lst [],.int .i64 0,.int .i64 0,.lst [],.lst [],.bool false]:=by
 unfold bZ
 simp only [al,ad,aQ,cr,a7]
 by_cases h1:who < 1
 ·simp [h1]
 ·have h2:(w.reps.length:Int) < who:=by omega
  simp [h1,h2]
theorem X3 {l:List Rep} {i:Nat} {x y:Rep} (h:l[i]? =some x):pK (Qg l) i 0 [cQ y.base,.int .i64 y.fc,.int .i64 y.fr,aZ y.log,aL y.mks]=some (Qg (l.set i y)):=by
 simp only [pK,List.getElem?_map,h,Option.map_some,ad]
 rw [if_pos (by simp [eR,YM])]
 rw [show setCells (eR x) 0 [cQ y.base,.int .i64 y.fc,.int .i64 y.fr,aZ y.log,aL y.mks]=eR y from rfl,<-bB]
theorem PS {l:List Rep} {i:Nat} {x:Rep} (h:l[i]? =some x):l.set i x=l:=by
 obtain ⟨h1,h2⟩:=ao.1 h
 rw [<-h2];simp
set_option maxHeartbeats 2000000 in
theorem acq {k:Nat} {w:Wd} (h:WI k w) (hk:k<=300) {d:Dd} (S:OKd d): ∃w' e,aI (Qg w.reps) (aZ w.pool) (.int .i64 d.kind) (.int .i64 d.who) (.int .i64 d.frm) (.int .i64 d.at_) (.int .i64 d.par) (.int .i64 d.ch) (.str d.nm) (.flt .f64 d.rk)=some [Qg w'.reps,aZ w'.pool,.int .i64 e]/\Did w d w' e/\(∀m,d.kind=2->1<=d.who->d.who<=(w.reps.length:Int)->0<=d.at_->w.pool[d.at_.toNat]? =some m->(∀r,w.reps[(d.who - 1).toNat]? =some r->befB r.fc r.fr m.c m.r=true)->e=0):=by
 by_cases hw:d.who < 1\/(w.reps.length:Int) < d.who
 ·refine ⟨w,1,?_,.refused 1 (by decide),λm _ U V=>by omega⟩
  have u: ∀a b c d e f g h:IV,([a,b,c,d,e,f,g,h]:List IV).drop 2=[c,d,e,f,g,h]:= λ_ _ _ _ _ _ _ _=>rfl
  unfold aI
  simp only [Vw hw,ad,u,bE,aW,bx,ah,af,ai]
 ·obtain ⟨i,hi⟩: ∃i:Nat,d.who=(i:Int)+1:=⟨(d.who - 1).toNat,by omega⟩
  have O:i < w.reps.length:=by omega
  have hr:=bd O
  generalize w.reps[i]=r at hr
  have hmem:=aB hr
  have D:=K0 hr h.few
  obtain ⟨H,a0,a1⟩:=h.reps r hmem
  have J:=h.sm hmem
  have am:=h.few
  have u: ∀a b c d e f g h:IV,([a,b,c,d,e,f,g,h]:List IV).drop 2=[c,d,e,f,g,h]:= λ_ _ _ _ _ _ _ _=>rfl
  have z:aa .sub (.int .i64 ((i:Int)+1)) (.int .i64 1)=some (.int .i64 (i:Int)):=by
   rw [pC (by omega) (by omega)];congr 2;omega
  have F:bP w.reps.length (.int .i64 (i:Int))=some i:=eb O
  have E:aa .eql (.int .i64 0) (.int .i64 0)=some (.bool true):=rfl
  have n7: ∀a b c d e f g h:IV,nth [a,b,c,d,e,f,g,h] 7=h:= λ_ _ _ _ _ _ _ _=>rfl
  by_cases k1:d.kind=1
  ·have C: ¬((1:Int)≠d.kind):=by omega
   by_cases hn:4611686018427387903<=Gi r.mks (max 0 r.fc)\/d.who < 1\/255 < d.who
   ·refine ⟨w,10,?_,.refused 10 (by decide),λm g=>by omega⟩
    have G:=Ct (v:=r.mks) (by omega) r.fc r.fr d.who
    unfold Yo at G
    rw [if_pos hn,hi] at G
    have s:aa .eql (.int .i64 10) (.int .i64 0)=some (.bool false):=rfl
    rw [hi]
    unfold aI dP
    simp only [D,ad,u,bE,aW,a8,ag,af,ai,ay,az,bG,dm,C,decide_false,G,bx,ah,s]
   ·obtain ⟨m,p⟩: ∃m:Mv,m=⟨Gi r.mks (max 0 r.fc)+1,d.who,d.par,d.ch,d.nm,d.rk⟩:=⟨_,rfl⟩
    have hm:OKm m:=by rw [p];exact ⟨S.rk,S.can,S.ch,S.par⟩
    have G:=Ct (v:=r.mks) (by omega) r.fc r.fr d.who
    unfold Yo at G
    rw [if_neg hn,hi] at G
    have A:=Fz (J.mono (by omega)) H.ok hm
    rw [p] at A
    simp only at A
    rw [<-p,hi] at A
    have q:befB r.fc r.fr m.c m.r=true:=by
     have:=J9 r.mks (max 0 r.fc)
     rw [gO,p];left;simp only;omega
    have o:=Vk H.may m
    have X:b8 6 56 (aZ w.pool) (.lst [[.int .i64 (Gi r.mks (max 0 r.fc)+1),.int .i64 ((i:Int)+1),.int .i64 d.par,.int .i64 d.ch,.str d.nm,.flt .f64 d.rk]])=some (aZ (w.pool++[m])):=by
     have:=Tj (l:=w.pool) (k:=[m]) (by have:=h.plen;omega) (by simp)
     rw [p] at this ⊢
     simp only [List.map_cons,List.map_nil,WC,hi] at this ⊢
     exact this
    by_cases h1:oneV m=true
    ·rw [if_pos h1,if_pos q] at o
     refine ⟨⟨w.reps.set i (addF r m).1,w.pool++[m]⟩,0,?_,.made i r m hr hi k1 hm h1 q (by rw [p];exact hi) (λx=> ?_),λm g=>by omega⟩
     ·rw [o] at A
      rw [hi]
      unfold aI dP
      simp only [D,ad,u,bE,aW,a8,ag,af,ai,ay,az,bG,mf,dm,C,decide_false,G,A,E,ah,X,z,cr,a7,F,X3 hr]
     ·have:=Tn (v:=r.mks) (n:=max 0 r.fc) (by omega) x
      rw [p];simp only;omega
    ·rw [if_neg h1] at o
     have N:=aaX (r:=r) (m:=m) (by rw [o];decide)
     have s:aa .eql (.int .i64 1) (.int .i64 0)=some (.bool false):=rfl
     refine ⟨w,1,?_,.refused 1 (by decide),λm g=>by omega⟩
     rw [o] at A
     rw [hi]
     unfold aI dP
     simp only [D,ad,u,bE,aW,a8,ag,af,ai,ay,az,bG,mf,dm,C,decide_false,G,A,s]
  ·have C:(1:Int)≠d.kind:= λe=>k1 e.symm
   by_cases K:d.kind=2
   ·have b2: ¬((2:Int)≠d.kind):=by omega
    by_cases ha:d.at_ < 0\/(w.pool.length:Int)<=d.at_
    ·have s:aa .eql (.int .i64 1) (.int .i64 0)=some (.bool false):=rfl
     refine ⟨w,1,?_,.refused 1 (by decide),λm _ _ _ g0 g=> ?_⟩
     ·rw [hi]
      unfold aI df
      simp only [D,ad,u,bE,aW,a8,ag,af,ai,ay,az,bG,dm,ne_eq,C,not_false_eq_true,decide_true,ah,b2,decide_false,al,de,cr,a7]
      by_cases M:d.at_ < 0
      ·simp only [M,decide_true,ah,ad,af,ai,u,bE,s,ag]
      ·have W:(w.pool.length:Int)<=d.at_:=by omega
       simp only [M,W,decide_true,decide_false,ah,ad,af,ai,u,bE,s,ag]
     ·have:=(ao.1 g).1
      omega
    ·obtain ⟨j,hj⟩: ∃j:Nat,d.at_=(j:Int):=⟨d.at_.toNat,by omega⟩
     have P:j < w.pool.length:=by omega
     have hm:=bd P
     generalize w.pool[j]=m at hm
     obtain ⟨Z,Y⟩:=h.pool m (aB hm)
     have A:=Fz (J.mono (by omega)) H.ok Z
     have o:=Vk H.may m
     rw [if_pos Y] at o
     have U: ¬((j:Int) < 0):=by omega
     have V: ¬((w.pool.length:Int)<=(j:Int)):=by omega
     obtain ⟨_,_,a2,_⟩:=AY hm
     have Q:bP w.pool.length (.int .i64 (j:Int))=some j:=eb P
     by_cases q:befB r.fc r.fr m.c m.r=true
     ·rw [if_pos q] at o
      refine ⟨⟨w.reps.set i (addF r m).1,w.pool⟩,0,?_,.came i r m j hr hi K hj hm q,λ_ _ _ _ _ _ _=>rfl⟩
      rw [o] at A
      rw [hi,hj]
      unfold aI df
      simp only [D,ad,u,bE,aW,a8,ag,af,ai,ay,az,bG,mf,dm,ne_eq,C,not_false_eq_true,decide_true,ah,b2,decide_false,al,U,de,cr,a7,V,Q,a2,A,E,z,F,X3 hr]
     ·rw [if_neg q] at o
      have s:aa .eql (.int .i64 9) (.int .i64 0)=some (.bool false):=rfl
      refine ⟨w,9,?_,.refused 9 (by decide),λm' _ _ _ _ g hf=> ?_⟩
      ·rw [o] at A
       rw [hi,hj]
       unfold aI df
       simp only [D,ad,u,bE,aW,a8,ag,af,ai,ay,az,bG,mf,dm,ne_eq,C,not_false_eq_true,decide_true,ah,b2,decide_false,al,U,de,cr,a7,V,Q,a2,A,s]
      ·rw [hj] at g
       simp only [Int.toNat_natCast] at g
       rw [hm] at g;cases g
       exact absurd (hf r (by rw [hi,show ((i:Int)+1 - 1).toNat=i by omega];exact hr)) q
   ·have b2:(2:Int)≠d.kind:= λe=>K e.symm
    by_cases k3:d.kind=3
    ·have L: ¬((3:Int)≠d.kind):=by omega
     have R:=K4 (J.mono (by omega)) H.ok d.at_ d.frm
     have o:=Xz H.may (c:=d.at_) (t:=d.frm)
     by_cases hn:knownB r.mks d.at_ d.frm=true
     ·rw [if_pos hn] at o
      refine ⟨⟨w.reps.set i (pruneF r d.at_ d.frm).1,w.pool⟩,0,?_,.pruned i r hr hi k3 hn,λm g=>absurd g K⟩
      rw [o] at R
      rw [hi]
      unfold aI gl
      simp only [D,ad,u,bE,aW,a8,ag,af,ai,ay,az,bG,mf,dm,ne_eq,C,b2,not_false_eq_true,decide_true,ah,L,decide_false,R,E,z,cr,a7,F,X3 hr]
     ·rw [if_neg hn] at o
      have N:=Xv (r:=r) (c:=d.at_) (t:=d.frm) (by rw [o];decide)
      have s:aa .eql (.int .i64 1) (.int .i64 0)=some (.bool false):=rfl
      refine ⟨w,1,?_,.refused 1 (by decide),λm g=>absurd g K⟩
      rw [o] at R
      rw [hi]
      unfold aI gl
      simp only [D,ad,u,bE,aW,a8,ag,af,ai,ay,az,bG,mf,dm,ne_eq,C,b2,not_false_eq_true,decide_true,ah,L,decide_false,R,s]
    ·have L:(3:Int)≠d.kind:= λe=>k3 e.symm
     by_cases k4:d.kind=4
     ·have T: ¬((4:Int)≠d.kind):=by omega
      have hS:=OV H
      have hL:=NC H
      unfold YM at hL
      refine ⟨w,0,?_,.loaded i r hr hi k4,λm g=>absurd g K⟩
      have I:=X3 (y:=r) hr
      rw [PS hr] at I
      rw [hi]
      unfold aI iJ
      simp only [D,ad,u,bE,aW,a8,ag,af,ai,ay,az,bG,mf,dm,ne_eq,C,b2,L,not_false_eq_true,decide_true,ah,T,decide_false,hS,not_true_eq_false,hL,E,z,cr,a7,F,I]
     ·have T:(4:Int)≠d.kind:= λe=>k4 e.symm
      refine ⟨w,1,?_,.refused 1 (by decide),λm g=>absurd g K⟩
      rw [hi]
      unfold aI
      simp only [D,ad,u,bE,aW,a8,ag,af,ai,dm,ne_eq,C,b2,L,T,not_false_eq_true,decide_true,ah]
end Go.AM
namespace Go.AM
abbrev afx:List Sh:=[.int .i64,.int .i64,.int .i64,.int .i64,.int .i64,.int .i64,.str,.flt .f64]
theorem aeq (e:List IV) (h:Typed afx e): ∃x,e=eDd x/\OKd x:=by
 obtain ⟨s,_,rfl,h0,h⟩:=h.cons_inv
 obtain ⟨c1,_,rfl,h1,h⟩:=h.cons_inv
 obtain ⟨c2,_,rfl,h2,h⟩:=h.cons_inv
 obtain ⟨c3,_,rfl,a,h⟩:=h.cons_inv
 obtain ⟨c4,_,rfl,b,h⟩:=h.cons_inv
 obtain ⟨c5,_,rfl,c,h⟩:=h.cons_inv
 obtain ⟨c6,_,rfl,d,h⟩:=h.cons_inv
 obtain ⟨c7,_,rfl,f,h⟩:=h.cons_inv
 cases h.nil_inv
 obtain ⟨g,rfl,w0⟩:=Bz h0
 obtain ⟨i,rfl,w1⟩:=Bz h1
 obtain ⟨j,rfl,w2⟩:=Bz h2
 obtain ⟨k,rfl,w3⟩:=Bz a
 obtain ⟨l,rfl,o⟩:=Bz b
 obtain ⟨m,rfl,p⟩:=Bz c
 cases d
 obtain ⟨n,rfl,q,r⟩:=acU f
 exact ⟨⟨g,i,j,k,l,m,_,n⟩,rfl,q,r,w1,w3,o,p⟩
theorem ab8 {cs:List IV} (h:Typed [.slc afx] cs): ∃v:List Dd,cs=[GZ v]/\ ∀d∈v,OKd d:=by
 obtain ⟨c,rfl,h1⟩:=h.one_inv
 obtain ⟨l,rfl,hl⟩:=h1.list_invP aeq
 exact ⟨l,rfl,hl⟩
end Go.AM
namespace Go.AM
theorem YN {l:List Mv} {i:Nat} {x:Mv} (h:l[i]? =some x):fQ 6 (aZ l) (some (.int .i64 (i:Int))) (some (.int .i64 ((i:Int)+1)))=some (aZ [x]):=by
 have hi:=(ao.1 h).1
 simp only [fQ]
 rw [if_pos (by simp [WC])]
 have hb:jt l.length (some (.int .i64 (i:Int))) (some (.int .i64 ((i:Int)+1)))=some (i,i+1):=by
  simp only [jt,Tk,ad]
  have a:((i:Int)+1).toNat=i+1:=by omega
  simp only [a,Int.toNat_natCast]
  rw [if_pos ⟨by omega,by omega⟩]
  simp only [ad]
  rw [if_pos ⟨by omega,by omega⟩]
  rfl
 simp only [a7,hb,ad]
 have b:((l.map WC).drop i).take (i+1 - i)=[WC x]:=by
  rw [<-List.map_drop,<-List.map_take,show i+1 - i=1 by omega,List.drop_eq_getElem_cons hi]
  have:l[i]=x:=(ao.1 h).2
  rw [this];rfl
 rw [b];rfl
def LP:Rep:=⟨[],0,0,[],[]⟩
theorem Kw:MayF LP:=o7.1 rfl
theorem Yw:OkRep LP:=⟨Kw,⟨λy a=>absurd a bf,λy a=>absurd a bf⟩⟩
structure EngF (i:Nat) (r:Rep):Prop where
 may:MayF r
 ok:OKF r
 base:r.base=[]
 fc:r.fc=0
 fr:r.fr=0
 log:r.log.length<=i
 mks:r.mks.length<=i
theorem EngF.sm {i:Nat} {r:Rep} (h:EngF i r):SmF i r:=⟨by rw [h.base];exact Nat.zero_le _,h.log,h.mks⟩
theorem EngF.mono {i j:Nat} {r:Rep} (h:EngF i r) (a:i<=j):EngF j r:=⟨h.may,h.ok,h.base,h.fc,h.fr,bC h.log a,bC h.mks a⟩
theorem Zl {m:Mv} (h:oneV m=true):befB 0 0 m.c m.r=true:=by
 obtain ⟨h1,_,h2,_⟩:=qd h
 simp only [befB]
 simp;omega
theorem EngF.add {i:Nat} {r:Rep} (h:EngF i r) (hi:i<=300) {m:Mv} (hm:OKm m) (h1:oneV m=true):
  EngF (i+1) (addF r m).1/\(addF r m).1.log=vu r.log m/\(addF r m).1.mks=if E7 r.log m=true then kH r.mks m.c m.r else r.mks:=by
 have hs:=h.sm.add m
 obtain ⟨a,b,d⟩:=LZ r m
 have hb:befB r.fc r.fr m.c m.r=true:=by rw [h.fc,h.fr];exact Zl h1
 refine ⟨⟨F0 h.may (h.sm.mono (by omega)) m,h.ok.add hm,by rw [d,h.base],by rw [a,h.fc],by rw [b,h.fr],hs.log,hs.mks⟩,?_,?_⟩
 all_goals
  unfold addF
  rw [if_pos (by rw [o7.2 h.may,h1];rfl),if_pos hb]
  cases hn:E7 r.log m with
  | true=>rfl
  | false=>first
    | rfl
    | (show r.log=_
       unfold E7 at hn
       unfold vu
       rw [if_pos (by simpa using hn)])
theorem VY {a b c d e f:Int} (h:befB a b e f=false) (k:befB c d a b=false):befB c d e f=false:=by
 have h1: ¬(a < e\/a=e/\b < f):=by rw [<-gO];simp [h]
 have h2: ¬(c < a\/c=a/\d < b):=by rw [<-gO];simp [k]
 cases g:befB c d e f with
 | false=>rfl
 | true=>rw [gO] at g;omega
theorem TwoF.trans {E Q:List Mv} {a b c:Rep} (h:TwoF E a b) (k:TwoF Q b c):TwoF (E++Q) a c:=by
 refine ⟨by rw [h.log,k.log,List.append_assoc],by rw [k.base,h.base,IB],h.mks.trans k.mks,h.may1,k.may2,λx d=> ?_,VY h.floor k.floor⟩
 rcases bA.1 d with d | d
 ·exact VY (h.early x d) k.floor
 ·exact k.early x d
theorem TwoF.self {a:Rep} (h:MayF a):TwoF [] a a:=by
 refine ⟨rfl,rfl,rfl,h,h,λx c=>absurd c bf,?_⟩
 cases b:befB a.fc a.fr a.fc a.fr with
 | false=>rfl
 | true=>rw [gO] at b;omega
def Gh (k:Nat) (b a:Rep):Prop:=EngF k a/\ ∃E,TwoF E a b
theorem Gh.nil:Gh 0 LP LP:=⟨⟨Kw,Yw.ok,rfl,rfl,rfl,bs _,bs _⟩,[],.self Kw⟩
theorem Gh.mono {k n:Nat} {a b:Rep} (h:Gh k b a) (hk:k<=n):Gh n b a:=⟨h.1.mono hk,h.2⟩
theorem Gh.tree {k:Nat} {b a:Rep} (h:Gh k b a):allV b.base b.log=allV [] a.log:=by
 obtain ⟨he,E,h⟩:=h
 rw [<-h.tree,he.base]
theorem Gh.add {k:Nat} {b a:Rep} (h:Gh k b a) (hk:k<=300) (hs:SmF k b) {m:Mv} (hm:OKm m) (h1:oneV m=true) (hb:befB b.fc b.fr m.c m.r=true):Gh (k+1) (addF b m).1 (addF a m).1/\(addF a m).1.log=vu a.log m:=by
 obtain ⟨he,E,h⟩:=h
 obtain ⟨d,e,_⟩:=he.add hk hm h1
 exact ⟨⟨d,E,(h.add (he.sm.mono (by omega)) (hs.mono (by omega)) hb).1⟩,e⟩
theorem Gh.prune {k:Nat} {b a:Rep} (h:Gh k b a) (hk:k<=300) (hm:MayF b) (hs:SmF k b) {c t:Int} (hn:knownB b.mks c t=true):Gh k (pruneF b c t).1 a:=by
 obtain ⟨he,E,h⟩:=h
 obtain ⟨Q,d⟩:=ZT hm (hs.mono hk) hn
 exact ⟨he,E++Q,h.trans d⟩
def YK (k:Nat) (w:Wd) (gs:List Rep):Prop:=gs.length=w.reps.length/\ ∀(i:Nat) (b a:Rep),w.reps[i]? =some b->gs[i]? =some a->Gh k b a
theorem YK.at {k:Nat} {w:Wd} {gs:List Rep} (h:YK k w gs) {i:Nat} {b:Rep} (hi:w.reps[i]? =some b): ∃a,gs[i]? =some a/\Gh k b a:=by
 have hl:=(ao.1 hi).1
 have c:=bd (show i < gs.length by rw [h.1];exact hl)
 exact ⟨_,c,h.2 i b _ hi c⟩
theorem YK.mono {k n:Nat} {w:Wd} {gs:List Rep} (h:YK k w gs) (hk:k<=n):YK n w gs:=⟨h.1,λi b a h1 h2=>(h.2 i b a h1 h2).mono hk⟩
theorem YK.set {k:Nat} {w:Wd} {gs:List Rep} (h:YK k w gs) {i:Nat} {b a:Rep} (c:Gh k b a) (p:List Mv):YK k ⟨w.reps.set i b,p⟩ (gs.set i a):=by
 refine ⟨by simp [h.1],λj b' a' h1 h2=> ?_⟩
 simp only [List.getElem?_set] at h1 h2
 by_cases e:i=j
 ·rw [if_pos e] at h1 h2
  split at h1
  ·split at h2
   ·cases h1;cases h2;exact c
   ·cases h2
  ·cases h1
 ·rw [if_neg e] at h1 h2
  exact h.2 j b' a' h1 h2
theorem Ya {w:Wd} (h:w.pool.length < 2 ^ 16):ep (Qg w.reps) (aZ w.pool)=some [Qg w.reps,aZ w.pool,aZ w.pool]:=by
 unfold ep
 rw [UZ h];rfl
theorem acM {k:Nat} {w:Wd} (h:WI k w) (hk:k<=300) {i:Nat} {r:Rep} (hi:w.reps[i]? =some r):cw (Qg w.reps) (aZ w.pool) (.int .i64 ((i:Int)+1))=some [Qg w.reps,aZ w.pool,cQ (allV r.base r.log)]:=by
 have l:=K0 hi h.few
 have hm:=aB hi
 have m:=Nu ((h.sm hm).mono (show k<=2000 by omega)) (h.reps r hm).1.ok (.int .i64 r.fc) (.int .i64 r.fr) (aL r.mks)
 have j: ∀a b c d e f g h:IV,([a,b,c,d,e,f,g,h]:List IV).drop 2=[c,d,e,f,g,h]:= λ_ _ _ _ _ _ _ _=>rfl
 unfold cw
 simp only [l,ad,j,af,ai,ay,az,bG,m]
def eT (l:List Mv):List IV:=[aZ l]
abbrev CO (gs:List Rep):IV:= .lst (([]::gs.map (·.log)).map eT)
theorem aac {l:List Dd} {n:Nat} (hr:n < 999999): ∃b,ku (GZ l) (.int .i64 (n:Int))=some [.bool b]/\(b=true->l.length<=n):=by
 unfold ku
 simp only [aw,ad,a7,aQ]
 by_cases hl:(n:Int) < (l.length:Int)
 ·exact ⟨false,by simp only [hl,decide_true,ah];rfl,λh=>by cases h⟩
 ·· simp only [hl,decide_false,ag]
    rw [D9 (λi=>[.int .i64 (i:Int)]) (λ_ d=>decide (100 < d.nm.size)) 1 [.bool false] 0 [] l (by simp) (by rw [aO];omega) (λi x c=> ?_) (by
     unfold tD
     simp)]
    ·cases anyI (λ_ d=>decide (100 < d.nm.size)) l 0 with
     | true=>exact ⟨false,rfl,λh=>by cases h⟩
     | false=>exact ⟨true,rfl,λ_=>by omega⟩
    ·obtain ⟨f,_,_,_,_,g⟩:=adE c
     have a:((i:Int) < (l.length:Int)):=by have:=(ao.1 c).1;omega
     unfold tD
     simp only [af,aw,a7,ad,al,a,decide_true,ah,f,g,sK,aQ,bj,au (show i < 2 ^ 62 by have:=(ao.1 c).1;omega)]
     by_cases e:100 < x.nm.size
     ·have:(100:Int) < (x.nm.size:Int):=by omega
      simp [e,this]
     ·have: ¬(100:Int) < (x.nm.size:Int):=by omega
      simp [e,this]
end Go.AM
namespace Go.AM
theorem Br {gs:List Rep} {j:Nat} {a:Rep} (h:gs[j]? =some a):bP (bU (CO gs)) (.int .i64 ((j:Int)+1))=some (j+1)/\cV (CO gs) (j+1) 0=some (aZ a.log):=by
 have hl:=(ao.1 h).1
 constructor
 ·simp only [cr]
  exact eb (by simp;omega)
 ·rw [bX (enc:=eT) (x:=a.log) (by simp [h])];rfl
theorem UB {gs:List Rep} {j:Nat} {a':Rep} (h:j < gs.length) {l:List Mv} (hl:a'.log=l):pK (CO gs) (j+1) 0 [aZ l]=some (CO (gs.set j a')):=by
 rw [EJ (enc:=eT) (x:=l) (by simp;omega) (λ_=>rfl) rfl]
 simp only [List.set_cons_succ,CO,bB,hl]
theorem Bw {k:Nat} {w:Wd} {gs:List Rep} (h:WI k w) (n:YK k w gs) (hk:k<=300) {j:Nat} {b:Rep} (hj:w.reps[j]? =some b): ∃a,gs[j]? =some a/\ ∃R,cw (Qg w.reps) (aZ w.pool) (.int .i64 ((j:Int)+1))=some [Qg w.reps,aZ w.pool,R]/\fZ (.lst []) (aZ a.log)=some [R]/\gN R R=some [.bool true]:=by
 obtain ⟨a,m,c⟩:=n.at hj
 have g:=acM h hk hj
 rw [c.tree] at g
 have i:fZ (.lst []) (aZ a.log)=some [cQ (allV [] a.log)]:=Bj (l:=[]) (ms:=a.log) (by have:=c.1.log;simp;omega) (λy d=>absurd d bf) c.1.ok.log
 have e:OKl (allV [] a.log):=OKl.allV (λy d=>absurd d bf) c.1.ok.log
 have f:=Nv (a:=allV [] a.log) (b:=allV [] a.log) (by have:=uI a.log [];have:=c.1.log;simp at*;omega) e.fl e.fl
 rw [WJ] at f
 exact ⟨a,m,_,g,i,f⟩
set_option maxHeartbeats 2000000 in
theorem Zk {l:List Dd} {k n:Nat} {w:Wd} {gs:List Rep} (h:WI k w) (x:YK k w gs) (hk:k<=200) (hn:w.reps.length=n) {i:Nat} {d:Dd} (hi:l[i]? =some d) (a9:i < 1000) (hd:OKd d):
  ∃w' P,cX (GZ l) (.int .i64 (n:Int)) [Qg w.reps,aZ w.pool,CO gs,.int .i64 (i:Int)]=some (.next [Qg w'.reps,aZ w'.pool,CO P,.int .i64 ((i+1:Nat):Int)])/\WI (k+1) w'/\YK (k+1) w' P/\w'.reps.length=n:=by
 obtain ⟨w',e,S,hD,_⟩:=acq h (by omega) hd
 have v:=hD.keeps h (by omega)
 have u:((i:Int) < (l.length:Int)):=by have:=(ao.1 hi).1;omega
 obtain ⟨L,M,z,A,a5,a6⟩:=adE hi
 have Q:=Ya (w:=w) (by have:=h.plen;omega)
 have H:=Ya (w:=w') (by have:=v.plen;omega)
 have N: ∀a b c:IV,([a,b,c]:List IV).drop 2=[c]:= λ_ _ _=>rfl
 have hs:=au (show i < 2 ^ 62 by omega)
 cases hD with
 | refused e he=>
   refine ⟨w,gs,?_,v,x.mono (bb _),hn⟩
   have ac:aa .neq (.int .i64 e) (.int .i64 0)=some (.bool true):=by rw [dm,decide_eq_true he]
   unfold cX
   simp only [aw,a7,ad,af,ai,ay,az,al,u,decide_true,ah,Q,N,L,M,eDd,bG,bE,mf,wF,S,ac,hs]
 | made j b m hj hw W hm h1 hb hr hc=>
   have q:=(ao.1 hj).1
   obtain ⟨a,s,G⟩:=x.at hj
   obtain ⟨r,o⟩:=G.add (by omega) (h.sm (aB hj)) hm h1 hb
   have g:=(x.mono (bb k)).set (i:=j) r (w.pool++[m])
   obtain ⟨a',f,R,t1,y,K⟩:=Bw v g (by omega) (j:=j) (b:=(addF b m).1) (by simp [q])
   have t:j < gs.length:=(ao.1 s).1
   have I:a'=(addF a m).1:=by simp [t] at f;exact f.symm
   subst I
   have E: ¬((j:Int)+1 < 1):=by omega
   have F: ¬((n:Int) < (j:Int)+1):=by omega
   have am:=h.plen
   have s1:=au (show w.pool.length < 2 ^ 62 by omega)
   have s2:aa .neq (.int .i64 ((w.pool++[m]).length:Int)) (.int .i64 ((w.pool.length+1:Nat):Int))=some (.bool false):=by rw [dm];simp
   obtain ⟨C,b2⟩:=Br s
   have T:fQ 6 (aZ (w.pool++[m])) (some (.int .i64 (w.pool.length:Int))) none=some (aZ [m]):=by
    rw [aaS (l:=w.pool++[m]) (by simp),List.drop_left]
   have U:fC (aZ a.log) (aZ [m])=some [aZ (vu a.log m)]:=Ac (a:=a.log) (b:=[m]) (by have:=G.1.log;omega) (by simp)
   have V:=UB (a':=(addF a m).1) t o
   obtain ⟨b6,b7⟩:=Br f
   rw [o] at b7 y
   have D:aa .eql (.int .i64 1) (.int .i64 1)=some (.bool true):=rfl
   rw [W] at z
   rw [hw] at A
   refine ⟨_,_,?_,v,g,by simpa using hn⟩
   unfold cX
   simp only [aw,a7,ad,af,ai,ay,az,al,u,decide_true,ah,Q,N,L,M,eDd,bG,bE,mf,wF,S,ur,ag,A,E,decide_false,aQ,F,H,z,D,s1,s2,C,b2,T,U,V,b7,t1,y,K,aW,a8,hs]
 | came j b m p hj hw X hp J hb=>
   obtain ⟨hm,h1⟩:=h.pool m (aB J)
   have q:=(ao.1 hj).1
   have aT:=(ao.1 J).1
   obtain ⟨a,s,G⟩:=x.at hj
   obtain ⟨r,o⟩:=G.add (by omega) (h.sm (aB hj)) hm h1 hb
   have g:=(x.mono (bb k)).set (i:=j) r w.pool
   obtain ⟨a',f,R,t1,y,K⟩:=Bw v g (by omega) (j:=j) (b:=(addF b m).1) (by simp [q])
   have t:j < gs.length:=(ao.1 s).1
   have I:a'=(addF a m).1:=by simp [t] at f;exact f.symm
   subst I
   have E: ¬((j:Int)+1 < 1):=by omega
   have F: ¬((n:Int) < (j:Int)+1):=by omega
   have g3: ¬((p:Int) < 0):=by omega
   have g4: ¬((w.pool.length:Int)<=(p:Int)):=by omega
   have am:=h.plen
   have s1:aa .add (.int .i64 (p:Int)) (.int .i64 1)=some (.int .i64 ((p:Int)+1)):=Ad (by omega) (by omega)
   obtain ⟨C,b2⟩:=Br s
   have T:=YN J
   have U:fC (aZ a.log) (aZ [m])=some [aZ (vu a.log m)]:=Ac (a:=a.log) (b:=[m]) (by have:=G.1.log;omega) (by simp)
   have V:=UB (a':=(addF a m).1) t o
   obtain ⟨b6,b7⟩:=Br f
   rw [o] at b7 y
   have D:aa .eql (.int .i64 2) (.int .i64 1)=some (.bool false):=rfl
   have O:aa .eql (.int .i64 2) (.int .i64 2)=some (.bool true):=rfl
   rw [X] at z
   rw [hw] at A
   rw [hp] at a5
   refine ⟨_,_,?_,v,g,by simpa using hn⟩
   unfold cX
   simp only [aw,a7,ad,af,ai,ay,az,al,u,decide_true,ah,Q,N,L,M,eDd,bG,bE,mf,wF,S,ur,ag,A,E,decide_false,aQ,F,H,z,D,O,a5,g3,de,g4,s1,C,b2,T,U,V,b7,t1,y,K,aW,a8,hs]
 | pruned j b hj hw Y ab=>
   obtain ⟨a,s,G⟩:=x.at hj
   have hmem:=aB hj
   have q:=(ao.1 hj).1
   have r:=(G.prune (by omega) (h.reps b hmem).1.may (h.sm hmem) ab).mono (bb k)
   have g:=(x.mono (bb k)).set (i:=j) r w.pool
   rw [PS s] at g
   obtain ⟨a',f,R,t1,y,K⟩:=Bw v g (by omega) (j:=j) (b:=(pruneF b d.at_ d.frm).1) (by simp [q])
   rw [s] at f;cases f
   have E: ¬((j:Int)+1 < 1):=by omega
   have F: ¬((n:Int) < (j:Int)+1):=by omega
   obtain ⟨C,b2⟩:=Br s
   have D:aa .eql (.int .i64 3) (.int .i64 1)=some (.bool false):=rfl
   have O:aa .eql (.int .i64 3) (.int .i64 2)=some (.bool false):=rfl
   rw [Y] at z
   rw [hw] at A
   refine ⟨_,_,?_,v,g,by simpa using hn⟩
   unfold cX
   simp only [aw,a7,ad,af,ai,ay,az,al,u,decide_true,ah,Q,N,L,M,eDd,bG,bE,mf,wF,S,ur,ag,A,E,decide_false,aQ,F,H,z,D,O,C,b2,t1,y,K,aW,a8,hs]
 | loaded j b hj hw Z=>
   obtain ⟨a,s,R,t1,y,K⟩:=Bw v (x.mono (bb k)) (by omega) hj
   have q:=(ao.1 hj).1
   have E: ¬((j:Int)+1 < 1):=by omega
   have F: ¬((n:Int) < (j:Int)+1):=by omega
   obtain ⟨C,b2⟩:=Br s
   have D:aa .eql (.int .i64 4) (.int .i64 1)=some (.bool false):=rfl
   have O:aa .eql (.int .i64 4) (.int .i64 2)=some (.bool false):=rfl
   rw [Z] at z
   rw [hw] at A
   refine ⟨w,gs,?_,v,x.mono (bb _),hn⟩
   unfold cX
   simp only [aw,a7,ad,af,ai,ay,az,al,u,decide_true,ah,Q,N,L,M,eDd,bG,bE,mf,wF,S,ur,ag,A,E,decide_false,aQ,F,z,D,O,C,b2,t1,y,K,aW,a8,hs]
theorem Qy {l:List Dd} (hl:l.length<=40) (g: ∀d∈l,OKd d) {n:Nat}: ∀(k m i:Nat) (w:Wd) (gs:List Rep),i+k=l.length->k < m->WI i w->YK i w gs->w.reps.length=n->
  iter m (cX (GZ l) (.int .i64 (n:Int))) [Qg w.reps,aZ w.pool,CO gs,.int .i64 (i:Int)]=some (0,[])
 | 0,m,i,w,gs,hi,hm,h,j,hn=>by
   obtain ⟨m,rfl⟩: ∃f,m=f+1:=⟨m - 1,by omega⟩
   refine gB m ?_
   have: ¬((i:Int) < (l.length:Int)):=by omega
   unfold cX
   simp only [aw,a7,ad,az,al,this,decide_false,ag]
 | k+1,m,i,w,gs,hi,hm,h,j,hn=>by
   obtain ⟨m,rfl⟩: ∃f,m=f+1:=⟨m - 1,by omega⟩
   have o:=bd (show i < l.length by omega)
   obtain ⟨w',a,e,h',b,c⟩:=Zk h j (by omega) hn o (by omega) (g _ (aB o))
   rw [og m e]
   exact Qy hl g k m (i+1) w' a (by omega) (by omega) h' b c
def RF (n:Nat):Wd:=⟨br n LP,[]⟩
theorem acF {n:Nat} (h:n<=8):WI 0 (RF n)/\YK 0 (RF n) (br n LP):=by
 refine ⟨⟨by simp [RF,h],λr hr=> ?_,λm hm=>absurd hm bf,bs _⟩,by simp [RF],λi b a h1 h2=> ?_⟩
 ·rw [bm hr];exact ⟨Yw,bs _,bs _⟩
 ·rw [bm (aB h1),bm (aB h2)];exact Gh.nil
theorem acx {n:Nat} (h:n<=8):jd 88 [.lst [],.int .i64 0,.int .i64 0,.lst [],.lst []] (.int .i64 (n:Int)) (.int .i64 (n:Int))=some (Qg (RF n).reps):=by
 simp only [jd]
 rw [if_pos ⟨trivial,by omega,by simp;omega⟩]
 simp [RF,eR,YM,LP]
theorem Ha (n:Int) (l:List Dd) (i: ∀d∈l,OKd d):qx (.int .i64 n) (GZ l)=some [.bool true]:=by
 obtain ⟨b,g,hb⟩:=aac (l:=l) (n:=35) (by decide)
 have c:ku (GZ l) (.int .i64 35)=some [.bool b]:=g
 unfold qx
 simp only [c,ad,af,aW]
 cases b with
 | false=>simp only [bx,ah,ad,af,sA];rfl
 | true=>
   have hl:=hb rfl
   simp only [a8,ag,al,ad,aQ]
   by_cases h1:n < 1
   ·simp only [h1,decide_true,ah,ad,af,sA];rfl
   ·by_cases h2:8 < n
    ·simp only [h1,h2,decide_true,decide_false,ah,ag,ad,af,sA];rfl
    ·obtain ⟨k,rfl⟩: ∃k:Nat,n=(k:Int):=⟨n.toNat,by omega⟩
     have hk:k<=8:=by omega
     have hs:=au (show k < 2 ^ 62 by omega)
     have h:jd 24 [.lst []] (.int .i64 ((k+1:Nat):Int)) (.int .i64 ((k+1:Nat):Int))=some (CO (br k LP)):=by
      simp only [jd]
      rw [if_pos ⟨trivial,by omega,by simp;omega⟩]
      have e:((k+1:Nat):Int).toNat=k+1:=by omega
      simp [e,List.replicate_succ,eT,LP]
     obtain ⟨w1,w2⟩:=acF hk
     have f:=Qy (by omega) i (n:=k) l.length rounds 0 (RF k) (br k LP) (by omega) (by rw [aO];omega) w1 w2 (by simp [RF])
     have a:iter rounds (cX (GZ l) (.int .i64 (k:Int))) [Qg (RF k).reps,.lst [],CO (br k LP),.int .i64 0]=some (0,[]):=f
     simp only [h1,h2,decide_false,ag,ad,af,acx hk,hs,h,a,aN,sA]
     rfl
end Go.AM
