/- Scripts, plainly: what a deed does. -/
import Derived.Test.YtgoenohknokcmaaGreatCp
import Derived.Test.YtgoenohknokcmaaGreatTo
open Option renaming bind_some->ad
open List renaming mem_of_getElem?->al,length_map->ao,getElem?_eq_some_iff->aB,getElem?_eq_getElem->a5,not_mem_nil->a6,mem_singleton->a8,eq_of_mem_replicate->bd,mem_append->bf,mem_cons_of_mem->bm,mem_cons_self->br
open Bool renaming not_true->a1,not_false->bb
open Nat renaming le_succ->a7,le_refl->bs
set_option linter.unusedVariables false
set_option linter.unusedSimpArgs false
namespace Go.AM
structure Dd where
 kind:Int
 who:Int
 frm:Int
 at_:Int
 par:Int
 ch:Int
 nm:ByteArray
 rk:Nat
def eDd (d:Dd):List IV:=[.int .i64 d.kind,.int .i64 d.who,.int .i64 d.frm,.int .i64 d.at_,.int .i64 d.par,.int .i64 d.ch,.str d.nm,.flt .f64 d.rk]
abbrev Hr (l:List Dd):IV:= .lst (l.map eDd)
structure OKd (d:Dd):Prop where
 rk:d.rk < 2 ^ 64
 can:canF .f64 d.rk=d.rk
 who:in64 d.who
 at_:in64 d.at_
 par:in64 d.par
 ch:in64 d.ch
theorem aaN {l:List Dd} {i:Nat} {x:Dd} (h:l[i]? =some x):aK (Hr l) (.int .i64 (i:Int)) 8=some i/\eo (Hr l) i 0 8=some (eDd x)/\dh (Hr l) i 0=some (.int .i64 x.kind)/\dh (Hr l) i 1=some (.int .i64 x.who)/\dh (Hr l) i 3=some (.int .i64 x.at_)/\dh (Hr l) i 6=some (.str x.nm):=
 ⟨dY h rfl (by decide),rM h rfl,by rw [cf h];rfl,by rw [cf h];rfl,by rw [cf h];rfl,by rw [cf h];rfl⟩
def eR (r:Rep):List IV:=Z3 r []
abbrev Ok (l:List Rep):IV:= .lst (l.map eR)
structure Wd where
 reps:List Rep
 pool:List Mv
inductive Did (w:Wd) (d:Dd):Wd->Int->Prop
 | refused (e:Int) (h:e≠0) (hx:d.kind=1->e=1\/ ∃r∈w.reps,4611686018427387903<=topM r.mks (max 0 r.fc)):Did w d w e
 | made (i:Nat) (r:Rep) (m:Mv) (hi:w.reps[i]? =some r) (hw:d.who=(i:Int)+1) (hk:d.kind=1) (hm:OKm m) (h1:oneV m=true) (hb:befB r.fc r.fr m.c m.r=true) (hr:m.r=(i:Int)+1) (hc: ∀x,getM r.mks x < m.c) (ht:m.c=topM r.mks (max 0 r.fc)+1) (hnm:m.nm=d.nm):Did w d ⟨w.reps.set i (addF r m).1,w.pool++[m]⟩ 0
 | came (i:Nat) (r:Rep) (m:Mv) (j:Nat) (hi:w.reps[i]? =some r) (hw:d.who=(i:Int)+1) (hk:d.kind=2) (hj:d.at_=(j:Int)) (hp:w.pool[j]? =some m) (hb:befB r.fc r.fr m.c m.r=true):Did w d ⟨w.reps.set i (addF r m).1,w.pool⟩ 0
 | pruned (i:Nat) (r:Rep) (hi:w.reps[i]? =some r) (hw:d.who=(i:Int)+1) (hk:d.kind=3) (hn:knownB r.mks d.at_ d.frm=true):Did w d ⟨w.reps.set i (pruneF r d.at_ d.frm).1,w.pool⟩ 0
 | loaded (i:Nat) (r:Rep) (hi:w.reps[i]? =some r) (hw:d.who=(i:Int)+1) (hk:d.kind=4):Did w d w 0
structure WI (k:Nat) (w:Wd):Prop where
 few:w.reps.length<=8
 reps: ∀r∈w.reps,OkRep r/\r.base.length+r.log.length<=k/\r.mks.length<=k
 pool: ∀m∈w.pool,OKm m/\oneV m=true
 plen:w.pool.length<=k
theorem WI.sm {k:Nat} {w:Wd} (h:WI k w) {r:Rep} (hr:r∈w.reps):SmF k r:=by
 obtain ⟨_,h2,a⟩:=h.reps r hr
 exact ⟨by omega,by omega,a⟩
theorem WI.mono {k n:Nat} {w:Wd} (h:WI k w) (a:k<=n):WI n w:=
 ⟨h.few,λr hr=>by obtain ⟨h1,h2,b⟩:=h.reps r hr;exact ⟨h1,by omega,by omega⟩,h.pool,by have:=h.plen;omega⟩
theorem mem_set {α:Type} {l:List α} {i:Nat} {x y:α} (h:y∈l.set i x):y∈l\/y=x:=by
 rcases List.mem_or_eq_of_mem_set h with h | h
 ·exact .inl h
 ·exact .inr h
theorem WI.set {k:Nat} {w:Wd} (h:WI k w) {i:Nat} {r:Rep} (hr:OkRep r/\r.base.length+r.log.length<=k/\r.mks.length<=k):WI k ⟨w.reps.set i r,w.pool⟩:=
 ⟨by simp [h.few],λq a=>by
   rcases mem_set a with a | rfl
   ·exact h.reps q a
   ·exact hr,h.pool,h.plen⟩
theorem aaj {k:Nat} {r:Rep} (hk:k<=300) (h:OkRep r/\r.base.length+r.log.length<=k/\r.mks.length<=k) {m:Mv} (hm:OKm m):OkRep (addF r m).1/\(addF r m).1.base.length+(addF r m).1.log.length<=k+1/\(addF r m).1.mks.length<=k+1:=by
 obtain ⟨h1,h2,b⟩:=h
 have hs:SmF k r:=⟨by omega,by omega,b⟩
 have hb:=(Ed r m).2.2
 have a:=hs.add m
 refine ⟨⟨abY h1.may (hs.mono (by omega)) m,h1.ok.add hm⟩,?_,a.mks⟩
 rw [hb]
 have:(addF r m).1.log.length<=r.log.length+1:=by
  have:=wj r.log m
  unfold addF
  split<;>(try split)<;>(try split)<;>simp<;>omega
 omega
theorem aa0 {k:Nat} {r:Rep} (hk:k<=300) (h:OkRep r/\r.base.length+r.log.length<=k/\r.mks.length<=k) (c t:Int):OkRep (pruneF r c t).1/\(pruneF r c t).1.base.length+(pruneF r c t).1.log.length<=k/\(pruneF r c t).1.mks.length<=k:=by
 obtain ⟨h1,h2,b⟩:=h
 have hs:SmF k r:=⟨by omega,by omega,b⟩
 refine ⟨⟨WV h1.may (hs.mono (by omega)) c t,h1.ok.prune c t⟩,?_,by rw [DM];exact b⟩
 have d:=vu r.log c t
 have a:=AE (r.log.take (r.log.length - (Cu r.log c t).length)) r.base
 simp only [List.length_take] at a
 unfold pruneF
 split<;>(try split)<;>simp only<;>omega
theorem Did.keeps {k:Nat} {w w':Wd} {d:Dd} {e:Int} (a:Did w d w' e) (h:WI k w) (hk:k<=300):WI (k+1) w':=by
 cases a with
 | refused e he=>exact h.mono (a7 _)
 | made i r m hi hw b hm h1 hb hr hc=>
   have:=(h.mono (a7 k)).set (i:=i) (aaj hk (h.reps r (al hi)) hm)
   refine ⟨this.few,this.reps,λx hx=> ?_,?_⟩
   ·rcases bf.1 hx with hx | hx
    ·exact h.pool x hx
    ·simp at hx;subst hx;exact ⟨hm,h1⟩
   ·have:=h.plen;simp;omega
 | came i r m j hi hw c hj hp hb=>exact (h.mono (a7 k)).set (i:=i) (aaj hk (h.reps r (al hi)) (h.pool m (al hp)).1)
 | pruned i r hi hw f hn=>
   have hp:=aa0 hk (h.reps r (al hi)) d.at_ d.frm
   exact (h.mono (a7 k)).set (i:=i) ⟨hp.1,by omega,by omega⟩
 | loaded i r hi hw g=>exact h.mono (a7 _)
theorem aiF {l:List Rep} {i:Nat} {x:Rep} (h:l[i]? =some x):eo (Ok l) i 0 5=some (eR x):=rM h rfl
theorem KR {w:Wd} {i:Nat} {r:Rep} (hi:w.reps[i]? =some r) (hl:w.reps.length<=8):bX (Ok w.reps) (bh w.pool) (.int .i64 ((i:Int)+1))=some [Ok w.reps,bh w.pool,cU r.base,.int .i64 r.fc,.int .i64 r.fr,bh r.log,aQ r.mks,.bool true]:=by
 have a:=(aB.1 hi).1
 have b: ¬((i:Int)+1 < 1):=by omega
 have c: ¬((w.reps.length:Int) < (i:Int)+1):=by omega
 have hs:aa .sub (.int .i64 ((i:Int)+1)) (.int .i64 1)=some (.int .i64 (i:Int)):=by
  rw [qe (by omega) (by omega)];congr 2;omega
 unfold bX
 simp only [an,b,decide_false,ag,ad,aR,bZ,ao,c,af,hs,dj a,aiF hi,eR,Z3]
 rfl
theorem Ub {w:Wd} {who:Int} (h:who < 1\/(w.reps.length:Int) < who):bX (Ok w.reps) (bh w.pool) (.int .i64 who)=some [Ok w.reps,bh w.pool,.lst [],.int .i64 0,.int .i64 0,.lst [],.lst [],.bool false]:=by
 unfold bX
 simp only [an,ad,aR,bZ,ao]
 by_cases h1:who < 1
 ·simp [h1]
 ·have h2:(w.reps.length:Int) < who:=by omega
  simp [h1,h2]
theorem YG {l:List Rep} {i:Nat} {x y:Rep} (h:l[i]? =some x):r8 (Ok l) i 0 [cU y.base,.int .i64 y.fc,.int .i64 y.fr,bh y.log,aQ y.mks]=some (Ok (l.set i y)):=by
 simp only [r8,List.getElem?_map,h,Option.map_some,ad]
 rw [if_pos (by simp [eR,Z3])]
 rw [show setCells (eR x) 0 [cU y.base,.int .i64 y.fc,.int .i64 y.fr,bh y.log,aQ y.mks]=eR y from rfl,<-List.map_set]
theorem Zx {l:List Rep} {i:Nat} {x:Rep} (h:l[i]? =some x):l.set i x=l:=by
 obtain ⟨h1,h2⟩:=aB.1 h
 rw [<-h2];simp
set_option maxHeartbeats 2000000 in
theorem adJ {k:Nat} {w:Wd} (h:WI k w) (hk:k<=300) {d:Dd} (T:OKd d): ∃w' e,aL (Ok w.reps) (bh w.pool) (.int .i64 d.kind) (.int .i64 d.who) (.int .i64 d.frm) (.int .i64 d.at_) (.int .i64 d.par) (.int .i64 d.ch) (.str d.nm) (.flt .f64 d.rk)=some [Ok w'.reps,bh w'.pool,.int .i64 e]/\Did w d w' e/\(∀m,d.kind=2->1<=d.who->d.who<=(w.reps.length:Int)->0<=d.at_->w.pool[d.at_.toNat]? =some m->(∀r,w.reps[(d.who - 1).toNat]? =some r->befB r.fc r.fr m.c m.r=true)->e=0):=by
 by_cases hw:d.who < 1\/(w.reps.length:Int) < d.who
 ·refine ⟨w,1,?_,.refused 1 (by decide) λ_=> .inl rfl,λm _ V W=>by omega⟩
  have u: ∀a b c d e f g h:IV,([a,b,c,d,e,f,g,h]:List IV).drop 2=[c,d,e,f,g,h]:= λ_ _ _ _ _ _ _ _=>rfl
  unfold aL
  simp only [Ub hw,ad,u,cn,aY,bb,ah,af,ai]
 ·obtain ⟨i,hi⟩: ∃i:Nat,d.who=(i:Int)+1:=⟨(d.who - 1).toNat,by omega⟩
  have P:i < w.reps.length:=by omega
  have hr:=a5 P
  generalize w.reps[i]=r at hr
  have hmem:=al hr
  have D:=KR hr h.few
  obtain ⟨H,aT,a0⟩:=h.reps r hmem
  have J:=h.sm hmem
  have am:=h.few
  have u: ∀a b c d e f g h:IV,([a,b,c,d,e,f,g,h]:List IV).drop 2=[c,d,e,f,g,h]:= λ_ _ _ _ _ _ _ _=>rfl
  have z:aa .sub (.int .i64 ((i:Int)+1)) (.int .i64 1)=some (.int .i64 (i:Int)):=by
   rw [qe (by omega) (by omega)];congr 2;omega
  have F:bU w.reps.length (.int .i64 (i:Int))=some i:=dj P
  have E:aa .eql (.int .i64 0) (.int .i64 0)=some (.bool true):=rfl
  have n7: ∀a b c d e f g h:IV,nth [a,b,c,d,e,f,g,h] 7=h:= λ_ _ _ _ _ _ _ _=>rfl
  by_cases K:d.kind=1
  ·have C: ¬((1:Int)≠d.kind):=by omega
   by_cases hn:4611686018427387903<=topM r.mks (max 0 r.fc)\/d.who < 1\/255 < d.who
   ·refine ⟨w,10,?_,.refused 10 (by decide) λ_=> .inr ⟨r,hmem,by omega⟩,λm g=>by omega⟩
    have G:=Dw (v:=r.mks) (by omega) r.fc r.fr d.who
    unfold YC at G
    rw [if_pos hn,hi] at G
    have s:aa .eql (.int .i64 10) (.int .i64 0)=some (.bool false):=rfl
    rw [hi]
    unfold aL dP
    simp only [D,ad,u,cn,aY,a1,ag,af,ai,aA,aD,cp,eb,C,decide_false,G,bb,ah,s]
   ·obtain ⟨m,p⟩: ∃m:Mv,m=⟨topM r.mks (max 0 r.fc)+1,d.who,d.par,d.ch,d.nm,d.rk⟩:=⟨_,rfl⟩
    have hm:OKm m:=by rw [p];exact ⟨T.rk,T.can,T.ch,T.par⟩
    have G:=Dw (v:=r.mks) (by omega) r.fc r.fr d.who
    unfold YC at G
    rw [if_neg hn,hi] at G
    have A:=FB (J.mono (by omega)) H.ok hm
    rw [p] at A
    simp only at A
    rw [<-p,hi] at A
    have q:befB r.fc r.fr m.c m.r=true:=by
     have:=Km r.mks (max 0 r.fc)
     rw [V5,p];left;simp only;omega
    have o:=Vz H.may m
    have Y:bS 6 56 (bh w.pool) (.lst [[.int .i64 (topM r.mks (max 0 r.fc)+1),.int .i64 ((i:Int)+1),.int .i64 d.par,.int .i64 d.ch,.str d.nm,.flt .f64 d.rk]])=some (bh (w.pool++[m])):=by
     have:=KD (l:=w.pool) (k:=[m]) (by have:=h.plen;omega) (by simp)
     rw [p] at this ⊢
     simp only [List.map_cons,List.map_nil,eMv,hi] at this ⊢
     exact this
    by_cases h1:oneV m=true
    ·rw [if_pos h1,if_pos q] at o
     refine ⟨⟨w.reps.set i (addF r m).1,w.pool++[m]⟩,0,?_,.made i r m hr hi K hm h1 q (by rw [p];exact hi) (λx=> ?_) (by rw [p]) (by rw [p]),λm g=>by omega⟩
     ·rw [o] at A
      rw [hi]
      unfold aL dP
      simp only [D,ad,u,cn,aY,a1,ag,af,ai,aA,aD,cp,sZ,eb,C,decide_false,G,A,E,ah,Y,z,bZ,ao,F,YG hr]
     ·have:=UJ (v:=r.mks) (n:=max 0 r.fc) (by omega) x
      rw [p];simp only;omega
    ·rw [if_neg h1] at o
     have O:=acn (r:=r) (m:=m) (by rw [o];decide)
     have s:aa .eql (.int .i64 1) (.int .i64 0)=some (.bool false):=rfl
     refine ⟨w,1,?_,.refused 1 (by decide) λ_=> .inl rfl,λm g=>by omega⟩
     rw [o] at A
     rw [hi]
     unfold aL dP
     simp only [D,ad,u,cn,aY,a1,ag,af,ai,aA,aD,cp,sZ,eb,C,decide_false,G,A,s]
  ·have C:(1:Int)≠d.kind:= λe=>K e.symm
   by_cases L:d.kind=2
   ·have b2: ¬((2:Int)≠d.kind):=by omega
    by_cases ha:d.at_ < 0\/(w.pool.length:Int)<=d.at_
    ·have s:aa .eql (.int .i64 1) (.int .i64 0)=some (.bool false):=rfl
     refine ⟨w,1,?_,.refused 1 (by decide) (λg=>absurd g K),λm _ _ _ g0 g=> ?_⟩
     ·rw [hi]
      unfold aL df
      simp only [D,ad,u,cn,aY,a1,ag,af,ai,aA,aD,cp,eb,ne_eq,C,not_false_eq_true,decide_true,ah,b2,decide_false,an,dm,bZ,ao]
      by_cases N:d.at_ < 0
      ·simp only [N,decide_true,ah,ad,af,ai,u,cn,s,ag]
      ·have X:(w.pool.length:Int)<=d.at_:=by omega
       simp only [N,X,decide_true,decide_false,ah,ad,af,ai,u,cn,s,ag]
     ·have:=(aB.1 g).1
      omega
    ·obtain ⟨j,hj⟩: ∃j:Nat,d.at_=(j:Int):=⟨d.at_.toNat,by omega⟩
     have Q:j < w.pool.length:=by omega
     have hm:=a5 Q
     generalize w.pool[j]=m at hm
     obtain ⟨ab,Z⟩:=h.pool m (al hm)
     have A:=FB (J.mono (by omega)) H.ok ab
     have o:=Vz H.may m
     rw [if_pos Z] at o
     have V: ¬((j:Int) < 0):=by omega
     have W: ¬((w.pool.length:Int)<=(j:Int)):=by omega
     obtain ⟨_,_,a2,_⟩:=wb hm
     have R:bU w.pool.length (.int .i64 (j:Int))=some j:=dj Q
     by_cases q:befB r.fc r.fr m.c m.r=true
     ·rw [if_pos q] at o
      refine ⟨⟨w.reps.set i (addF r m).1,w.pool⟩,0,?_,.came i r m j hr hi L hj hm q,λ_ _ _ _ _ _ _=>rfl⟩
      rw [o] at A
      rw [hi,hj]
      unfold aL df
      simp only [D,ad,u,cn,aY,a1,ag,af,ai,aA,aD,cp,sZ,eb,ne_eq,C,not_false_eq_true,decide_true,ah,b2,decide_false,an,V,dm,bZ,ao,W,R,a2,A,E,z,F,YG hr]
     ·rw [if_neg q] at o
      have s:aa .eql (.int .i64 9) (.int .i64 0)=some (.bool false):=rfl
      refine ⟨w,9,?_,.refused 9 (by decide) (λg=>absurd g K),λm' _ _ _ _ g hf=> ?_⟩
      ·rw [o] at A
       rw [hi,hj]
       unfold aL df
       simp only [D,ad,u,cn,aY,a1,ag,af,ai,aA,aD,cp,sZ,eb,ne_eq,C,not_false_eq_true,decide_true,ah,b2,decide_false,an,V,dm,bZ,ao,W,R,a2,A,s]
      ·rw [hj] at g
       simp only [Int.toNat_natCast] at g
       rw [hm] at g;cases g
       exact absurd (hf r (by rw [hi,show ((i:Int)+1 - 1).toNat=i by omega];exact hr)) q
   ·have b2:(2:Int)≠d.kind:= λe=>L e.symm
    by_cases k3:d.kind=3
    ·have M: ¬((3:Int)≠d.kind):=by omega
     have S:=KH (J.mono (by omega)) H.ok d.at_ d.frm
     have o:=WA H.may (c:=d.at_) (t:=d.frm)
     by_cases hn:knownB r.mks d.at_ d.frm=true
     ·rw [if_pos hn] at o
      refine ⟨⟨w.reps.set i (pruneF r d.at_ d.frm).1,w.pool⟩,0,?_,.pruned i r hr hi k3 hn,λm g=>absurd g L⟩
      rw [o] at S
      rw [hi]
      unfold aL gi
      simp only [D,ad,u,cn,aY,a1,ag,af,ai,aA,aD,cp,sZ,eb,ne_eq,C,b2,not_false_eq_true,decide_true,ah,M,decide_false,S,E,z,bZ,ao,F,YG hr]
     ·rw [if_neg hn] at o
      have O:=Xu (r:=r) (c:=d.at_) (t:=d.frm) (by rw [o];decide)
      have s:aa .eql (.int .i64 1) (.int .i64 0)=some (.bool false):=rfl
      refine ⟨w,1,?_,.refused 1 (by decide) (λg=>absurd g K),λm g=>absurd g L⟩
      rw [o] at S
      rw [hi]
      unfold aL gi
      simp only [D,ad,u,cn,aY,a1,ag,af,ai,aA,aD,cp,sZ,eb,ne_eq,C,b2,not_false_eq_true,decide_true,ah,M,decide_false,S,s]
    ·have M:(3:Int)≠d.kind:= λe=>k3 e.symm
     by_cases k4:d.kind=4
     ·have U: ¬((4:Int)≠d.kind):=by omega
      have hS:=PJ H
      have hL:=PS H
      unfold Z3 at hL
      refine ⟨w,0,?_,.loaded i r hr hi k4,λm g=>absurd g L⟩
      have I:=YG (y:=r) hr
      rw [Zx hr] at I
      rw [hi]
      unfold aL je
      simp only [D,ad,u,cn,aY,a1,ag,af,ai,aA,aD,cp,sZ,eb,ne_eq,C,b2,M,not_false_eq_true,decide_true,ah,U,decide_false,hS,not_true_eq_false,hL,E,z,bZ,ao,F,I]
     ·have U:(4:Int)≠d.kind:= λe=>k4 e.symm
      refine ⟨w,1,?_,.refused 1 (by decide) (λg=>absurd g K),λm g=>absurd g L⟩
      rw [hi]
      unfold aL
      simp only [D,ad,u,cn,aY,a1,ag,af,ai,eb,ne_eq,C,b2,M,U,not_false_eq_true,decide_true,ah]
end Go.AM
namespace Go.AM
abbrev agy:List Sh:=[.int .i64,.int .i64,.int .i64,.int .i64,.int .i64,.int .i64,.str,.flt .f64]
theorem aef (e:List IV) (h:Typed agy e): ∃x,e=eDd x/\OKd x:=by
 obtain ⟨s,_,rfl,h0,h⟩:=h.cons_inv
 obtain ⟨c1,_,rfl,h1,h⟩:=h.cons_inv
 obtain ⟨c2,_,rfl,h2,h⟩:=h.cons_inv
 obtain ⟨c3,_,rfl,a,h⟩:=h.cons_inv
 obtain ⟨c4,_,rfl,b,h⟩:=h.cons_inv
 obtain ⟨c5,_,rfl,c,h⟩:=h.cons_inv
 obtain ⟨c6,_,rfl,d,h⟩:=h.cons_inv
 obtain ⟨c7,_,rfl,f,h⟩:=h.cons_inv
 cases h.nil_inv
 obtain ⟨g,rfl,w0⟩:=BW h0
 obtain ⟨i,rfl,w1⟩:=BW h1
 obtain ⟨j,rfl,w2⟩:=BW h2
 obtain ⟨k,rfl,w3⟩:=BW a
 obtain ⟨l,rfl,o⟩:=BW b
 obtain ⟨m,rfl,p⟩:=BW c
 cases d
 obtain ⟨n,rfl,q,r⟩:=adM f
 exact ⟨⟨g,i,j,k,l,m,_,n⟩,rfl,q,r,w1,w3,o,p⟩
theorem adi {cs:List IV} (h:Typed [.slc agy] cs): ∃v:List Dd,cs=[Hr v]/\ ∀d∈v,OKd d:=by
 obtain ⟨c,rfl,h1⟩:=h.one_inv
 obtain ⟨l,rfl,hl⟩:=h1.list_invP aef
 exact ⟨l,rfl,hl⟩
end Go.AM
namespace Go.AM
def adb:Rep:=⟨[],0,0,[],[]⟩
theorem aav:MayF adb:=xE.1 rfl
theorem adB:OkRep adb:=⟨aav,⟨λy a=>absurd a a6,λy a=>absurd a a6⟩⟩
structure EngF (i:Nat) (r:Rep):Prop where
 may:MayF r
 ok:OKF r
 base:r.base=[]
 fc:r.fc=0
 fr:r.fr=0
 log:r.log.length<=i
 mks:r.mks.length<=i
theorem adR {w:Wd} (h:w.pool.length < 2 ^ 16):eG (Ok w.reps) (bh w.pool)=some [Ok w.reps,bh w.pool,bh w.pool]:=by
 unfold eG
 rw [U2 h];rfl
theorem adh {k:Nat} {w:Wd} (h:WI k w) (hk:k<=300) {i:Nat} {r:Rep} (hi:w.reps[i]? =some r):eH (Ok w.reps) (bh w.pool) (.int .i64 ((i:Int)+1))=some [Ok w.reps,bh w.pool,cU (allV r.base r.log)]:=by
 have l:=KR hi h.few
 have hm:=al hi
 have m:=N6 ((h.sm hm).mono (show k<=2000 by omega)) (h.reps r hm).1.ok (.int .i64 r.fc) (.int .i64 r.fr) (aQ r.mks)
 have j: ∀a b c d e f g h:IV,([a,b,c,d,e,f,g,h]:List IV).drop 2=[c,d,e,f,g,h]:= λ_ _ _ _ _ _ _ _=>rfl
 unfold eH
 simp only [l,ad,j,af,ai,aA,aD,cp,m]
def eT (l:List Mv):List IV:=[bh l]
theorem aap {l:List Dd} {n:Nat} (hr:n < 999999): ∃b,kO (Hr l) (.int .i64 (n:Int))=some [.bool b]/\(b=true->l.length<=n/\ ∀d∈l,d.nm.size<=100):=by
 unfold kO
 simp only [ax,ad,ao,aR]
 by_cases hl:(n:Int) < (l.length:Int)
 ·exact ⟨false,by simp only [hl,decide_true,ah];rfl,λh=>by cases h⟩
 ·· simp only [hl,decide_false,ag]
    rw [NL (λi=>[.int .i64 (i:Int)]) (λ_ d=>decide (100 < d.nm.size)) 1 [.bool false] 0 [] l (by simp) (by rw [bg];omega) (λi x hx=> ?_) (by
     unfold uH
     simp)]
    ·cases c:anyI (λ_ d=>decide (100 < d.nm.size)) l 0 with
     | true=>exact ⟨false,rfl,λh=>by cases h⟩
     | false=>
       refine ⟨true,rfl,λ_=>⟨by omega,λd j=> ?_⟩⟩
       rw [VJ] at c
       have:=List.any_eq_false.1 c d j
       simpa using this
    ·obtain ⟨f,_,_,_,_,g⟩:=aaN hx
     have a:((i:Int) < (l.length:Int)):=by have:=(aB.1 hx).1;omega
     unfold uH
     simp only [af,ax,ao,ad,an,a,decide_true,ah,f,g,kV,aR,bw,au (show i < 2 ^ 62 by have:=(aB.1 hx).1;omega)]
     by_cases e:100 < x.nm.size
     ·have:(100:Int) < (x.nm.size:Int):=by omega
      simp [e,this]
     ·have: ¬(100:Int) < (x.nm.size:Int):=by omega
      simp [e,this]
end Go.AM
namespace Go.AM
def Uf (n:Nat):Wd:=⟨List.replicate n adb,[]⟩
theorem adL {n:Nat} (h:n<=8):WI 0 (Uf n):=by
 refine ⟨by simp [Uf,h],λr hr=> ?_,λm hm=>absurd hm a6,bs _⟩
 rw [bd hr];exact ⟨adB,bs _,bs _⟩
theorem adp {n:Nat} (h:n<=8):lr 88 [.lst [],.int .i64 0,.int .i64 0,.lst [],.lst []] (.int .i64 (n:Int)) (.int .i64 (n:Int))=some (Ok (Uf n).reps):=by
 simp only [lr]
 rw [if_pos ⟨trivial,by omega,by simp;omega⟩]
 simp [Uf,eR,Z3,adb]
end Go.AM
namespace Go.AM
def Apart (a b:Mv):Prop:= ¬(a.c=b.c/\a.r=b.r)
structure NmW (k:Nat) (w:Wd):Prop where
 top: ∀r∈w.reps,(∀x,getM r.mks x<=(k:Int))/\r.fc<=k
 cs: ∀m∈w.pool,m.c<=k
 once:w.pool.Pairwise Apart
 own: ∀m∈w.pool,∃(i:Nat) (r:Rep),m.r=(i:Int)+1/\w.reps[i]? =some r/\m.c<=getM r.mks m.r
theorem Yo: ∀{v:List Mark} {n k:Int},(∀x∈v,x.c<=k)->n<=k->topM v n<=k
 | [],n,k,_,h=>h
 | x::v,n,k,hv,h=>Yo (v:=v) (n:=max n x.c) (λy a=>hv y (bm _ a)) (by have:=hv x br;omega)
theorem NmW.topM {k:Nat} {w:Wd} (h:NmW k w) {r:Rep} (hr:r∈w.reps) (hm:MayP r.mks):topM r.mks (max 0 r.fc)<=k:=by
 obtain ⟨h1,h2⟩:=h.top r hr
 exact Yo (λx hx=>by rw [<-hm.mem hx];exact h1 x.r) (by omega)
theorem L1 {r:Rep} (m:Mv) (x:Int):getM (addF r m).1.mks x<=max (getM r.mks x) m.c:=by
 unfold addF
 split
 ·split
  ·split
   ·show getM (jY r.mks m.c m.r) x<=_
    rw [qO]
    split
    ·rename_i e;subst e;exact Int.le_refl _
    ·omega
   ·exact Int.le_max_left _ _
  ·exact Int.le_max_left _ _
 ·exact Int.le_max_left _ _
theorem ZV {r:Rep} (h:MayF r) {m:Mv} (h1:oneV m=true) (hb:befB r.fc r.fr m.c m.r=true):m.c<=getM (addF r m).1.mks m.r:=by
 unfold addF
 rw [if_pos (by rw [xE.2 h,h1];rfl),if_pos hb]
 cases hn:LA r.log m with
 | true=>
   rw [if_pos rfl]
   show m.c<=getM (jY r.mks m.c m.r) m.r
   rw [qO,if_pos rfl];omega
 | false=>
   rw [if_neg (by decide)]
   obtain ⟨x,hx,a,b⟩:=L2.1 hn
   have:=h.cover x hx
   rw [<-a,<-b];exact this
theorem NmW.mono {k n:Nat} {w:Wd} (h:NmW k w) (hk:k<=n):NmW n w:=
 ⟨λr hr=>⟨λx=>by have:=(h.top r hr).1 x;omega,by have:=(h.top r hr).2;omega⟩,λm hm=>by have:=h.cs m hm;omega,h.once,h.own⟩
theorem NmW.set {k:Nat} {w:Wd} (h:NmW k w) {i:Nat} {r r':Rep} (hi:w.reps[i]? =some r) (ht:(∀x,getM r'.mks x<=(k:Int))/\r'.fc<=k) (f: ∀x,getM r.mks x<=getM r'.mks x):NmW k ⟨w.reps.set i r',w.pool⟩:=by
 have hl:=(aB.1 hi).1
 refine ⟨λq b=> ?_,h.cs,h.once,λm hm=> ?_⟩
 ·rcases mem_set b with b | rfl
  ·exact h.top q b
  ·exact ht
 ·obtain ⟨j,q,c,a,d⟩:=h.own m hm
  by_cases e:i=j
  ·subst e
   rw [hi] at a;cases a
   exact ⟨i,r',c,by simp [hl],Int.le_trans d (f _)⟩
  ·exact ⟨j,q,c,by simp [List.getElem?_set,e,a],d⟩
theorem NmW.did {k:Nat} {w w':Wd} {d:Dd} {e:Int} (s:Did w d w' e) (h:NmW k w) (hw:WI k w):NmW (k+1) w':=by
 have keep:=h.mono (a7 k)
 cases s with
 | refused e he=>exact keep
 | loaded i r hi f y=>exact keep
 | pruned i r hi f v hn=>
   refine keep.set hi ⟨λx=>by rw [DM];exact (keep.top r (al hi)).1 x,?_⟩ λx=>by rw [DM];exact Int.le_refl _
   have h1:=(keep.top r (al hi)).1 d.frm
   have h2:=(keep.top r (al hi)).2
   unfold knownB at hn
   simp only [Bool.and_eq_true,decide_eq_true_eq] at hn
   unfold pruneF
   split<;>(try split)<;>simp only<;>omega
 | came i r m j hi f u hj hp hb=>
   have ht:=keep.top r (al hi)
   have hc:=keep.cs m (al hp)
   exact keep.set hi ⟨λx=>by have:=L1 (r:=r) m x;have:=ht.1 x;omega,by rw [(Ed r m).1];exact ht.2⟩ λx=>Ul m x
 | made i r m hi f t hm h1 hb hr hc ht hnm=>
   have hmem:=al hi
   have g:=(hw.reps r hmem).1.may
   have n:m.c<=((k+1:Nat):Int):=by have:=h.topM hmem g.marks;omega
   have l:=keep.top r hmem
   have hs:=keep.set (r':=(addF r m).1) hi ⟨λx=>by have:=L1 (r:=r) m x;have:=l.1 x;omega,by rw [(Ed r m).1];exact l.2⟩ λx=>Ul m x
   have hl:=(aB.1 hi).1
   have fresh: ∀p∈w.pool,Apart p m:= λp hp ⟨A,C⟩=>by
    obtain ⟨z,r',D,o,E⟩:=h.own p hp
    have:z=i:=by omega
    subst this
    rw [hi] at o;cases o
    have:=hc p.r
    omega
   refine ⟨hs.top,λp hp=> ?_,?_,λp hp=> ?_⟩
   ·rcases bf.1 hp with hp | hp
    ·exact hs.cs p hp
    ·rw [a8.1 hp];exact n
   ·show (w.pool++[m]).Pairwise Apart
    rw [List.pairwise_append]
    exact ⟨h.once,List.pairwise_singleton _ _,λa q b hb=>by rw [a8.1 hb];exact fresh a q⟩
   ·rcases bf.1 hp with hp | hp
    ·exact hs.own p hp
    ·rw [a8.1 hp]
     exact ⟨i,(addF r m).1,hr,by simp [hl],ZV g h1 hb⟩
theorem ahU {n:Nat}:NmW 0 (Uf n):=by
 refine ⟨λr hr=> ?_,λm hm=>absurd hm a6,List.Pairwise.nil,λm hm=>absurd hm a6⟩
 rw [bd hr]
 exact ⟨λx=>Int.le_refl _,Int.le_refl _⟩
theorem QF: ∀{b a:List Mv},(∀x∈a,∀y∈b,Apart x y)->b.Pairwise Apart->(uniV a b).length=a.length+b.length
 | [],a,_,_=>by simp [uniV]
 | m::b,a,h,hb=>by
   obtain ⟨h1,h2⟩:=List.pairwise_cons.1 hb
   have hn:LA a m=true:=by
    cases hn:LA a m with
    | true=>rfl
    | false=>
      obtain ⟨x,hx,e⟩:=L2.1 hn
      exact absurd e (h x hx m br)
   have hl:(zx a m).length=a.length+1:=by
    unfold LA at hn
    unfold zx
    rw [if_neg (by simpa using hn)]
    simp;have:atV a m<=a.length:=XZ a m
    omega
   have:=QF (b:=b) (a:=zx a m) (λx hx y c=>by
    rcases xg hx with rfl | hx
    ·exact h1 y c
    ·exact h x hx y (bm _ c)) h2
   show (uniV (zx a m) b).length=_
   rw [this,hl,List.length_cons];omega
def XL (s:ByteArray):Bool:= !xO s||decide (64 < s.size)
theorem Did.told {k:Nat} {w w':Wd} {d:Dd} {e:Int} (l:Did w d w' e) (h:NmW k w) (hw:WI k w) (hk:k<=300) (h1:d.kind=1) (hb:XL d.nm=true):e=1:=by
 cases l with
 | refused e he hx=>
   rcases hx h1 with hx | ⟨r,hr,hx⟩
   ·exact hx
   ·have:=h.topM hr (hw.reps r hr).1.may.marks
    omega
 | loaded i r hi a q=>omega
 | pruned i r hi a p hn=>omega
 | came i r m j hi a o hj hp hb=>omega
 | made i r m hi a n hm b g hr hc ht hnm=>
   obtain ⟨c,f⟩:=vU (u6 b)
   rw [hnm] at c f
   unfold XL at hb
   rw [f] at hb
   unfold zS at c
   rw [sU] at c
   simp at hb
   omega
theorem QB {l:List Dd} (hl:l.length<=40) (x: ∀d∈l,OKd d) {n:Nat}: ∀(k m i:Nat) (w:Wd) (es:List Int),i+k=l.length->k < m->es.length=i->WI i w->NmW i w->w.reps.length=n->
  (∀(j:Nat) (d:Dd),l[j]? =some d->j < i->d.kind=1->XL d.nm=true->es[j]? =some 1)->
  ∃w' f,iter m (cH (.int .i64 (l.length:Int)) (Hr l)) [Ok w.reps,bh w.pool,bD es,.int .i64 (i:Int)]=some (0,[Ok w'.reps,bh w'.pool,bD f])/\WI l.length w'/\NmW l.length w'/\w'.reps.length=n/\f.length=l.length/\
   ∀(j:Nat) (d:Dd),l[j]? =some d->d.kind=1->XL d.nm=true->f[j]? =some 1
 | 0,m,i,w,es,hi,hm,he,h,p,hn,ht=>by
   obtain ⟨m,rfl⟩: ∃v,m=v+1:=⟨m - 1,by omega⟩
   have g:i=l.length:=by omega
   refine ⟨w,es,gL m ?_,g▸h,g▸p,hn,by omega,λj d hj=>ht j d hj (by have:=(aB.1 hj).1;omega)⟩
   have: ¬((i:Int) < (l.length:Int)):=by omega
   unfold cH
   simp only [aD,an,this,decide_false,ag,ad,af,ai,aA]
 | k+1,m,i,w,es,hi,hm,he,h,p,hn,ht=>by
   obtain ⟨m,rfl⟩: ∃v,m=v+1:=⟨m - 1,by omega⟩
   have hx:=a5 (show i < l.length by omega)
   generalize l[i]'(show i < l.length by omega)=d at hx
   obtain ⟨z,A,_⟩:=aaN hx
   have t:((i:Int) < (l.length:Int)):=by omega
   obtain ⟨w',e,G,o,_⟩:=adJ h (by omega) (x d (al hx))
   have H:=o.keeps h (by omega)
   have u:w'.reps.length=n:=by cases o<;>simpa using hn
   have D: ∀a b c:IV,([a,b,c]:List IV).drop 2=[c]:= λ_ _ _=>rfl
   have r:=sI (l:=es) (n:=e) (by omega)
   obtain ⟨w2,q,E,F⟩:=QB hl x k m (i+1) w' (es++[e]) (by omega) (by omega) (by simp [he]) H (NmW.did o p h) u λj C hj y h1 hb=>by
    by_cases s:j=i
    ·subst s
     rw [hx] at hj;cases hj
     rw [List.getElem?_append_right (by omega),he,Nat.sub_self,o.told p h (by omega) h1 hb];rfl
    ·rw [List.getElem?_append_left (by omega)]
     exact ht j C hj (by omega) h1 hb
   refine ⟨w2,q,?_,F⟩
   rw [oN m (vs':=[Ok w'.reps,bh w'.pool,bD (es++[e]),.int .i64 ((i+1:Nat):Int)]),E]
   unfold cH
   simp only [af,ai,aA,aD,an,t,decide_true,ah,ad,z,A,eDd,cp,cn,sZ,ZS,G,D,r,au (show i < 2 ^ 62 by omega)]
theorem Y6 {l:List Dd} (hl:l.length<=40) (hnm: ∀d∈l,d.nm.size<=100) {es:List Int} (he:es.length=l.length) (ht: ∀(j:Nat) (d:Dd),l[j]? =some d->d.kind=1->XL d.nm=true->es[j]? =some 1):
  iter rounds (kK (Hr l) (bD es)) [.int .i64 0]=some (0,[]):=by
 rw [aN (λi=>[.int .i64 (i:Int)]) l.length 0 [] (by rfl) (by omega) (λi hi=> ?_) (by
  unfold kK
  simp)]
 have hx:=a5 hi
 generalize l[i]=d at hx
 obtain ⟨h,_,k,_,_,m⟩:=aaN hx
 have a:((i:Int) < (l.length:Int)):=by omega
 have hsz:=hnm d (al hx)
 have f:=nz (s:=d.nm) (by omega)
 have hb:=ht i d hx
 have g:bU es.length (.int .i64 (i:Int))=some i:=dj (by omega)
 have e:aa .neq (.int .i64 1) (.int .i64 1)=some (.bool false):=rfl
 unfold kK
 by_cases h1:d.kind=1
 ·cases hv:xO d.nm with
  | false=>
    have c:dh (bD es) i 0=some (.int .i64 1):=(nk (hb h1 (by unfold XL;rw [hv];rfl))).2.2.2.1
    rw [hv] at f
    simp only [af,ax,ao,ad,an,a,decide_true,ah,h,k,db,h1,m,f,aY,bb,bZ,g,c,e,ag,au (show i < 2 ^ 62 by omega)]
  | true=>
    rw [hv] at f
    by_cases n:64 < d.nm.size
    ·have c:dh (bD es) i 0=some (.int .i64 1):=(nk (hb h1 (by unfold XL;rw [decide_eq_true n,Bool.or_true]))).2.2.2.1
     have b:((64:Int) < (d.nm.size:Int)):=by omega
     simp only [af,ax,ao,ad,an,a,decide_true,ah,h,k,db,h1,m,f,aY,a1,ag,kV,aR,b,bZ,g,c,e,au (show i < 2 ^ 62 by omega)]
    ·have b: ¬((64:Int) < (d.nm.size:Int)):=by omega
     simp only [af,ax,ao,ad,an,a,decide_true,ah,h,k,db,h1,m,f,aY,a1,ag,kV,aR,b,decide_false,au (show i < 2 ^ 62 by omega)]
 ·simp only [af,ax,ao,ad,an,a,decide_true,ah,h,k,db,h1,decide_false,ag,au (show i < 2 ^ 62 by omega)]
theorem XH {l:List Mv} (hl:l.length<=2000) (h1: ∀m∈l,oneV m=true):iter rounds (jv (bh l)) [.int .i64 0]=some (0,[]):=by
 rw [aN (λi=>[.int .i64 (i:Int)]) l.length 0 [] (by rfl) (by omega) (λi hi=> ?_) (by
  unfold jv
  simp)]
 have hx:=a5 hi
 generalize l[i]=m at hx
 obtain ⟨_,e,_,_,_,_,_,_,f,_⟩:=wb hx
 have b:((i:Int) < (l.length:Int)):=by omega
 obtain ⟨c,g⟩:=vU (u6 (h1 m (al hx)))
 unfold zS at c
 rw [sU] at c
 have d:=nz (s:=m.nm) (by omega)
 rw [g] at d
 have a: ¬((64:Int) < (m.nm.size:Int)):=by omega
 unfold jv
 simp only [af,ax,ao,ad,an,b,decide_true,ah,e,f,d,aY,a1,ag,kV,aR,a,decide_false,au (show i < 2 ^ 62 by omega)]
theorem aah {l:List Rw} (hl:l.length<=2000) (h1: ∀r∈l,OZ r=true):iter rounds (jl (cU l)) [.int .i64 0]=some (0,[]):=by
 rw [aN (λi=>[.int .i64 (i:Int)]) l.length 0 [] (by rfl) (by omega) (λi hi=> ?_) (by
  unfold jl
  simp)]
 have hx:=a5 hi
 generalize l[i]=m at hx
 obtain ⟨_,e,_,_,_,f,_⟩:=Wj hx
 have b:((i:Int) < (l.length:Int)):=by omega
 obtain ⟨c,g⟩:=vU (h1 m (al hx))
 unfold zS at c
 rw [sU] at c
 have d:=nz (s:=m.nm) (by omega)
 rw [g] at d
 have a: ¬((64:Int) < (m.nm.size:Int)):=by omega
 unfold jl
 simp only [af,ax,ao,ad,an,b,decide_true,ah,e,f,d,aY,a1,ag,kV,aR,a,decide_false,au (show i < 2 ^ 62 by omega)]
theorem Xz {k n:Nat} {w:Wd} (h:WI k w) (hk:k<=40) (hn:w.reps.length=n):iter rounds (mJ (.int .i64 (n:Int))) [Ok w.reps,bh w.pool,.int .i64 1]=some (0,[]):=by
 have e:=h.few
 rw [aN (λi=>[Ok w.reps,bh w.pool,.int .i64 ((i:Int)+1)]) n 0 [] (by simp) (by omega) (λi hi=> ?_) (by
  have: ¬((n:Int)+1<=(n:Int)):=by omega
  unfold mJ
  simp only [aA,ad,gk,this,decide_false,ag])]
 have hr:=a5 (show i < w.reps.length by omega)
 generalize w.reps[i]'(show i < w.reps.length by omega)=r at hr
 obtain ⟨f,hb,hm⟩:=h.reps r (al hr)
 have hle:((i:Int)+1<=(n:Int)):=by omega
 have m:=adh h (by omega) hr
 have l:mayR (allV r.base r.log)=true:=Mq f.may.tree (gb.1 f.may.moves).2.1 (by omega)
 obtain ⟨o,p,_⟩:=ua l
 have j:=aah o p
 have g: ∀a b c:IV,([a,b,c]:List IV).drop 2=[c]:= λ_ _ _=>rfl
 have d:aa .add (.int .i64 ((i:Int)+1)) (.int .i64 1)=some (.int .i64 (((i+1:Nat):Int)+1)):=by
  rw [Ba (by omega) (by omega)];congr 2
 unfold mJ
 simp only [af,ai,aA,ad,gk,hle,decide_true,ah,m,g,j,aW,d]
theorem Gg (n:Int) (l:List Dd) (H: ∀d∈l,OKd d):pJ (.int .i64 n) (Hr l)=some [.bool true]:=by
 obtain ⟨b,D,hb⟩:=aap (l:=l) (n:=25) (by decide)
 have o:kO (Hr l) (.int .i64 25)=some [.bool b]:=D
 have r: ∀a b c:IV,([a,b,c]:List IV).drop 2=[c]:= λ_ _ _=>rfl
 unfold pJ
 simp only [o,ad,af,aY]
 cases b with
 | false=>simp only [bb,ah,ad,af,sY];rfl
 | true=>
   obtain ⟨hl,hnm⟩:=hb rfl
   simp only [a1,ag,an,ad,aR]
   by_cases h1:n < 1
   ·simp only [h1,decide_true,ah,ad,af,sY];rfl
   ·by_cases h2:8 < n
    ·simp only [h1,h2,decide_true,decide_false,ah,ag,ad,af,sY];rfl
    ·obtain ⟨k,rfl⟩: ∃k:Nat,n=(k:Int):=⟨n.toNat,by omega⟩
     have hk:k<=8:=by omega
     have w1:=adL hk
     obtain ⟨w,es,s,h,t,u,q,v⟩:=QB (by omega) H (n:=k) l.length rounds 0 (Uf k) [] (by omega) (by rw [bg];omega) rfl w1 ahU (by simp [Uf]) (λj d _ hj=>absurd hj (Nat.not_lt_zero _))
     have i:iter rounds (cH (.int .i64 (l.length:Int)) (Hr l)) [Ok (Uf k).reps,.lst [],.lst [],.int .i64 0]=some (0,[Ok w.reps,bh w.pool,bD es]):=s
     have I:=h.plen
     have C:=adR (w:=w) (by omega)
     have F:iD (.lst []) (bh w.pool)=some [bh (uniV [] w.pool)]:=Lb (a:=[]) (b:=w.pool) (by simp) (by omega)
     have hlen:(uniV [] w.pool).length=w.pool.length:=by
      have:=QF (a:=[]) (λx hx=>absurd hx a6) t.once
      simpa using this
     have g: ∀m∈uniV [] w.pool,m∈w.pool:= λm hm=>(Vd hm).resolve_left a6
     have e: ∀m∈uniV [] w.pool,oneV m=true:= λm hm=>(h.pool m (g m hm)).2
     have f:OkLog (uniV [] w.pool):=⟨gb.2 ⟨by omega,e,Ih List.Pairwise.nil⟩,λm hm=>(h.pool m (g m hm)).1⟩
     have z:=M7 f
     have y:=MZ f
     have E:=Y6 (by omega) hnm q v
     have A:=XH (by omega) e
     have G:=Xz h (by omega) u
     have p: ∀a:Nat,aa .neq (.int .i64 (a:Int)) (.int .i64 (a:Int))=some (.bool false):= λa=>by rw [eb];simp
     simp only [h1,h2,decide_false,ag,ad,af,ai,aA,adp hk,ax,ao,i,aW,bZ,q,p,E,C,r,F,z,y,tX,hlen,A,G,sY]
     rfl
end Go.AM
