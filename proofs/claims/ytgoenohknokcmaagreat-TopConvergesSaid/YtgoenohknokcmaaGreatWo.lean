/- Scripts, plainly: what a deed does. -/
import Derived.Test.YtgoenohknokcmaaGreatCp
import Derived.Test.YtgoenohknokcmaaGreatTo
open Option renaming bind_some->ab
open List renaming mem_of_getElem?->ad,length_map->ao,getElem?_eq_some_iff->aB,getElem?_eq_getElem->a5,not_mem_nil->a6,eq_of_mem_replicate->a8,mem_cons_of_mem->bb,mem_append->bm,mem_singleton->br,getElem?_set->bs,mem_append_left->bx,mem_cons_self->bB,replicate->bO
open Bool renaming not_true->a7,not_false->bA
open Nat renaming le_succ->bd,le_refl->bf,mod_eq_of_lt->bC,not_lt_zero->bM,le_trans->bR
set_option linter.unusedVariables false
set_option linter.unusedSimpArgs false
namespace Go.AM
structure Dd where
 kind:Int
 who:Int
 frm:Int
 at_:Int
 par:Int
 ch:Int
 nm:ByteArray
 rk:Nat
def eDd (d:Dd):List IV:=[.int .i64 d.kind,.int .i64 d.who,.int .i64 d.frm,.int .i64 d.at_,.int .i64 d.par,.int .i64 d.ch,.str d.nm,.flt .f64 d.rk]
abbrev Jj (l:List Dd):IV:= .lst (l.map eDd)
structure OKd (d:Dd):Prop where
 rk:d.rk < 2 ^ 64
 can:canF .f64 d.rk=d.rk
 who:in64 d.who
 at_:in64 d.at_
 par:in64 d.par
 ch:in64 d.ch
theorem adL {l:List Dd} {i:Nat} {x:Dd} (h:l[i]? =some x):aP (Jj l) (.int .i64 (i:Int)) 8=some i/\ff (Jj l) i 0 8=some (eDd x)/\dV (Jj l) i 0=some (.int .i64 x.kind)/\dV (Jj l) i 1=some (.int .i64 x.who)/\dV (Jj l) i 3=some (.int .i64 x.at_)/\dV (Jj l) i 6=some (.str x.nm):=
 ⟨ee h rfl (by decide),qM h rfl,by rw [cg h];rfl,by rw [cg h];rfl,by rw [cg h];rfl,by rw [cg h];rfl⟩
def eR (r:Rep):List IV:=Zc r []
abbrev qw (l:List Rep):IV:= .lst (l.map eR)
structure Wd where
 reps:List Rep
 pool:List Mv
inductive Did (w:Wd) (d:Dd):Wd->Int->Prop
 | refused (e:Int) (h:e≠0):Did w d w e
 | made (i:Nat) (r:Rep) (m:Mv) (hi:w.reps[i]? =some r) (hw:d.who=(i:Int)+1) (hk:d.kind=1) (hm:OKm m) (h1:oneV m=true) (hb:befB r.fc r.fr m.c m.r=true) (hr:m.r=(i:Int)+1) (hc: ∀x,getM r.mks x < m.c):Did w d ⟨w.reps.set i (addF r m).1,w.pool++[m]⟩ 0
 | came (i:Nat) (r:Rep) (m:Mv) (j:Nat) (hi:w.reps[i]? =some r) (hw:d.who=(i:Int)+1) (hk:d.kind=2) (hj:d.at_=(j:Int)) (hp:w.pool[j]? =some m) (hb:befB r.fc r.fr m.c m.r=true):Did w d ⟨w.reps.set i (addF r m).1,w.pool⟩ 0
 | pruned (i:Nat) (r:Rep) (hi:w.reps[i]? =some r) (hw:d.who=(i:Int)+1) (hk:d.kind=3) (hn:knownB r.mks d.at_ d.frm=true):Did w d ⟨w.reps.set i (pruneF r d.at_ d.frm).1,w.pool⟩ 0
 | loaded (i:Nat) (r:Rep) (hi:w.reps[i]? =some r) (hw:d.who=(i:Int)+1) (hk:d.kind=4):Did w d w 0
structure WI (k:Nat) (w:Wd):Prop where
 few:w.reps.length<=8
 reps: ∀r∈w.reps,OkRep r/\r.base.length+r.log.length<=k/\r.mks.length<=k
 pool: ∀m∈w.pool,OKm m/\oneV m=true
 plen:w.pool.length<=k
theorem WI.sm {k:Nat} {w:Wd} (h:WI k w) {r:Rep} (hr:r∈w.reps):SmF k r:=by
 obtain ⟨_,h2,a⟩:=h.reps r hr
 exact ⟨by omega,by omega,a⟩
theorem WI.mono {k n:Nat} {w:Wd} (h:WI k w) (a:k<=n):WI n w:=
 ⟨h.few,λr hr=>by obtain ⟨h1,h2,b⟩:=h.reps r hr;exact ⟨h1,by omega,by omega⟩,h.pool,by have:=h.plen;omega⟩
theorem mem_set {α:Type} {l:List α} {i:Nat} {x y:α} (h:y∈l.set i x):y∈l\/y=x:=by
 rcases List.mem_or_eq_of_mem_set h with h | h
 ·exact .inl h
 ·exact .inr h
theorem WI.set {k:Nat} {w:Wd} (h:WI k w) {i:Nat} {r:Rep} (hr:OkRep r/\r.base.length+r.log.length<=k/\r.mks.length<=k):WI k ⟨w.reps.set i r,w.pool⟩:=
 ⟨by simp [h.few],λq a=>by
   rcases mem_set a with a | rfl
   ·exact h.reps q a
   ·exact hr,h.pool,h.plen⟩
theorem abm {k:Nat} {r:Rep} (hk:k<=300) (h:OkRep r/\r.base.length+r.log.length<=k/\r.mks.length<=k) {m:Mv} (hm:OKm m):OkRep (addF r m).1/\(addF r m).1.base.length+(addF r m).1.log.length<=k+1/\(addF r m).1.mks.length<=k+1:=by
 obtain ⟨h1,h2,b⟩:=h
 have hs:SmF k r:=⟨by omega,by omega,b⟩
 have hb:=(M1 r m).2.2
 have a:=hs.add m
 refine ⟨⟨TD h1.may (hs.mono (by omega)) m,h1.ok.add hm⟩,?_,a.mks⟩
 rw [hb]
 have:(addF r m).1.log.length<=r.log.length+1:=by
  have:=vo r.log m
  unfold addF
  split<;>(try split)<;>(try split)<;>simp<;>omega
 omega
theorem acb {k:Nat} {r:Rep} (hk:k<=300) (h:OkRep r/\r.base.length+r.log.length<=k/\r.mks.length<=k) (c t:Int):OkRep (pruneF r c t).1/\(pruneF r c t).1.base.length+(pruneF r c t).1.log.length<=k/\(pruneF r c t).1.mks.length<=k:=by
 obtain ⟨h1,h2,b⟩:=h
 have hs:SmF k r:=⟨by omega,by omega,b⟩
 refine ⟨⟨Xn h1.may (hs.mono (by omega)) c t,h1.ok.prune c t⟩,?_,by rw [WD];exact b⟩
 have d:=ve r.log c t
 have a:=qV (r.log.take (r.log.length - (Cc r.log c t).length)) r.base
 simp only [List.length_take] at a
 unfold pruneF
 split<;>(try split)<;>simp only<;>omega
theorem Did.keeps {k:Nat} {w w':Wd} {d:Dd} {e:Int} (b:Did w d w' e) (h:WI k w) (hk:k<=300):WI (k+1) w':=by
 cases b with
 | refused e he=>exact h.mono (bd _)
 | made i r m hi hw c hm h1 hb hr hc=>
   have:=(h.mono (bd k)).set (i:=i) (abm hk (h.reps r (ad hi)) hm)
   refine ⟨this.few,this.reps,λx a=> ?_,?_⟩
   ·rcases bm.1 a with a | a
    ·exact h.pool x a
    ·simp at a;subst a;exact ⟨hm,h1⟩
   ·have:=h.plen;simp;omega
 | came i r m j hi hw f hj hp hb=>exact (h.mono (bd k)).set (i:=i) (abm hk (h.reps r (ad hi)) (h.pool m (ad hp)).1)
 | pruned i r hi hw g hn=>
   have hp:=acb hk (h.reps r (ad hi)) d.at_ d.frm
   exact (h.mono (bd k)).set (i:=i) ⟨hp.1,by omega,by omega⟩
 | loaded i r hi hw l=>exact h.mono (bd _)
theorem aio {l:List Rep} {i:Nat} {x:Rep} (h:l[i]? =some x):ff (qw l) i 0 5=some (eR x):=qM h rfl
theorem Dn {w:Wd} {i:Nat} {r:Rep} (hi:w.reps[i]? =some r) (hl:w.reps.length<=8):bG (qw w.reps) (aI w.pool) (.int .i64 ((i:Int)+1))=some [qw w.reps,aI w.pool,cJ r.base,.int .i64 r.fc,.int .i64 r.fr,aI r.log,aL r.mks,.bool true]:=by
 have a:=(aB.1 hi).1
 have b: ¬((i:Int)+1 < 1):=by omega
 have c: ¬((w.reps.length:Int) < (i:Int)+1):=by omega
 have hs:aa .sub (.int .i64 ((i:Int)+1)) (.int .i64 1)=some (.int .i64 (i:Int)):=by
  rw [nx (by omega) (by omega)];congr 2;omega
 unfold bG
 simp only [al,b,decide_false,ag,ab,aV,cC,ao,c,af,hs,fi a,aio hi,eR,Zc]
 rfl
theorem TT {w:Wd} {who:Int} (h:who < 1\/(w.reps.length:Int) < who):bG (qw w.reps) (aI w.pool) (.int .i64 who)=some [qw w.reps,aI w.pool,.lst [],.int .i64 0,.int .i64 0,.lst [],.lst [],.bool false]:=by
 unfold bG
 simp only [al,ab,aV,cC,ao]
 by_cases h1:who < 1
 ·simp [h1]
 ·have h2:(w.reps.length:Int) < who:=by omega
  simp [h1,h2]
theorem Yp {l:List Rep} {i:Nat} {x y:Rep} (h:l[i]? =some x):rI (qw l) i 0 [cJ y.base,.int .i64 y.fc,.int .i64 y.fr,aI y.log,aL y.mks]=some (qw (l.set i y)):=by
 simp only [rI,List.getElem?_map,h,Option.map_some,ab]
 rw [if_pos (by simp [eR,Zc])]
 rw [show setCells (eR x) 0 [cJ y.base,.int .i64 y.fc,.int .i64 y.fr,aI y.log,aL y.mks]=eR y from rfl,<-List.map_set]
theorem Zl {l:List Rep} {i:Nat} {x:Rep} (h:l[i]? =some x):l.set i x=l:=by
 obtain ⟨h1,h2⟩:=aB.1 h
 rw [<-h2];simp
set_option maxHeartbeats 2000000 in
theorem YN {k:Nat} {w:Wd} (h:WI k w) (hk:k<=300) {d:Dd} (S:OKd d): ∃w' e,az (qw w.reps) (aI w.pool) (.int .i64 d.kind) (.int .i64 d.who) (.int .i64 d.frm) (.int .i64 d.at_) (.int .i64 d.par) (.int .i64 d.ch) (.str d.nm) (.flt .f64 d.rk)=some [qw w'.reps,aI w'.pool,.int .i64 e]/\Did w d w' e/\(∀m,d.kind=2->1<=d.who->d.who<=(w.reps.length:Int)->0<=d.at_->w.pool[d.at_.toNat]? =some m->(∀r,w.reps[(d.who - 1).toNat]? =some r->befB r.fc r.fr m.c m.r=true)->e=0):=by
 by_cases hw:d.who < 1\/(w.reps.length:Int) < d.who
 ·refine ⟨w,1,?_,.refused 1 (by decide),λm _ U V=>by omega⟩
  have u: ∀a b c d e f g h:IV,([a,b,c,d,e,f,g,h]:List IV).drop 2=[c,d,e,f,g,h]:= λ_ _ _ _ _ _ _ _=>rfl
  unfold az
  simp only [TT hw,ab,u,bV,aZ,bA,ah,af,ai]
 ·obtain ⟨i,hi⟩: ∃i:Nat,d.who=(i:Int)+1:=⟨(d.who - 1).toNat,by omega⟩
  have O:i < w.reps.length:=by omega
  have hr:=a5 O
  generalize w.reps[i]=r at hr
  have hmem:=ad hr
  have D:=Dn hr h.few
  obtain ⟨H,a0,a1⟩:=h.reps r hmem
  have J:=h.sm hmem
  have am:=h.few
  have u: ∀a b c d e f g h:IV,([a,b,c,d,e,f,g,h]:List IV).drop 2=[c,d,e,f,g,h]:= λ_ _ _ _ _ _ _ _=>rfl
  have z:aa .sub (.int .i64 ((i:Int)+1)) (.int .i64 1)=some (.int .i64 (i:Int)):=by
   rw [nx (by omega) (by omega)];congr 2;omega
  have F:cx w.reps.length (.int .i64 (i:Int))=some i:=fi O
  have E:aa .eql (.int .i64 0) (.int .i64 0)=some (.bool true):=rfl
  have n7: ∀a b c d e f g h:IV,nth [a,b,c,d,e,f,g,h] 7=h:= λ_ _ _ _ _ _ _ _=>rfl
  by_cases k1:d.kind=1
  ·have C: ¬((1:Int)≠d.kind):=by omega
   by_cases hn:4611686018427387903<=GY r.mks (max 0 r.fc)\/d.who < 1\/255 < d.who
   ·refine ⟨w,10,?_,.refused 10 (by decide),λm g=>by omega⟩
    have G:=Da (v:=r.mks) (by omega) r.fc r.fr d.who
    unfold X7 at G
    rw [if_pos hn,hi] at G
    have s:aa .eql (.int .i64 10) (.int .i64 0)=some (.bool false):=rfl
    rw [hi]
    unfold az dS
    simp only [D,ab,u,bV,aZ,a7,ag,af,ai,ay,aH,bW,dv,C,decide_false,G,bA,ah,s]
   ·obtain ⟨m,p⟩: ∃m:Mv,m=⟨GY r.mks (max 0 r.fc)+1,d.who,d.par,d.ch,d.nm,d.rk⟩:=⟨_,rfl⟩
    have hm:OKm m:=by rw [p];exact ⟨S.rk,S.can,S.ch,S.par⟩
    have G:=Da (v:=r.mks) (by omega) r.fc r.fr d.who
    unfold X7 at G
    rw [if_neg hn,hi] at G
    have A:=FH (J.mono (by omega)) H.ok hm
    rw [p] at A
    simp only at A
    rw [<-p,hi] at A
    have q:befB r.fc r.fr m.c m.r=true:=by
     have:=Kq r.mks (max 0 r.fc)
     rw [L0,p];left;simp only;omega
    have o:=UA H.may m
    have X:bX 6 56 (aI w.pool) (.lst [[.int .i64 (GY r.mks (max 0 r.fc)+1),.int .i64 ((i:Int)+1),.int .i64 d.par,.int .i64 d.ch,.str d.nm,.flt .f64 d.rk]])=some (aI (w.pool++[m])):=by
     have:=Tr (l:=w.pool) (k:=[m]) (by have:=h.plen;omega) (by simp)
     rw [p] at this ⊢
     simp only [List.map_cons,List.map_nil,eMv,hi] at this ⊢
     exact this
    by_cases h1:oneV m=true
    ·rw [if_pos h1,if_pos q] at o
     refine ⟨⟨w.reps.set i (addF r m).1,w.pool++[m]⟩,0,?_,.made i r m hr hi k1 hm h1 q (by rw [p];exact hi) (λx=> ?_),λm g=>by omega⟩
     ·rw [o] at A
      rw [hi]
      unfold az dS
      simp only [D,ab,u,bV,aZ,a7,ag,af,ai,ay,aH,bW,sO,dv,C,decide_false,G,A,E,ah,X,z,cC,ao,F,Yp hr]
     ·have:=TI (v:=r.mks) (n:=max 0 r.fc) (by omega) x
      rw [p];simp only;omega
    ·rw [if_neg h1] at o
     have N:=abV (r:=r) (m:=m) (by rw [o];decide)
     have s:aa .eql (.int .i64 1) (.int .i64 0)=some (.bool false):=rfl
     refine ⟨w,1,?_,.refused 1 (by decide),λm g=>by omega⟩
     rw [o] at A
     rw [hi]
     unfold az dS
     simp only [D,ab,u,bV,aZ,a7,ag,af,ai,ay,aH,bW,sO,dv,C,decide_false,G,A,s]
  ·have C:(1:Int)≠d.kind:= λe=>k1 e.symm
   by_cases K:d.kind=2
   ·have b2: ¬((2:Int)≠d.kind):=by omega
    by_cases ha:d.at_ < 0\/(w.pool.length:Int)<=d.at_
    ·have s:aa .eql (.int .i64 1) (.int .i64 0)=some (.bool false):=rfl
     refine ⟨w,1,?_,.refused 1 (by decide),λm _ _ _ g0 g=> ?_⟩
     ·rw [hi]
      unfold az dg
      simp only [D,ab,u,bV,aZ,a7,ag,af,ai,ay,aH,bW,dv,ne_eq,C,not_false_eq_true,decide_true,ah,b2,decide_false,al,dk,cC,ao]
      by_cases M:d.at_ < 0
      ·simp only [M,decide_true,ah,ab,af,ai,u,bV,s,ag]
      ·have W:(w.pool.length:Int)<=d.at_:=by omega
       simp only [M,W,decide_true,decide_false,ah,ab,af,ai,u,bV,s,ag]
     ·have:=(aB.1 g).1
      omega
    ·obtain ⟨j,hj⟩: ∃j:Nat,d.at_=(j:Int):=⟨d.at_.toNat,by omega⟩
     have P:j < w.pool.length:=by omega
     have hm:=a5 P
     generalize w.pool[j]=m at hm
     obtain ⟨Z,Y⟩:=h.pool m (ad hm)
     have A:=FH (J.mono (by omega)) H.ok Z
     have o:=UA H.may m
     rw [if_pos Y] at o
     have U: ¬((j:Int) < 0):=by omega
     have V: ¬((w.pool.length:Int)<=(j:Int)):=by omega
     obtain ⟨_,_,a2,_⟩:=zH hm
     have Q:cx w.pool.length (.int .i64 (j:Int))=some j:=fi P
     by_cases q:befB r.fc r.fr m.c m.r=true
     ·rw [if_pos q] at o
      refine ⟨⟨w.reps.set i (addF r m).1,w.pool⟩,0,?_,.came i r m j hr hi K hj hm q,λ_ _ _ _ _ _ _=>rfl⟩
      rw [o] at A
      rw [hi,hj]
      unfold az dg
      simp only [D,ab,u,bV,aZ,a7,ag,af,ai,ay,aH,bW,sO,dv,ne_eq,C,not_false_eq_true,decide_true,ah,b2,decide_false,al,U,dk,cC,ao,V,Q,a2,A,E,z,F,Yp hr]
     ·rw [if_neg q] at o
      have s:aa .eql (.int .i64 9) (.int .i64 0)=some (.bool false):=rfl
      refine ⟨w,9,?_,.refused 9 (by decide),λm' _ _ _ _ g hf=> ?_⟩
      ·rw [o] at A
       rw [hi,hj]
       unfold az dg
       simp only [D,ab,u,bV,aZ,a7,ag,af,ai,ay,aH,bW,sO,dv,ne_eq,C,not_false_eq_true,decide_true,ah,b2,decide_false,al,U,dk,cC,ao,V,Q,a2,A,s]
      ·rw [hj] at g
       simp only [Int.toNat_natCast] at g
       rw [hm] at g;cases g
       exact absurd (hf r (by rw [hi,show ((i:Int)+1 - 1).toNat=i by omega];exact hr)) q
   ·have b2:(2:Int)≠d.kind:= λe=>K e.symm
    by_cases k3:d.kind=3
    ·have L: ¬((3:Int)≠d.kind):=by omega
     have R:=Nr (J.mono (by omega)) H.ok d.at_ d.frm
     have o:=XX H.may (c:=d.at_) (t:=d.frm)
     by_cases hn:knownB r.mks d.at_ d.frm=true
     ·rw [if_pos hn] at o
      refine ⟨⟨w.reps.set i (pruneF r d.at_ d.frm).1,w.pool⟩,0,?_,.pruned i r hr hi k3 hn,λm g=>absurd g K⟩
      rw [o] at R
      rw [hi]
      unfold az gb
      simp only [D,ab,u,bV,aZ,a7,ag,af,ai,ay,aH,bW,sO,dv,ne_eq,C,b2,not_false_eq_true,decide_true,ah,L,decide_false,R,E,z,cC,ao,F,Yp hr]
     ·rw [if_neg hn] at o
      have N:=WC (r:=r) (c:=d.at_) (t:=d.frm) (by rw [o];decide)
      have s:aa .eql (.int .i64 1) (.int .i64 0)=some (.bool false):=rfl
      refine ⟨w,1,?_,.refused 1 (by decide),λm g=>absurd g K⟩
      rw [o] at R
      rw [hi]
      unfold az gb
      simp only [D,ab,u,bV,aZ,a7,ag,af,ai,ay,aH,bW,sO,dv,ne_eq,C,b2,not_false_eq_true,decide_true,ah,L,decide_false,R,s]
    ·have L:(3:Int)≠d.kind:= λe=>k3 e.symm
     by_cases k4:d.kind=4
     ·have T: ¬((4:Int)≠d.kind):=by omega
      have hS:=CD H
      have hL:=OJ H
      unfold Zc at hL
      refine ⟨w,0,?_,.loaded i r hr hi k4,λm g=>absurd g K⟩
      have I:=Yp (y:=r) hr
      rw [Zl hr] at I
      rw [hi]
      unfold az iO
      simp only [D,ab,u,bV,aZ,a7,ag,af,ai,ay,aH,bW,sO,dv,ne_eq,C,b2,L,not_false_eq_true,decide_true,ah,T,decide_false,hS,not_true_eq_false,hL,E,z,cC,ao,F,I]
     ·have T:(4:Int)≠d.kind:= λe=>k4 e.symm
      refine ⟨w,1,?_,.refused 1 (by decide),λm g=>absurd g K⟩
      rw [hi]
      unfold az
      simp only [D,ab,u,bV,aZ,a7,ag,af,ai,dv,ne_eq,C,b2,L,T,not_false_eq_true,decide_true,ah]
end Go.AM
namespace Go.AM
abbrev agX:List Sh:=[.int .i64,.int .i64,.int .i64,.int .i64,.int .i64,.int .i64,.str,.flt .f64]
theorem afr (e:List IV) (h:Typed agX e): ∃x,e=eDd x/\OKd x:=by
 obtain ⟨s,_,rfl,h0,h⟩:=h.cons_inv
 obtain ⟨c1,_,rfl,h1,h⟩:=h.cons_inv
 obtain ⟨c2,_,rfl,h2,h⟩:=h.cons_inv
 obtain ⟨c3,_,rfl,a,h⟩:=h.cons_inv
 obtain ⟨c4,_,rfl,b,h⟩:=h.cons_inv
 obtain ⟨c5,_,rfl,c,h⟩:=h.cons_inv
 obtain ⟨c6,_,rfl,d,h⟩:=h.cons_inv
 obtain ⟨c7,_,rfl,f,h⟩:=h.cons_inv
 cases h.nil_inv
 obtain ⟨g,rfl,w0⟩:=BK h0
 obtain ⟨i,rfl,w1⟩:=BK h1
 obtain ⟨j,rfl,w2⟩:=BK h2
 obtain ⟨k,rfl,w3⟩:=BK a
 obtain ⟨l,rfl,o⟩:=BK b
 obtain ⟨m,rfl,p⟩:=BK c
 cases d
 obtain ⟨n,rfl,q,r⟩:=acS f
 exact ⟨⟨g,i,j,k,l,m,_,n⟩,rfl,q,r,w1,w3,o,p⟩
theorem adp {cs:List IV} (h:Typed [.slc agX] cs): ∃v:List Dd,cs=[Jj v]/\ ∀d∈v,OKd d:=by
 obtain ⟨c,rfl,h1⟩:=h.one_inv
 obtain ⟨l,rfl,hl⟩:=h1.list_invP afr
 exact ⟨l,rfl,hl⟩
end Go.AM
namespace Go.AM
def W5:Rep:=⟨[],0,0,[],[]⟩
theorem L3:MayF W5:=wT.1 rfl
theorem Yn:OkRep W5:=⟨L3,⟨λy a=>absurd a a6,λy a=>absurd a a6⟩⟩
structure EngF (i:Nat) (r:Rep):Prop where
 may:MayF r
 ok:OKF r
 base:r.base=[]
 fc:r.fc=0
 fr:r.fr=0
 log:r.log.length<=i
 mks:r.mks.length<=i
theorem EngF.sm {i:Nat} {r:Rep} (h:EngF i r):SmF i r:=⟨by rw [h.base];exact Nat.zero_le _,h.log,h.mks⟩
theorem EngF.mono {i j:Nat} {r:Rep} (h:EngF i r) (a:i<=j):EngF j r:=⟨h.may,h.ok,h.base,h.fc,h.fr,bR h.log a,bR h.mks a⟩
theorem Qc {m:Mv} (h:oneV m=true):befB 0 0 m.c m.r=true:=by
 obtain ⟨h1,_,h2,_⟩:=ou h
 simp only [befB]
 simp;omega
theorem EngF.add {i:Nat} {r:Rep} (h:EngF i r) (hi:i<=300) {m:Mv} (hm:OKm m) (h1:oneV m=true):
  EngF (i+1) (addF r m).1/\(addF r m).1.log=qL r.log m/\(addF r m).1.mks=if zl r.log m=true then kM r.mks m.c m.r else r.mks:=by
 have hs:=h.sm.add m
 obtain ⟨a,b,d⟩:=M1 r m
 have hb:befB r.fc r.fr m.c m.r=true:=by rw [h.fc,h.fr];exact Qc h1
 refine ⟨⟨TD h.may (h.sm.mono (by omega)) m,h.ok.add hm,by rw [d,h.base],by rw [a,h.fc],by rw [b,h.fr],hs.log,hs.mks⟩,?_,?_⟩
 all_goals
  unfold addF
  rw [if_pos (by rw [wT.2 h.may,h1];rfl),if_pos hb]
  cases hn:zl r.log m with
  | true=>rfl
  | false=>first
    | rfl
    | (show r.log=_
       unfold zl at hn
       unfold qL
       rw [if_pos (by simpa using hn)])
theorem TwoF.self {a:Rep} (h:MayF a):TwoF [] a a:=by
 refine ⟨rfl,rfl,rfl,h,h,λx c=>absurd c a6,?_⟩
 cases b:befB a.fc a.fr a.fc a.fr with
 | false=>rfl
 | true=>rw [L0] at b;omega
def Gh (k:Nat) (b a:Rep):Prop:=EngF k a/\ ∃E,TwoF E a b
theorem Gh.nil:Gh 0 W5 W5:=⟨⟨L3,Yn.ok,rfl,rfl,rfl,bf _,bf _⟩,[],.self L3⟩
def GhA (k:Nat) (w:Wd) (gs:List Rep):Prop:=gs.length=w.reps.length/\ ∀(i:Nat) (b a:Rep),w.reps[i]? =some b->gs[i]? =some a->Gh k b a
theorem adl {w:Wd} (h:w.pool.length < 2 ^ 16):gK (qw w.reps) (aI w.pool)=some [qw w.reps,aI w.pool,aI w.pool]:=by
 unfold gK
 rw [Ug h];rfl
theorem QX {k:Nat} {w:Wd} (h:WI k w) (hk:k<=300) {i:Nat} {r:Rep} (hi:w.reps[i]? =some r):bU (qw w.reps) (aI w.pool) (.int .i64 ((i:Int)+1))=some [qw w.reps,aI w.pool,cJ (allV r.base r.log)]:=by
 have l:=Dn hi h.few
 have hm:=ad hi
 have m:=PL ((h.sm hm).mono (show k<=2000 by omega)) (h.reps r hm).1.ok (.int .i64 r.fc) (.int .i64 r.fr) (aL r.mks)
 have j: ∀a b c d e f g h:IV,([a,b,c,d,e,f,g,h]:List IV).drop 2=[c,d,e,f,g,h]:= λ_ _ _ _ _ _ _ _=>rfl
 unfold bU
 simp only [l,ab,j,af,ai,ay,aH,bW,m]
theorem aaE {l:List Dd} {n:Nat} (hr:n < 999999): ∃b,kx (Jj l) (.int .i64 (n:Int))=some [.bool b]/\(b=true->l.length<=n):=by
 unfold kx
 simp only [aw,ab,ao,aV]
 by_cases hl:(n:Int) < (l.length:Int)
 ·exact ⟨false,by simp only [hl,decide_true,ah];rfl,λh=>by cases h⟩
 ·· simp only [hl,decide_false,ag]
    rw [D7 (λi=>[.int .i64 (i:Int)]) (λ_ d=>decide (100 < d.nm.size)) 1 [.bool false] 0 [] l (by simp) (by rw [aJ];omega) (λi x c=> ?_) (by
     unfold sY
     simp)]
    ·cases anyI (λ_ d=>decide (100 < d.nm.size)) l 0 with
     | true=>exact ⟨false,rfl,λh=>by cases h⟩
     | false=>exact ⟨true,rfl,λ_=>by omega⟩
    ·obtain ⟨f,_,_,_,_,g⟩:=adL c
     have a:((i:Int) < (l.length:Int)):=by have:=(aB.1 c).1;omega
     unfold sY
     simp only [af,aw,ao,ab,al,a,decide_true,ah,f,g,sT,aV,bj,au (show i < 2 ^ 62 by have:=(aB.1 c).1;omega)]
     by_cases e:100 < x.nm.size
     ·have:(100:Int) < (x.nm.size:Int):=by omega
      simp [e,this]
     ·have: ¬(100:Int) < (x.nm.size:Int):=by omega
      simp [e,this]
end Go.AM
namespace Go.AM
def NW (n:Nat):Wd:=⟨bO n W5,[]⟩
theorem acs {n:Nat} (h:n<=8):WI 0 (NW n)/\GhA 0 (NW n) (bO n W5):=by
 refine ⟨⟨by simp [NW,h],λr hr=> ?_,λm hm=>absurd hm a6,bf _⟩,by simp [NW],λi b a h1 h2=> ?_⟩
 ·rw [a8 hr];exact ⟨Yn,bf _,bf _⟩
 ·rw [a8 (ad h1),a8 (ad h2)];exact Gh.nil
theorem adi {n:Nat} (h:n<=8):kQ 88 [.lst [],.int .i64 0,.int .i64 0,.lst [],.lst []] (.int .i64 (n:Int)) (.int .i64 (n:Int))=some (qw (NW n).reps):=by
 simp only [kQ]
 rw [if_pos ⟨trivial,by omega,by simp;omega⟩]
 simp [NW,eR,Zc,W5]
end Go.AM
namespace Go.AM
end Go.AM
namespace Go.AM
structure UnR (k:Nat) (pool:List Mv) (r:Rep):Prop where
 eng:EngF k r
 mem: ∀m∈r.log,m∈pool
 mks: ∀x,getM r.mks x=supV x r.log 0
structure UnW (k:Nat) (w:Wd):Prop where
 reps: ∀r∈w.reps,UnR k w.pool r
 once: ∀m∈w.pool,∀p∈w.pool,m.c=p.c->m.r=p.r->m=p
 own: ∀m∈w.pool,∃(i:Nat) (r:Rep),m.r=(i:Int)+1/\w.reps[i]? =some r/\m.c<=getM r.mks m.r
theorem EY {l:List Mv} {m x:Mv} (h:x∈l):x∈qL l m:=by
 rw [MB];split
 ·exact h
 ·exact wH.2 (.inr h)
theorem HG {l:List Mv} {m:Mv} (h:zl l m=true):m∈qL l m:=by
 rw [MB,if_neg (by unfold zl at h;simpa using h)]
 exact wH.2 (.inl rfl)
theorem UnR.add {k:Nat} {pool:List Mv} {r:Rep} (h:UnR k pool r) (hk:k<=300) {m:Mv} (hm:OKm m) (h1:oneV m=true) (hp:m∈pool):UnR (k+1) pool (addF r m).1/\(addF r m).1.log=qL r.log m:=by
 obtain ⟨d,b,e⟩:=h.eng.add hk hm h1
 refine ⟨⟨d,λx a=> ?_,λx=> ?_⟩,b⟩
 ·rw [b] at a
  rcases sU a with rfl | a
  ·exact hp
  ·exact h.mem x a
 ·rw [b,e]
  by_cases hn:zl r.log m=true
  ·rw [if_pos hn]
   have hs:supV x (qL r.log m) 0=supV x (m::r.log) 0:=aaC λy=>by
    rw [MB,if_neg (by unfold zl at hn;simpa using hn),wH];simp
   obtain ⟨c1,_⟩:=ou h1
   rw [hs,tT]
   show _=supV x r.log (if x=m.r then max 0 m.c else 0)
   by_cases a:x=m.r
   ·subst a
    rw [if_pos rfl,if_pos rfl,h.mks]
    have h2:=Nm m.r r.log m.c 0
    rw [Int.max_comm] at h2
    rw [h2];omega
   ·rw [if_neg a,if_neg a,h.mks]
  ·rw [if_neg hn]
   have:qL r.log m=r.log:=by unfold qL;unfold zl at hn;rw [if_pos (by simpa using hn)]
   rw [this,h.mks]
theorem UnR.more {k:Nat} {pool:List Mv} {r:Rep} (h:UnR k pool r) {n:Nat} (hk:k<=n) {q:List Mv} (a: ∀m∈pool,m∈q):UnR n q r:=⟨h.eng.mono hk,λm hm=>a m (h.mem m hm),h.mks⟩
theorem Vt {r:Rep} {m p:Mv} (h:p.c<=getM r.mks p.r):p.c<=getM (addF r m).1.mks p.r:=Int.le_trans h (abF m p.r)
theorem UnW.did {k:Nat} {w w':Wd} {d:Dd} {e:Int} (H:Did w d w' e) (h:UnW k w) (hw:WI k w) (hk:k<=300) (F:d.kind≠3):UnW (k+1) w':=by
 have keep:UnW (k+1) w:=⟨λr hr=>(h.reps r hr).more (bd k) λ_ h=>h,h.once,h.own⟩
 cases H with
 | refused e he=>exact keep
 | loaded i r hi hw K=>exact keep
 | pruned i r hi hw E hn=>exact absurd E F
 | came i r m j hi z J hj hp hb=>
   have hmem:=ad hi
   have s:=ad hp
   obtain ⟨u1,u2⟩:=(h.reps r hmem).add hk (hw.pool m s).1 (hw.pool m s).2 s
   refine ⟨λq t=> ?_,h.once,λp hp=> ?_⟩
   ·rcases mem_set t with t | rfl
    ·exact keep.reps q t
    ·exact u1
   ·obtain ⟨u,C,v,f,y⟩:=h.own p hp
    by_cases e:i=u
    ·subst e
     rw [hi] at f;cases f
     have hl:=(aB.1 hi).1
     exact ⟨i,(addF r m).1,v,by simp [hl],Vt y⟩
    ·exact ⟨u,C,v,by simp [bs,e,f],y⟩
 | made i r m hi z I hm h1 hb hr hc=>
   have hmem:=ad hi
   have hl:=(aB.1 hi).1
   obtain ⟨u1,u2⟩:=((h.reps r hmem).more (q:=w.pool++[m]) (bf k) λx A=>bx _ A).add hk hm h1 (by simp)
   have fresh: ∀p∈w.pool,¬(p.c=m.c/\p.r=m.r):= λp hp ⟨g,l⟩=>by
    obtain ⟨u,C,v,f,y⟩:=h.own p hp
    have:u=i:=by omega
    subst this
    rw [hi] at f;cases f
    have:=hc p.r
    omega
   refine ⟨λq t=> ?_,λa G b D g l=> ?_,λp hp=> ?_⟩
   ·rcases mem_set t with t | rfl
    ·exact (keep.reps q t).more (bf _) λx A=>bx _ A
    ·exact u1
   ·rcases bm.1 G with n | n<;>rcases bm.1 D with o | o
    ·exact h.once a n b o g l
    ·simp only [br] at o;rw [o] at g l;exact absurd ⟨g,l⟩ (fresh a n)
    ·simp only [br] at n;rw [n] at g l;exact absurd ⟨g.symm,l.symm⟩ (fresh b o)
    ·simp only [br] at n o;rw [n,o]
   ·rcases bm.1 hp with hp | hp
    ·obtain ⟨u,C,v,f,y⟩:=h.own p hp
     by_cases e:i=u
     ·subst e
      rw [hi] at f;cases f
      exact ⟨i,(addF r m).1,v,by simp [hl],Vt y⟩
     ·exact ⟨u,C,v,by simp [bs,e,f],y⟩
    ·simp at hp;subst hp
     refine ⟨i,(addF r p).1,hr,by simp [hl],?_⟩
     have:p∈(addF r p).1.log:=by
      rw [u2]
      refine HG ?_
      cases hn:zl r.log p with
      | true=>rfl
      | false=>
        obtain ⟨x,A,g,l⟩:=DS.1 hn
        exact absurd ⟨g,l⟩ (fresh x ((h.reps r hmem).mem x A))
     rw [u1.mks]
     exact Va p.r _ 0 p this rfl
theorem IB {a b:List Mv} (d:oT a) (hb:oT b) (h: ∀m,m∈a↔m∈b):a=b:=by
 have nd: ∀{l:List Mv},oT l->l.Nodup:= λhl=>hl.imp λ{x y} c e=>by
  subst e;rw [FN] at c;omega
 exact List.Perm.eq_of_pairwise (λx y _ _ h1 h2=>by rw [FN] at h1 h2;omega) d hb ((List.perm_ext_iff_of_nodup (nd d) (nd hb)).2 h)
theorem UnR.full {k:Nat} {pool:List Mv} {r q:Rep} (hr:UnR k pool r) (a:UnR k pool q) (fr: ∀m∈pool,m∈r.log) (i: ∀m∈pool,m∈q.log):r=q:=by
 have hl:r.log=q.log:=IB (fX.1 hr.eng.may.moves).2.2 (fX.1 a.eng.may.moves).2.2 λm=>⟨λh=>i m (hr.mem m h),λh=>fr m (a.mem m h)⟩
 have hm:r.mks=q.mks:=hr.eng.may.marks.ext a.eng.may.marks λx=>by rw [hr.mks,a.mks,hl]
 cases r;cases q
 have b:=hr.eng.base;have c:=a.eng.base;have d:=hr.eng.fc;have e:=a.eng.fc;have f:=hr.eng.fr;have g:=a.eng.fr
 simp only at b c d e f g hl hm
 subst b c d e f g hl hm
 rfl
theorem acg {l:List Dd} (hl:l.length<=40) (q: ∀d∈l,OKd d) {n:Nat}: ∀(k m i:Nat) (w:Wd),i+k=l.length->k < m->WI i w->UnW i w->w.reps.length=n->
  ∃w',iter m (dy (Jj l)) [qw w.reps,aI w.pool,.int .i64 (i:Int)]=some (0,[qw w'.reps,aI w'.pool])/\WI l.length w'/\UnW l.length w'/\w'.reps.length=n
 | 0,m,i,w,hi,hm,h,hu,hn=>by
   obtain ⟨m,rfl⟩: ∃v,m=v+1:=⟨m - 1,by omega⟩
   have f:i=l.length:=by omega
   refine ⟨w,ep m ?_,f▸h,f▸hu,hn⟩
   have: ¬((i:Int) < (l.length:Int)):=by omega
   unfold dy
   simp only [aw,ao,ay,al,this,decide_false,ag,ab,af,ai]
 | k+1,m,i,w,hi,hm,h,hu,hn=>by
   obtain ⟨m,rfl⟩: ∃v,m=v+1:=⟨m - 1,by omega⟩
   have u:=a5 (show i < l.length by omega)
   generalize l[i]'(show i < l.length by omega)=d at u
   obtain ⟨x,A,y,_⟩:=adL u
   have g:((i:Int) < (l.length:Int)):=by omega
   have C: ∀a b c:IV,([a,b,c]:List IV).drop 2=[c]:= λ_ _ _=>rfl
   by_cases z:d.kind=3
   ·have t: ¬(d.kind≠3):=by omega
    obtain ⟨w2,j,o⟩:=acg hl q k m (i+1) w (by omega) (by omega) (h.mono (bd i)) ⟨λr hr=>(hu.reps r hr).more (bd i) λ_ h=>h,hu.once,hu.own⟩ hn
    refine ⟨w2,?_,o⟩
    rw [jd m (vs':=[qw w.reps,aI w.pool,.int .i64 ((i+1:Nat):Int)]),j]
    unfold dy
    simp only [aw,ao,af,ai,ay,al,g,decide_true,ah,ab,x,y,dv,t,decide_false,ag,au (show i < 2 ^ 62 by omega)]
   ·obtain ⟨w',e,D,p,_⟩:=YN h (by omega) (q d (ad u))
    have F:=p.keeps h (by omega)
    have E:=UnW.did p hu h (by omega) z
    have s:w'.reps.length=n:=by cases p<;>simpa using hn
    obtain ⟨w2,j,o⟩:=acg hl q k m (i+1) w' (by omega) (by omega) F E s
    refine ⟨w2,?_,o⟩
    rw [jd m (vs':=[qw w'.reps,aI w'.pool,.int .i64 ((i+1:Nat):Int)]),j]
    unfold dy
    simp only [aw,ao,af,ai,ay,al,g,decide_true,ah,ab,x,A,y,dv,ne_eq,z,not_false_eq_true,eDd,aH,bW,bV,sO,Zb,D,C,au (show i < 2 ^ 62 by omega)]
def Has (pool:List Mv) (r:Rep):Prop:= ∀m∈pool,m∈r.log
def plc (L:Nat) (f:Int) (odd:Bool) (i:Nat):Nat:=
 let a:=if 0 < f/\f < (L:Int) then (i+f.toNat) % L else i
 if odd then L - 1 - a else a
theorem aeN {L:Nat} {f:Int} {odd:Bool} {i:Nat} (h:i < L):plc L f odd i < L:=by
 unfold plc
 have:(i+f.toNat) % L < L:=Nat.mod_lt _ (by omega)
 simp only
 split<;>split<;>omega
theorem acP {L:Nat} {f:Int} {odd:Bool} {t:Nat} (h:t < L): ∃i,i < L/\plc L f odd i=t:=by
 unfold plc
 simp only
 have key: ∀t,t < L-> ∃i,i < L/\(if 0 < f/\f < (L:Int) then (i+f.toNat) % L else i)=t:= λt a=>by
  by_cases hf:0 < f/\f < (L:Int)
  ·simp only [if_pos hf]
   by_cases h2:f.toNat<=t
   ·exact ⟨t - f.toNat,by omega,by rw [show t - f.toNat+f.toNat=t by omega,bC a]⟩
   ·refine ⟨t+L - f.toNat,by omega,?_⟩
    rw [show t+L - f.toNat+f.toNat=t+L by omega,Nat.add_mod_right,bC a]
  ·simp only [if_neg hf];exact ⟨t,a,rfl⟩
 cases odd with
 | false=>simpa using key t h
 | true=>
   obtain ⟨i,h1,h2⟩:=key (L - 1 - t) (by omega)
   exact ⟨i,h1,by simp only [if_true];rw [h2];omega⟩
theorem Xg {k:Nat} {w:Wd} (h:WI k w) (hu:UnW k w) (hk:k<=290) {j p:Nat} (hj:j < w.reps.length) (hp:p < w.pool.length): ∃r m,w.reps[j]? =some r/\w.pool[p]? =some m/\m∈w.pool/\
  az (qw w.reps) (aI w.pool) (.int .i64 2) (.int .i64 ((j:Int)+1)) (.int .i64 0) (.int .i64 (p:Int)) (.int .i64 0) (.int .i64 0) (.str ⟨#[]⟩) (.flt .f64 0)=some [qw (w.reps.set j (addF r m).1),aI w.pool,.int .i64 0]/\
  WI (k+1) ⟨w.reps.set j (addF r m).1,w.pool⟩/\UnW (k+1) ⟨w.reps.set j (addF r m).1,w.pool⟩/\(addF r m).1.log=qL r.log m:=by
 have hr:=a5 hj
 generalize w.reps[j]=r at hr
 have hm:=a5 hp
 generalize w.pool[p]=m at hm
 have a:=ad hm
 have u:=h.few
 have q:=h.plen
 have hok:OKd ⟨2,(j:Int)+1,0,(p:Int),0,0,⟨#[]⟩,0⟩:=⟨show (0:Nat) < 2 ^ 64 by decide,show canF .f64 0=0 by decide,⟨by simp only;omega,by simp only;omega⟩,⟨by simp only;omega,by simp only;omega⟩,show in64 0 from ⟨by decide,by decide⟩,show in64 0 from ⟨by decide,by decide⟩⟩
 obtain ⟨w',e,y,d,he⟩:=YN h (by omega) hok
 have f:e=0:=he m rfl (by simp only;omega) (by simp only;omega) (by simp only;omega) (by simpa using hm) λb s=>by
  have:b∈w.reps:=ad s
  have t:=(hu.reps b this).eng
  rw [t.fc,t.fr]
  exact Qc (h.pool m a).2
 subst f
 have A:=UnW.did d hu h (by omega) (show (2:Int)≠3 by decide)
 have C:=d.keeps h (by omega)
 obtain ⟨u1,u2⟩:=(hu.reps r (ad hr)).add (by omega) (h.pool m a).1 (h.pool m a).2 a
 generalize h0:(0:Int)=z at d
 cases d with
 | refused _ hz=>exact absurd h0.symm hz
 | made i b F hi hw l=>exact absurd l (show ¬(2:Int)=1 by decide)
 | pruned i b hi hw n=>exact absurd n (show ¬(2:Int)=3 by decide)
 | loaded i b hi hw o=>exact absurd o (show ¬(2:Int)=4 by decide)
 | came i b F E hi hw D g c hb=>
   have v:i=j:=by simp only at hw;omega
   have x:E=p:=by simp only at g;omega
   subst v x
   rw [hr] at hi;cases hi
   rw [hm] at c;cases c
   exact ⟨_,_,hr,hm,a,y,C,A,u2⟩
end Go.AM
namespace Go.AM
theorem YE {a b:Nat} (hb:0 < b):aa .rem (.int .i64 (a:Int)) (.int .i64 (b:Int))=some (.int .i64 ((a % b:Nat):Int)):=by
 have h: ¬(b:Int)=0:=by omega
 have e:(a:Int).tmod (b:Int)=((a % b:Nat):Int):=by
  rw [Int.tmod_eq_emod_of_nonneg (by omega)];rfl
 simp [aa,bZ,e]
 omega
theorem ab9 {a b:Nat} (h:b<=a) (c:a < 2 ^ 62):aa .sub (.int .i64 (a:Int)) (.int .i64 (b:Int))=some (.int .i64 ((a - b:Nat):Int)):=by
 rw [nx (by omega) (by omega),show (a:Int) - (b:Int)=((a - b:Nat):Int) by omega]
def Wq (j:Nat):Bool:=decide ((j+1) % 2=1)
theorem aaq {k:Nat} {w:Wd} (h:WI k w) (hu:UnW k w) (hk:k<=290) {f:Int} {j i:Nat} (hj:j < w.reps.length) (hi:i < w.pool.length) (X Y P Q:IV):
  ∃r m,w.reps[j]? =some r/\w.pool[plc w.pool.length f (Wq j) i]? =some m/\m∈w.pool/\
  cF [X,Y,aI w.pool] (.int .i64 f) [P,Q,.int .i64 ((j:Int)+1)] [qw w.reps,aI w.pool,.int .i64 (i:Int)]=some (.next [qw (w.reps.set j (addF r m).1),aI w.pool,.int .i64 ((i+1:Nat):Int)])/\
  WI (k+1) ⟨w.reps.set j (addF r m).1,w.pool⟩/\UnW (k+1) ⟨w.reps.set j (addF r m).1,w.pool⟩/\(addF r m).1.log=qL r.log m:=by
 obtain ⟨r,m,h1,h2,J,p,K,M,N⟩:=Xg h hu hk hj (aeN (f:=f) (odd:=Wq j) hi)
 refine ⟨r,m,h1,h2,J,?_,K,M,N⟩
 have y:=h.plen
 have R:=h.few
 obtain ⟨L,t⟩: ∃L,w.pool.length=L:=⟨_,rfl⟩
 rw [t] at p hi y
 clear h1 h2 J K M N
 have q: ∀a b c:IV,([a,b,c]:List IV).drop 2=[c]:= λ_ _ _=>rfl
 have g:((i:Int) < (L:Int)):=by omega
 have s:aa .rem (.int .i64 ((j:Int)+1)) (.int .i64 2)=some (.int .i64 (((j+1) % 2:Nat):Int)):=YE (a:=j+1) (b:=2) (by omega)
 have hs:=au (show i < 2 ^ 62 by omega)
 have hp:=qi (i:=L) (by omega) (by omega)
 have u: ¬(0:Int)=1:=by decide
 have rest: ∀a:Nat,a < L->plc L f (Wq j) i=(if Wq j then L - 1 - a else a)-> ∀T:Option SR,(
   ((aa .rem (.int .i64 ((j:Int)+1)) (.int .i64 2)).bind λA=>
 (aa .eql A (.int .i64 1)).bind λC=>
 ae C (λ_=>
 (aa .sub (.int .i64 (L:Int)) (.int .i64 1)).bind λD=>
 (aa .sub D (.int .i64 (a:Int))).bind λE=>
 (az (qw w.reps) (aI w.pool) (.int .i64 2) (.int .i64 ((j:Int)+1)) (.int .i64 0) E (.int .i64 0) (.int .i64 0) (.str ⟨#[]⟩) (.flt .f64 0)).bind λl=>
 (aa .neq (nth (l.drop 2) 0) (.int .i64 0)).bind λF=>
 ae F (λ_=>
 some (.done 1 [.bool false])) (λ_=>
 (aa .add (.int .i64 (i:Int)) (.int .i64 1)).bind λG=>
 some (.next [nth l 0,nth l 1,G]))) (λ_=>
 (az (qw w.reps) (aI w.pool) (.int .i64 2) (.int .i64 ((j:Int)+1)) (.int .i64 0) (.int .i64 (a:Int)) (.int .i64 0) (.int .i64 0) (.str ⟨#[]⟩) (.flt .f64 0)).bind λo=>
 (aa .neq (nth (o.drop 2) 0) (.int .i64 0)).bind λH=>
 ae H (λ_=>
 some (.done 1 [.bool false])) (λ_=>
 (aa .add (.int .i64 (i:Int)) (.int .i64 1)).bind λI=>
 some (.next [nth o 0,nth o 1,I]))))=T)->T=some (.next [qw (w.reps.set j (addF r m).1),aI w.pool,.int .i64 ((i+1:Nat):Int)]):= λa O x T S=>by
   rw [<-S]
   rw [x] at p
   have z:=ab9 (a:=L - 1) (b:=a) (by omega) (by omega)
   by_cases v:(j+1) % 2=1
   ·rw [v] at s
    have hb:Wq j=true:=decide_eq_true v
    rw [hb,if_pos rfl] at p
    simp only [s,ab,dc,Int.natCast_one,decide_true,ah,hp,z,p,q,af,ai,vS,ag,hs]
   ·have h0:(j+1) % 2=0:=by omega
    rw [h0] at s
    have hb:Wq j=false:=decide_eq_false v
    rw [hb,if_neg (by decide)] at p
    simp only [s,ab,dc,Int.natCast_zero,u,decide_false,ag,p,q,af,ai,vS,hs]
 by_cases hf:0 < f/\f < (L:Int)
 ·obtain ⟨d,e⟩:=hf
  obtain ⟨n,rfl⟩: ∃n:Nat,f=(n:Int):=⟨f.toNat,by omega⟩
  have O:aa .add (.int .i64 (i:Int)) (.int .i64 (n:Int))=some (.int .i64 ((i+n:Nat):Int)):=sS (by omega)
  have hr:=YE (a:=i+n) (b:=L) (by omega)
  refine rest ((i+n) % L) (Nat.mod_lt _ (by omega)) ?_ _ ?_
  ·unfold plc
   simp only [d,e,and_self,if_true,Int.toNat_natCast]
  ·unfold cF
   simp only [af,ai,ay,q,aw,ao,t,ab,al,g,decide_true,ah,aV,d,e,O,hr]
 ·refine rest i hi ?_ _ ?_
  ·unfold plc
   simp only [hf,if_false]
  ·unfold cF
   by_cases d:0 < f
   ·have e: ¬f < (L:Int):= λh=>hf ⟨d,h⟩
    simp only [af,ai,ay,q,aw,ao,t,ab,al,g,decide_true,decide_false,ah,ag,aV,d,e]
   ·simp only [af,ai,ay,q,aw,ao,t,ab,al,g,decide_true,decide_false,ah,ag,aV,d]
theorem UnW.gets {k:Nat} {w:Wd} (h:UnW k w) {r:Rep} (hr:r∈w.reps) {m:Mv} (hm:m∈w.pool):m∈qL r.log m:=by
 cases hn:zl r.log m with
 | true=>exact HG hn
 | false=>
   obtain ⟨x,a,b,c⟩:=DS.1 hn
   have:=h.once x ((h.reps r hr).mem x a) m hm b c
   subst this
   exact EY a
theorem EH {f:Int} {j n:Nat} {pool:List Mv} (X Y P Q:IV): ∀(c m i k:Nat) (w:Wd),i+c=pool.length->c < m->WI k w->UnW k w->k+c<=290->w.pool=pool->j < n->w.reps.length=n->
  (∀l,l < i-> ∀q r,pool[plc pool.length f (Wq j) l]? =some q->w.reps[j]? =some r->q∈r.log)->(∀t,t < j-> ∀r,w.reps[t]? =some r->Has pool r)->
  ∃w',iter m (cF [X,Y,aI pool] (.int .i64 f) [P,Q,.int .i64 ((j:Int)+1)]) [qw w.reps,aI pool,.int .i64 (i:Int)]=some (0,[qw w'.reps,aI pool])/\
   WI (k+c) w'/\UnW (k+c) w'/\w'.pool=pool/\w'.reps.length=n/\ ∀t,t < j+1-> ∀r,w'.reps[t]? =some r->Has pool r
 | 0,m,i,k,w,hi,hm,h,hu,hk,hp,hj,hn,g,d=>by
   obtain ⟨m,rfl⟩: ∃x,m=x+1:=⟨m - 1,by omega⟩
   have C: ∀a b c:IV,([a,b,c]:List IV).drop 2=[c]:= λ_ _ _=>rfl
   refine ⟨w,ep m ?_,h,hu,hp,hn,λt A r hr=> ?_⟩
   ·have: ¬((i:Int) < (pool.length:Int)):=by omega
    unfold cF
    simp only [af,ai,ay,C,aw,ao,ab,al,this,decide_false,ag]
   ·by_cases e:t=j
    ·subst e
     intro q T
     obtain ⟨p,o,he⟩:=List.mem_iff_getElem.1 T
     obtain ⟨l,h1,h2⟩:=acP (L:=pool.length) (f:=f) (odd:=Wq t) o
     refine g l (by omega) q r ?_ hr
     rw [h2,a5 o,he]
    ·exact d t (by omega) r hr
 | c+1,m,i,k,w,hi,hm,h,hu,hk,hp,hj,hn,g,d=>by
   obtain ⟨m,rfl⟩: ∃x,m=x+1:=⟨m - 1,by omega⟩
   subst hp
   obtain ⟨r,q,h1,h2,K,R,M,N,O⟩:=aaq h hu (by omega) (f:=f) (j:=j) (i:=i) (by omega) (by omega) X Y P Q
   have v:=(aB.1 h1).1
   obtain ⟨w',E,F,G,H,I,J⟩:=EH (f:=f) (j:=j) (n:=n) (pool:=w.pool) X Y P Q c m (i+1) (k+1) ⟨w.reps.set j (addF r q).1,w.pool⟩ (by omega) (by omega) M N (by omega) rfl hj (by simpa using hn) (λl S U y u z=>by
    have D:y=(addF r q).1:=by simp [v] at z;exact z.symm
    subst D
    rw [O]
    by_cases e:l=i
    ·subst e
     rw [h2] at u;cases u
     exact hu.gets (ad h1) K
    ·exact EY (g l (by omega) U r u h1)) (λt A y s=>by
    have: ¬j=t:=by omega
    simp only [bs,this,if_false] at s
    exact d t A y s)
   refine ⟨w',?_,by rw [show k+(c+1)=k+1+c by omega];exact F,by rw [show k+(c+1)=k+1+c by omega];exact G,H,I,J⟩
   rw [jd m R]
   exact E
theorem Wp {f:Int} {n:Nat} {pool:List Mv} (g:pool.length < 1000) (X Y:IV): ∀(c m j k:Nat) (w:Wd),j+c=n->c < m->WI k w->UnW k w->k+c*pool.length<=290->w.pool=pool->w.reps.length=n->(∀t,t < j-> ∀r,w.reps[t]? =some r->Has pool r)->
  ∃w',iter m (eb (.int .i64 (n:Int)) [X,Y,aI pool] (.int .i64 f)) [qw w.reps,aI pool,.int .i64 ((j:Int)+1)]=some (0,[qw w'.reps,aI pool])/\
   WI 290 w'/\UnW 290 w'/\w'.pool=pool/\w'.reps.length=n/\ ∀(t:Nat) (r:Rep),w'.reps[t]? =some r->Has pool r
 | 0,m,j,k,w,hj,hm,h,hu,hk,hp,hn,a=>by
   obtain ⟨m,rfl⟩: ∃i,m=i+1:=⟨m - 1,by omega⟩
   refine ⟨w,ep m ?_,h.mono (by omega),⟨λr hr=>(hu.reps r hr).more (by omega) λ_ h=>h,hu.once,hu.own⟩,hp,hn,λt r hr=>a t (by have:=(aB.1 hr).1;omega) r hr⟩
   have: ¬((j:Int)+1<=(n:Int)):=by omega
   unfold eb
   simp only [af,ai,ay,e9,this,decide_false,ag,ab]
 | c+1,m,j,k,w,hj,hm,h,hu,hk,hp,hn,a=>by
   obtain ⟨m,rfl⟩: ∃i,m=i+1:=⟨m - 1,by omega⟩
   have hmul:(c+1)*pool.length=c*pool.length+pool.length:=Nat.succ_mul c pool.length
   have hle:((j:Int)+1<=(n:Int)):=by omega
   have b:aa .add (.int .i64 ((j:Int)+1)) (.int .i64 1)=some (.int .i64 (((j+1:Nat):Int)+1)):=by
    have:=h.few
    rw [wQ (by omega) (by omega)];congr 2
   obtain ⟨w1,l,o,p,q,s,u⟩:=EH (f:=f) (j:=j) (n:=n) (pool:=pool) X Y (qw w.reps) (aI pool) pool.length rounds 0 k w (by omega) (by rw [aJ];omega) h hu (by omega) hp (by omega) hn (λy e=>absurd e (bM _)) a
   have d:iter rounds (cF [X,Y,aI pool] (.int .i64 f) [qw w.reps,aI pool,.int .i64 ((j:Int)+1)]) [qw w.reps,aI pool,.int .i64 0]=some (0,[qw w1.reps,aI pool]):=l
   obtain ⟨w',v,x⟩:=Wp (f:=f) (n:=n) g X Y c m (j+1) (k+pool.length) w1 (by omega) (by omega) o p (by omega) q s u
   refine ⟨w',?_,x⟩
   rw [jd m (vs':=[qw w1.reps,aI pool,.int .i64 (((j+1:Nat):Int)+1)]),v]
   unfold eb
   simp only [af,ai,ay,e9,hle,decide_true,ah,ab,d,aK,b]
theorem Yx {k:Nat} {w:Wd} (h:WI k w) {i:Nat} {r:Rep} (hr:w.reps[i]? =some r):dw (qw w.reps) (aI w.pool) (.int .i64 ((i:Int)+1))=some [qw w.reps,aI w.pool,B (fileR r),.int .i64 0]:=by
 obtain ⟨n,_,_⟩:=h.reps r (ad hr)
 have j: ∀a b c d e f g h:IV,([a,b,c,d,e,f,g,h]:List IV).drop 2=[c,d,e,f,g,h]:= λ_ _ _ _ _ _ _ _=>rfl
 have l:=Dn hr h.few
 have m:=CD n
 unfold dw
 simp only [l,ab,j,bV,aZ,a7,ag,af,ai,ay,aH,bW,m]
theorem XU {k n:Nat} {w:Wd} (h:WI k w) (hk:k<=290) (hn:w.reps.length=n) (h1:1<=n) {r0:Rep} (j: ∀(i:Nat) (r:Rep),w.reps[i]? =some r->r=r0) (X Y Z:IV):
  iter rounds (gV (.int .i64 (n:Int)) [X,Y,B (fileR r0),Z]) [qw w.reps,aI w.pool,.int .i64 2]=some (0,[qw w.reps,aI w.pool]):=by
 have s:=h.few
 have v: ∀a b c:IV,([a,b,c]:List IV).drop 2=[c]:= λ_ _ _=>rfl
 have x: ∀a b c d:IV,([a,b,c,d]:List IV).drop 2=[c,d]:= λ_ _ _ _=>rfl
 have at_: ∀i,i < n->w.reps[i]? =some r0:= λi hi=>by
  have u:=a5 (show i < w.reps.length by omega)
  rw [u,j i _ u]
 have l:=at_ 0 (by omega)
 have p:=ad l
 have m:=QX h (by omega) l
 have f:bU (qw w.reps) (aI w.pool) (.int .i64 1)=some [qw w.reps,aI w.pool,cJ (allV r0.base r0.log)]:=m
 obtain ⟨t,hb,_⟩:=h.reps r0 p
 have q:OKl (allV r0.base r0.log):=OKl.allV t.ok.base t.ok.log
 have e:=CE (a:=allV r0.base r0.log) (b:=allV r0.base r0.log) (by have:=qV r0.log r0.base;omega) q.fl q.fl
 rw [MC] at e
 have o:aa .neq (B (fileR r0)) (B (fileR r0))=some (.bool false):=by rw [Yz];simp
 refine ba (vs0:=[qw w.reps,aI w.pool,.int .i64 2]) (λi=>[qw w.reps,aI w.pool,.int .i64 (((i+1:Nat):Int)+1)]) (n - 1) 0 [qw w.reps,aI w.pool] rfl (by omega) (λi hi=> ?_) (by
  have: ¬(((n - 1+1:Nat):Int)+1<=(n:Int)):=by omega
  unfold gV
  simp only [af,ai,ay,e9,this,decide_false,ag,ab])
 have hle:(((i+1:Nat):Int)+1<=(n:Int)):=by omega
 have hr:=at_ (i+1) (by omega)
 have y:=Yx h hr
 have z:=QX h (by omega) hr
 have g:aa .add (.int .i64 (((i+1:Nat):Int)+1)) (.int .i64 1)=some (.int .i64 (((i+1+1:Nat):Int)+1)):=by
  rw [wQ (by omega) (by omega)];congr 2
 unfold gV
 simp only [af,ai,ay,e9,hle,decide_true,ah,ab,y,x,vS,ag,o,f,z,v,e,aZ,a7,g]
theorem UM: ∀{b a:List Mv},(∀x∈a,∀y∈b,x.c=y.c->x.r=y.r->x=y)->(∀x∈b,∀y∈b,x.c=y.c->x.r=y.r->x=y)-> ∀m,(m∈a\/m∈b)->m∈uniV a b
 | [],a,h1,h2,m,h=>by
   rcases h with h | h
   ·exact h
   ·exact absurd h a6
 | y::b,a,h1,h2,m,h=>by
   show m∈uniV (qL a y) b
   refine UM (λx d z hz=> ?_) (λx d z hz=>h2 x (bb _ d) z (bb _ hz)) m ?_
   ·rcases sU d with rfl | d
    ·exact h2 x bB z (bb _ hz)
    ·exact h1 x d z (bb _ hz)
   ·rcases h with h | h
    ·exact .inl (EY h)
    ·rcases List.mem_cons.1 h with rfl | h
     ·left
      cases hn:zl a m with
      | true=>exact HG hn
      | false=>
        obtain ⟨x,d,e,f⟩:=DS.1 hn
        have:=h1 x d m bB e f
        subst this
        exact EY d
     ·exact .inr h
theorem aip {n:Nat}:UnW 0 (NW n):=by
 refine ⟨λr hr=> ?_,λm hm=>absurd hm a6,λm hm=>absurd hm a6⟩
 rw [a8 hr]
 exact ⟨Gh.nil.1,λm hm=>absurd hm a6,λx=>rfl⟩
set_option maxHeartbeats 2000000 in
theorem zk (n:Int) (l:List Dd) (f:Int) (Y: ∀d∈l,OKd d):jN (.int .i64 n) (Jj l) (.int .i64 f)=some [.bool true]:=by
 obtain ⟨b,X,hb⟩:=aaE (l:=l) (n:=25) (by decide)
 have D:kx (Jj l) (.int .i64 25)=some [.bool b]:=X
 have R: ∀a b c:IV,([a,b,c]:List IV).drop 2=[c]:= λ_ _ _=>rfl
 unfold jN
 simp only [D,ab,af,aZ]
 cases b with
 | false=>simp only [bA,ah,ab,af,sC];rfl
 | true=>
   have hl:=hb rfl
   simp only [a7,ag,ab,al,aV]
   by_cases h1:n < 1
   ·simp only [h1,decide_true,ah,ab,af,sC];rfl
   ·by_cases h2:8 < n
    ·simp only [h1,h2,decide_true,decide_false,ah,ag,ab,af,sC];rfl
    ·obtain ⟨k,rfl⟩: ∃k:Nat,n=(k:Int):=⟨n.toNat,by omega⟩
     have hk:k<=8:=by omega
     obtain ⟨w1,_⟩:=acs hk
     obtain ⟨w,S,I,J,T⟩:=acg (by omega) Y (n:=k) l.length rounds 0 (NW k) (by omega) (by rw [aJ];omega) w1 aip (by simp [NW])
     have A:iter rounds (dy (Jj l)) [qw (NW k).reps,.lst [],.int .i64 0]=some (0,[qw w.reps,aI w.pool]):=S
     have Z:=I.plen
     have W:=adl (w:=w) (by omega)
     have hmul:k*w.pool.length<=8*25:=Nat.mul_le_mul hk (by omega)
     obtain ⟨v,P,u,H,j,Q,z⟩:=Wp (f:=f) (n:=k) (pool:=w.pool) (by omega) (qw w.reps) (aI w.pool) k rounds 0 l.length w (by omega) (by rw [aJ];omega) I J (by omega) rfl T (λt ht=>absurd ht (bM _))
     have s:iter rounds (eb (.int .i64 (k:Int)) [qw w.reps,aI w.pool,aI w.pool] (.int .i64 f)) [qw w.reps,aI w.pool,.int .i64 1]=some (0,[qw v.reps,aI w.pool]):=P
     obtain ⟨r0,g⟩: ∃r0,v.reps[0]? =some r0:=⟨_,a5 (show 0 < v.reps.length by omega)⟩
     have F:=ad g
     have e:=H.reps r0 F
     rw [j] at e
     have U:=Yx u g
     have C:dw (qw v.reps) (aI w.pool) (.int .i64 1)=some [qw v.reps,aI w.pool,B (fileR r0),.int .i64 0]:=by rw [<-j];exact U
     have K:=XU u (by omega) Q (by omega) (r0:=r0) (λi r hr=>by
      have p:=H.reps r (ad hr)
      rw [j] at p
      exact UnR.full p e (z i r hr) (z 0 r0 g)) (qw v.reps) (aI w.pool) (.int .i64 0)
     rw [j] at K
     have M:=QX u (by omega) g
     rw [j,e.eng.base] at M
     have E:bU (qw v.reps) (aI w.pool) (.int .i64 1)=some [qw v.reps,aI w.pool,cJ (allV [] r0.log)]:=M
     have N:kz (.lst []) (aI w.pool)=some [aI (uniV [] w.pool)]:=Nf (a:=[]) (b:=w.pool) (by simp) (by omega)
     have heq:uniV [] w.pool=r0.log:=IB (Ii List.Pairwise.nil) (fX.1 e.eng.may.moves).2.2 λm=>⟨λh=>by
      rcases TP h with h | h
      ·exact absurd h a6
      ·exact z 0 r0 g m h,λh=>UM (λx G=>absurd G a6) (λx G y q=>J.once x G y q) m (.inr (e.mem m h))⟩
     rw [heq] at N
     have O:=e.eng.log
     have V:lj (.lst []) (aI r0.log)=some [cJ (allV [] r0.log)]:=A6 (l:=[]) (ms:=r0.log) (by simp;omega) (λy q=>absurd q a6) e.eng.ok.log
     have L:OKl (allV [] r0.log):=OKl.allV (λy q=>absurd q a6) e.eng.ok.log
     have o:=CE (a:=allV [] r0.log) (b:=allV [] r0.log) (by have:=qV r0.log [];simp at*;omega) L.fl L.fl
     rw [MC] at o
     simp only [h1,h2,decide_false,ag,ab,af,ai,adi hk,A,aK,W,R,s,C,K,E,N,V,o,ah,sC]
     rfl
end Go.AM
