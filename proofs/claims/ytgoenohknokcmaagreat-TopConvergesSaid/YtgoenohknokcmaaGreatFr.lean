/- Replicas, plainly: what may be; add, merge, prune; what they keep. No program is named here. -/
import Derived.Test.YtgoenohknokcmaaGreatTs
open Option renaming bind_some->ab
open Bool renaming and_eq_true->ad,true_and->a8
open List renaming mem_of_mem_take->ao,getElem?_eq_some_iff->aB,all_eq_true->a2,length_take->a5,length_map->a6,length_cons->a7
open Int renaming le_refl->a1,le_trans->bb,ofNat_lt->bd
set_option linter.unusedVariables false
set_option linter.unusedSimpArgs false
namespace Go.AM
structure Rep where
 base:List Rw
 fc:Int
 fr:Int
 log:List Mv
 mks:List Mark
def kidsK (l:List Rw) (m:List Mv):List Int:=(m.map (·.ch)).foldl GC ((l.map (·.ch)).foldl GC [])
def knownB (v:List Mark) (c r:Int):Bool:=P4 c r&&decide (c<=getM v r)
def aam (r:Rep):Bool:=r.log.all λm=>befB r.fc r.fr m.c m.r
def Wa (r:Rep):Bool:=
 mayR r.base&&(mayV r.log&&(XP r.mks&&(Ba (ofM r.log) r.mks&&((decide (r.fc=0/\r.fr=0)||knownB r.mks r.fc r.fr)&&(aam r&&decide ((kidsK r.base r.log).length<=2000))))))
structure MayF (r:Rep):Prop where
 tree:mayR r.base=true
 moves:mayV r.log=true
 marks:MayP r.mks
 cover: ∀m∈r.log,m.c<=getM r.mks m.r
 floor:(r.fc=0/\r.fr=0)\/knownB r.mks r.fc r.fr=true
 after: ∀m∈r.log,befB r.fc r.fr m.c m.r=true
 few:(kidsK r.base r.log).length<=2000
theorem Qm {c r:Int}:P4 c r=true↔1<=c/\c<=4611686018427387903/\1<=r/\r<=255:=by
 unfold P4;simp only [ad,decide_eq_true_eq];omega
theorem ou {m:Mv} (h:oneV m=true):1<=m.c/\m.c<=4611686018427387903/\1<=m.r/\m.r<=255:=by
 unfold oneV at h;simp only [ad] at h;exact Qm.1 h.1
theorem FQ (r:Int): ∀(l:List Mv) (n k:Int),supV r l n<=k↔n<=k/\ ∀m∈l,m.r=r->m.c<=k
 | [],n,k=>by simp [supV]
 | x::l,n,k=>by
   have ih:=FQ r l (if r=x.r then max n x.c else n) k
   have e:supV r (x::l) n=supV r l (if r=x.r then max n x.c else n):=rfl
   rw [e,ih]
   simp only [List.mem_cons,forall_eq_or_imp]
   by_cases h:r=x.r
   ·subst h
    simp only [if_true,forall_const]
    constructor
    ·rintro ⟨h1,h2⟩;exact ⟨by omega,by omega,h2⟩
    ·rintro ⟨h1,h2,a⟩;exact ⟨by omega,a⟩
   ·have h': ¬x.r=r:= λe=>h e.symm
    simp only [if_neg h,h',false_implies,true_and]
theorem Yi (l:List Mv) (r:Int):getM (ofM l) r=supV r l 0:=by
 unfold ofM
 rw [K3]
 rfl
theorem Qw {l:List Mv} {v:List Mark} (hl: ∀m∈l,oneV m=true) (hv:MayP v):Ba (ofM l) v=true↔ ∀m∈l,m.c<=getM v m.r:=by
 have hm:MayP (ofM l):=QC MayP.nil λm hm=>ou (hl m hm)
 rw [Xp hm hv.nonneg]
 constructor
 ·intro h m hm
  have:=h m.r
  rw [Yi,FQ] at this
  exact this.2 m hm rfl
 ·intro h r
  rw [Yi,FQ]
  exact ⟨hv.nonneg r,λm hm e=>e▸h m hm⟩
theorem wT {r:Rep}:Wa r=true↔MayF r:=by
 unfold Wa
 simp only [ad,Bool.or_eq_true,decide_eq_true_eq]
 constructor
 ·rintro ⟨h1,h2,a,b,c,d,e⟩
  have f:=Fl.1 a
  exact ⟨h1,h2,f,(Qw (fX.1 h2).2.1 f).1 b,c,λm hm=>a2.1 d m hm,e⟩
 ·rintro ⟨h1,h2,a,b,c,d,e⟩
  exact ⟨h1,h2,Fl.2 a,(Qw (fX.1 h2).2.1 a).2 b,c,a2.2 d,e⟩
def addF (r:Rep) (m:Mv):Rep×Bool×Int:=
 if (Wa r&&oneV m)=true then
  if befB r.fc r.fr m.c m.r=true then
   if zl r.log m=true then (⟨r.base,r.fc,r.fr,qL r.log m,kM r.mks m.c m.r⟩,true,0) else (r,false,0)
  else (r,false,9)
 else (r,false,1)
def pruneF (r:Rep) (c t:Int):Rep×Int:=
 if (Wa r&&knownB r.mks c t)=true then
  if befB r.fc r.fr c t=true then (⟨allV r.base (r.log.take (r.log.length - (Cc r.log c t).length)),c,t,Cc r.log c t,r.mks⟩,0) else (r,0)
 else (r,1)
theorem xk: ∀(xs K:List Int),(xs.foldl GC K).length<=K.length+xs.length
 | [],K=>by simp
 | x::xs,K=>by
   have h1:=xk xs (GC K x)
   have h2:(GC K x).length<=K.length+1:=by unfold GC;split<;>simp
   simp only [List.foldl_cons,a7];omega
theorem yg (l:List Rw) (m:List Mv):(kidsK l m).length<=l.length+m.length:=by
 unfold kidsK
 have h1:=xk (m.map (·.ch)) ((l.map (·.ch)).foldl GC [])
 have h2:=xk (l.map (·.ch)) []
 simp at h1 h2;omega
theorem DS {l:List Mv} {m:Mv}:zl l m=false↔ ∃x∈l,x.c=m.c/\x.r=m.r:=by
 unfold zl;rw [Bool.not_eq_false',abM]
theorem MayF.add {r:Rep} (h:MayF r) {m:Mv} (hm:oneV m=true) (hb:befB r.fc r.fr m.c m.r=true) (hl:r.log.length < 1000) (i:r.base.length < 1000):MayF ⟨r.base,r.fc,r.fr,qL r.log m,kM r.mks m.c m.r⟩:=by
 have d:=ou hm
 obtain ⟨j,f,g⟩:=fX.1 h.moves
 have hlen:=vo r.log m
 have b: ∀x,getM r.mks x<=getM (kM r.mks m.c m.r) x:= λx=>by
  rw [tT];split
  ·rename_i e;rw [e];omega
  ·omega
 refine ⟨h.tree,fX.2 ⟨by dsimp only;omega,λx a=> ?_,Ie g⟩,h.marks.raise ⟨d.2.2.1,d.2.2.2⟩ d.2.1,λx a=> ?_,?_,λx a=> ?_,?_⟩
 ·rcases sU a with rfl | a
  ·exact hm
  ·exact f x a
 ·rcases sU a with rfl | a
  ·dsimp only;rw [tT,if_pos rfl];omega
  ·exact bb (h.cover x a) (b x.r)
 ·rcases h.floor with hf | hf
  ·exact .inl hf
  ·refine .inr ?_
   unfold knownB at hf ⊢
   simp only [ad,decide_eq_true_eq] at hf ⊢
   exact ⟨hf.1,bb hf.2 (b _)⟩
 ·rcases sU a with rfl | a
  ·exact hb
  ·exact h.after x a
 ·have:=yg r.base (qL r.log m)
  dsimp only;omega
theorem Fi {l:List Mv} {c r:Int} {x:Mv}:x∈Cc l c r↔x∈l/\befB c r x.c x.r=true:=by
 unfold Cc;rw [List.mem_filter]
theorem ve (l:List Mv) (c r:Int):(Cc l c r).length<=l.length:=List.length_filter_le _ _
theorem Wn: ∀{ms:List Mv} {l:List Rw},mayR l=true->(∀m∈ms,oneV m=true)->l.length+ms.length<=2000->mayR (allV l ms)=true
 | [],l,h,_,_=>h
 | m::ms,l,h,hm,hl=>by
   have dl:=yn l m
   simp only [a7] at hl
   have a:mayR (QW l m)=true:=by
    cases hb:NL l m with
    | true=>rw [ac7 hb];exact h
    | false=>exact acO h (hm m List.mem_cons_self) hb (by omega)
   exact Wn (ms:=ms) a (λx b=>hm x (List.mem_cons_of_mem _ b)) (by omega)
theorem MayF.prune {r:Rep} (h:MayF r) {c t:Int} (hk:knownB r.mks c t=true) (hl:r.log.length < 800) (f:r.base.length < 800):MayF ⟨allV r.base (r.log.take (r.log.length - (Cc r.log c t).length)),c,t,Cc r.log c t,r.mks⟩:=by
 obtain ⟨g,b,e⟩:=fX.1 h.moves
 have hlen:=ve r.log c t
 have d:=qV (r.log.take (r.log.length - (Cc r.log c t).length)) r.base
 simp only [a5] at d
 refine ⟨Wn h.tree (λx a=>b x (ao a)) (by simp only [a5];omega),fX.2 ⟨by dsimp only;omega,λx a=>b x (Fi.1 a).1,?_⟩,h.marks,λx a=>h.cover x (Fi.1 a).1,.inr hk,λx a=>(Fi.1 a).2,?_⟩
 ·exact e.sublist List.filter_sublist
 ·have:=yg (allV r.base (r.log.take (r.log.length - (Cc r.log c t).length))) (Cc r.log c t)
  dsimp only;omega
end Go.AM
namespace Go.AM
theorem acm (a b c d:Int):TY .eql [.i,.i] [.int .i64 a,.int .i64 b] [.int .i64 c,.int .i64 d]=some (.bool (decide (a=c/\b=d))):=by
 simp [TY,MD,WZ]
 by_cases h1:a=c<;>by_cases h2:b=d<;>simp [h1,h2]
theorem jd {f:List IV->Option SR} {vs vs':List IV} (n:Nat) (h:f vs=some (.next vs')):iter (n+1) f vs=iter n f vs':=by
 rw [iter,h];rfl
structure SmF (n:Nat) (r:Rep):Prop where
 base:r.base.length<=n
 log:r.log.length<=n
 mks:r.mks.length<=n
structure OKF (r:Rep):Prop where
 base:OKl r.base
 log: ∀m∈r.log,OKm m
def Zc (r:Rep) (l:List IV):List IV:=cJ r.base:: .int .i64 r.fc:: .int .i64 r.fr::aI r.log::aL r.mks::l
theorem AH {v:List Mark} (hv:v.length < 2 ^ 16) (c r:Int):ku (aL v) (.int .i64 c) (.int .i64 r)=some [.bool (knownB v c r)]:=by
 unfold ku knownB P4
 simp only [dk,e9,ab,bj,xM hv,af]
 by_cases h1:1<=c<;>by_cases h2:c<=4611686018427387903<;>by_cases a:1<=r<;>by_cases b:r<=255<;>simp [h1,h2,a,b]
theorem QM {α:Type} {f:List IV->Option SR} {l:List α} {g:α->Int} (hl:l.length < 2 ^ 16) (K:List Int)
  (h1: ∀(i:Nat) (x:α) (K:List Int),l[i]? =some x->f [eK K,.int .i64 (i:Int)]=some (.next [eK (GC K (g x)),.int .i64 ((i+1:Nat):Int)])) (h2: ∀K:List Int,f [eK K,.int .i64 (l.length:Int)]=some (.done 0 [eK K])):
  iter rounds f [eK K,.int .i64 0]=some (0,[eK ((l.map g).foldl GC K)]):=by
 rw [kE (vs0:=[eK K,.int .i64 0]) (λi (s:List Int)=>[eK s,.int .i64 (i:Int)]) (λK (x:α)=>GC K (g x)) 0 (λs=>[eK s]) (λ_ _=>True) l K rfl (by have:=aJ;omega) trivial]
 ·rw [List.foldl_map]
 ·intro i s x a _;exact ⟨trivial,h1 i x s a⟩
 ·intro s _;exact h2 s
theorem uP {l:List Rw} {m:List Mv} (hl:l.length < 2 ^ 16) (hm:m.length < 2 ^ 16) (a b c:IV):fN (cJ l) a b (aI m) c=some [eK (kidsK l m)]:=by
 unfold fN kidsK
 have e0:(IV.map [])=eK []:=rfl
 simp only [aw,ab,a6,e0]
 rw [QM (l:=l) (g:=(·.ch)) hl []]
 ·simp only [ab,aK,af]
  rw [QM (l:=m) (g:=(·.ch)) hm]
  ·simp only [ab,aK,af]
  ·intro i x K d
   have hi:i < m.length:=(aB.1 d).1
   unfold oL
   simp only [af,ai,ay,aH,al,bd,hi,zH d,decide_true,ah,ab,VY,au (show i < 2 ^ 62 by omega)]
  ·intro K
   unfold oL
   simp
 ·intro i x K d
  have hi:i < l.length:=(aB.1 d).1
  unfold oX
  simp only [af,ai,al,bd,hi,QR d,decide_true,ah,ab,VY,au (show i < 2 ^ 62 by omega)]
 ·intro K
  unfold oX
  simp
theorem Xx (l:List Mv):(ofM l).length<=l.length:=by
 have:=Gd l []
 simpa [ofM] using this
theorem acJ (r:Rep):decide ((Cc r.log r.fc r.fr).length=r.log.length)=aam r:=by
 unfold aam Cc
 rw [Bool.eq_iff_iff,decide_eq_true_eq,a2]
 exact List.length_filter_eq_length_iff
theorem su {r:Rep} (h:SmF 2000 r) (p:OKF r):js (cJ r.base) (.int .i64 r.fc) (.int .i64 r.fr) (aI r.log) (aL r.mks)=some [.bool (Wa r)]:=by
 have hb:=h.base
 have k:=h.log
 have o:=h.mks
 have q:=Xx r.log
 have hs:=ve r.log r.fc r.fr
 have c1:nt (.ptr [cJ r.base,.int .i64 r.fc,.int .i64 r.fr,aI r.log,aL r.mks] 0)=some [.bool (mayR r.base&&(mayV r.log&&XP r.mks))]:=by
  unfold nt
  simp [gx,iM,BA (l:=r.base) (by omega) p.base,xI (l:=r.log) (by omega),xC (v:=r.mks) (by omega),db]
  cases mayR r.base<;>cases mayV r.log<;>simp
 have c2:ny (.ptr [cJ r.base,.int .i64 r.fc,.int .i64 r.fr,aI r.log,aL r.mks] 0)=some [.bool (Ba (ofM r.log) r.mks)]:=by
  unfold ny
  simp [gx,iM,VT (l:=r.log) (by omega),KZ (a:=ofM r.log) (b:=r.mks) (by omega) (by omega)]
 have c3:nC (.ptr [cJ r.base,.int .i64 r.fc,.int .i64 r.fr,aI r.log,aL r.mks] 0)=some [.bool (decide (r.fc=0/\r.fr=0)||knownB r.mks r.fc r.fr)]:=by
  unfold nC
  simp [gx,iM,yN,acm,db,AH (v:=r.mks) (by omega)]
  by_cases e:r.fc=0/\r.fr=0<;>simp [e]
 have c4:nK (.ptr [cJ r.base,.int .i64 r.fc,.int .i64 r.fr,aI r.log,aL r.mks] 0)=some [.bool (aam r)]:=by
  unfold nK
  simp [gx,iM,yN,Bu (l:=r.log) (by omega)]
  rw [<-acJ r]
  congr 1
  apply propext
  omega
 have c5:nL (.ptr [cJ r.base,.int .i64 r.fc,.int .i64 r.fr,aI r.log,aL r.mks] 0)=some [.bool (decide ((kidsK r.base r.log).length<=2000))]:=by
  unfold nL
  simp [yN,uP (l:=r.base) (m:=r.log) (by omega) (by omega),Yl]
  omega
 have step: ∀(i:Nat) (b:Bool) (c:IV),i < 5->dV (.lst [[(.clo (.func nc) [(.ptr [cJ r.base,.int .i64 r.fc,.int .i64 r.fr,aI r.log,aL r.mks] 0)])],[(.clo (.func nJ) [(.ptr [cJ r.base,.int .i64 r.fc,.int .i64 r.fr,aI r.log,aL r.mks] 0)])],[(.clo (.func mY) [(.ptr [cJ r.base,.int .i64 r.fc,.int .i64 r.fr,aI r.log,aL r.mks] 0)])],[(.clo (.func nu) [(.ptr [cJ r.base,.int .i64 r.fc,.int .i64 r.fr,aI r.log,aL r.mks] 0)])],[(.clo (.func na) [(.ptr [cJ r.base,.int .i64 r.fc,.int .i64 r.fr,aI r.log,aL r.mks] 0)])]]) i 0=some c->dX c [1] []=some [.bool b]->
   mI (cJ r.base) (.int .i64 r.fc) (.int .i64 r.fr) (aI r.log) (aL r.mks) [.int .i64 (i:Int)]=some (if b=true then .next [.int .i64 ((i+1:Nat):Int)] else .done 1 [.bool false]):=by
  intro i b c hi h1 h2
  have g:cx 5 (.int .i64 (i:Int))=some i:=fi hi
  have d:(i:Int) < ((5:Nat):Int):=by omega
  unfold mI
  simp only [af,al,d,decide_true,ah,ab,g,h1,h2,aZ,db,au (show i < 2 ^ 62 by omega)]
  cases b<;>simp
 have s:=step 0 _ _ (by decide) rfl (show dX _ _ _=_ from c1)
 have t:=step 1 _ _ (by decide) rfl (show dX _ _ _=_ from c2)
 have u:=step 2 _ _ (by decide) rfl (show dX _ _ _=_ from c3)
 have w:=step 3 _ _ (by decide) rfl (show dX _ _ _=_ from c4)
 have s4:=step 4 _ _ (by decide) rfl (show dX _ _ _=_ from c5)
 have x:mI (cJ r.base) (.int .i64 r.fc) (.int .i64 r.fr) (aI r.log) (aL r.mks) [.int .i64 ((5:Nat):Int)]=some (.done 0 []):=by
  unfold mI
  simp
 unfold js Wa
 obtain ⟨N,j⟩: ∃N,rounds=N+1+1+1+1+1+1:=⟨999994,rfl⟩
 rw [j,show (IV.int .i64 0)=IV.int .i64 ((0:Nat):Int) from rfl]
 generalize mI (cJ r.base) (.int .i64 r.fc) (.int .i64 r.fr) (aI r.log) (aL r.mks)=f at*
 have done: ∀(n i:Nat) (b:Bool),f [.int .i64 (i:Int)]=some (if b=true then .next [.int .i64 ((i+1:Nat):Int)] else .done 1 [.bool false])->iter (n+1) f [.int .i64 (i:Int)]=if b=true then iter n f [.int .i64 ((i+1:Nat):Int)] else some (1,[.bool false]):=by
  intro n i b h
  cases b with
  | true=>rw [jd n h,if_pos rfl]
  | false=>rw [ep n h];rfl
 rw [done _ 0 _ s,done _ 1 _ t,done _ 2 _ u,done _ 3 _ w,done _ 4 _ s4,ep _ x]
 cases mayR r.base<;>cases mayV r.log<;>cases XP r.mks<;>cases Ba (ofM r.log) r.mks<;>cases (decide (r.fc=0/\r.fr=0)||knownB r.mks r.fc r.fr)<;>cases aam r<;>cases decide ((kidsK r.base r.log).length<=2000)<;>rfl
end Go.AM
namespace Go.AM
theorem SmF.mono {n m:Nat} {r:Rep} (h:SmF n r) (a:n<=m):SmF m r:=⟨Nat.le_trans h.base a,Nat.le_trans h.log a,Nat.le_trans h.mks a⟩
theorem SmF.add {n:Nat} {r:Rep} (h:SmF n r) (m:Mv):SmF (n+1) (addF r m).1:=by
 have h1:=h.base
 have h2:=h.log
 have a:=h.mks
 have b:=vo r.log m
 have d:=vL (c:=m.c) (r:=m.r) r.mks
 unfold addF
 split
 ·split
  ·split
   ·exact ⟨by dsimp only;omega,by dsimp only;omega,by dsimp only;omega⟩
   ·exact h.mono (by omega)
  ·exact h.mono (by omega)
 ·exact h.mono (by omega)
theorem aaG {l:List Mv} {m:Mv} (h: ∀x∈l,OKm x) (hm:OKm m): ∀x∈qL l m,OKm x:= λx a=>by
 rcases sU a with rfl | a
 ·exact hm
 ·exact h x a
theorem OKF.add {r:Rep} (h:OKF r) {m:Mv} (hm:OKm m):OKF (addF r m).1:=by
 unfold addF
 split
 ·split
  ·split
   ·exact ⟨h.base,aaG h.log hm⟩
   ·exact h
  ·exact h
 ·exact h
theorem OKF.prune {r:Rep} (h:OKF r) (c t:Int):OKF (pruneF r c t).1:=by
 unfold pruneF
 split
 ·split
  ·exact ⟨OKl.allV h.base λm hm=>h.log m (ao hm),λm hm=>h.log m (Fi.1 hm).1⟩
  ·exact h
 ·exact h
theorem FH {r:Rep} (h:SmF 900 r) (d:OKF r) {m:Mv} (hm:OKm m):kZ (cJ r.base) (.int .i64 r.fc) (.int .i64 r.fr) (aI r.log) (aL r.mks) (.int .i64 m.c) (.int .i64 m.r) (.int .i64 m.par) (.int .i64 m.ch) (.str m.nm) (.flt .f64 m.rk)=
  some [cJ (addF r m).1.base,.int .i64 (addF r m).1.fc,.int .i64 (addF r m).1.fr,aI (addF r m).1.log,aL (addF r m).1.mks,.bool (addF r m).2.1,.int .i64 (addF r m).2.2]:=by
 have hb:=h.base
 have a:=h.log
 have b:=h.mks
 have hk:=yg r.base r.log
 have e: ¬((r.log.length:Int)=2000):=by omega
 have f: ¬(((kidsK r.base r.log).length:Int)=2000):=by omega
 unfold kZ addF
 simp only [su (h.mono (by omega)) d,xo,ld,yO (l:=r.log) (show r.log.length < 2 ^ 16 by omega),uP (l:=r.base) (m:=r.log) (show r.base.length < 2 ^ 16 by omega) (show r.log.length < 2 ^ 16 by omega),A7 (l:=r.mks) (show r.mks.length < 2 ^ 16 by omega),ab,af,ai,ay,aZ,KP,db,aw,a6,Yl,aaI,dc,bj,e,f,if_false,decide_false,ag]
 cases Wa r<;>cases oneV m<;>cases befB r.fc r.fr m.c m.r<;>cases zl r.log m<;>simp
theorem qE {a b:Nat} (h:b<=a) (c:a < 2 ^ 60):aa .sub (.int .i64 (a:Int)) (.int .i64 (b:Int))=some (.int .i64 ((a - b:Nat):Int)):=by
 rw [nx (by omega) (by omega)]
 congr 2;omega
theorem Nr {r:Rep} (h:SmF 2000 r) (b:OKF r) (c t:Int):kD (cJ r.base) (.int .i64 r.fc) (.int .i64 r.fr) (aI r.log) (aL r.mks) (.int .i64 c) (.int .i64 t)=
  some [cJ (pruneF r c t).1.base,.int .i64 (pruneF r c t).1.fc,.int .i64 (pruneF r c t).1.fr,aI (pruneF r c t).1.log,aL (pruneF r c t).1.mks,.int .i64 (pruneF r c t).2]:=by
 have hb:=h.base
 have d:=h.log
 have e:=h.mks
 have hs:=ve r.log c t
 have a:=A6 (l:=r.base) (ms:=r.log.take (r.log.length - (Cc r.log c t).length)) (by simp only [a5];omega) b.base λm hm=>b.log m (ao hm)
 unfold kD pruneF
 simp only [su h b,AH (v:=r.mks) (show r.mks.length < 2 ^ 16 by omega),ld,Bu (l:=r.log) (show r.log.length < 2 ^ 16 by omega),ab,af,aZ,KP,db,aw,a6,qE hs (by omega),abR (l:=r.log) (Nat.sub_le _ _),a]
 cases Wa r<;>cases knownB r.mks c t<;>cases befB r.fc r.fr c t<;>simp
theorem PL {r:Rep} (h:SmF 2000 r) (d:OKF r) (a b c:IV):mn (cJ r.base) a b (aI r.log) c=some [cJ (allV r.base r.log)]:=by
 have hb:=h.base
 have e:=h.log
 unfold mn
 simp only [A6 (l:=r.base) (ms:=r.log) (by omega) d.base d.log,ab,af]
end Go.AM
namespace Go.AM
end Go.AM
namespace Go.AM
theorem abV {r:Rep} {m:Mv} (h:(addF r m).2.2≠0):(addF r m).2.1=false/\(addF r m).1=r:=by
 unfold addF at h ⊢
 split
 ·rename_i h1
  rw [if_pos h1] at h
  split
  ·rename_i h2
   rw [if_pos h2] at h
   split
   ·rename_i a;rw [if_pos a] at h;exact absurd rfl h
   ·exact ⟨rfl,rfl⟩
  ·exact ⟨rfl,rfl⟩
 ·exact ⟨rfl,rfl⟩
theorem TD {r:Rep} (h:MayF r) (hs:SmF 700 r) (m:Mv):MayF (addF r m).1:=by
 have h1:=hs.base
 have h2:=hs.log
 unfold addF
 split
 ·rename_i h1
  simp only [ad] at h1
  split
  ·rename_i h2
   split
   ·exact h.add h1.2 h2 (by omega) (by omega)
   ·exact h
  ·exact h
 ·exact h
theorem UA {r:Rep} (h:MayF r) (m:Mv):(addF r m).2.2=if oneV m=true then (if befB r.fc r.fr m.c m.r=true then 0 else 9) else 1:=by
 unfold addF
 rw [wT.2 h,a8]
 cases oneV m<;>cases befB r.fc r.fr m.c m.r<;>cases zl r.log m<;>rfl
theorem WC {r:Rep} {c t:Int} (h:(pruneF r c t).2≠0):(pruneF r c t).1=r:=by
 unfold pruneF at h ⊢
 split
 ·rename_i h1
  rw [if_pos h1] at h
  split
  ·rename_i h2;rw [if_pos h2] at h;exact absurd rfl h
  ·rfl
 ·rfl
theorem Xn {r:Rep} (h:MayF r) (hs:SmF 700 r) (c t:Int):MayF (pruneF r c t).1:=by
 have h1:=hs.base
 have h2:=hs.log
 unfold pruneF
 split
 ·rename_i h1
  simp only [ad] at h1
  split
  ·exact h.prune h1.2 (by omega) (by omega)
  ·exact h
 ·exact h
theorem XX {r:Rep} (h:MayF r) (c t:Int):(pruneF r c t).2=if knownB r.mks c t=true then 0 else 1:=by
 unfold pruneF
 rw [wT.2 h,a8]
 cases knownB r.mks c t<;>cases befB r.fc r.fr c t<;>rfl
theorem WD (r:Rep) (c t:Int):(pruneF r c t).1.mks=r.mks:=by
 unfold pruneF
 split
 ·split<;>rfl
 ·rfl
theorem abF {r:Rep} (m:Mv) (x:Int):getM r.mks x<=getM (addF r m).1.mks x:=by
 unfold addF
 split
 ·split
  ·split
   ·dsimp only;rw [tT];split
    ·rename_i e;rw [e];omega
    ·omega
   ·exact a1 _
  ·exact a1 _
 ·exact a1 _
theorem M1 (r:Rep) (m:Mv):(addF r m).1.fc=r.fc/\(addF r m).1.fr=r.fr/\(addF r m).1.base=r.base:=by
 unfold addF
 split
 ·split
  ·split<;>exact ⟨rfl,rfl,rfl⟩
  ·exact ⟨rfl,rfl,rfl⟩
 ·exact ⟨rfl,rfl,rfl⟩
end Go.AM
namespace Go.AM
structure TwoF (E:List Mv) (a b:Rep):Prop where
 log:a.log=E++b.log
 base:b.base=allV a.base E
 mks:a.mks=b.mks
 may1:MayF a
 may2:MayF b
 early: ∀x∈E,befB b.fc b.fr x.c x.r=false
 floor:befB b.fc b.fr a.fc a.fr=false
structure CameF (r:Rep) (took:List Mv) (a:Rep):Prop where
 may:MayF a
 mks: ∀x,getM a.mks x=max (getM r.mks x) (supV x took 0)
 good: ∀m∈took,oneV m=true
end Go.AM
namespace Go.AM
structure AllF (r:Rep) (l:List Mv) (a:Rep):Prop where
 came:CameF r l a
 log:a.log=uniV r.log l
 base:a.base=r.base
 fc:a.fc=r.fc
 fr:a.fr=r.fr
theorem aaC {x:Int} {l k:List Mv} (h: ∀m,m∈l↔m∈k):supV x l 0=supV x k 0:=by
 have key: ∀n:Int,supV x l 0<=n↔supV x k 0<=n:= λn=>by
  rw [FQ,FQ]
  constructor
  ·rintro ⟨h1,h2⟩;exact ⟨h1,λm hm=>h2 m ((h m).2 hm)⟩
  ·rintro ⟨h1,h2⟩;exact ⟨h1,λm hm=>h2 m ((h m).1 hm)⟩
 have h1:=(key (supV x k 0)).2 (a1 _)
 have h2:=(key (supV x l 0)).1 (a1 _)
 omega
end Go.AM
