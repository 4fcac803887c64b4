/- Replicas, plainly: what may be; add, merge, prune; what they keep. No program is named here. -/
import Derived.Test.YtgoenohknokcmaaGreatTs
open Option renaming bind_some->ab
open Bool renaming and_eq_true->ad,true_and->a6
open List renaming mem_of_mem_take->al,getElem?_eq_some_iff->ao,all_eq_true->aB,length_take->a1,length_map->a2,length_cons->a5
set_option linter.unusedVariables false
set_option linter.unusedSimpArgs false
namespace Go.AM
structure Rep where
 base:List Rw
 fc:Int
 fr:Int
 log:List Mv
 mks:List Mark
def kidsK (l:List Rw) (m:List Mv):List Int:=(m.map (·.ch)).foldl GF ((l.map (·.ch)).foldl GF [])
def knownB (v:List Mark) (c r:Int):Bool:=Qk c r&&decide (c<=getM v r)
def aax (r:Rep):Bool:=r.log.all λm=>befB r.fc r.fr m.c m.r
def Wk (r:Rep):Bool:=
 mayR r.base&&(mayV r.log&&(Xd r.mks&&(A3 (ofM r.log) r.mks&&((decide (r.fc=0/\r.fr=0)||knownB r.mks r.fc r.fr)&&(aax r&&decide ((kidsK r.base r.log).length<=2000))))))
structure MayF (r:Rep):Prop where
 tree:mayR r.base=true
 moves:mayV r.log=true
 marks:MayP r.mks
 cover: ∀m∈r.log,m.c<=getM r.mks m.r
 floor:(r.fc=0/\r.fr=0)\/knownB r.mks r.fc r.fr=true
 after: ∀m∈r.log,befB r.fc r.fr m.c m.r=true
 few:(kidsK r.base r.log).length<=2000
theorem Q7 {c r:Int}:Qk c r=true↔1<=c/\c<=4611686018427387903/\1<=r/\r<=255:=by
 unfold Qk;simp only [ad,decide_eq_true_eq];omega
theorem qS {m:Mv} (h:oneV m=true):1<=m.c/\m.c<=4611686018427387903/\1<=m.r/\m.r<=255:=by
 unfold oneV at h;simp only [ad] at h;exact Q7.1 h.1
theorem Sx (r:Int): ∀(l:List Mv) (n k:Int),supV r l n<=k↔n<=k/\ ∀m∈l,m.r=r->m.c<=k
 | [],n,k=>by simp [supV]
 | x::l,n,k=>by
   have ih:=Sx r l (if r=x.r then max n x.c else n) k
   have e:supV r (x::l) n=supV r l (if r=x.r then max n x.c else n):=rfl
   rw [e,ih]
   simp only [List.mem_cons,forall_eq_or_imp]
   by_cases h:r=x.r
   ·subst h
    simp only [if_true,forall_const]
    constructor
    ·rintro ⟨h1,h2⟩;exact ⟨by omega,by omega,h2⟩
    ·rintro ⟨h1,h2,a⟩;exact ⟨by omega,a⟩
   ·have h': ¬x.r=r:= λe=>h e.symm
    simp only [if_neg h,h',false_implies,true_and]
theorem Ys (l:List Mv) (r:Int):getM (ofM l) r=supV r l 0:=by
 unfold ofM
 rw [K8]
 rfl
theorem P4 {l:List Mv} {v:List Mark} (hl: ∀m∈l,oneV m=true) (hv:MayP v):A3 (ofM l) v=true↔ ∀m∈l,m.c<=getM v m.r:=by
 have hm:MayP (ofM l):=QK MayP.nil λm hm=>qS (hl m hm)
 rw [WL hm hv.nonneg]
 constructor
 ·intro h m hm
  have:=h m.r
  rw [Ys,Sx] at this
  exact this.2 m hm rfl
 ·intro h r
  rw [Ys,Sx]
  exact ⟨hv.nonneg r,λm hm e=>e▸h m hm⟩
theorem xE {r:Rep}:Wk r=true↔MayF r:=by
 unfold Wk
 simp only [ad,Bool.or_eq_true,decide_eq_true_eq]
 constructor
 ·rintro ⟨h1,h2,a,b,c,d,e⟩
  have f:=ED.1 a
  exact ⟨h1,h2,f,(P4 (gb.1 h2).2.1 f).1 b,c,λm hm=>aB.1 d m hm,e⟩
 ·rintro ⟨h1,h2,a,b,c,d,e⟩
  exact ⟨h1,h2,ED.2 a,(P4 (gb.1 h2).2.1 a).2 b,c,aB.2 d,e⟩
def addF (r:Rep) (m:Mv):Rep×Bool×Int:=
 if (Wk r&&oneV m)=true then
  if befB r.fc r.fr m.c m.r=true then
   if LA r.log m=true then (⟨r.base,r.fc,r.fr,zx r.log m,jY r.mks m.c m.r⟩,true,0) else (r,false,0)
  else (r,false,9)
 else (r,false,1)
def pruneF (r:Rep) (c t:Int):Rep×Int:=
 if (Wk r&&knownB r.mks c t)=true then
  if befB r.fc r.fr c t=true then (⟨allV r.base (r.log.take (r.log.length - (Cu r.log c t).length)),c,t,Cu r.log c t,r.mks⟩,0) else (r,0)
 else (r,1)
theorem yB: ∀(xs K:List Int),(xs.foldl GF K).length<=K.length+xs.length
 | [],K=>by simp
 | x::xs,K=>by
   have h1:=yB xs (GF K x)
   have h2:(GF K x).length<=K.length+1:=by unfold GF;split<;>simp
   simp only [List.foldl_cons,a5];omega
theorem yH (l:List Rw) (m:List Mv):(kidsK l m).length<=l.length+m.length:=by
 unfold kidsK
 have h1:=yB (m.map (·.ch)) ((l.map (·.ch)).foldl GF [])
 have h2:=yB (l.map (·.ch)) []
 simp at h1 h2;omega
theorem L2 {l:List Mv} {m:Mv}:LA l m=false↔ ∃x∈l,x.c=m.c/\x.r=m.r:=by
 unfold LA;rw [Bool.not_eq_false',aam]
theorem MayF.add {r:Rep} (h:MayF r) {m:Mv} (hm:oneV m=true) (hb:befB r.fc r.fr m.c m.r=true) (hl:r.log.length < 1000) (f:r.base.length < 1000):MayF ⟨r.base,r.fc,r.fr,zx r.log m,jY r.mks m.c m.r⟩:=by
 have ht:=qS hm
 obtain ⟨g,b,d⟩:=gb.1 h.moves
 have hlen:=wj r.log m
 have a: ∀x,getM r.mks x<=getM (jY r.mks m.c m.r) x:= λx=>by
  rw [qO];split
  ·rename_i e;rw [e];omega
  ·omega
 refine ⟨h.tree,gb.2 ⟨by dsimp only;omega,λx hx=> ?_,IB d⟩,h.marks.raise ⟨ht.2.2.1,ht.2.2.2⟩ ht.2.1,λx hx=> ?_,?_,λx hx=> ?_,?_⟩
 ·rcases xg hx with rfl | hx
  ·exact hm
  ·exact b x hx
 ·rcases xg hx with rfl | hx
  ·dsimp only;rw [qO,if_pos rfl];omega
  ·exact Int.le_trans (h.cover x hx) (a x.r)
 ·rcases h.floor with hf | hf
  ·exact .inl hf
  ·refine .inr ?_
   unfold knownB at hf ⊢
   simp only [ad,decide_eq_true_eq] at hf ⊢
   exact ⟨hf.1,Int.le_trans hf.2 (a _)⟩
 ·rcases xg hx with rfl | hx
  ·exact hb
  ·exact h.after x hx
 ·have:=yH r.base (zx r.log m)
  dsimp only;omega
theorem EP {l:List Mv} {c r:Int} {x:Mv}:x∈Cu l c r↔x∈l/\befB c r x.c x.r=true:=by
 unfold Cu;rw [List.mem_filter]
theorem vu (l:List Mv) (c r:Int):(Cu l c r).length<=l.length:=List.length_filter_le _ _
theorem Mq: ∀{ms:List Mv} {l:List Rw},mayR l=true->(∀m∈ms,oneV m=true)->l.length+ms.length<=2000->mayR (allV l ms)=true
 | [],l,h,_,_=>h
 | m::ms,l,h,hm,hl=>by
   have dl:=yt l m
   simp only [a5] at hl
   have a:mayR (RA l m)=true:=by
    cases hb:ON l m with
    | true=>rw [acE hb];exact h
    | false=>exact acw h (hm m List.mem_cons_self) hb (by omega)
   exact Mq (ms:=ms) a (λx hx=>hm x (List.mem_cons_of_mem _ hx)) (by omega)
theorem MayF.prune {r:Rep} (h:MayF r) {c t:Int} (hk:knownB r.mks c t=true) (hl:r.log.length < 800) (e:r.base.length < 800):MayF ⟨allV r.base (r.log.take (r.log.length - (Cu r.log c t).length)),c,t,Cu r.log c t,r.mks⟩:=by
 obtain ⟨f,a,d⟩:=gb.1 h.moves
 have hlen:=vu r.log c t
 have b:=AE (r.log.take (r.log.length - (Cu r.log c t).length)) r.base
 simp only [a1] at b
 refine ⟨Mq h.tree (λx hx=>a x (al hx)) (by simp only [a1];omega),gb.2 ⟨by dsimp only;omega,λx hx=>a x (EP.1 hx).1,?_⟩,h.marks,λx hx=>h.cover x (EP.1 hx).1,.inr hk,λx hx=>(EP.1 hx).2,?_⟩
 ·exact d.sublist List.filter_sublist
 ·have:=yH (allV r.base (r.log.take (r.log.length - (Cu r.log c t).length))) (Cu r.log c t)
  dsimp only;omega
end Go.AM
namespace Go.AM
theorem ac7 (a b c d:Int):Vx .eql [.i,.i] [.int .i64 a,.int .i64 b] [.int .i64 c,.int .i64 d]=some (.bool (decide (a=c/\b=d))):=by
 simp [Vx,KX,WX]
 by_cases h1:a=c<;>by_cases h2:b=d<;>simp [h1,h2]
theorem oN {f:List IV->Option SR} {vs vs':List IV} (n:Nat) (h:f vs=some (.next vs')):iter (n+1) f vs=iter n f vs':=by
 rw [iter,h];rfl
structure SmF (n:Nat) (r:Rep):Prop where
 base:r.base.length<=n
 log:r.log.length<=n
 mks:r.mks.length<=n
structure OKF (r:Rep):Prop where
 base:OKl r.base
 log: ∀m∈r.log,OKm m
def Z3 (r:Rep) (l:List IV):List IV:=cU r.base:: .int .i64 r.fc:: .int .i64 r.fr::bh r.log::aQ r.mks::l
theorem A9 {v:List Mark} (hv:v.length < 2 ^ 16) (c r:Int):kN (aQ v) (.int .i64 c) (.int .i64 r)=some [.bool (knownB v c r)]:=by
 unfold kN knownB Qk
 simp only [dm,gk,ab,bw,yP hv,af]
 by_cases h1:1<=c<;>by_cases h2:c<=4611686018427387903<;>by_cases a:1<=r<;>by_cases b:r<=255<;>simp [h1,h2,a,b]
theorem Q3 {α:Type} {f:List IV->Option SR} {l:List α} {g:α->Int} (hl:l.length < 2 ^ 16) (K:List Int)
  (h1: ∀(i:Nat) (x:α) (K:List Int),l[i]? =some x->f [eK K,.int .i64 (i:Int)]=some (.next [eK (GF K (g x)),.int .i64 ((i+1:Nat):Int)])) (h2: ∀K:List Int,f [eK K,.int .i64 (l.length:Int)]=some (.done 0 [eK K])):
  iter rounds f [eK K,.int .i64 0]=some (0,[eK ((l.map g).foldl GF K)]):=by
 rw [kX (vs0:=[eK K,.int .i64 0]) (λi (s:List Int)=>[eK s,.int .i64 (i:Int)]) (λK (x:α)=>GF K (g x)) 0 (λs=>[eK s]) (λ_ _=>True) l K rfl (by have:=bg;omega) trivial]
 ·rw [List.foldl_map]
 ·intro i s x hx _;exact ⟨trivial,h1 i x s hx⟩
 ·intro s _;exact h2 s
theorem vX {l:List Rw} {m:List Mv} (hl:l.length < 2 ^ 16) (hm:m.length < 2 ^ 16) (a b c:IV):fJ (cU l) a b (bh m) c=some [eK (kidsK l m)]:=by
 unfold fJ kidsK
 have e0:(IV.map [])=eK []:=rfl
 simp only [ax,ab,a2,e0]
 rw [Q3 (l:=l) (g:=(·.ch)) hl []]
 ·simp only [ab,aW,af]
  rw [Q3 (l:=m) (g:=(·.ch)) hm]
  ·simp only [ab,aW,af]
  ·intro i x K hx
   have hi:i < m.length:=(ao.1 hx).1
   unfold pq
   simp only [af,ai,aA,aD,an,Int.ofNat_lt,hi,wb hx,decide_true,ah,ab,Vo,au (show i < 2 ^ 62 by omega)]
  ·intro K
   unfold pq
   simp
 ·intro i x K hx
  have hi:i < l.length:=(ao.1 hx).1
  unfold px
  simp only [af,ai,an,Int.ofNat_lt,hi,Wj hx,decide_true,ah,ab,Vo,au (show i < 2 ^ 62 by omega)]
 ·intro K
  unfold px
  simp
theorem Xj (l:List Mv):(ofM l).length<=l.length:=by
 have:=EL l []
 simpa [ofM] using this
theorem acO (r:Rep):decide ((Cu r.log r.fc r.fr).length=r.log.length)=aax r:=by
 unfold aax Cu
 rw [Bool.eq_iff_iff,decide_eq_true_eq,aB]
 exact List.length_filter_eq_length_iff
theorem tf {r:Rep} (h:SmF 2000 r) (p:OKF r):jK (cU r.base) (.int .i64 r.fc) (.int .i64 r.fr) (bh r.log) (aQ r.mks)=some [.bool (Wk r)]:=by
 have hb:=h.base
 have k:=h.log
 have o:=h.mks
 have q:=Xj r.log
 have hs:=vu r.log r.fc r.fr
 have c1:od (.ptr [cU r.base,.int .i64 r.fc,.int .i64 r.fr,bh r.log,aQ r.mks] 0)=some [.bool (mayR r.base&&(mayV r.log&&Xd r.mks))]:=by
  unfold od
  simp [gA,iW,Bt (l:=r.base) (by omega) p.base,ta (l:=r.log) (by omega),yI (v:=r.mks) (by omega),dr]
  cases mayR r.base<;>cases mayV r.log<;>simp
 have c2:nY (.ptr [cU r.base,.int .i64 r.fc,.int .i64 r.fr,bh r.log,aQ r.mks] 0)=some [.bool (A3 (ofM r.log) r.mks)]:=by
  unfold nY
  simp [gA,iW,Uv (l:=r.log) (by omega),LY (a:=ofM r.log) (b:=r.mks) (by omega) (by omega)]
 have c3:nR (.ptr [cU r.base,.int .i64 r.fc,.int .i64 r.fr,bh r.log,aQ r.mks] 0)=some [.bool (decide (r.fc=0/\r.fr=0)||knownB r.mks r.fc r.fr)]:=by
  unfold nR
  simp [gA,iW,yX,ac7,dr,A9 (v:=r.mks) (by omega)]
  by_cases e:r.fc=0/\r.fr=0<;>simp [e]
 have c4:nM (.ptr [cU r.base,.int .i64 r.fc,.int .i64 r.fr,bh r.log,aQ r.mks] 0)=some [.bool (aax r)]:=by
  unfold nM
  simp [gA,iW,yX,AA (l:=r.log) (by omega)]
  rw [<-acO r]
  congr 1
  apply propext
  omega
 have c5:nv (.ptr [cU r.base,.int .i64 r.fc,.int .i64 r.fr,bh r.log,aQ r.mks] 0)=some [.bool (decide ((kidsK r.base r.log).length<=2000))]:=by
  unfold nv
  simp [yX,vX (l:=r.base) (m:=r.log) (by omega) (by omega),Yp]
  omega
 have step: ∀(i:Nat) (b:Bool) (c:IV),i < 5->dh (.lst [[(.clo (.func nD) [(.ptr [cU r.base,.int .i64 r.fc,.int .i64 r.fr,bh r.log,aQ r.mks] 0)])],[(.clo (.func nQ) [(.ptr [cU r.base,.int .i64 r.fc,.int .i64 r.fr,bh r.log,aQ r.mks] 0)])],[(.clo (.func n9) [(.ptr [cU r.base,.int .i64 r.fc,.int .i64 r.fr,bh r.log,aQ r.mks] 0)])],[(.clo (.func nw) [(.ptr [cU r.base,.int .i64 r.fc,.int .i64 r.fr,bh r.log,aQ r.mks] 0)])],[(.clo (.func ny) [(.ptr [cU r.base,.int .i64 r.fc,.int .i64 r.fr,bh r.log,aQ r.mks] 0)])]]) i 0=some c->dW c [1] []=some [.bool b]->
   mR (cU r.base) (.int .i64 r.fc) (.int .i64 r.fr) (bh r.log) (aQ r.mks) [.int .i64 (i:Int)]=some (if b=true then .next [.int .i64 ((i+1:Nat):Int)] else .done 1 [.bool false]):=by
  intro i b c hi h1 h2
  have g:bU 5 (.int .i64 (i:Int))=some i:=dj hi
  have d:(i:Int) < ((5:Nat):Int):=by omega
  unfold mR
  simp only [af,an,d,decide_true,ah,ab,g,h1,h2,aY,dr,au (show i < 2 ^ 62 by omega)]
  cases b<;>simp
 have s:=step 0 _ _ (by decide) rfl (show dW _ _ _=_ from c1)
 have t:=step 1 _ _ (by decide) rfl (show dW _ _ _=_ from c2)
 have u:=step 2 _ _ (by decide) rfl (show dW _ _ _=_ from c3)
 have w:=step 3 _ _ (by decide) rfl (show dW _ _ _=_ from c4)
 have s4:=step 4 _ _ (by decide) rfl (show dW _ _ _=_ from c5)
 have x:mR (cU r.base) (.int .i64 r.fc) (.int .i64 r.fr) (bh r.log) (aQ r.mks) [.int .i64 ((5:Nat):Int)]=some (.done 0 []):=by
  unfold mR
  simp
 unfold jK Wk
 obtain ⟨N,j⟩: ∃N,rounds=N+1+1+1+1+1+1:=⟨999994,rfl⟩
 rw [j,show (IV.int .i64 0)=IV.int .i64 ((0:Nat):Int) from rfl]
 generalize mR (cU r.base) (.int .i64 r.fc) (.int .i64 r.fr) (bh r.log) (aQ r.mks)=f at*
 have done: ∀(n i:Nat) (b:Bool),f [.int .i64 (i:Int)]=some (if b=true then .next [.int .i64 ((i+1:Nat):Int)] else .done 1 [.bool false])->iter (n+1) f [.int .i64 (i:Int)]=if b=true then iter n f [.int .i64 ((i+1:Nat):Int)] else some (1,[.bool false]):=by
  intro n i b h
  cases b with
  | true=>rw [oN n h,if_pos rfl]
  | false=>rw [gL n h];rfl
 rw [done _ 0 _ s,done _ 1 _ t,done _ 2 _ u,done _ 3 _ w,done _ 4 _ s4,gL _ x]
 cases mayR r.base<;>cases mayV r.log<;>cases Xd r.mks<;>cases A3 (ofM r.log) r.mks<;>cases (decide (r.fc=0/\r.fr=0)||knownB r.mks r.fc r.fr)<;>cases aax r<;>cases decide ((kidsK r.base r.log).length<=2000)<;>rfl
end Go.AM
namespace Go.AM
theorem SmF.mono {n m:Nat} {r:Rep} (h:SmF n r) (hnm:n<=m):SmF m r:=⟨Nat.le_trans h.base hnm,Nat.le_trans h.log hnm,Nat.le_trans h.mks hnm⟩
theorem SmF.add {n:Nat} {r:Rep} (h:SmF n r) (m:Mv):SmF (n+1) (addF r m).1:=by
 have h1:=h.base
 have h2:=h.log
 have a:=h.mks
 have b:=wj r.log m
 have d:=wz (c:=m.c) (r:=m.r) r.mks
 unfold addF
 split
 ·split
  ·split
   ·exact ⟨by dsimp only;omega,by dsimp only;omega,by dsimp only;omega⟩
   ·exact h.mono (by omega)
  ·exact h.mono (by omega)
 ·exact h.mono (by omega)
theorem abA {l:List Mv} {m:Mv} (h: ∀x∈l,OKm x) (hm:OKm m): ∀x∈zx l m,OKm x:= λx hx=>by
 rcases xg hx with rfl | hx
 ·exact hm
 ·exact h x hx
theorem OKF.add {r:Rep} (h:OKF r) {m:Mv} (hm:OKm m):OKF (addF r m).1:=by
 unfold addF
 split
 ·split
  ·split
   ·exact ⟨h.base,abA h.log hm⟩
   ·exact h
  ·exact h
 ·exact h
theorem OKF.prune {r:Rep} (h:OKF r) (c t:Int):OKF (pruneF r c t).1:=by
 unfold pruneF
 split
 ·split
  ·exact ⟨OKl.allV h.base λm hm=>h.log m (al hm),λm hm=>h.log m (EP.1 hm).1⟩
  ·exact h
 ·exact h
theorem FB {r:Rep} (h:SmF 900 r) (d:OKF r) {m:Mv} (hm:OKm m):lP (cU r.base) (.int .i64 r.fc) (.int .i64 r.fr) (bh r.log) (aQ r.mks) (.int .i64 m.c) (.int .i64 m.r) (.int .i64 m.par) (.int .i64 m.ch) (.str m.nm) (.flt .f64 m.rk)=
  some [cU (addF r m).1.base,.int .i64 (addF r m).1.fc,.int .i64 (addF r m).1.fr,bh (addF r m).1.log,aQ (addF r m).1.mks,.bool (addF r m).2.1,.int .i64 (addF r m).2.2]:=by
 have hb:=h.base
 have a:=h.log
 have b:=h.mks
 have hk:=yH r.base r.log
 have e: ¬((r.log.length:Int)=2000):=by omega
 have f: ¬(((kidsK r.base r.log).length:Int)=2000):=by omega
 unfold lP addF
 simp only [tf (h.mono (by omega)) d,s9,jw,y9 (l:=r.log) (show r.log.length < 2 ^ 16 by omega),vX (l:=r.base) (m:=r.log) (show r.base.length < 2 ^ 16 by omega) (show r.log.length < 2 ^ 16 by omega),Bc (l:=r.mks) (show r.mks.length < 2 ^ 16 by omega),ab,af,ai,aA,aY,UD,dr,ax,a2,Yp,abq,db,bw,e,f,if_false,decide_false,ag]
 cases Wk r<;>cases oneV m<;>cases befB r.fc r.fr m.c m.r<;>cases LA r.log m<;>simp
theorem mM {a b:Nat} (h:b<=a) (c:a < 2 ^ 60):aa .sub (.int .i64 (a:Int)) (.int .i64 (b:Int))=some (.int .i64 ((a - b:Nat):Int)):=by
 rw [qe (by omega) (by omega)]
 congr 2;omega
theorem KH {r:Rep} (h:SmF 2000 r) (b:OKF r) (c t:Int):k9 (cU r.base) (.int .i64 r.fc) (.int .i64 r.fr) (bh r.log) (aQ r.mks) (.int .i64 c) (.int .i64 t)=
  some [cU (pruneF r c t).1.base,.int .i64 (pruneF r c t).1.fc,.int .i64 (pruneF r c t).1.fr,bh (pruneF r c t).1.log,aQ (pruneF r c t).1.mks,.int .i64 (pruneF r c t).2]:=by
 have hb:=h.base
 have d:=h.log
 have e:=h.mks
 have hs:=vu r.log c t
 have a:=IP (l:=r.base) (ms:=r.log.take (r.log.length - (Cu r.log c t).length)) (by simp only [a1];omega) b.base λm hm=>b.log m (al hm)
 unfold k9 pruneF
 simp only [tf h b,A9 (v:=r.mks) (show r.mks.length < 2 ^ 16 by omega),jw,AA (l:=r.log) (show r.log.length < 2 ^ 16 by omega),ab,af,aY,UD,dr,ax,a2,mM hs (by omega),abX (l:=r.log) (Nat.sub_le _ _),a]
 cases Wk r<;>cases knownB r.mks c t<;>cases befB r.fc r.fr c t<;>simp
theorem N6 {r:Rep} (h:SmF 2000 r) (d:OKF r) (a b c:IV):mL (cU r.base) a b (bh r.log) c=some [cU (allV r.base r.log)]:=by
 have hb:=h.base
 have e:=h.log
 unfold mL
 simp only [IP (l:=r.base) (ms:=r.log) (by omega) d.base d.log,ab,af]
end Go.AM
namespace Go.AM
end Go.AM
namespace Go.AM
theorem acn {r:Rep} {m:Mv} (h:(addF r m).2.2≠0):(addF r m).2.1=false/\(addF r m).1=r:=by
 unfold addF at h ⊢
 split
 ·rename_i h1
  rw [if_pos h1] at h
  split
  ·rename_i h2
   rw [if_pos h2] at h
   split
   ·rename_i a;rw [if_pos a] at h;exact absurd rfl h
   ·exact ⟨rfl,rfl⟩
  ·exact ⟨rfl,rfl⟩
 ·exact ⟨rfl,rfl⟩
theorem abY {r:Rep} (h:MayF r) (hs:SmF 700 r) (m:Mv):MayF (addF r m).1:=by
 have h1:=hs.base
 have h2:=hs.log
 unfold addF
 split
 ·rename_i h1
  simp only [ad] at h1
  split
  ·rename_i h2
   split
   ·exact h.add h1.2 h2 (by omega) (by omega)
   ·exact h
  ·exact h
 ·exact h
theorem Vz {r:Rep} (h:MayF r) (m:Mv):(addF r m).2.2=if oneV m=true then (if befB r.fc r.fr m.c m.r=true then 0 else 9) else 1:=by
 unfold addF
 rw [xE.2 h,a6]
 cases oneV m<;>cases befB r.fc r.fr m.c m.r<;>cases LA r.log m<;>rfl
theorem Xu {r:Rep} {c t:Int} (h:(pruneF r c t).2≠0):(pruneF r c t).1=r:=by
 unfold pruneF at h ⊢
 split
 ·rename_i h1
  rw [if_pos h1] at h
  split
  ·rename_i h2;rw [if_pos h2] at h;exact absurd rfl h
  ·rfl
 ·rfl
theorem WV {r:Rep} (h:MayF r) (hs:SmF 700 r) (c t:Int):MayF (pruneF r c t).1:=by
 have h1:=hs.base
 have h2:=hs.log
 unfold pruneF
 split
 ·rename_i h1
  simp only [ad] at h1
  split
  ·exact h.prune h1.2 (by omega) (by omega)
  ·exact h
 ·exact h
theorem WA {r:Rep} (h:MayF r) (c t:Int):(pruneF r c t).2=if knownB r.mks c t=true then 0 else 1:=by
 unfold pruneF
 rw [xE.2 h,a6]
 cases knownB r.mks c t<;>cases befB r.fc r.fr c t<;>rfl
theorem DM (r:Rep) (c t:Int):(pruneF r c t).1.mks=r.mks:=by
 unfold pruneF
 split
 ·split<;>rfl
 ·rfl
theorem Ul {r:Rep} (m:Mv) (x:Int):getM r.mks x<=getM (addF r m).1.mks x:=by
 unfold addF
 split
 ·split
  ·split
   ·dsimp only;rw [qO];split
    ·rename_i e;rw [e];omega
    ·omega
   ·exact Int.le_refl _
  ·exact Int.le_refl _
 ·exact Int.le_refl _
theorem Ed (r:Rep) (m:Mv):(addF r m).1.fc=r.fc/\(addF r m).1.fr=r.fr/\(addF r m).1.base=r.base:=by
 unfold addF
 split
 ·split
  ·split<;>exact ⟨rfl,rfl,rfl⟩
  ·exact ⟨rfl,rfl,rfl⟩
 ·exact ⟨rfl,rfl,rfl⟩
end Go.AM
namespace Go.AM
structure TwoF (E:List Mv) (a b:Rep):Prop where
 log:a.log=E++b.log
 base:b.base=allV a.base E
 mks:a.mks=b.mks
 may1:MayF a
 may2:MayF b
 early: ∀x∈E,befB b.fc b.fr x.c x.r=false
 floor:befB b.fc b.fr a.fc a.fr=false
structure CameF (r:Rep) (took:List Mv) (a:Rep):Prop where
 may:MayF a
 mks: ∀x,getM a.mks x=max (getM r.mks x) (supV x took 0)
 good: ∀m∈took,oneV m=true
end Go.AM
namespace Go.AM
structure AllF (r:Rep) (l:List Mv) (a:Rep):Prop where
 came:CameF r l a
 log:a.log=uniV r.log l
 base:a.base=r.base
 fc:a.fc=r.fc
 fr:a.fr=r.fr
end Go.AM
