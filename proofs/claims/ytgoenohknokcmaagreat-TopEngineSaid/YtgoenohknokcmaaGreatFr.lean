/- Replicas, plainly: what may be; add, merge, prune; what they keep. No program is named here. -/
import Derived.Test.YtgoenohknokcmaaGreatMv
import Derived.Test.YtgoenohknokcmaaGreatTr
import Derived.Test.YtgoenohknokcmaaGreatTs
set_option linter.unusedVariables false
set_option linter.unusedSimpArgs false
namespace Go.AM
structure Rep where
 base:List Rw
 fc:Int
 fr:Int
 log:List Mv
 mks:List Mark
def kidsK (l:List Rw) (m:List Mv):List Int:=(m.map (·.ch)).foldl CV ((l.map (·.ch)).foldl CV [])
def knownB (v:List Mark) (c r:Int):Bool:=LO c r&&decide (c<=getM v r)
def VH (r:Rep):Bool:=r.log.all fun m=>befB r.fc r.fr m.c m.r
def Vs (r:Rep):Bool:=
 mayR r.base&&(mayV r.log&&(R8 r.mks&&(xc (ofM r.log) r.mks&&((decide (r.fc=0/\r.fr=0)||knownB r.mks r.fc r.fr)&&(VH r&&decide ((kidsK r.base r.log).length<=2000))))))
structure MayF (r:Rep):Prop where
 tree:mayR r.base=true
 moves:mayV r.log=true
 marks:MayP r.mks
 cover: ∀m∈r.log,m.c<=getM r.mks m.r
 floor:(r.fc=0/\r.fr=0)\/knownB r.mks r.fc r.fr=true
 after: ∀m∈r.log,befB r.fc r.fr m.c m.r=true
 few:(kidsK r.base r.log).length<=2000
theorem Vh {c r:Int}:LO c r=true↔1<=c/\c<=4611686018427387903/\1<=r/\r<=255:=by
 unfold LO;simp only [Bool.and_eq_true,decide_eq_true_eq];omega
theorem Cs {m:Mv} (h:oneV m=true):1<=m.c/\m.c<=4611686018427387903/\1<=m.r/\m.r<=255:=by
 unfold oneV at h;simp only [Bool.and_eq_true] at h;exact Vh.1 h.1
theorem M3 (r:Int): ∀(l:List Mv) (n k:Int),supV r l n<=k↔n<=k/\ ∀m∈l,m.r=r->m.c<=k
 | [],n,k=>by simp [supV]
 | x::l,n,k=>by
   have ih:=M3 r l (if r=x.r then max n x.c else n) k
   have e:supV r (x::l) n=supV r l (if r=x.r then max n x.c else n):=rfl
   rw [e,ih]
   simp only [List.mem_cons,forall_eq_or_imp]
   by_cases h:r=x.r
   ·subst h
    simp only [if_true,forall_const]
    constructor
    ·rintro ⟨h1,h2⟩;exact ⟨by omega,by omega,h2⟩
    ·rintro ⟨h1,h2,h3⟩;exact ⟨by omega,h3⟩
   ·have h': ¬x.r=r:=fun e=>h e.symm
    simp only [if_neg h,h',false_implies,true_and]
theorem TW (l:List Mv) (r:Int):getM (ofM l) r=supV r l 0:=by
 unfold ofM
 rw [HV]
 rfl
theorem Lq {l:List Mv} {v:List Mark} (hl: ∀m∈l,oneV m=true) (hv:MayP v):xc (ofM l) v=true↔ ∀m∈l,m.c<=getM v m.r:=by
 have hm:MayP (ofM l):=L9 MayP.nil fun m hm=>Cs (hl m hm)
 rw [Sz hm hv.nonneg]
 constructor
 ·intro h m hm
  have:=h m.r
  rw [TW,M3] at this
  exact this.2 m hm rfl
 ·intro h r
  rw [TW,M3]
  exact ⟨hv.nonneg r,fun m hm e=>e▸h m hm⟩
theorem QN {r:Rep}:Vs r=true↔MayF r:=by
 unfold Vs
 simp only [Bool.and_eq_true,Bool.or_eq_true,decide_eq_true_eq]
 constructor
 ·rintro ⟨h1,h2,h3,h4,h5,h6,h7⟩
  have hM:=PR.1 h3
  exact ⟨h1,h2,hM,(Lq (tC.1 h2).2.1 hM).1 h4,h5,fun m hm=>List.all_eq_true.1 h6 m hm,h7⟩
 ·rintro ⟨h1,h2,h3,h4,h5,h6,h7⟩
  exact ⟨h1,h2,PR.2 h3,(Lq (tC.1 h2).2.1 h3).2 h4,h5,List.all_eq_true.2 h6,h7⟩
def mW (r:Rep) (m:Mv):Rep×Bool×Int:=
 if (Vs r&&oneV m)=true then
  if befB r.fc r.fr m.c m.r=true then
   if EW r.log m=true then (⟨r.base,r.fc,r.fr,cW r.log m,iW r.mks m.c m.r⟩,true,0) else (r,false,0)
  else (r,false,9)
 else (r,false,1)
theorem tf: ∀(xs K:List Int),(xs.foldl CV K).length<=K.length+xs.length
 | [],K=>by simp
 | x::xs,K=>by
   have h1:=tf xs (CV K x)
   have h2:(CV K x).length<=K.length+1:=by unfold CV;split<;>simp
   simp only [List.foldl_cons,List.length_cons];omega
theorem BV (l:List Rw) (m:List Mv):(kidsK l m).length<=l.length+m.length:=by
 unfold kidsK
 have h1:=tf (m.map (·.ch)) ((l.map (·.ch)).foldl CV [])
 have h2:=tf (l.map (·.ch)) []
 simp at h1 h2;omega
theorem MayF.add {r:Rep} (h:MayF r) {m:Mv} (hm:oneV m=true) (hb:befB r.fc r.fr m.c m.r=true) (hl:r.log.length < 1000) (hB:r.base.length < 1000):MayF ⟨r.base,r.fc,r.fr,cW r.log m,iW r.mks m.c m.r⟩:=by
 have ht:=Cs hm
 obtain ⟨p1,p2,p3⟩:=tC.1 h.moves
 have hlen:=lj r.log m
 have hget: ∀x,getM r.mks x<=getM (iW r.mks m.c m.r) x:=fun x=>by
  rw [zl];split
  ·rename_i e;rw [e];omega
  ·omega
 refine ⟨h.tree,tC.2 ⟨by dsimp only;omega,fun x hx=> ?_,DZ p3⟩,h.marks.raise ⟨ht.2.2.1,ht.2.2.2⟩ ht.2.1,fun x hx=> ?_,?_,fun x hx=> ?_,?_⟩
 ·rcases rQ hx with rfl | hx
  ·exact hm
  ·exact p2 x hx
 ·rcases rQ hx with rfl | hx
  ·dsimp only;rw [zl,if_pos rfl];omega
  ·exact Int.le_trans (h.cover x hx) (hget x.r)
 ·rcases h.floor with hf | hf
  ·exact .inl hf
  ·refine .inr ?_
   unfold knownB at hf ⊢
   simp only [Bool.and_eq_true,decide_eq_true_eq] at hf ⊢
   exact ⟨hf.1,Int.le_trans hf.2 (hget _)⟩
 ·rcases rQ hx with rfl | hx
  ·exact hb
  ·exact h.after x hx
 ·have:=BV r.base (cW r.log m)
  dsimp only;omega
theorem QM (l:List Mv) (c r:Int):(VR l c r).length<=l.length:=List.length_filter_le _ _
theorem Tc (a:List Mv):TY a a=true:=by simp [TY]
end Go.AM
namespace Go.AM
theorem Yf (a b c d:Int):KN .eql [.i,.i] [.int .i64 a,.int .i64 b] [.int .i64 c,.int .i64 d]=some (.bool (decide (a=c/\b=d))):=by
 simp [KN,Fj,Rp]
 by_cases h1:a=c<;>by_cases h2:b=d<;>simp [h1,h2]
theorem Vd {f:List IV->Option SR} {vs vs':List IV} (n:Nat) (h:f vs=some (.next vs')):iter (n+1) f vs=iter n f vs':=by
 rw [iter,h];rfl
structure SmF (n:Nat) (r:Rep):Prop where
 base:r.base.length<=n
 log:r.log.length<=n
 mks:r.mks.length<=n
structure OKF (r:Rep):Prop where
 base:OKl r.base
 log: ∀m∈r.log,OKm m
theorem Iu {v:List Mark} (hv:v.length < 2 ^ 16) (c r:Int):ka (aP v) (.int .i64 c) (.int .i64 r)=some [.bool (knownB v c r)]:=by
 unfold ka knownB LO
 simp only [sF,sB,Option.bind_some,aQ,tL hv,ag]
 by_cases h1:1<=c<;>by_cases h2:c<=4611686018427387903<;>by_cases h3:1<=r<;>by_cases h4:r<=255<;>simp [h1,h2,h3,h4]
theorem La {α:Type} {f:List IV->Option SR} {l:List α} {g:α->Int} (hl:l.length < 2 ^ 16) (K:List Int)
  (h1: ∀(i:Nat) (x:α) (K:List Int),l[i]? =some x->f [eK K,.int .i64 (i:Int)]=some (.next [eK (CV K (g x)),.int .i64 ((i+1:Nat):Int)])) (h2: ∀K:List Int,f [eK K,.int .i64 (l.length:Int)]=some (.done 0 [eK K])):
  iter rounds f [eK K,.int .i64 0]=some (0,[eK ((l.map g).foldl CV K)]):=by
 rw [kU (vs0:=[eK K,.int .i64 0]) (fun i (s:List Int)=>[eK s,.int .i64 (i:Int)]) (fun K (x:α)=>CV K (g x)) 0 (fun s=>[eK s]) (fun _ _=>True) l K rfl (by have:=bc;omega) trivial]
 ·rw [List.foldl_map]
 ·intro i s x hx _;exact ⟨trivial,h1 i x s hx⟩
 ·intro s _;exact h2 s
theorem qD {l:List Rw} {m:List Mv} (hl:l.length < 2 ^ 16) (hm:m.length < 2 ^ 16) (a b c:IV):dS (ar l) a b (az m) c=some [eK (kidsK l m)]:=by
 unfold dS kidsK
 have e0:(IV.map [])=eK []:=rfl
 simp only [aD,Option.bind_some,List.length_map,e0]
 rw [La (l:=l) (g:=(·.ch)) hl []]
 ·simp only [Option.bind_some,jO,ag]
  rw [La (l:=m) (g:=(·.ch)) hm]
  ·simp only [Option.bind_some,jO,ag]
  ·intro i x K hx
   have hi:i < m.length:=(List.getElem?_eq_some_iff.1 hx).1
   unfold lW
   simp only [ag,aC,bV,bw,aJ,Int.ofNat_lt,hi,nw hx,decide_true,aj,Option.bind_some,Qz,aL (show i < 2 ^ 62 by omega)]
  ·intro K
   unfold lW
   simp
 ·intro i x K hx
  have hi:i < l.length:=(List.getElem?_eq_some_iff.1 hx).1
  unfold l9
  simp only [ag,aC,aJ,Int.ofNat_lt,hi,Li hx,decide_true,aj,Option.bind_some,Qz,aL (show i < 2 ^ 62 by omega)]
 ·intro K
  unfold l9
  simp
theorem Ti (l:List Mv):(ofM l).length<=l.length:=by
 have:=AX l []
 simpa [ofM] using this
theorem X6 (r:Rep):decide ((VR r.log r.fc r.fr).length=r.log.length)=VH r:=by
 unfold VH VR
 rw [Bool.eq_iff_iff,decide_eq_true_eq,List.all_eq_true]
 exact List.length_filter_eq_length_iff
theorem N2 {r:Rep} (h:SmF 2000 r) (ho:OKF r):nO (ar r.base) (.int .i64 r.fc) (.int .i64 r.fr) (az r.log) (aP r.mks)=some [.bool (Vs r)]:=by
 have hb:=h.base
 have hlg:=h.log
 have hmk:=h.mks
 have hof:=Ti r.log
 have hs:=QM r.log r.fc r.fr
 have c1:jQ (.ptr [ar r.base,.int .i64 r.fc,.int .i64 r.fr,az r.log,aP r.mks] 0)=some [.bool (mayR r.base&&(mayV r.log&&R8 r.mks))]:=by
  unfold jQ
  simp [gY,gX,RA (l:=r.base) (by omega) ho.base,OL (l:=r.log) (by omega),NP (v:=r.mks) (by omega),bE]
  cases mayR r.base<;>cases mayV r.log<;>simp
 have c2:jU (.ptr [ar r.base,.int .i64 r.fc,.int .i64 r.fr,az r.log,aP r.mks] 0)=some [.bool (xc (ofM r.log) r.mks)]:=by
  unfold jU
  simp [gY,gX,PQ (l:=r.log) (by omega),FG (a:=ofM r.log) (b:=r.mks) (by omega) (by omega)]
 have c3:jS (.ptr [ar r.base,.int .i64 r.fc,.int .i64 r.fr,az r.log,aP r.mks] 0)=some [.bool (decide (r.fc=0/\r.fr=0)||knownB r.mks r.fc r.fr)]:=by
  unfold jS
  simp [gY,gX,uC,Yf,bE,Iu (v:=r.mks) (by omega)]
  by_cases e:r.fc=0/\r.fr=0<;>simp [e]
 have c4:j9 (.ptr [ar r.base,.int .i64 r.fc,.int .i64 r.fr,az r.log,aP r.mks] 0)=some [.bool (VH r)]:=by
  unfold j9
  simp [gY,gX,uC,Gu (l:=r.log) (by omega)]
  rw [<-X6 r]
  congr 1
  apply propext
  omega
 have c5:kc (.ptr [ar r.base,.int .i64 r.fc,.int .i64 r.fr,az r.log,aP r.mks] 0)=some [.bool (decide ((kidsK r.base r.log).length<=2000))]:=by
  unfold kc
  simp [uC,qD (l:=r.base) (m:=r.log) (by omega) (by omega),Uj]
  omega
 have step: ∀(i:Nat) (b:Bool) (cl:IV),i < 5->qA (.lst [[(.clo (.func kn) [(.ptr [ar r.base,.int .i64 r.fc,.int .i64 r.fr,az r.log,aP r.mks] 0)])],[(.clo (.func jV) [(.ptr [ar r.base,.int .i64 r.fc,.int .i64 r.fr,az r.log,aP r.mks] 0)])],[(.clo (.func j6) [(.ptr [ar r.base,.int .i64 r.fc,.int .i64 r.fr,az r.log,aP r.mks] 0)])],[(.clo (.func jX) [(.ptr [ar r.base,.int .i64 r.fc,.int .i64 r.fr,az r.log,aP r.mks] 0)])],[(.clo (.func ko) [(.ptr [ar r.base,.int .i64 r.fc,.int .i64 r.fr,az r.log,aP r.mks] 0)])]]) i 0=some cl->cM cl [1] []=some [.bool b]->
   ju (ar r.base) (.int .i64 r.fc) (.int .i64 r.fr) (az r.log) (aP r.mks) [.int .i64 (i:Int)]=some (if b=true then .next [.int .i64 ((i+1:Nat):Int)] else .done 1 [.bool false]):=by
  intro i b cl hi h1 h2
  have e1:cE 5 (.int .i64 (i:Int))=some i:=vC hi
  have hi2:(i:Int) < ((5:Nat):Int):=by omega
  unfold ju
  simp only [ag,aJ,hi2,decide_true,aj,Option.bind_some,e1,h1,h2,jn,bE,aL (show i < 2 ^ 62 by omega)]
  cases b<;>simp
 have s0:=step 0 _ _ (by decide) rfl (show cM _ _ _=_ from c1)
 have s1:=step 1 _ _ (by decide) rfl (show cM _ _ _=_ from c2)
 have s2:=step 2 _ _ (by decide) rfl (show cM _ _ _=_ from c3)
 have s3:=step 3 _ _ (by decide) rfl (show cM _ _ _=_ from c4)
 have s4:=step 4 _ _ (by decide) rfl (show cM _ _ _=_ from c5)
 have s5:ju (ar r.base) (.int .i64 r.fc) (.int .i64 r.fr) (az r.log) (aP r.mks) [.int .i64 ((5:Nat):Int)]=some (.done 0 []):=by
  unfold ju
  simp
 unfold nO Vs
 obtain ⟨N,hN⟩: ∃N,rounds=N+1+1+1+1+1+1:=⟨999994,rfl⟩
 rw [hN,show (IV.int .i64 0)=IV.int .i64 ((0:Nat):Int) from rfl]
 generalize ju (ar r.base) (.int .i64 r.fc) (.int .i64 r.fr) (az r.log) (aP r.mks)=f at*
 have done: ∀(n i:Nat) (b:Bool),f [.int .i64 (i:Int)]=some (if b=true then .next [.int .i64 ((i+1:Nat):Int)] else .done 1 [.bool false])->iter (n+1) f [.int .i64 (i:Int)]=if b=true then iter n f [.int .i64 ((i+1:Nat):Int)] else some (1,[.bool false]):=by
  intro n i b h
  cases b with
  | true=>rw [Vd n h,if_pos rfl]
  | false=>rw [o5 n h];rfl
 rw [done _ 0 _ s0,done _ 1 _ s1,done _ 2 _ s2,done _ 3 _ s3,done _ 4 _ s4,o5 _ s5]
 cases mayR r.base<;>cases mayV r.log<;>cases R8 r.mks<;>cases xc (ofM r.log) r.mks<;>cases (decide (r.fc=0/\r.fr=0)||knownB r.mks r.fc r.fr)<;>cases VH r<;>cases decide ((kidsK r.base r.log).length<=2000)<;>rfl
end Go.AM
namespace Go.AM
theorem SmF.mono {n m:Nat} {r:Rep} (h:SmF n r) (hnm:n<=m):SmF m r:=⟨Nat.le_trans h.base hnm,Nat.le_trans h.log hnm,Nat.le_trans h.mks hnm⟩
theorem SmF.add {n:Nat} {r:Rep} (h:SmF n r) (m:Mv):SmF (n+1) (mW r m).1:=by
 have h1:=h.base
 have h2:=h.log
 have h3:=h.mks
 have h4:=lj r.log m
 have h5:=re (c:=m.c) (r:=m.r) r.mks
 unfold mW
 split
 ·split
  ·split
   ·exact ⟨by dsimp only;omega,by dsimp only;omega,by dsimp only;omega⟩
   ·exact h.mono (by omega)
  ·exact h.mono (by omega)
 ·exact h.mono (by omega)
theorem RO {l:List Mv} {m:Mv} (h: ∀x∈l,OKm x) (hm:OKm m): ∀x∈cW l m,OKm x:=fun x hx=>by
 rcases rQ hx with rfl | hx
 ·exact hm
 ·exact h x hx
theorem OKF.add {r:Rep} (h:OKF r) {m:Mv} (hm:OKm m):OKF (mW r m).1:=by
 unfold mW
 split
 ·split
  ·split
   ·exact ⟨h.base,RO h.log hm⟩
   ·exact h
  ·exact h
 ·exact h
theorem M8 {r:Rep} (h:SmF 900 r) (ho:OKF r) {m:Mv} (hm:OKm m):nC (ar r.base) (.int .i64 r.fc) (.int .i64 r.fr) (az r.log) (aP r.mks) (.int .i64 m.c) (.int .i64 m.r) (.int .i64 m.par) (.int .i64 m.ch) (.str m.nm) (.flt .f64 m.rk)=
  some [ar (mW r m).1.base,.int .i64 (mW r m).1.fc,.int .i64 (mW r m).1.fr,az (mW r m).1.log,aP (mW r m).1.mks,.bool (mW r m).2.1,.int .i64 (mW r m).2.2]:=by
 have hb:=h.base
 have hlg:=h.log
 have hmk:=h.mks
 have hk:=BV r.base r.log
 have n1: ¬((r.log.length:Int)=2000):=by omega
 have n2: ¬(((kidsK r.base r.log).length:Int)=2000):=by omega
 unfold nC mW
 simp only [N2 (h.mono (by omega)) ho,sZ,my,og (l:=r.log) (show r.log.length < 2 ^ 16 by omega),qD (l:=r.base) (m:=r.log) (show r.base.length < 2 ^ 16 by omega) (show r.log.length < 2 ^ 16 by omega),vI (l:=r.mks) (show r.mks.length < 2 ^ 16 by omega),Option.bind_some,ag,aC,bV,jn,H3,bE,aD,List.length_map,Uj,Xk,nW,aQ,n1,n2,if_false,decide_false,aF]
 cases Vs r<;>cases oneV m<;>cases befB r.fc r.fr m.c m.r<;>cases EW r.log m<;>simp
theorem JM {r:Rep} (h:SmF 2000 r) (ho:OKF r) (a b c:IV):mq (ar r.base) a b (az r.log) c=some [ar (allV r.base r.log)]:=by
 have hb:=h.base
 have hlg:=h.log
 unfold mq
 simp only [DX (l:=r.base) (ms:=r.log) (by omega) ho.base ho.log,Option.bind_some,ag]
end Go.AM
namespace Go.AM
end Go.AM
namespace Go.AM
theorem VU {r:Rep} (h:MayF r) (hs:SmF 700 r) (m:Mv):MayF (mW r m).1:=by
 have h1:=hs.base
 have h2:=hs.log
 unfold mW
 split
 ·rename_i h1
  simp only [Bool.and_eq_true] at h1
  split
  ·rename_i h2
   split
   ·exact h.add h1.2 h2 (by omega) (by omega)
   ·exact h
  ·exact h
 ·exact h
theorem Tm (r:Rep) (m:Mv):(mW r m).1.fc=r.fc/\(mW r m).1.fr=r.fr/\(mW r m).1.base=r.base:=by
 unfold mW
 split
 ·split
  ·split<;>exact ⟨rfl,rfl,rfl⟩
  ·exact ⟨rfl,rfl,rfl⟩
 ·exact ⟨rfl,rfl,rfl⟩
end Go.AM
namespace Go.AM
structure TwoF (E:List Mv) (a b:Rep):Prop where
 log:a.log=E++b.log
 base:b.base=allV a.base E
 mks:a.mks=b.mks
 may1:MayF a
 may2:MayF b
 early: ∀x∈E,befB b.fc b.fr x.c x.r=false
 floor:befB b.fc b.fr a.fc a.fr=false
theorem n8 (a b c d e f g h i:IV) (l:List IV):nth (a::b::c::d::e::f::g::h::i::l) 8=i:=rfl
theorem n9 (a b c d e f g h i j:IV) (l:List IV):nth (a::b::c::d::e::f::g::h::i::j::l) 9=j:=rfl
structure CameF (r:Rep) (took:List Mv) (a:Rep):Prop where
 may:MayF a
 mks: ∀x,getM a.mks x=max (getM r.mks x) (supV x took 0)
 good: ∀m∈took,oneV m=true
end Go.AM
namespace Go.AM
structure AllF (r:Rep) (l:List Mv) (a:Rep):Prop where
 came:CameF r l a
 log:a.log=uniV r.log l
 base:a.base=r.base
 fc:a.fc=r.fc
 fr:a.fr=r.fr
end Go.AM
