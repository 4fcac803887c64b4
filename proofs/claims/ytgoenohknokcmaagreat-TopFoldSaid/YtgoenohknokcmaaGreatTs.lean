/- Rows as a graph: who is above whom, by steps; what a row that is set changes. No program is named here. -/
import Derived.Test.YtgoenohknokcmaaGreatTr
open List renaming getElem?_eq_some_iff->ab,all_eq_true->ao,findIdx?_eq_some_iff_getElem->aB,mem_map->a1,mem_of_getElem?->a2,getD_eq_getElem?_getD->a5,findIdx?_eq_none_iff->a6,any_eq_false->a8,take_append_drop->bb,find?_cons->bd,length_map->bm,mem_iff_getElem->br,mem_of_mem_take->bs,find?_eq_none->bx,map_cons->bA,mem_cons_self->bB,findIdx?_cons->bC,find?_isSome->bM,ext_getElem?->bO,getElem?_set->bR,getElem_mem->b0,find?->b1
open Bool renaming and_eq_true->ad,not_eq_true'->a7,eq_iff_iff->bf
set_option linter.unusedVariables false
set_option linter.unusedSimpArgs false
namespace Go.AM
theorem Yf {l:List Rw} {x:Int} (h:(VK l x).isSome=true):x∈l.map (·.ch):=by
 rw [Nf] at h
 cases hf:rY l x with
 | none=>rw [hf] at h;cases h
 | some r=>
   have h1:=List.mem_of_find?_eq_some hf
   have h2:=List.find?_some hf
   have:r.ch=x:=by simpa [Ea] using h2
   exact a1.2 ⟨r,h1,this⟩
def Abv (l:List Rw) (a b:Int):Prop:= ∃k,nodeAt (VK l) (k+1) b=some a
theorem Dv (l:List Rw) (a b:Int):z6 l a b=true↔Abv l a b:=by
 unfold z6
 rw [contains_iff,FN]
 constructor
 ·rintro ⟨k,_,h⟩;exact ⟨k,h⟩
 ·rintro ⟨k,h⟩
  obtain ⟨j,h1,h2⟩:=Ed (K:=l.map (·.ch)) (λx c=>Yf c) k h
  exact ⟨j,by simpa using h1,h2⟩
theorem Se (l:List Rw) (a b:Int):z6 l a b=false↔ ¬Abv l a b:=by
 rw [<-Dv];simp
theorem nX {l k:List Rw} {c:Int}:rY (l++k) c=(rY l c).or (rY k c):=List.find?_append
theorem ZD (l:List Rw) (r:Rw) (c:Int):rY (tf l r) c=if c=r.ch then some r else rY l c:=by
 unfold tf
 cases h:l.findIdx? (Ea r.ch) with
 | some i=>
   obtain ⟨hi,hp,hn⟩:=aB.1 h
   simp only
   have hl:l=l.take i++l[i]::l.drop (i+1):=by rw [<-List.drop_eq_getElem_cons hi,bb]
   have hs:l.set i r=l.take i++r::l.drop (i+1):=by rw [List.set_eq_take_append_cons_drop];simp [hi]
   have d: ∀x∈l.take i,x.ch≠r.ch:=by
    intro x b
    obtain ⟨j,hj,rfl⟩:=br.1 b
    simp only [List.length_take] at hj
    have:=hn j (by omega)
    simpa [Ea] using this
   have g:l[i].ch=r.ch:=by simpa [Ea] using hp
   by_cases hc:c=r.ch
   ·subst hc
    rw [if_pos rfl,hs,nX]
    have:rY (l.take i) r.ch=none:=bx.2 λx b=>by simp [Ea,d x b]
    rw [this]
    simp [rY,Ea]
   ·rw [if_neg hc,hs]
    conv=>rhs;rw [hl]
    rw [nX,nX]
    congr 1
    have f:Ea c r=false:=by simp [Ea];exact λe=>hc e.symm
    have m:Ea c l[i]=false:=by simp [Ea,g];exact λe=>hc e.symm
    show b1 (Ea c) (r::_)=b1 (Ea c) (l[i]::_)
    rw [bd,bd,f,m]
 | none=>
   simp only
   have k: ∀x∈l,x.ch≠r.ch:=by
    rw [a6] at h
    intro x b
    simpa [Ea] using h x b
   rw [nX,nX]
   have a:rY l c=(rY (l.take (atR l r.ch)) c).or (rY (l.drop (atR l r.ch)) c):=by
    rw [<-nX,bb]
   by_cases hc:c=r.ch
   ·subst hc
    have:rY (l.take (atR l r.ch)) r.ch=none:=bx.2 λx b=>by simp [Ea,k x (bs b)]
    rw [this]
    simp [rY,Ea]
   ·have f:Ea c r=false:=by simp [Ea];exact λe=>hc e.symm
    rw [if_neg hc,a]
    simp [rY,bd,f]
theorem YH (l:List Rw) (r:Rw) (c:Int):VK (tf l r) c=if c=r.ch then some r.par else VK l c:=by
 rw [Nf,Nf,ZD]
 split<;>rfl
theorem VW (f:Int->Option Int) (b:Int):nodeAt f 0 b=some b:=rfl
theorem KG (f:Int->Option Int) (b:Int):nodeAt f 1 b=f b:=by
 have:=gV (f:=f) 0 (k:=1) (b:=b)
 simp only [nodeAt]
 cases f b<;>rfl
theorem HG (f:Int->Option Int) (k:Nat) (b:Int):nodeAt f (k+1) b=(f b).bind (nodeAt f k):=by
 rw [Nat.add_comm,gV,KG]
theorem Im (f:Int->Option Int) (k:Nat) (b:Int):nodeAt f (k+1) b=(nodeAt f k b).bind f:=by
 rw [gV]
 congr 1
 funext x
 exact KG f x
theorem uM {f g:Int->Option Int} {c:Int} (h: ∀x,x≠c->f x=g x) {b:Int}: ∀k,(∀j,j < k->nodeAt f j b≠some c)->nodeAt f k b=nodeAt g k b
 | 0,_=>rfl
 | k+1,hk=>by
   rw [Im,Im,uM h k λj hj=>hk j (by omega)]
   cases a:nodeAt g k b with
   | none=>rfl
   | some x=>
     have:nodeAt f k b=some x:=by rw [uM h k λj hj=>hk j (by omega)];exact a
     have d:x≠c:= λe=>hk k (by omega) (by rw [this,e])
     exact h x d
end Go.AM
namespace Go.AM
end Go.AM
namespace Go.AM
theorem QB {O:List (List IV)->Option (List IV)} (h: ∀r:Rw,O [Y9 r]=some [.bool (S0 r)]): ∀l:List Rw,(l.map Y9).mapM (XP O)=some (l.map S0)
 | []=>rfl
 | r::l=>by
   have h1:XP O (Y9 r)=some (S0 r):=by
    unfold XP
    rw [h r]
   rw [bA,List.mapM_cons,h1,QB h l]
   rfl
theorem ab4 (l:List Rw):A4 (λi=>(l.map S0).getD i false) (l.map Nr) 0=(l.all S0&&xb YX l):=by
 rw [bf,Dt,ad,Fv]
 constructor
 ·intro h
  refine ⟨ao.2 λr hr=> ?_,λi x y d a=> ?_⟩
  ·obtain ⟨i,hi,rfl⟩:=br.1 hr
   have:=(h i (by simpa using hi)).1
   simpa [a5,hi] using this
  ·have hi:=(ab.1 a).1
   have:=(h (i+1) (by simpa using hi)).2 (Nr x) (Nr y) (by omega) (by simp [d]) (by simp [a])
   simpa [YX,Nr] using this
 ·rintro ⟨h1,h2⟩ j hj
  have b:j < l.length:=by simpa using hj
  refine ⟨?_,λp q h0 hp c=> ?_⟩
  ·have:=ao.1 h1 l[j] (b0 b)
   simpa [a5,b] using this
  ·rw [List.getElem?_map] at hp c
   cases d:l[j - 1]? with
   | none=>rw [d] at hp;cases hp
   | some x=>
     cases a:l[j]? with
     | none=>rw [a] at c;cases c
     | some y=>
       rw [d] at hp;rw [a] at c
       cases hp;cases c
       have:=h2 (j - 1) x y d (by rw [show j - 1+1=j by omega];exact a)
       simpa [YX,Nr] using this
theorem Ah {l:List Rw} (hl:l.length < 2 ^ 16) (a:OKl l):qo (cQ l)=some [.bool (mayR l)]:=by
 show ZI _ (cQ l)=_
 unfold ZI
 simp only [bm]
 rw [if_pos (by omega),Gn a,QB λr=>zP r.ch r.par r.nm _]
 simp only [Option.bind_some,Option.map_some]
 congr 3
 unfold zb mayR
 rw [ab4,bm]
 congr 2
 rw [bf,ao,a7,a8]
 constructor
 ·intro h r hr
  have h1:r.ch∈dD (l.map Nr):=(ui _ _).2 (by
   unfold oC
   rw [Option.isSome_map,bM]
   exact ⟨Nr r,a1.2 ⟨r,hr,rfl⟩,by simp [Nr]⟩)
  have:=h _ h1
  rw [Hm] at this
  simpa using this
 ·intro h c hc
  rw [Hm]
  have h2:=(ui _ _).1 hc
  unfold oC at h2
  rw [Option.isSome_map,bM] at h2
  obtain ⟨p,hp,he⟩:=h2
  obtain ⟨r,hr,rfl⟩:=a1.1 hp
  have e:r.ch=c:=by simpa [Nr] using he
  have:=h r hr
  rw [e] at this
  simpa using this
theorem least {P:Nat->Prop}: ∀n,P n-> ∃j,P j/\ ∀i,i < j-> ¬P i:=by
 intro n
 induction n using Nat.strongRecOn with
 | _ n ih=>
   intro h
   by_cases hh: ∃i,i < n/\P i
   ·obtain ⟨i,hi,hp⟩:=hh;exact ih i hi hp
   ·exact ⟨n,h,λi hi hp=>hh ⟨i,hi,hp⟩⟩
theorem abt {l:List Rw} {r:Rw} (h: ∀c,¬Abv l c c) (h1:r.ch≠r.par) (h2: ¬Abv l r.ch r.par): ∀c,¬Abv (tf l r) c c:=by
 rintro c ⟨k,hk⟩
 have hf: ∀x,x≠r.ch->VK (tf l r) x=VK l x:= λx g=>by rw [YH,if_neg g]
 by_cases hv: ∃j,j<=k/\nodeAt (VK (tf l r)) j c=some r.ch
 ·obtain ⟨j,hj,b⟩:=hv
  have a:nodeAt (VK (tf l r)) (k+1) r.ch=some r.ch:=by
   have e:nodeAt (VK (tf l r)) (j+(k+1)) c=nodeAt (VK (tf l r)) (k+1) r.ch:=by rw [gV,b];rfl
   have f:nodeAt (VK (tf l r)) (j+(k+1)) c=some r.ch:=by rw [Nat.add_comm,gV,hk];exact b
   rw [<-e,f]
  rw [HG,YH,if_pos rfl] at a
  obtain ⟨i,hi,d⟩:=least (P:= λi=>nodeAt (VK (tf l r)) i r.par=some r.ch) k a
  rw [uM (c:=r.ch) hf i d] at hi
  cases i with
  | zero=>rw [VW] at hi;exact h1 (Option.some.inj hi).symm
  | succ i=>exact h2 ⟨i,hi⟩
 ·rw [uM (c:=r.ch) hf (k+1) λj hj hh=>hv ⟨j,by omega,hh⟩] at hk
  exact h c ⟨k,hk⟩
theorem aaP {l:List Rw} {r x:Rw} (h:x∈tf l r):x∈l\/x=r:=by
 unfold tf at h
 split at h
 ·exact List.mem_or_eq_of_mem_set h
 ·simp only [List.mem_append,List.mem_singleton] at h
  rcases h with (h | h) | h
  ·exact .inl (bs h)
  ·exact .inr h
  ·exact .inl (List.mem_of_mem_drop h)
theorem Ho: ∀{l:List Rw},xb YX l=true↔wK (l.map (·.ch))
 | []=>by simp [xb,wK]
 | [x]=>by simp [xb,wK]
 | x::y::l=>by
   have ih:=Ho (l:=y::l)
   simp only [xb,ad]
   rw [ih]
   simp only [bA,wK,List.pairwise_cons,YX,decide_eq_true_eq]
   constructor
   ·rintro ⟨h1,h2,b⟩
    refine ⟨λa c=> ?_,h2,b⟩
    rcases List.mem_cons.1 c with rfl | c
    ·exact h1
    ·exact Int.lt_trans h1 (h2 a c)
   ·rintro ⟨h1,h2,b⟩
    exact ⟨h1 _ bB,h2,b⟩
theorem Ec {α:Type} {p q:α->Bool}: ∀{l:List α},(∀x∈l,p x=q x)->l.findIdx? p=l.findIdx? q
 | [],_=>rfl
 | x::l,h=>by
   rw [bC,bC,h x bB,Ec λy a=>h y (List.mem_cons_of_mem _ a)]
theorem Zx {l:List Rw} (h:wK (l.map (·.ch))) (r:Rw):(tf l r).map (·.ch)=aaK (l.map (·.ch)) r.ch:=by
 have hp:=Qi h r.ch
 unfold tf
 cases hi:l.findIdx? (Ea r.ch) with
 | some i=>
   obtain ⟨b,hc,_⟩:=aB.1 hi
   have a:l[i].ch=r.ch:=by simpa [Ea] using hc
   simp only
   have e:(l.set i r).map (·.ch)=l.map (·.ch):=by
    rw [List.map_set]
    apply bO
    intro j
    rw [bR]
    split
    ·rename_i hj;subst hj;simp [b,a]
    ·rfl
   rw [e]
   refine PR h hp.1 λx=> ?_
   rw [hp.2]
   constructor
   ·exact .inl
   ·rintro (h | rfl)
    ·exact h
    ·exact a1.2 ⟨l[i],b0 b,a⟩
 | none=>
   have c: ∀x∈l,x.ch≠r.ch:=by
    rw [a6] at hi
    intro x d;simpa [Ea] using hi x d
   have f:Uj (l.map (·.ch)) r.ch=atR l r.ch:=by
    unfold Uj atR
    rw [List.findIdx?_map,bm]
    congr 1
    refine Ec λx d=> ?_
    have:=c x d
    simp only [Function.comp]
    rw [bf]
    simp
    omega
   unfold aaK
   rw [f,if_neg]
   ·simp [List.map_take,List.map_drop]
   ·intro hh
    have:=a2 hh
    obtain ⟨x,d,he⟩:=a1.1 this
    exact c x d he
theorem xR {l:List Rw} (h:mayR l=true):l.length<=2000/\(∀r∈l,S0 r=true)/\wK (l.map (·.ch))/\ ∀c,¬Abv l c c:=by
 unfold mayR at h
 simp only [ad,decide_eq_true_eq,ao,a7,a8] at h
 obtain ⟨h1,⟨h2,a⟩,b⟩:=h
 refine ⟨h1,h2,Ho.1 a,λc hc=> ?_⟩
 have hk:c∈l.map (·.ch):=by
  obtain ⟨k,hk⟩:=hc
  apply Yf
  rw [HG] at hk
  cases hu:VK l c with
  | none=>rw [hu] at hk;cases hk
  | some y=>rfl
 obtain ⟨r,hr,rfl⟩:=a1.1 hk
 exact b r hr ((Dv _ _ _).2 hc)
theorem ac3 {l:List Rw} (h1:l.length<=2000) (h2: ∀r∈l,S0 r=true) (a:wK (l.map (·.ch))) (b: ∀c,¬Abv l c c):mayR l=true:=by
 unfold mayR
 simp only [ad,decide_eq_true_eq,ao,a7,a8]
 exact ⟨h1,⟨h2,Ho.2 a⟩,λr hr=>by rw [Dv];exact b _⟩
theorem acT {l:List Rw} {m:Mv} (h:mayR l=true) (hm:oneV m=true) (hb:Oj l m=false) (hl:l.length+1<=2000):mayR (Sm l m)=true:=by
 obtain ⟨h1,h2,b,c⟩:=xR h
 unfold Oj at hb
 simp only [Bool.or_eq_false_iff,decide_eq_false_iff_not] at hb
 have hlen:=xB l m
 have a:Sm l m=tf l (rowOf m):=by
  unfold Sm
  rw [if_neg]
  unfold Oj
  simp [hb]
 refine ac3 (by omega) (λr hr=> ?_) ?_ ?_
 ·rw [a] at hr
  rcases aaP hr with hr | rfl
  ·exact h2 r hr
  ·unfold oneV at hm
   simp only [ad] at hm
   exact hm.2
 ·rw [a,Zx b]
  exact (Qi b _).1
 ·rw [a]
  exact abt c (λe=>hb.1.2 e) ((Se _ _ _).1 hb.2)
end Go.AM
namespace Go.AM
theorem ac2 {l:List Rw} {m:Mv} (h:Oj l m=true):Sm l m=l:=by unfold Sm;rw [if_pos h]
end Go.AM
namespace Go.AM
def eK (K:List Int):IV:= .map (K.map λk=>[.int .i64 k,.bool true])
theorem RQ (k:Int): ∀(K:List Int) (i:Nat),∃r,vk (.int .i64 k) (K.map λk=>[IV.int .i64 k,.bool true]) i=some r/\((r=none/\k∉K)\/ ∃j,r=some (i+j,.bool true)/\K[j]? =some k)
 | [],i=>⟨none,rfl,.inl ⟨rfl,by simp⟩⟩
 | x::K,i=>by
   by_cases h:k=x
   ·subst h
    exact ⟨some (i,.bool true),by simp [vk,HT],.inr ⟨0,rfl,rfl⟩⟩
   ·obtain ⟨r,h1,h2⟩:=RQ k K (i+1)
    refine ⟨r,?_,?_⟩
    ·simp only [bA,vk,HT,if_true]
     rw [show (k==x)=false by simpa using h]
     exact h1
    ·rcases h2 with ⟨h2,a⟩ | ⟨j,h2,a⟩
     ·exact .inl ⟨h2,by simp [h,a]⟩
     ·exact .inr ⟨j+1,by rw [h2];congr 2;omega,by simpa using a⟩
theorem UD (K:List Int) (k:Int):ql (.int .i64) (eK K) (.int .i64 k) (.bool true)=some (eK (GR K k)):=by
 obtain ⟨r,h1,h2⟩:=RQ k K 0
 unfold ql
 rw [if_pos (by simp [LD])]
 unfold Iv eK
 simp only
 rw [h1]
 rcases h2 with ⟨rfl,a⟩ | ⟨j,rfl,a⟩
 ·simp [GR,a]
 ·have hm:k∈K:=a2 a
  simp only [Option.bind_some,GR,List.contains_iff_mem,hm,if_true]
  congr 2
  apply bO
  intro i
  rw [bR]
  split
  ·rename_i e
   have hj:j < K.length:=(ab.1 a).1
   have:0+j=j:=by omega
   rw [this] at e
   subst e
   simp [hj,a]
   have:=(ab.1 a).2
   rw [this]
  ·rfl
theorem aaM (K:List Int) (k:Int):xJ (.int .i64) (eK K) (.int .i64 k) (.bool false)=some [.bool (K.contains k),.bool (K.contains k)]:=by
 obtain ⟨r,h1,h2⟩:=RQ k K 0
 unfold xJ
 rw [if_pos (by simp [LD])]
 unfold M4 eK
 simp only
 rw [h1]
 rcases h2 with ⟨rfl,a⟩ | ⟨j,rfl,a⟩
 ·simp [a]
 ·have hm:k∈K:=a2 a
  simp [hm]
theorem YF (K:List Int):Cr (eK K)=some (.int .i64 K.length):=by
 unfold Cr eK;simp
end Go.AM
