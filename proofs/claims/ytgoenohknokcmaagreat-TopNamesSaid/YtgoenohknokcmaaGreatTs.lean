/- Rows as a graph: who is above whom, by steps; what a row that is set changes. No program is named here. -/
import Derived.Test.YtgoenohknokcmaaGreatTr
open List renaming getElem?_eq_some_iff->ab,all_eq_true->al,findIdx?_eq_some_iff_getElem->ao,mem_map->aB,mem_of_getElem?->a1,getD_eq_getElem?_getD->a2,findIdx?_eq_none_iff->a5,any_eq_false->a7,take_append_drop->a8,find?_cons->bb,length_map->bf,mem_iff_getElem->bm,mem_of_mem_take->br,find?_eq_none->bs,map_cons->bx,mem_cons_self->bA,findIdx?_cons->bB,find?_isSome->bC,ext_getElem?->bM,getElem?_set->bO,getElem_mem->bR,find?->b0
open Bool renaming and_eq_true->ad,not_eq_true'->a6,eq_iff_iff->bd
set_option linter.unusedVariables false
set_option linter.unusedSimpArgs false
namespace Go.AM
theorem YB {l:List Rw} {x:Int} (h:(TF l x).isSome=true):x∈l.map (·.ch):=by
 rw [M3] at h
 cases hf:sR l x with
 | none=>rw [hf] at h;cases h
 | some r=>
   have h1:=List.mem_of_find?_eq_some hf
   have h2:=List.find?_some hf
   have:r.ch=x:=by simpa [EA] using h2
   exact aB.2 ⟨r,h1,this⟩
def Abv (l:List Rw) (a b:Int):Prop:= ∃k,nodeAt (TF l) (k+1) b=some a
theorem DF (l:List Rw) (a b:Int):AB l a b=true↔Abv l a b:=by
 unfold AB
 rw [contains_iff,Gb]
 constructor
 ·rintro ⟨k,_,h⟩;exact ⟨k,h⟩
 ·rintro ⟨k,h⟩
  obtain ⟨j,h1,h2⟩:=Gi (K:=l.map (·.ch)) (λx hx=>YB hx) k h
  exact ⟨j,by simpa using h1,h2⟩
theorem SS (l:List Rw) (a b:Int):AB l a b=false↔ ¬Abv l a b:=by
 rw [<-DF];simp
theorem o6 {l k:List Rw} {c:Int}:sR (l++k) c=(sR l c).or (sR k c):=List.find?_append
theorem Zw (l:List Rw) (r:Rw) (c:Int):sR (tN l r) c=if c=r.ch then some r else sR l c:=by
 unfold tN
 cases h:l.findIdx? (EA r.ch) with
 | some i=>
   obtain ⟨hi,hp,hn⟩:=ao.1 h
   simp only
   have hl:l=l.take i++l[i]::l.drop (i+1):=by rw [<-List.drop_eq_getElem_cons hi,a8]
   have hs:l.set i r=l.take i++r::l.drop (i+1):=by rw [List.set_eq_take_append_cons_drop];simp [hi]
   have b: ∀x∈l.take i,x.ch≠r.ch:=by
    intro x hx
    obtain ⟨j,hj,rfl⟩:=bm.1 hx
    simp only [List.length_take] at hj
    have:=hn j (by omega)
    simpa [EA] using this
   have f:l[i].ch=r.ch:=by simpa [EA] using hp
   by_cases hc:c=r.ch
   ·subst hc
    rw [if_pos rfl,hs,o6]
    have:sR (l.take i) r.ch=none:=bs.2 λx hx=>by simp [EA,b x hx]
    rw [this]
    simp [sR,EA]
   ·rw [if_neg hc,hs]
    conv=>rhs;rw [hl]
    rw [o6,o6]
    congr 1
    have d:EA c r=false:=by simp [EA];exact λe=>hc e.symm
    have k:EA c l[i]=false:=by simp [EA,f];exact λe=>hc e.symm
    show b0 (EA c) (r::_)=b0 (EA c) (l[i]::_)
    rw [bb,bb,d,k]
 | none=>
   simp only
   have g: ∀x∈l,x.ch≠r.ch:=by
    rw [a5] at h
    intro x hx
    simpa [EA] using h x hx
   rw [o6,o6]
   have a:sR l c=(sR (l.take (atR l r.ch)) c).or (sR (l.drop (atR l r.ch)) c):=by
    rw [<-o6,a8]
   by_cases hc:c=r.ch
   ·subst hc
    have:sR (l.take (atR l r.ch)) r.ch=none:=bs.2 λx hx=>by simp [EA,g x (br hx)]
    rw [this]
    simp [sR,EA]
   ·have d:EA c r=false:=by simp [EA];exact λe=>hc e.symm
    rw [if_neg hc,a]
    simp [sR,bb,d]
theorem Yb (l:List Rw) (r:Rw) (c:Int):TF (tN l r) c=if c=r.ch then some r.par else TF l c:=by
 rw [M3,M3,Zw]
 split<;>rfl
theorem Wa (f:Int->Option Int) (b:Int):nodeAt f 0 b=some b:=rfl
theorem Mn (f:Int->Option Int) (b:Int):nodeAt f 1 b=f b:=by
 have:=iw (f:=f) 0 (k:=1) (b:=b)
 simp only [nodeAt]
 cases f b<;>rfl
theorem H6 (f:Int->Option Int) (k:Nat) (b:Int):nodeAt f (k+1) b=(f b).bind (nodeAt f k):=by
 rw [Nat.add_comm,iw,Mn]
theorem I7 (f:Int->Option Int) (k:Nat) (b:Int):nodeAt f (k+1) b=(nodeAt f k b).bind f:=by
 rw [iw]
 congr 1
 funext x
 exact Mn f x
theorem vI {f g:Int->Option Int} {c:Int} (h: ∀x,x≠c->f x=g x) {b:Int}: ∀k,(∀j,j < k->nodeAt f j b≠some c)->nodeAt f k b=nodeAt g k b
 | 0,_=>rfl
 | k+1,hk=>by
   rw [I7,I7,vI h k λj hj=>hk j (by omega)]
   cases a:nodeAt g k b with
   | none=>rfl
   | some x=>
     have:nodeAt f k b=some x:=by rw [vI h k λj hj=>hk j (by omega)];exact a
     have hx:x≠c:= λe=>hk k (by omega) (by rw [this,e])
     exact h x hx
end Go.AM
namespace Go.AM
end Go.AM
namespace Go.AM
theorem QE {O:List (List IV)->Option (List IV)} (h: ∀r:Rw,O [Zh r]=some [.bool (OZ r)]): ∀l:List Rw,(l.map Zh).mapM (XE O)=some (l.map OZ)
 | []=>rfl
 | r::l=>by
   have h1:XE O (Zh r)=some (OZ r):=by
    unfold XE
    rw [h r]
   rw [bx,List.mapM_cons,h1,QE h l]
   rfl
theorem acb (l:List Rw):zV (λi=>(l.map OZ).getD i false) (l.map NN) 0=(l.all OZ&&yL YY l):=by
 rw [bd,D5,ad,F5]
 constructor
 ·intro h
  refine ⟨al.2 λr hr=> ?_,λi x y hx a=> ?_⟩
  ·obtain ⟨i,hi,rfl⟩:=bm.1 hr
   have:=(h i (by simpa using hi)).1
   simpa [a2,hi] using this
  ·have hi:=(ab.1 a).1
   have:=(h (i+1) (by simpa using hi)).2 (NN x) (NN y) (by omega) (by simp [hx]) (by simp [a])
   simpa [YY,NN] using this
 ·rintro ⟨h1,h2⟩ j hj
  have b:j < l.length:=by simpa using hj
  refine ⟨?_,λp q h0 hp c=> ?_⟩
  ·have:=al.1 h1 l[j] (bR b)
   simpa [a2,b] using this
  ·rw [List.getElem?_map] at hp c
   cases hx:l[j - 1]? with
   | none=>rw [hx] at hp;cases hp
   | some x=>
     cases a:l[j]? with
     | none=>rw [a] at c;cases c
     | some y=>
       rw [hx] at hp;rw [a] at c
       cases hp;cases c
       have:=h2 (j - 1) x y hx (by rw [show j - 1+1=j by omega];exact a)
       simpa [YY,NN] using this
theorem Bt {l:List Rw} (hl:l.length < 2 ^ 16) (a:OKl l):qM (cU l)=some [.bool (mayR l)]:=by
 show Y3 _ (cU l)=_
 unfold Y3
 simp only [bf]
 rw [if_pos (by omega),Hv a,QE λr=>AR r.ch r.par r.nm _]
 simp only [Option.bind_some,Option.map_some]
 congr 3
 unfold zF mayR
 rw [acb,bf]
 congr 2
 rw [bd,al,a6,a7]
 constructor
 ·intro h r hr
  have h1:r.ch∈dE (l.map NN):=(uy _ _).2 (by
   unfold ph
   rw [Option.isSome_map,bC]
   exact ⟨NN r,aB.2 ⟨r,hr,rfl⟩,by simp [NN]⟩)
  have:=h _ h1
  rw [GA] at this
  simpa using this
 ·intro h c hc
  rw [GA]
  have h2:=(uy _ _).1 hc
  unfold ph at h2
  rw [Option.isSome_map,bC] at h2
  obtain ⟨p,hp,he⟩:=h2
  obtain ⟨r,hr,rfl⟩:=aB.1 hp
  have e:r.ch=c:=by simpa [NN] using he
  have:=h r hr
  rw [e] at this
  simpa using this
theorem least {P:Nat->Prop}: ∀n,P n-> ∃j,P j/\ ∀i,i < j-> ¬P i:=by
 intro n
 induction n using Nat.strongRecOn with
 | _ n ih=>
   intro h
   by_cases hh: ∃i,i < n/\P i
   ·obtain ⟨i,hi,hp⟩:=hh;exact ih i hi hp
   ·exact ⟨n,h,λi hi hp=>hh ⟨i,hi,hp⟩⟩
theorem aaX {l:List Rw} {r:Rw} (h: ∀c,¬Abv l c c) (h1:r.ch≠r.par) (h2: ¬Abv l r.ch r.par): ∀c,¬Abv (tN l r) c c:=by
 rintro c ⟨k,hk⟩
 have hf: ∀x,x≠r.ch->TF (tN l r) x=TF l x:= λx hx=>by rw [Yb,if_neg hx]
 by_cases hv: ∃j,j<=k/\nodeAt (TF (tN l r)) j c=some r.ch
 ·obtain ⟨j,hj,b⟩:=hv
  have a:nodeAt (TF (tN l r)) (k+1) r.ch=some r.ch:=by
   have e:nodeAt (TF (tN l r)) (j+(k+1)) c=nodeAt (TF (tN l r)) (k+1) r.ch:=by rw [iw,b];rfl
   have f:nodeAt (TF (tN l r)) (j+(k+1)) c=some r.ch:=by rw [Nat.add_comm,iw,hk];exact b
   rw [<-e,f]
  rw [H6,Yb,if_pos rfl] at a
  obtain ⟨i,hi,d⟩:=least (P:= λi=>nodeAt (TF (tN l r)) i r.par=some r.ch) k a
  rw [vI (c:=r.ch) hf i d] at hi
  cases i with
  | zero=>rw [Wa] at hi;exact h1 (Option.some.inj hi).symm
  | succ i=>exact h2 ⟨i,hi⟩
 ·rw [vI (c:=r.ch) hf (k+1) λj hj hh=>hv ⟨j,by omega,hh⟩] at hk
  exact h c ⟨k,hk⟩
theorem abQ {l:List Rw} {r x:Rw} (h:x∈tN l r):x∈l\/x=r:=by
 unfold tN at h
 split at h
 ·exact List.mem_or_eq_of_mem_set h
 ·simp only [List.mem_append,List.mem_singleton] at h
  rcases h with (h | h) | h
  ·exact .inl (br h)
  ·exact .inr h
  ·exact .inl (List.mem_of_mem_drop h)
theorem Hf: ∀{l:List Rw},yL YY l=true↔xr (l.map (·.ch))
 | []=>by simp [yL,xr]
 | [x]=>by simp [yL,xr]
 | x::y::l=>by
   have ih:=Hf (l:=y::l)
   simp only [yL,ad]
   rw [ih]
   simp only [bx,xr,List.pairwise_cons,YY,decide_eq_true_eq]
   constructor
   ·rintro ⟨h1,h2,b⟩
    refine ⟨λa c=> ?_,h2,b⟩
    rcases List.mem_cons.1 c with rfl | c
    ·exact h1
    ·exact Int.lt_trans h1 (h2 a c)
   ·rintro ⟨h1,h2,b⟩
    exact ⟨h1 _ bA,h2,b⟩
theorem EO {α:Type} {p q:α->Bool}: ∀{l:List α},(∀x∈l,p x=q x)->l.findIdx? p=l.findIdx? q
 | [],_=>rfl
 | x::l,h=>by
   rw [bB,bB,h x bA,EO λy a=>h y (List.mem_cons_of_mem _ a)]
theorem ZU {l:List Rw} (h:xr (l.map (·.ch))) (r:Rw):(tN l r).map (·.ch)=ace (l.map (·.ch)) r.ch:=by
 have hp:=QQ h r.ch
 unfold tN
 cases hi:l.findIdx? (EA r.ch) with
 | some i=>
   obtain ⟨b,hc,_⟩:=ao.1 hi
   have a:l[i].ch=r.ch:=by simpa [EA] using hc
   simp only
   have e:(l.set i r).map (·.ch)=l.map (·.ch):=by
    rw [List.map_set]
    apply bM
    intro j
    rw [bO]
    split
    ·rename_i hj;subst hj;simp [b,a]
    ·rfl
   rw [e]
   refine Qf h hp.1 λx=> ?_
   rw [hp.2]
   constructor
   ·exact .inl
   ·rintro (h | rfl)
    ·exact h
    ·exact aB.2 ⟨l[i],bR b,a⟩
 | none=>
   have c: ∀x∈l,x.ch≠r.ch:=by
    rw [a5] at hi
    intro x hx;simpa [EA] using hi x hx
   have d:Ur (l.map (·.ch)) r.ch=atR l r.ch:=by
    unfold Ur atR
    rw [List.findIdx?_map,bf]
    congr 1
    refine EO λx hx=> ?_
    have:=c x hx
    simp only [Function.comp]
    rw [bd]
    simp
    omega
   unfold ace
   rw [d,if_neg]
   ·simp [List.map_take,List.map_drop]
   ·intro hh
    have:=a1 hh
    obtain ⟨x,hx,he⟩:=aB.1 this
    exact c x hx he
theorem ua {l:List Rw} (h:mayR l=true):l.length<=2000/\(∀r∈l,OZ r=true)/\xr (l.map (·.ch))/\ ∀c,¬Abv l c c:=by
 unfold mayR at h
 simp only [ad,decide_eq_true_eq,al,a6,a7] at h
 obtain ⟨h1,⟨h2,a⟩,b⟩:=h
 refine ⟨h1,h2,Hf.1 a,λc hc=> ?_⟩
 have hk:c∈l.map (·.ch):=by
  obtain ⟨k,hk⟩:=hc
  apply YB
  rw [H6] at hk
  cases hu:TF l c with
  | none=>rw [hu] at hk;cases hk
  | some y=>rfl
 obtain ⟨r,hr,rfl⟩:=aB.1 hk
 exact b r hr ((DF _ _ _).2 hc)
theorem adx {l:List Rw} (h1:l.length<=2000) (h2: ∀r∈l,OZ r=true) (a:xr (l.map (·.ch))) (b: ∀c,¬Abv l c c):mayR l=true:=by
 unfold mayR
 simp only [ad,decide_eq_true_eq,al,a6,a7]
 exact ⟨h1,⟨h2,Hf.2 a⟩,λr hr=>by rw [DF];exact b _⟩
theorem acw {l:List Rw} {m:Mv} (h:mayR l=true) (hm:oneV m=true) (hb:ON l m=false) (hl:l.length+1<=2000):mayR (RA l m)=true:=by
 obtain ⟨h1,h2,b,c⟩:=ua h
 unfold ON at hb
 simp only [Bool.or_eq_false_iff,decide_eq_false_iff_not] at hb
 have hlen:=yt l m
 have a:RA l m=tN l (rowOf m):=by
  unfold RA
  rw [if_neg]
  unfold ON
  simp [hb]
 refine adx (by omega) (λr hr=> ?_) ?_ ?_
 ·rw [a] at hr
  rcases abQ hr with hr | rfl
  ·exact h2 r hr
  ·unfold oneV at hm
   simp only [ad] at hm
   exact hm.2
 ·rw [a,ZU b]
  exact (QQ b _).1
 ·rw [a]
  exact aaX c (λe=>hb.1.2 e) ((SS _ _ _).1 hb.2)
end Go.AM
namespace Go.AM
theorem acE {l:List Rw} {m:Mv} (h:ON l m=true):RA l m=l:=by unfold RA;rw [if_pos h]
end Go.AM
namespace Go.AM
def eK (K:List Int):IV:= .map (K.map λk=>[.int .i64 k,.bool true])
theorem Sv (k:Int): ∀(K:List Int) (i:Nat),∃r,vG (.int .i64 k) (K.map λk=>[IV.int .i64 k,.bool true]) i=some r/\((r=none/\k∉K)\/ ∃j,r=some (i+j,.bool true)/\K[j]? =some k)
 | [],i=>⟨none,rfl,.inl ⟨rfl,by simp⟩⟩
 | x::K,i=>by
   by_cases h:k=x
   ·subst h
    exact ⟨some (i,.bool true),by simp [vG,IT],.inr ⟨0,rfl,rfl⟩⟩
   ·obtain ⟨r,h1,h2⟩:=Sv k K (i+1)
    refine ⟨r,?_,?_⟩
    ·simp only [bx,vG,IT,if_true]
     rw [show (k==x)=false by simpa using h]
     exact h1
    ·rcases h2 with ⟨h2,a⟩ | ⟨j,h2,a⟩
     ·exact .inl ⟨h2,by simp [h,a]⟩
     ·exact .inr ⟨j+1,by rw [h2];congr 2;omega,by simpa using a⟩
theorem Vo (K:List Int) (k:Int):qD (.int .i64) (eK K) (.int .i64 k) (.bool true)=some (eK (GF K k)):=by
 obtain ⟨r,h1,h2⟩:=Sv k K 0
 unfold qD
 rw [if_pos (by simp [KG])]
 unfold Iy eK
 simp only
 rw [h1]
 rcases h2 with ⟨rfl,a⟩ | ⟨j,rfl,a⟩
 ·simp [GF,a]
 ·have hm:k∈K:=a1 a
  simp only [Option.bind_some,GF,List.contains_iff_mem,hm,if_true]
  congr 2
  apply bM
  intro i
  rw [bO]
  split
  ·rename_i e
   have hj:j < K.length:=(ab.1 a).1
   have:0+j=j:=by omega
   rw [this] at e
   subst e
   simp [hj,a]
   have:=(ab.1 a).2
   rw [this]
  ·rfl
theorem abq (K:List Int) (k:Int):yk (.int .i64) (eK K) (.int .i64 k) (.bool false)=some [.bool (K.contains k),.bool (K.contains k)]:=by
 obtain ⟨r,h1,h2⟩:=Sv k K 0
 unfold yk
 rw [if_pos (by simp [KG])]
 unfold LC eK
 simp only
 rw [h1]
 rcases h2 with ⟨rfl,a⟩ | ⟨j,rfl,a⟩
 ·simp [a]
 ·have hm:k∈K:=a1 a
  simp [hm]
theorem Yp (K:List Int):C6 (eK K)=some (.int .i64 K.length):=by
 unfold C6 eK;simp
end Go.AM
