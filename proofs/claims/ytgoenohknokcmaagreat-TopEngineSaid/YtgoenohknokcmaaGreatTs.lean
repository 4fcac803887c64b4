/- Rows as a graph: who is above whom, by steps; what a row that is set changes. No program is named here. -/
import Derived.Test.YtgoenohknokcmaaGreatTr
import Derived.Test.YtgoenohknokcmaaGreatAe
set_option linter.unusedVariables false
set_option linter.unusedSimpArgs false
namespace Go.AM
theorem Ua {l:List Rw} {x:Int} (h:(OU l x).isSome=true):x∈l.map (·.ch):=by
 rw [Ie] at h
 cases hf:fV l x with
 | none=>rw [hf] at h;cases h
 | some r=>
   have h1:=List.mem_of_find?_eq_some hf
   have h2:=List.find?_some hf
   have:r.ch=x:=by simpa [od] using h2
   exact List.mem_map.2 ⟨r,h1,this⟩
def ZR (l:List Rw) (a b:Int):Prop:= ∃k,nodeAt (OU l) (k+1) b=some a
theorem zh (l:List Rw) (a b:Int):td l a b=true↔ZR l a b:=by
 unfold td
 rw [contains_iff,AR]
 constructor
 ·rintro ⟨k,_,h⟩;exact ⟨k,h⟩
 ·rintro ⟨k,h⟩
  obtain ⟨j,h1,h2⟩:=AP (K:=l.map (·.ch)) (fun x hx=>Ua hx) k h
  exact ⟨j,by simpa using h1,h2⟩
theorem MP (l:List Rw) (a b:Int):td l a b=false↔ ¬ZR l a b:=by
 rw [<-zh];simp
theorem lx {l k:List Rw} {c:Int}:fV (l++k) c=(fV l c).or (fV k c):=List.find?_append
theorem Vg (l:List Rw) (r:Rw) (c:Int):fV (kj l r) c=if c=r.ch then some r else fV l c:=by
 unfold kj
 cases h:l.findIdx? (od r.ch) with
 | some i=>
   obtain ⟨hi,hp,hn⟩:=List.findIdx?_eq_some_iff_getElem.1 h
   simp only
   have hl:l=l.take i++l[i]::l.drop (i+1):=by rw [<-List.drop_eq_getElem_cons hi,List.take_append_drop]
   have hs:l.set i r=l.take i++r::l.drop (i+1):=by rw [List.set_eq_take_append_cons_drop];simp [hi]
   have hpre: ∀x∈l.take i,x.ch≠r.ch:=by
    intro x hx
    obtain ⟨j,hj,rfl⟩:=List.mem_iff_getElem.1 hx
    simp only [List.length_take] at hj
    have:=hn j (by omega)
    simpa [od] using this
   have hli:l[i].ch=r.ch:=by simpa [od] using hp
   by_cases hc:c=r.ch
   ·subst hc
    rw [if_pos rfl,hs,lx]
    have:fV (l.take i) r.ch=none:=List.find?_eq_none.2 fun x hx=>by simp [od,hpre x hx]
    rw [this]
    simp [fV,od]
   ·rw [if_neg hc,hs]
    conv=>rhs;rw [hl]
    rw [lx,lx]
    congr 1
    have e1:od c r=false:=by simp [od];exact fun e=>hc e.symm
    have e2:od c l[i]=false:=by simp [od,hli];exact fun e=>hc e.symm
    show List.find? (od c) (r::_)=List.find? (od c) (l[i]::_)
    rw [List.find?_cons,List.find?_cons,e1,e2]
 | none=>
   simp only
   have hno: ∀x∈l,x.ch≠r.ch:=by
    rw [List.findIdx?_eq_none_iff] at h
    intro x hx
    simpa [od] using h x hx
   rw [lx,lx]
   have hsplit:fV l c=(fV (l.take (atR l r.ch)) c).or (fV (l.drop (atR l r.ch)) c):=by
    rw [<-lx,List.take_append_drop]
   by_cases hc:c=r.ch
   ·subst hc
    have:fV (l.take (atR l r.ch)) r.ch=none:=List.find?_eq_none.2 fun x hx=>by simp [od,hno x (List.mem_of_mem_take hx)]
    rw [this]
    simp [fV,od]
   ·have e1:od c r=false:=by simp [od];exact fun e=>hc e.symm
    rw [if_neg hc,hsplit]
    simp [fV,List.find?_cons,e1]
theorem Ub (l:List Rw) (r:Rw) (c:Int):OU (kj l r) c=if c=r.ch then some r.par else OU l c:=by
 rw [Ie,Ie,Vg]
 split<;>rfl
theorem PS (f:Int->Option Int) (b:Int):nodeAt f 0 b=some b:=rfl
theorem F5 (f:Int->Option Int) (b:Int):nodeAt f 1 b=f b:=by
 have:=fe (f:=f) 0 (k:=1) (b:=b)
 simp only [nodeAt]
 cases f b<;>rfl
theorem Dx (f:Int->Option Int) (k:Nat) (b:Int):nodeAt f (k+1) b=(f b).bind (nodeAt f k):=by
 rw [Nat.add_comm,fe,F5]
theorem Dp (f:Int->Option Int) (k:Nat) (b:Int):nodeAt f (k+1) b=(nodeAt f k b).bind f:=by
 rw [fe]
 congr 1
 funext x
 exact F5 f x
theorem qt {f g:Int->Option Int} {c:Int} (h: ∀x,x≠c->f x=g x) {b:Int}: ∀k,(∀j,j < k->nodeAt f j b≠some c)->nodeAt f k b=nodeAt g k b
 | 0,_=>rfl
 | k+1,hk=>by
   rw [Dp,Dp,qt h k fun j hj=>hk j (by omega)]
   cases hg:nodeAt g k b with
   | none=>rfl
   | some x=>
     have:nodeAt f k b=some x:=by rw [qt h k fun j hj=>hk j (by omega)];exact hg
     have hx:x≠c:=fun e=>hk k (by omega) (by rw [this,e])
     exact h x hx
end Go.AM
namespace Go.AM
end Go.AM
namespace Go.AM
theorem LQ {O:List (List IV)->Option (List IV)} (h: ∀r:Rw,O [VA r]=some [.bool (Q8 r)]): ∀l:List Rw,(l.map VA).mapM (S4 O)=some (l.map Q8)
 | []=>rfl
 | r::l=>by
   have h1:S4 O (VA r)=some (Q8 r):=by
    unfold S4
    rw [h r]
   rw [List.map_cons,List.mapM_cons,h1,LQ h l]
   rfl
theorem Wq (l:List Rw):vN (fun i=>(l.map Q8).getD i false) (l.map Fb) 0=(l.all Q8&&s8 UB l):=by
 rw [Bool.eq_iff_iff,Ag,Bool.and_eq_true,AE]
 constructor
 ·intro h
  refine ⟨List.all_eq_true.2 fun r hr=> ?_,fun i x y hx hy=> ?_⟩
  ·obtain ⟨i,hi,rfl⟩:=List.mem_iff_getElem.1 hr
   have:=(h i (by simpa using hi)).1
   simpa [List.getD_eq_getElem?_getD,hi] using this
  ·have hi:=(List.getElem?_eq_some_iff.1 hy).1
   have:=(h (i+1) (by simpa using hi)).2 (Fb x) (Fb y) (by omega) (by simp [hx]) (by simp [hy])
   simpa [UB,Fb] using this
 ·rintro ⟨h1,h2⟩ j hj
  have hj':j < l.length:=by simpa using hj
  refine ⟨?_,fun p q h0 hp hq=> ?_⟩
  ·have:=List.all_eq_true.1 h1 l[j] (List.getElem_mem hj')
   simpa [List.getD_eq_getElem?_getD,hj'] using this
  ·rw [List.getElem?_map] at hp hq
   cases hx:l[j - 1]? with
   | none=>rw [hx] at hp;cases hp
   | some x=>
     cases hy:l[j]? with
     | none=>rw [hy] at hq;cases hq
     | some y=>
       rw [hx] at hp;rw [hy] at hq
       cases hp;cases hq
       have:=h2 (j - 1) x y hx (by rw [show j - 1+1=j by omega];exact hy)
       simpa [UB,Fb] using this
theorem RA {l:List Rw} (hl:l.length < 2 ^ 16) (ho:OKl l):zO (ar l)=some [.bool (mayR l)]:=by
 show UJ _ (ar l)=_
 unfold UJ
 simp only [List.length_map]
 rw [if_pos (by omega),CD ho,LQ fun r=>Ek r.ch r.par r.nm _]
 simp only [Option.bind_some,Option.map_some]
 congr 3
 unfold vd mayR
 rw [Wq,List.length_map]
 congr 2
 rw [Bool.eq_iff_iff,List.all_eq_true,Bool.not_eq_true',List.any_eq_false]
 constructor
 ·intro h r hr
  have h1:r.ch∈cA (l.map Fb):=(pN _ _).2 (by
   unfold lD
   rw [Option.isSome_map,List.find?_isSome]
   exact ⟨Fb r,List.mem_map.2 ⟨r,hr,rfl⟩,by simp [Fb]⟩)
  have:=h _ h1
  rw [C9] at this
  simpa using this
 ·intro h c hc
  rw [C9]
  have h2:=(pN _ _).1 hc
  unfold lD at h2
  rw [Option.isSome_map,List.find?_isSome] at h2
  obtain ⟨p,hp,he⟩:=h2
  obtain ⟨r,hr,rfl⟩:=List.mem_map.1 hp
  have e:r.ch=c:=by simpa [Fb] using he
  have:=h r hr
  rw [e] at this
  simpa using this
theorem least {P:Nat->Prop}: ∀n,P n-> ∃j,P j/\ ∀i,i < j-> ¬P i:=by
 intro n
 induction n using Nat.strongRecOn with
 | _ n ih=>
   intro h
   by_cases hh: ∃i,i < n/\P i
   ·obtain ⟨i,hi,hp⟩:=hh;exact ih i hi hp
   ·exact ⟨n,h,fun i hi hp=>hh ⟨i,hi,hp⟩⟩
theorem WE {l:List Rw} {r:Rw} (h: ∀c,¬ZR l c c) (h1:r.ch≠r.par) (h2: ¬ZR l r.ch r.par): ∀c,¬ZR (kj l r) c c:=by
 rintro c ⟨k,hk⟩
 have hf: ∀x,x≠r.ch->OU (kj l r) x=OU l x:=fun x hx=>by rw [Ub,if_neg hx]
 by_cases hv: ∃j,j<=k/\nodeAt (OU (kj l r)) j c=some r.ch
 ·obtain ⟨j,hj,hjc⟩:=hv
  have hrot:nodeAt (OU (kj l r)) (k+1) r.ch=some r.ch:=by
   have e1:nodeAt (OU (kj l r)) (j+(k+1)) c=nodeAt (OU (kj l r)) (k+1) r.ch:=by rw [fe,hjc];rfl
   have e2:nodeAt (OU (kj l r)) (j+(k+1)) c=some r.ch:=by rw [Nat.add_comm,fe,hk];exact hjc
   rw [<-e1,e2]
  rw [Dx,Ub,if_pos rfl] at hrot
  obtain ⟨i,hi,hmin⟩:=least (P:=fun i=>nodeAt (OU (kj l r)) i r.par=some r.ch) k hrot
  rw [qt (c:=r.ch) hf i hmin] at hi
  cases i with
  | zero=>rw [PS] at hi;exact h1 (Option.some.inj hi).symm
  | succ i=>exact h2 ⟨i,hi⟩
 ·rw [qt (c:=r.ch) hf (k+1) fun j hj hh=>hv ⟨j,by omega,hh⟩] at hk
  exact h c ⟨k,hk⟩
theorem WW {l:List Rw} {r x:Rw} (h:x∈kj l r):x∈l\/x=r:=by
 unfold kj at h
 split at h
 ·exact List.mem_or_eq_of_mem_set h
 ·simp only [List.mem_append,List.mem_singleton] at h
  rcases h with (h | h) | h
  ·exact .inl (List.mem_of_mem_take h)
  ·exact .inr h
  ·exact .inl (List.mem_of_mem_drop h)
theorem Dd: ∀{l:List Rw},s8 UB l=true↔uy (l.map (·.ch))
 | []=>by simp [s8,uy]
 | [x]=>by simp [s8,uy]
 | x::y::l=>by
   have ih:=Dd (l:=y::l)
   simp only [s8,Bool.and_eq_true]
   rw [ih]
   simp only [List.map_cons,uy,List.pairwise_cons,UB,decide_eq_true_eq]
   constructor
   ·rintro ⟨h1,h2,h3⟩
    refine ⟨fun a ha=> ?_,h2,h3⟩
    rcases List.mem_cons.1 ha with rfl | ha
    ·exact h1
    ·exact Int.lt_trans h1 (h2 a ha)
   ·rintro ⟨h1,h2,h3⟩
    exact ⟨h1 _ List.mem_cons_self,h2,h3⟩
theorem B2 {α:Type} {p q:α->Bool}: ∀{l:List α},(∀x∈l,p x=q x)->l.findIdx? p=l.findIdx? q
 | [],_=>rfl
 | x::l,h=>by
   rw [List.findIdx?_cons,List.findIdx?_cons,h x List.mem_cons_self,B2 fun y hy=>h y (List.mem_cons_of_mem _ hy)]
theorem UX {l:List Rw} (h:uy (l.map (·.ch))) (r:Rw):(kj l r).map (·.ch)=Wc (l.map (·.ch)) r.ch:=by
 have hp:=Ld h r.ch
 unfold kj
 cases hi:l.findIdx? (od r.ch) with
 | some i=>
   obtain ⟨hlt,hc,_⟩:=List.findIdx?_eq_some_iff_getElem.1 hi
   have hch:l[i].ch=r.ch:=by simpa [od] using hc
   simp only
   have e:(l.set i r).map (·.ch)=l.map (·.ch):=by
    rw [List.map_set]
    apply List.ext_getElem?
    intro j
    rw [List.getElem?_set]
    split
    ·rename_i hj;subst hj;simp [hlt,hch]
    ·rfl
   rw [e]
   refine Lw h hp.1 fun x=> ?_
   rw [hp.2]
   constructor
   ·exact .inl
   ·rintro (h | rfl)
    ·exact h
    ·exact List.mem_map.2 ⟨l[i],List.getElem_mem hlt,hch⟩
 | none=>
   have hno: ∀x∈l,x.ch≠r.ch:=by
    rw [List.findIdx?_eq_none_iff] at hi
    intro x hx;simpa [od] using hi x hx
   have ek:O2 (l.map (·.ch)) r.ch=atR l r.ch:=by
    unfold O2 atR
    rw [List.findIdx?_map,List.length_map]
    congr 1
    refine B2 fun x hx=> ?_
    have:=hno x hx
    simp only [Function.comp]
    rw [Bool.eq_iff_iff]
    simp
    omega
   unfold Wc
   rw [ek,if_neg]
   ·simp [List.map_take,List.map_drop]
   ·intro hh
    have:=List.mem_of_getElem? hh
    obtain ⟨x,hx,he⟩:=List.mem_map.1 this
    exact hno x hx he
theorem S9 {l:List Rw} (h:mayR l=true):l.length<=2000/\(∀r∈l,Q8 r=true)/\uy (l.map (·.ch))/\ ∀c,¬ZR l c c:=by
 unfold mayR at h
 simp only [Bool.and_eq_true,decide_eq_true_eq,List.all_eq_true,Bool.not_eq_true',List.any_eq_false] at h
 obtain ⟨h1,⟨h2,h3⟩,h4⟩:=h
 refine ⟨h1,h2,Dd.1 h3,fun c hc=> ?_⟩
 have hk:c∈l.map (·.ch):=by
  obtain ⟨k,hk⟩:=hc
  apply Ua
  rw [Dx] at hk
  cases hu:OU l c with
  | none=>rw [hu] at hk;cases hk
  | some y=>rfl
 obtain ⟨r,hr,rfl⟩:=List.mem_map.1 hk
 exact h4 r hr ((zh _ _ _).2 hc)
theorem Ye {l:List Rw} (h1:l.length<=2000) (h2: ∀r∈l,Q8 r=true) (h3:uy (l.map (·.ch))) (h4: ∀c,¬ZR l c c):mayR l=true:=by
 unfold mayR
 simp only [Bool.and_eq_true,decide_eq_true_eq,List.all_eq_true,Bool.not_eq_true',List.any_eq_false]
 exact ⟨h1,⟨h2,Dd.2 h3⟩,fun r hr=>by rw [zh];exact h4 _⟩
theorem XF {l:List Rw} {m:Mv} (h:mayR l=true) (hm:oneV m=true) (hb:xQ l m=false) (hl:l.length+1<=2000):mayR (yN l m)=true:=by
 obtain ⟨h1,h2,h3,h4⟩:=S9 h
 unfold xQ at hb
 simp only [Bool.or_eq_false_iff,decide_eq_false_iff_not] at hb
 have hlen:=p9 l m
 have hd:yN l m=kj l (rowOf m):=by
  unfold yN
  rw [if_neg]
  unfold xQ
  simp [hb]
 refine Ye (by omega) (fun r hr=> ?_) ?_ ?_
 ·rw [hd] at hr
  rcases WW hr with hr | rfl
  ·exact h2 r hr
  ·unfold oneV at hm
   simp only [Bool.and_eq_true] at hm
   exact hm.2
 ·rw [hd,UX h3]
  exact (Ld h3 _).1
 ·rw [hd]
  exact WE h4 (fun e=>hb.1.2 e) ((MP _ _ _).1 hb.2)
end Go.AM
namespace Go.AM
theorem Yq {l:List Rw} {m:Mv} (h:xQ l m=true):yN l m=l:=by unfold yN;rw [if_pos h]
end Go.AM
namespace Go.AM
def eK (K:List Int):IV:= .map (K.map fun k=>[.int .i64 k,.bool true])
theorem Ou (k:Int): ∀(K:List Int) (i:Nat),∃r,vP (.int .i64 k) (K.map fun k=>[IV.int .i64 k,.bool true]) i=some r/\((r=none/\k∉K)\/ ∃j,r=some (i+j,.bool true)/\K[j]? =some k)
 | [],i=>⟨none,rfl,.inl ⟨rfl,by simp⟩⟩
 | x::K,i=>by
   by_cases h:k=x
   ·subst h
    exact ⟨some (i,.bool true),by simp [vP,Ln],.inr ⟨0,rfl,rfl⟩⟩
   ·obtain ⟨r,h1,h2⟩:=Ou k K (i+1)
    refine ⟨r,?_,?_⟩
    ·simp only [List.map_cons,vP,Ln,if_true]
     rw [show (k==x)=false by simpa using h]
     exact h1
    ·rcases h2 with ⟨h2,h3⟩ | ⟨j,h2,h3⟩
     ·exact .inl ⟨h2,by simp [h,h3]⟩
     ·exact .inr ⟨j+1,by rw [h2];congr 2;omega,by simpa using h3⟩
theorem Qz (K:List Int) (k:Int):zH (.int .i64) (eK K) (.int .i64 k) (.bool true)=some (eK (CV K k)):=by
 obtain ⟨r,h1,h2⟩:=Ou k K 0
 unfold zH
 rw [if_pos (by simp [QP])]
 unfold L3 eK
 simp only
 rw [h1]
 rcases h2 with ⟨rfl,h3⟩ | ⟨j,rfl,h3⟩
 ·simp [CV,h3]
 ·have hm:k∈K:=List.mem_of_getElem? h3
  simp only [Option.bind_some,CV,List.contains_iff_mem,hm,if_true]
  congr 2
  apply List.ext_getElem?
  intro i
  rw [List.getElem?_set]
  split
  ·rename_i e
   have hj:j < K.length:=(List.getElem?_eq_some_iff.1 h3).1
   have:0+j=j:=by omega
   rw [this] at e
   subst e
   simp [hj,h3]
   have:=(List.getElem?_eq_some_iff.1 h3).2
   rw [this]
  ·rfl
theorem Xk (K:List Int) (k:Int):Ci (.int .i64) (eK K) (.int .i64 k) (.bool false)=some [.bool (K.contains k),.bool (K.contains k)]:=by
 obtain ⟨r,h1,h2⟩:=Ou k K 0
 unfold Ci
 rw [if_pos (by simp [QP])]
 unfold LA eK
 simp only
 rw [h1]
 rcases h2 with ⟨rfl,h3⟩ | ⟨j,rfl,h3⟩
 ·simp [h3]
 ·have hm:k∈K:=List.mem_of_getElem? h3
  simp [hm]
theorem Uj (K:List Int):DM (eK K)=some (.int .i64 K.length):=by
 unfold DM eK;simp
end Go.AM
