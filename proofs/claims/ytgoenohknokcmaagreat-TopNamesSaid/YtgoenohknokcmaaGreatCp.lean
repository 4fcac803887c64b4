/- Files, plainly: parts behind their lengths; ranks. -/
import Derived.Test.YtgoenohknokcmaaGreatCo
import Derived.Test.YtgoenohknokcmaaGreatCk
open Option renaming bind_some->ad,map_some->b0
open List renaming getElem?_eq_getElem->al,length_map->aB,length_append->a1,mem_of_getElem?->a2,replicate->a6,append_assoc->a7,getElem?_eq_some_iff->bb,mem_cons->bm,length_take->br,mem_map->bs,not_mem_nil->bx,mem_of_mem_take->bA,length_filter_le->bC,take_append_drop->bM,length_cons->bO,length_nil->b1,take_of_length_le->b3,getElem?_map->b4,map_cons->b7,idxOf_lt_length_of_mem->ca,map_nil->cb,drop_eq_getElem_cons->cc,pairwise_iff_getElem->cd,nodup_append->ck,flatMap_cons->cl,map_take->cO,length->c0,flatMap_nil->c5,append_nil->c6,mem_cons_of_mem->c7,mem_of_mem_drop->c8,flatMap_append->c9,pairwise_cons->dd,foldl_append->dq,idxOf_append->ds,filter_cons->eg,length_drop->et,mem_filter->eW,foldl_cons->eZ,nil_append->e1,map_append->e2,take_left->e5,map_drop->e7
open Go.IntKind renaming u32->a5
open BitVec renaming ofInt->a8
open Bool renaming not_true->bd,and_eq_true->b5,not_false->e4
open Nat renaming lt_trans->bf,le_refl->cv,mod_eq_of_lt->ek,lt_succ_self->eP,one_pos->e3,mod_lt->e6,mul_comm->e8
open Int renaming toNat_of_nonneg->bB
open Go.ByteArray renaming toList_eq->bR
set_option linter.unusedVariables false
set_option linter.unusedSimpArgs false
namespace Go.AM
def partL (s:Byt):Byt:=aJ s.length++s
theorem cK {s:Byt} (h:s.length < 2 ^ 60):(partL s).length<=s.length+10:=by
 have:=aM (n:=s.length) (by omega)
 simp [partL];omega
theorem nK {s:Byt} (h:s.length < 2 ^ 40):bK (B s)=some [B (partL s)]:=by
 have hl:=aM (n:=s.length) (by omega)
 unfold bK
 simp only [ja,ad,dT (show s.length < 2 ^ 64 by omega),dC (show s.length < 2 ^ 64 by omega),af,M6 (a:=aJ s.length) (b:=s) (by omega)]
 rfl
theorem Ip {s:Byt} (h:s.length < 2 ^ 40):uF (B s)=some [B (partL s)]:=nK h
theorem Li {n:Nat} (h:n < 2 ^ 64) (s t:Byt) (e:s=aJ n++t):az (B s) (.int .i64 0)=some [B t,.int .i64 0,.int .u64 (n:Int)]:=by subst e;exact pT h t
theorem drop2 (a b c:IV):([a,b,c]:List IV).drop 2=[c]:=rfl
theorem tX:aa .neq (.int .i64 0) (.int .i64 0)=some (.bool false):=rfl
theorem jP (s:Byt):cg (B s)=some [B s,.int .i64 0]:=rfl
theorem tu {s t:Byt} {k:IntKind} (n:Nat) (h:n=s.length):ea (B (s++t)) (some (.int k (n:Int))) none=some (B t):=by
 subst h
 rw [Be (by simp),List.drop_left]
theorem py {a b:Byt} (h:a.length+b.length < 2 ^ 40):bI (B (partL a++b))=some [B a,B b,.int .i64 0]:=by
 have c:=Li (n:=a.length) (by omega) (partL a++b) (a++b) (by simp [partL])
 have hl:=aM (n:=a.length) (by omega)
 have h1: ¬(((a++b).length:Int) < (a.length:Int)):=by simp;omega
 have d:=yC a b (a.length:Int) rfl
 have hs:aa .sub (.int .i64 ((partL a++b).length:Int)) (.int .i64 (b.length:Int))=some (.int .i64 ((partL a).length:Int)):=by
  rw [mM (by simp) (by simp [partL];omega)];congr 2;simp
 unfold bI
 simp only [jP,c,ad,af,ai,tP,tX,ag,pQ,drop2,dT (show (a++b).length < 2 ^ 64 by simp;omega),aR,h1,decide_false,fA (show a.length < 2 ^ 63 by omega),d,ja,hs,tu (partL a).length rfl]
 rfl
theorem ac8:cw (.int .i64 0)=some []:=rfl
theorem xY {a b:Byt} (h:a.length+b.length < 2 ^ 40):lU (B (partL a++b))=some [B a,B b]:=by
 unfold lU
 rw [py h];rfl
def pg (w:Nat):Bool:=decide (w≠0)
def ranksL (l:List Nat):Byt:=partL (rZ (l.map pg))++so (l.filter pg)
theorem SE {α:Type} (a:List α) (k:Nat) (z x:α):(a++a6 (k+1) z).set a.length x=a++[x]++a6 k z:=by
 rw [List.set_append_right _ _ (cv _)]
 simp [List.replicate_succ]
theorem Lw {α:Type} {enc:α->List IV} {l:List α} {i:Nat} {x:α} {v:IV} (hi:i < l.length) (he: ∀y,(enc y).length=1) (hv:enc x=[v]):r8 (.lst (l.map enc)) i 0 [v]=some (.lst ((l.set i x).map enc)):=by
 have hx:=al hi
 generalize l[i]=y at hx
 simp only [r8,b4,hx,b0,ad]
 rw [if_pos (by rw [he];simp)]
 have:setCells (enc y) 0 [v]=enc x:=by
  have:=he y
  cases a:enc y with
  | nil=>rw [a] at this;simp at this
  | cons c cs=>rw [a] at this;simp at this;subst this;rw [hv];rfl
 rw [this,List.map_set]
theorem Mt {l:List Nat} (hl:l.length<=4096):(ranksL l).length<=2 ^ 17:=by
 have h1:=Eo (l:=l.map pg) (by simp;omega)
 have h2:=Es (ns:=l.filter pg)
 have a:=bC pg l
 have b:=cK (s:=rZ (l.map pg)) (by simp at h1;omega)
 simp at h1
 simp only [ranksL,a1]
 omega
theorem vA {l:List Nat} (hl:l.length<=4096) (h: ∀w∈l,CanW w):fL (qV l)=some [B (ranksL l)]:=by
 have g:lr 1 [.bool false] (.int .i64 (l.length:Int)) (.int .i64 (l.length:Int))=some (uN (a6 l.length false)):=by
  simp only [lr]
  rw [if_pos ⟨trivial,by omega,by simp;omega⟩]
  simp [eBl]
 unfold fL
 simp only [ax,ad,aB,g]
 rw [aN (λi=>[uN ((l.take i).map pg++a6 (l.length - i) false),qV ((l.take i).filter pg),.int .i64 (i:Int)]) l.length 0 [uN (l.map pg),qV (l.filter pg)] (by simp) (by omega) (λi hi=> ?_) (by
  unfold pE
  simp)]
 ·have h1:=Eo (l:=l.map pg) (by simp;omega)
  have h2:=Es (ns:=l.filter pg)
  have r:=bC pg l
  have t:=cK (s:=rZ (l.map pg)) (by simp at h1;omega)
  simp only [aB] at h1
  have p:=JA (l:=l.map pg) (by simp;omega)
  have q:=JK (ns:=l.filter pg) (by omega) λn hn=>h n (eW.1 hn).1
  simp only [ad,aW,af,ai,p,nK (s:=rZ (l.map pg)) (by omega),q,M6 (a:=partL (rZ (l.map pg))) (b:=so (l.filter pg)) (by omega)]
  rfl
 ·have hx:=al hi
  generalize l[i]=w at hx
  obtain ⟨m,o⟩:=UU hx
  have hc:=h w (a2 hx)
  have f:((i:Int) < (l.length:Int)):=by omega
  have k:=pM hc.lt
  rw [hc.can] at k
  have hlen:((l.take i).map pg++a6 (l.length - i) false).length=l.length:=by simp;omega
  have d:=Lw (enc:=eBl) (l:=(l.take i).map pg++a6 (l.length - i) false) (i:=i) (x:=pg w) (v:= .bool (pg w)) (by omega) (λ_=>rfl) rfl
  have c:=SE ((l.take i).map pg) (l.length - (i+1)) false (pg w)
  rw [show ((l.take i).map pg).length=i by simp;omega,show l.length - (i+1)+1=l.length - i by omega] at c
  rw [c] at d
  have e:dh (uN ((l.take i).map pg++[pg w]++a6 (l.length - (i+1)) false)) i 0=some (.bool (pg w)):=by
   refine (Ye ?_).2
   rw [a7,List.getElem?_append_right (by simp;omega)]
   simp [show i - min i l.length=0 by omega]
  have j:aa .neq (.int .u64 (w:Int)) (.int .u64 0)=some (.bool (pg w)):=by
   rw [eb];congr 2;unfold pg;simp
  unfold pE
  simp only [af,ai,aA,an,f,decide_true,ah,ad,m,o,k,j,bZ,aB,hlen,dj hi,d,e,au (show i < 2 ^ 62 by omega),Fo (l:=(l.take i).filter pg) (show ((l.take i).filter pg).length < 2 ^ 20 by have:=bC pg (l.take i);simp at this;omega),bn hx]
  cases hw:pg w<;>simp [hw]
theorem Za {l:List Nat} {i w:Nat} (hx:l[i]? =some w):(l.drop i).filter pg=if pg w=true then w::(l.drop (i+1)).filter pg else (l.drop (i+1)).filter pg:=by
 have hi:=(bb.1 hx).1
 rw [cc hi,(bb.1 hx).2,eg]
theorem acC (l:List Nat):Ou (l.map pg)=(l.filter pg).length:=by
 unfold Ou
 induction l with
 | nil=>rfl
 | cons x l ih=>simp only [b7,eg];cases pg x<;>simp_all
theorem aco {x:Nat} {l:List Nat}:ly 1 (qV (x::l)) (some (.int .i64 1)) none=some (qV l):=by
 simp only [ly]
 rw [if_pos (by simp [eFl])]
 have:=Bm (n:=((x::l).map eFl).length) (i:=1) (k:= .i64) (by simp)
 rw [show ((1:Nat):Int)=1 from rfl] at this
 rw [this,ad]
 simp [b3]
theorem uJ {l:List Nat} (hl:l.length<=4096) (h: ∀w∈l,CanW w):av (B (ranksL l)) (.int .i64 (l.length:Int))=some [qV l,.int .i64 0]:=by
 have h1:=Eo (l:=l.map pg) (by simp;omega)
 have h2:=Es (ns:=l.filter pg)
 have v:=bC pg l
 simp only [aB] at h1
 have d:=xY (a:=rZ (l.map pg)) (b:=so (l.filter pg)) (by omega)
 have p:=Jc (l:=l.map pg) (by simp;omega)
 have o:=LM (l:=l.map pg) (by simp;omega)
 rw [acC] at o
 have u:=J1 (ns:=l.filter pg) (by omega) λn hn=>h n (eW.1 hn).1
 simp only [aB] at p
 have g:rq (uN (l.map pg)) (.int .i64 0)=some [uN (l.map pg)]:=rfl
 have f:kW (qV (l.filter pg)) (.int .i64 0)=some [qV (l.filter pg)]:=rfl
 unfold av ranksL
 simp only [d,ad,af,ai,p,g,o,u,f,ax,aB]
 rw [aN (λi=>[qV (l.take i),qV ((l.drop i).filter pg),.int .i64 (i:Int)]) l.length 0 [qV l] (by simp) (by omega) (λi hi=> ?_) (by
  unfold cD
  simp)]
 ·simp only [ad,aW,af,tX,ag]
 ·have hx:=al hi
  generalize l[i]=w at hx
  have hc:=h w (a2 hx)
  have j:((i:Int) < (l.length:Int)):=by omega
  have m:(l.map pg)[i]? =some (pg w):=by rw [b4,hx];rfl
  obtain ⟨r,s⟩:=Ye m
  have c:= λx=>Fo (l:=l.take i) (x:=x) (show (l.take i).length < 2 ^ 20 by simp;omega)
  rw [Za hx]
  unfold cD
  simp only [af,ai,aA,an,j,decide_true,ah,ad,r,s,au (show i < 2 ^ 62 by omega),bn hx,c]
  cases hw:pg w with
  | true=>
    have k:w≠0:=of_decide_eq_true hw
    obtain ⟨t,b2⟩:=UU (l:=w::(l.drop (i+1)).filter pg) (i:=0) rfl
    have e:aK (qV (w::(l.drop (i+1)).filter pg)) (.int .i64 0) 1=some 0:=t
    have q:=Td hc.lt (show (0:Nat) < 2 ^ 64 by decide)
    rw [hc.can,show bitsN 0=0 from rfl,decide_eq_false k] at q
    simp only [if_true,ah,e,b2,aco,ad,q,af,ag,c]
  | false=>
    have hz:w=0:=by
     have:=of_decide_eq_false hw
     simpa using this
    subst hz
    simp only [Bool.false_eq_true,if_false,ag]
end Go.AM
namespace Go.AM
def eS (s:Byt):List IV:=[B s]
abbrev D6 (l:List Byt):IV:= .lst (l.map eS)
theorem aaM {l:List Byt} {i:Nat} {x:Byt} (h:l[i]? =some x):aK (D6 l) (.int .i64 (i:Int)) 1=some i/\dh (D6 l) i 0=some (B x):=
 ⟨dY h rfl (by decide),by rw [cf h];rfl⟩
theorem S5 {l:List Byt} {x:Byt} (hl:l.length < 2 ^ 20):bS 1 16 (D6 l) (.lst [[B x]])=some (D6 (l++[x])):=by
 simp only [bS]
 rw [if_pos ⟨by simp;omega,by simp⟩]
 simp [eS]
theorem adG (a b:Byt):IT (B a) (B b)=some (decide (a=b)):=by
 have:((⟨a.toArray⟩:ByteArray)==⟨b.toArray⟩)=decide (a=b):=by
  rw [Bool.eq_iff_iff,MapKept.bytes_beq,decide_eq_true_iff]
  constructor
  ·intro e;injection e with e;simpa using e
  ·rintro rfl;rfl
 simp only [IT,B,this]
def oQ (v:Nat->IV):Nat->List Byt->List (List IV)
 | _,[]=>[]
 | k,s::W=>[B s,v k]::oQ v (k+1) W
theorem Wn (v:Nat->IV): ∀(W:List Byt) (k:Nat),(oQ v k W).length=W.length
 | [],_=>rfl
 | s::W,k=>by simp [oQ,Wn v W]
theorem yr (v:Nat->IV) (s:Byt): ∀(W:List Byt) (k i:Nat),vG (B s) (oQ v k W) i=some (if s∈W then some (i+W.idxOf s,v (k+W.idxOf s)) else none)
 | [],k,i=>by simp [oQ,vG]
 | t::W,k,i=>by
   simp only [oQ,vG,adG]
   by_cases h:s=t
   ·subst h;simp
   ·simp only [decide_eq_false h]
    rw [yr v s W (k+1) (i+1)]
    have h2:(t==s)=false:=beq_false_of_ne λe=>h e.symm
    by_cases hm:s∈W
    ·simp [h,hm,List.idxOf_cons,h2]
     constructor
     ·omega
     ·congr 1;omega
    ·simp [h,hm]
theorem GI (v:Nat->IV) (s:Byt): ∀(W:List Byt) (k:Nat),oQ v k (W++[s])=oQ v k W++[[B s,v (k+W.length)]]
 | [],k=>by simp [oQ]
 | t::W,k=>by
   simp only [List.cons_append,oQ]
   rw [GI v s W (k+1)]
   simp;congr 1;omega
def yF (W:List Byt) (s:Byt):List Byt:=if s∈W then W else W++[s]
def ar (l:List Byt):List Byt:=l.foldl yF []
theorem abi (W:List Byt) (s:Byt): ∃R,yF W s=W++R:=by
 unfold yF;split
 ·exact ⟨[],by simp⟩
 ·exact ⟨_,rfl⟩
theorem Q4: ∀(l W:List Byt),∃R,l.foldl yF W=W++R
 | [],W=>⟨[],by simp⟩
 | s::l,W=>by
   obtain ⟨R,h⟩:=Q4 l (yF W s)
   obtain ⟨Q,h2⟩:=abi W s
   exact ⟨Q++R,by rw [eZ,h,h2,a7]⟩
theorem WE (l:List Byt) (i:Nat): ∃R,ar l=ar (l.take i)++R:=by
 unfold ar
 conv=>enter [1,R];lhs;rw [<-bM i l,dq]
 exact Q4 _ _
theorem yJ {l:List Byt} {i:Nat} {s:Byt} (h:l[i]? =some s):ar (l.take (i+1))=yF (ar (l.take i)) s:=by
 unfold ar;rw [bn h,dq];rfl
theorem Uo (l:List Byt):(ar l).Nodup:=by
 have: ∀(l W:List Byt),W.Nodup->(l.foldl yF W).Nodup:=by
  intro l
  induction l with
  | nil=>intro W h;exact h
  | cons s l ih=>
    intro W h
    refine ih _ ?_
    unfold yF;split
    ·exact h
    ·rename_i hs
     rw [ck]
     refine ⟨h,by simp,?_⟩
     intro a c b hb
     simp at hb;subst hb
     exact λe=>hs (e▸c)
 exact this l [] (by simp)
theorem qR (l:List Byt): ∀s,s∈ar l↔s∈l:=by
 have: ∀(l W:List Byt) (s:Byt),s∈l.foldl yF W↔s∈W\/s∈l:=by
  intro l
  induction l with
  | nil=>intro W s;simp
  | cons t l ih=>
    intro W s
    rw [eZ,ih]
    unfold yF;split
    ·rename_i h
     constructor
     ·rintro (h1 | h1)
      ·exact .inl h1
      ·exact .inr (c7 _ h1)
     ·rintro (h1 | h1)
      ·exact .inl h1
      ·rcases bm.1 h1 with rfl | h1
       ·exact .inl h
       ·exact .inr h1
    ·simp [or_assoc]
 intro s
 have:=this l [] s
 simpa [ar] using this
theorem oZ (l:List Byt):(ar l).length<=l.length:=by
 have: ∀(l W:List Byt),(l.foldl yF W).length<=W.length+l.length:=by
  intro l
  induction l with
  | nil=>intro W;simp
  | cons s l ih=>
    intro W
    have:=ih (yF W s)
    have h2:(yF W s).length<=W.length+1:=by unfold yF;split<;>simp
    simp;omega
 simpa [ar] using this l []
def oB (l:List Byt) (s:Byt):Nat:=(ar l).idxOf s
theorem Xw {l:List Byt} {s:Byt} (h:s∈l):oB l s < (ar l).length:=ca ((qR l s).2 h)
theorem LB {l:List Byt} {i:Nat} {s:Byt} (h:s∈ar (l.take i)):(ar (l.take i)).idxOf s=oB l s:=by
 obtain ⟨R,a⟩:=WE l i
 unfold oB
 rw [a,ds,if_pos h]
theorem Yv {l:List Byt} {i:Nat} {s:Byt} (hx:l[i]? =some s) (h:s∉ar (l.take i)):oB l s=(ar (l.take i)).length:=by
 have hm:s∈ar (l.take (i+1)):=by rw [yJ hx];unfold yF;rw [if_neg h];simp
 rw [<-LB hm,yJ hx]
 unfold yF
 rw [if_neg h,ds,if_neg h];simp
theorem Oi {l:List Byt} (hl:l.length<=4096):qh (D6 l)=some [D6 (ar l),NO (l.map (oB l))]:=by
 have j:lr 8 [.int .u64 0] (.int .i64 (l.length:Int)) (.int .i64 (l.length:Int))=some (NO (a6 l.length 0)):=by
  simp only [lr]
  rw [if_pos ⟨trivial,by omega,by simp;omega⟩]
  simp [eU]
 unfold qh
 simp only [ax,ad,aB,j]
 rw [aN (λi=>[.map (oQ (λk=> .int .u64 (k:Int)) 0 (ar (l.take i))),D6 (ar (l.take i)),NO ((l.take i).map (oB l)++a6 (l.length - i) 0),.int .i64 (i:Int)]) l.length 0 [D6 (ar l),NO (l.map (oB l))] (by simp [ar,oQ]) (by omega) (λi hi=> ?_) (by
  unfold wm
  simp)]
 ·rfl
 ·have hx:=al hi
  generalize l[i]=s at hx
  obtain ⟨n,o⟩:=aaM hx
  have g:((i:Int) < (l.length:Int)):=by omega
  have hlen:((l.take i).map (oB l)++a6 (l.length - i) 0).length=l.length:=by simp;omega
  have a:=Lw (enc:=eU) (l:=(l.take i).map (oB l)++a6 (l.length - i) 0) (i:=i) (x:=oB l s) (v:= .int .u64 (oB l s:Int)) (by omega) (λ_=>rfl) rfl
  have c:=SE ((l.take i).map (oB l)) (l.length - (i+1)) 0 (oB l s)
  rw [show ((l.take i).map (oB l)).length=i by simp;omega,show l.length - (i+1)+1=l.length - i by omega] at c
  rw [c] at a
  have f:(l.take (i+1)).map (oB l)=(l.take i).map (oB l)++[oB l s]:=by rw [bn hx];simp
  have m:=oZ (l.take i)
  simp only [br] at m
  have e:yk .str (.map (oQ (λk=> .int .u64 (k:Int)) 0 (ar (l.take i)))) (B s) (.int .u64 0)=some (if s∈ar (l.take i) then [.int .u64 (oB l s:Int),.bool true] else [.int .u64 0,.bool false]):=by
   unfold yk
   rw [if_pos (show KG .str (B s)=true from rfl)]
   simp only [LC,yr,b0]
   by_cases h:s∈ar (l.take i)
   ·simp [h,LB h]
   ·simp [h]
  rw [f,yJ hx]
  unfold wm
  simp only [af,ai,aA,aD,an,g,decide_true,ah,ad,n,o,e]
  by_cases h:s∈ar (l.take i)
  ·simp only [h,if_true,ai,af,aY,bd,ag,ad,bZ,aB,hlen,dj hi,a,au (show i < 2 ^ 62 by omega),yF]
  ·have b:=Yv hx h
   have d:qD .str (.map (oQ (λk=> .int .u64 (k:Int)) 0 (ar (l.take i)))) (B s) (.int .u64 (oB l s:Int))=some (.map (oQ (λk=> .int .u64 (k:Int)) 0 (ar (l.take i)++[s]))):=by
    unfold qD
    rw [if_pos (show KG .str (B s)=true from rfl)]
    simp only [Iy,yr,h,if_false,ad]
    rw [GI,b];simp
   rw [b] at d a
   simp only [h,if_false,ai,af,aY,e4,ah,ad,bZ,aB,dT (show (ar (l.take i)).length < 2 ^ 64 by omega),d,S5 (show (ar (l.take i)).length < 2 ^ 20 by omega),hlen,dj hi,a,au (show i < 2 ^ 62 by omega),yF,b]
def D8 (l:List Byt):Prop:= ∀s∈l,s.length<=64/\xO ⟨s.toArray⟩=true
def dictL (l:List Byt):Byt:=aJ (ar l).length++((ar l).flatMap partL++pX (l.map (oB l)))
theorem Nd {l:List Byt} (hl:l.length<=4096): ∀x∈l.map (oB l),x < 2 ^ 64:= λx hx=>by
 obtain ⟨s,hs,rfl⟩:=bs.1 hx
 have:=Xw hs;have:=oZ l;omega
theorem xV {l:List Byt} (h:D8 l) (W:List Byt) (a: ∀s∈W,s∈l):(W.flatMap partL).length<=74*W.length:=
 fj (k:=74) λs hs=>by
  have h1:=(h s (a s hs)).1
  have:=cK (s:=s) (by omega)
  omega
theorem Hi {l:List Byt} (hl:l.length<=4096) (h:D8 l):(dictL l).length<=2 ^ 19:=by
 have h1:=xV h (ar l) λs hs=>(qR l s).1 hs
 have h2:=oZ l
 have b:=aM (n:=(ar l).length) (by omega)
 have a:=B8 (l:=l.map (oB l)) (by simp;omega) (Nd hl)
 simp only [aB] at a
 simp only [dictL,a1]
 omega
theorem BE {l:List Byt} (hl:l.length<=4096) (h:D8 l):k8 (D6 l)=some [B (dictL l)]:=by
 have h2:=oZ l
 have o:=aM (n:=(ar l).length) (by omega)
 have j:=B8 (l:=l.map (oB l)) (by simp;omega) (Nd hl)
 simp only [aB] at j
 have d:=oI (x:= .nilp) (a:=[]) (b:=aJ (ar l).length) (by simp;omega)
 simp only [cb,e1] at d
 unfold k8
 simp only [Oi hl,ad,af,ai,ax,aB,dT (show (ar l).length < 2 ^ 64 by omega),dC (show (ar l).length < 2 ^ 64 by omega),d]
 rw [aN (λi=>[.nilp,.lst ((aJ (ar l).length++((ar l).take i).flatMap partL).map eB),.int .i64 (i:Int)]) (ar l).length 0 [.nilp,.lst ((aJ (ar l).length++(ar l).flatMap partL).map eB)] (by simp) (by omega) (λi hi=> ?_) (by
  unfold tz
  simp)]
 ·have k:=Bl (l:=l.map (oB l)) (by simp;omega) (Nd hl)
  have c:=xV h (ar l) λs hs=>(qR l s).1 hs
  have hw:=oI (x:= .nilp) (a:=aJ (ar l).length++(ar l).flatMap partL) (b:=pX (l.map (oB l))) (by rw [a1];omega)
  simp only [ad,aW,ai,af,k,hw,mD]
  unfold dictL
  rw [a7];rfl
 ·have hx:=al hi
  generalize (ar l)[i]=s at hx
  obtain ⟨f,g⟩:=aaM hx
  have e:((i:Int) < ((ar l).length:Int)):=by omega
  have hs:=(h s ((qR l s).1 (a2 hx))).1
  have c:=xV h ((ar l).take i) λs hs=>(qR l s).1 (bA hs)
  simp only [br] at c
  have m:=cK (s:=s) (by omega)
  have hw:=oI (x:= .nilp) (a:=aJ (ar l).length++((ar l).take i).flatMap partL) (b:=partL s) (by rw [a1];omega)
  unfold tz
  simp only [af,ai,aA,an,e,decide_true,ah,ad,f,g,Ip (s:=s) (by omega),hw,au (show i < 2 ^ 62 by omega),mN hx,a7]
theorem EN {p s t:Byt} (hs:s.length<=64) (hv:xO ⟨s.toArray⟩=true) (h:p.length+t.length < 2 ^ 40):o5 (B (p++(partL s++t))) (.int .i64 (p.length:Int)) (.int .i64 64)=some [B s,.int .i64 ((p++partL s).length:Int),.int .i64 0]:=by
 have l:=cK (s:=s) (by omega)
 have e0: ¬((p.length:Int) < 0):=by omega
 have d: ¬(((p++(partL s++t)).length:Int) < (p.length:Int)):=by simp;omega
 have j:=Li (n:=s.length) (by omega) (partL s++t) (s++t) (by simp [partL])
 have e: ¬((64:Int) < 0):=by decide
 have f:bE .u64 (.int .i64 64)=some (.int .u64 64):=rfl
 have g: ¬((64:Int) < (s.length:Int)):=by omega
 have i: ¬(((s++t).length:Int) < (s.length:Int)):=by simp;omega
 have k:=yC s t (s.length:Int) rfl
 have c:=nz (s:=⟨s.toArray⟩) (by rw [wM];omega)
 rw [hv] at c
 have b:dU (B s)=some [.bool true]:=c
 have a:aa .sub (.int .i64 ((p++(partL s++t)).length:Int)) (.int .i64 (t.length:Int))=some (.int .i64 ((p++partL s).length:Int)):=by
  rw [mM (by simp;omega) (by simp;omega)];congr 2;simp only [a1];omega
 unfold o5
 simp only [an,e0,decide_false,ad,ag,ja,aR,d,af,tu p.length rfl,jP,ai,j,tP,tX,e,f,drop2,g,pQ,dT (show (s++t).length < 2 ^ 64 by simp;omega),i,fA (show s.length < 2 ^ 63 by omega),k,b,aY,bd,a]
 rfl
theorem UA {l:List Byt} (hl:l.length<=4096):uO (D6 (ar l)) (NO (l.map (oB l)))=some [.bool true]:=by
 have h2:=oZ l
 unfold uO
 simp only [ax,ad,aB]
 rw [aN (λi=>[.int .u64 ((ar (l.take i)).length:Int),.int .i64 (i:Int)]) l.length 0 [.int .u64 ((ar l).length:Int)] (by simp [ar]) (by omega) (λi hi=> ?_) (by
  unfold Bf
  simp)]
 ·simp only [ad,aW]
  rw [aN (λi=>[.map (oQ (λ_=> .bool true) 0 ((ar l).take i)),.int .i64 (i:Int)]) (ar l).length 0 [.map (oQ (λ_=> .bool true) 0 (ar l))] (by simp [oQ]) (by omega) (λi hi=> ?_) (by
   unfold yy
   simp)]
  ·simp only [ad,aW,af,dT (show (ar l).length < 2 ^ 64 by omega),db,decide_true,ah,C6,Wn,fR,eh,b0]
  ·have hx:=al hi
   generalize (ar l)[i]=s at hx
   obtain ⟨f,g⟩:=aaM hx
   have a:((i:Int) < ((ar l).length:Int)):=by omega
   have hnm:s∉(ar l).take i:=by
    have d:=Uo l
    rw [<-bM (i+1) (ar l),bn hx] at d
    have j:=(ck.1 (ck.1 d).1).2.2
    intro hm
    exact j s hm s (by simp) rfl
   have e:qD .str (.map (oQ (λ_=> .bool true) 0 ((ar l).take i))) (B s) (.bool true)=some (.map (oQ (λ_=> .bool true) 0 ((ar l).take (i+1)))):=by
    unfold qD
    rw [if_pos (show KG .str (B s)=true from rfl)]
    simp only [Iy,yr,hnm,if_false,ad]
    rw [bn hx,GI]
   unfold yy
   simp only [af,ai,an,a,decide_true,ah,ad,f,g,e,au (show i < 2 ^ 62 by omega)]
 ·have hx:=al hi
  generalize l[i]=s at hx
  have n:(l.map (oB l))[i]? =some (oB l s):=by rw [b4,hx];rfl
  obtain ⟨f,g⟩:=ac3 n
  have a:((i:Int) < (l.length:Int)):=by omega
  have q:=Xw (a2 hx)
  have m:=oZ (l.take i)
  simp only [br] at m
  have hle:oB l s<=(ar (l.take i)).length/\(ar (l.take (i+1))).length=max (ar (l.take i)).length (oB l s+1):=by
   rw [yJ hx]
   unfold yF
   by_cases h:s∈ar (l.take i)
   ·have j:=ca h
    rw [LB h] at j
    rw [if_pos h];omega
   ·have:=Yv hx h
    rw [if_neg h];simp;omega
  have o: ¬(((ar (l.take i)).length:Int) < (oB l s:Int)):=by omega
  have p: ¬(((ar l).length:Int)<=(oB l s:Int)):=by omega
  have c:aa .add (.int .u64 (oB l s:Int)) (.int .u64 1)=some (.int .u64 ((oB l s+1:Nat):Int)):=Gr (b:=1) (by omega)
  have k:max ((ar (l.take i)).length:Int) ((oB l s+1:Nat):Int)=((ar (l.take (i+1))).length:Int):=by omega
  unfold Bf
  simp only [af,ai,an,a,decide_true,ah,ad,f,g,aR,o,decide_false,ag,ax,aB,dT (show (ar l).length < 2 ^ 64 by omega),dm,p,c,adf,k,au (show i < 2 ^ 62 by omega)]
theorem Ti {l:List Byt} (hl:l.length<=4096):rG (D6 (ar l)) (NO (l.map (oB l)))=some [D6 l,.bool true]:=by
 have h2:=oZ l
 have h:lr 16 [.str ⟨#[]⟩] (.int .i64 (l.length:Int)) (.int .i64 (l.length:Int))=some (D6 (a6 l.length [])):=by
  simp only [lr]
  rw [if_pos ⟨trivial,by omega,by simp;omega⟩]
  simp [eS,B]
 unfold rG
 simp only [ax,ad,aB,h]
 rw [aN (λi=>[D6 (l.take i++a6 (l.length - i) []),.int .i64 (i:Int)]) l.length 0 [D6 l] (by simp) (by omega) (λi hi=> ?_) (by
  unfold xN
  simp)]
 ·rfl
 ·have hx:=al hi
  generalize l[i]=s at hx
  have k:(l.map (oB l))[i]? =some (oB l s):=by rw [b4,hx];rfl
  obtain ⟨m,n⟩:=ac3 k
  have g:((i:Int) < (l.length:Int)):=by omega
  have a:=Xw (a2 hx)
  have p: ¬(((ar l).length:Int)<=(oB l s:Int)):=by omega
  have c:aa .add (.int .u64 (oB l s:Int)) (.int .u64 1)=some (.int .u64 ((oB l s+1:Nat):Int)):=Gr (b:=1) (by omega)
  have hlen:(l.take i++a6 (l.length - i) ([]:Byt)).length=l.length:=by simp;omega
  have d:(ar l)[oB l s]? =some s:=by
   exact bb.2 ⟨a,List.getElem_idxOf a⟩
  have j:ly 1 (D6 (ar l)) (some (.int .u64 (oB l s:Int))) (some (.int .u64 ((oB l s+1:Nat):Int)))=some (D6 [s]):=by
   simp only [ly]
   rw [if_pos (by simp [eS])]
   have:lj ((ar l).map eS).length (some (.int .u64 (oB l s:Int))) (some (.int .u64 ((oB l s+1:Nat):Int)))=some (oB l s,oB l s+1):=by
    simp only [lj,aB,KB (show oB l s+1<=(ar l).length by omega),ad,KB (show oB l s<=oB l s+1 by omega)]
   rw [this,ad]
   have e:((ar l).drop (oB l s)).take 1=[s]:=by
    rw [cc a,(bb.1 d).2];rfl
   show some (IV.lst ((((ar l).map eS).drop (oB l s)).take (oB l s+1 - oB l s)))=_
   rw [show oB l s+1 - oB l s=1 by omega,<-e7,<-cO,e]
  have f:qx 1 (D6 (l.take i++a6 (l.length - i) [])) i l.length (D6 [s])=some (D6 (l.take (i+1)++a6 (l.length - (i+1)) []),.int .i64 1):=by
   simp only [qx]
   rw [if_pos ⟨by omega,by rw [aB,hlen];exact cv _,by simp [eS]⟩]
   have o:min (l.length - i) ([s].map eS).length=1:=by simp;omega
   rw [o]
   congr 3
   rw [<-cO,<-e7,List.take_left' (by simp;omega),<-cO,<-e2,<-e2]
   congr 1
   rw [bn hx]
   congr 1
   rw [List.drop_append,List.drop_eq_nil_of_le (by simp;omega),e1,List.drop_replicate,br]
   congr 1
   omega
  unfold xN
  simp only [af,ai,an,g,decide_true,ah,ad,m,n,ax,aB,dT (show (ar l).length < 2 ^ 64 by omega),dm,p,decide_false,ag,bZ,hlen,Bm (show i<=l.length by omega),c,j,f]
  have e0:aa .eql (.int .i64 1) (.int .i64 0)=some (.bool false):=rfl
  simp only [e0,ad,ag,au (show i < 2 ^ 62 by omega)]
theorem AW {l:List Byt} (hl:l.length<=4096) (h:D8 l):bW (B (dictL l)) (.int .i64 (l.length:Int)) (.int .i64 64)=some [D6 l,.int .i64 0]:=by
 have h2:=oZ l
 have w:=aM (n:=(ar l).length) (by omega)
 have r:=B8 (l:=l.map (oB l)) (by simp;omega) (Nd hl)
 have x:=xV h (ar l) λs hs=>(qR l s).1 hs
 simp only [aB] at r
 have e0: ¬((l.length:Int) < 0):=by omega
 have o: ¬((4096:Int) < (l.length:Int)):=by omega
 have u:=Li (n:=(ar l).length) (by omega) (dictL l) _ rfl
 have q: ¬((l.length:Int) < ((ar l).length:Int)):=by omega
 have d:aa .sub (.int .i64 ((dictL l).length:Int)) (.int .i64 ((((ar l).flatMap partL++pX (l.map (oB l))).length:Nat):Int))=some (.int .i64 ((aJ (ar l).length).length:Int)):=by
  rw [mM (by simp [dictL]) (by simp only [dictL,a1];omega)];congr 2;simp [dictL]
 have k:=BB (l:=l.map (oB l)) (by simp;omega) (Nd hl)
 simp only [aB] at k
 unfold bW
 simp only [an,e0,decide_false,ad,ag,aR,o,jP,af,ai,u,tP,tX,dT (show l.length < 2 ^ 64 by omega),drop2,q,ja,pQ,d]
 rw [aN (λi=>[D6 ((ar l).take i),.int .i64 ((aJ (ar l).length++((ar l).take i).flatMap partL).length:Nat),.int .u64 (i:Int)]) (ar l).length 0 [D6 (ar l),.int .i64 ((aJ (ar l).length++(ar l).flatMap partL).length:Nat)] (by simp) (by omega) (λi hi=> ?_) (by
  unfold sa
  simp)]
 ·have j:ea (B (dictL l)) (some (.int .i64 ((aJ (ar l).length++(ar l).flatMap partL).length:Nat))) none=some (B (pX (l.map (oB l)))):=by
   unfold dictL
   rw [<-a7]
   exact tu _ rfl
  simp only [ad,aW,af,ai,j,k,tX,ag,UA hl,aY,bd,Ti hl]
 ·have hx:=al hi
  generalize (ar l)[i]=s at hx
  obtain ⟨f,g⟩:=h s ((qR l s).1 (a2 hx))
  have e:((i:Int) < ((ar l).length:Int)):=by omega
  have a:dictL l=(aJ (ar l).length++((ar l).take i).flatMap partL)++(partL s++(((ar l).drop (i+1)).flatMap partL++pX (l.map (oB l)))):=by
   unfold dictL
   conv=>lhs;enter [2,1];rw [<-bM i (ar l),c9,oM hx]
   simp only [a7]
  have v:=cK (s:=s) (by omega)
  have m:=EN (p:=aJ (ar l).length++((ar l).take i).flatMap partL) (s:=s) (t:=((ar l).drop (i+1)).flatMap partL++pX (l.map (oB l))) f g (by
   have:=Hi hl h
   rw [a] at this
   simp only [a1] at this ⊢
   omega)
  rw [<-a] at m
  have c:aa .add (.int .u64 (i:Int)) (.int .u64 1)=some (.int .u64 ((i+1:Nat):Int)):=Gr (b:=1) (by omega)
  unfold sa
  simp only [af,ai,aA,drop2,an,e,decide_true,ah,ad,m,tX,ag,S5 (show ((ar l).take i).length < 2 ^ 20 by simp;omega),c,bn hx,mN hx,a7]
  simp [a7]
end Go.AM
namespace Go.AM
abbrev Ck:=Nat×Byt
def eCk (c:Ck):List IV:=[.int .i64 (c.1:Int),B c.2]
abbrev fK (l:List Ck):IV:= .lst (l.map eCk)
theorem Gl {l:List Ck} {i:Nat} {x:Ck} (h:l[i]? =some x):aK (fK l) (.int .i64 (i:Int)) 2=some i/\eo (fK l) i 0 2=some (eCk x)/\dh (fK l) i 0=some (.int .i64 (x.1:Int))/\dh (fK l) i 1=some (B x.2):=
 ⟨dY h rfl (by decide),rM h rfl,by rw [cf h];rfl,by rw [cf h];rfl⟩
def zS (s:ByteArray):Byt:=s.data.toList
theorem QM (s:ByteArray):B (zS s)= .str s:=(afX s).symm
theorem R7 (s:ByteArray):(⟨(zS s).toArray⟩:ByteArray)=s:=by unfold zS;simp
theorem u6 {m:Mv} (h:oneV m=true):RF m.ch m.par m.nm=true:=by unfold oneV at h;exact (b5 _ _▸h).2
theorem vU {ch par:Int} {nm:ByteArray} (h:RF ch par nm=true):(zS nm).length<=64/\xO nm=true:=by
 unfold RF at h
 simp only [b5,decide_eq_true_eq] at h
 refine ⟨?_,h.2⟩
 unfold zS
 rw [sU];exact h.1.2
def cs (l:List Mv):List Int:=l.map (·.c)
def ps (l:List Mv):List Int:=l.map (·.par)
def hs (l:List Mv):List Int:=l.map (·.ch)
def rs (l:List Mv):List Nat:=l.map (·.r.toNat)
def ns (l:List Mv):List Byt:=l.map λm=>zS m.nm
def ks (l:List Mv):List Nat:=l.map (·.rk)
def xI (l:List Mv):List Ck:=[(4,aJ l.length),(5,partL (deltaL (cs l))++pX (rs l)),(6,partL (deltaL (ps l))++deltaL (hs l)),(7,dictL (ns l)),(8,ranksL (ks l))]
structure OkLog (l:List Mv):Prop where
 may:mayV l=true
 ok: ∀m∈l,OKm m
theorem OkLog.len {l:List Mv} (h:OkLog l):l.length<=2000:=(gb.1 h.may).1
theorem OkLog.one {l:List Mv} (h:OkLog l) {m:Mv} (hm:m∈l):oneV m=true:=(gb.1 h.may).2.1 m hm
theorem OkLog.rs64 {l:List Mv} (h:OkLog l): ∀x∈rs l,x < 2 ^ 64:= λx hx=>by
 obtain ⟨m,hm,rfl⟩:=bs.1 hx
 have:=qS (h.one hm);omega
theorem OkLog.can {l:List Mv} (h:OkLog l): ∀x∈ks l,CanW x:= λx hx=>by
 obtain ⟨m,hm,rfl⟩:=bs.1 hx
 exact ⟨(h.ok m hm).rk,by rw [<-B5];exact (h.ok m hm).can⟩
theorem OkLog.short {l:List Mv} (h:OkLog l):D8 (ns l):= λs hs=>by
 obtain ⟨m,hm,rfl⟩:=bs.1 hs
 obtain ⟨h1,h2⟩:=vU (u6 (h.one hm))
 exact ⟨h1,by rw [R7];exact h2⟩
theorem OkLog.csI {l:List Mv} (h:OkLog l): ∀x∈cs l,in64 x:= λx hx=>by
 obtain ⟨m,hm,rfl⟩:=bs.1 hx
 have:=qS (h.one hm);constructor<;>omega
theorem OkLog.psI {l:List Mv} (h:OkLog l): ∀x∈ps l,in64 x:= λx hx=>by
 obtain ⟨m,hm,rfl⟩:=bs.1 hx
 exact (h.ok m hm).par
theorem OkLog.hsI {l:List Mv} (h:OkLog l): ∀x∈hs l,in64 x:= λx hx=>by
 obtain ⟨m,hm,rfl⟩:=bs.1 hx
 exact (h.ok m hm).ch
theorem kr {α β:Type} {f:α->β} {l:List α} {i:Nat} {x:α} (h:l[i]? =some x):(l.take (i+1)).map f=(l.take i).map f++[f x]:=by rw [bn h];simp
theorem WY {l:List Mv} (h:OkLog l):(deltaL (cs l)).length<=20000/\(deltaL (ps l)).length<=20000/\(deltaL (hs l)).length<=20000/\(pX (rs l)).length<=40000:=by
 have hl:=h.len
 have h1:=gv (ns:=cs l)
 have h2:=gv (ns:=ps l)
 have a:=gv (ns:=hs l)
 have b:=B8 (l:=rs l) (by simp [rs];omega) h.rs64
 simp only [cs,ps,hs,rs,aB] at*
 omega
theorem Kf {l:List Mv} (h:OkLog l):lZ (bh l)=some [fK (xI l),.int .i64 0]:=by
 have hl:=h.len
 obtain ⟨I,J,K,L⟩:=WY h
 have f:=ta (l:=l) (by omega)
 rw [h.may] at f
 unfold lZ
 simp only [f,ad,af,aY,bd,ag,ax,aB]
 rw [aN (λi=>[bD (cs (l.take i)),bD (ps (l.take i)),bD (hs (l.take i)),NO (rs (l.take i)),D6 (ns (l.take i)),qV (ks (l.take i)),.int .i64 (i:Int)]) l.length 0 [bD (cs l),bD (ps l),bD (hs l),NO (rs l),D6 (ns l),qV (ks l)] (by simp [cs,ps,hs,rs,ns,ks]) (by omega) (λi hi=> ?_) (by
  unfold sB
  simp)]
 ·have h1:=ov (ns:=cs l) (by simp [cs];omega)
  have h2:=ov (ns:=ps l) (by simp [ps];omega)
  have A:=ov (ns:=hs l) (by simp [hs];omega)
  have C:=Bl (l:=rs l) (by simp [rs];omega) h.rs64
  have D:=BE (l:=ns l) (by simp [ns];omega) h.short
  have E:=vA (l:=ks l) (by simp [ks];omega) h.can
  have M:=cK (s:=deltaL (cs l)) (by omega)
  have N:=cK (s:=deltaL (ps l)) (by omega)
  simp only [ad,aW,af,ai,aA,aD,cp,cn,dT (show l.length < 2 ^ 64 by omega),dC (show l.length < 2 ^ 64 by omega),h1,h2,A,C,D,E,nK (s:=deltaL (cs l)) (by omega),nK (s:=deltaL (ps l)) (by omega),M6 (a:=partL (deltaL (cs l))) (b:=pX (rs l)) (by omega),M6 (a:=partL (deltaL (ps l))) (b:=deltaL (hs l)) (by omega)]
  rfl
 ·have hx:=al hi
  generalize l[i]=m at hx
  have hm:=a2 hx
  obtain ⟨G,g,j,H⟩:=wb hx
  have d:((i:Int) < (l.length:Int)):=by omega
  obtain ⟨_,_,O,P⟩:=qS (h.one hm)
  have hr:bE .u64 (.int .i64 m.r)=some (.int .u64 (m.r.toNat:Int)):=aaz (by omega) (by omega)
  have F:(l.take i).length<=2000:=by simp;omega
  have o:=sI (l:=cs (l.take i)) (n:=m.c) (by simp [cs];omega)
  have b2:=sI (l:=ps (l.take i)) (n:=m.par) (by simp [ps];omega)
  have p:=sI (l:=hs (l.take i)) (n:=m.ch) (by simp [hs];omega)
  have q:bS 1 8 (NO (rs (l.take i))) (.lst [[.int .u64 (m.r.toNat:Int)]])=some (NO (rs (l.take i)++[m.r.toNat])):=acd (l:=rs (l.take i)) (k:=[m.r.toNat]) (by simp [rs];omega) (by simp)
  have e:=S5 (l:=ns (l.take i)) (x:=zS m.nm) (by simp [ns];omega)
  rw [QM] at e
  have b6:=Fo (l:=ks (l.take i)) (x:=m.rk) (by simp [ks];omega)
  have t:cs (l.take (i+1))=cs (l.take i)++[m.c]:=kr hx
  have u:ps (l.take (i+1))=ps (l.take i)++[m.par]:=kr hx
  have v:hs (l.take (i+1))=hs (l.take i)++[m.ch]:=kr hx
  have w:rs (l.take (i+1))=rs (l.take i)++[m.r.toNat]:=kr hx
  have y:ns (l.take (i+1))=ns (l.take i)++[zS m.nm]:=kr hx
  have z:ks (l.take (i+1))=ks (l.take i)++[m.rk]:=kr hx
  rw [t,u,v,w,y,z]
  unfold sB
  simp only [af,ai,aA,aD,cp,cn,sZ,an,d,decide_true,ah,ad,g,j,hr,o,b2,p,q,e,b6,au (show i < 2 ^ 62 by omega)]
theorem af0 {l:List Mv} {i:Nat} {m:Mv} (h:l[i]? =some m):(cs l)[i]? =some m.c/\(ps l)[i]? =some m.par/\(hs l)[i]? =some m.ch/\(rs l)[i]? =some m.r.toNat/\(ns l)[i]? =some (zS m.nm)/\(ks l)[i]? =some m.rk:=by
 simp [cs,ps,hs,rs,ns,ks,h]
theorem count_eq {n:Nat} (h:n<=2000):nS (B (aJ n))=some [.int .i64 (n:Int)]:=by
 have a:=Li (n:=n) (by omega) (aJ n) [] (by simp)
 have h1: ¬((2000:Int) < (n:Int)):=by omega
 unfold nS
 simp only [jP,ad,af,ai,a,Fa,drop2,ac8,aR,h1,decide_false,ag,fA (show n < 2 ^ 63 by omega)]
 rfl
theorem Jd {l:List Mv} (h:OkLog l):lN (fK (xI l))=some [bh l,.int .i64 0]:=by
 have hl:=h.len
 obtain ⟨X,Y,Z,d4⟩:=WY h
 have hlen:(xI l).length=5:=rfl
 obtain ⟨N,_,_,L⟩:=Gl (l:=xI l) (i:=0) rfl
 obtain ⟨O,_,_,c1⟩:=Gl (l:=xI l) (i:=1) rfl
 obtain ⟨P,_,_,c2⟩:=Gl (l:=xI l) (i:=2) rfl
 obtain ⟨Q,_,_,c3⟩:=Gl (l:=xI l) (i:=3) rfl
 obtain ⟨R,_,_,c4⟩:=Gl (l:=xI l) (i:=4) rfl
 have s:aK (fK (xI l)) (.int .i64 0) 2=some 0:=N
 have t:aK (fK (xI l)) (.int .i64 1) 2=some 1:=O
 have u:aK (fK (xI l)) (.int .i64 2) 2=some 2:=P
 have v:aK (fK (xI l)) (.int .i64 3) 2=some 3:=Q
 have w:aK (fK (xI l)) (.int .i64 4) 2=some 4:=R
 have h1:=eM (ns:=cs l) (by simp [cs];omega) h.csI
 have h2:=eM (ns:=ps l) (by simp [ps];omega) h.psI
 have y:=eM (ns:=hs l) (by simp [hs];omega) h.hsI
 have z:=BB (l:=rs l) (by simp [rs];omega) h.rs64
 have A:=AW (l:=ns l) (by simp [ns];omega) h.short
 have C:=uJ (l:=ks l) (by simp [ks];omega) h.can
 rw [show (cs l).length=l.length by simp [cs]] at h1
 rw [show (ps l).length=l.length by simp [ps]] at h2
 rw [show (hs l).length=l.length by simp [hs]] at y
 rw [show (rs l).length=l.length by simp [rs]] at z
 rw [show (ns l).length=l.length by simp [ns]] at A
 rw [show (ks l).length=l.length by simp [ks]] at C
 have u1:=xY (a:=deltaL (cs l)) (b:=pX (rs l)) (by omega)
 have u2:=xY (a:=deltaL (ps l)) (b:=deltaL (hs l)) (by omega)
 have g: ∀x:IV,kU x (.int .i64 0)=some [x]/\rb x (.int .i64 0)=some [x]/\re x (.int .i64 0)=some [x]/\kW x (.int .i64 0)=some [x]:= λx=>⟨rfl,rfl,rfl,rfl⟩
 have D:=ta (l:=l) (by omega)
 rw [h.may] at D
 have M:aa .neq (.int .i64 ((5:Nat):Int)) (.int .i64 5)=some (.bool false):=rfl
 unfold lN
 simp only [ax,aB,hlen,M,ad,ag]
 rw [aN (λi=>[.int .i64 (i:Int)]) 5 0 [] (by simp) (by decide) (λi hi=> ?_) rfl]
 ·simp only [ad,aW,s,t,u,v,w,L,c1,c2,c3,c4,count_eq hl,af,ai,u1,u2,h1,h2,y,z,A,C,(g _).1,(g _).2.1,(g _).2.2.1,(g _).2.2.2]
  rw [aN (λi=>[bh (l.take i),.int .i64 (i:Int)]) l.length 0 [bh l] (by simp) (by omega) (λi hi=> ?_) (by
   unfold du
   simp)]
  ·simp only [ad,aW,af,D,aY,bd,ag,tX]
  ·have hx:=al hi
   generalize l[i]=m at hx
   have hm:=a2 hx
   obtain ⟨q1,S,T,U,V,W⟩:=af0 hx
   obtain ⟨_,F,_,e⟩:=nk q1
   obtain ⟨_,G,_,f⟩:=nk S
   obtain ⟨_,H,_,j⟩:=nk T
   obtain ⟨I,n⟩:=ac3 U
   obtain ⟨J,d⟩:=aaM V
   obtain ⟨K,o⟩:=UU W
   rw [QM] at d
   have q:((i:Int) < (l.length:Int)):=by omega
   obtain ⟨_,_,r1,r2⟩:=qS (h.one hm)
   have hr:bE .i64 (.int .u64 (m.r.toNat:Int))=some (.int .i64 m.r):=by
    rw [fA (by omega)];congr 2;omega
   have E:=s9 m
   rw [h.one hm] at E
   have p:bS 6 56 (bh (l.take i)) (.lst [[.int .i64 m.c,.int .i64 m.r,.int .i64 m.par,.int .i64 m.ch,.str m.nm,.flt .f64 m.rk]])=some (bh (l.take i++[m])):=KD (l:=l.take i) (k:=[m]) (by simp;omega) (by simp)
   unfold du
   simp only [af,ai,an,q,decide_true,ah,ad,F,e,G,f,H,j,I,n,J,d,K,o,hr,E,aY,bd,ag,p,au (show i < 2 ^ 62 by omega),bn hx]
 ·match i,hi with
  | 0,_=>rfl
  | 1,_=>rfl
  | 2,_=>rfl
  | 3,_=>rfl
  | 4,_=>rfl
  | k+5,hi=>omega
end Go.AM
namespace Go.AM
theorem put_eq {C:IV->List Nat->List (List IV)->Option (List IV)} (xs:List (IV×Byt)) (hn:xs.length < 100) (h: ∀p∈xs,C (Gx "bonsai/snap.bytes" p.1) [1] []=some [B p.2]) (hb: ∀p∈xs,p.2.length<=2 ^ 22):iA C (.lst (xs.map λp=>[p.1]))=some [B (xs.flatMap (·.2))]:=by
 unfold iA
 simp only [ax,ad,aB]
 rw [aN (λi=>[.nilp,.lst (((xs.take i).flatMap (·.2)).map eB),.int .i64 (i:Int)]) xs.length 0 [.nilp,.lst ((xs.flatMap (·.2)).map eB)] (by simp) (by omega) (λi hi=> ?_) (by
  unfold BR
  simp)]
 ·simp only [ad,aW,ai,mD];rfl
 ·have hx:=al hi
  generalize xs[i]=p at hx
  have hp:=a2 hx
  have e:aK (.lst (xs.map λp=>[p.1])) (.int .i64 (i:Int)) 1=some i:=dY (enc:= λp=>[p.1]) hx rfl e3
  have g:dh (.lst (xs.map λp=>[p.1])) i 0=some p.1:=by rw [cf (enc:= λp=>[p.1]) hx];rfl
  have d:((i:Int) < (xs.length:Int)):=by omega
  have c:=fj (f:= λp:IV×Byt=>p.2) (l:=xs.take i) (k:=2 ^ 22) λq j=>hb q (bA j)
  simp only [br] at c
  have hw:=oI (x:= .nilp) (a:=(xs.take i).flatMap (·.2)) (b:=p.2) (by have:=hb p hp;omega)
  unfold BR
  simp only [af,ai,aA,an,d,decide_true,ah,ad,e,g,h p hp,hw,au (show i < 2 ^ 62 by omega),mN (f:= λp:IV×Byt=>p.2) hx]
def mr (v:List Mark):List Int:=v.map (·.r)
def mc (v:List Mark):List Int:=v.map (·.c)
def Gz (v:List Mark):Byt:=aJ v.length++(partL (deltaL (mr v))++deltaL (mc v))
theorem MayP.len {v:List Mark} (h:MayP v):v.length<=255:=by
 have key: ∀(v:List Mark) (n:Int),v.Pairwise (λa b=>a.r < b.r)->(∀x∈v,n < x.r/\x.r<=255)->n<=255->(v.length:Int)<=255 - n:=by
  intro v
  induction v with
  | nil=>intro n _ _ h;simp;omega
  | cons x v ih=>
    intro n hp hx h
    obtain ⟨h1,h2⟩:=hx x List.mem_cons_self
    have:=ih x.r (dd.1 hp).2 (λy c=>⟨(dd.1 hp).1 y c,(hx y (c7 _ c)).2⟩) h2
    simp;omega
 have:=key v 0 h.sorted (λx hx=>by have:=h.ok x hx;omega) (by decide)
 omega
theorem agq {v:List Mark} (h:MayP v):(∀x∈mr v,in64 x)/\ ∀x∈mc v,in64 x:=
 ⟨λx hx=>by obtain ⟨m,hm,rfl⟩:=bs.1 hx;have:=h.ok m hm;constructor<;>omega,λx hx=>by obtain ⟨m,hm,rfl⟩:=bs.1 hx;have:=h.ok m hm;constructor<;>omega⟩
theorem vr {n:Nat} (h:n < 2 ^ 63):da (.int .i64 (n:Int))=some [B (aJ n)]:=by
 unfold da
 simp only [dT (show n < 2 ^ 64 by omega),ad,dC (show n < 2 ^ 64 by omega),af]
 rfl
theorem xZ {l:List Int} (h:l.length < 2 ^ 16):ez (bD l)=some [B (deltaL l)]:=by
 unfold ez
 rw [ov h];rfl
theorem Vt {l:List Byt} (hl:l.length<=4096) (h:D8 l):fW (D6 l)=some [B (dictL l)]:=by
 unfold fW
 rw [BE hl h];rfl
theorem VM {l:List Nat} (hl:l.length<=4096) (h: ∀w∈l,CanW w):gl (qV l)=some [B (ranksL l)]:=by
 unfold gl
 rw [vA hl h];rfl
theorem Kn {C:IV->List Nat->List (List IV)->Option (List IV)} {y:IV} {s:Byt} (h:C (Gx "bonsai/snap.bytes" y) [1] []=some [B s]) (hs:s.length < 2 ^ 40):BU "bonsai/snap.bytes" bK C y=some [B (partL s)]:=by
 unfold BU
 rw [h,ad,af,nK hs];rfl
theorem X5 {v:List Mark} (h:MayP v):(Gz v).length<=6000:=by
 have hl:=h.len
 have h1:=aM (n:=v.length) (by omega)
 have h2:=gv (ns:=mr v)
 have c:=gv (ns:=mc v)
 have b:(mr v).length=v.length:=by simp [mr]
 have a:(mc v).length=v.length:=by simp [mc]
 have d:=cK (s:=deltaL (mr v)) (by omega)
 simp only [Gz,a1] at*
 omega
theorem GY {v:List Mark} (h:MayP v):kz (aQ v)=some [B (Gz v)]:=by
 have hl:=h.len
 unfold kz
 simp only [ax,ad,aB]
 rw [aN (λi=>[bD (mr (v.take i)),bD (mc (v.take i)),.int .i64 (i:Int)]) v.length 0 [bD (mr v),bD (mc v)] (by simp [mr,mc]) (by omega) (λi hi=> ?_) (by
  unfold qX
  simp)]
 ·have h2:=gv (ns:=mr v)
  have j:=gv (ns:=mc v)
  simp only [mr,mc,aB] at h2 j
  have i1:=xZ (l:=mr v) (by simp [mr];omega)
  have i2:=xZ (l:=mc v) (by simp [mc];omega)
  have c1:=vr (n:=v.length) (by omega)
  have k:BU "bonsai/snap.bytes" bK jx (.ifc 322 false (bD (mr v)))=some [B (partL (deltaL (mr v)))]:=Kn i1 (by simp only [mr];omega)
  have o:=cK (s:=deltaL (mr v)) (by simp only [mr];omega)
  have h1:=aM (n:=v.length) (by omega)
  have:=put_eq (C:=fO) [(.ifc 266 false (.int .i64 (v.length:Int)),aJ v.length),(.ifc 326 true (.ifc 322 false (bD (mr v))),partL (deltaL (mr v))),(.ifc 322 false (bD (mc v)),deltaL (mc v))] (by simp)
   (λp hp=>by
     simp only [bm,bx,or_false] at hp
     rcases hp with rfl | rfl | rfl
     ·exact c1
     ·exact k
     ·exact i2)
   (λp hp=>by
     simp only [bm,bx,or_false] at hp
     simp only [mr,mc] at*
     rcases hp with rfl | rfl | rfl<;>simp only<;>omega)
  simp only [b7,cb,cl,c5,c6] at this
  simp only [ad,aW,af,ai,this]
  rfl
 ·have hx:=al hi
  generalize v[i]=m at hx
  obtain ⟨_,b,d,_⟩:=yK hx
  have a:((i:Int) < (v.length:Int)):=by omega
  have e:=sI (l:=mr (v.take i)) (n:=m.r) (by simp [mr];omega)
  have b2:=sI (l:=mc (v.take i)) (n:=m.c) (by simp [mc];omega)
  have f:mr (v.take (i+1))=mr (v.take i)++[m.r]:=kr hx
  have g:mc (v.take (i+1))=mc (v.take i)++[m.c]:=kr hx
  rw [f,g]
  unfold qX
  simp only [af,ai,aA,an,a,decide_true,ah,ad,b,d,e,b2,au (show i < 2 ^ 62 by omega)]
theorem snap_open_eq {n most:Nat} {t:Byt} (h:n<=most) (hm:most<=2000) (ht:t.length < 2 ^ 40):snap_open_s (B (aJ n++t)) (.int .u64 (most:Int))=some [B t,.int .i64 (n:Int),.int .i64 0]:=by
 have a:=pT (n:=n) (by omega) t
 have hl:=aM (n:=n) (by omega)
 have h1: ¬((most:Int) < (n:Int)):=by omega
 have hs:aa .sub (.int .i64 ((aJ n++t).length:Int)) (.int .i64 (t.length:Int))=some (.int .i64 ((aJ n).length:Int)):=by
  rw [mM (by simp) (by simp;omega)];congr 2;simp
 unfold snap_open_s
 simp only [jP,a,ad,af,ai,tP,tX,ag,drop2,aR,h1,decide_false,ja,pQ,hs,tu (aJ n).length rfl,fA (show n < 2 ^ 63 by omega)]
set_option maxHeartbeats 4000000 in
theorem E7 {v:List Mark} (h:MayP v):jq (B (Gz v))=some [aQ v,.int .i64 0]:=by
 have hl:=h.len
 have h2:=gv (ns:=mr v)
 have F:=gv (ns:=mc v)
 have u:(mr v).length=v.length:=by simp [mr]
 have q:(mc v).length=v.length:=by simp [mc]
 have G:=cK (s:=deltaL (mr v)) (by omega)
 obtain ⟨C,D⟩:=agq h
 have e:=snap_open_eq (n:=v.length) (most:=255) (t:=partL (deltaL (mr v))++deltaL (mc v)) hl (by decide) (by simp;omega)
 have f:=py (a:=deltaL (mr v)) (b:=deltaL (mc v)) (by omega)
 have w:=eM (ns:=mr v) (by omega) C
 have x:=eM (ns:=mc v) (by omega) D
 rw [u] at w
 rw [q] at x
 have y:=yI (v:=v) (by omega)
 rw [ED.2 h] at y
 have d:snap_open_s (B (aJ v.length++(partL (deltaL (mr v))++deltaL (mc v)))) (.int .u64 255)=some [B (partL (deltaL (mr v))++deltaL (mc v)),.int .i64 (v.length:Int),.int .i64 0]:=e
 have E:iter rounds (ji [B (partL (deltaL (mr v))++deltaL (mc v)),.int .i64 (v.length:Int),.int .i64 0] [bD (mr v),.int .i64 0] [bD (mc v),.int .i64 0]) [.lst [],.int .i64 0]=some (0,[aQ v]):=by
  rw [aN (λi=>[aQ (v.take i),.int .i64 (i:Int)]) v.length 0 [aQ v] (by simp) (by omega) (λi hi=> ?_) (by
   unfold ji
   simp)]
  have hx:=al hi
  generalize v[i]=m at hx
  obtain ⟨_,z,_,g⟩:=nk (show (mr v)[i]? =some m.r by simp [mr,hx])
  obtain ⟨_,A,_,j⟩:=nk (show (mc v)[i]? =some m.c by simp [mc,hx])
  have p:((i:Int) < (v.length:Int)):=by omega
  have o:bS 2 16 (aQ (v.take i)) (.lst [[.int .i64 m.r,.int .i64 m.c]])=some (aQ (v.take i++[m])):=Y1 (l:=v.take i) (k:=[m]) (by simp;omega) (by simp)
  unfold ji
  simp only [af,ai,an,p,decide_true,ah,ad,z,g,A,j,o,au (show i < 2 ^ 62 by omega),bn hx]
 unfold jq Gz
 rw [d,ad,aA,tX,ad,ag,af,f,ad,aA,tX,ad,ag,af,ai,ai,w,ad,ai,tX,ad,ag,x,ad,ai,tX,ad,ag,E,ad,aW,af,y,ad,af,aY,ad]
 rfl
end Go.AM
namespace Go.AM
def rc (l:List Rw):List Int:=l.map (·.ch)
def rp (l:List Rw):List Int:=l.map (·.par)
def rn (l:List Rw):List Byt:=l.map λr=>zS r.nm
def rk (l:List Rw):List Nat:=l.map (·.rk)
def rowsL (l:List Rw):Byt:=aJ l.length++(partL (deltaL (rc l))++(partL (deltaL (rp l))++(partL (dictL (rn l))++ranksL (rk l))))
structure OkBase (l:List Rw):Prop where
 may:mayR l=true
 ok:OKl l
theorem OkBase.len {l:List Rw} (h:OkBase l):l.length<=2000:=(ua h.may).1
theorem OkBase.one {l:List Rw} (h:OkBase l) {r:Rw} (hr:r∈l):OZ r=true:=(ua h.may).2.1 r hr
theorem OkBase.can {l:List Rw} (h:OkBase l): ∀x∈rk l,CanW x:= λx hx=>by
 obtain ⟨r,hr,rfl⟩:=bs.1 hx
 exact ⟨(h.ok r hr).rk,by rw [<-B5];exact (h.ok r hr).can⟩
theorem OkBase.short {l:List Rw} (h:OkBase l):D8 (rn l):= λs hs=>by
 obtain ⟨r,hr,rfl⟩:=bs.1 hs
 obtain ⟨h1,h2⟩:=vU (h.one hr)
 exact ⟨h1,by rw [R7];exact h2⟩
theorem OkBase.i64 {l:List Rw} (h:OkBase l):(∀x∈rc l,in64 x)/\ ∀x∈rp l,in64 x:=
 ⟨λx hx=>by obtain ⟨r,hr,rfl⟩:=bs.1 hx;exact (h.ok r hr).ch,λx hx=>by obtain ⟨r,hr,rfl⟩:=bs.1 hx;exact (h.ok r hr).par⟩
theorem NK {l:List Rw} (h:OkBase l):(rc l).length=l.length/\(rp l).length=l.length/\(rn l).length=l.length/\(rk l).length=l.length/\(deltaL (rc l)).length<=20000/\(deltaL (rp l)).length<=20000/\(dictL (rn l)).length<=2 ^ 19/\(ranksL (rk l)).length<=2 ^ 17/\(partL (deltaL (rc l))).length<=20010/\(partL (deltaL (rp l))).length<=20010/\(partL (dictL (rn l))).length<=2 ^ 19+10/\(aJ l.length).length<=10:=by
 have hl:=h.len
 have a:(rc l).length=l.length:=by simp [rc]
 have b:(rp l).length=l.length:=by simp [rp]
 have c:(rn l).length=l.length:=by simp [rn]
 have d:(rk l).length=l.length:=by simp [rk]
 have h1:=gv (ns:=rc l)
 have h2:=gv (ns:=rp l)
 have e:=Hi (l:=rn l) (by omega) h.short
 have f:=Mt (l:=rk l) (by omega)
 have g:=cK (s:=deltaL (rc l)) (by omega)
 have i:=cK (s:=deltaL (rp l)) (by omega)
 have j:=cK (s:=dictL (rn l)) (by omega)
 have q:=aM (n:=l.length) (by omega)
 exact ⟨a,b,c,d,by omega,by omega,e,f,by omega,by omega,by omega,q⟩
theorem JE {l:List Rw} (h:OkBase l):lL (cU l)=some [B (rowsL l)]:=by
 have hl:=h.len
 obtain ⟨s,t,u,v,A,D,E,F,w,y,z,q⟩:=NK h
 unfold lL
 simp only [ax,ad,aB]
 rw [aN (λi=>[bD (rc (l.take i)),bD (rp (l.take i)),D6 (rn (l.take i)),qV (rk (l.take i)),.int .i64 (i:Int)]) l.length 0 [bD (rc l),bD (rp l),D6 (rn l),qV (rk l)] (by simp [rc,rp,rn,rk]) (by omega) (λi hi=> ?_) (by
  unfold sk
  simp)]
 ·have i1:=xZ (l:=rc l) (by omega)
  have i2:=xZ (l:=rp l) (by omega)
  have i3:=Vt (l:=rn l) (by omega) h.short
  have o:=VM (l:=rk l) (by omega) h.can
  have c1:=vr (n:=l.length) (by omega)
  have u1:BU "bonsai/snap.bytes" bK eJ (.ifc 322 false (bD (rc l)))=some [B (partL (deltaL (rc l)))]:=Kn i1 (by omega)
  have u2:BU "bonsai/snap.bytes" bK eJ (.ifc 322 false (bD (rp l)))=some [B (partL (deltaL (rp l)))]:=Kn i2 (by omega)
  have u3:BU "bonsai/snap.bytes" bK eJ (.ifc 323 false (D6 (rn l)))=some [B (partL (dictL (rn l)))]:=Kn i3 (by omega)
  have:=put_eq (C:=gM) [(.ifc 266 false (.int .i64 (l.length:Int)),aJ l.length),(.ifc 326 true (.ifc 322 false (bD (rc l))),partL (deltaL (rc l))),(.ifc 326 true (.ifc 322 false (bD (rp l))),partL (deltaL (rp l))),(.ifc 326 true (.ifc 323 false (D6 (rn l))),partL (dictL (rn l))),(.ifc 324 false (qV (rk l)),ranksL (rk l))] (by simp)
   (λp hp=>by
     simp only [bm,bx,or_false] at hp
     rcases hp with rfl | rfl | rfl | rfl | rfl
     ·exact c1
     ·exact u1
     ·exact u2
     ·exact u3
     ·exact o)
   (λp hp=>by
     simp only [bm,bx,or_false] at hp
     rcases hp with rfl | rfl | rfl | rfl | rfl<;>simp only<;>omega)
  simp only [b7,cb,cl,c5,c6] at this
  simp only [ad,aW,af,ai,aA,aD,this]
  rfl
 ·have hx:=al hi
  generalize l[i]=r at hx
  obtain ⟨_,c,d,_⟩:=Wj hx
  have a:((i:Int) < (l.length:Int)):=by omega
  have e:=sI (l:=rc (l.take i)) (n:=r.ch) (by simp [rc];omega)
  have b2:=sI (l:=rp (l.take i)) (n:=r.par) (by simp [rp];omega)
  have b:=S5 (l:=rn (l.take i)) (x:=zS r.nm) (by simp [rn];omega)
  rw [QM] at b
  have f:=Fo (l:=rk (l.take i)) (x:=r.rk) (by simp [rk];omega)
  have g:rc (l.take (i+1))=rc (l.take i)++[r.ch]:=kr hx
  have j:rp (l.take (i+1))=rp (l.take i)++[r.par]:=kr hx
  have k:rn (l.take (i+1))=rn (l.take i)++[zS r.nm]:=kr hx
  have m:rk (l.take (i+1))=rk (l.take i)++[r.rk]:=kr hx
  rw [g,j,k,m]
  unfold sk
  simp only [af,ai,aA,aD,cp,an,a,decide_true,ah,ad,c,d,e,b2,b,f,au (show i < 2 ^ 62 by omega)]
theorem YQ {l:List Int} (hl:l.length < 2 ^ 16) (h:xr l):mF (bD l)=some [.bool true]:=by
 unfold mF
 rw [aN (λi=>[.int .i64 ((i+1:Nat):Int)]) (l.length - 1) 0 [] (by simp) (by omega) (λi hi=> ?_) (by
  have: ¬(((l.length - 1+1:Nat):Int) < (l.length:Int)):=by omega
  unfold sD
  simp only [af,ax,aB,ad,an,this,decide_false,ag])]
 ·rfl
 ·have hx:=al (show i+1 < l.length by omega)
  have g:=al (show i < l.length by omega)
  have d:l[i]'(by omega) < l[i+1]'(by omega):=cd.1 h i (i+1) (by omega) (by omega) (by omega)
  generalize l[i+1]'(by omega)=x at*
  generalize l[i]'(by omega)=y at*
  obtain ⟨_,e,_,a⟩:=nk hx
  obtain ⟨_,f,_,b⟩:=nk g
  have c:(((i+1:Nat):Int) < (l.length:Int)):=by omega
  have hle: ¬(x<=y):=by omega
  have hp:=tq (i:=i+1) (by omega) (by omega)
  rw [Nat.add_sub_cancel] at hp
  unfold sD
  simp only [af,ax,aB,ad,an,c,decide_true,ah,e,a,hp,f,b,gk,hle,decide_false,ag,au (show i+1 < 2 ^ 62 by omega)]
theorem agX {l:List Rw} {i:Nat} {r:Rw} (h:l[i]? =some r):(rc l)[i]? =some r.ch/\(rp l)[i]? =some r.par/\(rn l)[i]? =some (zS r.nm)/\(rk l)[i]? =some r.rk:=by
 simp [rc,rp,rn,rk,h]
theorem ZG {l:List Rw} (h:OkBase l) (x y:IV):iter rounds (gZ [x,.int .i64 (l.length:Int),y] [bD (rc l),.int .i64 0] [bD (rp l),.int .i64 0] [D6 (rn l),.int .i64 0] [qV (rk l),.int .i64 0]) [.lst [],.int .i64 0]=some (0,[cU l]):=by
 have hl:=h.len
 rw [aN (λi=>[cU (l.take i),.int .i64 (i:Int)]) l.length 0 [cU l] (by simp) (by omega) (λi hi=> ?_) (by
  unfold gZ
  simp)]
 have hx:=al hi
 generalize l[i]=r at hx
 have hr:=a2 hx
 obtain ⟨q1,o,p,q⟩:=agX hx
 obtain ⟨_,j,_,b⟩:=nk q1
 obtain ⟨_,k,_,c⟩:=nk o
 obtain ⟨m,a⟩:=aaM p
 obtain ⟨n,d⟩:=UU q
 rw [QM] at a
 have f:((i:Int) < (l.length:Int)):=by omega
 have g:=AR r.ch r.par r.nm (.flt .f64 r.rk)
 rw [show RF r.ch r.par r.nm=true from h.one hr] at g
 have e:bS 4 40 (cU (l.take i)) (.lst [[.int .i64 r.ch,.int .i64 r.par,.str r.nm,.flt .f64 r.rk]])=some (cU (l.take i++[r])):=by
  simp only [bS]
  rw [if_pos ⟨by simp;omega,by simp⟩]
  simp [Zh]
 unfold gZ
 simp only [af,ai,an,f,decide_true,ah,ad,j,b,k,c,m,a,n,d,g,aY,bd,ag,e,au (show i < 2 ^ 62 by omega),bn hx]
theorem Ij {R:Type} (t e:Unit->Option R):((aa .neq (.int .i64 0) (.int .i64 0)).bind λv=>ae v t e)=e ():=rfl
set_option maxHeartbeats 8000000 in
theorem Hh {l:List Rw} (h:OkBase l):kC (B (rowsL l))=some [cU l,.int .i64 0]:=by
 have hl:=h.len
 obtain ⟨j,k,m,o,x,y,z,A,u,v,w,q⟩:=NK h
 obtain ⟨p,r⟩:=h.i64
 have c:snap_open_s (B (rowsL l)) (.int .u64 2000)=some [B (partL (deltaL (rc l))++(partL (deltaL (rp l))++(partL (dictL (rn l))++ranksL (rk l)))),.int .i64 (l.length:Int),.int .i64 0]:=snap_open_eq (n:=l.length) (most:=2000) hl (by decide) (by simp only [a1];omega)
 have c1:=py (a:=deltaL (rc l)) (b:=partL (deltaL (rp l))++(partL (dictL (rn l))++ranksL (rk l))) (by simp only [a1];omega)
 have c2:=py (a:=deltaL (rp l)) (b:=partL (dictL (rn l))++ranksL (rk l)) (by simp only [a1];omega)
 have c3:=py (a:=dictL (rn l)) (b:=ranksL (rk l)) (by omega)
 have d:=eM (ns:=rc l) (by omega) p
 have e:=eM (ns:=rp l) (by omega) r
 have f:=AW (l:=rn l) (by omega) h.short
 have g:=uJ (l:=rk l) (by omega) h.can
 rw [j] at d
 rw [k] at e
 rw [m] at f
 rw [o] at g
 have t:=YQ (l:=rc l) (by omega) (ua h.may).2.2.1
 have i:=Bt (l:=l) (by omega) h.ok
 rw [h.may] at i
 have s:=ZG h (B (partL (deltaL (rc l))++(partL (deltaL (rp l))++(partL (dictL (rn l))++ranksL (rk l))))) (.int .i64 0)
 unfold kC
 rw [c,ad,aA,Ij,af,c1,ad,aA,Ij,af,ai,ai,d,ad,ai,Ij,c2,ad,aA,Ij,af,ai,e,ad,ai,Ij,c3,ad,aA,Ij,af,ai,f,ad,ai,Ij,g,ad,ai,Ij,aj,s,ad,aW,af,t,ad,af,aY,ad]
 show (qM (cU l)).bind _=_
 rw [i,ad]
 rfl
end Go.AM
namespace Go.AM
theorem Th {f:List IV->Option SR} (P:IV->Prop) (n:Nat) (hs: ∀i x,i < n->P x-> ∃y,P y/\f [x,.int .i64 (i:Int)]=some (.next [y,.int .i64 ((i+1:Nat):Int)])) (he: ∀x,P x->f [x,.int .i64 (n:Int)]=some (.done 0 [x])):
  ∀(k m i:Nat) (x:IV),i+k=n->k < m->P x-> ∃y,P y/\iter m f [x,.int .i64 (i:Int)]=some (0,[y])
 | 0,m,i,x,h,hm,hx=>by
   obtain ⟨m,rfl⟩: ∃a,m=a+1:=⟨m - 1,by omega⟩
   obtain rfl:i=n:=by omega
   exact ⟨x,hx,gL m (he x hx)⟩
 | k+1,m,i,x,h,hm,hx=>by
   obtain ⟨m,rfl⟩: ∃a,m=a+1:=⟨m - 1,by omega⟩
   obtain ⟨y,c,e⟩:=hs i x (by omega) hx
   obtain ⟨z,hz,b⟩:=Th P n hs he k m (i+1) y (by omega) (by omega) c
   exact ⟨z,hz,by rw [oN m e,b]⟩
def U32 (x:IV):Prop:= ∃c:Nat,c < 2 ^ 32/\x= .int .u32 (c:Int)
theorem wrap32 (z:Int):a5.wrap z=z % 2 ^ 32:=by
 unfold IntKind.wrap
 show (if (false&&decide ((z % (2 ^ 32:Int))>=(2 ^ 31:Int)))=true then (z % (2 ^ 32:Int)) - (2 ^ 32:Int) else (z % (2 ^ 32:Int)))=_
 simp
theorem WM (z:Int):U32 (.int .u32 (a5.wrap z)):=by
 rw [wrap32]
 refine ⟨(z % 2 ^ 32).toNat,?_,?_⟩
 ·omega
 ·congr 1;omega
theorem aba: ∀x,U32 x-> ∃y,U32 y/\iter rounds vE [x,.int .i64 0]=some (0,[y]):= λx hx=>by
 refine Th U32 8 (λi x hi hx=> ?_) (λx hx=> ?_) 8 rounds 0 x rfl (by rw [bg];decide) hx
 ·obtain ⟨c,hc,rfl⟩:=hx
  have a:((i:Int) < 8):=by omega
  have h1:aa .shr (.int .u32 (c:Int)) (.int .u64 1)=some (.int .u32 ((c / 2:Nat):Int)):=by
   simp only [aa]
   rw [if_neg (by omega)]
   show some (IV.int .u32 ((c:Int).fdiv (2 ^ 1)))=_
   rw [Int.fdiv_eq_ediv_of_nonneg _ (by decide)];congr 2
  have h2:aa .and (.int .u32 (c:Int)) (.int .u32 1)=some (.int .u32 (a5.wrap ((a8 a5.bits (c:Int)&&&a8 a5.bits 1).toNat:Int))):=by simp only [aa,cr,if_true]
  generalize a5.wrap ((a8 a5.bits (c:Int)&&&a8 a5.bits 1).toNat:Int)=d at h2
  have b:ll .neg (.int .u32 d)=some (.int .u32 (a5.wrap (0 - d))):=rfl
  generalize a5.wrap (0 - d)=e at b
  have f:aa .and (.int .u32 3988292384) (.int .u32 e)=some (.int .u32 (a5.wrap ((a8 a5.bits 3988292384&&&a8 a5.bits e).toNat:Int))):=by simp only [aa,cr,if_true]
  generalize a5.wrap ((a8 a5.bits 3988292384&&&a8 a5.bits e).toNat:Int)=g at f
  have h:aa .xor (.int .u32 ((c / 2:Nat):Int)) (.int .u32 g)=some (.int .u32 (a5.wrap ((a8 a5.bits ((c / 2:Nat):Int) ^^^ a8 a5.bits g).toNat:Int))):=by simp only [aa,cr,if_true]
  refine ⟨_,WM ((a8 a5.bits ((c / 2:Nat):Int) ^^^ a8 a5.bits g).toNat:Int),?_⟩
  unfold vE
  simp only [af,ai,an,a,decide_true,ah,ad,h1,h2,b,f,h,au (show i < 2 ^ 62 by omega)]
 ·unfold vE
  simp
theorem Xm {s:Byt} (h:s.length < 900000*2) (hs:s.length < 999999): ∃c:Nat,c < 2 ^ 32/\wY (B s)=some [.int .u32 (c:Int)]:=by
 have hb:Wq (B s)=some (.lst (s.map eB)):=by
  show some (IV.lst (s.toArray.toList.map λb=>[IV.int .u8 b.toNat]))=_
  rfl
 have h0:aa .xor (.int .u32 0) (.int .u32 4294967295)=some (.int .u32 4294967295):=rfl
 obtain ⟨y,⟨c,hc,rfl⟩,p⟩:=Th (f:=rI (.int .i64 (s.length:Int)) (.lst (s.map eB))) U32 s.length (λi x hi hx=>by
   obtain ⟨c,hc,rfl⟩:=hx
   have g:=al hi
   generalize s[i]=b at g
   have m:aK (.lst (s.map eB)) (.int .i64 (i:Int)) 1=some i:=dY g rfl e3
   have n:dh (.lst (s.map eB)) i 0=some (.int .u8 (b.toNat:Int)):=by rw [cf g];rfl
   have j:((i:Int) < (s.length:Int)):=by omega
   obtain ⟨z,hz,e⟩:=aba _ (WM ((a8 a5.bits (c:Int) ^^^ a8 a5.bits (a5.wrap (b.toNat:Int))).toNat:Int))
   refine ⟨z,hz,?_⟩
   have k:aa .xor (.int .u32 (c:Int)) (.int .u32 (a5.wrap (b.toNat:Int)))=some (.int .u32 (a5.wrap ((a8 a5.bits (c:Int) ^^^ a8 a5.bits (a5.wrap (b.toNat:Int))).toNat:Int))):=by
    simp only [aa,cr,if_true]
   unfold rI
   simp only [af,ai,an,j,decide_true,ah,ad,m,n,bE,k,e,aW,au (show i < 2 ^ 62 by omega)])
  (λx hx=>by unfold rI;simp) s.length rounds 0 (.int .u32 4294967295) (by omega) (by rw [bg];omega) ⟨4294967295,by decide,rfl⟩
 have a:aa .xor (.int .u32 (c:Int)) (.int .u32 4294967295)=some (.int .u32 (a5.wrap ((a8 a5.bits (c:Int) ^^^ a8 a5.bits 4294967295).toNat:Int))):=by
  simp only [aa,cr,if_true]
 obtain ⟨d,o,e⟩:=WM ((a8 a5.bits (c:Int) ^^^ a8 a5.bits 4294967295).toNat:Int)
 rw [e] at a
 refine ⟨d,o,?_⟩
 have l:iter rounds (rI (.int .i64 (s.length:Int)) (.lst (s.map eB))) [.int .u32 4294967295,.int .i64 0]=some (0,[.int .u32 (c:Int)]):=p
 unfold wY xL
 simp only [h0,hb,ad,ax,aB,l,aW,af,a,xl,eh,b0]
def dH:Nat->Nat->Byt
 | 0,_=>[]
 | k+1,u=>Ez (u % 256)::dH k (u / 256)
theorem ir: ∀(k u:Nat),(dH k u).length=k
 | 0,_=>rfl
 | k+1,u=>by simp [dH,ir k]
theorem Qc: ∀(k u i:Nat),i < k->(dH k u)[i]? =some (Ez (u / 2 ^ (8*i) % 256))
 | 0,_,i,h=>by omega
 | k+1,u,0,_=>by simp [dH]
 | k+1,u,i+1,h=>by
   rw [dH,List.getElem?_cons_succ,Qc k (u / 256) i (by omega),Nat.div_div_eq_div_mul]
   have:256*2 ^ (8*i)=2 ^ (8*(i+1)):=by rw [show 8*(i+1)=8+8*i by omega,Nat.pow_add]
   rw [this]
theorem Dc {u:Nat} (h:u < 2 ^ 64):jZ (.int .u64 (u:Int))=some [B (dH 8 u)]:=by
 have f:lr 1 [.int .u8 0] (.int .i64 8) (.int .i64 8)=some (.lst ((a6 8 (0:UInt8)).map eB)):=rfl
 unfold jZ
 rw [f,ad,aN (λi=>[.lst (((dH 8 u).take i++a6 (8 - i) 0).map eB),.int .i64 (i:Int)]) 8 0 [.lst ((dH 8 u).map eB)] (by rfl) (by decide) (λi hi=> ?_) (by
  unfold wA
  simp [b3,ir])]
 ·simp only [ad,aW,af,mD];rfl
 ·have e:((i:Int) < ((8:Nat):Int)):=by omega
  have hm:aa .mul (.int .i64 8) (.int .i64 (i:Int))=some (.int .i64 ((8*i:Nat):Int)):=by
   simp only [aa,cr,if_true]
   rw [wrap64 (by omega) (by omega)];congr 2
  have hs:=mS (a:=u) (b:=8*i) (k:= .i64) (by omega)
  have hc:=Tg (u / 2 ^ (8*i)) (k:= .u64)
  have hl:((dH 8 u).take i++a6 (8 - i) (0:UInt8)).length=8:=by simp [ir];omega
  have d:=Lw (enc:=eB) (l:=(dH 8 u).take i++a6 (8 - i) 0) (i:=i) (x:=Ez (u / 2 ^ (8*i) % 256)) (v:= .int .u8 ((u / 2 ^ (8*i) % 256:Nat):Int)) (by omega) (λ_=>rfl) (by simp [eB,oV (e6 _ (show 0 < 256 by decide))])
  have ht:((dH 8 u).take i++a6 (8 - i) (0:UInt8)).set i (Ez (u / 2 ^ (8*i) % 256))=(dH 8 u).take (i+1)++a6 (8 - (i+1)) 0:=by
   have g:((dH 8 u).take i).length=i:=by simp [ir];omega
   have c:=SE ((dH 8 u).take i) (8 - (i+1)) (0:UInt8) (Ez (u / 2 ^ (8*i) % 256))
   rw [g,show 8 - (i+1)+1=8 - i by omega] at c
   rw [c,bn (Qc 8 u i hi)]
  rw [ht] at d
  unfold wA
  simp only [af,ai,bZ,aB,List.length_replicate,an,e,decide_true,ah,ad,hm,hs,hc,hl,dj hi,d,au (show i < 2 ^ 62 by omega)]
theorem Oy {u:Nat} (h:u < 2 ^ 64): ∃l:Byt,l.length=8/\jZ (.int .u64 (u:Int))=some [B l]:=⟨_,ir 8 u,Dc h⟩
theorem He {s:Byt} (h:s.length < 999999): ∃t:Byt,t.length=4/\fV (B s)=some [B (s++t)]:=by
 obtain ⟨c,hc,d⟩:=Xm (s:=s) (by omega) h
 obtain ⟨l,hl,e⟩:=Oy (u:=c) (by omega)
 have f:ea (B l) none (some (.int .i64 4))=some (B (l.take 4)):=BC (i:=4) (by omega)
 refine ⟨l.take 4,by simp [hl],?_⟩
 unfold fV
 simp only [d,ad,af,dT (show c < 2 ^ 64 by omega),e,f,M6 (a:=s) (b:=l.take 4) (by simp;omega)]
 rfl
open Classical in
 noncomputable def sum4 (s:Byt):Byt:=if h:s.length < 999999 then Classical.choose (He h) else [0,0,0,0]
theorem Wl (s:Byt):(sum4 s).length=4:=by
 unfold sum4;split
 ·rename_i h;exact (Classical.choose_spec (He h)).1
 ·rfl
theorem P9 {s:Byt} (h:s.length < 999999):fV (B s)=some [B (s++sum4 s)]:=by
 unfold sum4;rw [dif_pos h];exact (Classical.choose_spec (He h)).2
def mn (c:Ck):Byt:=Ez c.1::(aJ c.2.length++c.2)
 noncomputable def oneL (c:Ck):Byt:=mn c++sum4 (mn c)
theorem HF {c:Ck} (h:c.2.length<=900000):(mn c).length<=c.2.length+11:=by
 have:=aM (n:=c.2.length) (by omega)
 simp [mn];omega
theorem MU {c:Ck} (h:c.2.length<=900000):(oneL c).length<=c.2.length+15:=by
 have:=HF h
 have:=Wl (mn c)
 simp [oneL];omega
theorem So {c:Ck} (hk:c.1 < 256) (h:c.2.length<=900000):rA (.int .i64 (c.1:Int)) (B c.2)=some [B (oneL c)]:=by
 have hl:=aM (n:=c.2.length) (by omega)
 have hh:=HF h
 have d:=Tg c.1 (k:= .i64)
 rw [ek hk] at d
 have f:jW (.lst [[.int .u8 (c.1:Int)]])=some (B [Ez c.1]):=by
  have:=mD [Ez c.1]
  simp only [b7,cb,eB,oV hk] at this
  exact this
 have hs:=P9 (s:=mn c) (by omega)
 have e:[Ez c.1]++aJ c.2.length++c.2=mn c:=by simp [mn]
 unfold rA
 simp only [d,f,ad,ja,dT (show c.2.length < 2 ^ 64 by omega),dC (show c.2.length < 2 ^ 64 by omega),af,M6 (a:=[Ez c.1]) (b:=aJ c.2.length) (by simp;omega),M6 (a:=[Ez c.1]++aJ c.2.length) (b:=c.2) (by simp;omega),e,hs]
 rfl
theorem adV (a b:Byt):aa .eql (B a) (B b)=some (.bool (decide (a=b))):=by
 show some (IV.bool ((⟨a.toArray⟩:ByteArray).toList==(⟨b.toArray⟩:ByteArray).toList))=_
 rw [bR,bR]
 congr 2
 by_cases h:a=b<;>simp [h]
theorem abG (a b:Byt):aa .neq (B a) (B b)=some (.bool (!decide (a=b))):=by
 show some (IV.bool !((⟨a.toArray⟩:ByteArray).toList==(⟨b.toArray⟩:ByteArray).toList))=_
 rw [bR,bR]
 congr 2
 by_cases h:a=b<;>simp [h]
structure OkC (L:List Ck):Prop where
 len:L.length<=8
 kind: ∀i c,L[i]? =some c->c.1=i+1
 body: ∀c∈L,c.2.length<=900000
 noncomputable def fileL (L:List Ck):Byt:=[66,78,83,73,2]++L.flatMap oneL
theorem U4 {L:List Ck} (h:OkC L) (K:List Ck) (a: ∀c∈K,c∈L):(K.flatMap oneL).length<=900015*K.length:=
 fj λc hc=>by have:=h.body c (a c hc);have:=MU this;omega
theorem P0 {L:List Ck} (h:OkC L):pG (.int .i64 2) (fK L)=some [B (fileL L),.int .i64 0]:=by
 have hl:=h.len
 have k:aa .lss (.int .i64 2) (.int .i64 0)=some (.bool false):=rfl
 have l:aa .gtr (.int .i64 2) (.int .i64 255)=some (.bool false):=rfl
 have m:mo [[.nilp,.lst []],[.str ⟨#[66,78,83,73]⟩]]=some [.nilp,.lst (([66,78,83,73]:Byt).map eB),.int .i64 4,.nilf]:=rfl
 have n:bE .u8 (.int .i64 2)=some (.int .u8 2):=rfl
 have o:Hm [[.nilp,.lst (([66,78,83,73]:Byt).map eB)],[.int .u8 2]]=some [.nilp,.lst (([66,78,83,73,2]:Byt).map eB),.nilf]:=rfl
 unfold pG
 simp only [k,l,m,n,o,ad,ag,af,ai,ax,aB]
 rw [aN (λi=>[.nilp,.lst (([66,78,83,73,2]++(L.take i).flatMap oneL:Byt).map eB),.int .i64 (i:Int),.int .i64 (i:Int)]) L.length 0 [.nilp,.lst ((fileL L).map eB)] (by simp) (by omega) (λi hi=> ?_) (by
  unfold wE
  simp [fileL])]
 ·simp only [ad,aW,ai,mD];rfl
 ·have hx:=al hi
  generalize L[i]=c at hx
  have hk:=h.kind i c hx
  have hb:=h.body c (a2 hx)
  obtain ⟨g,j,_,_⟩:=Gl hx
  have f:((i:Int) < (L.length:Int)):=by omega
  have p: ¬((c.1:Int)<=(i:Int)):=by omega
  have q: ¬((255:Int) < (c.1:Int)):=by omega
  have r: ¬((1048576:Int) < (c.2.length:Int)):=by omega
  have d:=U4 h (L.take i) λc hc=>bA hc
  have s:=MU hb
  simp only [br] at d
  have hw:=oI (x:= .nilp) (a:=[66,78,83,73,2]++(L.take i).flatMap oneL) (b:=oneL c) (by simp only [a1,bO,b1];omega)
  have e:((i+1:Nat):Int)=(c.1:Int):=by omega
  unfold wE
  simp only [af,ai,aA,aD,an,f,decide_true,ah,ad,g,j,eCk,gk,p,decide_false,ag,aR,q,ja,r,So (show c.1 < 256 by omega) hb,hw,au (show i < 2 ^ 62 by omega),mN hx,a7,e]
theorem Q8 (v:UInt8) (t:Byt):cm (B ([66,78,83,73,v]++t))=some [.int .i64 (v.toNat:Int),.int .i64 0]:=by
 have e0:(IV.str ⟨#[66,78,83,73]⟩)=B [66,78,83,73]:=rfl
 have h1:(([66,78,83,73]:Byt).length:Int)<=((([66,78,83,73,v]:Byt)++t).length:Int):=by simp;omega
 have a:ea (B ([66,78,83,73,v]++t)) none (some (.int .i64 (([66,78,83,73]:Byt).length:Int)))=some (B [66,78,83,73]):=by
  have:=BC (l:=[66,78,83,73,v]++t) (i:=4) (k:= .i64) (by simp)
  exact this
 have c:ea (B ([66,78,83,73,v]++t)) (some (.int .i64 (([66,78,83,73]:Byt).length:Int))) none=some (B (v::t)):=by
  have:=Be (l:=[66,78,83,73,v]++t) (i:=4) (k:= .i64) (by simp)
  exact this
 have d:(IV.str ⟨#[]⟩)=B []:=rfl
 have e:Ho (B (v::t)) (.int .i64 0)=some (.int .u8 v.toNat):=WD (i:=0) (b:=v) rfl
 have f:=adv v.toNat_lt
 unfold cm jc eF eA
 simp only [e0,ja,ad,dm,h1,decide_true,ah,a,adV,af,fR,eh,b0,aY,bd,ag,c,d]
 show (aw [B (v::t),.bool true]).bind _=_
 have g:aw [B (v::t),.bool true]=some [B (v::t),.bool true]:=rfl
 have h:decide ((v::t:Byt)=[])=false:=by simp
 simp only [g,ad,af,ai,aY,bd,ag,adV,h,e,f]
 rfl
theorem xA (t:Byt):cm (B ([66,78,83,73,2]++t))=some [.int .i64 2,.int .i64 0]:=Q8 2 t
theorem K6 {c:Ck} {t:Byt} (hk:c.1 < 256) (h:c.2.length<=900000) (ht:t.length < 2 ^ 30):nV (B (oneL c++t))=some [.int .i64 (c.1:Int),B c.2,.int .i64 ((oneL c).length:Int),.int .i64 0]:=by
 have hl:=aM (n:=c.2.length) (by omega)
 have hh:=HF h
 have a:=Wl (mn c)
 have m:=MU h
 have e0:oneL c++t=[Ez c.1]++(aJ c.2.length++(c.2++(sum4 (mn c)++t))):=by simp [oneL,mn]
 have T1:=yC [Ez c.1] (aJ c.2.length++(c.2++(sum4 (mn c)++t))) 1 rfl
 rw [<-e0] at T1
 have N:=pT (n:=c.2.length) (by omega) (c.2++(sum4 (mn c)++t))
 have T2:=yC c.2 (sum4 (mn c)++t) (c.2.length:Int) rfl
 have T3:=yC (sum4 (mn c)) t 4 (by rw [a];rfl)
 have j: ¬((1048576:Int) < (c.2.length:Int)):=by omega
 have e:aa .sub (.int .i64 ((oneL c++t).length:Int)) (.int .i64 (t.length:Int))=some (.int .i64 ((oneL c).length:Int)):=by
  rw [mM (by simp) (by simp;omega)];congr 2;simp
 have f:aa .sub (.int .i64 ((oneL c).length:Int)) (.int .i64 4)=some (.int .i64 ((mn c).length:Int)):=by
  have:(oneL c).length=(mn c).length+4:=by simp [oneL,a]
  rw [qe (by omega) (by omega)];congr 2;omega
 have q1:ea (B (oneL c++t)) none (some (.int .i64 ((mn c).length:Int)))=some (B (mn c)):=by
  rw [BC (by simp [oneL])]
  unfold oneL;rw [a7,e5]
 have o:ea (B (oneL c++t)) none (some (.int .i64 ((oneL c).length:Int)))=some (B (oneL c)):=by
  rw [BC (by simp),e5]
 have g:=P9 (s:=mn c) (by omega)
 have hi:Ho (B [Ez c.1]) (.int .i64 0)=some (.int .u8 (c.1:Int)):=by
  have:=WD (l:=[Ez c.1]) (i:=0) (b:=Ez c.1) (k:= .i64) rfl
  rw [oV hk] at this;exact this
 unfold nV
 simp only [jP,ad,af,ai,T1,N,tP,tX,ag,drop2,aR,j,decide_false,fA (show c.2.length < 2 ^ 63 by omega),T2,T3,ja,pQ,e,f,q1,g,o]
 have d:aa .neq (B (mn c++sum4 (mn c))) (B (oneL c))=some (.bool false):=by
  rw [abG];simp [oneL]
 simp only [d,ad,ag,hi,fA (show c.1 < 2 ^ 63 by omega)]
 rfl
theorem MA {L:List Ck} (h:OkC L):kS (B (fileL L))=some [.int .i64 2,fK L,.int .i64 0]:=by
 have hl:=h.len
 have j:ea (B (fileL L)) (some (.int .i64 5)) none=some (B (L.flatMap oneL)):=by
  have:=Be (l:=fileL L) (i:=5) (k:= .i64) (by simp [fileL])
  exact this
 unfold kS
 rw [show cm (B (fileL L))=_ from xA (L.flatMap oneL)]
 simp only [ad,af,ai,tX,ag,j]
 have g:(IV.str ⟨#[]⟩)=B []:=rfl
 rw [aN (λi=>[B ((L.drop i).flatMap oneL),fK (L.take i),.int .i64 (i:Int)]) L.length 0 [fK L] (by simp) (by omega) (λi hi=> ?_) (by
  unfold ue
  simp [g,abG])]
 ·rfl
 ·have hx:=al hi
  generalize L[i]=c at hx
  have hk:=h.kind i c hx
  have hb:=h.body c (a2 hx)
  have o:=oM (f:=oneL) hx
  have b:=U4 h (L.drop (i+1)) λc hc=>c8 hc
  simp only [et] at b
  have n:=K6 (c:=c) (t:=(L.drop (i+1)).flatMap oneL) (by omega) hb (by omega)
  have e:decide (oneL c++(L.drop (i+1)).flatMap oneL=[])=false:=by simp [oneL,mn]
  have m:((i:Int) < (c.1:Int)):=by omega
  have a:bS 2 24 (fK (L.take i)) (.lst [[.int .i64 (c.1:Int),B c.2]])=some (fK (L.take i++[c])):=by
   simp only [bS]
   rw [if_pos ⟨by simp;omega,by simp⟩]
   simp [eCk]
  have d:((i+1:Nat):Int)=(c.1:Int):=by omega
  unfold ue
  simp only [af,ai,aA,o,g,abG,e,e4,ad,ah,n,aD,tX,ag,aR,m,decide_true,tu (oneL c).length rfl,a,bn hx,d]
end Go.AM
namespace Go.AM
def uw (r:Rep):List Ck:=[(1,aJ r.fc.toNat++aJ r.fr.toNat),(2,rowsL r.base),(3,Gz r.mks)]
structure OkRep (r:Rep):Prop where
 may:MayF r
 ok:OKF r
theorem OkRep.base {r:Rep} (h:OkRep r):OkBase r.base:=⟨h.may.tree,h.ok.base⟩
theorem OkRep.log {r:Rep} (h:OkRep r):OkLog r.log:=⟨h.may.moves,h.ok.log⟩
theorem OkRep.sm {r:Rep} (h:OkRep r):SmF 2000 r:=⟨h.base.len,h.log.len,by have:=h.may.marks.len;omega⟩
theorem OkRep.floor {r:Rep} (h:OkRep r):0<=r.fc/\r.fc<=4611686018427387903/\0<=r.fr/\r.fr<=255:=by
 rcases h.may.floor with ⟨h1,h2⟩ | hk
 ·omega
 ·unfold knownB at hk
  simp only [b5] at hk
  have:=Q7.1 hk.1
  omega
theorem ML {r:Rep} (h:OkRep r):nB (cU r.base) (.int .i64 r.fc) (.int .i64 r.fr) (bh r.log) (aQ r.mks)=some [fK (uw r),.int .i64 0]:=by
 obtain ⟨c,g,d,i⟩:=h.floor
 have hb:=h.base.len
 have hm:=h.may.marks.len
 have b:=Bt (l:=r.base) (by omega) h.ok.base
 rw [h.may.tree] at b
 have a:=yI (v:=r.mks) (by omega)
 rw [ED.2 h.may.marks] at a
 have e: ¬(r.fc < 0):=by omega
 have f: ¬(r.fr < 0):=by omega
 have c1:=vr (n:=r.fc.toNat) (by omega)
 have c2:=vr (n:=r.fr.toNat) (by omega)
 rw [bB c] at c1
 rw [bB d] at c2
 have j:=aM (n:=r.fc.toNat) (by omega)
 have k:=aM (n:=r.fr.toNat) (by omega)
 have hp:=put_eq (C:=jk) [(.ifc 266 false (.int .i64 r.fc),aJ r.fc.toNat),(.ifc 266 false (.int .i64 r.fr),aJ r.fr.toNat)] (by simp)
  (λp hp=>by
    simp only [bm,bx,or_false] at hp
    rcases hp with rfl | rfl
    ·exact c1
    ·exact c2)
  (λp hp=>by
    simp only [bm,bx,or_false] at hp
    rcases hp with rfl | rfl<;>simp only<;>omega)
 simp only [b7,cb,cl,c5,c6] at hp
 unfold nB
 rw [b]
 simp only [ad,af,aY,bd,ag,a,an,e,f,decide_false,hp,JE h.base,GY h.may.marks]
 rfl
theorem Zn {a b:List Ck} (o:a.length<=100) (hb:b.length<=100):dL (.lst [[fK a],[fK b]])=some [fK (a++b)]:=by
 have n:(IV.lst [[fK a],[fK b]])= .lst ([a,b].map λl=>[fK l]):=rfl
 have c: ∀(i:Nat) (l:List Ck),[a,b][i]? =some l->aK (.lst ([a,b].map λl=>[fK l])) (.int .i64 (i:Int)) 1=some i/\dh (.lst ([a,b].map λl=>[fK l])) i 0=some (fK l):= λi l h=>
  ⟨dY (enc:= λl=>[fK l]) h rfl e3,by rw [cf (enc:= λl=>[fK l]) h];rfl⟩
 rw [n]
 generalize p:(IV.lst ([a,b].map λl=>[fK l]))=X at c
 have hlen:aC X=some (.int .i64 2):=by rw [<-p];rfl
 unfold dL
 simp only [hlen,ad]
 rw [aN (λi=>[.int .i64 ((([a,b].take i).map c0).sum:Nat),.int .i64 (i:Int)]) 2 0 [.int .i64 ((a.length+b.length:Nat):Int)] (by simp) (by decide) (λi hi=> ?_) (by
  unfold j9
  simp)]
 ·have q:Vm 2 24 (.int .i64 ((a.length+b.length:Nat):Int))=some []:=by
   simp only [Vm]
   rw [if_pos ⟨by omega,by simp only [Int.toNat_natCast];omega,by decide⟩]
  simp only [ad,aW,af,q]
  rw [aN (λi=>[fK ([a,b].take i).flatten,.int .i64 (i:Int)]) 2 0 [fK (a++b)] (by simp) (by decide) (λi hi=> ?_) (by
   unfold jB
   simp)]
  ·rfl
  ·have hx:=al (show i < [a,b].length from hi)
   generalize [a,b][i]'(show i < [a,b].length from hi)=l at hx
   obtain ⟨g,j⟩:=c i l hx
   have d:((i:Int) < 2):=by omega
   have hl:l.length<=100:=by
    rcases bm.1 (a2 hx) with rfl | h
    ·exact o
    ·simp at h;subst h;exact hb
   have hf:([a,b].take i).flatten.length<=200:=by
    rcases i with _ | _ | i
    ·simp
    ·simp;omega
    ·omega
   have k:bS 2 24 (fK ([a,b].take i).flatten) (fK l)=some (fK (([a,b].take (i+1)).flatten)):=by
    rw [bn hx]
    simp only [bS]
    rw [if_pos ⟨by simp only [aB];omega,by simp [eCk]⟩]
    simp
   unfold jB
   simp only [af,ai,an,d,decide_true,ah,ad,g,j,k,au (show i < 2 ^ 62 by omega)]
 ·have hx:=al (show i < [a,b].length from hi)
  generalize [a,b][i]'(show i < [a,b].length from hi)=l at hx
  obtain ⟨g,j⟩:=c i l hx
  have d:((i:Int) < 2):=by omega
  have hl:l.length<=100:=by
   rcases bm.1 (a2 hx) with rfl | h
   ·exact o
   ·simp at h;subst h;exact hb
  have f:(([a,b].take (i+1)).map c0).sum=(([a,b].take i).map c0).sum+l.length:=by rw [bn hx];simp
  have hle:(([a,b].take i).map c0).sum<=200:=by
   rcases i with _ | _ | i
   ·simp
   ·simp;omega
   ·omega
  generalize (([a,b].take i).map c0).sum=s at*
  have e:aa .add (.int .i64 (s:Int)) (.int .i64 (l.length:Int))=some (.int .i64 ((s+l.length:Nat):Int)):=wW (by omega)
  have m: ¬(((s+l.length:Nat):Int) < 0):=by omega
  rw [f]
  unfold j9
  simp only [af,ai,an,d,decide_true,ah,ad,g,j,ax,aB,e,m,decide_false,ag,au (show i < 2 ^ 62 by omega)]
def SQ (r:Rep):List Ck:=uw r++xI r.log
 noncomputable def fileR (r:Rep):Byt:=fileL (SQ r)
theorem OkRep.chunks {r:Rep} (h:OkRep r):OkC (SQ r):=by
 obtain ⟨f,g,j,k⟩:=h.floor
 have m:=aM (n:=r.fc.toNat) (by omega)
 have o:=aM (n:=r.fr.toNat) (by omega)
 obtain ⟨_,_,_,_,_,_,_,A,x,y,z,q⟩:=NK h.base
 have hm:=X5 h.may.marks
 have hl:=h.log.len
 obtain ⟨a,b,d,e⟩:=WY h.log
 have p:=aM (n:=r.log.length) (by omega)
 have t:=Hi (l:=ns r.log) (by simp [ns];omega) h.log.short
 have u:=Mt (l:=ks r.log) (by simp [ks];omega)
 have v:=cK (s:=deltaL (cs r.log)) (by omega)
 have w:=cK (s:=deltaL (ps r.log)) (by omega)
 have hr:(rowsL r.base).length<=900000:=by simp only [rowsL,a1];omega
 refine ⟨cv 8,λi c hc=> ?_,λc hc=> ?_⟩
 ·match i,hc with
  | 0,hc=>cases hc;rfl
  | 1,hc=>cases hc;rfl
  | 2,hc=>cases hc;rfl
  | 3,hc=>cases hc;rfl
  | 4,hc=>cases hc;rfl
  | 5,hc=>cases hc;rfl
  | 6,hc=>cases hc;rfl
  | 7,hc=>cases hc;rfl
  | i+8,hc=>rw [List.getElem?_eq_none (show (SQ r).length<=i+8 by show 8<=i+8;omega)] at hc;cases hc
 ·simp only [SQ,uw,xI,List.mem_append,bm,bx,or_false] at hc
  rcases hc with (rfl | rfl | rfl) | (rfl | rfl | rfl | rfl | rfl)
  all_goals simp only [a1]
  all_goals omega
theorem PJ {r:Rep} (h:OkRep r):mY (cU r.base) (.int .i64 r.fc) (.int .i64 r.fr) (bh r.log) (aQ r.mks)=some [B (fileR r),.int .i64 0]:=by
 have d:=tf h.sm h.ok
 rw [xE.2 h.may] at d
 have c:=Zn (a:=uw r) (b:=xI r.log) (show 3<=100 by decide) (show 5<=100 by decide)
 have e:=P0 h.chunks
 unfold mY pP
 simp only [d,ad,af,ai,aY,bd,ag,ML h,tX,Kf h.log,c]
 rw [show uw r++xI r.log=SQ r from rfl,e]
 rfl
theorem Nm {r:Rep} (h:OkRep r):nU (fK (uw r))=some [cU r.base,.int .i64 r.fc,.int .i64 r.fr,.lst [],aQ r.mks,.int .i64 0]:=by
 obtain ⟨e,y,f,z⟩:=h.floor
 obtain ⟨t,_,p,s⟩:=Gl (l:=uw r) (i:=0) rfl
 obtain ⟨u,_,q,c1⟩:=Gl (l:=uw r) (i:=1) rfl
 obtain ⟨v,_,b2,c2⟩:=Gl (l:=uw r) (i:=2) rfl
 have b:aK (fK (uw r)) (.int .i64 0) 2=some 0:=t
 have c:aK (fK (uw r)) (.int .i64 1) 2=some 1:=u
 have d:aK (fK (uw r)) (.int .i64 2) 2=some 2:=v
 have hlen:aa .neq (.int .i64 ((uw r).length:Int)) (.int .i64 3)=some (.bool false):=rfl
 have t1:aa .neq (.int .i64 ((1:Nat):Int)) (.int .i64 1)=some (.bool false):=rfl
 have w:aa .neq (.int .i64 ((2:Nat):Int)) (.int .i64 2)=some (.bool false):=rfl
 have x:aa .neq (.int .i64 ((3:Nat):Int)) (.int .i64 3)=some (.bool false):=rfl
 have m:=pT (n:=r.fc.toNat) (by omega) (aJ r.fr.toNat)
 have o:=Li (n:=r.fr.toNat) (by omega) (aJ r.fr.toNat) [] (by simp)
 have g: ¬((9223372036854775807:Int) < (r.fc.toNat:Int)):=by omega
 have j: ¬((9223372036854775807:Int) < (r.fr.toNat:Int)):=by omega
 have i1:=fA (a:=r.fc.toNat) (k:= .u64) (by omega)
 have i2:=fA (a:=r.fr.toNat) (k:= .u64) (by omega)
 rw [bB e] at g i1
 rw [bB f] at j i2
 unfold nU
 simp only [ax,aB,hlen,ad,ag,b,c,d,p,q,b2,s,c1,c2,t1,w,x,af,ai,jP,m,o,Fa,drop2,tX,aR,g,j,decide_false,Hh h.base,E7 h.may.marks,i1,i2,bB e,bB f]
theorem aaS (a b:List Ck):ly 2 (fK (a++b)) none (some (.int .i64 (a.length:Int)))=some (fK a)/\ly 2 (fK (a++b)) (some (.int .i64 (a.length:Int))) none=some (fK b):=by
 have h1:((a++b).map eCk).all (λe=>e.length==2)=true:=by simp [eCk]
 have h2:((a++b).map eCk).length=a.length+b.length:=by simp
 constructor
 ·simp only [ly]
  rw [if_pos h1,h2,KT (by omega)]
  simp [<-cO]
 ·simp only [ly]
  rw [if_pos h1,h2,Bm (by omega)]
  simp [b3]
theorem PS {r:Rep} (h:OkRep r):mP (B (fileR r))=some (Z3 r [.int .i64 0]):=by
 have j:=tf h.sm h.ok
 rw [xE.2 h.may] at j
 have p:=xA ((SQ r).flatMap oneL)
 have o:=MA h.chunks
 obtain ⟨q,s⟩:=aaS (uw r) (xI r.log)
 have g:ly 2 (fK (SQ r)) none (some (.int .i64 3))=some (fK (uw r)):=q
 have i:ly 2 (fK (SQ r)) (some (.int .i64 3)) none=some (fK (xI r.log)):=s
 have k:aa .eql (.int .i64 0) (.int .i64 0)=some (.bool true):=rfl
 have l:aa .neq (.int .i64 2) (.int .i64 2)=some (.bool false):=rfl
 have m:aC (fK (SQ r))=some (.int .i64 8):=rfl
 have n:aa .neq (.int .i64 8) (.int .i64 8)=some (.bool false):=rfl
 have t: ∀a b c d e f:IV,nth [a,b,c,d,e,f] 5=f:= λ_ _ _ _ _ _=>rfl
 unfold mP
 rw [show cm (B (fileR r))=_ from p,show kS (B (fileR r))=_ from o]
 simp only [ad,af,ai,aA,aD,cp,cn,k,l,m,n,tX,ah,ag,g,i,Nm h,Jd h.log,j,aY,bd]
 rfl
end Go.AM
namespace Go.AM
theorem Uq {n:Nat} (h:n < 2 ^ 56) (b:UInt8):Ky (n:Int) b=((n*256+b.toNat:Nat):Int):=by
 have hb:b.toNat < 2 ^ 8:=b.toNat_lt
 have d:IntKind.u64.wrap ((n:Int)*256)=((n*256:Nat):Int):=by
  rw [show (n:Int)*256=((n*256:Nat):Int) by omega,xB (by omega)]
 have c:=rL (a:=n*256) (b:=b.toNat) (by omega) (by omega)
 simp only [aa,cr,if_true,Option.some.injEq,IV.int.injEq,true_and] at c
 unfold Ky
 rw [d,xB (show b.toNat < 2 ^ 64 by omega),c]
 have:=UN (a:=n) 8 hb
 rw [show n*2 ^ 8=n*256 by omega] at this
 rw [this]
theorem Nt: ∀(k u:Nat),k<=8->Je (dH k u)=((u % 256 ^ k:Nat):Int)
 | 0,u,_=>by simp [dH,Je,Nat.mod_one]
 | k+1,u,h=>by
   have a:u / 256 % 256 ^ k < 2 ^ 56:=by
    have h1:u / 256 % 256 ^ k < 256 ^ k:=e6 _ (Nat.pow_pos (by decide))
    have h2:256 ^ k<=256 ^ 7:=Nat.pow_le_pow_right (by decide) (by omega)
    have b:(256:Nat) ^ 7=2 ^ 56:=by decide
    omega
   rw [dH,Je,Nt k (u / 256) (by omega),Uq a,oV (e6 _ (by decide))]
   congr 1
   rw [Nat.pow_succ,e8 (256 ^ k) 256,Nat.mod_mul,Nat.add_comm,e8]
theorem aej {u:Nat} (h:u < 2 ^ 64) (t:Byt):pH (B (dH 8 u++t)) (.int .i64 0)=some [B t,.int .i64 0,.int .u64 (u:Int)]:=by
 have a:=yC (dH 8 u) t 8 (by rw [ir];rfl)
 have e:=Nt 8 u (cv _)
 rw [show (256:Nat) ^ 8=2 ^ 64 by decide,ek h] at e
 show (bj (B (dH 8 u++t)) (.int .i64 0) (.int .i64 8)).bind _=_
 rw [a,ad]
 show (if (⟨(dH 8 u).toArray⟩:ByteArray).size<=8 then some [B t,.int .i64 0,IV.int .u64 (Je (⟨(dH 8 u).toArray⟩:ByteArray).data.toList)] else none)=_
 rw [if_pos (by rw [wM,ir];exact cv _)]
 show some [B t,.int .i64 0,IV.int .u64 (Je (dH 8 u).toArray.toList)]=_
 rw [List.toList_toArray,e]
structure Nums (m:Mv) (x y z v:Nat):Prop where
 c:m.c=(x:Int)
 r:m.r=(y:Int)
 p:m.par=(z:Int)
 h:m.ch=(v:Int)
 c63:x < 2 ^ 63
 r63:y < 2 ^ 63
 p63:z < 2 ^ 63
 h63:v < 2 ^ 63
theorem Rt {m:Mv} (h:oneV m=true):Nums m m.c.toNat m.r.toNat m.par.toNat m.ch.toNat:=by
 obtain ⟨a,b,d,e⟩:=qS h
 have hr:=u6 h
 unfold RF at hr
 simp only [b5,decide_eq_true_eq] at hr
 obtain ⟨⟨⟨⟨⟨f,b2⟩,g⟩,i⟩,_⟩,_⟩:=hr
 exact ⟨by omega,by omega,by omega,by omega,by omega,by omega,by omega,by omega⟩
def iI (m:Mv):Byt:=[m.c.toNat,m.r.toNat,m.par.toNat,m.ch.toNat].flatMap aJ++(partL (zS m.nm)++dH 8 m.rk)
theorem OKm.canW {m:Mv} (h:OKm m):CanW m.rk:=⟨h.rk,by rw [<-B5];exact h.can⟩
theorem B3 {m:Mv} (h:oneV m=true):(iI m).length<=130:=by
 have n:=Rt h
 have h1:=(vU (u6 h)).1
 have h2:=cK (s:=zS m.nm) (by omega)
 have a:=fj (f:=aJ) (k:=10) (l:=[m.c.toNat,m.r.toNat,m.par.toNat,m.ch.toNat]) λx hx=>by
  simp only [bm,bx,or_false] at hx
  rcases hx with rfl | rfl | rfl | rfl
  ·exact aM (bf n.c63 (by decide))
  ·exact aM (bf n.r63 (by decide))
  ·exact aM (bf n.p63 (by decide))
  ·exact aM (bf n.h63 (by decide))
 simp only [bO,b1] at a
 unfold iI
 rw [a1,a1,ir]
 omega
theorem UZ {m:Mv} (hm:OKm m) (h:oneV m=true):tA (.int .i64 m.c) (.int .i64 m.r) (.int .i64 m.par) (.int .i64 m.ch) (.str m.nm) (.flt .f64 m.rk)=some [B (iI m)]:=by
 have n:=Rt h
 have h1:=(vU (u6 h)).1
 have C:=cK (s:=zS m.nm) (by omega)
 have A:=pM hm.rk
 rw [hm.canW.can] at A
 have d: ∀x∈[m.c.toNat,m.r.toNat,m.par.toNat,m.ch.toNat],x < 2 ^ 63:= λx hx=>by
  simp only [bm,bx,or_false] at hx
  rcases hx with rfl | rfl | rfl | rfl
  ·exact n.c63
  ·exact n.r63
  ·exact n.p63
  ·exact n.h63
 have j:=n.c
 have o:=n.r
 have t:=n.p
 have u:=n.h
 unfold iI
 revert j o t u d
 generalize m.c.toNat=c
 generalize m.r.toNat=r
 generalize m.par.toNat=p
 generalize m.ch.toNat=q
 intro d j o t u
 rw [j,o,t,u]
 have e: ∀k,(([c,r,p,q].take k).flatMap aJ).length<=40:= λk=>by
  have:=fj (f:=aJ) (k:=10) (l:=[c,r,p,q].take k) λx hx=>aM (bf (d x (bA hx)) (by decide))
  simp only [br,bO,b1] at this
  omega
 have v:=e 4
 rw [show [c,r,p,q].take 4=[c,r,p,q] from rfl] at v
 unfold tA
 rw [aN (λi=>[.nilp,.lst ((([c,r,p,q].take i).flatMap aJ).map eB),.int .i64 (i:Int)]) 4 0 [.nilp,.lst (([c,r,p,q].flatMap aJ).map eB)] (by rfl) (by decide) (λi hi=> ?_) (by
  unfold BI
  simp)]
 ·have y:=oI (x:= .nilp) (a:=[c,r,p,q].flatMap aJ) (b:=partL (zS m.nm)) (by omega)
  have z:=oI (x:= .nilp) (a:=[c,r,p,q].flatMap aJ++partL (zS m.nm)) (b:=dH 8 m.rk) (by rw [a1,ir];omega)
  simp only [ad,aW,af,ai,<-QM,Ip (s:=zS m.nm) (by omega),y,A,Dc hm.rk,z,mD,a7]
  rfl
 ·have hx:[c,r,p,q][i]? =some ([c,r,p,q].getD i 0):=by
   rw [List.getD_eq_getElem?_getD,al (show i < [c,r,p,q].length by simpa using hi)];rfl
  have hn:nth [IV.int .i64 (c:Int),.int .i64 (r:Int),.int .i64 (p:Int),.int .i64 (q:Int)] i= .int .i64 (([c,r,p,q].getD i 0:Nat):Int):=by
   match i,hi with
   | 0,_=>rfl
   | 1,_=>rfl
   | 2,_=>rfl
   | 3,_=>rfl
  generalize [c,r,p,q].getD i 0=x at hx hn
  have g:=d x (a2 hx)
  have w:((i:Int) < 4):=by omega
  have hl:=e i
  have hp:=aM (n:=x) (bf g (by decide))
  have hw:=oI (x:= .nilp) (a:=([c,r,p,q].take i).flatMap aJ) (b:=aJ x) (by omega)
  unfold BI
  simp only [af,ai,aA,an,w,decide_true,ah,ad,dj hi,hn,dT (show x < 2 ^ 64 by omega),dC (show x < 2 ^ 64 by omega),hw,au (show i < 2 ^ 62 by omega),mN hx]
def Iv (l:List Mv):Byt:=[66,78,83,73,1]++(aJ l.length++l.flatMap iI)
theorem M7 {l:List Mv} (h:OkLog l):kY (bh l)=some [B (Iv l),.int .i64 0]:=by
 have hl:=h.len
 have o:=ta (l:=l) (by omega)
 rw [h.may] at o
 have e0:(IV.str ⟨#[66,78,83,73,1]⟩)=B [66,78,83,73,1]:=rfl
 have hp:=aM (n:=l.length) (by omega)
 have g:mo [[.nilp,.lst []],[B [66,78,83,73,1]]]=some [.nilp,.lst (([66,78,83,73,1]:Byt).map eB),.int .i64 5,.nilf]:=oI (x:= .nilp) (a:=[]) (b:=[66,78,83,73,1]) (by decide)
 have j:=oI (x:= .nilp) (a:=[66,78,83,73,1]) (b:=aJ l.length) (by simp;omega)
 unfold kY
 simp only [o,ad,af,aY,bd,ag,e0,g,ax,aB,dT (show l.length < 2 ^ 64 by omega),dC (show l.length < 2 ^ 64 by omega),ai,j]
 rw [aN (λi=>[.nilp,.lst ((([66,78,83,73,1]++aJ l.length)++(l.take i).flatMap iI).map eB),.int .i64 (i:Int)]) l.length 0 [.nilp,.lst ((([66,78,83,73,1]++aJ l.length)++l.flatMap iI).map eB)] (by simp) (by omega) (λi hi=> ?_) (by
  unfold uM
  simp)]
 ·simp only [ad,aW,ai,mD,Iv,a7]
  rfl
 ·have hx:=al hi
  generalize l[i]=m at hx
  obtain ⟨_,p,r,_⟩:=wb hx
  have hm:=a2 hx
  have e:((i:Int) < (l.length:Int)):=by omega
  have d:=fj (f:=iI) (l:=l.take i) (k:=130) λq s=>B3 (h.one (bA s))
  simp only [br] at d
  have h1:=B3 (h.one hm)
  have c:(([66,78,83,73,1]:Byt)++aJ l.length).length<=15:=by simp only [a1,bO,b1];omega
  generalize ([66,78,83,73,1]:Byt)++aJ l.length=pre at c
  have hw:=oI (x:= .nilp) (a:=pre++(l.take i).flatMap iI) (b:=iI m) (by rw [a1];omega)
  unfold uM
  simp only [af,ai,aA,aD,cp,cn,an,e,decide_true,ah,ad,p,r,UZ (h.ok m hm) (h.one hm),hw,au (show i < 2 ^ 62 by omega),mN hx,a7]
theorem Uu {l:List Mv} (h:s6 l) {i:Nat} {a b:Mv} (d:l[i]? =some a) (hb:l[i+1]? =some b):befB a.c a.r b.c b.r=true:=by
 obtain ⟨h1,rfl⟩:=bb.1 d
 obtain ⟨h2,rfl⟩:=bb.1 hb
 exact cd.1 h i (i+1) h1 h2 (eP i)
set_option maxHeartbeats 2000000 in
theorem YU {l:List Mv} (h:OkLog l) {i:Nat} {m:Mv} (hx:l[i]? =some m):kl (.int .i64 (l.length:Int)) (B (Iv l)) [bh (l.take i),B ((l.drop i).flatMap iI),.int .i64 0,.int .i64 (i:Int)]=
  some (.next [bh (l.take (i+1)),B ((l.drop (i+1)).flatMap iI),.int .i64 0,.int .i64 ((i+1:Nat):Int)]):=by
 have hl:=h.len
 have hi:=(bb.1 hx).1
 have hmem:=a2 hx
 have hm:=h.ok m hmem
 have h1:=h.one hmem
 obtain ⟨n1,n2⟩:=vU (u6 h1)
 have n:=Rt h1
 have hc:=hm.canW
 have Q:((i:Int) < (l.length:Int)):=by omega
 have D:=s9 m
 rw [h1] at D
 have Y:=CR hc.lt hc.can
 have am:=cK (s:=zS m.nm) (by omega)
 have u:=fj (f:=iI) (l:=l.drop (i+1)) (k:=130) λq R=>B3 (h.one (c8 R))
 have o:=fj (f:=iI) (l:=l.take i) (k:=130) λq R=>B3 (h.one (bA R))
 simp only [et] at u
 simp only [br] at o
 have ao:=aM (n:=l.length) (by omega)
 have g:l.flatMap iI=(l.take i).flatMap iI++(iI m++(l.drop (i+1)).flatMap iI):=by
  rw [<-oM hx,<-c9,bM]
 have v:iI m=aJ m.c.toNat++(aJ m.r.toNat++(aJ m.par.toNat++(aJ m.ch.toNat++(partL (zS m.nm)++dH 8 m.rk)))):=by
  simp [iI]
 rw [oM hx]
 unfold Iv
 rw [g,v]
 rw [n.c,n.r,n.p,n.h] at D
 have d:bS 6 56 (bh (l.take i)) (.lst [[.int .i64 m.c,.int .i64 m.r,.int .i64 m.par,.int .i64 m.ch,.str m.nm,.flt .f64 m.rk]])=some (bh (l.take i++[m])):=KD (l:=l.take i) (k:=[m]) (by simp;omega) (by simp)
 rw [<-bn hx,n.c,n.r,n.p,n.h] at d
 have e:(i:Int)=0\/ ∃(j:Nat) (a:Mv),0 < (i:Int)/\aa .sub (.int .i64 (i:Int)) (.int .i64 1)=some (.int .i64 (j:Int))/\bU (l.take i).length (.int .i64 (j:Int))=some j/\eo (bh (l.take i)) j 0 2=some [.int .i64 a.c,.int .i64 a.r]/\di (.int .i64 a.c) (.int .i64 a.r) (.int .i64 (m.c.toNat:Int)) (.int .i64 (m.r.toNat:Int))=some [.bool true]:=by
  cases i with
  | zero=>exact .inl rfl
  | succ j=>
    have J:=al (show j < l.length by omega)
    generalize l[j]'(show j < l.length by omega)=a at J
    have K:(l.take (j+1))[j]? =some a:=by rw [List.getElem?_take,if_pos (eP j),J]
    obtain ⟨_,_,_,X,_⟩:=wb K
    refine .inr ⟨j,a,by omega,by rw [show (1:Int)=((1:Nat):Int) from rfl,mM (a:=j+1) (b:=1) (by omega) (by omega)];rfl,dj (by simp;omega),X,?_⟩
    rw [<-n.c,<-n.r,jw,Uu (gb.1 h.may).2.2 J hx]
 have G:=ir 8 m.rk
 have hnm:B (zS m.nm)= .str m.nm:=QM _
 have I:xO ⟨(zS m.nm).toArray⟩=true:=by rw [R7];exact n2
 have w:= λt=>pT (show m.c.toNat < 2 ^ 64 from bf n.c63 (by decide)) t
 have x:= λt=>pT (show m.r.toNat < 2 ^ 64 from bf n.r63 (by decide)) t
 have y:= λt=>pT (show m.par.toNat < 2 ^ 64 from bf n.p63 (by decide)) t
 have z:= λt=>pT (show m.ch.toNat < 2 ^ 64 from bf n.h63 (by decide)) t
 have w1:=aM (show m.c.toNat < 2 ^ 64 from bf n.c63 (by decide))
 have w2:=aM (show m.r.toNat < 2 ^ 64 from bf n.r63 (by decide))
 have w3:=aM (show m.par.toNat < 2 ^ 64 from bf n.p63 (by decide))
 have V:=aM (show m.ch.toNat < 2 ^ 64 from bf n.h63 (by decide))
 have c63:=n.c63
 have r63:=n.r63
 have p63:=n.p63
 have h63:=n.h63
 clear n h1 v g
 revert D d e w x y z w1 w2 w3 V c63 r63 p63 h63
 generalize m.c.toNat=c
 generalize m.r.toNat=r
 generalize m.par.toNat=p
 generalize m.ch.toNat=q
 intro D d e w x y z w1 w2 w3 V c63 r63 p63 h63
 generalize (l.drop (i+1)).flatMap iI=T at u
 generalize (l.take i).flatMap iI=A at o
 have U:= λt=>aej hc.lt t
 generalize dH 8 m.rk=W at G U
 obtain ⟨P,H⟩: ∃P:Byt,P=[66,78,83,73,1]++(aJ l.length++(A++(aJ c++(aJ r++(aJ p++aJ q))))):=⟨_,rfl⟩
 have ab:P.length<=2 ^ 20:=by rw [H];simp only [a1,bO,b1];omega
 have E:[66,78,83,73,1]++(aJ l.length++(A++(aJ c++(aJ r++(aJ p++(aJ q++(partL (zS m.nm)++W))))++T)))=P++(partL (zS m.nm)++(W++T)):=by
  rw [H];simp only [a7]
 rw [E]
 clear E H
 simp only [a7]
 have F:aa .sub (.int .i64 ((P++(partL (zS m.nm)++(W++T))).length:Int)) (.int .i64 ((partL (zS m.nm)++(W++T)).length:Int))=some (.int .i64 (P.length:Int)):=by
  rw [mM (by simp) (by simp only [a1];omega)];congr 2;simp only [a1];omega
 have C:aa .sub (.int .i64 ((P++partL (zS m.nm)).length:Int)) (.int .i64 (P.length:Int))=some (.int .i64 ((partL (zS m.nm)).length:Int)):=by
  rw [mM (by simp) (by simp only [a1];omega)];congr 2;simp only [a1];omega
 have hW:=EN (p:=P) (s:=zS m.nm) (t:=W++T) n1 I (by simp only [a1];omega)
 have hT:=yC (partL (zS m.nm)) (W++T) _ rfl
 have l1:((c:Int)<=9223372036854775807):=by omega
 have l2:((r:Int)<=9223372036854775807):=by omega
 have l3:((p:Int)<=9223372036854775807):=by omega
 have l4:((q:Int)<=9223372036854775807):=by omega
 have hlen:(l.take i).length=i:=by simp;omega
 have Z:X9 [bh (l.take i),B (aJ c++(aJ r++(aJ p++(aJ q++(partL (zS m.nm)++(W++T)))))),.int .i64 0,.int .i64 (i:Int)] (.int .i64 0) (B T) (.int .i64 0) (.int .i64 (c:Int)) (.int .i64 (r:Int)) (.int .i64 (p:Int)) (.int .i64 (q:Int)) (.str m.nm) (.flt .f64 m.rk)=some (.next [bh (l.take (i+1)),B T,.int .i64 0,.int .i64 ((i+1:Nat):Int)]):=by
  unfold X9
  rcases e with hz | ⟨j,a,hz,L,M,N,O⟩
  ·have S: ¬((0:Int) < (i:Int)):=by omega
   simp only [af,aD,tX,ad,ag,aR,S,decide_false,d,au (show i < 2 ^ 62 by omega)]
  ·simp only [af,ai,aD,tX,ad,ag,ah,aR,hz,decide_true,bZ,aB,hlen,L,hlen▸M,N,O,aY,bd,d,au (show i < 2 ^ 62 by omega)]
 unfold kl
 simp only [af,ai,aA,aD,an,Q,decide_true,ah,ad,w,x,y,z,drop2,gk,l1,l2,l3,l4,fA c63,fA r63,fA p63,fA h63,tP,tX,ag,ja,pQ,F,hW,C,hT,U,Y,aY,bd,C4 hc,hnm,D,Z]
theorem MZ {l:List Mv} (h:OkLog l):k7 (B (Iv l))=some [bh l,.int .i64 0]:=by
 have hl:=h.len
 have g:=Q8 1 (aJ l.length++l.flatMap iI)
 have c:aa .neq (.int .i64 1) (.int .i64 1)=some (.bool false):=rfl
 have d:ea (B ([66,78,83,73,1]++(aJ l.length++l.flatMap iI))) (some (.int .i64 5)) none=some (B (aJ l.length++l.flatMap iI)):=tu (s:=[66,78,83,73,1]) 5 rfl
 have j: ¬((2000:Int) < (l.length:Int)):=by omega
 unfold k7
 have e:=aN (f:=kl (.int .i64 (l.length:Int)) (B (Iv l))) (vs0:=[.lst [],B (l.flatMap iI),.int .i64 0,.int .i64 0]) (λi=>[bh (l.take i),B ((l.drop i).flatMap iI),.int .i64 0,.int .i64 (i:Int)]) l.length 0 [bh l,B [],.int .i64 0] (by simp) (by omega) (λi hi=>YU h (al hi)) (by
  unfold kl
  simp)
 have b:cm (B (Iv l))=some [.int .i64 1,.int .i64 0]:=g
 have a:ea (B (Iv l)) (some (.int .i64 5)) none=some (B (aJ l.length++l.flatMap iI)):=d
 simp only [b,ad,af,ai,tX,ag,c,a,jP,pT (show l.length < 2 ^ 64 by omega),tP,drop2,aR,j,decide_false,fA (show l.length < 2 ^ 63 by omega),e,aW,aA,Fa]
end Go.AM
