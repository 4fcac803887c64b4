/- Files, plainly: parts behind their lengths; ranks. -/
import Derived.Test.YtgoenohknokcmaaGreatCo
import Derived.Test.YtgoenohknokcmaaGreatCk
open Option renaming bind_some->ab,map_some->bB
open List renaming getElem?_eq_getElem->ad,length_map->ao,mem_of_getElem?->a1,replicate->a2,length_append->a5,append_assoc->a7,mem_map->bb,mem_cons->bd,not_mem_nil->bm,getElem?_eq_some_iff->br,length_take->bs,length_filter_le->bx,getElem?_map->bC,take_append_drop->bM,mem_of_mem_take->bO,map_cons->bR,idxOf_lt_length_of_mem->b1,map_nil->b3,drop_eq_getElem_cons->b4,nodup_append->b5,flatMap_cons->b7,map_take->ca,length->cb,flatMap_nil->cd,take_of_length_le->ck,append_nil->cl,length_replicate->cv,mem_cons_of_mem->cO,pairwise_cons->c0,foldl_append->c5,idxOf_append->c6,filter_cons->c7,mem_filter->c8,foldl_cons->c9,nil_append->dd,map_append->dq,take_left->ec,map_drop->eg
open Go.IntKind renaming u32->aB
open BitVec renaming ofInt->a6
open Bool renaming not_true->a8,and_eq_true->cc,not_false->ds
open Int renaming toNat_of_nonneg->bf
open Go.ByteArray renaming toList_eq->bA
set_option linter.unusedVariables false
set_option linter.unusedSimpArgs false
namespace Go.AM
def partL (s:Byt):Byt:=bt s.length++s
theorem dB {s:Byt} (h:s.length < 2 ^ 60):(partL s).length<=s.length+10:=by
 have:=bE (n:=s.length) (by omega)
 simp [partL];omega
theorem nr {s:Byt} (h:s.length < 2 ^ 40):bH (B s)=some [B (partL s)]:=by
 have hl:=bE (n:=s.length) (by omega)
 unfold bH
 simp only [jR,ab,fp (show s.length < 2 ^ 64 by omega),fw (show s.length < 2 ^ 64 by omega),af,L5 (a:=bt s.length) (b:=s) (by omega)]
 rfl
theorem UJ {s:Byt} (h:s.length < 2 ^ 40):ya (B s)=some [B (partL s)]:=nr h
theorem NB {n:Nat} (h:n < 2 ^ 64) (s t:Byt) (e:s=bt n++t):aA (B s) (.int .i64 0)=some [B t,.int .i64 0,.int .u64 (n:Int)]:=by subst e;exact yu h t
theorem drop2 (a b c:IV):([a,b,c]:List IV).drop 2=[c]:=rfl
theorem vS:aa .neq (.int .i64 0) (.int .i64 0)=some (.bool false):=rfl
theorem lV (s:Byt):cn (B s)=some [B s,.int .i64 0]:=rfl
theorem wC {s t:Byt} {k:IntKind} (n:Nat) (h:n=s.length):fx (B (s++t)) (some (.int k (n:Int))) none=some (B t):=by
 subst h
 rw [zI (by simp),List.drop_left]
theorem pt {a b:Byt} (h:a.length+b.length < 2 ^ 40):bI (B (partL a++b))=some [B a,B b,.int .i64 0]:=by
 have c:=NB (n:=a.length) (by omega) (partL a++b) (a++b) (by simp [partL])
 have hl:=bE (n:=a.length) (by omega)
 have h1: ¬(((a++b).length:Int) < (a.length:Int)):=by simp;omega
 have d:=FU a b (a.length:Int) rfl
 have hs:aa .sub (.int .i64 ((partL a++b).length:Int)) (.int .i64 (b.length:Int))=some (.int .i64 ((partL a).length:Int)):=by
  rw [qE (by simp) (by simp [partL];omega)];congr 2;simp
 unfold bI
 simp only [lV,c,ab,af,ai,yy,vS,ag,qx,drop2,fp (show (a++b).length < 2 ^ 64 by simp;omega),aV,h1,decide_false,kX (show a.length < 2 ^ 63 by omega),d,jR,hs,wC (partL a).length rfl]
 rfl
theorem acr:ct (.int .i64 0)=some []:=rfl
theorem xy {a b:Byt} (h:a.length+b.length < 2 ^ 40):l7 (B (partL a++b))=some [B a,B b]:=by
 unfold l7
 rw [pt h];rfl
def oI (w:Nat):Bool:=decide (w≠0)
def ranksL (l:List Nat):Byt:=partL (rG (l.map oI))++rE (l.filter oI)
theorem Yk {α:Type} (a:List α) (k:Nat) (z x:α):(a++a2 (k+1) z).set a.length x=a++[x]++a2 k z:=by
 rw [List.set_append_right _ _ (Nat.le_refl _)]
 simp [List.replicate_succ]
theorem LZ {α:Type} {enc:α->List IV} {l:List α} {i:Nat} {x:α} {v:IV} (hi:i < l.length) (he: ∀y,(enc y).length=1) (hv:enc x=[v]):rI (.lst (l.map enc)) i 0 [v]=some (.lst ((l.set i x).map enc)):=by
 have a:=ad hi
 generalize l[i]=y at a
 simp only [rI,bC,a,bB,ab]
 rw [if_pos (by rw [he];simp)]
 have:setCells (enc y) 0 [v]=enc x:=by
  have:=he y
  cases b:enc y with
  | nil=>rw [b] at this;simp at this
  | cons c cs=>rw [b] at this;simp at this;subst this;rw [hv];rfl
 rw [this,List.map_set]
theorem LI {l:List Nat} (hl:l.length<=4096):(ranksL l).length<=2 ^ 17:=by
 have h1:=Dr (l:=l.map oI) (by simp;omega)
 have h2:=Dw (ns:=l.filter oI)
 have a:=bx oI l
 have b:=dB (s:=rG (l.map oI)) (by simp at h1;omega)
 simp at h1
 simp only [ranksL,a5]
 omega
theorem uT {l:List Nat} (hl:l.length<=4096) (h: ∀w∈l,CanW w):fO (qu l)=some [B (ranksL l)]:=by
 have j:kQ 1 [.bool false] (.int .i64 (l.length:Int)) (.int .i64 (l.length:Int))=some (s8 (a2 l.length false)):=by
  simp only [kQ]
  rw [if_pos ⟨trivial,by omega,by simp;omega⟩]
  simp [eBl]
 unfold fO
 simp only [aw,ab,ao,j]
 rw [ba (λi=>[s8 ((l.take i).map oI++a2 (l.length - i) false),qu ((l.take i).filter oI),.int .i64 (i:Int)]) l.length 0 [s8 (l.map oI),qu (l.filter oI)] (by simp) (by omega) (λi hi=> ?_) (by
  unfold pI
  simp)]
 ·have h1:=Dr (l:=l.map oI) (by simp;omega)
  have h2:=Dw (ns:=l.filter oI)
  have t:=bx oI l
  have u:=dB (s:=rG (l.map oI)) (by simp at h1;omega)
  simp only [ao] at h1
  have q:=Jf (l:=l.map oI) (by simp;omega)
  have r:=Jo (ns:=l.filter oI) (by omega) λn hn=>h n (c8.1 hn).1
  simp only [ab,aK,af,ai,q,nr (s:=rG (l.map oI)) (by omega),r,L5 (a:=partL (rG (l.map oI))) (b:=rE (l.filter oI)) (by omega)]
  rfl
 ·have f:=ad hi
  generalize l[i]=w at f
  obtain ⟨o,p⟩:=Vj f
  have hc:=h w (a1 f)
  have g:((i:Int) < (l.length:Int)):=by omega
  have m:=sw hc.lt
  rw [hc.can] at m
  have hlen:((l.take i).map oI++a2 (l.length - i) false).length=l.length:=by simp;omega
  have d:=LZ (enc:=eBl) (l:=(l.take i).map oI++a2 (l.length - i) false) (i:=i) (x:=oI w) (v:= .bool (oI w)) (by omega) (λ_=>rfl) rfl
  have c:=Yk ((l.take i).map oI) (l.length - (i+1)) false (oI w)
  rw [show ((l.take i).map oI).length=i by simp;omega,show l.length - (i+1)+1=l.length - i by omega] at c
  rw [c] at d
  have e:dV (s8 ((l.take i).map oI++[oI w]++a2 (l.length - (i+1)) false)) i 0=some (.bool (oI w)):=by
   refine (YL ?_).2
   rw [a7,List.getElem?_append_right (by simp;omega)]
   simp [show i - min i l.length=0 by omega]
  have k:aa .neq (.int .u64 (w:Int)) (.int .u64 0)=some (.bool (oI w)):=by
   rw [dv];congr 2;unfold oI;simp
  unfold pI
  simp only [af,ai,ay,al,g,decide_true,ah,ab,o,p,m,k,cC,ao,hlen,fi hi,d,e,au (show i < 2 ^ 62 by omega),EE (l:=(l.take i).filter oI) (show ((l.take i).filter oI).length < 2 ^ 20 by have:=bx oI (l.take i);simp at this;omega),bp f]
  cases hw:oI w<;>simp [hw]
theorem ZR {l:List Nat} {i w:Nat} (a:l[i]? =some w):(l.drop i).filter oI=if oI w=true then w::(l.drop (i+1)).filter oI else (l.drop (i+1)).filter oI:=by
 have hi:=(br.1 a).1
 rw [b4 hi,(br.1 a).2,c7]
theorem acA (l:List Nat):OP (l.map oI)=(l.filter oI).length:=by
 unfold OP
 induction l with
 | nil=>rfl
 | cons x l ih=>simp only [bR,c7];cases oI x<;>simp_all
theorem aaS {x:Nat} {l:List Nat}:kT 1 (qu (x::l)) (some (.int .i64 1)) none=some (qu l):=by
 simp only [kT]
 rw [if_pos (by simp [eFl])]
 have:=Az (n:=((x::l).map eFl).length) (i:=1) (k:= .i64) (by simp)
 rw [show ((1:Nat):Int)=1 from rfl] at this
 rw [this,ab]
 simp [ck]
theorem tq {l:List Nat} (hl:l.length<=4096) (h: ∀w∈l,CanW w):ar (B (ranksL l)) (.int .i64 (l.length:Int))=some [qu l,.int .i64 0]:=by
 have h1:=Dr (l:=l.map oI) (by simp;omega)
 have h2:=Dw (ns:=l.filter oI)
 have y:=bx oI l
 simp only [ao] at h1
 have d:=xy (a:=rG (l.map oI)) (b:=rE (l.filter oI)) (by omega)
 have q:=IX (l:=l.map oI) (by simp;omega)
 have p:=MK (l:=l.map oI) (by simp;omega)
 rw [acA] at p
 have v:=J7 (ns:=l.filter oI) (by omega) λn hn=>h n (c8.1 hn).1
 simp only [ao] at q
 have j:qI (s8 (l.map oI)) (.int .i64 0)=some [s8 (l.map oI)]:=rfl
 have g:kr (qu (l.filter oI)) (.int .i64 0)=some [qu (l.filter oI)]:=rfl
 unfold ar ranksL
 simp only [d,ab,af,ai,q,j,p,v,g,aw,ao]
 rw [ba (λi=>[qu (l.take i),qu ((l.drop i).filter oI),.int .i64 (i:Int)]) l.length 0 [qu l] (by simp) (by omega) (λi hi=> ?_) (by
  unfold cz
  simp)]
 ·simp only [ab,aK,af,vS,ag]
 ·have e:=ad hi
  generalize l[i]=w at e
  have hc:=h w (a1 e)
  have k:((i:Int) < (l.length:Int)):=by omega
  have o:(l.map oI)[i]? =some (oI w):=by rw [bC,e];rfl
  obtain ⟨s,t⟩:=YL o
  have c:= λx=>EE (l:=l.take i) (x:=x) (show (l.take i).length < 2 ^ 20 by simp;omega)
  rw [ZR e]
  unfold cz
  simp only [af,ai,ay,al,k,decide_true,ah,ab,s,t,au (show i < 2 ^ 62 by omega),bp e,c]
  cases hw:oI w with
  | true=>
    have m:w≠0:=of_decide_eq_true hw
    obtain ⟨u,b2⟩:=Vj (l:=w::(l.drop (i+1)).filter oI) (i:=0) rfl
    have f:aP (qu (w::(l.drop (i+1)).filter oI)) (.int .i64 0) 1=some 0:=u
    have r:=RN hc.lt (show (0:Nat) < 2 ^ 64 by decide)
    rw [hc.can,show bitsN 0=0 from rfl,decide_eq_false m] at r
    simp only [if_true,ah,f,b2,aaS,ab,r,af,ag,c]
  | false=>
    have hz:w=0:=by
     have:=of_decide_eq_false hw
     simpa using this
    subst hz
    simp only [Bool.false_eq_true,if_false,ag]
end Go.AM
namespace Go.AM
def eS (s:Byt):List IV:=[B s]
abbrev Dm (l:List Byt):IV:= .lst (l.map eS)
theorem aao {l:List Byt} {i:Nat} {x:Byt} (h:l[i]? =some x):aP (Dm l) (.int .i64 (i:Int)) 1=some i/\dV (Dm l) i 0=some (B x):=
 ⟨ee h rfl (by decide),by rw [cg h];rfl⟩
theorem SA {l:List Byt} {x:Byt} (hl:l.length < 2 ^ 20):bX 1 16 (Dm l) (.lst [[B x]])=some (Dm (l++[x])):=by
 simp only [bX]
 rw [if_pos ⟨by simp;omega,by simp⟩]
 simp [eS]
theorem acT (a b:Byt):HO (B a) (B b)=some (decide (a=b)):=by
 have:((⟨a.toArray⟩:ByteArray)==⟨b.toArray⟩)=decide (a=b):=by
  rw [Bool.eq_iff_iff,MapKept.bytes_beq,decide_eq_true_iff]
  constructor
  ·intro e;injection e with e;simpa using e
  ·rintro rfl;rfl
 simp only [HO,B,this]
def om (v:Nat->IV):Nat->List Byt->List (List IV)
 | _,[]=>[]
 | k,s::W=>[B s,v k]::om v (k+1) W
theorem V0 (v:Nat->IV): ∀(W:List Byt) (k:Nat),(om v k W).length=W.length
 | [],_=>rfl
 | s::W,k=>by simp [om,V0 v W]
theorem xY (v:Nat->IV) (s:Byt): ∀(W:List Byt) (k i:Nat),vg (B s) (om v k W) i=some (if s∈W then some (i+W.idxOf s,v (k+W.idxOf s)) else none)
 | [],k,i=>by simp [om,vg]
 | t::W,k,i=>by
   simp only [om,vg,acT]
   by_cases h:s=t
   ·subst h;simp
   ·simp only [decide_eq_false h]
    rw [xY v s W (k+1) (i+1)]
    have h2:(t==s)=false:=beq_false_of_ne λe=>h e.symm
    by_cases hm:s∈W
    ·simp [h,hm,List.idxOf_cons,h2]
     constructor
     ·omega
     ·congr 1;omega
    ·simp [h,hm]
theorem HA (v:Nat->IV) (s:Byt): ∀(W:List Byt) (k:Nat),om v k (W++[s])=om v k W++[[B s,v (k+W.length)]]
 | [],k=>by simp [om]
 | t::W,k=>by
   simp only [List.cons_append,om]
   rw [HA v s W (k+1)]
   simp;congr 1;omega
def xD (W:List Byt) (s:Byt):List Byt:=if s∈W then W else W++[s]
def aq (l:List Byt):List Byt:=l.foldl xD []
theorem abQ (W:List Byt) (s:Byt): ∃R,xD W s=W++R:=by
 unfold xD;split
 ·exact ⟨[],by simp⟩
 ·exact ⟨_,rfl⟩
theorem QD: ∀(l W:List Byt),∃R,l.foldl xD W=W++R
 | [],W=>⟨[],by simp⟩
 | s::l,W=>by
   obtain ⟨R,h⟩:=QD l (xD W s)
   obtain ⟨Q,h2⟩:=abQ W s
   exact ⟨Q++R,by rw [c9,h,h2,a7]⟩
theorem Xu (l:List Byt) (i:Nat): ∃R,aq l=aq (l.take i)++R:=by
 unfold aq
 conv=>enter [1,R];lhs;rw [<-bM i l,c5]
 exact QD _ _
theorem xX {l:List Byt} {i:Nat} {s:Byt} (h:l[i]? =some s):aq (l.take (i+1))=xD (aq (l.take i)) s:=by
 unfold aq;rw [bp h,c5];rfl
theorem VJ (l:List Byt):(aq l).Nodup:=by
 have: ∀(l W:List Byt),W.Nodup->(l.foldl xD W).Nodup:=by
  intro l
  induction l with
  | nil=>intro W h;exact h
  | cons s l ih=>
    intro W h
    refine ih _ ?_
    unfold xD;split
    ·exact h
    ·rename_i hs
     rw [b5]
     refine ⟨h,by simp,?_⟩
     intro a c b hb
     simp at hb;subst hb
     exact λe=>hs (e▸c)
 exact this l [] (by simp)
theorem qv (l:List Byt): ∀s,s∈aq l↔s∈l:=by
 have: ∀(l W:List Byt) (s:Byt),s∈l.foldl xD W↔s∈W\/s∈l:=by
  intro l
  induction l with
  | nil=>intro W s;simp
  | cons t l ih=>
    intro W s
    rw [c9,ih]
    unfold xD;split
    ·rename_i h
     constructor
     ·rintro (h1 | h1)
      ·exact .inl h1
      ·exact .inr (cO _ h1)
     ·rintro (h1 | h1)
      ·exact .inl h1
      ·rcases bd.1 h1 with rfl | h1
       ·exact .inl h
       ·exact .inr h1
    ·simp [or_assoc]
 intro s
 have:=this l [] s
 simpa [aq] using this
theorem oz (l:List Byt):(aq l).length<=l.length:=by
 have: ∀(l W:List Byt),(l.foldl xD W).length<=W.length+l.length:=by
  intro l
  induction l with
  | nil=>intro W;simp
  | cons s l ih=>
    intro W
    have:=ih (xD W s)
    have h2:(xD W s).length<=W.length+1:=by unfold xD;split<;>simp
    simp;omega
 simpa [aq] using this l []
def nV (l:List Byt) (s:Byt):Nat:=(aq l).idxOf s
theorem Xb {l:List Byt} {s:Byt} (h:s∈l):nV l s < (aq l).length:=b1 ((qv l s).2 h)
theorem Ng {l:List Byt} {i:Nat} {s:Byt} (h:s∈aq (l.take i)):(aq (l.take i)).idxOf s=nV l s:=by
 obtain ⟨R,a⟩:=Xu l i
 unfold nV
 rw [a,c6,if_pos h]
theorem YA {l:List Byt} {i:Nat} {s:Byt} (a:l[i]? =some s) (h:s∉aq (l.take i)):nV l s=(aq (l.take i)).length:=by
 have hm:s∈aq (l.take (i+1)):=by rw [xX a];unfold xD;rw [if_neg h];simp
 rw [<-Ng hm,xX a]
 unfold xD
 rw [if_neg h,c6,if_neg h];simp
theorem Pz {l:List Byt} (hl:l.length<=4096):oS (Dm l)=some [Dm (aq l),NF (l.map (nV l))]:=by
 have m:kQ 8 [.int .u64 0] (.int .i64 (l.length:Int)) (.int .i64 (l.length:Int))=some (NF (a2 l.length 0)):=by
  simp only [kQ]
  rw [if_pos ⟨trivial,by omega,by simp;omega⟩]
  simp [eU]
 unfold oS
 simp only [aw,ab,ao,m]
 rw [ba (λi=>[.map (om (λk=> .int .u64 (k:Int)) 0 (aq (l.take i))),Dm (aq (l.take i)),NF ((l.take i).map (nV l)++a2 (l.length - i) 0),.int .i64 (i:Int)]) l.length 0 [Dm (aq l),NF (l.map (nV l))] (by simp [aq,om]) (by omega) (λi hi=> ?_) (by
  unfold wc
  simp)]
 ·rfl
 ·have g:=ad hi
  generalize l[i]=s at g
  obtain ⟨o,p⟩:=aao g
  have j:((i:Int) < (l.length:Int)):=by omega
  have hlen:((l.take i).map (nV l)++a2 (l.length - i) 0).length=l.length:=by simp;omega
  have a:=LZ (enc:=eU) (l:=(l.take i).map (nV l)++a2 (l.length - i) 0) (i:=i) (x:=nV l s) (v:= .int .u64 (nV l s:Int)) (by omega) (λ_=>rfl) rfl
  have c:=Yk ((l.take i).map (nV l)) (l.length - (i+1)) 0 (nV l s)
  rw [show ((l.take i).map (nV l)).length=i by simp;omega,show l.length - (i+1)+1=l.length - i by omega] at c
  rw [c] at a
  have f:(l.take (i+1)).map (nV l)=(l.take i).map (nV l)++[nV l s]:=by rw [bp g];simp
  have n:=oz (l.take i)
  simp only [bs] at n
  have e:yl .str (.map (om (λk=> .int .u64 (k:Int)) 0 (aq (l.take i)))) (B s) (.int .u64 0)=some (if s∈aq (l.take i) then [.int .u64 (nV l s:Int),.bool true] else [.int .u64 0,.bool false]):=by
   unfold yl
   rw [if_pos (show Na .str (B s)=true from rfl)]
   simp only [KO,xY,bB]
   by_cases h:s∈aq (l.take i)
   ·simp [h,Ng h]
   ·simp [h]
  rw [f,xX g]
  unfold wc
  simp only [af,ai,ay,aH,al,j,decide_true,ah,ab,o,p,e]
  by_cases h:s∈aq (l.take i)
  ·simp only [h,if_true,ai,af,aZ,a8,ag,ab,cC,ao,hlen,fi hi,a,au (show i < 2 ^ 62 by omega),xD]
  ·have b:=YA g h
   have d:qp .str (.map (om (λk=> .int .u64 (k:Int)) 0 (aq (l.take i)))) (B s) (.int .u64 (nV l s:Int))=some (.map (om (λk=> .int .u64 (k:Int)) 0 (aq (l.take i)++[s]))):=by
    unfold qp
    rw [if_pos (show Na .str (B s)=true from rfl)]
    simp only [H8,xY,h,if_false,ab]
    rw [HA,b];simp
   rw [b] at d a
   simp only [h,if_false,ai,af,aZ,ds,ah,ab,cC,ao,fp (show (aq (l.take i)).length < 2 ^ 64 by omega),d,SA (show (aq (l.take i)).length < 2 ^ 20 by omega),hlen,fi hi,a,au (show i < 2 ^ 62 by omega),xD,b]
def DA (l:List Byt):Prop:= ∀s∈l,s.length<=64/\Gk ⟨s.toArray⟩=true
def dictL (l:List Byt):Byt:=bt (aq l).length++((aq l).flatMap partL++ph (l.map (nV l)))
theorem My {l:List Byt} (hl:l.length<=4096): ∀x∈l.map (nV l),x < 2 ^ 64:= λx a=>by
 obtain ⟨s,hs,rfl⟩:=bb.1 a
 have:=Xb hs;have:=oz l;omega
theorem xm {l:List Byt} (h:DA l) (W:List Byt) (a: ∀s∈W,s∈l):(W.flatMap partL).length<=74*W.length:=
 lD (k:=74) λs hs=>by
  have h1:=(h s (a s hs)).1
  have:=dB (s:=s) (by omega)
  omega
theorem GZ {l:List Byt} (hl:l.length<=4096) (h:DA l):(dictL l).length<=2 ^ 19:=by
 have h1:=xm h (aq l) λs hs=>(qv l s).1 hs
 have h2:=oz l
 have b:=bE (n:=(aq l).length) (by omega)
 have a:=BJ (l:=l.map (nV l)) (by simp;omega) (My hl)
 simp only [ao] at a
 simp only [dictL,a5]
 omega
theorem Bf {l:List Byt} (hl:l.length<=4096) (h:DA l):kA (Dm l)=some [B (dictL l)]:=by
 have h2:=oz l
 have p:=bE (n:=(aq l).length) (by omega)
 have k:=BJ (l:=l.map (nV l)) (by simp;omega) (My hl)
 simp only [ao] at k
 have d:=xw (x:= .nilp) (a:=[]) (b:=bt (aq l).length) (by simp;omega)
 simp only [b3,dd] at d
 unfold kA
 simp only [Pz hl,ab,af,ai,aw,ao,fp (show (aq l).length < 2 ^ 64 by omega),fw (show (aq l).length < 2 ^ 64 by omega),d]
 rw [ba (λi=>[.nilp,.lst ((bt (aq l).length++((aq l).take i).flatMap partL).map eB),.int .i64 (i:Int)]) (aq l).length 0 [.nilp,.lst ((bt (aq l).length++(aq l).flatMap partL).map eB)] (by simp) (by omega) (λi hi=> ?_) (by
  unfold s9
  simp)]
 ·have m:=AQ (l:=l.map (nV l)) (by simp;omega) (My hl)
  have c:=xm h (aq l) λs hs=>(qv l s).1 hs
  have hw:=xw (x:= .nilp) (a:=bt (aq l).length++(aq l).flatMap partL) (b:=ph (l.map (nV l))) (by rw [a5];omega)
  simp only [ab,aK,ai,af,m,hw,oO]
  unfold dictL
  rw [a7];rfl
 ·have e:=ad hi
  generalize (aq l)[i]=s at e
  obtain ⟨g,j⟩:=aao e
  have f:((i:Int) < ((aq l).length:Int)):=by omega
  have hs:=(h s ((qv l s).1 (a1 e))).1
  have c:=xm h ((aq l).take i) λs hs=>(qv l s).1 (bO hs)
  simp only [bs] at c
  have o:=dB (s:=s) (by omega)
  have hw:=xw (x:= .nilp) (a:=bt (aq l).length++((aq l).take i).flatMap partL) (b:=partL s) (by rw [a5];omega)
  unfold s9
  simp only [af,ai,ay,al,f,decide_true,ah,ab,g,j,UJ (s:=s) (by omega),hw,au (show i < 2 ^ 62 by omega),qk e,a7]
theorem Rd {p s t:Byt} (hs:s.length<=64) (hv:Gk ⟨s.toArray⟩=true) (h:p.length+t.length < 2 ^ 40):rj (B (p++(partL s++t))) (.int .i64 (p.length:Int)) (.int .i64 64)=some [B s,.int .i64 ((p++partL s).length:Int),.int .i64 0]:=by
 have l:=dB (s:=s) (by omega)
 have e0: ¬((p.length:Int) < 0):=by omega
 have d: ¬(((p++(partL s++t)).length:Int) < (p.length:Int)):=by simp;omega
 have j:=NB (n:=s.length) (by omega) (partL s++t) (s++t) (by simp [partL])
 have e: ¬((64:Int) < 0):=by decide
 have f:bL .u64 (.int .i64 64)=some (.int .u64 64):=rfl
 have g: ¬((64:Int) < (s.length:Int)):=by omega
 have i: ¬(((s++t).length:Int) < (s.length:Int)):=by simp;omega
 have k:=FU s t (s.length:Int) rfl
 have c:=CN (s:=⟨s.toArray⟩) (by rw [yz];omega)
 rw [hv] at c
 have b:jI (B s)=some [.bool true]:=c
 have a:aa .sub (.int .i64 ((p++(partL s++t)).length:Int)) (.int .i64 (t.length:Int))=some (.int .i64 ((p++partL s).length:Int)):=by
  rw [qE (by simp;omega) (by simp;omega)];congr 2;simp only [a5];omega
 unfold rj
 simp only [al,e0,decide_false,ab,ag,jR,aV,d,af,wC p.length rfl,lV,ai,j,yy,vS,e,f,drop2,g,qx,fp (show (s++t).length < 2 ^ 64 by simp;omega),i,kX (show s.length < 2 ^ 63 by omega),k,b,aZ,a8,a]
 rfl
theorem U7 {l:List Byt} (hl:l.length<=4096):tl (Dm (aq l)) (NF (l.map (nV l)))=some [.bool true]:=by
 have h2:=oz l
 unfold tl
 simp only [aw,ab,ao]
 rw [ba (λi=>[.int .u64 ((aq (l.take i)).length:Int),.int .i64 (i:Int)]) l.length 0 [.int .u64 ((aq l).length:Int)] (by simp [aq]) (by omega) (λi hi=> ?_) (by
  unfold Bd
  simp)]
 ·simp only [ab,aK]
  rw [ba (λi=>[.map (om (λ_=> .bool true) 0 ((aq l).take i)),.int .i64 (i:Int)]) (aq l).length 0 [.map (om (λ_=> .bool true) 0 (aq l))] (by simp [om]) (by omega) (λi hi=> ?_) (by
   unfold yo
   simp)]
  ·simp only [ab,aK,af,fp (show (aq l).length < 2 ^ 64 by omega),dc,decide_true,ah,Cy,V0,dQ,dm,bB]
  ·have a:=ad hi
   generalize (aq l)[i]=s at a
   obtain ⟨g,j⟩:=aao a
   have c:((i:Int) < ((aq l).length:Int)):=by omega
   have n:s∉(aq l).take i:=by
    have e:=VJ l
    rw [<-bM (i+1) (aq l),bp a] at e
    have k:=(b5.1 (b5.1 e).1).2.2
    intro hm
    exact k s hm s (by simp) rfl
   have f:qp .str (.map (om (λ_=> .bool true) 0 ((aq l).take i))) (B s) (.bool true)=some (.map (om (λ_=> .bool true) 0 ((aq l).take (i+1)))):=by
    unfold qp
    rw [if_pos (show Na .str (B s)=true from rfl)]
    simp only [H8,xY,n,if_false,ab]
    rw [bp a,HA]
   unfold yo
   simp only [af,ai,al,c,decide_true,ah,ab,g,j,f,au (show i < 2 ^ 62 by omega)]
 ·have a:=ad hi
  generalize l[i]=s at a
  have p:(l.map (nV l))[i]? =some (nV l s):=by rw [bC,a];rfl
  obtain ⟨g,j⟩:=adI p
  have c:((i:Int) < (l.length:Int)):=by omega
  have t:=Xb (a1 a)
  have o:=oz (l.take i)
  simp only [bs] at o
  have hle:nV l s<=(aq (l.take i)).length/\(aq (l.take (i+1))).length=max (aq (l.take i)).length (nV l s+1):=by
   rw [xX a]
   unfold xD
   by_cases h:s∈aq (l.take i)
   ·have k:=b1 h
    rw [Ng h] at k
    rw [if_pos h];omega
   ·have:=YA a h
    rw [if_neg h];simp;omega
  have q: ¬(((aq (l.take i)).length:Int) < (nV l s:Int)):=by omega
  have r: ¬(((aq l).length:Int)<=(nV l s:Int)):=by omega
  have d:aa .add (.int .u64 (nV l s:Int)) (.int .u64 1)=some (.int .u64 ((nV l s+1:Nat):Int)):=od (b:=1) (by omega)
  have m:max ((aq (l.take i)).length:Int) ((nV l s+1:Nat):Int)=((aq (l.take (i+1))).length:Int):=by omega
  unfold Bd
  simp only [af,ai,al,c,decide_true,ah,ab,g,j,aV,q,decide_false,ag,aw,ao,fp (show (aq l).length < 2 ^ 64 by omega),dk,r,d,adg,m,au (show i < 2 ^ 62 by omega)]
theorem R9 {l:List Byt} (hl:l.length<=4096):qZ (Dm (aq l)) (NF (l.map (nV l)))=some [Dm l,.bool true]:=by
 have h2:=oz l
 have j:kQ 16 [.str ⟨#[]⟩] (.int .i64 (l.length:Int)) (.int .i64 (l.length:Int))=some (Dm (a2 l.length [])):=by
  simp only [kQ]
  rw [if_pos ⟨trivial,by omega,by simp;omega⟩]
  simp [eS,B]
 unfold qZ
 simp only [aw,ab,ao,j]
 rw [ba (λi=>[Dm (l.take i++a2 (l.length - i) []),.int .i64 (i:Int)]) l.length 0 [Dm l] (by simp) (by omega) (λi hi=> ?_) (by
  unfold xL
  simp)]
 ·rfl
 ·have f:=ad hi
  generalize l[i]=s at f
  have m:(l.map (nV l))[i]? =some (nV l s):=by rw [bC,f];rfl
  obtain ⟨n,o⟩:=adI m
  have h:((i:Int) < (l.length:Int)):=by omega
  have a:=Xb (a1 f)
  have q: ¬(((aq l).length:Int)<=(nV l s:Int)):=by omega
  have c:aa .add (.int .u64 (nV l s:Int)) (.int .u64 1)=some (.int .u64 ((nV l s+1:Nat):Int)):=od (b:=1) (by omega)
  have hlen:(l.take i++a2 (l.length - i) ([]:Byt)).length=l.length:=by simp;omega
  have d:(aq l)[nV l s]? =some s:=by
   exact br.2 ⟨a,List.getElem_idxOf a⟩
  have k:kT 1 (Dm (aq l)) (some (.int .u64 (nV l s:Int))) (some (.int .u64 ((nV l s+1:Nat):Int)))=some (Dm [s]):=by
   simp only [kT]
   rw [if_pos (by simp [eS])]
   have:kV ((aq l).map eS).length (some (.int .u64 (nV l s:Int))) (some (.int .u64 ((nV l s+1:Nat):Int)))=some (nV l s,nV l s+1):=by
    simp only [kV,ao,Ka (show nV l s+1<=(aq l).length by omega),ab,Ka (show nV l s<=nV l s+1 by omega)]
   rw [this,ab]
   have e:((aq l).drop (nV l s)).take 1=[s]:=by
    rw [b4 a,(br.1 d).2];rfl
   show some (IV.lst ((((aq l).map eS).drop (nV l s)).take (nV l s+1 - nV l s)))=_
   rw [show nV l s+1 - nV l s=1 by omega,<-eg,<-ca,e]
  have g:pT 1 (Dm (l.take i++a2 (l.length - i) [])) i l.length (Dm [s])=some (Dm (l.take (i+1)++a2 (l.length - (i+1)) []),.int .i64 1):=by
   simp only [pT]
   rw [if_pos ⟨by omega,by rw [ao,hlen];exact Nat.le_refl _,by simp [eS]⟩]
   have p:min (l.length - i) ([s].map eS).length=1:=by simp;omega
   rw [p]
   congr 3
   rw [<-ca,<-eg,List.take_left' (by simp;omega),<-ca,<-dq,<-dq]
   congr 1
   rw [bp f]
   congr 1
   rw [List.drop_append,List.drop_eq_nil_of_le (by simp;omega),dd,List.drop_replicate,bs]
   congr 1
   omega
  unfold xL
  simp only [af,ai,al,h,decide_true,ah,ab,n,o,aw,ao,fp (show (aq l).length < 2 ^ 64 by omega),dk,q,decide_false,ag,cC,hlen,Az (show i<=l.length by omega),c,k,g]
  have e0:aa .eql (.int .i64 1) (.int .i64 0)=some (.bool false):=rfl
  simp only [e0,ab,ag,au (show i < 2 ^ 62 by omega)]
theorem zP {l:List Byt} (hl:l.length<=4096) (h:DA l):bT (B (dictL l)) (.int .i64 (l.length:Int)) (.int .i64 64)=some [Dm l,.int .i64 0]:=by
 have h2:=oz l
 have x:=bE (n:=(aq l).length) (by omega)
 have u:=BJ (l:=l.map (nV l)) (by simp;omega) (My hl)
 have y:=xm h (aq l) λs hs=>(qv l s).1 hs
 simp only [ao] at u
 have e0: ¬((l.length:Int) < 0):=by omega
 have q: ¬((4096:Int) < (l.length:Int)):=by omega
 have v:=NB (n:=(aq l).length) (by omega) (dictL l) _ rfl
 have r: ¬((l.length:Int) < ((aq l).length:Int)):=by omega
 have d:aa .sub (.int .i64 ((dictL l).length:Int)) (.int .i64 ((((aq l).flatMap partL++ph (l.map (nV l))).length:Nat):Int))=some (.int .i64 ((bt (aq l).length).length:Int)):=by
  rw [qE (by simp [dictL]) (by simp only [dictL,a5];omega)];congr 2;simp [dictL]
 have m:=zX (l:=l.map (nV l)) (by simp;omega) (My hl)
 simp only [ao] at m
 unfold bT
 simp only [al,e0,decide_false,ab,ag,aV,q,lV,af,ai,v,yy,vS,fp (show l.length < 2 ^ 64 by omega),drop2,r,jR,qx,d]
 rw [ba (λi=>[Dm ((aq l).take i),.int .i64 ((bt (aq l).length++((aq l).take i).flatMap partL).length:Nat),.int .u64 (i:Int)]) (aq l).length 0 [Dm (aq l),.int .i64 ((bt (aq l).length++(aq l).flatMap partL).length:Nat)] (by simp) (by omega) (λi hi=> ?_) (by
  unfold rH
  simp)]
 ·have k:fx (B (dictL l)) (some (.int .i64 ((bt (aq l).length++(aq l).flatMap partL).length:Nat))) none=some (B (ph (l.map (nV l)))):=by
   unfold dictL
   rw [<-a7]
   exact wC _ rfl
  simp only [ab,aK,af,ai,k,m,vS,ag,U7 hl,aZ,a8,R9 hl]
 ·have e:=ad hi
  generalize (aq l)[i]=s at e
  obtain ⟨g,j⟩:=h s ((qv l s).1 (a1 e))
  have f:((i:Int) < ((aq l).length:Int)):=by omega
  have a:dictL l=(bt (aq l).length++((aq l).take i).flatMap partL)++(partL s++(((aq l).drop (i+1)).flatMap partL++ph (l.map (nV l)))):=by
   unfold dictL
   conv=>lhs;enter [2,1];rw [<-bM i (aq l),List.flatMap_append,sP e]
   simp only [a7]
  have w:=dB (s:=s) (by omega)
  have o:=Rd (p:=bt (aq l).length++((aq l).take i).flatMap partL) (s:=s) (t:=((aq l).drop (i+1)).flatMap partL++ph (l.map (nV l))) g j (by
   have:=GZ hl h
   rw [a] at this
   simp only [a5] at this ⊢
   omega)
  rw [<-a] at o
  have c:aa .add (.int .u64 (i:Int)) (.int .u64 1)=some (.int .u64 ((i+1:Nat):Int)):=od (b:=1) (by omega)
  unfold rH
  simp only [af,ai,ay,drop2,al,f,decide_true,ah,ab,o,vS,ag,SA (show ((aq l).take i).length < 2 ^ 20 by simp;omega),c,bp e,qk e,a7]
  simp [a7]
end Go.AM
namespace Go.AM
abbrev Ck:=Nat×Byt
def eCk (c:Ck):List IV:=[.int .i64 (c.1:Int),B c.2]
abbrev fJ (l:List Ck):IV:= .lst (l.map eCk)
theorem FX {l:List Ck} {i:Nat} {x:Ck} (h:l[i]? =some x):aP (fJ l) (.int .i64 (i:Int)) 2=some i/\ff (fJ l) i 0 2=some (eCk x)/\dV (fJ l) i 0=some (.int .i64 (x.1:Int))/\dV (fJ l) i 1=some (B x.2):=
 ⟨ee h rfl (by decide),qM h rfl,by rw [cg h];rfl,by rw [cg h];rfl⟩
def Zy (s:ByteArray):Byt:=s.data.toList
theorem X8 (s:ByteArray):B (Zy s)= .str s:=(af2 s).symm
theorem Yv (s:ByteArray):(⟨(Zy s).toArray⟩:ByteArray)=s:=by unfold Zy;simp
theorem abX {m:Mv} (h:oneV m=true):Vs m.ch m.par m.nm=true:=by unfold oneV at h;exact (cc _ _▸h).2
theorem YG {ch par:Int} {nm:ByteArray} (h:Vs ch par nm=true):(Zy nm).length<=64/\Gk nm=true:=by
 unfold Vs at h
 simp only [cc,decide_eq_true_eq] at h
 refine ⟨?_,h.2⟩
 unfold Zy
 rw [BO];exact h.1.2
def cs (l:List Mv):List Int:=l.map (·.c)
def ps (l:List Mv):List Int:=l.map (·.par)
def hs (l:List Mv):List Int:=l.map (·.ch)
def rs (l:List Mv):List Nat:=l.map (·.r.toNat)
def ns (l:List Mv):List Byt:=l.map λm=>Zy m.nm
def ks (l:List Mv):List Nat:=l.map (·.rk)
def xS (l:List Mv):List Ck:=[(4,bt l.length),(5,partL (deltaL (cs l))++ph (rs l)),(6,partL (deltaL (ps l))++deltaL (hs l)),(7,dictL (ns l)),(8,ranksL (ks l))]
structure OkLog (l:List Mv):Prop where
 may:mayV l=true
 ok: ∀m∈l,OKm m
theorem OkLog.len {l:List Mv} (h:OkLog l):l.length<=2000:=(fX.1 h.may).1
theorem OkLog.one {l:List Mv} (h:OkLog l) {m:Mv} (hm:m∈l):oneV m=true:=(fX.1 h.may).2.1 m hm
theorem OkLog.rs64 {l:List Mv} (h:OkLog l): ∀x∈rs l,x < 2 ^ 64:= λx a=>by
 obtain ⟨m,hm,rfl⟩:=bb.1 a
 have:=ou (h.one hm);omega
theorem OkLog.can {l:List Mv} (h:OkLog l): ∀x∈ks l,CanW x:= λx a=>by
 obtain ⟨m,hm,rfl⟩:=bb.1 a
 exact ⟨(h.ok m hm).rk,by rw [<-Gl];exact (h.ok m hm).can⟩
theorem OkLog.short {l:List Mv} (h:OkLog l):DA (ns l):= λs hs=>by
 obtain ⟨m,hm,rfl⟩:=bb.1 hs
 obtain ⟨h1,h2⟩:=YG (abX (h.one hm))
 exact ⟨h1,by rw [Yv];exact h2⟩
theorem OkLog.csI {l:List Mv} (h:OkLog l): ∀x∈cs l,in64 x:= λx a=>by
 obtain ⟨m,hm,rfl⟩:=bb.1 a
 have:=ou (h.one hm);constructor<;>omega
theorem OkLog.psI {l:List Mv} (h:OkLog l): ∀x∈ps l,in64 x:= λx a=>by
 obtain ⟨m,hm,rfl⟩:=bb.1 a
 exact (h.ok m hm).par
theorem OkLog.hsI {l:List Mv} (h:OkLog l): ∀x∈hs l,in64 x:= λx a=>by
 obtain ⟨m,hm,rfl⟩:=bb.1 a
 exact (h.ok m hm).ch
theorem kj {α β:Type} {f:α->β} {l:List α} {i:Nat} {x:α} (h:l[i]? =some x):(l.take (i+1)).map f=(l.take i).map f++[f x]:=by rw [bp h];simp
theorem Xv {l:List Mv} (h:OkLog l):(deltaL (cs l)).length<=20000/\(deltaL (ps l)).length<=20000/\(deltaL (hs l)).length<=20000/\(ph (rs l)).length<=40000:=by
 have hl:=h.len
 have h1:=fU (ns:=cs l)
 have h2:=fU (ns:=ps l)
 have a:=fU (ns:=hs l)
 have b:=BJ (l:=rs l) (by simp [rs];omega) h.rs64
 simp only [cs,ps,hs,rs,ao] at*
 omega
theorem Jc {l:List Mv} (h:OkLog l):lM (aI l)=some [fJ (xS l),.int .i64 0]:=by
 have hl:=h.len
 obtain ⟨J,K,L,M⟩:=Xv h
 have g:=xI (l:=l) (by omega)
 rw [h.may] at g
 unfold lM
 simp only [g,ab,af,aZ,a8,ag,aw,ao]
 rw [ba (λi=>[bQ (cs (l.take i)),bQ (ps (l.take i)),bQ (hs (l.take i)),NF (rs (l.take i)),Dm (ns (l.take i)),qu (ks (l.take i)),.int .i64 (i:Int)]) l.length 0 [bQ (cs l),bQ (ps l),bQ (hs l),NF (rs l),Dm (ns l),qu (ks l)] (by simp [cs,ps,hs,rs,ns,ks]) (by omega) (λi hi=> ?_) (by
  unfold rF
  simp)]
 ·have h1:=nP (ns:=cs l) (by simp [cs];omega)
  have h2:=nP (ns:=ps l) (by simp [ps];omega)
  have C:=nP (ns:=hs l) (by simp [hs];omega)
  have D:=AQ (l:=rs l) (by simp [rs];omega) h.rs64
  have E:=Bf (l:=ns l) (by simp [ns];omega) h.short
  have F:=uT (l:=ks l) (by simp [ks];omega) h.can
  have N:=dB (s:=deltaL (cs l)) (by omega)
  have O:=dB (s:=deltaL (ps l)) (by omega)
  simp only [ab,aK,af,ai,ay,aH,bW,bV,fp (show l.length < 2 ^ 64 by omega),fw (show l.length < 2 ^ 64 by omega),h1,h2,C,D,E,F,nr (s:=deltaL (cs l)) (by omega),nr (s:=deltaL (ps l)) (by omega),L5 (a:=partL (deltaL (cs l))) (b:=ph (rs l)) (by omega),L5 (a:=partL (deltaL (ps l))) (b:=deltaL (hs l)) (by omega)]
  rfl
 ·have d:=ad hi
  generalize l[i]=m at d
  have hm:=a1 d
  obtain ⟨H,j,o,I⟩:=zH d
  have e:((i:Int) < (l.length:Int)):=by omega
  obtain ⟨_,_,P,Q⟩:=ou (h.one hm)
  have hr:bL .u64 (.int .i64 m.r)=some (.int .u64 (m.r.toNat:Int)):=aa6 (by omega) (by omega)
  have G:(l.take i).length<=2000:=by simp;omega
  have p:=tZ (l:=cs (l.take i)) (n:=m.c) (by simp [cs];omega)
  have b2:=tZ (l:=ps (l.take i)) (n:=m.par) (by simp [ps];omega)
  have q:=tZ (l:=hs (l.take i)) (n:=m.ch) (by simp [hs];omega)
  have t:bX 1 8 (NF (rs (l.take i))) (.lst [[.int .u64 (m.r.toNat:Int)]])=some (NF (rs (l.take i)++[m.r.toNat])):=ach (l:=rs (l.take i)) (k:=[m.r.toNat]) (by simp [rs];omega) (by simp)
  have f:=SA (l:=ns (l.take i)) (x:=Zy m.nm) (by simp [ns];omega)
  rw [X8] at f
  have b6:=EE (l:=ks (l.take i)) (x:=m.rk) (by simp [ks];omega)
  have u:cs (l.take (i+1))=cs (l.take i)++[m.c]:=kj d
  have v:ps (l.take (i+1))=ps (l.take i)++[m.par]:=kj d
  have w:hs (l.take (i+1))=hs (l.take i)++[m.ch]:=kj d
  have y:rs (l.take (i+1))=rs (l.take i)++[m.r.toNat]:=kj d
  have z:ns (l.take (i+1))=ns (l.take i)++[Zy m.nm]:=kj d
  have A:ks (l.take (i+1))=ks (l.take i)++[m.rk]:=kj d
  rw [u,v,w,y,z,A]
  unfold rF
  simp only [af,ai,ay,aH,bW,bV,sO,al,e,decide_true,ah,ab,j,o,hr,p,b2,q,t,f,b6,au (show i < 2 ^ 62 by omega)]
theorem afV {l:List Mv} {i:Nat} {m:Mv} (h:l[i]? =some m):(cs l)[i]? =some m.c/\(ps l)[i]? =some m.par/\(hs l)[i]? =some m.ch/\(rs l)[i]? =some m.r.toNat/\(ns l)[i]? =some (Zy m.nm)/\(ks l)[i]? =some m.rk:=by
 simp [cs,ps,hs,rs,ns,ks,h]
theorem count_eq {n:Nat} (h:n<=2000):m4 (B (bt n))=some [.int .i64 (n:Int)]:=by
 have a:=NB (n:=n) (by omega) (bt n) [] (by simp)
 have h1: ¬((2000:Int) < (n:Int)):=by omega
 unfold m4
 simp only [lV,ab,af,ai,a,Kh,drop2,acr,aV,h1,decide_false,ag,kX (show n < 2 ^ 63 by omega)]
 rfl
theorem JA {l:List Mv} (h:OkLog l):lA (fJ (xS l))=some [aI l,.int .i64 0]:=by
 have hl:=h.len
 obtain ⟨Y,Z,d3,d4⟩:=Xv h
 have hlen:(xS l).length=5:=rfl
 obtain ⟨O,_,_,M⟩:=FX (l:=xS l) (i:=0) rfl
 obtain ⟨P,_,_,c1⟩:=FX (l:=xS l) (i:=1) rfl
 obtain ⟨Q,_,_,c2⟩:=FX (l:=xS l) (i:=2) rfl
 obtain ⟨R,_,_,c3⟩:=FX (l:=xS l) (i:=3) rfl
 obtain ⟨S,_,_,c4⟩:=FX (l:=xS l) (i:=4) rfl
 have t:aP (fJ (xS l)) (.int .i64 0) 2=some 0:=O
 have u:aP (fJ (xS l)) (.int .i64 1) 2=some 1:=P
 have v:aP (fJ (xS l)) (.int .i64 2) 2=some 2:=Q
 have w:aP (fJ (xS l)) (.int .i64 3) 2=some 3:=R
 have y:aP (fJ (xS l)) (.int .i64 4) 2=some 4:=S
 have h1:=eV (ns:=cs l) (by simp [cs];omega) h.csI
 have h2:=eV (ns:=ps l) (by simp [ps];omega) h.psI
 have z:=eV (ns:=hs l) (by simp [hs];omega) h.hsI
 have A:=zX (l:=rs l) (by simp [rs];omega) h.rs64
 have C:=zP (l:=ns l) (by simp [ns];omega) h.short
 have D:=tq (l:=ks l) (by simp [ks];omega) h.can
 rw [show (cs l).length=l.length by simp [cs]] at h1
 rw [show (ps l).length=l.length by simp [ps]] at h2
 rw [show (hs l).length=l.length by simp [hs]] at z
 rw [show (rs l).length=l.length by simp [rs]] at A
 rw [show (ns l).length=l.length by simp [ns]] at C
 rw [show (ks l).length=l.length by simp [ks]] at D
 have u1:=xy (a:=deltaL (cs l)) (b:=ph (rs l)) (by omega)
 have u2:=xy (a:=deltaL (ps l)) (b:=deltaL (hs l)) (by omega)
 have g: ∀x:IV,kI x (.int .i64 0)=some [x]/\qD x (.int .i64 0)=some [x]/\qy x (.int .i64 0)=some [x]/\kr x (.int .i64 0)=some [x]:= λx=>⟨rfl,rfl,rfl,rfl⟩
 have E:=xI (l:=l) (by omega)
 rw [h.may] at E
 have N:aa .neq (.int .i64 ((5:Nat):Int)) (.int .i64 5)=some (.bool false):=rfl
 unfold lA
 simp only [aw,ao,hlen,N,ab,ag]
 rw [ba (λi=>[.int .i64 (i:Int)]) 5 0 [] (by simp) (by decide) (λi hi=> ?_) rfl]
 ·simp only [ab,aK,t,u,v,w,y,M,c1,c2,c3,c4,count_eq hl,af,ai,u1,u2,h1,h2,z,A,C,D,(g _).1,(g _).2.1,(g _).2.2.1,(g _).2.2.2]
  rw [ba (λi=>[aI (l.take i),.int .i64 (i:Int)]) l.length 0 [aI l] (by simp) (by omega) (λi hi=> ?_) (by
   unfold dt
   simp)]
  ·simp only [ab,aK,af,E,aZ,a8,ag,vS]
  ·have e:=ad hi
   generalize l[i]=m at e
   have hm:=a1 e
   obtain ⟨q1,T,U,V,W,X⟩:=afV e
   obtain ⟨_,G,_,f⟩:=pH q1
   obtain ⟨_,H,_,j⟩:=pH T
   obtain ⟨_,I,_,n⟩:=pH U
   obtain ⟨J,o⟩:=adI V
   obtain ⟨K,d⟩:=aao W
   obtain ⟨L,p⟩:=Vj X
   rw [X8] at d
   have s:((i:Int) < (l.length:Int)):=by omega
   obtain ⟨_,_,r1,r2⟩:=ou (h.one hm)
   have hr:bL .i64 (.int .u64 (m.r.toNat:Int))=some (.int .i64 m.r):=by
    rw [kX (by omega)];congr 2;omega
   have F:=xo m
   rw [h.one hm] at F
   have q:bX 6 56 (aI (l.take i)) (.lst [[.int .i64 m.c,.int .i64 m.r,.int .i64 m.par,.int .i64 m.ch,.str m.nm,.flt .f64 m.rk]])=some (aI (l.take i++[m])):=Tr (l:=l.take i) (k:=[m]) (by simp;omega) (by simp)
   unfold dt
   simp only [af,ai,al,s,decide_true,ah,ab,G,f,H,j,I,n,J,o,K,d,L,p,hr,F,aZ,a8,ag,q,au (show i < 2 ^ 62 by omega),bp e]
 ·match i,hi with
  | 0,_=>rfl
  | 1,_=>rfl
  | 2,_=>rfl
  | 3,_=>rfl
  | 4,_=>rfl
  | k+5,hi=>omega
end Go.AM
namespace Go.AM
theorem put_eq {C:IV->List Nat->List (List IV)->Option (List IV)} (xs:List (IV×Byt)) (hn:xs.length < 100) (j: ∀p∈xs,C (GL "bonsai/snap.bytes" p.1) [1] []=some [B p.2]) (hb: ∀p∈xs,p.2.length<=2 ^ 22):il C (.lst (xs.map λp=>[p.1]))=some [B (xs.flatMap (·.2))]:=by
 unfold il
 simp only [aw,ab,ao]
 rw [ba (λi=>[.nilp,.lst (((xs.take i).flatMap (·.2)).map eB),.int .i64 (i:Int)]) xs.length 0 [.nilp,.lst ((xs.flatMap (·.2)).map eB)] (by simp) (by omega) (λi hi=> ?_) (by
  unfold Bz
  simp)]
 ·simp only [ab,aK,ai,oO];rfl
 ·have c:=ad hi
  generalize xs[i]=p at c
  have hp:=a1 c
  have g:aP (.lst (xs.map λp=>[p.1])) (.int .i64 (i:Int)) 1=some i:=ee (enc:= λp=>[p.1]) c rfl Nat.one_pos
  have h:dV (.lst (xs.map λp=>[p.1])) i 0=some p.1:=by rw [cg (enc:= λp=>[p.1]) c];rfl
  have e:((i:Int) < (xs.length:Int)):=by omega
  have d:=lD (f:= λp:IV×Byt=>p.2) (l:=xs.take i) (k:=2 ^ 22) λq m=>hb q (bO m)
  simp only [bs] at d
  have hw:=xw (x:= .nilp) (a:=(xs.take i).flatMap (·.2)) (b:=p.2) (by have:=hb p hp;omega)
  unfold Bz
  simp only [af,ai,ay,al,e,decide_true,ah,ab,g,h,j p hp,hw,au (show i < 2 ^ 62 by omega),qk (f:= λp:IV×Byt=>p.2) c]
def mr (v:List Mark):List Int:=v.map (·.r)
def mc (v:List Mark):List Int:=v.map (·.c)
def Gj (v:List Mark):Byt:=bt v.length++(partL (deltaL (mr v))++deltaL (mc v))
theorem MayP.len {v:List Mark} (h:MayP v):v.length<=255:=by
 have key: ∀(v:List Mark) (n:Int),v.Pairwise (λa b=>a.r < b.r)->(∀x∈v,n < x.r/\x.r<=255)->n<=255->(v.length:Int)<=255 - n:=by
  intro v
  induction v with
  | nil=>intro n _ _ h;simp;omega
  | cons x v ih=>
    intro n hp c h
    obtain ⟨h1,h2⟩:=c x List.mem_cons_self
    have:=ih x.r (c0.1 hp).2 (λy d=>⟨(c0.1 hp).1 y d,(c y (cO _ d)).2⟩) h2
    simp;omega
 have:=key v 0 h.sorted (λx c=>by have:=h.ok x c;omega) (by decide)
 omega
theorem afT {v:List Mark} (h:MayP v):(∀x∈mr v,in64 x)/\ ∀x∈mc v,in64 x:=
 ⟨λx a=>by obtain ⟨m,hm,rfl⟩:=bb.1 a;have:=h.ok m hm;constructor<;>omega,λx a=>by obtain ⟨m,hm,rfl⟩:=bb.1 a;have:=h.ok m hm;constructor<;>omega⟩
theorem vB {n:Nat} (h:n < 2 ^ 63):da (.int .i64 (n:Int))=some [B (bt n)]:=by
 unfold da
 simp only [fp (show n < 2 ^ 64 by omega),ab,fw (show n < 2 ^ 64 by omega),af]
 rfl
theorem xG {l:List Int} (h:l.length < 2 ^ 16):eF (bQ l)=some [B (deltaL l)]:=by
 unfold eF
 rw [nP h];rfl
theorem UX {l:List Byt} (hl:l.length<=4096) (h:DA l):fZ (Dm l)=some [B (dictL l)]:=by
 unfold fZ
 rw [Bf hl h];rfl
theorem TB {l:List Nat} (hl:l.length<=4096) (h: ∀w∈l,CanW w):gk (qu l)=some [B (ranksL l)]:=by
 unfold gk
 rw [uT hl h];rfl
theorem Kj {C:IV->List Nat->List (List IV)->Option (List IV)} {y:IV} {s:Byt} (h:C (GL "bonsai/snap.bytes" y) [1] []=some [B s]) (hs:s.length < 2 ^ 40):Aq "bonsai/snap.bytes" bH C y=some [B (partL s)]:=by
 unfold Aq
 rw [h,ab,af,nr hs];rfl
theorem XN {v:List Mark} (h:MayP v):(Gj v).length<=6000:=by
 have hl:=h.len
 have h1:=bE (n:=v.length) (by omega)
 have h2:=fU (ns:=mr v)
 have c:=fU (ns:=mc v)
 have b:(mr v).length=v.length:=by simp [mr]
 have a:(mc v).length=v.length:=by simp [mc]
 have d:=dB (s:=deltaL (mr v)) (by omega)
 simp only [Gj,a5] at*
 omega
theorem Hg {v:List Mark} (h:MayP v):kl (aL v)=some [B (Gj v)]:=by
 have hl:=h.len
 unfold kl
 simp only [aw,ab,ao]
 rw [ba (λi=>[bQ (mr (v.take i)),bQ (mc (v.take i)),.int .i64 (i:Int)]) v.length 0 [bQ (mr v),bQ (mc v)] (by simp [mr,mc]) (by omega) (λi hi=> ?_) (by
  unfold qg
  simp)]
 ·have h2:=fU (ns:=mr v)
  have k:=fU (ns:=mc v)
  simp only [mr,mc,ao] at h2 k
  have i1:=xG (l:=mr v) (by simp [mr];omega)
  have i2:=xG (l:=mc v) (by simp [mc];omega)
  have c1:=vB (n:=v.length) (by omega)
  have o:Aq "bonsai/snap.bytes" bH iY (.ifc 322 false (bQ (mr v)))=some [B (partL (deltaL (mr v)))]:=Kj i1 (by simp only [mr];omega)
  have q:=dB (s:=deltaL (mr v)) (by simp only [mr];omega)
  have h1:=bE (n:=v.length) (by omega)
  have:=put_eq (C:=fK) [(.ifc 266 false (.int .i64 (v.length:Int)),bt v.length),(.ifc 326 true (.ifc 322 false (bQ (mr v))),partL (deltaL (mr v))),(.ifc 322 false (bQ (mc v)),deltaL (mc v))] (by simp)
   (λp hp=>by
     simp only [bd,bm,or_false] at hp
     rcases hp with rfl | rfl | rfl
     ·exact c1
     ·exact o
     ·exact i2)
   (λp hp=>by
     simp only [bd,bm,or_false] at hp
     simp only [mr,mc] at*
     rcases hp with rfl | rfl | rfl<;>simp only<;>omega)
  simp only [bR,b3,b7,cd,cl] at this
  simp only [ab,aK,af,ai,this]
  rfl
 ·have a:=ad hi
  generalize v[i]=m at a
  obtain ⟨_,d,e,_⟩:=xJ a
  have b:((i:Int) < (v.length:Int)):=by omega
  have f:=tZ (l:=mr (v.take i)) (n:=m.r) (by simp [mr];omega)
  have b2:=tZ (l:=mc (v.take i)) (n:=m.c) (by simp [mc];omega)
  have g:mr (v.take (i+1))=mr (v.take i)++[m.r]:=kj a
  have j:mc (v.take (i+1))=mc (v.take i)++[m.c]:=kj a
  rw [g,j]
  unfold qg
  simp only [af,ai,ay,al,b,decide_true,ah,ab,d,e,f,b2,au (show i < 2 ^ 62 by omega)]
theorem snap_open_eq {n most:Nat} {t:Byt} (h:n<=most) (hm:most<=2000) (b:t.length < 2 ^ 40):snap_open_s (B (bt n++t)) (.int .u64 (most:Int))=some [B t,.int .i64 (n:Int),.int .i64 0]:=by
 have a:=yu (n:=n) (by omega) t
 have hl:=bE (n:=n) (by omega)
 have h1: ¬((most:Int) < (n:Int)):=by omega
 have hs:aa .sub (.int .i64 ((bt n++t).length:Int)) (.int .i64 (t.length:Int))=some (.int .i64 ((bt n).length:Int)):=by
  rw [qE (by simp) (by simp;omega)];congr 2;simp
 unfold snap_open_s
 simp only [lV,a,ab,af,ai,yy,vS,ag,drop2,aV,h1,decide_false,jR,qx,hs,wC (bt n).length rfl,kX (show n < 2 ^ 63 by omega)]
set_option maxHeartbeats 4000000 in
theorem F1 {v:List Mark} (h:MayP v):jf (B (Gj v))=some [aL v,.int .i64 0]:=by
 have hl:=h.len
 have h2:=fU (ns:=mr v)
 have G:=fU (ns:=mc v)
 have w:(mr v).length=v.length:=by simp [mr]
 have u:(mc v).length=v.length:=by simp [mc]
 have H:=dB (s:=deltaL (mr v)) (by omega)
 obtain ⟨D,E⟩:=afT h
 have e:=snap_open_eq (n:=v.length) (most:=255) (t:=partL (deltaL (mr v))++deltaL (mc v)) hl (by decide) (by simp;omega)
 have f:=pt (a:=deltaL (mr v)) (b:=deltaL (mc v)) (by omega)
 have x:=eV (ns:=mr v) (by omega) D
 have y:=eV (ns:=mc v) (by omega) E
 rw [w] at x
 rw [u] at y
 have z:=xC (v:=v) (by omega)
 rw [Fl.2 h] at z
 have d:snap_open_s (B (bt v.length++(partL (deltaL (mr v))++deltaL (mc v)))) (.int .u64 255)=some [B (partL (deltaL (mr v))++deltaL (mc v)),.int .i64 (v.length:Int),.int .i64 0]:=e
 have F:iter rounds (iP [B (partL (deltaL (mr v))++deltaL (mc v)),.int .i64 (v.length:Int),.int .i64 0] [bQ (mr v),.int .i64 0] [bQ (mc v),.int .i64 0]) [.lst [],.int .i64 0]=some (0,[aL v]):=by
  rw [ba (λi=>[aL (v.take i),.int .i64 (i:Int)]) v.length 0 [aL v] (by simp) (by omega) (λi hi=> ?_) (by
   unfold iP
   simp)]
  have g:=ad hi
  generalize v[i]=m at g
  obtain ⟨_,A,_,j⟩:=pH (show (mr v)[i]? =some m.r by simp [mr,g])
  obtain ⟨_,C,_,o⟩:=pH (show (mc v)[i]? =some m.c by simp [mc,g])
  have q:((i:Int) < (v.length:Int)):=by omega
  have p:bX 2 16 (aL (v.take i)) (.lst [[.int .i64 m.r,.int .i64 m.c]])=some (aL (v.take i++[m])):=Za (l:=v.take i) (k:=[m]) (by simp;omega) (by simp)
  unfold iP
  simp only [af,ai,al,q,decide_true,ah,ab,A,j,C,o,p,au (show i < 2 ^ 62 by omega),bp g]
 unfold jf Gj
 rw [d,ab,ay,vS,ab,ag,af,f,ab,ay,vS,ab,ag,af,ai,ai,x,ab,ai,vS,ab,ag,y,ab,ai,vS,ab,ag,F,ab,aK,af,z,ab,af,aZ,ab]
 rfl
end Go.AM
namespace Go.AM
def rc (l:List Rw):List Int:=l.map (·.ch)
def rp (l:List Rw):List Int:=l.map (·.par)
def rn (l:List Rw):List Byt:=l.map λr=>Zy r.nm
def rk (l:List Rw):List Nat:=l.map (·.rk)
def rowsL (l:List Rw):Byt:=bt l.length++(partL (deltaL (rc l))++(partL (deltaL (rp l))++(partL (dictL (rn l))++ranksL (rk l))))
structure OkBase (l:List Rw):Prop where
 may:mayR l=true
 ok:OKl l
theorem OkBase.len {l:List Rw} (h:OkBase l):l.length<=2000:=(xE h.may).1
theorem OkBase.one {l:List Rw} (h:OkBase l) {r:Rw} (hr:r∈l):Ri r=true:=(xE h.may).2.1 r hr
theorem OkBase.can {l:List Rw} (h:OkBase l): ∀x∈rk l,CanW x:= λx a=>by
 obtain ⟨r,hr,rfl⟩:=bb.1 a
 exact ⟨(h.ok r hr).rk,by rw [<-Gl];exact (h.ok r hr).can⟩
theorem OkBase.short {l:List Rw} (h:OkBase l):DA (rn l):= λs hs=>by
 obtain ⟨r,hr,rfl⟩:=bb.1 hs
 obtain ⟨h1,h2⟩:=YG (h.one hr)
 exact ⟨h1,by rw [Yv];exact h2⟩
theorem OkBase.i64 {l:List Rw} (h:OkBase l):(∀x∈rc l,in64 x)/\ ∀x∈rp l,in64 x:=
 ⟨λx a=>by obtain ⟨r,hr,rfl⟩:=bb.1 a;exact (h.ok r hr).ch,λx a=>by obtain ⟨r,hr,rfl⟩:=bb.1 a;exact (h.ok r hr).par⟩
theorem Ln {l:List Rw} (h:OkBase l):(rc l).length=l.length/\(rp l).length=l.length/\(rn l).length=l.length/\(rk l).length=l.length/\(deltaL (rc l)).length<=20000/\(deltaL (rp l)).length<=20000/\(dictL (rn l)).length<=2 ^ 19/\(ranksL (rk l)).length<=2 ^ 17/\(partL (deltaL (rc l))).length<=20010/\(partL (deltaL (rp l))).length<=20010/\(partL (dictL (rn l))).length<=2 ^ 19+10/\(bt l.length).length<=10:=by
 have hl:=h.len
 have a:(rc l).length=l.length:=by simp [rc]
 have b:(rp l).length=l.length:=by simp [rp]
 have c:(rn l).length=l.length:=by simp [rn]
 have d:(rk l).length=l.length:=by simp [rk]
 have h1:=fU (ns:=rc l)
 have h2:=fU (ns:=rp l)
 have e:=GZ (l:=rn l) (by omega) h.short
 have f:=LI (l:=rk l) (by omega)
 have g:=dB (s:=deltaL (rc l)) (by omega)
 have i:=dB (s:=deltaL (rp l)) (by omega)
 have j:=dB (s:=dictL (rn l)) (by omega)
 have q:=bE (n:=l.length) (by omega)
 exact ⟨a,b,c,d,by omega,by omega,e,f,by omega,by omega,by omega,q⟩
theorem Jt {l:List Rw} (h:OkBase l):k8 (cJ l)=some [B (rowsL l)]:=by
 have hl:=h.len
 obtain ⟨t,u,v,w,D,E,F,G,y,z,A,q⟩:=Ln h
 unfold k8
 simp only [aw,ab,ao]
 rw [ba (λi=>[bQ (rc (l.take i)),bQ (rp (l.take i)),Dm (rn (l.take i)),qu (rk (l.take i)),.int .i64 (i:Int)]) l.length 0 [bQ (rc l),bQ (rp l),Dm (rn l),qu (rk l)] (by simp [rc,rp,rn,rk]) (by omega) (λi hi=> ?_) (by
  unfold rQ
  simp)]
 ·have i1:=xG (l:=rc l) (by omega)
  have i2:=xG (l:=rp l) (by omega)
  have i3:=UX (l:=rn l) (by omega) h.short
  have s:=TB (l:=rk l) (by omega) h.can
  have c1:=vB (n:=l.length) (by omega)
  have u1:Aq "bonsai/snap.bytes" bH eN (.ifc 322 false (bQ (rc l)))=some [B (partL (deltaL (rc l)))]:=Kj i1 (by omega)
  have u2:Aq "bonsai/snap.bytes" bH eN (.ifc 322 false (bQ (rp l)))=some [B (partL (deltaL (rp l)))]:=Kj i2 (by omega)
  have u3:Aq "bonsai/snap.bytes" bH eN (.ifc 323 false (Dm (rn l)))=some [B (partL (dictL (rn l)))]:=Kj i3 (by omega)
  have:=put_eq (C:=gF) [(.ifc 266 false (.int .i64 (l.length:Int)),bt l.length),(.ifc 326 true (.ifc 322 false (bQ (rc l))),partL (deltaL (rc l))),(.ifc 326 true (.ifc 322 false (bQ (rp l))),partL (deltaL (rp l))),(.ifc 326 true (.ifc 323 false (Dm (rn l))),partL (dictL (rn l))),(.ifc 324 false (qu (rk l)),ranksL (rk l))] (by simp)
   (λp hp=>by
     simp only [bd,bm,or_false] at hp
     rcases hp with rfl | rfl | rfl | rfl | rfl
     ·exact c1
     ·exact u1
     ·exact u2
     ·exact u3
     ·exact s)
   (λp hp=>by
     simp only [bd,bm,or_false] at hp
     rcases hp with rfl | rfl | rfl | rfl | rfl<;>simp only<;>omega)
  simp only [bR,b3,b7,cd,cl] at this
  simp only [ab,aK,af,ai,ay,aH,this]
  rfl
 ·have a:=ad hi
  generalize l[i]=r at a
  obtain ⟨_,d,e,_⟩:=QR a
  have b:((i:Int) < (l.length:Int)):=by omega
  have f:=tZ (l:=rc (l.take i)) (n:=r.ch) (by simp [rc];omega)
  have b2:=tZ (l:=rp (l.take i)) (n:=r.par) (by simp [rp];omega)
  have c:=SA (l:=rn (l.take i)) (x:=Zy r.nm) (by simp [rn];omega)
  rw [X8] at c
  have g:=EE (l:=rk (l.take i)) (x:=r.rk) (by simp [rk];omega)
  have j:rc (l.take (i+1))=rc (l.take i)++[r.ch]:=kj a
  have k:rp (l.take (i+1))=rp (l.take i)++[r.par]:=kj a
  have m:rn (l.take (i+1))=rn (l.take i)++[Zy r.nm]:=kj a
  have o:rk (l.take (i+1))=rk (l.take i)++[r.rk]:=kj a
  rw [j,k,m,o]
  unfold rQ
  simp only [af,ai,ay,aH,bW,al,b,decide_true,ah,ab,d,e,f,b2,c,g,au (show i < 2 ^ 62 by omega)]
theorem YY {l:List Int} (hl:l.length < 2 ^ 16) (h:xf l):lF (bQ l)=some [.bool true]:=by
 unfold lF
 rw [ba (λi=>[.int .i64 ((i+1:Nat):Int)]) (l.length - 1) 0 [] (by simp) (by omega) (λi hi=> ?_) (by
  have: ¬(((l.length - 1+1:Nat):Int) < (l.length:Int)):=by omega
  unfold rX
  simp only [af,aw,ao,ab,al,this,decide_false,ag])]
 ·rfl
 ·have g:=ad (show i+1 < l.length by omega)
  have j:=ad (show i < l.length by omega)
  have d:l[i]'(by omega) < l[i+1]'(by omega):=List.pairwise_iff_getElem.1 h i (i+1) (by omega) (by omega) (by omega)
  generalize l[i+1]'(by omega)=x at*
  generalize l[i]'(by omega)=y at*
  obtain ⟨_,e,_,a⟩:=pH g
  obtain ⟨_,f,_,b⟩:=pH j
  have c:(((i+1:Nat):Int) < (l.length:Int)):=by omega
  have hle: ¬(x<=y):=by omega
  have hp:=qi (i:=i+1) (by omega) (by omega)
  rw [Nat.add_sub_cancel] at hp
  unfold rX
  simp only [af,aw,ao,ab,al,c,decide_true,ah,e,a,hp,f,b,e9,hle,decide_false,ag,au (show i+1 < 2 ^ 62 by omega)]
theorem agp {l:List Rw} {i:Nat} {r:Rw} (h:l[i]? =some r):(rc l)[i]? =some r.ch/\(rp l)[i]? =some r.par/\(rn l)[i]? =some (Zy r.nm)/\(rk l)[i]? =some r.rk:=by
 simp [rc,rp,rn,rk,h]
theorem Z7 {l:List Rw} (h:OkBase l) (x y:IV):iter rounds (gQ [x,.int .i64 (l.length:Int),y] [bQ (rc l),.int .i64 0] [bQ (rp l),.int .i64 0] [Dm (rn l),.int .i64 0] [qu (rk l),.int .i64 0]) [.lst [],.int .i64 0]=some (0,[cJ l]):=by
 have hl:=h.len
 rw [ba (λi=>[cJ (l.take i),.int .i64 (i:Int)]) l.length 0 [cJ l] (by simp) (by omega) (λi hi=> ?_) (by
  unfold gQ
  simp)]
 have b:=ad hi
 generalize l[i]=r at b
 have hr:=a1 b
 obtain ⟨q1,p,q,s⟩:=agp b
 obtain ⟨_,k,_,c⟩:=pH q1
 obtain ⟨_,m,_,d⟩:=pH p
 obtain ⟨n,a⟩:=aao q
 obtain ⟨o,e⟩:=Vj s
 rw [X8] at a
 have g:((i:Int) < (l.length:Int)):=by omega
 have j:=Av r.ch r.par r.nm (.flt .f64 r.rk)
 rw [show Vs r.ch r.par r.nm=true from h.one hr] at j
 have f:bX 4 40 (cJ (l.take i)) (.lst [[.int .i64 r.ch,.int .i64 r.par,.str r.nm,.flt .f64 r.rk]])=some (cJ (l.take i++[r])):=by
  simp only [bX]
  rw [if_pos ⟨by simp;omega,by simp⟩]
  simp [Y6]
 unfold gQ
 simp only [af,ai,al,g,decide_true,ah,ab,k,c,m,d,n,a,o,e,j,aZ,a8,ag,f,au (show i < 2 ^ 62 by omega),bp b]
theorem Iq {R:Type} (t e:Unit->Option R):((aa .neq (.int .i64 0) (.int .i64 0)).bind λv=>ae v t e)=e ():=rfl
set_option maxHeartbeats 8000000 in
theorem Ha {l:List Rw} (h:OkBase l):jV (B (rowsL l))=some [cJ l,.int .i64 0]:=by
 have hl:=h.len
 obtain ⟨j,k,m,o,x,y,z,A,u,v,w,q⟩:=Ln h
 obtain ⟨p,r⟩:=h.i64
 have c:snap_open_s (B (rowsL l)) (.int .u64 2000)=some [B (partL (deltaL (rc l))++(partL (deltaL (rp l))++(partL (dictL (rn l))++ranksL (rk l)))),.int .i64 (l.length:Int),.int .i64 0]:=snap_open_eq (n:=l.length) (most:=2000) hl (by decide) (by simp only [a5];omega)
 have c1:=pt (a:=deltaL (rc l)) (b:=partL (deltaL (rp l))++(partL (dictL (rn l))++ranksL (rk l))) (by simp only [a5];omega)
 have c2:=pt (a:=deltaL (rp l)) (b:=partL (dictL (rn l))++ranksL (rk l)) (by simp only [a5];omega)
 have c3:=pt (a:=dictL (rn l)) (b:=ranksL (rk l)) (by omega)
 have d:=eV (ns:=rc l) (by omega) p
 have e:=eV (ns:=rp l) (by omega) r
 have f:=zP (l:=rn l) (by omega) h.short
 have g:=tq (l:=rk l) (by omega) h.can
 rw [j] at d
 rw [k] at e
 rw [m] at f
 rw [o] at g
 have t:=YY (l:=rc l) (by omega) (xE h.may).2.2.1
 have i:=BA (l:=l) (by omega) h.ok
 rw [h.may] at i
 have s:=Z7 h (B (partL (deltaL (rc l))++(partL (deltaL (rp l))++(partL (dictL (rn l))++ranksL (rk l))))) (.int .i64 0)
 unfold jV
 rw [c,ab,ay,Iq,af,c1,ab,ay,Iq,af,ai,ai,d,ab,ai,Iq,c2,ab,ay,Iq,af,ai,e,ab,ai,Iq,c3,ab,ay,Iq,af,ai,f,ab,ai,Iq,g,ab,ai,Iq,aj,s,ab,aK,af,t,ab,af,aZ,ab]
 show (qe (cJ l)).bind _=_
 rw [i,ab]
 rfl
end Go.AM
namespace Go.AM
theorem Kc {f:List IV->Option SR} (P:IV->Prop) (n:Nat) (hs: ∀i x,i < n->P x-> ∃y,P y/\f [x,.int .i64 (i:Int)]=some (.next [y,.int .i64 ((i+1:Nat):Int)])) (he: ∀x,P x->f [x,.int .i64 (n:Int)]=some (.done 0 [x])):
  ∀(k m i:Nat) (x:IV),i+k=n->k < m->P x-> ∃y,P y/\iter m f [x,.int .i64 (i:Int)]=some (0,[y])
 | 0,m,i,x,h,hm,a=>by
   obtain ⟨m,rfl⟩: ∃b,m=b+1:=⟨m - 1,by omega⟩
   obtain rfl:i=n:=by omega
   exact ⟨x,a,ep m (he x a)⟩
 | k+1,m,i,x,h,hm,a=>by
   obtain ⟨m,rfl⟩: ∃b,m=b+1:=⟨m - 1,by omega⟩
   obtain ⟨y,d,e⟩:=hs i x (by omega) a
   obtain ⟨z,hz,c⟩:=Kc P n hs he k m (i+1) y (by omega) (by omega) d
   exact ⟨z,hz,by rw [jd m e,c]⟩
def U32 (x:IV):Prop:= ∃c:Nat,c < 2 ^ 32/\x= .int .u32 (c:Int)
theorem wrap32 (z:Int):aB.wrap z=z % 2 ^ 32:=by
 unfold IntKind.wrap
 show (if (false&&decide ((z % (2 ^ 32:Int))>=(2 ^ 31:Int)))=true then (z % (2 ^ 32:Int)) - (2 ^ 32:Int) else (z % (2 ^ 32:Int)))=_
 simp
theorem X1 (z:Int):U32 (.int .u32 (aB.wrap z)):=by
 rw [wrap32]
 refine ⟨(z % 2 ^ 32).toNat,?_,?_⟩
 ·omega
 ·congr 1;omega
theorem abH: ∀x,U32 x-> ∃y,U32 y/\iter rounds uQ [x,.int .i64 0]=some (0,[y]):= λx a=>by
 refine Kc U32 8 (λi x hi a=> ?_) (λx a=> ?_) 8 rounds 0 x rfl (by rw [aJ];decide) a
 ·obtain ⟨c,hc,rfl⟩:=a
  have b:((i:Int) < 8):=by omega
  have h1:aa .shr (.int .u32 (c:Int)) (.int .u64 1)=some (.int .u32 ((c / 2:Nat):Int)):=by
   simp only [aa]
   rw [if_neg (by omega)]
   show some (IV.int .u32 ((c:Int).fdiv (2 ^ 1)))=_
   rw [Int.fdiv_eq_ediv_of_nonneg _ (by decide)];congr 2
  have h2:aa .and (.int .u32 (c:Int)) (.int .u32 1)=some (.int .u32 (aB.wrap ((a6 aB.bits (c:Int)&&&a6 aB.bits 1).toNat:Int))):=by simp only [aa,bZ,if_true]
  generalize aB.wrap ((a6 aB.bits (c:Int)&&&a6 aB.bits 1).toNat:Int)=d at h2
  have f:ly .neg (.int .u32 d)=some (.int .u32 (aB.wrap (0 - d))):=rfl
  generalize aB.wrap (0 - d)=e at f
  have h:aa .and (.int .u32 3988292384) (.int .u32 e)=some (.int .u32 (aB.wrap ((a6 aB.bits 3988292384&&&a6 aB.bits e).toNat:Int))):=by simp only [aa,bZ,if_true]
  generalize aB.wrap ((a6 aB.bits 3988292384&&&a6 aB.bits e).toNat:Int)=g at h
  have j:aa .xor (.int .u32 ((c / 2:Nat):Int)) (.int .u32 g)=some (.int .u32 (aB.wrap ((a6 aB.bits ((c / 2:Nat):Int) ^^^ a6 aB.bits g).toNat:Int))):=by simp only [aa,bZ,if_true]
  refine ⟨_,X1 ((a6 aB.bits ((c / 2:Nat):Int) ^^^ a6 aB.bits g).toNat:Int),?_⟩
  unfold uQ
  simp only [af,ai,al,b,decide_true,ah,ab,h1,h2,f,h,j,au (show i < 2 ^ 62 by omega)]
 ·unfold uQ
  simp
theorem Xs {s:Byt} (h:s.length < 900000*2) (hs:s.length < 999999): ∃c:Nat,c < 2 ^ 32/\wv (B s)=some [.int .u32 (c:Int)]:=by
 have hb:Tw (B s)=some (.lst (s.map eB)):=by
  show some (IV.lst (s.toArray.toList.map λb=>[IV.int .u8 b.toNat]))=_
  rfl
 have h0:aa .xor (.int .u32 0) (.int .u32 4294967295)=some (.int .u32 4294967295):=rfl
 obtain ⟨y,⟨c,hc,rfl⟩,q⟩:=Kc (f:=rh (.int .i64 (s.length:Int)) (.lst (s.map eB))) U32 s.length (λi x hi m=>by
   obtain ⟨c,hc,rfl⟩:=m
   have g:=ad hi
   generalize s[i]=b at g
   have n:aP (.lst (s.map eB)) (.int .i64 (i:Int)) 1=some i:=ee g rfl Nat.one_pos
   have o:dV (.lst (s.map eB)) i 0=some (.int .u8 (b.toNat:Int)):=by rw [cg g];rfl
   have j:((i:Int) < (s.length:Int)):=by omega
   obtain ⟨z,hz,e⟩:=abH _ (X1 ((a6 aB.bits (c:Int) ^^^ a6 aB.bits (aB.wrap (b.toNat:Int))).toNat:Int))
   refine ⟨z,hz,?_⟩
   have k:aa .xor (.int .u32 (c:Int)) (.int .u32 (aB.wrap (b.toNat:Int)))=some (.int .u32 (aB.wrap ((a6 aB.bits (c:Int) ^^^ a6 aB.bits (aB.wrap (b.toNat:Int))).toNat:Int))):=by
    simp only [aa,bZ,if_true]
   unfold rh
   simp only [af,ai,al,j,decide_true,ah,ab,n,o,bL,k,e,aK,au (show i < 2 ^ 62 by omega)])
  (λx m=>by unfold rh;simp) s.length rounds 0 (.int .u32 4294967295) (by omega) (by rw [aJ];omega) ⟨4294967295,by decide,rfl⟩
 have a:aa .xor (.int .u32 (c:Int)) (.int .u32 4294967295)=some (.int .u32 (aB.wrap ((a6 aB.bits (c:Int) ^^^ a6 aB.bits 4294967295).toNat:Int))):=by
  simp only [aa,bZ,if_true]
 obtain ⟨d,p,e⟩:=X1 ((a6 aB.bits (c:Int) ^^^ a6 aB.bits 4294967295).toNat:Int)
 rw [e] at a
 refine ⟨d,p,?_⟩
 have l:iter rounds (rh (.int .i64 (s.length:Int)) (.lst (s.map eB))) [.int .u32 4294967295,.int .i64 0]=some (0,[.int .u32 (c:Int)]):=q
 unfold wv yA
 simp only [h0,hb,ab,aw,ao,l,aK,af,a,wo,dm,bB]
theorem NV {u:Nat} (h:u < 2 ^ 64): ∃l:Byt,l.length=8/\o8 (.int .u64 (u:Int))=some [B l]:=by
 have g:kQ 1 [.int .u8 0] (.int .i64 8) (.int .i64 8)=some (.lst ((a2 8 (0:UInt8)).map eB)):=rfl
 obtain ⟨y,⟨l,hl,rfl⟩,e⟩:=Kc (f:=nB (.lst ((a2 8 (0:UInt8)).map eB)) (.int .u64 (u:Int))) (λx=> ∃l:Byt,l.length=8/\x= .lst (l.map eB)) 8 (λi x hi j=>by
   obtain ⟨l,hl,rfl⟩:=j
   have d:((i:Int) < ((8:Nat):Int)):=by omega
   have hm:aa .mul (.int .i64 8) (.int .i64 (i:Int))=some (.int .i64 ((8*i:Nat):Int)):=by
    simp only [aa,bZ,if_true]
    rw [wrap64 (by omega) (by omega)];congr 2
   have hs:=mC (a:=u) (b:=8*i) (k:= .i64) (by omega)
   have hc:=SE (u / 2 ^ (8*i)) (k:= .u64)
   have c:=LZ (enc:=eB) (l:=l) (i:=i) (x:=Gx (u / 2 ^ (8*i) % 256)) (v:= .int .u8 ((u / 2 ^ (8*i) % 256:Nat):Int)) (by omega) (λ_=>rfl) (by simp [eB,qc (Nat.mod_lt _ (show 0 < 256 by decide))])
   refine ⟨_,⟨l.set i (Gx (u / 2 ^ (8*i) % 256)),by simp [hl],rfl⟩,?_⟩
   unfold nB
   simp only [af,ai,cC,ao,cv,al,d,decide_true,ah,ab,hm,hs,hc,hl,fi hi,c,au (show i < 2 ^ 62 by omega)])
  (λx j=>by
    obtain ⟨l,hl,rfl⟩:=j
    unfold nB
    simp only [af,ai,cC,ao,cv,al,Int.lt_irrefl,decide_false,ag,ab]) 8 rounds 0 (.lst ((a2 8 (0:UInt8)).map eB)) rfl (by rw [aJ];decide) ⟨_,rfl,rfl⟩
 refine ⟨l,hl,?_⟩
 have m:iter rounds (nB (.lst ((a2 8 (0:UInt8)).map eB)) (.int .u64 (u:Int))) [.lst ((a2 8 (0:UInt8)).map eB),.int .i64 0]=some (0,[.lst (l.map eB)]):=e
 unfold o8
 rw [g,ab,m,ab,aK,af,oO];rfl
theorem GQ {s:Byt} (h:s.length < 999999): ∃t:Byt,t.length=4/\ga (B s)=some [B (s++t)]:=by
 obtain ⟨c,hc,d⟩:=Xs (s:=s) (by omega) h
 obtain ⟨l,hl,e⟩:=NV (u:=c) (by omega)
 have f:fx (B l) none (some (.int .i64 4))=some (B (l.take 4)):=Af (i:=4) (by omega)
 refine ⟨l.take 4,by simp [hl],?_⟩
 unfold ga
 simp only [d,ab,af,fp (show c < 2 ^ 64 by omega),e,f,L5 (a:=s) (b:=l.take 4) (by simp;omega)]
 rfl
open Classical in
 noncomputable def sum4 (s:Byt):Byt:=if h:s.length < 999999 then Classical.choose (GQ h) else [0,0,0,0]
theorem TN (s:Byt):(sum4 s).length=4:=by
 unfold sum4;split
 ·rename_i h;exact (Classical.choose_spec (GQ h)).1
 ·rfl
theorem QF {s:Byt} (h:s.length < 999999):ga (B s)=some [B (s++sum4 s)]:=by
 unfold sum4;rw [dif_pos h];exact (Classical.choose_spec (GQ h)).2
def ma (c:Ck):Byt:=Gx c.1::(bt c.2.length++c.2)
 noncomputable def oneL (c:Ck):Byt:=ma c++sum4 (ma c)
theorem Hq {c:Ck} (h:c.2.length<=900000):(ma c).length<=c.2.length+11:=by
 have:=bE (n:=c.2.length) (by omega)
 simp [ma];omega
theorem L2 {c:Ck} (h:c.2.length<=900000):(oneL c).length<=c.2.length+15:=by
 have:=Hq h
 have:=TN (ma c)
 simp [oneL];omega
theorem Te {c:Ck} (hk:c.1 < 256) (h:c.2.length<=900000):re (.int .i64 (c.1:Int)) (B c.2)=some [B (oneL c)]:=by
 have hl:=bE (n:=c.2.length) (by omega)
 have hh:=Hq h
 have d:=SE c.1 (k:= .i64)
 rw [Nat.mod_eq_of_lt hk] at d
 have f:lH (.lst [[.int .u8 (c.1:Int)]])=some (B [Gx c.1]):=by
  have:=oO [Gx c.1]
  simp only [bR,b3,eB,qc hk] at this
  exact this
 have hs:=QF (s:=ma c) (by omega)
 have e:[Gx c.1]++bt c.2.length++c.2=ma c:=by simp [ma]
 unfold re
 simp only [d,f,ab,jR,fp (show c.2.length < 2 ^ 64 by omega),fw (show c.2.length < 2 ^ 64 by omega),af,L5 (a:=[Gx c.1]) (b:=bt c.2.length) (by simp;omega),L5 (a:=[Gx c.1]++bt c.2.length) (b:=c.2) (by simp;omega),e,hs]
 rfl
theorem adK (a b:Byt):aa .eql (B a) (B b)=some (.bool (decide (a=b))):=by
 show some (IV.bool ((⟨a.toArray⟩:ByteArray).toList==(⟨b.toArray⟩:ByteArray).toList))=_
 rw [bA,bA]
 congr 2
 by_cases h:a=b<;>simp [h]
theorem Yz (a b:Byt):aa .neq (B a) (B b)=some (.bool (!decide (a=b))):=by
 show some (IV.bool !((⟨a.toArray⟩:ByteArray).toList==(⟨b.toArray⟩:ByteArray).toList))=_
 rw [bA,bA]
 congr 2
 by_cases h:a=b<;>simp [h]
structure OkC (L:List Ck):Prop where
 len:L.length<=8
 kind: ∀i c,L[i]? =some c->c.1=i+1
 body: ∀c∈L,c.2.length<=900000
 noncomputable def fileL (L:List Ck):Byt:=[66,78,83,73,2]++L.flatMap oneL
theorem TM {L:List Ck} (h:OkC L) (K:List Ck) (a: ∀c∈K,c∈L):(K.flatMap oneL).length<=900015*K.length:=
 lD λc hc=>by have:=h.body c (a c hc);have:=L2 this;omega
theorem Oq {L:List Ck} (h:OkC L):oW (.int .i64 2) (fJ L)=some [B (fileL L),.int .i64 0]:=by
 have hl:=h.len
 have l:aa .lss (.int .i64 2) (.int .i64 0)=some (.bool false):=rfl
 have m:aa .gtr (.int .i64 2) (.int .i64 255)=some (.bool false):=rfl
 have n:sf [[.nilp,.lst []],[.str ⟨#[66,78,83,73]⟩]]=some [.nilp,.lst (([66,78,83,73]:Byt).map eB),.int .i64 4,.nilf]:=rfl
 have o:bL .u8 (.int .i64 2)=some (.int .u8 2):=rfl
 have p:Hp [[.nilp,.lst (([66,78,83,73]:Byt).map eB)],[.int .u8 2]]=some [.nilp,.lst (([66,78,83,73,2]:Byt).map eB),.nilf]:=rfl
 unfold oW
 simp only [l,m,n,o,p,ab,ag,af,ai,aw,ao]
 rw [ba (λi=>[.nilp,.lst (([66,78,83,73,2]++(L.take i).flatMap oneL:Byt).map eB),.int .i64 (i:Int),.int .i64 (i:Int)]) L.length 0 [.nilp,.lst ((fileL L).map eB)] (by simp) (by omega) (λi hi=> ?_) (by
  unfold vG
  simp [fileL])]
 ·simp only [ab,aK,ai,oO];rfl
 ·have d:=ad hi
  generalize L[i]=c at d
  have hk:=h.kind i c d
  have hb:=h.body c (a1 d)
  obtain ⟨j,k,_,_⟩:=FX d
  have g:((i:Int) < (L.length:Int)):=by omega
  have q: ¬((c.1:Int)<=(i:Int)):=by omega
  have r: ¬((255:Int) < (c.1:Int)):=by omega
  have s: ¬((1048576:Int) < (c.2.length:Int)):=by omega
  have e:=TM h (L.take i) λc hc=>bO hc
  have t:=L2 hb
  simp only [bs] at e
  have hw:=xw (x:= .nilp) (a:=[66,78,83,73,2]++(L.take i).flatMap oneL) (b:=oneL c) (by simp only [a5,List.length_cons,List.length_nil];omega)
  have f:((i+1:Nat):Int)=(c.1:Int):=by omega
  unfold vG
  simp only [af,ai,ay,aH,al,g,decide_true,ah,ab,j,k,eCk,e9,q,decide_false,ag,aV,r,jR,s,Te (show c.1 < 256 by omega) hb,hw,au (show i < 2 ^ 62 by omega),qk d,a7,f]
theorem wG (t:Byt):dD (B ([66,78,83,73,2]++t))=some [.int .i64 2,.int .i64 0]:=by
 have e0:(IV.str ⟨#[66,78,83,73]⟩)=B [66,78,83,73]:=rfl
 have h1:(([66,78,83,73]:Byt).length:Int)<=((([66,78,83,73,2]:Byt)++t).length:Int):=by simp;omega
 have a:fx (B ([66,78,83,73,2]++t)) none (some (.int .i64 (([66,78,83,73]:Byt).length:Int)))=some (B [66,78,83,73]):=by
  have:=Af (l:=[66,78,83,73,2]++t) (i:=4) (k:= .i64) (by simp)
  exact this
 have c:fx (B ([66,78,83,73,2]++t)) (some (.int .i64 (([66,78,83,73]:Byt).length:Int))) none=some (B (2::t)):=by
  have:=zI (l:=[66,78,83,73,2]++t) (i:=4) (k:= .i64) (by simp)
  exact this
 have d:(IV.str ⟨#[]⟩)=B []:=rfl
 have e:Gi (B (2::t)) (.int .i64 0)=some (.int .u8 2):=WS (i:=0) (b:=2) rfl
 have f:bL .i64 (.int .u8 2)=some (.int .i64 2):=rfl
 unfold dD iU eE ez
 simp only [e0,jR,ab,dk,h1,decide_true,ah,a,adK,af,dQ,dm,bB,aZ,a8,ag,c,d]
 show (av [B (2::t),.bool true]).bind _=_
 have g:av [B (2::t),.bool true]=some [B (2::t),.bool true]:=rfl
 have h:decide ((2::t:Byt)=[])=false:=by simp
 simp only [g,ab,af,ai,aZ,a8,ag,adK,h,e,f]
 rfl
theorem LO {c:Ck} {t:Byt} (hk:c.1 < 256) (h:c.2.length<=900000) (p:t.length < 2 ^ 30):m5 (B (oneL c++t))=some [.int .i64 (c.1:Int),B c.2,.int .i64 ((oneL c).length:Int),.int .i64 0]:=by
 have hl:=bE (n:=c.2.length) (by omega)
 have hh:=Hq h
 have a:=TN (ma c)
 have m:=L2 h
 have e0:oneL c++t=[Gx c.1]++(bt c.2.length++(c.2++(sum4 (ma c)++t))):=by simp [oneL,ma]
 have T1:=FU [Gx c.1] (bt c.2.length++(c.2++(sum4 (ma c)++t))) 1 rfl
 rw [<-e0] at T1
 have N:=yu (n:=c.2.length) (by omega) (c.2++(sum4 (ma c)++t))
 have T2:=FU c.2 (sum4 (ma c)++t) (c.2.length:Int) rfl
 have T3:=FU (sum4 (ma c)) t 4 (by rw [a];rfl)
 have j: ¬((1048576:Int) < (c.2.length:Int)):=by omega
 have e:aa .sub (.int .i64 ((oneL c++t).length:Int)) (.int .i64 (t.length:Int))=some (.int .i64 ((oneL c).length:Int)):=by
  rw [qE (by simp) (by simp;omega)];congr 2;simp
 have f:aa .sub (.int .i64 ((oneL c).length:Int)) (.int .i64 4)=some (.int .i64 ((ma c).length:Int)):=by
  have:(oneL c).length=(ma c).length+4:=by simp [oneL,a]
  rw [nx (by omega) (by omega)];congr 2;omega
 have q1:fx (B (oneL c++t)) none (some (.int .i64 ((ma c).length:Int)))=some (B (ma c)):=by
  rw [Af (by simp [oneL])]
  unfold oneL;rw [a7,ec]
 have o:fx (B (oneL c++t)) none (some (.int .i64 ((oneL c).length:Int)))=some (B (oneL c)):=by
  rw [Af (by simp),ec]
 have g:=QF (s:=ma c) (by omega)
 have hi:Gi (B [Gx c.1]) (.int .i64 0)=some (.int .u8 (c.1:Int)):=by
  have:=WS (l:=[Gx c.1]) (i:=0) (b:=Gx c.1) (k:= .i64) rfl
  rw [qc hk] at this;exact this
 unfold m5
 simp only [lV,ab,af,ai,T1,N,yy,vS,ag,drop2,aV,j,decide_false,kX (show c.2.length < 2 ^ 63 by omega),T2,T3,jR,qx,e,f,q1,g,o]
 have d:aa .neq (B (ma c++sum4 (ma c))) (B (oneL c))=some (.bool false):=by
  rw [Yz];simp [oneL]
 simp only [d,ab,ag,hi,kX (show c.1 < 2 ^ 63 by omega)]
 rfl
theorem Mx {L:List Ck} (h:OkC L):ko (B (fileL L))=some [.int .i64 2,fJ L,.int .i64 0]:=by
 have hl:=h.len
 have m:fx (B (fileL L)) (some (.int .i64 5)) none=some (B (L.flatMap oneL)):=by
  have:=zI (l:=fileL L) (i:=5) (k:= .i64) (by simp [fileL])
  exact this
 unfold ko
 rw [show dD (B (fileL L))=_ from wG (L.flatMap oneL)]
 simp only [ab,af,ai,vS,ag,m]
 have j:(IV.str ⟨#[]⟩)=B []:=rfl
 rw [ba (λi=>[B ((L.drop i).flatMap oneL),fJ (L.take i),.int .i64 (i:Int)]) L.length 0 [fJ L] (by simp) (by omega) (λi hi=> ?_) (by
  unfold uC
  simp [j,Yz])]
 ·rfl
 ·have a:=ad hi
  generalize L[i]=c at a
  have hk:=h.kind i c a
  have hb:=h.body c (a1 a)
  have p:=sP (f:=oneL) a
  have d:=TM h (L.drop (i+1)) λc hc=>List.mem_of_mem_drop hc
  simp only [List.length_drop] at d
  have o:=LO (c:=c) (t:=(L.drop (i+1)).flatMap oneL) (by omega) hb (by omega)
  have g:decide (oneL c++(L.drop (i+1)).flatMap oneL=[])=false:=by simp [oneL,ma]
  have n:((i:Int) < (c.1:Int)):=by omega
  have b:bX 2 24 (fJ (L.take i)) (.lst [[.int .i64 (c.1:Int),B c.2]])=some (fJ (L.take i++[c])):=by
   simp only [bX]
   rw [if_pos ⟨by simp;omega,by simp⟩]
   simp [eCk]
  have e:((i+1:Nat):Int)=(c.1:Int):=by omega
  unfold uC
  simp only [af,ai,ay,p,j,Yz,g,ds,ab,ah,o,aH,vS,ag,aV,n,decide_true,wC (oneL c).length rfl,b,bp a,e]
end Go.AM
namespace Go.AM
def um (r:Rep):List Ck:=[(1,bt r.fc.toNat++bt r.fr.toNat),(2,rowsL r.base),(3,Gj r.mks)]
structure OkRep (r:Rep):Prop where
 may:MayF r
 ok:OKF r
theorem OkRep.base {r:Rep} (h:OkRep r):OkBase r.base:=⟨h.may.tree,h.ok.base⟩
theorem OkRep.log {r:Rep} (h:OkRep r):OkLog r.log:=⟨h.may.moves,h.ok.log⟩
theorem OkRep.sm {r:Rep} (h:OkRep r):SmF 2000 r:=⟨h.base.len,h.log.len,by have:=h.may.marks.len;omega⟩
theorem OkRep.floor {r:Rep} (h:OkRep r):0<=r.fc/\r.fc<=4611686018427387903/\0<=r.fr/\r.fr<=255:=by
 rcases h.may.floor with ⟨h1,h2⟩ | hk
 ·omega
 ·unfold knownB at hk
  simp only [cc] at hk
  have:=Qm.1 hk.1
  omega
theorem M3 {r:Rep} (h:OkRep r):nf (cJ r.base) (.int .i64 r.fc) (.int .i64 r.fr) (aI r.log) (aL r.mks)=some [fJ (um r),.int .i64 0]:=by
 obtain ⟨c,g,d,i⟩:=h.floor
 have hb:=h.base.len
 have hm:=h.may.marks.len
 have b:=BA (l:=r.base) (by omega) h.ok.base
 rw [h.may.tree] at b
 have a:=xC (v:=r.mks) (by omega)
 rw [Fl.2 h.may.marks] at a
 have e: ¬(r.fc < 0):=by omega
 have f: ¬(r.fr < 0):=by omega
 have c1:=vB (n:=r.fc.toNat) (by omega)
 have c2:=vB (n:=r.fr.toNat) (by omega)
 rw [bf c] at c1
 rw [bf d] at c2
 have j:=bE (n:=r.fc.toNat) (by omega)
 have k:=bE (n:=r.fr.toNat) (by omega)
 have hp:=put_eq (C:=je) [(.ifc 266 false (.int .i64 r.fc),bt r.fc.toNat),(.ifc 266 false (.int .i64 r.fr),bt r.fr.toNat)] (by simp)
  (λp hp=>by
    simp only [bd,bm,or_false] at hp
    rcases hp with rfl | rfl
    ·exact c1
    ·exact c2)
  (λp hp=>by
    simp only [bd,bm,or_false] at hp
    rcases hp with rfl | rfl<;>simp only<;>omega)
 simp only [bR,b3,b7,cd,cl] at hp
 unfold nf
 rw [b]
 simp only [ab,af,aZ,a8,ag,a,al,e,f,decide_false,hp,Jt h.base,Hg h.may.marks]
 rfl
theorem Zo {a b:List Ck} (p:a.length<=100) (hb:b.length<=100):dM (.lst [[fJ a],[fJ b]])=some [fJ (a++b)]:=by
 have o:(IV.lst [[fJ a],[fJ b]])= .lst ([a,b].map λl=>[fJ l]):=rfl
 have d: ∀(i:Nat) (l:List Ck),[a,b][i]? =some l->aP (.lst ([a,b].map λl=>[fJ l])) (.int .i64 (i:Int)) 1=some i/\dV (.lst ([a,b].map λl=>[fJ l])) i 0=some (fJ l):= λi l h=>
  ⟨ee (enc:= λl=>[fJ l]) h rfl Nat.one_pos,by rw [cg (enc:= λl=>[fJ l]) h];rfl⟩
 rw [o]
 generalize q:(IV.lst ([a,b].map λl=>[fJ l]))=X at d
 have hlen:aC X=some (.int .i64 2):=by rw [<-q];rfl
 unfold dM
 simp only [hlen,ab]
 rw [ba (λi=>[.int .i64 ((([a,b].take i).map cb).sum:Nat),.int .i64 (i:Int)]) 2 0 [.int .i64 ((a.length+b.length:Nat):Int)] (by simp) (by decide) (λi hi=> ?_) (by
  unfold jC
  simp)]
 ·have r:Wr 2 24 (.int .i64 ((a.length+b.length:Nat):Int))=some []:=by
   simp only [Wr]
   rw [if_pos ⟨by omega,by simp only [Int.toNat_natCast];omega,by decide⟩]
  simp only [ab,aK,af,r]
  rw [ba (λi=>[fJ ([a,b].take i).flatten,.int .i64 (i:Int)]) 2 0 [fJ (a++b)] (by simp) (by decide) (λi hi=> ?_) (by
   unfold jo
   simp)]
  ·rfl
  ·have c:=ad (show i < [a,b].length from hi)
   generalize [a,b][i]'(show i < [a,b].length from hi)=l at c
   obtain ⟨j,k⟩:=d i l c
   have e:((i:Int) < 2):=by omega
   have hl:l.length<=100:=by
    rcases bd.1 (a1 c) with rfl | h
    ·exact p
    ·simp at h;subst h;exact hb
   have hf:([a,b].take i).flatten.length<=200:=by
    rcases i with _ | _ | i
    ·simp
    ·simp;omega
    ·omega
   have m:bX 2 24 (fJ ([a,b].take i).flatten) (fJ l)=some (fJ (([a,b].take (i+1)).flatten)):=by
    rw [bp c]
    simp only [bX]
    rw [if_pos ⟨by simp only [ao];omega,by simp [eCk]⟩]
    simp
   unfold jo
   simp only [af,ai,al,e,decide_true,ah,ab,j,k,m,au (show i < 2 ^ 62 by omega)]
 ·have c:=ad (show i < [a,b].length from hi)
  generalize [a,b][i]'(show i < [a,b].length from hi)=l at c
  obtain ⟨j,k⟩:=d i l c
  have e:((i:Int) < 2):=by omega
  have hl:l.length<=100:=by
   rcases bd.1 (a1 c) with rfl | h
   ·exact p
   ·simp at h;subst h;exact hb
  have g:(([a,b].take (i+1)).map cb).sum=(([a,b].take i).map cb).sum+l.length:=by rw [bp c];simp
  have hle:(([a,b].take i).map cb).sum<=200:=by
   rcases i with _ | _ | i
   ·simp
   ·simp;omega
   ·omega
  generalize (([a,b].take i).map cb).sum=s at*
  have f:aa .add (.int .i64 (s:Int)) (.int .i64 (l.length:Int))=some (.int .i64 ((s+l.length:Nat):Int)):=sS (by omega)
  have n: ¬(((s+l.length:Nat):Int) < 0):=by omega
  rw [g]
  unfold jC
  simp only [af,ai,al,e,decide_true,ah,ab,j,k,aw,ao,f,n,decide_false,ag,au (show i < 2 ^ 62 by omega)]
def Rv (r:Rep):List Ck:=um r++xS r.log
 noncomputable def fileR (r:Rep):Byt:=fileL (Rv r)
theorem OkRep.chunks {r:Rep} (h:OkRep r):OkC (Rv r):=by
 obtain ⟨f,g,j,k⟩:=h.floor
 have m:=bE (n:=r.fc.toNat) (by omega)
 have o:=bE (n:=r.fr.toNat) (by omega)
 obtain ⟨_,_,_,_,_,_,_,A,x,y,z,q⟩:=Ln h.base
 have hm:=XN h.may.marks
 have hl:=h.log.len
 obtain ⟨a,b,d,e⟩:=Xv h.log
 have p:=bE (n:=r.log.length) (by omega)
 have t:=GZ (l:=ns r.log) (by simp [ns];omega) h.log.short
 have u:=LI (l:=ks r.log) (by simp [ks];omega)
 have v:=dB (s:=deltaL (cs r.log)) (by omega)
 have w:=dB (s:=deltaL (ps r.log)) (by omega)
 have hr:(rowsL r.base).length<=900000:=by simp only [rowsL,a5];omega
 refine ⟨Nat.le_refl 8,λi c hc=> ?_,λc hc=> ?_⟩
 ·match i,hc with
  | 0,hc=>cases hc;rfl
  | 1,hc=>cases hc;rfl
  | 2,hc=>cases hc;rfl
  | 3,hc=>cases hc;rfl
  | 4,hc=>cases hc;rfl
  | 5,hc=>cases hc;rfl
  | 6,hc=>cases hc;rfl
  | 7,hc=>cases hc;rfl
  | i+8,hc=>rw [List.getElem?_eq_none (show (Rv r).length<=i+8 by show 8<=i+8;omega)] at hc;cases hc
 ·simp only [Rv,um,xS,List.mem_append,bd,bm,or_false] at hc
  rcases hc with (rfl | rfl | rfl) | (rfl | rfl | rfl | rfl | rfl)
  all_goals simp only [a5]
  all_goals omega
theorem CD {r:Rep} (h:OkRep r):gW (cJ r.base) (.int .i64 r.fc) (.int .i64 r.fr) (aI r.log) (aL r.mks)=some [B (fileR r),.int .i64 0]:=by
 have d:=su h.sm h.ok
 rw [wT.2 h.may] at d
 have c:=Zo (a:=um r) (b:=xS r.log) (show 3<=100 by decide) (show 5<=100 by decide)
 have e:=Oq h.chunks
 unfold gW py
 simp only [d,ab,af,ai,aZ,a8,ag,M3 h,vS,Jc h.log,c]
 rw [show um r++xS r.log=Rv r from rfl,e]
 rfl
theorem KR {r:Rep} (h:OkRep r):mZ (fJ (um r))=some [cJ r.base,.int .i64 r.fc,.int .i64 r.fr,.lst [],aL r.mks,.int .i64 0]:=by
 obtain ⟨e,x,f,y⟩:=h.floor
 obtain ⟨s,_,b0,q⟩:=FX (l:=um r) (i:=0) rfl
 obtain ⟨t,_,p,c1⟩:=FX (l:=um r) (i:=1) rfl
 obtain ⟨u,_,b2,c2⟩:=FX (l:=um r) (i:=2) rfl
 have b:aP (fJ (um r)) (.int .i64 0) 2=some 0:=s
 have c:aP (fJ (um r)) (.int .i64 1) 2=some 1:=t
 have d:aP (fJ (um r)) (.int .i64 2) 2=some 2:=u
 have hlen:aa .neq (.int .i64 ((um r).length:Int)) (.int .i64 3)=some (.bool false):=rfl
 have t1:aa .neq (.int .i64 ((1:Nat):Int)) (.int .i64 1)=some (.bool false):=rfl
 have v:aa .neq (.int .i64 ((2:Nat):Int)) (.int .i64 2)=some (.bool false):=rfl
 have w:aa .neq (.int .i64 ((3:Nat):Int)) (.int .i64 3)=some (.bool false):=rfl
 have m:=yu (n:=r.fc.toNat) (by omega) (bt r.fr.toNat)
 have o:=NB (n:=r.fr.toNat) (by omega) (bt r.fr.toNat) [] (by simp)
 have g: ¬((9223372036854775807:Int) < (r.fc.toNat:Int)):=by omega
 have j: ¬((9223372036854775807:Int) < (r.fr.toNat:Int)):=by omega
 have i1:=kX (a:=r.fc.toNat) (k:= .u64) (by omega)
 have i2:=kX (a:=r.fr.toNat) (k:= .u64) (by omega)
 rw [bf e] at g i1
 rw [bf f] at j i2
 unfold mZ
 simp only [aw,ao,hlen,ab,ag,b,c,d,b0,p,b2,q,c1,c2,t1,v,w,af,ai,lV,m,o,Kh,drop2,vS,aV,g,j,decide_false,Ha h.base,F1 h.may.marks,i1,i2,bf e,bf f]
theorem abP (a b:List Ck):kT 2 (fJ (a++b)) none (some (.int .i64 (a.length:Int)))=some (fJ a)/\kT 2 (fJ (a++b)) (some (.int .i64 (a.length:Int))) none=some (fJ b):=by
 have h1:((a++b).map eCk).all (λe=>e.length==2)=true:=by simp [eCk]
 have h2:((a++b).map eCk).length=a.length+b.length:=by simp
 constructor
 ·simp only [kT]
  rw [if_pos h1,h2,Ly (by omega)]
  simp [<-ca]
 ·simp only [kT]
  rw [if_pos h1,h2,Az (by omega)]
  simp [ck]
theorem OJ {r:Rep} (h:OkRep r):mz (B (fileR r))=some (Zc r [.int .i64 0]):=by
 have j:=su h.sm h.ok
 rw [wT.2 h.may] at j
 have p:=wG ((Rv r).flatMap oneL)
 have o:=Mx h.chunks
 obtain ⟨q,s⟩:=abP (um r) (xS r.log)
 have g:kT 2 (fJ (Rv r)) none (some (.int .i64 3))=some (fJ (um r)):=q
 have i:kT 2 (fJ (Rv r)) (some (.int .i64 3)) none=some (fJ (xS r.log)):=s
 have k:aa .eql (.int .i64 0) (.int .i64 0)=some (.bool true):=rfl
 have l:aa .neq (.int .i64 2) (.int .i64 2)=some (.bool false):=rfl
 have m:aC (fJ (Rv r))=some (.int .i64 8):=rfl
 have n:aa .neq (.int .i64 8) (.int .i64 8)=some (.bool false):=rfl
 have t: ∀a b c d e f:IV,nth [a,b,c,d,e,f] 5=f:= λ_ _ _ _ _ _=>rfl
 unfold mz
 rw [show dD (B (fileR r))=_ from p,show ko (B (fileR r))=_ from o]
 simp only [ab,af,ai,ay,aH,bW,bV,k,l,m,n,vS,ah,ag,g,i,KR h,JA h.log,j,aZ,a8]
 rfl
end Go.AM
