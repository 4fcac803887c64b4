/- Files, plainly: parts behind their lengths; ranks. -/
import Derived.Test.YtgoenohknokcmaaGreatCo
import Derived.Test.YtgoenohknokcmaaGreatCk
open Option renaming bind_some->ab,map_some->bB
open List renaming getElem?_eq_getElem->ad,length_map->ao,mem_of_getElem?->a1,replicate->a2,length_append->a5,append_assoc->a7,mem_map->bb,mem_cons->bd,not_mem_nil->bm,getElem?_eq_some_iff->br,length_take->bs,length_filter_le->bx,getElem?_map->bC,take_append_drop->bM,mem_of_mem_take->bO,map_cons->bR,idxOf_lt_length_of_mem->b1,map_nil->b3,drop_eq_getElem_cons->b4,nodup_append->b5,flatMap_cons->b7,map_take->ca,length->cb,flatMap_nil->cd,take_of_length_le->ck,append_nil->cl,length_replicate->cv,mem_cons_of_mem->cO,pairwise_cons->c0,foldl_append->c5,idxOf_append->c6,filter_cons->c7,mem_filter->c8,foldl_cons->c9,nil_append->dd,map_append->dq,take_left->eg,map_drop->ek
open Go.IntKind renaming u32->aB
open BitVec renaming ofInt->a6
open Bool renaming not_true->a8,and_eq_true->cc,not_false->ds
open Int renaming toNat_of_nonneg->bf
open Go.ByteArray renaming toList_eq->bA
set_option linter.unusedVariables false
set_option linter.unusedSimpArgs false
namespace Go.AM
def partL (s:Byt):Byt:=bw s.length++s
theorem dz {s:Byt} (h:s.length < 2 ^ 60):(partL s).length<=s.length+10:=by
 have:=bI (n:=s.length) (by omega)
 simp [partL];omega
theorem ny {s:Byt} (h:s.length < 2 ^ 40):bJ (B s)=some [B (partL s)]:=by
 have hl:=bI (n:=s.length) (by omega)
 unfold bJ
 simp only [jO,ab,fq (show s.length < 2 ^ 64 by omega),fu (show s.length < 2 ^ 64 by omega),af,NU (a:=bw s.length) (b:=s) (by omega)]
 rfl
theorem Wn {s:Byt} (h:s.length < 2 ^ 40):yc (B s)=some [B (partL s)]:=ny h
theorem Nd {n:Nat} (h:n < 2 ^ 64) (s t:Byt) (e:s=bw n++t):aD (B s) (.int .i64 0)=some [B t,.int .i64 0,.int .u64 (n:Int)]:=by subst e;exact yA h t
theorem drop2 (a b c:IV):([a,b,c]:List IV).drop 2=[c]:=rfl
theorem yI:aa .neq (.int .i64 0) (.int .i64 0)=some (.bool false):=rfl
theorem lJ (s:Byt):cq (B s)=some [B s,.int .i64 0]:=rfl
theorem wz {s t:Byt} {k:IntKind} (n:Nat) (h:n=s.length):fE (B (s++t)) (some (.int k (n:Int))) none=some (B t):=by
 subst h
 rw [AD (by simp),List.drop_left]
theorem pq {a b:Byt} (h:a.length+b.length < 2 ^ 40):bG (B (partL a++b))=some [B a,B b,.int .i64 0]:=by
 have c:=Nd (n:=a.length) (by omega) (partL a++b) (a++b) (by simp [partL])
 have hl:=bI (n:=a.length) (by omega)
 have h1: ¬(((a++b).length:Int) < (a.length:Int)):=by simp;omega
 have d:=FW a b (a.length:Int) rfl
 have hs:aa .sub (.int .i64 ((partL a++b).length:Int)) (.int .i64 (b.length:Int))=some (.int .i64 ((partL a).length:Int)):=by
  rw [qP (by simp) (by simp [partL];omega)];congr 2;simp
 unfold bG
 simp only [lJ,c,ab,af,ai,xR,yI,ag,qT,drop2,fq (show (a++b).length < 2 ^ 64 by simp;omega),aW,h1,decide_false,kQ (show a.length < 2 ^ 63 by omega),d,jO,hs,wz (partL a).length rfl]
 rfl
theorem acU:cu (.int .i64 0)=some []:=rfl
theorem yt {a b:Byt} (h:a.length+b.length < 2 ^ 40):lO (B (partL a++b))=some [B a,B b]:=by
 unfold lO
 rw [pq h];rfl
def oO (w:Nat):Bool:=decide (w≠0)
def ranksL (l:List Nat):Byt:=partL (r8 (l.map oO))++rN (l.filter oO)
theorem Y2 {α:Type} (a:List α) (k:Nat) (z x:α):(a++a2 (k+1) z).set a.length x=a++[x]++a2 k z:=by
 rw [List.set_append_right _ _ (Nat.le_refl _)]
 simp [List.replicate_succ]
theorem MK {α:Type} {enc:α->List IV} {l:List α} {i:Nat} {x:α} {v:IV} (hi:i < l.length) (he: ∀y,(enc y).length=1) (hv:enc x=[v]):rU (.lst (l.map enc)) i 0 [v]=some (.lst ((l.set i x).map enc)):=by
 have a:=ad hi
 generalize l[i]=y at a
 simp only [rU,bC,a,bB,ab]
 rw [if_pos (by rw [he];simp)]
 have:setCells (enc y) 0 [v]=enc x:=by
  have:=he y
  cases b:enc y with
  | nil=>rw [b] at this;simp at this
  | cons c cs=>rw [b] at this;simp at this;subst this;rw [hv];rfl
 rw [this,List.map_set]
theorem NA {l:List Nat} (hl:l.length<=4096):(ranksL l).length<=2 ^ 17:=by
 have h1:=D2 (l:=l.map oO) (by simp;omega)
 have h2:=Ec (ns:=l.filter oO)
 have a:=bx oO l
 have b:=dz (s:=r8 (l.map oO)) (by simp at h1;omega)
 simp at h1
 simp only [ranksL,a5]
 omega
theorem vF {l:List Nat} (hl:l.length<=4096) (h: ∀w∈l,CanW w):fP (qx l)=some [B (ranksL l)]:=by
 have j:kM 1 [.bool false] (.int .i64 (l.length:Int)) (.int .i64 (l.length:Int))=some (tK (a2 l.length false)):=by
  simp only [kM]
  rw [if_pos ⟨trivial,by omega,by simp;omega⟩]
  simp [eBl]
 unfold fP
 simp only [aw,ab,ao,j]
 rw [ba (λi=>[tK ((l.take i).map oO++a2 (l.length - i) false),qx ((l.take i).filter oO),.int .i64 (i:Int)]) l.length 0 [tK (l.map oO),qx (l.filter oO)] (by simp) (by omega) (λi hi=> ?_) (by
  unfold oV
  simp)]
 ·have h1:=D2 (l:=l.map oO) (by simp;omega)
  have h2:=Ec (ns:=l.filter oO)
  have t:=bx oO l
  have u:=dz (s:=r8 (l.map oO)) (by simp at h1;omega)
  simp only [ao] at h1
  have q:=Kr (l:=l.map oO) (by simp;omega)
  have r:=J4 (ns:=l.filter oO) (by omega) λn hn=>h n (c8.1 hn).1
  simp only [ab,aJ,af,ai,q,ny (s:=r8 (l.map oO)) (by omega),r,NU (a:=partL (r8 (l.map oO))) (b:=rN (l.filter oO)) (by omega)]
  rfl
 ·have f:=ad hi
  generalize l[i]=w at f
  obtain ⟨o,p⟩:=Vf f
  have hc:=h w (a1 f)
  have g:((i:Int) < (l.length:Int)):=by omega
  have m:=sN hc.lt
  rw [hc.can] at m
  have hlen:((l.take i).map oO++a2 (l.length - i) false).length=l.length:=by simp;omega
  have d:=MK (enc:=eBl) (l:=(l.take i).map oO++a2 (l.length - i) false) (i:=i) (x:=oO w) (v:= .bool (oO w)) (by omega) (λ_=>rfl) rfl
  have c:=Y2 ((l.take i).map oO) (l.length - (i+1)) false (oO w)
  rw [show ((l.take i).map oO).length=i by simp;omega,show l.length - (i+1)+1=l.length - i by omega] at c
  rw [c] at d
  have e:dU (tK ((l.take i).map oO++[oO w]++a2 (l.length - (i+1)) false)) i 0=some (.bool (oO w)):=by
   refine (Y3 ?_).2
   rw [a7,List.getElem?_append_right (by simp;omega)]
   simp [show i - min i l.length=0 by omega]
  have k:aa .neq (.int .u64 (w:Int)) (.int .u64 0)=some (.bool (oO w)):=by
   rw [di];congr 2;unfold oO;simp
  unfold oV
  simp only [af,ai,ay,al,g,decide_true,ah,ab,o,p,m,k,cx,ao,hlen,e9 hi,d,e,au (show i < 2 ^ 62 by omega),FJ (l:=(l.take i).filter oO) (show ((l.take i).filter oO).length < 2 ^ 20 by have:=bx oO (l.take i);simp at this;omega),bt f]
  cases hw:oO w<;>simp [hw]
theorem Z5 {l:List Nat} {i w:Nat} (a:l[i]? =some w):(l.drop i).filter oO=if oO w=true then w::(l.drop (i+1)).filter oO else (l.drop (i+1)).filter oO:=by
 have hi:=(br.1 a).1
 rw [b4 hi,(br.1 a).2,c7]
theorem adv (l:List Nat):Oe (l.map oO)=(l.filter oO).length:=by
 unfold Oe
 induction l with
 | nil=>rfl
 | cons x l ih=>simp only [bR,c7];cases oO x<;>simp_all
theorem abi {x:Nat} {l:List Nat}:kN 1 (qx (x::l)) (some (.int .i64 1)) none=some (qx l):=by
 simp only [kN]
 rw [if_pos (by simp [eFl])]
 have:=Bn (n:=((x::l).map eFl).length) (i:=1) (k:= .i64) (by simp)
 rw [show ((1:Nat):Int)=1 from rfl] at this
 rw [this,ab]
 simp [ck]
theorem tU {l:List Nat} (hl:l.length<=4096) (h: ∀w∈l,CanW w):ar (B (ranksL l)) (.int .i64 (l.length:Int))=some [qx l,.int .i64 0]:=by
 have h1:=D2 (l:=l.map oO) (by simp;omega)
 have h2:=Ec (ns:=l.filter oO)
 have y:=bx oO l
 simp only [ao] at h1
 have d:=yt (a:=r8 (l.map oO)) (b:=rN (l.filter oO)) (by omega)
 have q:=Kb (l:=l.map oO) (by simp;omega)
 have p:=MV (l:=l.map oO) (by simp;omega)
 rw [adv] at p
 have v:=Jr (ns:=l.filter oO) (by omega) λn hn=>h n (c8.1 hn).1
 simp only [ao] at q
 have j:qS (tK (l.map oO)) (.int .i64 0)=some [tK (l.map oO)]:=rfl
 have g:kp (qx (l.filter oO)) (.int .i64 0)=some [qx (l.filter oO)]:=rfl
 unfold ar ranksL
 simp only [d,ab,af,ai,q,j,p,v,g,aw,ao]
 rw [ba (λi=>[qx (l.take i),qx ((l.drop i).filter oO),.int .i64 (i:Int)]) l.length 0 [qx l] (by simp) (by omega) (λi hi=> ?_) (by
  unfold cI
  simp)]
 ·simp only [ab,aJ,af,yI,ag]
 ·have e:=ad hi
  generalize l[i]=w at e
  have hc:=h w (a1 e)
  have k:((i:Int) < (l.length:Int)):=by omega
  have o:(l.map oO)[i]? =some (oO w):=by rw [bC,e];rfl
  obtain ⟨s,t⟩:=Y3 o
  have c:= λx=>FJ (l:=l.take i) (x:=x) (show (l.take i).length < 2 ^ 20 by simp;omega)
  rw [Z5 e]
  unfold cI
  simp only [af,ai,ay,al,k,decide_true,ah,ab,s,t,au (show i < 2 ^ 62 by omega),bt e,c]
  cases hw:oO w with
  | true=>
    have m:w≠0:=of_decide_eq_true hw
    obtain ⟨u,b2⟩:=Vf (l:=w::(l.drop (i+1)).filter oO) (i:=0) rfl
    have f:aK (qx (w::(l.drop (i+1)).filter oO)) (.int .i64 0) 1=some 0:=u
    have r:=S5 hc.lt (show (0:Nat) < 2 ^ 64 by decide)
    rw [hc.can,show bitsN 0=0 from rfl,decide_eq_false m] at r
    simp only [if_true,ah,f,b2,abi,ab,r,af,ag,c]
  | false=>
    have hz:w=0:=by
     have:=of_decide_eq_false hw
     simpa using this
    subst hz
    simp only [Bool.false_eq_true,if_false,ag]
end Go.AM
namespace Go.AM
def eS (s:Byt):List IV:=[B s]
abbrev DX (l:List Byt):IV:= .lst (l.map eS)
theorem acG {l:List Byt} {i:Nat} {x:Byt} (h:l[i]? =some x):aK (DX l) (.int .i64 (i:Int)) 1=some i/\dU (DX l) i 0=some (B x):=
 ⟨ea h rfl (by decide),by rw [b8 h];rfl⟩
theorem Tj {l:List Byt} {x:Byt} (hl:l.length < 2 ^ 20):bU 1 16 (DX l) (.lst [[B x]])=some (DX (l++[x])):=by
 simp only [bU]
 rw [if_pos ⟨by simp;omega,by simp⟩]
 simp [eS]
theorem ac7 (a b:Byt):IT (B a) (B b)=some (decide (a=b)):=by
 have:((⟨a.toArray⟩:ByteArray)==⟨b.toArray⟩)=decide (a=b):=by
  rw [Bool.eq_iff_iff,MapKept.bytes_beq,decide_eq_true_iff]
  constructor
  ·intro e;injection e with e;simpa using e
  ·rintro rfl;rfl
 simp only [IT,B,this]
def ou (v:Nat->IV):Nat->List Byt->List (List IV)
 | _,[]=>[]
 | k,s::W=>[B s,v k]::ou v (k+1) W
theorem Vx (v:Nat->IV): ∀(W:List Byt) (k:Nat),(ou v k W).length=W.length
 | [],_=>rfl
 | s::W,k=>by simp [ou,Vx v W]
theorem xy (v:Nat->IV) (s:Byt): ∀(W:List Byt) (k i:Nat),vk (B s) (ou v k W) i=some (if s∈W then some (i+W.idxOf s,v (k+W.idxOf s)) else none)
 | [],k,i=>by simp [ou,vk]
 | t::W,k,i=>by
   simp only [ou,vk,ac7]
   by_cases h:s=t
   ·subst h;simp
   ·simp only [decide_eq_false h]
    rw [xy v s W (k+1) (i+1)]
    have h2:(t==s)=false:=beq_false_of_ne λe=>h e.symm
    by_cases hm:s∈W
    ·simp [h,hm,List.idxOf_cons,h2]
     constructor
     ·omega
     ·congr 1;omega
    ·simp [h,hm]
theorem Hg (v:Nat->IV) (s:Byt): ∀(W:List Byt) (k:Nat),ou v k (W++[s])=ou v k W++[[B s,v (k+W.length)]]
 | [],k=>by simp [ou]
 | t::W,k=>by
   simp only [List.cons_append,ou]
   rw [Hg v s W (k+1)]
   simp;congr 1;omega
def xv (W:List Byt) (s:Byt):List Byt:=if s∈W then W else W++[s]
def aq (l:List Byt):List Byt:=l.foldl xv []
theorem acQ (W:List Byt) (s:Byt): ∃R,xv W s=W++R:=by
 unfold xv;split
 ·exact ⟨[],by simp⟩
 ·exact ⟨_,rfl⟩
theorem QQ: ∀(l W:List Byt),∃R,l.foldl xv W=W++R
 | [],W=>⟨[],by simp⟩
 | s::l,W=>by
   obtain ⟨R,h⟩:=QQ l (xv W s)
   obtain ⟨Q,h2⟩:=acQ W s
   exact ⟨Q++R,by rw [c9,h,h2,a7]⟩
theorem Yi (l:List Byt) (i:Nat): ∃R,aq l=aq (l.take i)++R:=by
 unfold aq
 conv=>enter [1,R];lhs;rw [<-bM i l,c5]
 exact QQ _ _
theorem xT {l:List Byt} {i:Nat} {s:Byt} (h:l[i]? =some s):aq (l.take (i+1))=xv (aq (l.take i)) s:=by
 unfold aq;rw [bt h,c5];rfl
theorem VB (l:List Byt):(aq l).Nodup:=by
 have: ∀(l W:List Byt),W.Nodup->(l.foldl xv W).Nodup:=by
  intro l
  induction l with
  | nil=>intro W h;exact h
  | cons s l ih=>
    intro W h
    refine ih _ ?_
    unfold xv;split
    ·exact h
    ·rename_i hs
     rw [b5]
     refine ⟨h,by simp,?_⟩
     intro a c b hb
     simp at hb;subst hb
     exact λe=>hs (e▸c)
 exact this l [] (by simp)
theorem qE (l:List Byt): ∀s,s∈aq l↔s∈l:=by
 have: ∀(l W:List Byt) (s:Byt),s∈l.foldl xv W↔s∈W\/s∈l:=by
  intro l
  induction l with
  | nil=>intro W s;simp
  | cons t l ih=>
    intro W s
    rw [c9,ih]
    unfold xv;split
    ·rename_i h
     constructor
     ·rintro (h1 | h1)
      ·exact .inl h1
      ·exact .inr (cO _ h1)
     ·rintro (h1 | h1)
      ·exact .inl h1
      ·rcases bd.1 h1 with rfl | h1
       ·exact .inl h
       ·exact .inr h1
    ·simp [or_assoc]
 intro s
 have:=this l [] s
 simpa [aq] using this
theorem oq (l:List Byt):(aq l).length<=l.length:=by
 have: ∀(l W:List Byt),(l.foldl xv W).length<=W.length+l.length:=by
  intro l
  induction l with
  | nil=>intro W;simp
  | cons s l ih=>
    intro W
    have:=ih (xv W s)
    have h2:(xv W s).length<=W.length+1:=by unfold xv;split<;>simp
    simp;omega
 simpa [aq] using this l []
def og (l:List Byt) (s:Byt):Nat:=(aq l).idxOf s
theorem Xp {l:List Byt} {s:Byt} (h:s∈l):og l s < (aq l).length:=b1 ((qE l s).2 h)
theorem Lf {l:List Byt} {i:Nat} {s:Byt} (h:s∈aq (l.take i)):(aq (l.take i)).idxOf s=og l s:=by
 obtain ⟨R,a⟩:=Yi l i
 unfold og
 rw [a,c6,if_pos h]
theorem YX {l:List Byt} {i:Nat} {s:Byt} (a:l[i]? =some s) (h:s∉aq (l.take i)):og l s=(aq (l.take i)).length:=by
 have hm:s∈aq (l.take (i+1)):=by rw [xT a];unfold xv;rw [if_neg h];simp
 rw [<-Lf hm,xT a]
 unfold xv
 rw [if_neg h,c6,if_neg h];simp
theorem OT {l:List Byt} (hl:l.length<=4096):pa (DX l)=some [DX (aq l),NW (l.map (og l))]:=by
 have m:kM 8 [.int .u64 0] (.int .i64 (l.length:Int)) (.int .i64 (l.length:Int))=some (NW (a2 l.length 0)):=by
  simp only [kM]
  rw [if_pos ⟨trivial,by omega,by simp;omega⟩]
  simp [eU]
 unfold pa
 simp only [aw,ab,ao,m]
 rw [ba (λi=>[.map (ou (λk=> .int .u64 (k:Int)) 0 (aq (l.take i))),DX (aq (l.take i)),NW ((l.take i).map (og l)++a2 (l.length - i) 0),.int .i64 (i:Int)]) l.length 0 [DX (aq l),NW (l.map (og l))] (by simp [aq,ou]) (by omega) (λi hi=> ?_) (by
  unfold wg
  simp)]
 ·rfl
 ·have g:=ad hi
  generalize l[i]=s at g
  obtain ⟨o,p⟩:=acG g
  have j:((i:Int) < (l.length:Int)):=by omega
  have hlen:((l.take i).map (og l)++a2 (l.length - i) 0).length=l.length:=by simp;omega
  have a:=MK (enc:=eU) (l:=(l.take i).map (og l)++a2 (l.length - i) 0) (i:=i) (x:=og l s) (v:= .int .u64 (og l s:Int)) (by omega) (λ_=>rfl) rfl
  have c:=Y2 ((l.take i).map (og l)) (l.length - (i+1)) 0 (og l s)
  rw [show ((l.take i).map (og l)).length=i by simp;omega,show l.length - (i+1)+1=l.length - i by omega] at c
  rw [c] at a
  have f:(l.take (i+1)).map (og l)=(l.take i).map (og l)++[og l s]:=by rw [bt g];simp
  have n:=oq (l.take i)
  simp only [bs] at n
  have e:ya .str (.map (ou (λk=> .int .u64 (k:Int)) 0 (aq (l.take i)))) (B s) (.int .u64 0)=some (if s∈aq (l.take i) then [.int .u64 (og l s:Int),.bool true] else [.int .u64 0,.bool false]):=by
   unfold ya
   rw [if_pos (show La .str (B s)=true from rfl)]
   simp only [MM,xy,bB]
   by_cases h:s∈aq (l.take i)
   ·simp [h,Lf h]
   ·simp [h]
  rw [f,xT g]
  unfold wg
  simp only [af,ai,ay,az,al,j,decide_true,ah,ab,o,p,e]
  by_cases h:s∈aq (l.take i)
  ·simp only [h,if_true,ai,af,aX,a8,ag,ab,cx,ao,hlen,e9 hi,a,au (show i < 2 ^ 62 by omega),xv]
  ·have b:=YX g h
   have d:qt .str (.map (ou (λk=> .int .u64 (k:Int)) 0 (aq (l.take i)))) (B s) (.int .u64 (og l s:Int))=some (.map (ou (λk=> .int .u64 (k:Int)) 0 (aq (l.take i)++[s]))):=by
    unfold qt
    rw [if_pos (show La .str (B s)=true from rfl)]
    simp only [I8,xy,h,if_false,ab]
    rw [Hg,b];simp
   rw [b] at d a
   simp only [h,if_false,ai,af,aX,ds,ah,ab,cx,ao,fq (show (aq (l.take i)).length < 2 ^ 64 by omega),d,Tj (show (aq (l.take i)).length < 2 ^ 20 by omega),hlen,e9 hi,a,au (show i < 2 ^ 62 by omega),xv,b]
def D4 (l:List Byt):Prop:= ∀s∈l,s.length<=64/\HA ⟨s.toArray⟩=true
def dictL (l:List Byt):Byt:=bw (aq l).length++((aq l).flatMap partL++pL (l.map (og l)))
theorem Nr {l:List Byt} (hl:l.length<=4096): ∀x∈l.map (og l),x < 2 ^ 64:= λx a=>by
 obtain ⟨s,hs,rfl⟩:=bb.1 a
 have:=Xp hs;have:=oq l;omega
theorem yr {l:List Byt} (h:D4 l) (W:List Byt) (a: ∀s∈W,s∈l):(W.flatMap partL).length<=74*W.length:=
 k9 (k:=74) λs hs=>by
  have h1:=(h s (a s hs)).1
  have:=dz (s:=s) (by omega)
  omega
theorem Hq {l:List Byt} (hl:l.length<=4096) (h:D4 l):(dictL l).length<=2 ^ 19:=by
 have h1:=yr h (aq l) λs hs=>(qE l s).1 hs
 have h2:=oq l
 have b:=bI (n:=(aq l).length) (by omega)
 have a:=B0 (l:=l.map (og l)) (by simp;omega) (Nr hl)
 simp only [ao] at a
 simp only [dictL,a5]
 omega
theorem BH {l:List Byt} (hl:l.length<=4096) (h:D4 l):kD (DX l)=some [B (dictL l)]:=by
 have h2:=oq l
 have p:=bI (n:=(aq l).length) (by omega)
 have k:=B0 (l:=l.map (og l)) (by simp;omega) (Nr hl)
 simp only [ao] at k
 have d:=xI (x:= .nilp) (a:=[]) (b:=bw (aq l).length) (by simp;omega)
 simp only [b3,dd] at d
 unfold kD
 simp only [OT hl,ab,af,ai,aw,ao,fq (show (aq l).length < 2 ^ 64 by omega),fu (show (aq l).length < 2 ^ 64 by omega),d]
 rw [ba (λi=>[.nilp,.lst ((bw (aq l).length++((aq l).take i).flatMap partL).map eB),.int .i64 (i:Int)]) (aq l).length 0 [.nilp,.lst ((bw (aq l).length++(aq l).flatMap partL).map eB)] (by simp) (by omega) (λi hi=> ?_) (by
  unfold uj
  simp)]
 ·have m:=Bg (l:=l.map (og l)) (by simp;omega) (Nr hl)
  have c:=yr h (aq l) λs hs=>(qE l s).1 hs
  have hw:=xI (x:= .nilp) (a:=bw (aq l).length++(aq l).flatMap partL) (b:=pL (l.map (og l))) (by rw [a5];omega)
  simp only [ab,aJ,ai,af,m,hw,pc]
  unfold dictL
  rw [a7];rfl
 ·have e:=ad hi
  generalize (aq l)[i]=s at e
  obtain ⟨g,j⟩:=acG e
  have f:((i:Int) < ((aq l).length:Int)):=by omega
  have hs:=(h s ((qE l s).1 (a1 e))).1
  have c:=yr h ((aq l).take i) λs hs=>(qE l s).1 (bO hs)
  simp only [bs] at c
  have o:=dz (s:=s) (by omega)
  have hw:=xI (x:= .nilp) (a:=bw (aq l).length++((aq l).take i).flatMap partL) (b:=partL s) (by rw [a5];omega)
  unfold uj
  simp only [af,ai,ay,al,f,decide_true,ah,ab,g,j,Wn (s:=s) (by omega),hw,au (show i < 2 ^ 62 by omega),qy e,a7]
theorem S9 {p s t:Byt} (hs:s.length<=64) (hv:HA ⟨s.toArray⟩=true) (h:p.length+t.length < 2 ^ 40):ra (B (p++(partL s++t))) (.int .i64 (p.length:Int)) (.int .i64 64)=some [B s,.int .i64 ((p++partL s).length:Int),.int .i64 0]:=by
 have l:=dz (s:=s) (by omega)
 have e0: ¬((p.length:Int) < 0):=by omega
 have d: ¬(((p++(partL s++t)).length:Int) < (p.length:Int)):=by simp;omega
 have j:=Nd (n:=s.length) (by omega) (partL s++t) (s++t) (by simp [partL])
 have e: ¬((64:Int) < 0):=by decide
 have f:bQ .u64 (.int .i64 64)=some (.int .u64 64):=rfl
 have g: ¬((64:Int) < (s.length:Int)):=by omega
 have i: ¬(((s++t).length:Int) < (s.length:Int)):=by simp;omega
 have k:=FW s t (s.length:Int) rfl
 have c:=C1 (s:=⟨s.toArray⟩) (by rw [yo];omega)
 rw [hv] at c
 have b:jE (B s)=some [.bool true]:=c
 have a:aa .sub (.int .i64 ((p++(partL s++t)).length:Int)) (.int .i64 (t.length:Int))=some (.int .i64 ((p++partL s).length:Int)):=by
  rw [qP (by simp;omega) (by simp;omega)];congr 2;simp only [a5];omega
 unfold ra
 simp only [al,e0,decide_false,ab,ag,jO,aW,d,af,wz p.length rfl,lJ,ai,j,xR,yI,e,f,drop2,g,qT,fq (show (s++t).length < 2 ^ 64 by simp;omega),i,kQ (show s.length < 2 ^ 63 by omega),k,b,aX,a8,a]
 rfl
theorem VQ {l:List Byt} (hl:l.length<=4096):tJ (DX (aq l)) (NW (l.map (og l)))=some [.bool true]:=by
 have h2:=oq l
 unfold tJ
 simp only [aw,ab,ao]
 rw [ba (λi=>[.int .u64 ((aq (l.take i)).length:Int),.int .i64 (i:Int)]) l.length 0 [.int .u64 ((aq l).length:Int)] (by simp [aq]) (by omega) (λi hi=> ?_) (by
  unfold zY
  simp)]
 ·simp only [ab,aJ]
  rw [ba (λi=>[.map (ou (λ_=> .bool true) 0 ((aq l).take i)),.int .i64 (i:Int)]) (aq l).length 0 [.map (ou (λ_=> .bool true) 0 (aq l))] (by simp [ou]) (by omega) (λi hi=> ?_) (by
   unfold xC
   simp)]
  ·simp only [ab,aJ,af,fq (show (aq l).length < 2 ^ 64 by omega),dP,decide_true,ah,Dj,Vx,df,cX,bB]
  ·have a:=ad hi
   generalize (aq l)[i]=s at a
   obtain ⟨g,j⟩:=acG a
   have c:((i:Int) < ((aq l).length:Int)):=by omega
   have n:s∉(aq l).take i:=by
    have e:=VB l
    rw [<-bM (i+1) (aq l),bt a] at e
    have k:=(b5.1 (b5.1 e).1).2.2
    intro hm
    exact k s hm s (by simp) rfl
   have f:qt .str (.map (ou (λ_=> .bool true) 0 ((aq l).take i))) (B s) (.bool true)=some (.map (ou (λ_=> .bool true) 0 ((aq l).take (i+1)))):=by
    unfold qt
    rw [if_pos (show La .str (B s)=true from rfl)]
    simp only [I8,xy,n,if_false,ab]
    rw [bt a,Hg]
   unfold xC
   simp only [af,ai,al,c,decide_true,ah,ab,g,j,f,au (show i < 2 ^ 62 by omega)]
 ·have a:=ad hi
  generalize l[i]=s at a
  have p:(l.map (og l))[i]? =some (og l s):=by rw [bC,a];rfl
  obtain ⟨g,j⟩:=adX p
  have c:((i:Int) < (l.length:Int)):=by omega
  have t:=Xp (a1 a)
  have o:=oq (l.take i)
  simp only [bs] at o
  have hle:og l s<=(aq (l.take i)).length/\(aq (l.take (i+1))).length=max (aq (l.take i)).length (og l s+1):=by
   rw [xT a]
   unfold xv
   by_cases h:s∈aq (l.take i)
   ·have k:=b1 h
    rw [Lf h] at k
    rw [if_pos h];omega
   ·have:=YX a h
    rw [if_neg h];simp;omega
  have q: ¬(((aq (l.take i)).length:Int) < (og l s:Int)):=by omega
  have r: ¬(((aq l).length:Int)<=(og l s:Int)):=by omega
  have d:aa .add (.int .u64 (og l s:Int)) (.int .u64 1)=some (.int .u64 ((og l s+1:Nat):Int)):=oz (b:=1) (by omega)
  have m:max ((aq (l.take i)).length:Int) ((og l s+1:Nat):Int)=((aq (l.take (i+1))).length:Int):=by omega
  unfold zY
  simp only [af,ai,al,c,decide_true,ah,ab,g,j,aW,q,decide_false,ag,aw,ao,fq (show (aq l).length < 2 ^ 64 by omega),dw,r,d,adZ,m,au (show i < 2 ^ 62 by omega)]
theorem SP {l:List Byt} (hl:l.length<=4096):rM (DX (aq l)) (NW (l.map (og l)))=some [DX l,.bool true]:=by
 have h2:=oq l
 have j:kM 16 [.str ⟨#[]⟩] (.int .i64 (l.length:Int)) (.int .i64 (l.length:Int))=some (DX (a2 l.length [])):=by
  simp only [kM]
  rw [if_pos ⟨trivial,by omega,by simp;omega⟩]
  simp [eS,B]
 unfold rM
 simp only [aw,ab,ao,j]
 rw [ba (λi=>[DX (l.take i++a2 (l.length - i) []),.int .i64 (i:Int)]) l.length 0 [DX l] (by simp) (by omega) (λi hi=> ?_) (by
  unfold yl
  simp)]
 ·rfl
 ·have f:=ad hi
  generalize l[i]=s at f
  have m:(l.map (og l))[i]? =some (og l s):=by rw [bC,f];rfl
  obtain ⟨n,o⟩:=adX m
  have h:((i:Int) < (l.length:Int)):=by omega
  have a:=Xp (a1 f)
  have q: ¬(((aq l).length:Int)<=(og l s:Int)):=by omega
  have c:aa .add (.int .u64 (og l s:Int)) (.int .u64 1)=some (.int .u64 ((og l s+1:Nat):Int)):=oz (b:=1) (by omega)
  have hlen:(l.take i++a2 (l.length - i) ([]:Byt)).length=l.length:=by simp;omega
  have d:(aq l)[og l s]? =some s:=by
   exact br.2 ⟨a,List.getElem_idxOf a⟩
  have k:kN 1 (DX (aq l)) (some (.int .u64 (og l s:Int))) (some (.int .u64 ((og l s+1:Nat):Int)))=some (DX [s]):=by
   simp only [kN]
   rw [if_pos (by simp [eS])]
   have:kV ((aq l).map eS).length (some (.int .u64 (og l s:Int))) (some (.int .u64 ((og l s+1:Nat):Int)))=some (og l s,og l s+1):=by
    simp only [kV,ao,Kw (show og l s+1<=(aq l).length by omega),ab,Kw (show og l s<=og l s+1 by omega)]
   rw [this,ab]
   have e:((aq l).drop (og l s)).take 1=[s]:=by
    rw [b4 a,(br.1 d).2];rfl
   show some (IV.lst ((((aq l).map eS).drop (og l s)).take (og l s+1 - og l s)))=_
   rw [show og l s+1 - og l s=1 by omega,<-ek,<-ca,e]
  have g:qa 1 (DX (l.take i++a2 (l.length - i) [])) i l.length (DX [s])=some (DX (l.take (i+1)++a2 (l.length - (i+1)) []),.int .i64 1):=by
   simp only [qa]
   rw [if_pos ⟨by omega,by rw [ao,hlen];exact Nat.le_refl _,by simp [eS]⟩]
   have p:min (l.length - i) ([s].map eS).length=1:=by simp;omega
   rw [p]
   congr 3
   rw [<-ca,<-ek,List.take_left' (by simp;omega),<-ca,<-dq,<-dq]
   congr 1
   rw [bt f]
   congr 1
   rw [List.drop_append,List.drop_eq_nil_of_le (by simp;omega),dd,List.drop_replicate,bs]
   congr 1
   omega
  unfold yl
  simp only [af,ai,al,h,decide_true,ah,ab,n,o,aw,ao,fq (show (aq l).length < 2 ^ 64 by omega),dw,q,decide_false,ag,cx,hlen,Bn (show i<=l.length by omega),c,k,g]
  have e0:aa .eql (.int .i64 1) (.int .i64 0)=some (.bool false):=rfl
  simp only [e0,ab,ag,au (show i < 2 ^ 62 by omega)]
theorem Ai {l:List Byt} (hl:l.length<=4096) (h:D4 l):bV (B (dictL l)) (.int .i64 (l.length:Int)) (.int .i64 64)=some [DX l,.int .i64 0]:=by
 have h2:=oq l
 have x:=bI (n:=(aq l).length) (by omega)
 have u:=B0 (l:=l.map (og l)) (by simp;omega) (Nr hl)
 have y:=yr h (aq l) λs hs=>(qE l s).1 hs
 simp only [ao] at u
 have e0: ¬((l.length:Int) < 0):=by omega
 have q: ¬((4096:Int) < (l.length:Int)):=by omega
 have v:=Nd (n:=(aq l).length) (by omega) (dictL l) _ rfl
 have r: ¬((l.length:Int) < ((aq l).length:Int)):=by omega
 have d:aa .sub (.int .i64 ((dictL l).length:Int)) (.int .i64 ((((aq l).flatMap partL++pL (l.map (og l))).length:Nat):Int))=some (.int .i64 ((bw (aq l).length).length:Int)):=by
  rw [qP (by simp [dictL]) (by simp only [dictL,a5];omega)];congr 2;simp [dictL]
 have m:=BD (l:=l.map (og l)) (by simp;omega) (Nr hl)
 simp only [ao] at m
 unfold bV
 simp only [al,e0,decide_false,ab,ag,aW,q,lJ,af,ai,v,xR,yI,fq (show l.length < 2 ^ 64 by omega),drop2,r,jO,qT,d]
 rw [ba (λi=>[DX ((aq l).take i),.int .i64 ((bw (aq l).length++((aq l).take i).flatMap partL).length:Nat),.int .u64 (i:Int)]) (aq l).length 0 [DX (aq l),.int .i64 ((bw (aq l).length++(aq l).flatMap partL).length:Nat)] (by simp) (by omega) (λi hi=> ?_) (by
  unfold sq
  simp)]
 ·have k:fE (B (dictL l)) (some (.int .i64 ((bw (aq l).length++(aq l).flatMap partL).length:Nat))) none=some (B (pL (l.map (og l)))):=by
   unfold dictL
   rw [<-a7]
   exact wz _ rfl
  simp only [ab,aJ,af,ai,k,m,yI,ag,VQ hl,aX,a8,SP hl]
 ·have e:=ad hi
  generalize (aq l)[i]=s at e
  obtain ⟨g,j⟩:=h s ((qE l s).1 (a1 e))
  have f:((i:Int) < ((aq l).length:Int)):=by omega
  have a:dictL l=(bw (aq l).length++((aq l).take i).flatMap partL)++(partL s++(((aq l).drop (i+1)).flatMap partL++pL (l.map (og l)))):=by
   unfold dictL
   conv=>lhs;enter [2,1];rw [<-bM i (aq l),List.flatMap_append,s7 e]
   simp only [a7]
  have w:=dz (s:=s) (by omega)
  have o:=S9 (p:=bw (aq l).length++((aq l).take i).flatMap partL) (s:=s) (t:=((aq l).drop (i+1)).flatMap partL++pL (l.map (og l))) g j (by
   have:=Hq hl h
   rw [a] at this
   simp only [a5] at this ⊢
   omega)
  rw [<-a] at o
  have c:aa .add (.int .u64 (i:Int)) (.int .u64 1)=some (.int .u64 ((i+1:Nat):Int)):=oz (b:=1) (by omega)
  unfold sq
  simp only [af,ai,ay,drop2,al,f,decide_true,ah,ab,o,yI,ag,Tj (show ((aq l).take i).length < 2 ^ 20 by simp;omega),c,bt e,qy e,a7]
  simp [a7]
end Go.AM
namespace Go.AM
abbrev Ck:=Nat×Byt
def eCk (c:Ck):List IV:=[.int .i64 (c.1:Int),B c.2]
abbrev fN (l:List Ck):IV:= .lst (l.map eCk)
theorem Fa {l:List Ck} {i:Nat} {x:Ck} (h:l[i]? =some x):aK (fN l) (.int .i64 (i:Int)) 2=some i/\dN (fN l) i 0 2=some (eCk x)/\dU (fN l) i 0=some (.int .i64 (x.1:Int))/\dU (fN l) i 1=some (B x.2):=
 ⟨ea h rfl (by decide),rK h rfl,by rw [b8 h];rfl,by rw [b8 h];rfl⟩
def bys (s:ByteArray):Byt:=s.data.toList
theorem YG (s:ByteArray):B (bys s)= .str s:=(ahd s).symm
theorem YH (s:ByteArray):(⟨(bys s).toArray⟩:ByteArray)=s:=by unfold bys;simp
theorem abT {m:Mv} (h:oneV m=true):WC m.ch m.par m.nm=true:=by unfold oneV at h;exact (cc _ _▸h).2
theorem Y0 {ch par:Int} {nm:ByteArray} (h:WC ch par nm=true):(bys nm).length<=64/\HA nm=true:=by
 unfold WC at h
 simp only [cc,decide_eq_true_eq] at h
 refine ⟨?_,h.2⟩
 unfold bys
 rw [BV];exact h.1.2
def cs (l:List Mv):List Int:=l.map (·.c)
def ps (l:List Mv):List Int:=l.map (·.par)
def hs (l:List Mv):List Int:=l.map (·.ch)
def rs (l:List Mv):List Nat:=l.map (·.r.toNat)
def ns (l:List Mv):List Byt:=l.map λm=>bys m.nm
def ks (l:List Mv):List Nat:=l.map (·.rk)
def yw (l:List Mv):List Ck:=[(4,bw l.length),(5,partL (deltaL (cs l))++pL (rs l)),(6,partL (deltaL (ps l))++deltaL (hs l)),(7,dictL (ns l)),(8,ranksL (ks l))]
structure OkLog (l:List Mv):Prop where
 may:mayV l=true
 ok: ∀m∈l,OKm m
theorem OkLog.len {l:List Mv} (h:OkLog l):l.length<=2000:=(lD.1 h.may).1
theorem OkLog.one {l:List Mv} (h:OkLog l) {m:Mv} (hm:m∈l):oneV m=true:=(lD.1 h.may).2.1 m hm
theorem OkLog.rs64 {l:List Mv} (h:OkLog l): ∀x∈rs l,x < 2 ^ 64:= λx a=>by
 obtain ⟨m,hm,rfl⟩:=bb.1 a
 have:=s6 (h.one hm);omega
theorem OkLog.can {l:List Mv} (h:OkLog l): ∀x∈ks l,CanW x:= λx a=>by
 obtain ⟨m,hm,rfl⟩:=bb.1 a
 exact ⟨(h.ok m hm).rk,by rw [<-Gy];exact (h.ok m hm).can⟩
theorem OkLog.short {l:List Mv} (h:OkLog l):D4 (ns l):= λs hs=>by
 obtain ⟨m,hm,rfl⟩:=bb.1 hs
 obtain ⟨h1,h2⟩:=Y0 (abT (h.one hm))
 exact ⟨h1,by rw [YH];exact h2⟩
theorem OkLog.csI {l:List Mv} (h:OkLog l): ∀x∈cs l,in64 x:= λx a=>by
 obtain ⟨m,hm,rfl⟩:=bb.1 a
 have:=s6 (h.one hm);constructor<;>omega
theorem OkLog.psI {l:List Mv} (h:OkLog l): ∀x∈ps l,in64 x:= λx a=>by
 obtain ⟨m,hm,rfl⟩:=bb.1 a
 exact (h.ok m hm).par
theorem OkLog.hsI {l:List Mv} (h:OkLog l): ∀x∈hs l,in64 x:= λx a=>by
 obtain ⟨m,hm,rfl⟩:=bb.1 a
 exact (h.ok m hm).ch
theorem j5 {α β:Type} {f:α->β} {l:List α} {i:Nat} {x:α} (h:l[i]? =some x):(l.take (i+1)).map f=(l.take i).map f++[f x]:=by rw [bt h];simp
theorem XP {l:List Mv} (h:OkLog l):(deltaL (cs l)).length<=20000/\(deltaL (ps l)).length<=20000/\(deltaL (hs l)).length<=20000/\(pL (rs l)).length<=40000:=by
 have hl:=h.len
 have h1:=ga (ns:=cs l)
 have h2:=ga (ns:=ps l)
 have a:=ga (ns:=hs l)
 have b:=B0 (l:=rs l) (by simp [rs];omega) h.rs64
 simp only [cs,ps,hs,rs,ao] at*
 omega
theorem Jv {l:List Mv} (h:OkLog l):lr (bg l)=some [fN (yw l),.int .i64 0]:=by
 have hl:=h.len
 obtain ⟨d1,d2,d3,d4⟩:=XP h
 have g:=yd (l:=l) (by omega)
 rw [h.may] at g
 unfold lr
 simp only [g,ab,af,aX,a8,ag,aw,ao]
 rw [ba (λi=>[bu (cs (l.take i)),bu (ps (l.take i)),bu (hs (l.take i)),NW (rs (l.take i)),DX (ns (l.take i)),qx (ks (l.take i)),.int .i64 (i:Int)]) l.length 0 [bu (cs l),bu (ps l),bu (hs l),NW (rs l),DX (ns l),qx (ks l)] (by simp [cs,ps,hs,rs,ns,ks]) (by omega) (λi hi=> ?_) (by
  unfold rT
  simp)]
 ·have h1:=nS (ns:=cs l) (by simp [cs];omega)
  have h2:=nS (ns:=ps l) (by simp [ps];omega)
  have C:=nS (ns:=hs l) (by simp [hs];omega)
  have D:=Bg (l:=rs l) (by simp [rs];omega) h.rs64
  have E:=BH (l:=ns l) (by simp [ns];omega) h.short
  have F:=vF (l:=ks l) (by simp [ks];omega) h.can
  have H:=dz (s:=deltaL (cs l)) (by omega)
  have I:=dz (s:=deltaL (ps l)) (by omega)
  simp only [ab,aJ,af,ai,ay,az,bH,bL,fq (show l.length < 2 ^ 64 by omega),fu (show l.length < 2 ^ 64 by omega),h1,h2,C,D,E,F,ny (s:=deltaL (cs l)) (by omega),ny (s:=deltaL (ps l)) (by omega),NU (a:=partL (deltaL (cs l))) (b:=pL (rs l)) (by omega),NU (a:=partL (deltaL (ps l))) (b:=deltaL (hs l)) (by omega)]
  rfl
 ·have d:=ad hi
  generalize l[i]=m at d
  have hm:=a1 d
  obtain ⟨a0,j,o,a3⟩:=uX d
  have e:((i:Int) < (l.length:Int)):=by omega
  obtain ⟨_,_,J,K⟩:=s6 (h.one hm)
  have hr:bQ .u64 (.int .i64 m.r)=some (.int .u64 (m.r.toNat:Int)):=aca (by omega) (by omega)
  have G:(l.take i).length<=2000:=by simp;omega
  have p:=qq (l:=cs (l.take i)) (n:=m.c) (by simp [cs];omega)
  have b2:=qq (l:=ps (l.take i)) (n:=m.par) (by simp [ps];omega)
  have q:=qq (l:=hs (l.take i)) (n:=m.ch) (by simp [hs];omega)
  have t:bU 1 8 (NW (rs (l.take i))) (.lst [[.int .u64 (m.r.toNat:Int)]])=some (NW (rs (l.take i)++[m.r.toNat])):=aa7 (l:=rs (l.take i)) (k:=[m.r.toNat]) (by simp [rs];omega) (by simp)
  have f:=Tj (l:=ns (l.take i)) (x:=bys m.nm) (by simp [ns];omega)
  rw [YG] at f
  have b6:=FJ (l:=ks (l.take i)) (x:=m.rk) (by simp [ks];omega)
  have u:cs (l.take (i+1))=cs (l.take i)++[m.c]:=j5 d
  have v:ps (l.take (i+1))=ps (l.take i)++[m.par]:=j5 d
  have w:hs (l.take (i+1))=hs (l.take i)++[m.ch]:=j5 d
  have y:rs (l.take (i+1))=rs (l.take i)++[m.r.toNat]:=j5 d
  have z:ns (l.take (i+1))=ns (l.take i)++[bys m.nm]:=j5 d
  have A:ks (l.take (i+1))=ks (l.take i)++[m.rk]:=j5 d
  rw [u,v,w,y,z,A]
  unfold rT
  simp only [af,ai,ay,az,bH,bL,nR,al,e,decide_true,ah,ab,j,o,hr,p,b2,q,t,f,b6,au (show i < 2 ^ 62 by omega)]
theorem ahH {l:List Mv} {i:Nat} {m:Mv} (h:l[i]? =some m):(cs l)[i]? =some m.c/\(ps l)[i]? =some m.par/\(hs l)[i]? =some m.ch/\(rs l)[i]? =some m.r.toNat/\(ns l)[i]? =some (bys m.nm)/\(ks l)[i]? =some m.rk:=by
 simp [cs,ps,hs,rs,ns,ks,h]
theorem count_eq {n:Nat} (h:n<=2000):m5 (B (bw n))=some [.int .i64 (n:Int)]:=by
 have a:=Nd (n:=n) (by omega) (bw n) [] (by simp)
 have h1: ¬((2000:Int) < (n:Int)):=by omega
 unfold m5
 simp only [lJ,ab,af,ai,a,KD,drop2,acU,aW,h1,decide_false,ag,kQ (show n < 2 ^ 63 by omega)]
 rfl
theorem Kf {l:List Mv} (h:OkLog l):mf (fN (yw l))=some [bg l,.int .i64 0]:=by
 have hl:=h.len
 obtain ⟨d1,d2,d3,d4⟩:=XP h
 have hlen:(yw l).length=5:=rfl
 obtain ⟨M,_,_,K⟩:=Fa (l:=yw l) (i:=0) rfl
 obtain ⟨N,_,_,c1⟩:=Fa (l:=yw l) (i:=1) rfl
 obtain ⟨O,_,_,c2⟩:=Fa (l:=yw l) (i:=2) rfl
 obtain ⟨P,_,_,c3⟩:=Fa (l:=yw l) (i:=3) rfl
 obtain ⟨Q,_,_,c4⟩:=Fa (l:=yw l) (i:=4) rfl
 have t:aK (fN (yw l)) (.int .i64 0) 2=some 0:=M
 have u:aK (fN (yw l)) (.int .i64 1) 2=some 1:=N
 have v:aK (fN (yw l)) (.int .i64 2) 2=some 2:=O
 have w:aK (fN (yw l)) (.int .i64 3) 2=some 3:=P
 have y:aK (fN (yw l)) (.int .i64 4) 2=some 4:=Q
 have h1:=eL (ns:=cs l) (by simp [cs];omega) h.csI
 have h2:=eL (ns:=ps l) (by simp [ps];omega) h.psI
 have z:=eL (ns:=hs l) (by simp [hs];omega) h.hsI
 have A:=BD (l:=rs l) (by simp [rs];omega) h.rs64
 have C:=Ai (l:=ns l) (by simp [ns];omega) h.short
 have D:=tU (l:=ks l) (by simp [ks];omega) h.can
 rw [show (cs l).length=l.length by simp [cs]] at h1
 rw [show (ps l).length=l.length by simp [ps]] at h2
 rw [show (hs l).length=l.length by simp [hs]] at z
 rw [show (rs l).length=l.length by simp [rs]] at A
 rw [show (ns l).length=l.length by simp [ns]] at C
 rw [show (ks l).length=l.length by simp [ks]] at D
 have u1:=yt (a:=deltaL (cs l)) (b:=pL (rs l)) (by omega)
 have u2:=yt (a:=deltaL (ps l)) (b:=deltaL (hs l)) (by omega)
 have g: ∀x:IV,ku x (.int .i64 0)=some [x]/\qV x (.int .i64 0)=some [x]/\qJ x (.int .i64 0)=some [x]/\kp x (.int .i64 0)=some [x]:= λx=>⟨rfl,rfl,rfl,rfl⟩
 have E:=yd (l:=l) (by omega)
 rw [h.may] at E
 have L:aa .neq (.int .i64 ((5:Nat):Int)) (.int .i64 5)=some (.bool false):=rfl
 unfold mf
 simp only [aw,ao,hlen,L,ab,ag]
 rw [ba (λi=>[.int .i64 (i:Int)]) 5 0 [] (by simp) (by decide) (λi hi=> ?_) rfl]
 ·simp only [ab,aJ,t,u,v,w,y,K,c1,c2,c3,c4,count_eq hl,af,ai,u1,u2,h1,h2,z,A,C,D,(g _).1,(g _).2.1,(g _).2.2.1,(g _).2.2.2]
  rw [ba (λi=>[bg (l.take i),.int .i64 (i:Int)]) l.length 0 [bg l] (by simp) (by omega) (λi hi=> ?_) (by
   unfold dk
   simp)]
  ·simp only [ab,aJ,af,E,aX,a8,ag,yI]
  ·have e:=ad hi
   generalize l[i]=m at e
   have hm:=a1 e
   obtain ⟨q1,R,S,T,U,V⟩:=ahH e
   obtain ⟨_,G,_,f⟩:=oS q1
   obtain ⟨_,H,_,j⟩:=oS R
   obtain ⟨_,a3,_,n⟩:=oS S
   obtain ⟨a4,o⟩:=adX T
   obtain ⟨I,d⟩:=acG U
   obtain ⟨J,p⟩:=Vf V
   rw [YG] at d
   have s:((i:Int) < (l.length:Int)):=by omega
   obtain ⟨_,_,W,X⟩:=s6 (h.one hm)
   have hr:bQ .i64 (.int .u64 (m.r.toNat:Int))=some (.int .i64 m.r):=by
    rw [kQ (by omega)];congr 2;omega
   have F:=yq m
   rw [h.one hm] at F
   have q:bU 6 56 (bg (l.take i)) (.lst [[.int .i64 m.c,.int .i64 m.r,.int .i64 m.par,.int .i64 m.ch,.str m.nm,.flt .f64 m.rk]])=some (bg (l.take i++[m])):=SX (l:=l.take i) (k:=[m]) (by simp;omega) (by simp)
   unfold dk
   simp only [af,ai,al,s,decide_true,ah,ab,G,f,H,j,a3,n,a4,o,I,d,J,p,hr,F,aX,a8,ag,q,au (show i < 2 ^ 62 by omega),bt e]
 ·match i,hi with
  | 0,_=>rfl
  | 1,_=>rfl
  | 2,_=>rfl
  | 3,_=>rfl
  | 4,_=>rfl
  | k+5,hi=>omega
end Go.AM
namespace Go.AM
theorem put_eq {C:IV->List Nat->List (List IV)->Option (List IV)} (xs:List (IV×Byt)) (hn:xs.length < 100) (j: ∀p∈xs,C (GL "bonsai/snap.bytes" p.1) [1] []=some [B p.2]) (hb: ∀p∈xs,p.2.length<=2 ^ 22):il C (.lst (xs.map λp=>[p.1]))=some [B (xs.flatMap (·.2))]:=by
 unfold il
 simp only [aw,ab,ao]
 rw [ba (λi=>[.nilp,.lst (((xs.take i).flatMap (·.2)).map eB),.int .i64 (i:Int)]) xs.length 0 [.nilp,.lst ((xs.flatMap (·.2)).map eB)] (by simp) (by omega) (λi hi=> ?_) (by
  unfold AY
  simp)]
 ·simp only [ab,aJ,ai,pc];rfl
 ·have c:=ad hi
  generalize xs[i]=p at c
  have hp:=a1 c
  have g:aK (.lst (xs.map λp=>[p.1])) (.int .i64 (i:Int)) 1=some i:=ea (enc:= λp=>[p.1]) c rfl Nat.one_pos
  have h:dU (.lst (xs.map λp=>[p.1])) i 0=some p.1:=by rw [b8 (enc:= λp=>[p.1]) c];rfl
  have e:((i:Int) < (xs.length:Int)):=by omega
  have d:=k9 (f:= λp:IV×Byt=>p.2) (l:=xs.take i) (k:=2 ^ 22) λq m=>hb q (bO m)
  simp only [bs] at d
  have hw:=xI (x:= .nilp) (a:=(xs.take i).flatMap (·.2)) (b:=p.2) (by have:=hb p hp;omega)
  unfold AY
  simp only [af,ai,ay,al,e,decide_true,ah,ab,g,h,j p hp,hw,au (show i < 2 ^ 62 by omega),qy (f:= λp:IV×Byt=>p.2) c]
def mr (v:List Mark):List Int:=v.map (·.r)
def mc (v:List Mark):List Int:=v.map (·.c)
def HB (v:List Mark):Byt:=bw v.length++(partL (deltaL (mr v))++deltaL (mc v))
theorem MayP.len {v:List Mark} (h:MayP v):v.length<=255:=by
 have key: ∀(v:List Mark) (n:Int),v.Pairwise (λa b=>a.r < b.r)->(∀x∈v,n < x.r/\x.r<=255)->n<=255->(v.length:Int)<=255 - n:=by
  intro v
  induction v with
  | nil=>intro n _ _ h;simp;omega
  | cons x v ih=>
    intro n hp c h
    obtain ⟨h1,h2⟩:=c x List.mem_cons_self
    have:=ih x.r (c0.1 hp).2 (λy d=>⟨(c0.1 hp).1 y d,(c y (cO _ d)).2⟩) h2
    simp;omega
 have:=key v 0 h.sorted (λx c=>by have:=h.ok x c;omega) (by decide)
 omega
theorem ag4 {v:List Mark} (h:MayP v):(∀x∈mr v,in64 x)/\ ∀x∈mc v,in64 x:=
 ⟨λx a=>by obtain ⟨m,hm,rfl⟩:=bb.1 a;have:=h.ok m hm;constructor<;>omega,λx a=>by obtain ⟨m,hm,rfl⟩:=bb.1 a;have:=h.ok m hm;constructor<;>omega⟩
theorem vE {n:Nat} (h:n < 2 ^ 63):dc (.int .i64 (n:Int))=some [B (bw n)]:=by
 unfold dc
 simp only [fq (show n < 2 ^ 64 by omega),ab,fu (show n < 2 ^ 64 by omega),af]
 rfl
theorem yp {l:List Int} (h:l.length < 2 ^ 16):ey (bu l)=some [B (deltaL l)]:=by
 unfold ey
 rw [nS h];rfl
theorem U3 {l:List Byt} (hl:l.length<=4096) (h:D4 l):gi (DX l)=some [B (dictL l)]:=by
 unfold gi
 rw [BH hl h];rfl
theorem Ug {l:List Nat} (hl:l.length<=4096) (h: ∀w∈l,CanW w):fZ (qx l)=some [B (ranksL l)]:=by
 unfold fZ
 rw [vF hl h];rfl
theorem KE {C:IV->List Nat->List (List IV)->Option (List IV)} {y:IV} {s:Byt} (h:C (GL "bonsai/snap.bytes" y) [1] []=some [B s]) (hs:s.length < 2 ^ 40):Bm "bonsai/snap.bytes" bJ C y=some [B (partL s)]:=by
 unfold Bm
 rw [h,ab,af,ny hs];rfl
theorem XR {v:List Mark} (h:MayP v):(HB v).length<=6000:=by
 have hl:=h.len
 have h1:=bI (n:=v.length) (by omega)
 have h2:=ga (ns:=mr v)
 have c:=ga (ns:=mc v)
 have b:(mr v).length=v.length:=by simp [mr]
 have a:(mc v).length=v.length:=by simp [mc]
 have d:=dz (s:=deltaL (mr v)) (by omega)
 simp only [HB,a5] at*
 omega
theorem GG {v:List Mark} (h:MayP v):jZ (aA v)=some [B (HB v)]:=by
 have hl:=h.len
 unfold jZ
 simp only [aw,ab,ao]
 rw [ba (λi=>[bu (mr (v.take i)),bu (mc (v.take i)),.int .i64 (i:Int)]) v.length 0 [bu (mr v),bu (mc v)] (by simp [mr,mc]) (by omega) (λi hi=> ?_) (by
  unfold qi
  simp)]
 ·have h2:=ga (ns:=mr v)
  have k:=ga (ns:=mc v)
  simp only [mr,mc,ao] at h2 k
  have i1:=yp (l:=mr v) (by simp [mr];omega)
  have i2:=yp (l:=mc v) (by simp [mc];omega)
  have c1:=vE (n:=v.length) (by omega)
  have o:Bm "bonsai/snap.bytes" bJ iY (.ifc 322 false (bu (mr v)))=some [B (partL (deltaL (mr v)))]:=KE i1 (by simp only [mr];omega)
  have q:=dz (s:=deltaL (mr v)) (by simp only [mr];omega)
  have h1:=bI (n:=v.length) (by omega)
  have:=put_eq (C:=fM) [(.ifc 266 false (.int .i64 (v.length:Int)),bw v.length),(.ifc 326 true (.ifc 322 false (bu (mr v))),partL (deltaL (mr v))),(.ifc 322 false (bu (mc v)),deltaL (mc v))] (by simp)
   (λp hp=>by
     simp only [bd,bm,or_false] at hp
     rcases hp with rfl | rfl | rfl
     ·exact c1
     ·exact o
     ·exact i2)
   (λp hp=>by
     simp only [bd,bm,or_false] at hp
     simp only [mr,mc] at*
     rcases hp with rfl | rfl | rfl<;>simp only<;>omega)
  simp only [bR,b3,b7,cd,cl] at this
  simp only [ab,aJ,af,ai,this]
  rfl
 ·have a:=ad hi
  generalize v[i]=m at a
  obtain ⟨_,d,e,_⟩:=sX a
  have b:((i:Int) < (v.length:Int)):=by omega
  have f:=qq (l:=mr (v.take i)) (n:=m.r) (by simp [mr];omega)
  have b2:=qq (l:=mc (v.take i)) (n:=m.c) (by simp [mc];omega)
  have g:mr (v.take (i+1))=mr (v.take i)++[m.r]:=j5 a
  have j:mc (v.take (i+1))=mc (v.take i)++[m.c]:=j5 a
  rw [g,j]
  unfold qi
  simp only [af,ai,ay,al,b,decide_true,ah,ab,d,e,f,b2,au (show i < 2 ^ 62 by omega)]
theorem snap_open_eq {n most:Nat} {t:Byt} (h:n<=most) (hm:most<=2000) (b:t.length < 2 ^ 40):snap_open_s (B (bw n++t)) (.int .u64 (most:Int))=some [B t,.int .i64 (n:Int),.int .i64 0]:=by
 have a:=yA (n:=n) (by omega) t
 have hl:=bI (n:=n) (by omega)
 have h1: ¬((most:Int) < (n:Int)):=by omega
 have hs:aa .sub (.int .i64 ((bw n++t).length:Int)) (.int .i64 (t.length:Int))=some (.int .i64 ((bw n).length:Int)):=by
  rw [qP (by simp) (by simp;omega)];congr 2;simp
 unfold snap_open_s
 simp only [lJ,a,ab,af,ai,xR,yI,ag,drop2,aW,h1,decide_false,jO,qT,hs,wz (bw n).length rfl,kQ (show n < 2 ^ 63 by omega)]
set_option maxHeartbeats 4000000 in
theorem FM {v:List Mark} (h:MayP v):je (B (HB v))=some [aA v,.int .i64 0]:=by
 have hl:=h.len
 have h2:=ga (ns:=mr v)
 have E:=ga (ns:=mc v)
 have w:(mr v).length=v.length:=by simp [mr]
 have u:(mc v).length=v.length:=by simp [mc]
 have F:=dz (s:=deltaL (mr v)) (by omega)
 obtain ⟨A,C⟩:=ag4 h
 have e:=snap_open_eq (n:=v.length) (most:=255) (t:=partL (deltaL (mr v))++deltaL (mc v)) hl (by decide) (by simp;omega)
 have f:=pq (a:=deltaL (mr v)) (b:=deltaL (mc v)) (by omega)
 have d1:=eL (ns:=mr v) (by omega) A
 have d2:=eL (ns:=mc v) (by omega) C
 rw [w] at d1
 rw [u] at d2
 have x:=xN (v:=v) (by omega)
 rw [Fs.2 h] at x
 have d:snap_open_s (B (bw v.length++(partL (deltaL (mr v))++deltaL (mc v)))) (.int .u64 255)=some [B (partL (deltaL (mr v))++deltaL (mc v)),.int .i64 (v.length:Int),.int .i64 0]:=e
 have D:iter rounds (iQ [B (partL (deltaL (mr v))++deltaL (mc v)),.int .i64 (v.length:Int),.int .i64 0] [bu (mr v),.int .i64 0] [bu (mc v),.int .i64 0]) [.lst [],.int .i64 0]=some (0,[aA v]):=by
  rw [ba (λi=>[aA (v.take i),.int .i64 (i:Int)]) v.length 0 [aA v] (by simp) (by omega) (λi hi=> ?_) (by
   unfold iQ
   simp)]
  have g:=ad hi
  generalize v[i]=m at g
  obtain ⟨_,y,_,j⟩:=oS (show (mr v)[i]? =some m.r by simp [mr,g])
  obtain ⟨_,z,_,o⟩:=oS (show (mc v)[i]? =some m.c by simp [mc,g])
  have q:((i:Int) < (v.length:Int)):=by omega
  have p:bU 2 16 (aA (v.take i)) (.lst [[.int .i64 m.r,.int .i64 m.c]])=some (aA (v.take i++[m])):=Z3 (l:=v.take i) (k:=[m]) (by simp;omega) (by simp)
  unfold iQ
  simp only [af,ai,al,q,decide_true,ah,ab,y,j,z,o,p,au (show i < 2 ^ 62 by omega),bt g]
 unfold je HB
 rw [d,ab,ay,yI,ab,ag,af,f,ab,ay,yI,ab,ag,af,ai,ai,d1,ab,ai,yI,ab,ag,d2,ab,ai,yI,ab,ag,D,ab,aJ,af,x,ab,af,aX,ab]
 rfl
end Go.AM
namespace Go.AM
def rc (l:List Rw):List Int:=l.map (·.ch)
def rp (l:List Rw):List Int:=l.map (·.par)
def rn (l:List Rw):List Byt:=l.map λr=>bys r.nm
def rk (l:List Rw):List Nat:=l.map (·.rk)
def rowsL (l:List Rw):Byt:=bw l.length++(partL (deltaL (rc l))++(partL (deltaL (rp l))++(partL (dictL (rn l))++ranksL (rk l))))
structure OkBase (l:List Rw):Prop where
 may:mayR l=true
 ok:OKl l
theorem OkBase.len {l:List Rw} (h:OkBase l):l.length<=2000:=(yK h.may).1
theorem OkBase.one {l:List Rw} (h:OkBase l) {r:Rw} (hr:r∈l):R3 r=true:=(yK h.may).2.1 r hr
theorem OkBase.can {l:List Rw} (h:OkBase l): ∀x∈rk l,CanW x:= λx a=>by
 obtain ⟨r,hr,rfl⟩:=bb.1 a
 exact ⟨(h.ok r hr).rk,by rw [<-Gy];exact (h.ok r hr).can⟩
theorem OkBase.short {l:List Rw} (h:OkBase l):D4 (rn l):= λs hs=>by
 obtain ⟨r,hr,rfl⟩:=bb.1 hs
 obtain ⟨h1,h2⟩:=Y0 (h.one hr)
 exact ⟨h1,by rw [YH];exact h2⟩
theorem OkBase.i64 {l:List Rw} (h:OkBase l):(∀x∈rc l,in64 x)/\ ∀x∈rp l,in64 x:=
 ⟨λx a=>by obtain ⟨r,hr,rfl⟩:=bb.1 a;exact (h.ok r hr).ch,λx a=>by obtain ⟨r,hr,rfl⟩:=bb.1 a;exact (h.ok r hr).par⟩
theorem LS {l:List Rw} (h:OkBase l):(rc l).length=l.length/\(rp l).length=l.length/\(rn l).length=l.length/\(rk l).length=l.length/\(deltaL (rc l)).length<=20000/\(deltaL (rp l)).length<=20000/\(dictL (rn l)).length<=2 ^ 19/\(ranksL (rk l)).length<=2 ^ 17/\(partL (deltaL (rc l))).length<=20010/\(partL (deltaL (rp l))).length<=20010/\(partL (dictL (rn l))).length<=2 ^ 19+10/\(bw l.length).length<=10:=by
 have hl:=h.len
 have a:(rc l).length=l.length:=by simp [rc]
 have b:(rp l).length=l.length:=by simp [rp]
 have c:(rn l).length=l.length:=by simp [rn]
 have d:(rk l).length=l.length:=by simp [rk]
 have h1:=ga (ns:=rc l)
 have h2:=ga (ns:=rp l)
 have e:=Hq (l:=rn l) (by omega) h.short
 have f:=NA (l:=rk l) (by omega)
 have g:=dz (s:=deltaL (rc l)) (by omega)
 have i:=dz (s:=deltaL (rp l)) (by omega)
 have j:=dz (s:=dictL (rn l)) (by omega)
 have q:=bI (n:=l.length) (by omega)
 exact ⟨a,b,c,d,by omega,by omega,e,f,by omega,by omega,by omega,q⟩
theorem J2 {l:List Rw} (h:OkBase l):lp (cr l)=some [B (rowsL l)]:=by
 have hl:=h.len
 obtain ⟨s,t,u,v,A,D,z3,z4,w,y,z,q⟩:=LS h
 unfold lp
 simp only [aw,ab,ao]
 rw [ba (λi=>[bu (rc (l.take i)),bu (rp (l.take i)),DX (rn (l.take i)),qx (rk (l.take i)),.int .i64 (i:Int)]) l.length 0 [bu (rc l),bu (rp l),DX (rn l),qx (rk l)] (by simp [rc,rp,rn,rk]) (by omega) (λi hi=> ?_) (by
  unfold si
  simp)]
 ·have i1:=yp (l:=rc l) (by omega)
  have i2:=yp (l:=rp l) (by omega)
  have i3:=U3 (l:=rn l) (by omega) h.short
  have i4:=Ug (l:=rk l) (by omega) h.can
  have c1:=vE (n:=l.length) (by omega)
  have u1:Bm "bonsai/snap.bytes" bJ eE (.ifc 322 false (bu (rc l)))=some [B (partL (deltaL (rc l)))]:=KE i1 (by omega)
  have u2:Bm "bonsai/snap.bytes" bJ eE (.ifc 322 false (bu (rp l)))=some [B (partL (deltaL (rp l)))]:=KE i2 (by omega)
  have u3:Bm "bonsai/snap.bytes" bJ eE (.ifc 323 false (DX (rn l)))=some [B (partL (dictL (rn l)))]:=KE i3 (by omega)
  have:=put_eq (C:=gC) [(.ifc 266 false (.int .i64 (l.length:Int)),bw l.length),(.ifc 326 true (.ifc 322 false (bu (rc l))),partL (deltaL (rc l))),(.ifc 326 true (.ifc 322 false (bu (rp l))),partL (deltaL (rp l))),(.ifc 326 true (.ifc 323 false (DX (rn l))),partL (dictL (rn l))),(.ifc 324 false (qx (rk l)),ranksL (rk l))] (by simp)
   (λp hp=>by
     simp only [bd,bm,or_false] at hp
     rcases hp with rfl | rfl | rfl | rfl | rfl
     ·exact c1
     ·exact u1
     ·exact u2
     ·exact u3
     ·exact i4)
   (λp hp=>by
     simp only [bd,bm,or_false] at hp
     rcases hp with rfl | rfl | rfl | rfl | rfl<;>simp only<;>omega)
  simp only [bR,b3,b7,cd,cl] at this
  simp only [ab,aJ,af,ai,ay,az,this]
  rfl
 ·have a:=ad hi
  generalize l[i]=r at a
  obtain ⟨_,d,e,_⟩:=Qt a
  have b:((i:Int) < (l.length:Int)):=by omega
  have f:=qq (l:=rc (l.take i)) (n:=r.ch) (by simp [rc];omega)
  have b2:=qq (l:=rp (l.take i)) (n:=r.par) (by simp [rp];omega)
  have c:=Tj (l:=rn (l.take i)) (x:=bys r.nm) (by simp [rn];omega)
  rw [YG] at c
  have g:=FJ (l:=rk (l.take i)) (x:=r.rk) (by simp [rk];omega)
  have j:rc (l.take (i+1))=rc (l.take i)++[r.ch]:=j5 a
  have k:rp (l.take (i+1))=rp (l.take i)++[r.par]:=j5 a
  have m:rn (l.take (i+1))=rn (l.take i)++[bys r.nm]:=j5 a
  have o:rk (l.take (i+1))=rk (l.take i)++[r.rk]:=j5 a
  rw [j,k,m,o]
  unfold si
  simp only [af,ai,ay,az,bH,al,b,decide_true,ah,ab,d,e,f,b2,c,g,au (show i < 2 ^ 62 by omega)]
theorem ZT {l:List Int} (hl:l.length < 2 ^ 16) (h:xn l):mh (bu l)=some [.bool true]:=by
 unfold mh
 rw [ba (λi=>[.int .i64 ((i+1:Nat):Int)]) (l.length - 1) 0 [] (by simp) (by omega) (λi hi=> ?_) (by
  have: ¬(((l.length - 1+1:Nat):Int) < (l.length:Int)):=by omega
  unfold rZ
  simp only [af,aw,ao,ab,al,this,decide_false,ag])]
 ·rfl
 ·have g:=ad (show i+1 < l.length by omega)
  have j:=ad (show i < l.length by omega)
  have d:l[i]'(by omega) < l[i+1]'(by omega):=List.pairwise_iff_getElem.1 h i (i+1) (by omega) (by omega) (by omega)
  generalize l[i+1]'(by omega)=x at*
  generalize l[i]'(by omega)=y at*
  obtain ⟨_,e,_,a⟩:=oS g
  obtain ⟨_,f,_,b⟩:=oS j
  have c:(((i+1:Nat):Int) < (l.length:Int)):=by omega
  have hle: ¬(x<=y):=by omega
  have hp:=s9 (i:=i+1) (by omega) (by omega)
  rw [Nat.add_sub_cancel] at hp
  unfold rZ
  simp only [af,aw,ao,ab,al,c,decide_true,ah,e,a,hp,f,b,gG,hle,decide_false,ag,au (show i+1 < 2 ^ 62 by omega)]
theorem ahi {l:List Rw} {i:Nat} {r:Rw} (h:l[i]? =some r):(rc l)[i]? =some r.ch/\(rp l)[i]? =some r.par/\(rn l)[i]? =some (bys r.nm)/\(rk l)[i]? =some r.rk:=by
 simp [rc,rp,rn,rk,h]
theorem ZA {l:List Rw} (h:OkBase l) (x y:IV):iter rounds (gR [x,.int .i64 (l.length:Int),y] [bu (rc l),.int .i64 0] [bu (rp l),.int .i64 0] [DX (rn l),.int .i64 0] [qx (rk l),.int .i64 0]) [.lst [],.int .i64 0]=some (0,[cr l]):=by
 have hl:=h.len
 rw [ba (λi=>[cr (l.take i),.int .i64 (i:Int)]) l.length 0 [cr l] (by simp) (by omega) (λi hi=> ?_) (by
  unfold gR
  simp)]
 have b:=ad hi
 generalize l[i]=r at b
 have hr:=a1 b
 obtain ⟨q1,p,q,s⟩:=ahi b
 obtain ⟨_,k,_,c⟩:=oS q1
 obtain ⟨_,m,_,d⟩:=oS p
 obtain ⟨n,a⟩:=acG q
 obtain ⟨o,e⟩:=Vf s
 rw [YG] at a
 have g:((i:Int) < (l.length:Int)):=by omega
 have j:=Bp r.ch r.par r.nm (.flt .f64 r.rk)
 rw [show WC r.ch r.par r.nm=true from h.one hr] at j
 have f:bU 4 40 (cr (l.take i)) (.lst [[.int .i64 r.ch,.int .i64 r.par,.str r.nm,.flt .f64 r.rk]])=some (cr (l.take i++[r])):=by
  simp only [bU]
  rw [if_pos ⟨by simp;omega,by simp⟩]
  simp [Zq]
 unfold gR
 simp only [af,ai,al,g,decide_true,ah,ab,k,c,m,d,n,a,o,e,j,aX,a8,ag,f,au (show i < 2 ^ 62 by omega),bt b]
theorem Iz {R:Type} (t e:Unit->Option R):((aa .neq (.int .i64 0) (.int .i64 0)).bind λv=>ae v t e)=e ():=rfl
set_option maxHeartbeats 8000000 in
theorem GQ {l:List Rw} (h:OkBase l):kj (B (rowsL l))=some [cr l,.int .i64 0]:=by
 have hl:=h.len
 obtain ⟨e,f,g,i,t,u,z3,z4,p,r,s,q⟩:=LS h
 obtain ⟨j,k⟩:=h.i64
 have c:snap_open_s (B (rowsL l)) (.int .u64 2000)=some [B (partL (deltaL (rc l))++(partL (deltaL (rp l))++(partL (dictL (rn l))++ranksL (rk l)))),.int .i64 (l.length:Int),.int .i64 0]:=snap_open_eq (n:=l.length) (most:=2000) hl (by decide) (by simp only [a5];omega)
 have c1:=pq (a:=deltaL (rc l)) (b:=partL (deltaL (rp l))++(partL (dictL (rn l))++ranksL (rk l))) (by simp only [a5];omega)
 have c2:=pq (a:=deltaL (rp l)) (b:=partL (dictL (rn l))++ranksL (rk l)) (by simp only [a5];omega)
 have c3:=pq (a:=dictL (rn l)) (b:=ranksL (rk l)) (by omega)
 have d1:=eL (ns:=rc l) (by omega) j
 have d2:=eL (ns:=rp l) (by omega) k
 have d3:=Ai (l:=rn l) (by omega) h.short
 have d4:=tU (l:=rk l) (by omega) h.can
 rw [e] at d1
 rw [f] at d2
 rw [g] at d3
 rw [i] at d4
 have o:=ZT (l:=rc l) (by omega) (yK h.may).2.2.1
 have d:=Bo (l:=l) (by omega) h.ok
 rw [h.may] at d
 have m:=ZA h (B (partL (deltaL (rc l))++(partL (deltaL (rp l))++(partL (dictL (rn l))++ranksL (rk l))))) (.int .i64 0)
 unfold kj
 rw [c,ab,ay,Iz,af,c1,ab,ay,Iz,af,ai,ai,d1,ab,ai,Iz,c2,ab,ay,Iz,af,ai,d2,ab,ai,Iz,c3,ab,ay,Iz,af,ai,d3,ab,ai,Iz,d4,ab,ai,Iz,ak,m,ab,aJ,af,o,ab,af,aX,ab]
 show (qH (cr l)).bind _=_
 rw [d,ab]
 rfl
end Go.AM
namespace Go.AM
theorem KC {f:List IV->Option SR} (P:IV->Prop) (n:Nat) (hs: ∀i x,i < n->P x-> ∃y,P y/\f [x,.int .i64 (i:Int)]=some (.next [y,.int .i64 ((i+1:Nat):Int)])) (he: ∀x,P x->f [x,.int .i64 (n:Int)]=some (.done 0 [x])):
  ∀(k m i:Nat) (x:IV),i+k=n->k < m->P x-> ∃y,P y/\iter m f [x,.int .i64 (i:Int)]=some (0,[y])
 | 0,m,i,x,h,hm,a=>by
   obtain ⟨m,rfl⟩: ∃b,m=b+1:=⟨m - 1,by omega⟩
   obtain rfl:i=n:=by omega
   exact ⟨x,a,fL m (he x a)⟩
 | k+1,m,i,x,h,hm,a=>by
   obtain ⟨m,rfl⟩: ∃b,m=b+1:=⟨m - 1,by omega⟩
   obtain ⟨y,d,e⟩:=hs i x (by omega) a
   obtain ⟨z,hz,c⟩:=KC P n hs he k m (i+1) y (by omega) (by omega) d
   exact ⟨z,hz,by rw [mB m e,c]⟩
def U32 (x:IV):Prop:= ∃c:Nat,c < 2 ^ 32/\x= .int .u32 (c:Int)
theorem wrap32 (z:Int):aB.wrap z=z % 2 ^ 32:=by
 unfold IntKind.wrap
 show (if (false&&decide ((z % (2 ^ 32:Int))>=(2 ^ 31:Int)))=true then (z % (2 ^ 32:Int)) - (2 ^ 32:Int) else (z % (2 ^ 32:Int)))=_
 simp
theorem Xg (z:Int):U32 (.int .u32 (aB.wrap z)):=by
 rw [wrap32]
 refine ⟨(z % 2 ^ 32).toNat,?_,?_⟩
 ·omega
 ·congr 1;omega
theorem ab8: ∀x,U32 x-> ∃y,U32 y/\iter rounds u7 [x,.int .i64 0]=some (0,[y]):= λx a=>by
 refine KC U32 8 (λi x hi a=> ?_) (λx a=> ?_) 8 rounds 0 x rfl (by rw [aI];decide) a
 ·obtain ⟨c,hc,rfl⟩:=a
  have b:((i:Int) < 8):=by omega
  have h1:aa .shr (.int .u32 (c:Int)) (.int .u64 1)=some (.int .u32 ((c / 2:Nat):Int)):=by
   simp only [aa]
   rw [if_neg (by omega)]
   show some (IV.int .u32 ((c:Int).fdiv (2 ^ 1)))=_
   rw [Int.fdiv_eq_ediv_of_nonneg _ (by decide)];congr 2
  have h2:aa .and (.int .u32 (c:Int)) (.int .u32 1)=some (.int .u32 (aB.wrap ((a6 aB.bits (c:Int)&&&a6 aB.bits 1).toNat:Int))):=by simp only [aa,cg,if_true]
  generalize aB.wrap ((a6 aB.bits (c:Int)&&&a6 aB.bits 1).toNat:Int)=d at h2
  have f:kA .neg (.int .u32 d)=some (.int .u32 (aB.wrap (0 - d))):=rfl
  generalize aB.wrap (0 - d)=e at f
  have h:aa .and (.int .u32 3988292384) (.int .u32 e)=some (.int .u32 (aB.wrap ((a6 aB.bits 3988292384&&&a6 aB.bits e).toNat:Int))):=by simp only [aa,cg,if_true]
  generalize aB.wrap ((a6 aB.bits 3988292384&&&a6 aB.bits e).toNat:Int)=g at h
  have j:aa .xor (.int .u32 ((c / 2:Nat):Int)) (.int .u32 g)=some (.int .u32 (aB.wrap ((a6 aB.bits ((c / 2:Nat):Int) ^^^ a6 aB.bits g).toNat:Int))):=by simp only [aa,cg,if_true]
  refine ⟨_,Xg ((a6 aB.bits ((c / 2:Nat):Int) ^^^ a6 aB.bits g).toNat:Int),?_⟩
  unfold u7
  simp only [af,ai,al,b,decide_true,ah,ab,h1,h2,f,h,j,au (show i < 2 ^ 62 by omega)]
 ·unfold u7
  simp
theorem X1 {s:Byt} (h:s.length < 900000*2) (hs:s.length < 999999): ∃c:Nat,c < 2 ^ 32/\wK (B s)=some [.int .u32 (c:Int)]:=by
 have hb:V8 (B s)=some (.lst (s.map eB)):=by
  show some (IV.lst (s.toArray.toList.map λb=>[IV.int .u8 b.toNat]))=_
  rfl
 have h0:aa .xor (.int .u32 0) (.int .u32 4294967295)=some (.int .u32 4294967295):=rfl
 obtain ⟨y,⟨c,hc,rfl⟩,q⟩:=KC (f:=rq (.int .i64 (s.length:Int)) (.lst (s.map eB))) U32 s.length (λi x hi m=>by
   obtain ⟨c,hc,rfl⟩:=m
   have g:=ad hi
   generalize s[i]=b at g
   have n:aK (.lst (s.map eB)) (.int .i64 (i:Int)) 1=some i:=ea g rfl Nat.one_pos
   have o:dU (.lst (s.map eB)) i 0=some (.int .u8 (b.toNat:Int)):=by rw [b8 g];rfl
   have j:((i:Int) < (s.length:Int)):=by omega
   obtain ⟨z,hz,e⟩:=ab8 _ (Xg ((a6 aB.bits (c:Int) ^^^ a6 aB.bits (aB.wrap (b.toNat:Int))).toNat:Int))
   refine ⟨z,hz,?_⟩
   have k:aa .xor (.int .u32 (c:Int)) (.int .u32 (aB.wrap (b.toNat:Int)))=some (.int .u32 (aB.wrap ((a6 aB.bits (c:Int) ^^^ a6 aB.bits (aB.wrap (b.toNat:Int))).toNat:Int))):=by
    simp only [aa,cg,if_true]
   unfold rq
   simp only [af,ai,al,j,decide_true,ah,ab,n,o,bQ,k,e,aJ,au (show i < 2 ^ 62 by omega)])
  (λx m=>by unfold rq;simp) s.length rounds 0 (.int .u32 4294967295) (by omega) (by rw [aI];omega) ⟨4294967295,by decide,rfl⟩
 have a:aa .xor (.int .u32 (c:Int)) (.int .u32 4294967295)=some (.int .u32 (aB.wrap ((a6 aB.bits (c:Int) ^^^ a6 aB.bits 4294967295).toNat:Int))):=by
  simp only [aa,cg,if_true]
 obtain ⟨d,p,e⟩:=Xg ((a6 aB.bits (c:Int) ^^^ a6 aB.bits 4294967295).toNat:Int)
 rw [e] at a
 refine ⟨d,p,?_⟩
 have l:iter rounds (rq (.int .i64 (s.length:Int)) (.lst (s.map eB))) [.int .u32 4294967295,.int .i64 0]=some (0,[.int .u32 (c:Int)]):=q
 unfold wK xE
 simp only [h0,hb,ab,aw,ao,l,aJ,af,a,xg,cX,bB]
theorem Pk {u:Nat} (h:u < 2 ^ 64): ∃l:Byt,l.length=8/\pB (.int .u64 (u:Int))=some [B l]:=by
 have g:kM 1 [.int .u8 0] (.int .i64 8) (.int .i64 8)=some (.lst ((a2 8 (0:UInt8)).map eB)):=rfl
 obtain ⟨y,⟨l,hl,rfl⟩,e⟩:=KC (f:=ni (.lst ((a2 8 (0:UInt8)).map eB)) (.int .u64 (u:Int))) (λx=> ∃l:Byt,l.length=8/\x= .lst (l.map eB)) 8 (λi x hi j=>by
   obtain ⟨l,hl,rfl⟩:=j
   have d:((i:Int) < ((8:Nat):Int)):=by omega
   have hm:aa .mul (.int .i64 8) (.int .i64 (i:Int))=some (.int .i64 ((8*i:Nat):Int)):=by
    simp only [aa,cg,if_true]
    rw [wrap64 (by omega) (by omega)];congr 2
   have hs:=mC (a:=u) (b:=8*i) (k:= .i64) (by omega)
   have hc:=SJ (u / 2 ^ (8*i)) (k:= .u64)
   have c:=MK (enc:=eB) (l:=l) (i:=i) (x:=Hp (u / 2 ^ (8*i) % 256)) (v:= .int .u8 ((u / 2 ^ (8*i) % 256:Nat):Int)) (by omega) (λ_=>rfl) (by simp [eB,qe (Nat.mod_lt _ (show 0 < 256 by decide))])
   refine ⟨_,⟨l.set i (Hp (u / 2 ^ (8*i) % 256)),by simp [hl],rfl⟩,?_⟩
   unfold ni
   simp only [af,ai,cx,ao,cv,al,d,decide_true,ah,ab,hm,hs,hc,hl,e9 hi,c,au (show i < 2 ^ 62 by omega)])
  (λx j=>by
    obtain ⟨l,hl,rfl⟩:=j
    unfold ni
    simp only [af,ai,cx,ao,cv,al,Int.lt_irrefl,decide_false,ag,ab]) 8 rounds 0 (.lst ((a2 8 (0:UInt8)).map eB)) rfl (by rw [aI];decide) ⟨_,rfl,rfl⟩
 refine ⟨l,hl,?_⟩
 have m:iter rounds (ni (.lst ((a2 8 (0:UInt8)).map eB)) (.int .u64 (u:Int))) [.lst ((a2 8 (0:UInt8)).map eB),.int .i64 0]=some (0,[.lst (l.map eB)]):=e
 unfold pB
 rw [g,ab,m,ab,aJ,af,pc];rfl
theorem Gv {s:Byt} (h:s.length < 999999): ∃t:Byt,t.length=4/\gn (B s)=some [B (s++t)]:=by
 obtain ⟨c,hc,d⟩:=X1 (s:=s) (by omega) h
 obtain ⟨l,hl,e⟩:=Pk (u:=c) (by omega)
 have f:fE (B l) none (some (.int .i64 4))=some (B (l.take 4)):=AP (i:=4) (by omega)
 refine ⟨l.take 4,by simp [hl],?_⟩
 unfold gn
 simp only [d,ab,af,fq (show c < 2 ^ 64 by omega),e,f,NU (a:=s) (b:=l.take 4) (by simp;omega)]
 rfl
open Classical in
 noncomputable def sum4 (s:Byt):Byt:=if h:s.length < 999999 then Classical.choose (Gv h) else [0,0,0,0]
theorem U5 (s:Byt):(sum4 s).length=4:=by
 unfold sum4;split
 ·rename_i h;exact (Classical.choose_spec (Gv h)).1
 ·rfl
theorem Re {s:Byt} (h:s.length < 999999):gn (B s)=some [B (s++sum4 s)]:=by
 unfold sum4;rw [dif_pos h];exact (Classical.choose_spec (Gv h)).2
def ly (c:Ck):Byt:=Hp c.1::(bw c.2.length++c.2)
 noncomputable def oneL (c:Ck):Byt:=ly c++sum4 (ly c)
theorem H3 {c:Ck} (h:c.2.length<=900000):(ly c).length<=c.2.length+11:=by
 have:=bI (n:=c.2.length) (by omega)
 simp [ly];omega
theorem KZ {c:Ck} (h:c.2.length<=900000):(oneL c).length<=c.2.length+15:=by
 have:=H3 h
 have:=U5 (ly c)
 simp [oneL];omega
theorem Ri {c:Ck} (hk:c.1 < 256) (h:c.2.length<=900000):rE (.int .i64 (c.1:Int)) (B c.2)=some [B (oneL c)]:=by
 have hl:=bI (n:=c.2.length) (by omega)
 have hh:=H3 h
 have d:=SJ c.1 (k:= .i64)
 rw [Nat.mod_eq_of_lt hk] at d
 have f:lg (.lst [[.int .u8 (c.1:Int)]])=some (B [Hp c.1]):=by
  have:=pc [Hp c.1]
  simp only [bR,b3,eB,qe hk] at this
  exact this
 have hs:=Re (s:=ly c) (by omega)
 have e:[Hp c.1]++bw c.2.length++c.2=ly c:=by simp [ly]
 unfold rE
 simp only [d,f,ab,jO,fq (show c.2.length < 2 ^ 64 by omega),fu (show c.2.length < 2 ^ 64 by omega),af,NU (a:=[Hp c.1]) (b:=bw c.2.length) (by simp;omega),NU (a:=[Hp c.1]++bw c.2.length) (b:=c.2) (by simp;omega),e,hs]
 rfl
theorem aej (a b:Byt):aa .eql (B a) (B b)=some (.bool (decide (a=b))):=by
 show some (IV.bool ((⟨a.toArray⟩:ByteArray).toList==(⟨b.toArray⟩:ByteArray).toList))=_
 rw [bA,bA]
 congr 2
 by_cases h:a=b<;>simp [h]
theorem Zf (a b:Byt):aa .neq (B a) (B b)=some (.bool (!decide (a=b))):=by
 show some (IV.bool !((⟨a.toArray⟩:ByteArray).toList==(⟨b.toArray⟩:ByteArray).toList))=_
 rw [bA,bA]
 congr 2
 by_cases h:a=b<;>simp [h]
structure OkC (L:List Ck):Prop where
 len:L.length<=8
 kind: ∀i c,L[i]? =some c->c.1=i+1
 body: ∀c∈L,c.2.length<=900000
 noncomputable def fileL (L:List Ck):Byt:=[66,78,83,73,2]++L.flatMap oneL
theorem US {L:List Ck} (h:OkC L) (K:List Ck) (a: ∀c∈K,c∈L):(K.flatMap oneL).length<=900015*K.length:=
 k9 λc hc=>by have:=h.body c (a c hc);have:=KZ this;omega
theorem Ol {L:List Ck} (h:OkC L):pz (.int .i64 2) (fN L)=some [B (fileL L),.int .i64 0]:=by
 have hl:=h.len
 have l:aa .lss (.int .i64 2) (.int .i64 0)=some (.bool false):=rfl
 have m:aa .gtr (.int .i64 2) (.int .i64 255)=some (.bool false):=rfl
 have n:sB [[.nilp,.lst []],[.str ⟨#[66,78,83,73]⟩]]=some [.nilp,.lst (([66,78,83,73]:Byt).map eB),.int .i64 4,.nilf]:=rfl
 have o:bQ .u8 (.int .i64 2)=some (.int .u8 2):=rfl
 have p:GB [[.nilp,.lst (([66,78,83,73]:Byt).map eB)],[.int .u8 2]]=some [.nilp,.lst (([66,78,83,73,2]:Byt).map eB),.nilf]:=rfl
 unfold pz
 simp only [l,m,n,o,p,ab,ag,af,ai,aw,ao]
 rw [ba (λi=>[.nilp,.lst (([66,78,83,73,2]++(L.take i).flatMap oneL:Byt).map eB),.int .i64 (i:Int),.int .i64 (i:Int)]) L.length 0 [.nilp,.lst ((fileL L).map eB)] (by simp) (by omega) (λi hi=> ?_) (by
  unfold vO
  simp [fileL])]
 ·simp only [ab,aJ,ai,pc];rfl
 ·have d:=ad hi
  generalize L[i]=c at d
  have hk:=h.kind i c d
  have hb:=h.body c (a1 d)
  obtain ⟨j,k,_,_⟩:=Fa d
  have g:((i:Int) < (L.length:Int)):=by omega
  have q: ¬((c.1:Int)<=(i:Int)):=by omega
  have r: ¬((255:Int) < (c.1:Int)):=by omega
  have s: ¬((1048576:Int) < (c.2.length:Int)):=by omega
  have e:=US h (L.take i) λc hc=>bO hc
  have t:=KZ hb
  simp only [bs] at e
  have hw:=xI (x:= .nilp) (a:=[66,78,83,73,2]++(L.take i).flatMap oneL) (b:=oneL c) (by simp only [a5,List.length_cons,List.length_nil];omega)
  have f:((i+1:Nat):Int)=(c.1:Int):=by omega
  unfold vO
  simp only [af,ai,ay,az,al,g,decide_true,ah,ab,j,k,eCk,gG,q,decide_false,ag,aW,r,jO,s,Ri (show c.1 < 256 by omega) hb,hw,au (show i < 2 ^ 62 by omega),qy d,a7,f]
theorem wF (t:Byt):dA (B ([66,78,83,73,2]++t))=some [.int .i64 2,.int .i64 0]:=by
 have e0:(IV.str ⟨#[66,78,83,73]⟩)=B [66,78,83,73]:=rfl
 have h1:(([66,78,83,73]:Byt).length:Int)<=((([66,78,83,73,2]:Byt)++t).length:Int):=by simp;omega
 have a:fE (B ([66,78,83,73,2]++t)) none (some (.int .i64 (([66,78,83,73]:Byt).length:Int)))=some (B [66,78,83,73]):=by
  have:=AP (l:=[66,78,83,73,2]++t) (i:=4) (k:= .i64) (by simp)
  exact this
 have c:fE (B ([66,78,83,73,2]++t)) (some (.int .i64 (([66,78,83,73]:Byt).length:Int))) none=some (B (2::t)):=by
  have:=AD (l:=[66,78,83,73,2]++t) (i:=4) (k:= .i64) (by simp)
  exact this
 have d:(IV.str ⟨#[]⟩)=B []:=rfl
 have e:GV (B (2::t)) (.int .i64 0)=some (.int .u8 2):=Yw (i:=0) (b:=2) rfl
 have f:bQ .i64 (.int .u8 2)=some (.int .i64 2):=rfl
 unfold dA iR eD er
 simp only [e0,jO,ab,dw,h1,decide_true,ah,a,aej,af,df,cX,bB,aX,a8,ag,c,d]
 show (av [B (2::t),.bool true]).bind _=_
 have g:av [B (2::t),.bool true]=some [B (2::t),.bool true]:=rfl
 have h:decide ((2::t:Byt)=[])=false:=by simp
 simp only [g,ab,af,ai,aX,a8,ag,aej,h,e,f]
 rfl
theorem Lo {c:Ck} {t:Byt} (hk:c.1 < 256) (h:c.2.length<=900000) (p:t.length < 2 ^ 30):nh (B (oneL c++t))=some [.int .i64 (c.1:Int),B c.2,.int .i64 ((oneL c).length:Int),.int .i64 0]:=by
 have hl:=bI (n:=c.2.length) (by omega)
 have hh:=H3 h
 have a:=U5 (ly c)
 have m:=KZ h
 have e0:oneL c++t=[Hp c.1]++(bw c.2.length++(c.2++(sum4 (ly c)++t))):=by simp [oneL,ly]
 have T1:=FW [Hp c.1] (bw c.2.length++(c.2++(sum4 (ly c)++t))) 1 rfl
 rw [<-e0] at T1
 have N:=yA (n:=c.2.length) (by omega) (c.2++(sum4 (ly c)++t))
 have T2:=FW c.2 (sum4 (ly c)++t) (c.2.length:Int) rfl
 have T3:=FW (sum4 (ly c)) t 4 (by rw [a];rfl)
 have j: ¬((1048576:Int) < (c.2.length:Int)):=by omega
 have e:aa .sub (.int .i64 ((oneL c++t).length:Int)) (.int .i64 (t.length:Int))=some (.int .i64 ((oneL c).length:Int)):=by
  rw [qP (by simp) (by simp;omega)];congr 2;simp
 have f:aa .sub (.int .i64 ((oneL c).length:Int)) (.int .i64 4)=some (.int .i64 ((ly c).length:Int)):=by
  have:(oneL c).length=(ly c).length+4:=by simp [oneL,a]
  rw [pU (by omega) (by omega)];congr 2;omega
 have q1:fE (B (oneL c++t)) none (some (.int .i64 ((ly c).length:Int)))=some (B (ly c)):=by
  rw [AP (by simp [oneL])]
  unfold oneL;rw [a7,eg]
 have o:fE (B (oneL c++t)) none (some (.int .i64 ((oneL c).length:Int)))=some (B (oneL c)):=by
  rw [AP (by simp),eg]
 have g:=Re (s:=ly c) (by omega)
 have hi:GV (B [Hp c.1]) (.int .i64 0)=some (.int .u8 (c.1:Int)):=by
  have:=Yw (l:=[Hp c.1]) (i:=0) (b:=Hp c.1) (k:= .i64) rfl
  rw [qe hk] at this;exact this
 unfold nh
 simp only [lJ,ab,af,ai,T1,N,xR,yI,ag,drop2,aW,j,decide_false,kQ (show c.2.length < 2 ^ 63 by omega),T2,T3,jO,qT,e,f,q1,g,o]
 have d:aa .neq (B (ly c++sum4 (ly c))) (B (oneL c))=some (.bool false):=by
  rw [Zf];simp [oneL]
 simp only [d,ab,ag,hi,kQ (show c.1 < 2 ^ 63 by omega)]
 rfl
theorem Mm {L:List Ck} (h:OkC L):kz (B (fileL L))=some [.int .i64 2,fN L,.int .i64 0]:=by
 have hl:=h.len
 have m:fE (B (fileL L)) (some (.int .i64 5)) none=some (B (L.flatMap oneL)):=by
  have:=AD (l:=fileL L) (i:=5) (k:= .i64) (by simp [fileL])
  exact this
 unfold kz
 rw [show dA (B (fileL L))=_ from wF (L.flatMap oneL)]
 simp only [ab,af,ai,yI,ag,m]
 have j:(IV.str ⟨#[]⟩)=B []:=rfl
 rw [ba (λi=>[B ((L.drop i).flatMap oneL),fN (L.take i),.int .i64 (i:Int)]) L.length 0 [fN L] (by simp) (by omega) (λi hi=> ?_) (by
  unfold tl
  simp [j,Zf])]
 ·rfl
 ·have a:=ad hi
  generalize L[i]=c at a
  have hk:=h.kind i c a
  have hb:=h.body c (a1 a)
  have p:=s7 (f:=oneL) a
  have d:=US h (L.drop (i+1)) λc hc=>List.mem_of_mem_drop hc
  simp only [List.length_drop] at d
  have o:=Lo (c:=c) (t:=(L.drop (i+1)).flatMap oneL) (by omega) hb (by omega)
  have g:decide (oneL c++(L.drop (i+1)).flatMap oneL=[])=false:=by simp [oneL,ly]
  have n:((i:Int) < (c.1:Int)):=by omega
  have b:bU 2 24 (fN (L.take i)) (.lst [[.int .i64 (c.1:Int),B c.2]])=some (fN (L.take i++[c])):=by
   simp only [bU]
   rw [if_pos ⟨by simp;omega,by simp⟩]
   simp [eCk]
  have e:((i+1:Nat):Int)=(c.1:Int):=by omega
  unfold tl
  simp only [af,ai,ay,p,j,Zf,g,ds,ab,ah,o,az,yI,ag,aW,n,decide_true,wz (oneL c).length rfl,b,bt a,e]
end Go.AM
namespace Go.AM
def tY (r:Rep):List Ck:=[(1,bw r.fc.toNat++bw r.fr.toNat),(2,rowsL r.base),(3,HB r.mks)]
structure OkRep (r:Rep):Prop where
 may:MayF r
 ok:OKF r
theorem OkRep.base {r:Rep} (h:OkRep r):OkBase r.base:=⟨h.may.tree,h.ok.base⟩
theorem OkRep.log {r:Rep} (h:OkRep r):OkLog r.log:=⟨h.may.moves,h.ok.log⟩
theorem OkRep.sm {r:Rep} (h:OkRep r):SmF 2000 r:=⟨h.base.len,h.log.len,by have:=h.may.marks.len;omega⟩
theorem OkRep.floor {r:Rep} (h:OkRep r):0<=r.fc/\r.fc<=4611686018427387903/\0<=r.fr/\r.fr<=255:=by
 rcases h.may.floor with ⟨h1,h2⟩ | hk
 ·omega
 ·unfold knownB at hk
  simp only [cc] at hk
  have:=Qu.1 hk.1
  omega
theorem KT {r:Rep} (h:OkRep r):nw (cr r.base) (.int .i64 r.fc) (.int .i64 r.fr) (bg r.log) (aA r.mks)=some [fN (tY r),.int .i64 0]:=by
 obtain ⟨f1,f2,f3,f4⟩:=h.floor
 have hb:=h.base.len
 have hm:=h.may.marks.len
 have b:=Bo (l:=r.base) (by omega) h.ok.base
 rw [h.may.tree] at b
 have a:=xN (v:=r.mks) (by omega)
 rw [Fs.2 h.may.marks] at a
 have c: ¬(r.fc < 0):=by omega
 have d: ¬(r.fr < 0):=by omega
 have c1:=vE (n:=r.fc.toNat) (by omega)
 have c2:=vE (n:=r.fr.toNat) (by omega)
 rw [bf f1] at c1
 rw [bf f3] at c2
 have e:=bI (n:=r.fc.toNat) (by omega)
 have f:=bI (n:=r.fr.toNat) (by omega)
 have hp:=put_eq (C:=jq) [(.ifc 266 false (.int .i64 r.fc),bw r.fc.toNat),(.ifc 266 false (.int .i64 r.fr),bw r.fr.toNat)] (by simp)
  (λp hp=>by
    simp only [bd,bm,or_false] at hp
    rcases hp with rfl | rfl
    ·exact c1
    ·exact c2)
  (λp hp=>by
    simp only [bd,bm,or_false] at hp
    rcases hp with rfl | rfl<;>simp only<;>omega)
 simp only [bR,b3,b7,cd,cl] at hp
 unfold nw
 rw [b]
 simp only [ab,af,aX,a8,ag,a,al,c,d,decide_false,hp,J2 h.base,GG h.may.marks]
 rfl
theorem aac {a b:List Ck} (p:a.length<=100) (hb:b.length<=100):dK (.lst [[fN a],[fN b]])=some [fN (a++b)]:=by
 have o:(IV.lst [[fN a],[fN b]])= .lst ([a,b].map λl=>[fN l]):=rfl
 have d: ∀(i:Nat) (l:List Ck),[a,b][i]? =some l->aK (.lst ([a,b].map λl=>[fN l])) (.int .i64 (i:Int)) 1=some i/\dU (.lst ([a,b].map λl=>[fN l])) i 0=some (fN l):= λi l h=>
  ⟨ea (enc:= λl=>[fN l]) h rfl Nat.one_pos,by rw [b8 (enc:= λl=>[fN l]) h];rfl⟩
 rw [o]
 generalize q:(IV.lst ([a,b].map λl=>[fN l]))=X at d
 have hlen:aC X=some (.int .i64 2):=by rw [<-q];rfl
 unfold dK
 simp only [hlen,ab]
 rw [ba (λi=>[.int .i64 ((([a,b].take i).map cb).sum:Nat),.int .i64 (i:Int)]) 2 0 [.int .i64 ((a.length+b.length:Nat):Int)] (by simp) (by decide) (λi hi=> ?_) (by
  unfold jB
  simp)]
 ·have r:UK 2 24 (.int .i64 ((a.length+b.length:Nat):Int))=some []:=by
   simp only [UK]
   rw [if_pos ⟨by omega,by simp only [Int.toNat_natCast];omega,by decide⟩]
  simp only [ab,aJ,af,r]
  rw [ba (λi=>[fN ([a,b].take i).flatten,.int .i64 (i:Int)]) 2 0 [fN (a++b)] (by simp) (by decide) (λi hi=> ?_) (by
   unfold jd
   simp)]
  ·rfl
  ·have c:=ad (show i < [a,b].length from hi)
   generalize [a,b][i]'(show i < [a,b].length from hi)=l at c
   obtain ⟨j,k⟩:=d i l c
   have e:((i:Int) < 2):=by omega
   have hl:l.length<=100:=by
    rcases bd.1 (a1 c) with rfl | h
    ·exact p
    ·simp at h;subst h;exact hb
   have hf:([a,b].take i).flatten.length<=200:=by
    rcases i with _ | _ | i
    ·simp
    ·simp;omega
    ·omega
   have m:bU 2 24 (fN ([a,b].take i).flatten) (fN l)=some (fN (([a,b].take (i+1)).flatten)):=by
    rw [bt c]
    simp only [bU]
    rw [if_pos ⟨by simp only [ao];omega,by simp [eCk]⟩]
    simp
   unfold jd
   simp only [af,ai,al,e,decide_true,ah,ab,j,k,m,au (show i < 2 ^ 62 by omega)]
 ·have c:=ad (show i < [a,b].length from hi)
  generalize [a,b][i]'(show i < [a,b].length from hi)=l at c
  obtain ⟨j,k⟩:=d i l c
  have e:((i:Int) < 2):=by omega
  have hl:l.length<=100:=by
   rcases bd.1 (a1 c) with rfl | h
   ·exact p
   ·simp at h;subst h;exact hb
  have g:(([a,b].take (i+1)).map cb).sum=(([a,b].take i).map cb).sum+l.length:=by rw [bt c];simp
  have hle:(([a,b].take i).map cb).sum<=200:=by
   rcases i with _ | _ | i
   ·simp
   ·simp;omega
   ·omega
  generalize (([a,b].take i).map cb).sum=s at*
  have f:aa .add (.int .i64 (s:Int)) (.int .i64 (l.length:Int))=some (.int .i64 ((s+l.length:Nat):Int)):=xl (by omega)
  have n: ¬(((s+l.length:Nat):Int) < 0):=by omega
  rw [g]
  unfold jB
  simp only [af,ai,al,e,decide_true,ah,ab,j,k,aw,ao,f,n,decide_false,ag,au (show i < 2 ^ 62 by omega)]
def TW (r:Rep):List Ck:=tY r++yw r.log
 noncomputable def fileR (r:Rep):Byt:=fileL (TW r)
theorem OkRep.chunks {r:Rep} (h:OkRep r):OkC (TW r):=by
 obtain ⟨f1,f2,f3,f4⟩:=h.floor
 have a:=bI (n:=r.fc.toNat) (by omega)
 have b:=bI (n:=r.fr.toNat) (by omega)
 obtain ⟨_,_,_,_,_,_,_,z4,k,m,o,q⟩:=LS h.base
 have hm:=XR h.may.marks
 have hl:=h.log.len
 obtain ⟨d1,d2,d3,d4⟩:=XP h.log
 have d:=bI (n:=r.log.length) (by omega)
 have e:=Hq (l:=ns r.log) (by simp [ns];omega) h.log.short
 have f:=NA (l:=ks r.log) (by simp [ks];omega)
 have g:=dz (s:=deltaL (cs r.log)) (by omega)
 have j:=dz (s:=deltaL (ps r.log)) (by omega)
 have hr:(rowsL r.base).length<=900000:=by simp only [rowsL,a5];omega
 refine ⟨Nat.le_refl 8,λi c hc=> ?_,λc hc=> ?_⟩
 ·match i,hc with
  | 0,hc=>cases hc;rfl
  | 1,hc=>cases hc;rfl
  | 2,hc=>cases hc;rfl
  | 3,hc=>cases hc;rfl
  | 4,hc=>cases hc;rfl
  | 5,hc=>cases hc;rfl
  | 6,hc=>cases hc;rfl
  | 7,hc=>cases hc;rfl
  | i+8,hc=>rw [List.getElem?_eq_none (show (TW r).length<=i+8 by show 8<=i+8;omega)] at hc;cases hc
 ·simp only [TW,tY,yw,List.mem_append,bd,bm,or_false] at hc
  rcases hc with (rfl | rfl | rfl) | (rfl | rfl | rfl | rfl | rfl)
  all_goals simp only [a5]
  all_goals omega
theorem vX {r:Rep} (h:OkRep r):dV (cr r.base) (.int .i64 r.fc) (.int .i64 r.fr) (bg r.log) (aA r.mks)=some [B (fileR r),.int .i64 0]:=by
 have d:=sM h.sm h.ok
 rw [BB.2 h.may] at d
 have c:=aac (a:=tY r) (b:=yw r.log) (show 3<=100 by decide) (show 5<=100 by decide)
 have e:=Ol h.chunks
 unfold dV pg
 simp only [d,ab,af,ai,aX,a8,ag,KT h,yI,Jv h.log,c]
 rw [show tY r++yw r.log=TW r from rfl,e]
 rfl
theorem LG {r:Rep} (h:OkRep r):nu (fN (tY r))=some [cr r.base,.int .i64 r.fc,.int .i64 r.fr,.lst [],aA r.mks,.int .i64 0]:=by
 obtain ⟨f1,f2,f3,f4⟩:=h.floor
 obtain ⟨p,_,b0,o⟩:=Fa (l:=tY r) (i:=0) rfl
 obtain ⟨q,_,m,c1⟩:=Fa (l:=tY r) (i:=1) rfl
 obtain ⟨s,_,b2,c2⟩:=Fa (l:=tY r) (i:=2) rfl
 have b:aK (fN (tY r)) (.int .i64 0) 2=some 0:=p
 have c:aK (fN (tY r)) (.int .i64 1) 2=some 1:=q
 have d:aK (fN (tY r)) (.int .i64 2) 2=some 2:=s
 have hlen:aa .neq (.int .i64 ((tY r).length:Int)) (.int .i64 3)=some (.bool false):=rfl
 have t1:aa .neq (.int .i64 ((1:Nat):Int)) (.int .i64 1)=some (.bool false):=rfl
 have t2:aa .neq (.int .i64 ((2:Nat):Int)) (.int .i64 2)=some (.bool false):=rfl
 have t3:aa .neq (.int .i64 ((3:Nat):Int)) (.int .i64 3)=some (.bool false):=rfl
 have g:=yA (n:=r.fc.toNat) (by omega) (bw r.fr.toNat)
 have j:=Nd (n:=r.fr.toNat) (by omega) (bw r.fr.toNat) [] (by simp)
 have e: ¬((9223372036854775807:Int) < (r.fc.toNat:Int)):=by omega
 have f: ¬((9223372036854775807:Int) < (r.fr.toNat:Int)):=by omega
 have i1:=kQ (a:=r.fc.toNat) (k:= .u64) (by omega)
 have i2:=kQ (a:=r.fr.toNat) (k:= .u64) (by omega)
 rw [bf f1] at e i1
 rw [bf f3] at f i2
 unfold nu
 simp only [aw,ao,hlen,ab,ag,b,c,d,b0,m,b2,o,c1,c2,t1,t2,t3,af,ai,lJ,g,j,KD,drop2,yI,aW,e,f,decide_false,GQ h.base,FM h.may.marks,i1,i2,bf f1,bf f3]
theorem acz (a b:List Ck):kN 2 (fN (a++b)) none (some (.int .i64 (a.length:Int)))=some (fN a)/\kN 2 (fN (a++b)) (some (.int .i64 (a.length:Int))) none=some (fN b):=by
 have h1:((a++b).map eCk).all (λe=>e.length==2)=true:=by simp [eCk]
 have h2:((a++b).map eCk).length=a.length+b.length:=by simp
 constructor
 ·simp only [kN]
  rw [if_pos h1,h2,M8 (by omega)]
  simp [<-ca]
 ·simp only [kN]
  rw [if_pos h1,h2,Bn (by omega)]
  simp [ck]
theorem Dn {r:Rep} (h:OkRep r):jI (B (fileR r))=some (Ya r [.int .i64 0]):=by
 have j:=sM h.sm h.ok
 rw [BB.2 h.may] at j
 have p:=wF ((TW r).flatMap oneL)
 have o:=Mm h.chunks
 obtain ⟨s1,s2⟩:=acz (tY r) (yw r.log)
 have g:kN 2 (fN (TW r)) none (some (.int .i64 3))=some (fN (tY r)):=s1
 have i:kN 2 (fN (TW r)) (some (.int .i64 3)) none=some (fN (yw r.log)):=s2
 have k:aa .eql (.int .i64 0) (.int .i64 0)=some (.bool true):=rfl
 have l:aa .neq (.int .i64 2) (.int .i64 2)=some (.bool false):=rfl
 have m:aC (fN (TW r))=some (.int .i64 8):=rfl
 have n:aa .neq (.int .i64 8) (.int .i64 8)=some (.bool false):=rfl
 have q: ∀a b c d e f:IV,nth [a,b,c,d,e,f] 5=f:= λ_ _ _ _ _ _=>rfl
 unfold jI
 rw [show dA (B (fileR r))=_ from p,show kz (B (fileR r))=_ from o]
 simp only [ab,af,ai,ay,az,bH,bL,k,l,m,n,yI,ah,ag,g,i,LG h,Kf h.log,j,aX,a8]
 rfl
end Go.AM
