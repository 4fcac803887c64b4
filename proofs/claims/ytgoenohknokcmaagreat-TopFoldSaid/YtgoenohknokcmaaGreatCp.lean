/- Files, plainly: parts behind their lengths; ranks. -/
import Derived.Test.YtgoenohknokcmaaGreatCo
import Derived.Test.YtgoenohknokcmaaGreatCk
open Option renaming bind_some->ab,map_some->bB
open List renaming getElem?_eq_getElem->ad,length_map->ao,mem_of_getElem?->a1,replicate->a2,length_append->a5,append_assoc->a7,mem_map->bb,mem_cons->bd,not_mem_nil->bm,getElem?_eq_some_iff->br,length_take->bs,length_filter_le->bx,getElem?_map->bC,take_append_drop->bM,mem_of_mem_take->bO,map_cons->bR,idxOf_lt_length_of_mem->b1,map_nil->b3,drop_eq_getElem_cons->b4,nodup_append->b5,flatMap_cons->b7,map_take->ca,length->cb,flatMap_nil->cd,take_of_length_le->ck,append_nil->cl,length_replicate->cv,mem_cons_of_mem->cO,pairwise_cons->c0,foldl_append->c5,idxOf_append->c6,filter_cons->c7,mem_filter->c8,foldl_cons->c9,nil_append->dd,map_append->dq,take_left->eg,map_drop->ek
open Go.IntKind renaming u32->aB
open BitVec renaming ofInt->a6
open Bool renaming not_true->a8,and_eq_true->cc,not_false->ds
open Int renaming toNat_of_nonneg->bf
open Go.ByteArray renaming toList_eq->bA
set_option linter.unusedVariables false
set_option linter.unusedSimpArgs false
namespace Go.AM
def partL (s:Byt):Byt:=bu s.length++s
theorem dw {s:Byt} (h:s.length < 2 ^ 60):(partL s).length<=s.length+10:=by
 have:=bK (n:=s.length) (by omega)
 simp [partL];omega
theorem mY {s:Byt} (h:s.length < 2 ^ 40):bH (B s)=some [B (partL s)]:=by
 have hl:=bK (n:=s.length) (by omega)
 unfold bH
 simp only [jx,ab,fk (show s.length < 2 ^ 64 by omega),fB (show s.length < 2 ^ 64 by omega),af,KB (a:=bu s.length) (b:=s) (by omega)]
 rfl
theorem TC {s:Byt} (h:s.length < 2 ^ 40):xf (B s)=some [B (partL s)]:=mY h
theorem LR {n:Nat} (h:n < 2 ^ 64) (s t:Byt) (e:s=bu n++t):aC (B s) (.int .i64 0)=some [B t,.int .i64 0,.int .u64 (n:Int)]:=by subst e;exact xi h t
theorem drop2 (a b c:IV):([a,b,c]:List IV).drop 2=[c]:=rfl
theorem ur:aa .neq (.int .i64 0) (.int .i64 0)=some (.bool false):=rfl
theorem lU (s:Byt):cq (B s)=some [B s,.int .i64 0]:=rfl
theorem wV {s t:Byt} {k:IntKind} (n:Nat) (h:n=s.length):fy (B (s++t)) (some (.int k (n:Int))) none=some (B t):=by
 subst h
 rw [zm (by simp),List.drop_left]
theorem pD {a b:Byt} (h:a.length+b.length < 2 ^ 40):bI (B (partL a++b))=some [B a,B b,.int .i64 0]:=by
 have c:=LR (n:=a.length) (by omega) (partL a++b) (a++b) (by simp [partL])
 have hl:=bK (n:=a.length) (by omega)
 have h1: ¬(((a++b).length:Int) < (a.length:Int)):=by simp;omega
 have d:=FC a b (a.length:Int) rfl
 have hs:aa .sub (.int .i64 ((partL a++b).length:Int)) (.int .i64 (b.length:Int))=some (.int .i64 ((partL a).length:Int)):=by
  rw [qD (by simp) (by simp [partL];omega)];congr 2;simp
 unfold bI
 simp only [lU,c,ab,af,ai,yn,ur,ag,qv,drop2,fk (show (a++b).length < 2 ^ 64 by simp;omega),aQ,h1,decide_false,kI (show a.length < 2 ^ 63 by omega),d,jx,hs,wV (partL a).length rfl]
 rfl
theorem adn:cu (.int .i64 0)=some []:=rfl
theorem xV {a b:Byt} (h:a.length+b.length < 2 ^ 40):lq (B (partL a++b))=some [B a,B b]:=by
 unfold lq
 rw [pD h];rfl
def oD (w:Nat):Bool:=decide (w≠0)
def ranksL (l:List Nat):Byt:=partL (rM (l.map oD))++rh (l.filter oD)
theorem X1 {α:Type} (a:List α) (k:Nat) (z x:α):(a++a2 (k+1) z).set a.length x=a++[x]++a2 k z:=by
 rw [List.set_append_right _ _ (Nat.le_refl _)]
 simp [List.replicate_succ]
theorem EJ {α:Type} {enc:α->List IV} {l:List α} {i:Nat} {x:α} {v:IV} (hi:i < l.length) (he: ∀y,(enc y).length=1) (hv:enc x=[v]):pK (.lst (l.map enc)) i 0 [v]=some (.lst ((l.set i x).map enc)):=by
 have a:=ad hi
 generalize l[i]=y at a
 simp only [pK,bC,a,bB,ab]
 rw [if_pos (by rw [he];simp)]
 have:setCells (enc y) 0 [v]=enc x:=by
  have:=he y
  cases b:enc y with
  | nil=>rw [b] at this;simp at this
  | cons c cs=>rw [b] at this;simp at this;subst this;rw [hv];rfl
 rw [this,List.map_set]
theorem M0 {l:List Nat} (hl:l.length<=4096):(ranksL l).length<=2 ^ 17:=by
 have h1:=D5 (l:=l.map oD) (by simp;omega)
 have h2:=Dm (ns:=l.filter oD)
 have a:=bx oD l
 have b:=dw (s:=rM (l.map oD)) (by simp at h1;omega)
 simp at h1
 simp only [ranksL,a5]
 omega
theorem vf {l:List Nat} (hl:l.length<=4096) (h: ∀w∈l,CanW w):fE (qg l)=some [B (ranksL l)]:=by
 have j:jd 1 [.bool false] (.int .i64 (l.length:Int)) (.int .i64 (l.length:Int))=some (tF (a2 l.length false)):=by
  simp only [jd]
  rw [if_pos ⟨trivial,by omega,by simp;omega⟩]
  simp [eBl]
 unfold fE
 simp only [aw,ab,ao,j]
 rw [bc (λi=>[tF ((l.take i).map oD++a2 (l.length - i) false),qg ((l.take i).filter oD),.int .i64 (i:Int)]) l.length 0 [tF (l.map oD),qg (l.filter oD)] (by simp) (by omega) (λi hi=> ?_) (by
  unfold pb
  simp)]
 ·have h1:=D5 (l:=l.map oD) (by simp;omega)
  have h2:=Dm (ns:=l.filter oD)
  have t:=bx oD l
  have u:=dw (s:=rM (l.map oD)) (by simp at h1;omega)
  simp only [ao] at h1
  have q:=JP (l:=l.map oD) (by simp;omega)
  have r:=JB (ns:=l.filter oD) (by omega) λn hn=>h n (c8.1 hn).1
  simp only [ab,aN,af,ai,q,mY (s:=rM (l.map oD)) (by omega),r,KB (a:=partL (rM (l.map oD))) (b:=rh (l.filter oD)) (by omega)]
  rfl
 ·have f:=ad hi
  generalize l[i]=w at f
  obtain ⟨o,p⟩:=VH f
  have hc:=h w (a1 f)
  have g:((i:Int) < (l.length:Int)):=by omega
  have m:=sF hc.lt
  rw [hc.can] at m
  have hlen:((l.take i).map oD++a2 (l.length - i) false).length=l.length:=by simp;omega
  have d:=EJ (enc:=eBl) (l:=(l.take i).map oD++a2 (l.length - i) false) (i:=i) (x:=oD w) (v:= .bool (oD w)) (by omega) (λ_=>rfl) rfl
  have c:=X1 ((l.take i).map oD) (l.length - (i+1)) false (oD w)
  rw [show ((l.take i).map oD).length=i by simp;omega,show l.length - (i+1)+1=l.length - i by omega] at c
  rw [c] at d
  have e:cV (tF ((l.take i).map oD++[oD w]++a2 (l.length - (i+1)) false)) i 0=some (.bool (oD w)):=by
   refine (X7 ?_).2
   rw [a7,List.getElem?_append_right (by simp;omega)]
   simp [show i - min i l.length=0 by omega]
  have k:aa .neq (.int .u64 (w:Int)) (.int .u64 0)=some (.bool (oD w)):=by
   rw [dm];congr 2;unfold oD;simp
  unfold pb
  simp only [af,ai,ay,al,g,decide_true,ah,ab,o,p,m,k,cr,ao,hlen,eb hi,d,e,au (show i < 2 ^ 62 by omega),Fu (l:=(l.take i).filter oD) (show ((l.take i).filter oD).length < 2 ^ 20 by have:=bx oD (l.take i);simp at this;omega),bt f]
  cases hw:oD w<;>simp [hw]
theorem Ze {l:List Nat} {i w:Nat} (a:l[i]? =some w):(l.drop i).filter oD=if oD w=true then w::(l.drop (i+1)).filter oD else (l.drop (i+1)).filter oD:=by
 have hi:=(br.1 a).1
 rw [b4 hi,(br.1 a).2,c7]
theorem adw (l:List Nat):OM (l.map oD)=(l.filter oD).length:=by
 unfold OM
 induction l with
 | nil=>rfl
 | cons x l ih=>simp only [bR,c7];cases oD x<;>simp_all
theorem abD {x:Nat} {l:List Nat}:fQ 1 (qg (x::l)) (some (.int .i64 1)) none=some (qg l):=by
 simp only [fQ]
 rw [if_pos (by simp [eFl])]
 have:=wD (n:=((x::l).map eFl).length) (i:=1) (k:= .i64) (by simp)
 rw [show ((1:Nat):Int)=1 from rfl] at this
 rw [this,ab]
 simp [ck]
theorem tj {l:List Nat} (hl:l.length<=4096) (h: ∀w∈l,CanW w):ar (B (ranksL l)) (.int .i64 (l.length:Int))=some [qg l,.int .i64 0]:=by
 have h1:=D5 (l:=l.map oD) (by simp;omega)
 have h2:=Dm (ns:=l.filter oD)
 have y:=bx oD l
 simp only [ao] at h1
 have d:=xV (a:=rM (l.map oD)) (b:=rh (l.filter oD)) (by omega)
 have q:=I1 (l:=l.map oD) (by simp;omega)
 have p:=KN (l:=l.map oD) (by simp;omega)
 rw [adw] at p
 have v:=ID (ns:=l.filter oD) (by omega) λn hn=>h n (c8.1 hn).1
 simp only [ao] at q
 have j:qq (tF (l.map oD)) (.int .i64 0)=some [tF (l.map oD)]:=rfl
 have g:kg (qg (l.filter oD)) (.int .i64 0)=some [qg (l.filter oD)]:=rfl
 unfold ar ranksL
 simp only [d,ab,af,ai,q,j,p,v,g,aw,ao]
 rw [bc (λi=>[qg (l.take i),qg ((l.drop i).filter oD),.int .i64 (i:Int)]) l.length 0 [qg l] (by simp) (by omega) (λi hi=> ?_) (by
  unfold cB
  simp)]
 ·simp only [ab,aN,af,ur,ag]
 ·have e:=ad hi
  generalize l[i]=w at e
  have hc:=h w (a1 e)
  have k:((i:Int) < (l.length:Int)):=by omega
  have o:(l.map oD)[i]? =some (oD w):=by rw [bC,e];rfl
  obtain ⟨s,t⟩:=X7 o
  have c:= λx=>Fu (l:=l.take i) (x:=x) (show (l.take i).length < 2 ^ 20 by simp;omega)
  rw [Ze e]
  unfold cB
  simp only [af,ai,ay,al,k,decide_true,ah,ab,s,t,au (show i < 2 ^ 62 by omega),bt e,c]
  cases hw:oD w with
  | true=>
    have m:w≠0:=of_decide_eq_true hw
    obtain ⟨u,b2⟩:=VH (l:=w::(l.drop (i+1)).filter oD) (i:=0) rfl
    have f:aE (qg (w::(l.drop (i+1)).filter oD)) (.int .i64 0) 1=some 0:=u
    have r:=QQ hc.lt (show (0:Nat) < 2 ^ 64 by decide)
    rw [hc.can,show bitsN 0=0 from rfl,decide_eq_false m] at r
    simp only [if_true,ah,f,b2,abD,ab,r,af,ag,c]
  | false=>
    have hz:w=0:=by
     have:=of_decide_eq_false hw
     simpa using this
    subst hz
    simp only [Bool.false_eq_true,if_false,ag]
end Go.AM
namespace Go.AM
def eS (s:Byt):List IV:=[B s]
abbrev DX (l:List Byt):IV:= .lst (l.map eS)
theorem abQ {l:List Byt} {i:Nat} {x:Byt} (h:l[i]? =some x):aE (DX l) (.int .i64 (i:Int)) 1=some i/\cV (DX l) i 0=some (B x):=
 ⟨ea h rfl (by decide),by rw [bX h];rfl⟩
theorem SW {l:List Byt} {x:Byt} (hl:l.length < 2 ^ 20):b8 1 16 (DX l) (.lst [[B x]])=some (DX (l++[x])):=by
 simp only [b8]
 rw [if_pos ⟨by simp;omega,by simp⟩]
 simp [eS]
theorem adf (a b:Byt):HT (B a) (B b)=some (decide (a=b)):=by
 have:((⟨a.toArray⟩:ByteArray)==⟨b.toArray⟩)=decide (a=b):=by
  rw [Bool.eq_iff_iff,MapKept.bytes_beq,decide_eq_true_iff]
  constructor
  ·intro e;injection e with e;simpa using e
  ·rintro rfl;rfl
 simp only [HT,B,this]
def nZ (v:Nat->IV):Nat->List Byt->List (List IV)
 | _,[]=>[]
 | k,s::W=>[B s,v k]::nZ v (k+1) W
theorem Vs (v:Nat->IV): ∀(W:List Byt) (k:Nat),(nZ v k W).length=W.length
 | [],_=>rfl
 | s::W,k=>by simp [nZ,Vs v W]
theorem xQ (v:Nat->IV) (s:Byt): ∀(W:List Byt) (k i:Nat),vk (B s) (nZ v k W) i=some (if s∈W then some (i+W.idxOf s,v (k+W.idxOf s)) else none)
 | [],k,i=>by simp [nZ,vk]
 | t::W,k,i=>by
   simp only [nZ,vk,adf]
   by_cases h:s=t
   ·subst h;simp
   ·simp only [decide_eq_false h]
    rw [xQ v s W (k+1) (i+1)]
    have h2:(t==s)=false:=beq_false_of_ne λe=>h e.symm
    by_cases hm:s∈W
    ·simp [h,hm,List.idxOf_cons,h2]
     constructor
     ·omega
     ·congr 1;omega
    ·simp [h,hm]
theorem GN (v:Nat->IV) (s:Byt): ∀(W:List Byt) (k:Nat),nZ v k (W++[s])=nZ v k W++[[B s,v (k+W.length)]]
 | [],k=>by simp [nZ]
 | t::W,k=>by
   simp only [List.cons_append,nZ]
   rw [GN v s W (k+1)]
   simp;congr 1;omega
def ya (W:List Byt) (s:Byt):List Byt:=if s∈W then W else W++[s]
def aq (l:List Byt):List Byt:=l.foldl ya []
theorem abd (W:List Byt) (s:Byt): ∃R,ya W s=W++R:=by
 unfold ya;split
 ·exact ⟨[],by simp⟩
 ·exact ⟨_,rfl⟩
theorem P0: ∀(l W:List Byt),∃R,l.foldl ya W=W++R
 | [],W=>⟨[],by simp⟩
 | s::l,W=>by
   obtain ⟨R,h⟩:=P0 l (ya W s)
   obtain ⟨Q,h2⟩:=abd W s
   exact ⟨Q++R,by rw [c9,h,h2,a7]⟩
theorem Xk (l:List Byt) (i:Nat): ∃R,aq l=aq (l.take i)++R:=by
 unfold aq
 conv=>enter [1,R];lhs;rw [<-bM i l,c5]
 exact P0 _ _
theorem xl {l:List Byt} {i:Nat} {s:Byt} (h:l[i]? =some s):aq (l.take (i+1))=ya (aq (l.take i)) s:=by
 unfold aq;rw [bt h,c5];rfl
theorem Up (l:List Byt):(aq l).Nodup:=by
 have: ∀(l W:List Byt),W.Nodup->(l.foldl ya W).Nodup:=by
  intro l
  induction l with
  | nil=>intro W h;exact h
  | cons s l ih=>
    intro W h
    refine ih _ ?_
    unfold ya;split
    ·exact h
    ·rename_i hs
     rw [b5]
     refine ⟨h,by simp,?_⟩
     intro a c b hb
     simp at hb;subst hb
     exact λe=>hs (e▸c)
 exact this l [] (by simp)
theorem qm (l:List Byt): ∀s,s∈aq l↔s∈l:=by
 have: ∀(l W:List Byt) (s:Byt),s∈l.foldl ya W↔s∈W\/s∈l:=by
  intro l
  induction l with
  | nil=>intro W s;simp
  | cons t l ih=>
    intro W s
    rw [c9,ih]
    unfold ya;split
    ·rename_i h
     constructor
     ·rintro (h1 | h1)
      ·exact .inl h1
      ·exact .inr (cO _ h1)
     ·rintro (h1 | h1)
      ·exact .inl h1
      ·rcases bd.1 h1 with rfl | h1
       ·exact .inl h
       ·exact .inr h1
    ·simp [or_assoc]
 intro s
 have:=this l [] s
 simpa [aq] using this
theorem n9 (l:List Byt):(aq l).length<=l.length:=by
 have: ∀(l W:List Byt),(l.foldl ya W).length<=W.length+l.length:=by
  intro l
  induction l with
  | nil=>intro W;simp
  | cons s l ih=>
    intro W
    have:=ih (ya W s)
    have h2:(ya W s).length<=W.length+1:=by unfold ya;split<;>simp
    simp;omega
 simpa [aq] using this l []
def nT (l:List Byt) (s:Byt):Nat:=(aq l).idxOf s
theorem XU {l:List Byt} {s:Byt} (h:s∈l):nT l s < (aq l).length:=b1 ((qm l s).2 h)
theorem Nl {l:List Byt} {i:Nat} {s:Byt} (h:s∈aq (l.take i)):(aq (l.take i)).idxOf s=nT l s:=by
 obtain ⟨R,a⟩:=Xk l i
 unfold nT
 rw [a,c6,if_pos h]
theorem X8 {l:List Byt} {i:Nat} {s:Byt} (a:l[i]? =some s) (h:s∉aq (l.take i)):nT l s=(aq (l.take i)).length:=by
 have hm:s∈aq (l.take (i+1)):=by rw [xl a];unfold ya;rw [if_neg h];simp
 rw [<-Nl hm,xl a]
 unfold ya
 rw [if_neg h,c6,if_neg h];simp
theorem Po {l:List Byt} (hl:l.length<=4096):oI (DX l)=some [DX (aq l),Ns (l.map (nT l))]:=by
 have m:jd 8 [.int .u64 0] (.int .i64 (l.length:Int)) (.int .i64 (l.length:Int))=some (Ns (a2 l.length 0)):=by
  simp only [jd]
  rw [if_pos ⟨trivial,by omega,by simp;omega⟩]
  simp [eU]
 unfold oI
 simp only [aw,ab,ao,m]
 rw [bc (λi=>[.map (nZ (λk=> .int .u64 (k:Int)) 0 (aq (l.take i))),DX (aq (l.take i)),Ns ((l.take i).map (nT l)++a2 (l.length - i) 0),.int .i64 (i:Int)]) l.length 0 [DX (aq l),Ns (l.map (nT l))] (by simp [aq,nZ]) (by omega) (λi hi=> ?_) (by
  unfold vS
  simp)]
 ·rfl
 ·have g:=ad hi
  generalize l[i]=s at g
  obtain ⟨o,p⟩:=abQ g
  have j:((i:Int) < (l.length:Int)):=by omega
  have hlen:((l.take i).map (nT l)++a2 (l.length - i) 0).length=l.length:=by simp;omega
  have a:=EJ (enc:=eU) (l:=(l.take i).map (nT l)++a2 (l.length - i) 0) (i:=i) (x:=nT l s) (v:= .int .u64 (nT l s:Int)) (by omega) (λ_=>rfl) rfl
  have c:=X1 ((l.take i).map (nT l)) (l.length - (i+1)) 0 (nT l s)
  rw [show ((l.take i).map (nT l)).length=i by simp;omega,show l.length - (i+1)+1=l.length - i by omega] at c
  rw [c] at a
  have f:(l.take (i+1)).map (nT l)=(l.take i).map (nT l)++[nT l s]:=by rw [bt g];simp
  have n:=n9 (l.take i)
  simp only [bs] at n
  have e:xJ .str (.map (nZ (λk=> .int .u64 (k:Int)) 0 (aq (l.take i)))) (B s) (.int .u64 0)=some (if s∈aq (l.take i) then [.int .u64 (nT l s:Int),.bool true] else [.int .u64 0,.bool false]):=by
   unfold xJ
   rw [if_pos (show LD .str (B s)=true from rfl)]
   simp only [M4,xQ,bB]
   by_cases h:s∈aq (l.take i)
   ·simp [h,Nl h]
   ·simp [h]
  rw [f,xl g]
  unfold vS
  simp only [af,ai,ay,az,al,j,decide_true,ah,ab,o,p,e]
  by_cases h:s∈aq (l.take i)
  ·simp only [h,if_true,ai,af,aW,a8,ag,ab,cr,ao,hlen,eb hi,a,au (show i < 2 ^ 62 by omega),ya]
  ·have b:=X8 g h
   have d:ql .str (.map (nZ (λk=> .int .u64 (k:Int)) 0 (aq (l.take i)))) (B s) (.int .u64 (nT l s:Int))=some (.map (nZ (λk=> .int .u64 (k:Int)) 0 (aq (l.take i)++[s]))):=by
    unfold ql
    rw [if_pos (show LD .str (B s)=true from rfl)]
    simp only [Iv,xQ,h,if_false,ab]
    rw [GN,b];simp
   rw [b] at d a
   simp only [h,if_false,ai,af,aW,ds,ah,ab,cr,ao,fk (show (aq (l.take i)).length < 2 ^ 64 by omega),d,SW (show (aq (l.take i)).length < 2 ^ 20 by omega),hlen,eb hi,a,au (show i < 2 ^ 62 by omega),ya,b]
def D2 (l:List Byt):Prop:= ∀s∈l,s.length<=64/\Gc ⟨s.toArray⟩=true
def dictL (l:List Byt):Byt:=bu (aq l).length++((aq l).flatMap partL++po (l.map (nT l)))
theorem K5 {l:List Byt} (hl:l.length<=4096): ∀x∈l.map (nT l),x < 2 ^ 64:= λx a=>by
 obtain ⟨s,hs,rfl⟩:=bb.1 a
 have:=XU hs;have:=n9 l;omega
theorem xO {l:List Byt} (h:D2 l) (W:List Byt) (a: ∀s∈W,s∈l):(W.flatMap partL).length<=74*W.length:=
 kY (k:=74) λs hs=>by
  have h1:=(h s (a s hs)).1
  have:=dw (s:=s) (by omega)
  omega
theorem Hd {l:List Byt} (hl:l.length<=4096) (h:D2 l):(dictL l).length<=2 ^ 19:=by
 have h1:=xO h (aq l) λs hs=>(qm l s).1 hs
 have h2:=n9 l
 have b:=bK (n:=(aq l).length) (by omega)
 have a:=BD (l:=l.map (nT l)) (by simp;omega) (K5 hl)
 simp only [ao] at a
 simp only [dictL,a5]
 omega
theorem zF {l:List Byt} (hl:l.length<=4096) (h:D2 l):kB (DX l)=some [B (dictL l)]:=by
 have h2:=n9 l
 have p:=bK (n:=(aq l).length) (by omega)
 have k:=BD (l:=l.map (nT l)) (by simp;omega) (K5 hl)
 simp only [ao] at k
 have d:=xZ (x:= .nilp) (a:=[]) (b:=bu (aq l).length) (by simp;omega)
 simp only [b3,dd] at d
 unfold kB
 simp only [Po hl,ab,af,ai,aw,ao,fk (show (aq l).length < 2 ^ 64 by omega),fB (show (aq l).length < 2 ^ 64 by omega),d]
 rw [bc (λi=>[.nilp,.lst ((bu (aq l).length++((aq l).take i).flatMap partL).map eB),.int .i64 (i:Int)]) (aq l).length 0 [.nilp,.lst ((bu (aq l).length++(aq l).flatMap partL).map eB)] (by simp) (by omega) (λi hi=> ?_) (by
  unfold ue
  simp)]
 ·have m:=zJ (l:=l.map (nT l)) (by simp;omega) (K5 hl)
  have c:=xO h (aq l) λs hs=>(qm l s).1 hs
  have hw:=xZ (x:= .nilp) (a:=bu (aq l).length++(aq l).flatMap partL) (b:=po (l.map (nT l))) (by rw [a5];omega)
  simp only [ab,aN,ai,af,m,hw,oN]
  unfold dictL
  rw [a7];rfl
 ·have e:=ad hi
  generalize (aq l)[i]=s at e
  obtain ⟨g,j⟩:=abQ e
  have f:((i:Int) < ((aq l).length:Int)):=by omega
  have hs:=(h s ((qm l s).1 (a1 e))).1
  have c:=xO h ((aq l).take i) λs hs=>(qm l s).1 (bO hs)
  simp only [bs] at c
  have o:=dw (s:=s) (by omega)
  have hw:=xZ (x:= .nilp) (a:=bu (aq l).length++((aq l).take i).flatMap partL) (b:=partL s) (by rw [a5];omega)
  unfold ue
  simp only [af,ai,ay,al,f,decide_true,ah,ab,g,j,TC (s:=s) (by omega),hw,au (show i < 2 ^ 62 by omega),qk e,a7]
theorem RM {p s t:Byt} (hs:s.length<=64) (hv:Gc ⟨s.toArray⟩=true) (h:p.length+t.length < 2 ^ 40):qP (B (p++(partL s++t))) (.int .i64 (p.length:Int)) (.int .i64 64)=some [B s,.int .i64 ((p++partL s).length:Int),.int .i64 0]:=by
 have l:=dw (s:=s) (by omega)
 have e0: ¬((p.length:Int) < 0):=by omega
 have d: ¬(((p++(partL s++t)).length:Int) < (p.length:Int)):=by simp;omega
 have j:=LR (n:=s.length) (by omega) (partL s++t) (s++t) (by simp [partL])
 have e: ¬((64:Int) < 0):=by decide
 have f:bN .u64 (.int .i64 64)=some (.int .u64 64):=rfl
 have g: ¬((64:Int) < (s.length:Int)):=by omega
 have i: ¬(((s++t).length:Int) < (s.length:Int)):=by simp;omega
 have k:=FC s t (s.length:Int) rfl
 have c:=CZ (s:=⟨s.toArray⟩) (by rw [xt];omega)
 rw [hv] at c
 have b:jJ (B s)=some [.bool true]:=c
 have a:aa .sub (.int .i64 ((p++(partL s++t)).length:Int)) (.int .i64 (t.length:Int))=some (.int .i64 ((p++partL s).length:Int)):=by
  rw [qD (by simp;omega) (by simp;omega)];congr 2;simp only [a5];omega
 unfold qP
 simp only [al,e0,decide_false,ab,ag,jx,aQ,d,af,wV p.length rfl,lU,ai,j,yn,ur,e,f,drop2,g,qv,fk (show (s++t).length < 2 ^ 64 by simp;omega),i,kI (show s.length < 2 ^ 63 by omega),k,b,aW,a8,a]
 rfl
theorem Wj {l:List Byt} (hl:l.length<=4096):tp (DX (aq l)) (Ns (l.map (nT l)))=some [.bool true]:=by
 have h2:=n9 l
 unfold tp
 simp only [aw,ab,ao]
 rw [bc (λi=>[.int .u64 ((aq (l.take i)).length:Int),.int .i64 (i:Int)]) l.length 0 [.int .u64 ((aq l).length:Int)] (by simp [aq]) (by omega) (λi hi=> ?_) (by
  unfold Ab
  simp)]
 ·simp only [ab,aN]
  rw [bc (λi=>[.map (nZ (λ_=> .bool true) 0 ((aq l).take i)),.int .i64 (i:Int)]) (aq l).length 0 [.map (nZ (λ_=> .bool true) 0 (aq l))] (by simp [nZ]) (by omega) (λi hi=> ?_) (by
   unfold ym
   simp)]
  ·simp only [ab,aN,af,fk (show (aq l).length < 2 ^ 64 by omega),dI,decide_true,ah,Cr,Vs,dR,du,bB]
  ·have a:=ad hi
   generalize (aq l)[i]=s at a
   obtain ⟨g,j⟩:=abQ a
   have c:((i:Int) < ((aq l).length:Int)):=by omega
   have n:s∉(aq l).take i:=by
    have e:=Up l
    rw [<-bM (i+1) (aq l),bt a] at e
    have k:=(b5.1 (b5.1 e).1).2.2
    intro hm
    exact k s hm s (by simp) rfl
   have f:ql .str (.map (nZ (λ_=> .bool true) 0 ((aq l).take i))) (B s) (.bool true)=some (.map (nZ (λ_=> .bool true) 0 ((aq l).take (i+1)))):=by
    unfold ql
    rw [if_pos (show LD .str (B s)=true from rfl)]
    simp only [Iv,xQ,n,if_false,ab]
    rw [bt a,GN]
   unfold ym
   simp only [af,ai,al,c,decide_true,ah,ab,g,j,f,au (show i < 2 ^ 62 by omega)]
 ·have a:=ad hi
  generalize l[i]=s at a
  have p:(l.map (nT l))[i]? =some (nT l s):=by rw [bC,a];rfl
  obtain ⟨g,j⟩:=acN p
  have c:((i:Int) < (l.length:Int)):=by omega
  have t:=XU (a1 a)
  have o:=n9 (l.take i)
  simp only [bs] at o
  have hle:nT l s<=(aq (l.take i)).length/\(aq (l.take (i+1))).length=max (aq (l.take i)).length (nT l s+1):=by
   rw [xl a]
   unfold ya
   by_cases h:s∈aq (l.take i)
   ·have k:=b1 h
    rw [Nl h] at k
    rw [if_pos h];omega
   ·have:=X8 a h
    rw [if_neg h];simp;omega
  have q: ¬(((aq (l.take i)).length:Int) < (nT l s:Int)):=by omega
  have r: ¬(((aq l).length:Int)<=(nT l s:Int)):=by omega
  have d:aa .add (.int .u64 (nT l s:Int)) (.int .u64 1)=some (.int .u64 ((nT l s+1:Nat):Int)):=od (b:=1) (by omega)
  have m:max ((aq (l.take i)).length:Int) ((nT l s+1:Nat):Int)=((aq (l.take (i+1))).length:Int):=by omega
  unfold Ab
  simp only [af,ai,al,c,decide_true,ah,ab,g,j,aQ,q,decide_false,ag,aw,ao,fk (show (aq l).length < 2 ^ 64 by omega),de,r,d,acj,m,au (show i < 2 ^ 62 by omega)]
theorem Th {l:List Byt} (hl:l.length<=4096):qJ (DX (aq l)) (Ns (l.map (nT l)))=some [DX l,.bool true]:=by
 have h2:=n9 l
 have j:jd 16 [.str ⟨#[]⟩] (.int .i64 (l.length:Int)) (.int .i64 (l.length:Int))=some (DX (a2 l.length [])):=by
  simp only [jd]
  rw [if_pos ⟨trivial,by omega,by simp;omega⟩]
  simp [eS,B]
 unfold qJ
 simp only [aw,ab,ao,j]
 rw [bc (λi=>[DX (l.take i++a2 (l.length - i) []),.int .i64 (i:Int)]) l.length 0 [DX l] (by simp) (by omega) (λi hi=> ?_) (by
  unfold xy
  simp)]
 ·rfl
 ·have f:=ad hi
  generalize l[i]=s at f
  have m:(l.map (nT l))[i]? =some (nT l s):=by rw [bC,f];rfl
  obtain ⟨n,o⟩:=acN m
  have h:((i:Int) < (l.length:Int)):=by omega
  have a:=XU (a1 f)
  have q: ¬(((aq l).length:Int)<=(nT l s:Int)):=by omega
  have c:aa .add (.int .u64 (nT l s:Int)) (.int .u64 1)=some (.int .u64 ((nT l s+1:Nat):Int)):=od (b:=1) (by omega)
  have hlen:(l.take i++a2 (l.length - i) ([]:Byt)).length=l.length:=by simp;omega
  have d:(aq l)[nT l s]? =some s:=by
   exact br.2 ⟨a,List.getElem_idxOf a⟩
  have k:fQ 1 (DX (aq l)) (some (.int .u64 (nT l s:Int))) (some (.int .u64 ((nT l s+1:Nat):Int)))=some (DX [s]):=by
   simp only [fQ]
   rw [if_pos (by simp [eS])]
   have:jt ((aq l).map eS).length (some (.int .u64 (nT l s:Int))) (some (.int .u64 ((nT l s+1:Nat):Int)))=some (nT l s,nT l s+1):=by
    simp only [jt,ao,J6 (show nT l s+1<=(aq l).length by omega),ab,J6 (show nT l s<=nT l s+1 by omega)]
   rw [this,ab]
   have e:((aq l).drop (nT l s)).take 1=[s]:=by
    rw [b4 a,(br.1 d).2];rfl
   show some (IV.lst ((((aq l).map eS).drop (nT l s)).take (nT l s+1 - nT l s)))=_
   rw [show nT l s+1 - nT l s=1 by omega,<-ek,<-ca,e]
  have g:pS 1 (DX (l.take i++a2 (l.length - i) [])) i l.length (DX [s])=some (DX (l.take (i+1)++a2 (l.length - (i+1)) []),.int .i64 1):=by
   simp only [pS]
   rw [if_pos ⟨by omega,by rw [ao,hlen];exact Nat.le_refl _,by simp [eS]⟩]
   have p:min (l.length - i) ([s].map eS).length=1:=by simp;omega
   rw [p]
   congr 3
   rw [<-ca,<-ek,List.take_left' (by simp;omega),<-ca,<-dq,<-dq]
   congr 1
   rw [bt f]
   congr 1
   rw [List.drop_append,List.drop_eq_nil_of_le (by simp;omega),dd,List.drop_replicate,bs]
   congr 1
   omega
  unfold xy
  simp only [af,ai,al,h,decide_true,ah,ab,n,o,aw,ao,fk (show (aq l).length < 2 ^ 64 by omega),de,q,decide_false,ag,cr,hlen,wD (show i<=l.length by omega),c,k,g]
  have e0:aa .eql (.int .i64 1) (.int .i64 0)=some (.bool false):=rfl
  simp only [e0,ab,ag,au (show i < 2 ^ 62 by omega)]
theorem A3 {l:List Byt} (hl:l.length<=4096) (h:D2 l):bV (B (dictL l)) (.int .i64 (l.length:Int)) (.int .i64 64)=some [DX l,.int .i64 0]:=by
 have h2:=n9 l
 have x:=bK (n:=(aq l).length) (by omega)
 have u:=BD (l:=l.map (nT l)) (by simp;omega) (K5 hl)
 have y:=xO h (aq l) λs hs=>(qm l s).1 hs
 simp only [ao] at u
 have e0: ¬((l.length:Int) < 0):=by omega
 have q: ¬((4096:Int) < (l.length:Int)):=by omega
 have v:=LR (n:=(aq l).length) (by omega) (dictL l) _ rfl
 have r: ¬((l.length:Int) < ((aq l).length:Int)):=by omega
 have d:aa .sub (.int .i64 ((dictL l).length:Int)) (.int .i64 ((((aq l).flatMap partL++po (l.map (nT l))).length:Nat):Int))=some (.int .i64 ((bu (aq l).length).length:Int)):=by
  rw [qD (by simp [dictL]) (by simp only [dictL,a5];omega)];congr 2;simp [dictL]
 have m:=zI (l:=l.map (nT l)) (by simp;omega) (K5 hl)
 simp only [ao] at m
 unfold bV
 simp only [al,e0,decide_false,ab,ag,aQ,q,lU,af,ai,v,yn,ur,fk (show l.length < 2 ^ 64 by omega),drop2,r,jx,qv,d]
 rw [bc (λi=>[DX ((aq l).take i),.int .i64 ((bu (aq l).length++((aq l).take i).flatMap partL).length:Nat),.int .u64 (i:Int)]) (aq l).length 0 [DX (aq l),.int .i64 ((bu (aq l).length++(aq l).flatMap partL).length:Nat)] (by simp) (by omega) (λi hi=> ?_) (by
  unfold rK
  simp)]
 ·have k:fy (B (dictL l)) (some (.int .i64 ((bu (aq l).length++(aq l).flatMap partL).length:Nat))) none=some (B (po (l.map (nT l)))):=by
   unfold dictL
   rw [<-a7]
   exact wV _ rfl
  simp only [ab,aN,af,ai,k,m,ur,ag,Wj hl,aW,a8,Th hl]
 ·have e:=ad hi
  generalize (aq l)[i]=s at e
  obtain ⟨g,j⟩:=h s ((qm l s).1 (a1 e))
  have f:((i:Int) < ((aq l).length:Int)):=by omega
  have a:dictL l=(bu (aq l).length++((aq l).take i).flatMap partL)++(partL s++(((aq l).drop (i+1)).flatMap partL++po (l.map (nT l)))):=by
   unfold dictL
   conv=>lhs;enter [2,1];rw [<-bM i (aq l),List.flatMap_append,sM e]
   simp only [a7]
  have w:=dw (s:=s) (by omega)
  have o:=RM (p:=bu (aq l).length++((aq l).take i).flatMap partL) (s:=s) (t:=((aq l).drop (i+1)).flatMap partL++po (l.map (nT l))) g j (by
   have:=Hd hl h
   rw [a] at this
   simp only [a5] at this ⊢
   omega)
  rw [<-a] at o
  have c:aa .add (.int .u64 (i:Int)) (.int .u64 1)=some (.int .u64 ((i+1:Nat):Int)):=od (b:=1) (by omega)
  unfold rK
  simp only [af,ai,ay,drop2,al,f,decide_true,ah,ab,o,ur,ag,SW (show ((aq l).take i).length < 2 ^ 20 by simp;omega),c,bt e,qk e,a7]
  simp [a7]
end Go.AM
namespace Go.AM
abbrev Ck:=Nat×Byt
def eCk (c:Ck):List IV:=[.int .i64 (c.1:Int),B c.2]
abbrev fG (l:List Ck):IV:= .lst (l.map eCk)
theorem FQ {l:List Ck} {i:Nat} {x:Ck} (h:l[i]? =some x):aE (fG l) (.int .i64 (i:Int)) 2=some i/\eV (fG l) i 0 2=some (eCk x)/\cV (fG l) i 0=some (.int .i64 (x.1:Int))/\cV (fG l) i 1=some (B x.2):=
 ⟨ea h rfl (by decide),qG h rfl,by rw [bX h];rfl,by rw [bX h];rfl⟩
def Zg (s:ByteArray):Byt:=s.data.toList
theorem Yc (s:ByteArray):B (Zg s)= .str s:=(afW s).symm
theorem XX (s:ByteArray):(⟨(Zg s).toArray⟩:ByteArray)=s:=by unfold Zg;simp
theorem abZ {m:Mv} (h:oneV m=true):V5 m.ch m.par m.nm=true:=by unfold oneV at h;exact (cc _ _▸h).2
theorem Yj {ch par:Int} {nm:ByteArray} (h:V5 ch par nm=true):(Zg nm).length<=64/\Gc nm=true:=by
 unfold V5 at h
 simp only [cc,decide_eq_true_eq] at h
 refine ⟨?_,h.2⟩
 unfold Zg
 rw [BN];exact h.1.2
def cs (l:List Mv):List Int:=l.map (·.c)
def ps (l:List Mv):List Int:=l.map (·.par)
def hs (l:List Mv):List Int:=l.map (·.ch)
def rs (l:List Mv):List Nat:=l.map (·.r.toNat)
def ns (l:List Mv):List Byt:=l.map λm=>Zg m.nm
def ks (l:List Mv):List Nat:=l.map (·.rk)
def xI (l:List Mv):List Ck:=[(4,bu l.length),(5,partL (deltaL (cs l))++po (rs l)),(6,partL (deltaL (ps l))++deltaL (hs l)),(7,dictL (ns l)),(8,ranksL (ks l))]
structure OkLog (l:List Mv):Prop where
 may:mayV l=true
 ok: ∀m∈l,OKm m
theorem OkLog.len {l:List Mv} (h:OkLog l):l.length<=2000:=(jL.1 h.may).1
theorem OkLog.one {l:List Mv} (h:OkLog l) {m:Mv} (hm:m∈l):oneV m=true:=(jL.1 h.may).2.1 m hm
theorem OkLog.rs64 {l:List Mv} (h:OkLog l): ∀x∈rs l,x < 2 ^ 64:= λx a=>by
 obtain ⟨m,hm,rfl⟩:=bb.1 a
 have:=qd (h.one hm);omega
theorem OkLog.can {l:List Mv} (h:OkLog l): ∀x∈ks l,CanW x:= λx a=>by
 obtain ⟨m,hm,rfl⟩:=bb.1 a
 exact ⟨(h.ok m hm).rk,by rw [<-Gw];exact (h.ok m hm).can⟩
theorem OkLog.short {l:List Mv} (h:OkLog l):D2 (ns l):= λs hs=>by
 obtain ⟨m,hm,rfl⟩:=bb.1 hs
 obtain ⟨h1,h2⟩:=Yj (abZ (h.one hm))
 exact ⟨h1,by rw [XX];exact h2⟩
theorem OkLog.csI {l:List Mv} (h:OkLog l): ∀x∈cs l,in64 x:= λx a=>by
 obtain ⟨m,hm,rfl⟩:=bb.1 a
 have:=qd (h.one hm);constructor<;>omega
theorem OkLog.psI {l:List Mv} (h:OkLog l): ∀x∈ps l,in64 x:= λx a=>by
 obtain ⟨m,hm,rfl⟩:=bb.1 a
 exact (h.ok m hm).par
theorem OkLog.hsI {l:List Mv} (h:OkLog l): ∀x∈hs l,in64 x:= λx a=>by
 obtain ⟨m,hm,rfl⟩:=bb.1 a
 exact (h.ok m hm).ch
theorem kf {α β:Type} {f:α->β} {l:List α} {i:Nat} {x:α} (h:l[i]? =some x):(l.take (i+1)).map f=(l.take i).map f++[f x]:=by rw [bt h];simp
theorem Wm {l:List Mv} (h:OkLog l):(deltaL (cs l)).length<=20000/\(deltaL (ps l)).length<=20000/\(deltaL (hs l)).length<=20000/\(po (rs l)).length<=40000:=by
 have hl:=h.len
 have h1:=fW (ns:=cs l)
 have h2:=fW (ns:=ps l)
 have a:=fW (ns:=hs l)
 have b:=BD (l:=rs l) (by simp [rs];omega) h.rs64
 simp only [cs,ps,hs,rs,ao] at*
 omega
theorem JA {l:List Mv} (h:OkLog l):ld (aZ l)=some [fG (xI l),.int .i64 0]:=by
 have hl:=h.len
 obtain ⟨J,K,L,M⟩:=Wm h
 have g:=xo (l:=l) (by omega)
 rw [h.may] at g
 unfold ld
 simp only [g,ab,af,aW,a8,ag,aw,ao]
 rw [bc (λi=>[bT (cs (l.take i)),bT (ps (l.take i)),bT (hs (l.take i)),Ns (rs (l.take i)),DX (ns (l.take i)),qg (ks (l.take i)),.int .i64 (i:Int)]) l.length 0 [bT (cs l),bT (ps l),bT (hs l),Ns (rs l),DX (ns l),qg (ks l)] (by simp [cs,ps,hs,rs,ns,ks]) (by omega) (λi hi=> ?_) (by
  unfold rF
  simp)]
 ·have h1:=nK (ns:=cs l) (by simp [cs];omega)
  have h2:=nK (ns:=ps l) (by simp [ps];omega)
  have C:=nK (ns:=hs l) (by simp [hs];omega)
  have D:=zJ (l:=rs l) (by simp [rs];omega) h.rs64
  have E:=zF (l:=ns l) (by simp [ns];omega) h.short
  have F:=vf (l:=ks l) (by simp [ks];omega) h.can
  have N:=dw (s:=deltaL (cs l)) (by omega)
  have O:=dw (s:=deltaL (ps l)) (by omega)
  simp only [ab,aN,af,ai,ay,az,bG,bE,fk (show l.length < 2 ^ 64 by omega),fB (show l.length < 2 ^ 64 by omega),h1,h2,C,D,E,F,mY (s:=deltaL (cs l)) (by omega),mY (s:=deltaL (ps l)) (by omega),KB (a:=partL (deltaL (cs l))) (b:=po (rs l)) (by omega),KB (a:=partL (deltaL (ps l))) (b:=deltaL (hs l)) (by omega)]
  rfl
 ·have d:=ad hi
  generalize l[i]=m at d
  have hm:=a1 d
  obtain ⟨H,j,o,I⟩:=AY d
  have e:((i:Int) < (l.length:Int)):=by omega
  obtain ⟨_,_,P,Q⟩:=qd (h.one hm)
  have hr:bN .u64 (.int .i64 m.r)=some (.int .u64 (m.r.toNat:Int)):=aad (by omega) (by omega)
  have G:(l.take i).length<=2000:=by simp;omega
  have p:=sU (l:=cs (l.take i)) (n:=m.c) (by simp [cs];omega)
  have b2:=sU (l:=ps (l.take i)) (n:=m.par) (by simp [ps];omega)
  have q:=sU (l:=hs (l.take i)) (n:=m.ch) (by simp [hs];omega)
  have t:b8 1 8 (Ns (rs (l.take i))) (.lst [[.int .u64 (m.r.toNat:Int)]])=some (Ns (rs (l.take i)++[m.r.toNat])):=aae (l:=rs (l.take i)) (k:=[m.r.toNat]) (by simp [rs];omega) (by simp)
  have f:=SW (l:=ns (l.take i)) (x:=Zg m.nm) (by simp [ns];omega)
  rw [Yc] at f
  have b6:=Fu (l:=ks (l.take i)) (x:=m.rk) (by simp [ks];omega)
  have u:cs (l.take (i+1))=cs (l.take i)++[m.c]:=kf d
  have v:ps (l.take (i+1))=ps (l.take i)++[m.par]:=kf d
  have w:hs (l.take (i+1))=hs (l.take i)++[m.ch]:=kf d
  have y:rs (l.take (i+1))=rs (l.take i)++[m.r.toNat]:=kf d
  have z:ns (l.take (i+1))=ns (l.take i)++[Zg m.nm]:=kf d
  have A:ks (l.take (i+1))=ks (l.take i)++[m.rk]:=kf d
  rw [u,v,w,y,z,A]
  unfold rF
  simp only [af,ai,ay,az,bG,bE,mf,al,e,decide_true,ah,ab,j,o,hr,p,b2,q,t,f,b6,au (show i < 2 ^ 62 by omega)]
theorem ag2 {l:List Mv} {i:Nat} {m:Mv} (h:l[i]? =some m):(cs l)[i]? =some m.c/\(ps l)[i]? =some m.par/\(hs l)[i]? =some m.ch/\(rs l)[i]? =some m.r.toNat/\(ns l)[i]? =some (Zg m.nm)/\(ks l)[i]? =some m.rk:=by
 simp [cs,ps,hs,rs,ns,ks,h]
theorem count_eq {n:Nat} (h:n<=2000):ny (B (bu n))=some [.int .i64 (n:Int)]:=by
 have a:=LR (n:=n) (by omega) (bu n) [] (by simp)
 have h1: ¬((2000:Int) < (n:Int)):=by omega
 unfold ny
 simp only [lU,ab,af,ai,a,J5,drop2,adn,aQ,h1,decide_false,ag,kI (show n < 2 ^ 63 by omega)]
 rfl
theorem Jf {l:List Mv} (h:OkLog l):lG (fG (xI l))=some [aZ l,.int .i64 0]:=by
 have hl:=h.len
 obtain ⟨Y,Z,d3,d4⟩:=Wm h
 have hlen:(xI l).length=5:=rfl
 obtain ⟨O,_,_,M⟩:=FQ (l:=xI l) (i:=0) rfl
 obtain ⟨P,_,_,c1⟩:=FQ (l:=xI l) (i:=1) rfl
 obtain ⟨Q,_,_,c2⟩:=FQ (l:=xI l) (i:=2) rfl
 obtain ⟨R,_,_,c3⟩:=FQ (l:=xI l) (i:=3) rfl
 obtain ⟨S,_,_,c4⟩:=FQ (l:=xI l) (i:=4) rfl
 have t:aE (fG (xI l)) (.int .i64 0) 2=some 0:=O
 have u:aE (fG (xI l)) (.int .i64 1) 2=some 1:=P
 have v:aE (fG (xI l)) (.int .i64 2) 2=some 2:=Q
 have w:aE (fG (xI l)) (.int .i64 3) 2=some 3:=R
 have y:aE (fG (xI l)) (.int .i64 4) 2=some 4:=S
 have h1:=eH (ns:=cs l) (by simp [cs];omega) h.csI
 have h2:=eH (ns:=ps l) (by simp [ps];omega) h.psI
 have z:=eH (ns:=hs l) (by simp [hs];omega) h.hsI
 have A:=zI (l:=rs l) (by simp [rs];omega) h.rs64
 have C:=A3 (l:=ns l) (by simp [ns];omega) h.short
 have D:=tj (l:=ks l) (by simp [ks];omega) h.can
 rw [show (cs l).length=l.length by simp [cs]] at h1
 rw [show (ps l).length=l.length by simp [ps]] at h2
 rw [show (hs l).length=l.length by simp [hs]] at z
 rw [show (rs l).length=l.length by simp [rs]] at A
 rw [show (ns l).length=l.length by simp [ns]] at C
 rw [show (ks l).length=l.length by simp [ks]] at D
 have u1:=xV (a:=deltaL (cs l)) (b:=po (rs l)) (by omega)
 have u2:=xV (a:=deltaL (ps l)) (b:=deltaL (hs l)) (by omega)
 have g: ∀x:IV,kD x (.int .i64 0)=some [x]/\qy x (.int .i64 0)=some [x]/\qt x (.int .i64 0)=some [x]/\kg x (.int .i64 0)=some [x]:= λx=>⟨rfl,rfl,rfl,rfl⟩
 have E:=xo (l:=l) (by omega)
 rw [h.may] at E
 have N:aa .neq (.int .i64 ((5:Nat):Int)) (.int .i64 5)=some (.bool false):=rfl
 unfold lG
 simp only [aw,ao,hlen,N,ab,ag]
 rw [bc (λi=>[.int .i64 (i:Int)]) 5 0 [] (by simp) (by decide) (λi hi=> ?_) rfl]
 ·simp only [ab,aN,t,u,v,w,y,M,c1,c2,c3,c4,count_eq hl,af,ai,u1,u2,h1,h2,z,A,C,D,(g _).1,(g _).2.1,(g _).2.2.1,(g _).2.2.2]
  rw [bc (λi=>[aZ (l.take i),.int .i64 (i:Int)]) l.length 0 [aZ l] (by simp) (by omega) (λi hi=> ?_) (by
   unfold dj
   simp)]
  ·simp only [ab,aN,af,E,aW,a8,ag,ur]
  ·have e:=ad hi
   generalize l[i]=m at e
   have hm:=a1 e
   obtain ⟨q1,T,U,V,W,X⟩:=ag2 e
   obtain ⟨_,G,_,f⟩:=oT q1
   obtain ⟨_,H,_,j⟩:=oT T
   obtain ⟨_,I,_,n⟩:=oT U
   obtain ⟨J,o⟩:=acN V
   obtain ⟨K,d⟩:=abQ W
   obtain ⟨L,p⟩:=VH X
   rw [Yc] at d
   have s:((i:Int) < (l.length:Int)):=by omega
   obtain ⟨_,_,r1,r2⟩:=qd (h.one hm)
   have hr:bN .i64 (.int .u64 (m.r.toNat:Int))=some (.int .i64 m.r):=by
    rw [kI (by omega)];congr 2;omega
   have F:=xw m
   rw [h.one hm] at F
   have q:b8 6 56 (aZ (l.take i)) (.lst [[.int .i64 m.c,.int .i64 m.r,.int .i64 m.par,.int .i64 m.ch,.str m.nm,.flt .f64 m.rk]])=some (aZ (l.take i++[m])):=Tj (l:=l.take i) (k:=[m]) (by simp;omega) (by simp)
   unfold dj
   simp only [af,ai,al,s,decide_true,ah,ab,G,f,H,j,I,n,J,o,K,d,L,p,hr,F,aW,a8,ag,q,au (show i < 2 ^ 62 by omega),bt e]
 ·match i,hi with
  | 0,_=>rfl
  | 1,_=>rfl
  | 2,_=>rfl
  | 3,_=>rfl
  | 4,_=>rfl
  | k+5,hi=>omega
end Go.AM
namespace Go.AM
theorem put_eq {C:IV->List Nat->List (List IV)->Option (List IV)} (xs:List (IV×Byt)) (hn:xs.length < 100) (j: ∀p∈xs,C (GO "bonsai/snap.bytes" p.1) [1] []=some [B p.2]) (hb: ∀p∈xs,p.2.length<=2 ^ 22):il C (.lst (xs.map λp=>[p.1]))=some [B (xs.flatMap (·.2))]:=by
 unfold il
 simp only [aw,ab,ao]
 rw [bc (λi=>[.nilp,.lst (((xs.take i).flatMap (·.2)).map eB),.int .i64 (i:Int)]) xs.length 0 [.nilp,.lst ((xs.flatMap (·.2)).map eB)] (by simp) (by omega) (λi hi=> ?_) (by
  unfold AZ
  simp)]
 ·simp only [ab,aN,ai,oN];rfl
 ·have c:=ad hi
  generalize xs[i]=p at c
  have hp:=a1 c
  have g:aE (.lst (xs.map λp=>[p.1])) (.int .i64 (i:Int)) 1=some i:=ea (enc:= λp=>[p.1]) c rfl Nat.one_pos
  have h:cV (.lst (xs.map λp=>[p.1])) i 0=some p.1:=by rw [bX (enc:= λp=>[p.1]) c];rfl
  have e:((i:Int) < (xs.length:Int)):=by omega
  have d:=kY (f:= λp:IV×Byt=>p.2) (l:=xs.take i) (k:=2 ^ 22) λq m=>hb q (bO m)
  simp only [bs] at d
  have hw:=xZ (x:= .nilp) (a:=(xs.take i).flatMap (·.2)) (b:=p.2) (by have:=hb p hp;omega)
  unfold AZ
  simp only [af,ai,ay,al,e,decide_true,ah,ab,g,h,j p hp,hw,au (show i < 2 ^ 62 by omega),qk (f:= λp:IV×Byt=>p.2) c]
def mr (v:List Mark):List Int:=v.map (·.r)
def mc (v:List Mark):List Int:=v.map (·.c)
def F4 (v:List Mark):Byt:=bu v.length++(partL (deltaL (mr v))++deltaL (mc v))
theorem MayP.len {v:List Mark} (h:MayP v):v.length<=255:=by
 have key: ∀(v:List Mark) (n:Int),v.Pairwise (λa b=>a.r < b.r)->(∀x∈v,n < x.r/\x.r<=255)->n<=255->(v.length:Int)<=255 - n:=by
  intro v
  induction v with
  | nil=>intro n _ _ h;simp;omega
  | cons x v ih=>
    intro n hp c h
    obtain ⟨h1,h2⟩:=c x List.mem_cons_self
    have:=ih x.r (c0.1 hp).2 (λy d=>⟨(c0.1 hp).1 y d,(c y (cO _ d)).2⟩) h2
    simp;omega
 have:=key v 0 h.sorted (λx c=>by have:=h.ok x c;omega) (by decide)
 omega
theorem afR {v:List Mark} (h:MayP v):(∀x∈mr v,in64 x)/\ ∀x∈mc v,in64 x:=
 ⟨λx a=>by obtain ⟨m,hm,rfl⟩:=bb.1 a;have:=h.ok m hm;constructor<;>omega,λx a=>by obtain ⟨m,hm,rfl⟩:=bb.1 a;have:=h.ok m hm;constructor<;>omega⟩
theorem ve {n:Nat} (h:n < 2 ^ 63):db (.int .i64 (n:Int))=some [B (bu n)]:=by
 unfold db
 simp only [fk (show n < 2 ^ 64 by omega),ab,fB (show n < 2 ^ 64 by omega),af]
 rfl
theorem yf {l:List Int} (h:l.length < 2 ^ 16):ey (bT l)=some [B (deltaL l)]:=by
 unfold ey
 rw [nK h];rfl
theorem UQ {l:List Byt} (hl:l.length<=4096) (h:D2 l):fY (DX l)=some [B (dictL l)]:=by
 unfold fY
 rw [zF hl h];rfl
theorem Tw {l:List Nat} (hl:l.length<=4096) (h: ∀w∈l,CanW w):fX (qg l)=some [B (ranksL l)]:=by
 unfold fX
 rw [vf hl h];rfl
theorem J8 {C:IV->List Nat->List (List IV)->Option (List IV)} {y:IV} {s:Byt} (h:C (GO "bonsai/snap.bytes" y) [1] []=some [B s]) (hs:s.length < 2 ^ 40):zt "bonsai/snap.bytes" bH C y=some [B (partL s)]:=by
 unfold zt
 rw [h,ab,af,mY hs];rfl
theorem XI {v:List Mark} (h:MayP v):(F4 v).length<=6000:=by
 have hl:=h.len
 have h1:=bK (n:=v.length) (by omega)
 have h2:=fW (ns:=mr v)
 have c:=fW (ns:=mc v)
 have b:(mr v).length=v.length:=by simp [mr]
 have a:(mc v).length=v.length:=by simp [mc]
 have d:=dw (s:=deltaL (mr v)) (by omega)
 simp only [F4,a5] at*
 omega
theorem F6 {v:List Mark} (h:MayP v):j5 (aL v)=some [B (F4 v)]:=by
 have hl:=h.len
 unfold j5
 simp only [aw,ab,ao]
 rw [bc (λi=>[bT (mr (v.take i)),bT (mc (v.take i)),.int .i64 (i:Int)]) v.length 0 [bT (mr v),bT (mc v)] (by simp [mr,mc]) (by omega) (λi hi=> ?_) (by
  unfold qc
  simp)]
 ·have h2:=fW (ns:=mr v)
  have k:=fW (ns:=mc v)
  simp only [mr,mc,ao] at h2 k
  have i1:=yf (l:=mr v) (by simp [mr];omega)
  have i2:=yf (l:=mc v) (by simp [mc];omega)
  have c1:=ve (n:=v.length) (by omega)
  have o:zt "bonsai/snap.bytes" bH iU (.ifc 322 false (bT (mr v)))=some [B (partL (deltaL (mr v)))]:=J8 i1 (by simp only [mr];omega)
  have q:=dw (s:=deltaL (mr v)) (by simp only [mr];omega)
  have h1:=bK (n:=v.length) (by omega)
  have:=put_eq (C:=fK) [(.ifc 266 false (.int .i64 (v.length:Int)),bu v.length),(.ifc 326 true (.ifc 322 false (bT (mr v))),partL (deltaL (mr v))),(.ifc 322 false (bT (mc v)),deltaL (mc v))] (by simp)
   (λp hp=>by
     simp only [bd,bm,or_false] at hp
     rcases hp with rfl | rfl | rfl
     ·exact c1
     ·exact o
     ·exact i2)
   (λp hp=>by
     simp only [bd,bm,or_false] at hp
     simp only [mr,mc] at*
     rcases hp with rfl | rfl | rfl<;>simp only<;>omega)
  simp only [bR,b3,b7,cd,cl] at this
  simp only [ab,aN,af,ai,this]
  rfl
 ·have a:=ad hi
  generalize v[i]=m at a
  obtain ⟨_,d,e,_⟩:=yb a
  have b:((i:Int) < (v.length:Int)):=by omega
  have f:=sU (l:=mr (v.take i)) (n:=m.r) (by simp [mr];omega)
  have b2:=sU (l:=mc (v.take i)) (n:=m.c) (by simp [mc];omega)
  have g:mr (v.take (i+1))=mr (v.take i)++[m.r]:=kf a
  have j:mc (v.take (i+1))=mc (v.take i)++[m.c]:=kf a
  rw [g,j]
  unfold qc
  simp only [af,ai,ay,al,b,decide_true,ah,ab,d,e,f,b2,au (show i < 2 ^ 62 by omega)]
theorem snap_open_eq {n most:Nat} {t:Byt} (h:n<=most) (hm:most<=2000) (b:t.length < 2 ^ 40):snap_open_s (B (bu n++t)) (.int .u64 (most:Int))=some [B t,.int .i64 (n:Int),.int .i64 0]:=by
 have a:=xi (n:=n) (by omega) t
 have hl:=bK (n:=n) (by omega)
 have h1: ¬((most:Int) < (n:Int)):=by omega
 have hs:aa .sub (.int .i64 ((bu n++t).length:Int)) (.int .i64 (t.length:Int))=some (.int .i64 ((bu n).length:Int)):=by
  rw [qD (by simp) (by simp;omega)];congr 2;simp
 unfold snap_open_s
 simp only [lU,a,ab,af,ai,yn,ur,ag,drop2,aQ,h1,decide_false,jx,qv,hs,wV (bu n).length rfl,kI (show n < 2 ^ 63 by omega)]
set_option maxHeartbeats 4000000 in
theorem Ei {v:List Mark} (h:MayP v):iV (B (F4 v))=some [aL v,.int .i64 0]:=by
 have hl:=h.len
 have h2:=fW (ns:=mr v)
 have G:=fW (ns:=mc v)
 have w:(mr v).length=v.length:=by simp [mr]
 have u:(mc v).length=v.length:=by simp [mc]
 have H:=dw (s:=deltaL (mr v)) (by omega)
 obtain ⟨D,E⟩:=afR h
 have e:=snap_open_eq (n:=v.length) (most:=255) (t:=partL (deltaL (mr v))++deltaL (mc v)) hl (by decide) (by simp;omega)
 have f:=pD (a:=deltaL (mr v)) (b:=deltaL (mc v)) (by omega)
 have x:=eH (ns:=mr v) (by omega) D
 have y:=eH (ns:=mc v) (by omega) E
 rw [w] at x
 rw [u] at y
 have z:=xK (v:=v) (by omega)
 rw [FR.2 h] at z
 have d:snap_open_s (B (bu v.length++(partL (deltaL (mr v))++deltaL (mc v)))) (.int .u64 255)=some [B (partL (deltaL (mr v))++deltaL (mc v)),.int .i64 (v.length:Int),.int .i64 0]:=e
 have F:iter rounds (iL [B (partL (deltaL (mr v))++deltaL (mc v)),.int .i64 (v.length:Int),.int .i64 0] [bT (mr v),.int .i64 0] [bT (mc v),.int .i64 0]) [.lst [],.int .i64 0]=some (0,[aL v]):=by
  rw [bc (λi=>[aL (v.take i),.int .i64 (i:Int)]) v.length 0 [aL v] (by simp) (by omega) (λi hi=> ?_) (by
   unfold iL
   simp)]
  have g:=ad hi
  generalize v[i]=m at g
  obtain ⟨_,A,_,j⟩:=oT (show (mr v)[i]? =some m.r by simp [mr,g])
  obtain ⟨_,C,_,o⟩:=oT (show (mc v)[i]? =some m.c by simp [mc,g])
  have q:((i:Int) < (v.length:Int)):=by omega
  have p:b8 2 16 (aL (v.take i)) (.lst [[.int .i64 m.r,.int .i64 m.c]])=some (aL (v.take i++[m])):=ZU (l:=v.take i) (k:=[m]) (by simp;omega) (by simp)
  unfold iL
  simp only [af,ai,al,q,decide_true,ah,ab,A,j,C,o,p,au (show i < 2 ^ 62 by omega),bt g]
 unfold iV F4
 rw [d,ab,ay,ur,ab,ag,af,f,ab,ay,ur,ab,ag,af,ai,ai,x,ab,ai,ur,ab,ag,y,ab,ai,ur,ab,ag,F,ab,aN,af,z,ab,af,aW,ab]
 rfl
end Go.AM
namespace Go.AM
def rc (l:List Rw):List Int:=l.map (·.ch)
def rp (l:List Rw):List Int:=l.map (·.par)
def rn (l:List Rw):List Byt:=l.map λr=>Zg r.nm
def rk (l:List Rw):List Nat:=l.map (·.rk)
def rowsL (l:List Rw):Byt:=bu l.length++(partL (deltaL (rc l))++(partL (deltaL (rp l))++(partL (dictL (rn l))++ranksL (rk l))))
structure OkBase (l:List Rw):Prop where
 may:mayR l=true
 ok:OKl l
theorem OkBase.len {l:List Rw} (h:OkBase l):l.length<=2000:=(xR h.may).1
theorem OkBase.one {l:List Rw} (h:OkBase l) {r:Rw} (hr:r∈l):S0 r=true:=(xR h.may).2.1 r hr
theorem OkBase.can {l:List Rw} (h:OkBase l): ∀x∈rk l,CanW x:= λx a=>by
 obtain ⟨r,hr,rfl⟩:=bb.1 a
 exact ⟨(h.ok r hr).rk,by rw [<-Gw];exact (h.ok r hr).can⟩
theorem OkBase.short {l:List Rw} (h:OkBase l):D2 (rn l):= λs hs=>by
 obtain ⟨r,hr,rfl⟩:=bb.1 hs
 obtain ⟨h1,h2⟩:=Yj (h.one hr)
 exact ⟨h1,by rw [XX];exact h2⟩
theorem OkBase.i64 {l:List Rw} (h:OkBase l):(∀x∈rc l,in64 x)/\ ∀x∈rp l,in64 x:=
 ⟨λx a=>by obtain ⟨r,hr,rfl⟩:=bb.1 a;exact (h.ok r hr).ch,λx a=>by obtain ⟨r,hr,rfl⟩:=bb.1 a;exact (h.ok r hr).par⟩
theorem Mi {l:List Rw} (h:OkBase l):(rc l).length=l.length/\(rp l).length=l.length/\(rn l).length=l.length/\(rk l).length=l.length/\(deltaL (rc l)).length<=20000/\(deltaL (rp l)).length<=20000/\(dictL (rn l)).length<=2 ^ 19/\(ranksL (rk l)).length<=2 ^ 17/\(partL (deltaL (rc l))).length<=20010/\(partL (deltaL (rp l))).length<=20010/\(partL (dictL (rn l))).length<=2 ^ 19+10/\(bu l.length).length<=10:=by
 have hl:=h.len
 have a:(rc l).length=l.length:=by simp [rc]
 have b:(rp l).length=l.length:=by simp [rp]
 have c:(rn l).length=l.length:=by simp [rn]
 have d:(rk l).length=l.length:=by simp [rk]
 have h1:=fW (ns:=rc l)
 have h2:=fW (ns:=rp l)
 have e:=Hd (l:=rn l) (by omega) h.short
 have f:=M0 (l:=rk l) (by omega)
 have g:=dw (s:=deltaL (rc l)) (by omega)
 have i:=dw (s:=deltaL (rp l)) (by omega)
 have j:=dw (s:=dictL (rn l)) (by omega)
 have q:=bK (n:=l.length) (by omega)
 exact ⟨a,b,c,d,by omega,by omega,e,f,by omega,by omega,by omega,q⟩
theorem Jn {l:List Rw} (h:OkBase l):lQ (cQ l)=some [B (rowsL l)]:=by
 have hl:=h.len
 obtain ⟨t,u,v,w,D,E,F,G,y,z,A,q⟩:=Mi h
 unfold lQ
 simp only [aw,ab,ao]
 rw [bc (λi=>[bT (rc (l.take i)),bT (rp (l.take i)),DX (rn (l.take i)),qg (rk (l.take i)),.int .i64 (i:Int)]) l.length 0 [bT (rc l),bT (rp l),DX (rn l),qg (rk l)] (by simp [rc,rp,rn,rk]) (by omega) (λi hi=> ?_) (by
  unfold rf
  simp)]
 ·have i1:=yf (l:=rc l) (by omega)
  have i2:=yf (l:=rp l) (by omega)
  have i3:=UQ (l:=rn l) (by omega) h.short
  have s:=Tw (l:=rk l) (by omega) h.can
  have c1:=ve (n:=l.length) (by omega)
  have u1:zt "bonsai/snap.bytes" bH eJ (.ifc 322 false (bT (rc l)))=some [B (partL (deltaL (rc l)))]:=J8 i1 (by omega)
  have u2:zt "bonsai/snap.bytes" bH eJ (.ifc 322 false (bT (rp l)))=some [B (partL (deltaL (rp l)))]:=J8 i2 (by omega)
  have u3:zt "bonsai/snap.bytes" bH eJ (.ifc 323 false (DX (rn l)))=some [B (partL (dictL (rn l)))]:=J8 i3 (by omega)
  have:=put_eq (C:=gA) [(.ifc 266 false (.int .i64 (l.length:Int)),bu l.length),(.ifc 326 true (.ifc 322 false (bT (rc l))),partL (deltaL (rc l))),(.ifc 326 true (.ifc 322 false (bT (rp l))),partL (deltaL (rp l))),(.ifc 326 true (.ifc 323 false (DX (rn l))),partL (dictL (rn l))),(.ifc 324 false (qg (rk l)),ranksL (rk l))] (by simp)
   (λp hp=>by
     simp only [bd,bm,or_false] at hp
     rcases hp with rfl | rfl | rfl | rfl | rfl
     ·exact c1
     ·exact u1
     ·exact u2
     ·exact u3
     ·exact s)
   (λp hp=>by
     simp only [bd,bm,or_false] at hp
     rcases hp with rfl | rfl | rfl | rfl | rfl<;>simp only<;>omega)
  simp only [bR,b3,b7,cd,cl] at this
  simp only [ab,aN,af,ai,ay,az,this]
  rfl
 ·have a:=ad hi
  generalize l[i]=r at a
  obtain ⟨_,d,e,_⟩:=P9 a
  have b:((i:Int) < (l.length:Int)):=by omega
  have f:=sU (l:=rc (l.take i)) (n:=r.ch) (by simp [rc];omega)
  have b2:=sU (l:=rp (l.take i)) (n:=r.par) (by simp [rp];omega)
  have c:=SW (l:=rn (l.take i)) (x:=Zg r.nm) (by simp [rn];omega)
  rw [Yc] at c
  have g:=Fu (l:=rk (l.take i)) (x:=r.rk) (by simp [rk];omega)
  have j:rc (l.take (i+1))=rc (l.take i)++[r.ch]:=kf a
  have k:rp (l.take (i+1))=rp (l.take i)++[r.par]:=kf a
  have m:rn (l.take (i+1))=rn (l.take i)++[Zg r.nm]:=kf a
  have o:rk (l.take (i+1))=rk (l.take i)++[r.rk]:=kf a
  rw [j,k,m,o]
  unfold rf
  simp only [af,ai,ay,az,bG,al,b,decide_true,ah,ab,d,e,f,b2,c,g,au (show i < 2 ^ 62 by omega)]
theorem Zu {l:List Int} (hl:l.length < 2 ^ 16) (h:wK l):k8 (bT l)=some [.bool true]:=by
 unfold k8
 rw [bc (λi=>[.int .i64 ((i+1:Nat):Int)]) (l.length - 1) 0 [] (by simp) (by omega) (λi hi=> ?_) (by
  have: ¬(((l.length - 1+1:Nat):Int) < (l.length:Int)):=by omega
  unfold rr
  simp only [af,aw,ao,ab,al,this,decide_false,ag])]
 ·rfl
 ·have g:=ad (show i+1 < l.length by omega)
  have j:=ad (show i < l.length by omega)
  have d:l[i]'(by omega) < l[i+1]'(by omega):=List.pairwise_iff_getElem.1 h i (i+1) (by omega) (by omega) (by omega)
  generalize l[i+1]'(by omega)=x at*
  generalize l[i]'(by omega)=y at*
  obtain ⟨_,e,_,a⟩:=oT g
  obtain ⟨_,f,_,b⟩:=oT j
  have c:(((i+1:Nat):Int) < (l.length:Int)):=by omega
  have hle: ¬(x<=y):=by omega
  have hp:=sN (i:=i+1) (by omega) (by omega)
  rw [Nat.add_sub_cancel] at hp
  unfold rr
  simp only [af,aw,ao,ab,al,c,decide_true,ah,e,a,hp,f,b,jU,hle,decide_false,ag,au (show i+1 < 2 ^ 62 by omega)]
theorem afy {l:List Rw} {i:Nat} {r:Rw} (h:l[i]? =some r):(rc l)[i]? =some r.ch/\(rp l)[i]? =some r.par/\(rn l)[i]? =some (Zg r.nm)/\(rk l)[i]? =some r.rk:=by
 simp [rc,rp,rn,rk,h]
theorem YO {l:List Rw} (h:OkBase l) (x y:IV):iter rounds (gF [x,.int .i64 (l.length:Int),y] [bT (rc l),.int .i64 0] [bT (rp l),.int .i64 0] [DX (rn l),.int .i64 0] [qg (rk l),.int .i64 0]) [.lst [],.int .i64 0]=some (0,[cQ l]):=by
 have hl:=h.len
 rw [bc (λi=>[cQ (l.take i),.int .i64 (i:Int)]) l.length 0 [cQ l] (by simp) (by omega) (λi hi=> ?_) (by
  unfold gF
  simp)]
 have b:=ad hi
 generalize l[i]=r at b
 have hr:=a1 b
 obtain ⟨q1,p,q,s⟩:=afy b
 obtain ⟨_,k,_,c⟩:=oT q1
 obtain ⟨_,m,_,d⟩:=oT p
 obtain ⟨n,a⟩:=abQ q
 obtain ⟨o,e⟩:=VH s
 rw [Yc] at a
 have g:((i:Int) < (l.length:Int)):=by omega
 have j:=zP r.ch r.par r.nm (.flt .f64 r.rk)
 rw [show V5 r.ch r.par r.nm=true from h.one hr] at j
 have f:b8 4 40 (cQ (l.take i)) (.lst [[.int .i64 r.ch,.int .i64 r.par,.str r.nm,.flt .f64 r.rk]])=some (cQ (l.take i++[r])):=by
  simp only [b8]
  rw [if_pos ⟨by simp;omega,by simp⟩]
  simp [Y9]
 unfold gF
 simp only [af,ai,al,g,decide_true,ah,ab,k,c,m,d,n,a,o,e,j,aW,a8,ag,f,au (show i < 2 ^ 62 by omega),bt b]
theorem HY {R:Type} (t e:Unit->Option R):((aa .neq (.int .i64 0) (.int .i64 0)).bind λv=>ae v t e)=e ():=rfl
set_option maxHeartbeats 8000000 in
theorem GA {l:List Rw} (h:OkBase l):jR (B (rowsL l))=some [cQ l,.int .i64 0]:=by
 have hl:=h.len
 obtain ⟨j,k,m,o,x,y,z,A,u,v,w,q⟩:=Mi h
 obtain ⟨p,r⟩:=h.i64
 have c:snap_open_s (B (rowsL l)) (.int .u64 2000)=some [B (partL (deltaL (rc l))++(partL (deltaL (rp l))++(partL (dictL (rn l))++ranksL (rk l)))),.int .i64 (l.length:Int),.int .i64 0]:=snap_open_eq (n:=l.length) (most:=2000) hl (by decide) (by simp only [a5];omega)
 have c1:=pD (a:=deltaL (rc l)) (b:=partL (deltaL (rp l))++(partL (dictL (rn l))++ranksL (rk l))) (by simp only [a5];omega)
 have c2:=pD (a:=deltaL (rp l)) (b:=partL (dictL (rn l))++ranksL (rk l)) (by simp only [a5];omega)
 have c3:=pD (a:=dictL (rn l)) (b:=ranksL (rk l)) (by omega)
 have d:=eH (ns:=rc l) (by omega) p
 have e:=eH (ns:=rp l) (by omega) r
 have f:=A3 (l:=rn l) (by omega) h.short
 have g:=tj (l:=rk l) (by omega) h.can
 rw [j] at d
 rw [k] at e
 rw [m] at f
 rw [o] at g
 have t:=Zu (l:=rc l) (by omega) (xR h.may).2.2.1
 have i:=Ah (l:=l) (by omega) h.ok
 rw [h.may] at i
 have s:=YO h (B (partL (deltaL (rc l))++(partL (deltaL (rp l))++(partL (dictL (rn l))++ranksL (rk l))))) (.int .i64 0)
 unfold jR
 rw [c,ab,ay,HY,af,c1,ab,ay,HY,af,ai,ai,d,ab,ai,HY,c2,ab,ay,HY,af,ai,e,ab,ai,HY,c3,ab,ay,HY,af,ai,f,ab,ai,HY,g,ab,ai,HY,aj,s,ab,aN,af,t,ab,af,aW,ab]
 show (qo (cQ l)).bind _=_
 rw [i,ab]
 rfl
end Go.AM
namespace Go.AM
theorem J3 {f:List IV->Option SR} (P:IV->Prop) (n:Nat) (hs: ∀i x,i < n->P x-> ∃y,P y/\f [x,.int .i64 (i:Int)]=some (.next [y,.int .i64 ((i+1:Nat):Int)])) (he: ∀x,P x->f [x,.int .i64 (n:Int)]=some (.done 0 [x])):
  ∀(k m i:Nat) (x:IV),i+k=n->k < m->P x-> ∃y,P y/\iter m f [x,.int .i64 (i:Int)]=some (0,[y])
 | 0,m,i,x,h,hm,a=>by
   obtain ⟨m,rfl⟩: ∃b,m=b+1:=⟨m - 1,by omega⟩
   obtain rfl:i=n:=by omega
   exact ⟨x,a,gB m (he x a)⟩
 | k+1,m,i,x,h,hm,a=>by
   obtain ⟨m,rfl⟩: ∃b,m=b+1:=⟨m - 1,by omega⟩
   obtain ⟨y,d,e⟩:=hs i x (by omega) a
   obtain ⟨z,hz,c⟩:=J3 P n hs he k m (i+1) y (by omega) (by omega) d
   exact ⟨z,hz,by rw [og m e,c]⟩
def U32 (x:IV):Prop:= ∃c:Nat,c < 2 ^ 32/\x= .int .u32 (c:Int)
theorem wrap32 (z:Int):aB.wrap z=z % 2 ^ 32:=by
 unfold IntKind.wrap
 show (if (false&&decide ((z % (2 ^ 32:Int))>=(2 ^ 31:Int)))=true then (z % (2 ^ 32:Int)) - (2 ^ 32:Int) else (z % (2 ^ 32:Int)))=_
 simp
theorem Xw (z:Int):U32 (.int .u32 (aB.wrap z)):=by
 rw [wrap32]
 refine ⟨(z % 2 ^ 32).toNat,?_,?_⟩
 ·omega
 ·congr 1;omega
theorem abO: ∀x,U32 x-> ∃y,U32 y/\iter rounds uX [x,.int .i64 0]=some (0,[y]):= λx a=>by
 refine J3 U32 8 (λi x hi a=> ?_) (λx a=> ?_) 8 rounds 0 x rfl (by rw [aO];decide) a
 ·obtain ⟨c,hc,rfl⟩:=a
  have b:((i:Int) < 8):=by omega
  have h1:aa .shr (.int .u32 (c:Int)) (.int .u64 1)=some (.int .u32 ((c / 2:Nat):Int)):=by
   simp only [aa]
   rw [if_neg (by omega)]
   show some (IV.int .u32 ((c:Int).fdiv (2 ^ 1)))=_
   rw [Int.fdiv_eq_ediv_of_nonneg _ (by decide)];congr 2
  have h2:aa .and (.int .u32 (c:Int)) (.int .u32 1)=some (.int .u32 (aB.wrap ((a6 aB.bits (c:Int)&&&a6 aB.bits 1).toNat:Int))):=by simp only [aa,cm,if_true]
  generalize aB.wrap ((a6 aB.bits (c:Int)&&&a6 aB.bits 1).toNat:Int)=d at h2
  have f:lK .neg (.int .u32 d)=some (.int .u32 (aB.wrap (0 - d))):=rfl
  generalize aB.wrap (0 - d)=e at f
  have h:aa .and (.int .u32 3988292384) (.int .u32 e)=some (.int .u32 (aB.wrap ((a6 aB.bits 3988292384&&&a6 aB.bits e).toNat:Int))):=by simp only [aa,cm,if_true]
  generalize aB.wrap ((a6 aB.bits 3988292384&&&a6 aB.bits e).toNat:Int)=g at h
  have j:aa .xor (.int .u32 ((c / 2:Nat):Int)) (.int .u32 g)=some (.int .u32 (aB.wrap ((a6 aB.bits ((c / 2:Nat):Int) ^^^ a6 aB.bits g).toNat:Int))):=by simp only [aa,cm,if_true]
  refine ⟨_,Xw ((a6 aB.bits ((c / 2:Nat):Int) ^^^ a6 aB.bits g).toNat:Int),?_⟩
  unfold uX
  simp only [af,ai,al,b,decide_true,ah,ab,h1,h2,f,h,j,au (show i < 2 ^ 62 by omega)]
 ·unfold uX
  simp
theorem Xa {s:Byt} (h:s.length < 900000*2) (hs:s.length < 999999): ∃c:Nat,c < 2 ^ 32/\wx (B s)=some [.int .u32 (c:Int)]:=by
 have hb:Vv (B s)=some (.lst (s.map eB)):=by
  show some (IV.lst (s.toArray.toList.map λb=>[IV.int .u8 b.toNat]))=_
  rfl
 have h0:aa .xor (.int .u32 0) (.int .u32 4294967295)=some (.int .u32 4294967295):=rfl
 obtain ⟨y,⟨c,hc,rfl⟩,q⟩:=J3 (f:=qN (.int .i64 (s.length:Int)) (.lst (s.map eB))) U32 s.length (λi x hi m=>by
   obtain ⟨c,hc,rfl⟩:=m
   have g:=ad hi
   generalize s[i]=b at g
   have n:aE (.lst (s.map eB)) (.int .i64 (i:Int)) 1=some i:=ea g rfl Nat.one_pos
   have o:cV (.lst (s.map eB)) i 0=some (.int .u8 (b.toNat:Int)):=by rw [bX g];rfl
   have j:((i:Int) < (s.length:Int)):=by omega
   obtain ⟨z,hz,e⟩:=abO _ (Xw ((a6 aB.bits (c:Int) ^^^ a6 aB.bits (aB.wrap (b.toNat:Int))).toNat:Int))
   refine ⟨z,hz,?_⟩
   have k:aa .xor (.int .u32 (c:Int)) (.int .u32 (aB.wrap (b.toNat:Int)))=some (.int .u32 (aB.wrap ((a6 aB.bits (c:Int) ^^^ a6 aB.bits (aB.wrap (b.toNat:Int))).toNat:Int))):=by
    simp only [aa,cm,if_true]
   unfold qN
   simp only [af,ai,al,j,decide_true,ah,ab,n,o,bN,k,e,aN,au (show i < 2 ^ 62 by omega)])
  (λx m=>by unfold qN;simp) s.length rounds 0 (.int .u32 4294967295) (by omega) (by rw [aO];omega) ⟨4294967295,by decide,rfl⟩
 have a:aa .xor (.int .u32 (c:Int)) (.int .u32 4294967295)=some (.int .u32 (aB.wrap ((a6 aB.bits (c:Int) ^^^ a6 aB.bits 4294967295).toNat:Int))):=by
  simp only [aa,cm,if_true]
 obtain ⟨d,p,e⟩:=Xw ((a6 aB.bits (c:Int) ^^^ a6 aB.bits 4294967295).toNat:Int)
 rw [e] at a
 refine ⟨d,p,?_⟩
 have l:iter rounds (qN (.int .i64 (s.length:Int)) (.lst (s.map eB))) [.int .u32 4294967295,.int .i64 0]=some (0,[.int .u32 (c:Int)]):=q
 unfold wx xP
 simp only [h0,hb,ab,aw,ao,l,aN,af,a,wL,du,bB]
theorem Oe {u:Nat} (h:u < 2 ^ 64): ∃l:Byt,l.length=8/\oW (.int .u64 (u:Int))=some [B l]:=by
 have g:jd 1 [.int .u8 0] (.int .i64 8) (.int .i64 8)=some (.lst ((a2 8 (0:UInt8)).map eB)):=rfl
 obtain ⟨y,⟨l,hl,rfl⟩,e⟩:=J3 (f:=mV (.lst ((a2 8 (0:UInt8)).map eB)) (.int .u64 (u:Int))) (λx=> ∃l:Byt,l.length=8/\x= .lst (l.map eB)) 8 (λi x hi j=>by
   obtain ⟨l,hl,rfl⟩:=j
   have d:((i:Int) < ((8:Nat):Int)):=by omega
   have hm:aa .mul (.int .i64 8) (.int .i64 (i:Int))=some (.int .i64 ((8*i:Nat):Int)):=by
    simp only [aa,cm,if_true]
    rw [wrap64 (by omega) (by omega)];congr 2
   have hs:=l7 (a:=u) (b:=8*i) (k:= .i64) (by omega)
   have hc:=Ru (u / 2 ^ (8*i)) (k:= .u64)
   have c:=EJ (enc:=eB) (l:=l) (i:=i) (x:=GS (u / 2 ^ (8*i) % 256)) (v:= .int .u8 ((u / 2 ^ (8*i) % 256:Nat):Int)) (by omega) (λ_=>rfl) (by simp [eB,p7 (Nat.mod_lt _ (show 0 < 256 by decide))])
   refine ⟨_,⟨l.set i (GS (u / 2 ^ (8*i) % 256)),by simp [hl],rfl⟩,?_⟩
   unfold mV
   simp only [af,ai,cr,ao,cv,al,d,decide_true,ah,ab,hm,hs,hc,hl,eb hi,c,au (show i < 2 ^ 62 by omega)])
  (λx j=>by
    obtain ⟨l,hl,rfl⟩:=j
    unfold mV
    simp only [af,ai,cr,ao,cv,al,Int.lt_irrefl,decide_false,ag,ab]) 8 rounds 0 (.lst ((a2 8 (0:UInt8)).map eB)) rfl (by rw [aO];decide) ⟨_,rfl,rfl⟩
 refine ⟨l,hl,?_⟩
 have m:iter rounds (mV (.lst ((a2 8 (0:UInt8)).map eB)) (.int .u64 (u:Int))) [.lst ((a2 8 (0:UInt8)).map eB),.int .i64 0]=some (0,[.lst (l.map eB)]):=e
 unfold oW
 rw [g,ab,m,ab,aN,af,oN];rfl
theorem GQ {s:Byt} (h:s.length < 999999): ∃t:Byt,t.length=4/\fT (B s)=some [B (s++t)]:=by
 obtain ⟨c,hc,d⟩:=Xa (s:=s) (by omega) h
 obtain ⟨l,hl,e⟩:=Oe (u:=c) (by omega)
 have f:fy (B l) none (some (.int .i64 4))=some (B (l.take 4)):=zY (i:=4) (by omega)
 refine ⟨l.take 4,by simp [hl],?_⟩
 unfold fT
 simp only [d,ab,af,fk (show c < 2 ^ 64 by omega),e,f,KB (a:=s) (b:=l.take 4) (by simp;omega)]
 rfl
open Classical in
 noncomputable def sum4 (s:Byt):Byt:=if h:s.length < 999999 then Classical.choose (GQ h) else [0,0,0,0]
theorem Tz (s:Byt):(sum4 s).length=4:=by
 unfold sum4;split
 ·rename_i h;exact (Classical.choose_spec (GQ h)).1
 ·rfl
theorem QG {s:Byt} (h:s.length < 999999):fT (B s)=some [B (s++sum4 s)]:=by
 unfold sum4;rw [dif_pos h];exact (Classical.choose_spec (GQ h)).2
def kT (c:Ck):Byt:=GS c.1::(bu c.2.length++c.2)
 noncomputable def oneL (c:Ck):Byt:=kT c++sum4 (kT c)
theorem F2 {c:Ck} (h:c.2.length<=900000):(kT c).length<=c.2.length+11:=by
 have:=bK (n:=c.2.length) (by omega)
 simp [kT];omega
theorem KU {c:Ck} (h:c.2.length<=900000):(oneL c).length<=c.2.length+15:=by
 have:=F2 h
 have:=Tz (kT c)
 simp [oneL];omega
theorem SV {c:Ck} (hk:c.1 < 256) (h:c.2.length<=900000):qT (.int .i64 (c.1:Int)) (B c.2)=some [B (oneL c)]:=by
 have hl:=bK (n:=c.2.length) (by omega)
 have hh:=F2 h
 have d:=Ru c.1 (k:= .i64)
 rw [Nat.mod_eq_of_lt hk] at d
 have f:lR (.lst [[.int .u8 (c.1:Int)]])=some (B [GS c.1]):=by
  have:=oN [GS c.1]
  simp only [bR,b3,eB,p7 hk] at this
  exact this
 have hs:=QG (s:=kT c) (by omega)
 have e:[GS c.1]++bu c.2.length++c.2=kT c:=by simp [kT]
 unfold qT
 simp only [d,f,ab,jx,fk (show c.2.length < 2 ^ 64 by omega),fB (show c.2.length < 2 ^ 64 by omega),af,KB (a:=[GS c.1]) (b:=bu c.2.length) (by simp;omega),KB (a:=[GS c.1]++bu c.2.length) (b:=c.2) (by simp;omega),e,hs]
 rfl
theorem adJ (a b:Byt):aa .eql (B a) (B b)=some (.bool (decide (a=b))):=by
 show some (IV.bool ((⟨a.toArray⟩:ByteArray).toList==(⟨b.toArray⟩:ByteArray).toList))=_
 rw [bA,bA]
 congr 2
 by_cases h:a=b<;>simp [h]
theorem aao (a b:Byt):aa .neq (B a) (B b)=some (.bool (!decide (a=b))):=by
 show some (IV.bool !((⟨a.toArray⟩:ByteArray).toList==(⟨b.toArray⟩:ByteArray).toList))=_
 rw [bA,bA]
 congr 2
 by_cases h:a=b<;>simp [h]
structure OkC (L:List Ck):Prop where
 len:L.length<=8
 kind: ∀i c,L[i]? =some c->c.1=i+1
 body: ∀c∈L,c.2.length<=900000
 noncomputable def fileL (L:List Ck):Byt:=[66,78,83,73,2]++L.flatMap oneL
theorem Vi {L:List Ck} (h:OkC L) (K:List Ck) (a: ∀c∈K,c∈L):(K.flatMap oneL).length<=900015*K.length:=
 kY λc hc=>by have:=h.body c (a c hc);have:=KU this;omega
theorem Om {L:List Ck} (h:OkC L):oU (.int .i64 2) (fG L)=some [B (fileL L),.int .i64 0]:=by
 have hl:=h.len
 have l:aa .lss (.int .i64 2) (.int .i64 0)=some (.bool false):=rfl
 have m:aa .gtr (.int .i64 2) (.int .i64 255)=some (.bool false):=rfl
 have n:r7 [[.nilp,.lst []],[.str ⟨#[66,78,83,73]⟩]]=some [.nilp,.lst (([66,78,83,73]:Byt).map eB),.int .i64 4,.nilf]:=rfl
 have o:bN .u8 (.int .i64 2)=some (.int .u8 2):=rfl
 have p:He [[.nilp,.lst (([66,78,83,73]:Byt).map eB)],[.int .u8 2]]=some [.nilp,.lst (([66,78,83,73,2]:Byt).map eB),.nilf]:=rfl
 unfold oU
 simp only [l,m,n,o,p,ab,ag,af,ai,aw,ao]
 rw [bc (λi=>[.nilp,.lst (([66,78,83,73,2]++(L.take i).flatMap oneL:Byt).map eB),.int .i64 (i:Int),.int .i64 (i:Int)]) L.length 0 [.nilp,.lst ((fileL L).map eB)] (by simp) (by omega) (λi hi=> ?_) (by
  unfold vI
  simp [fileL])]
 ·simp only [ab,aN,ai,oN];rfl
 ·have d:=ad hi
  generalize L[i]=c at d
  have hk:=h.kind i c d
  have hb:=h.body c (a1 d)
  obtain ⟨j,k,_,_⟩:=FQ d
  have g:((i:Int) < (L.length:Int)):=by omega
  have q: ¬((c.1:Int)<=(i:Int)):=by omega
  have r: ¬((255:Int) < (c.1:Int)):=by omega
  have s: ¬((1048576:Int) < (c.2.length:Int)):=by omega
  have e:=Vi h (L.take i) λc hc=>bO hc
  have t:=KU hb
  simp only [bs] at e
  have hw:=xZ (x:= .nilp) (a:=[66,78,83,73,2]++(L.take i).flatMap oneL) (b:=oneL c) (by simp only [a5,List.length_cons,List.length_nil];omega)
  have f:((i+1:Nat):Int)=(c.1:Int):=by omega
  unfold vI
  simp only [af,ai,ay,az,al,g,decide_true,ah,ab,j,k,eCk,jU,q,decide_false,ag,aQ,r,jx,s,SV (show c.1 < 256 by omega) hb,hw,au (show i < 2 ^ 62 by omega),qk d,a7,f]
theorem wb (t:Byt):dC (B ([66,78,83,73,2]++t))=some [.int .i64 2,.int .i64 0]:=by
 have e0:(IV.str ⟨#[66,78,83,73]⟩)=B [66,78,83,73]:=rfl
 have h1:(([66,78,83,73]:Byt).length:Int)<=((([66,78,83,73,2]:Byt)++t).length:Int):=by simp;omega
 have a:fy (B ([66,78,83,73,2]++t)) none (some (.int .i64 (([66,78,83,73]:Byt).length:Int)))=some (B [66,78,83,73]):=by
  have:=zY (l:=[66,78,83,73,2]++t) (i:=4) (k:= .i64) (by simp)
  exact this
 have c:fy (B ([66,78,83,73,2]++t)) (some (.int .i64 (([66,78,83,73]:Byt).length:Int))) none=some (B (2::t)):=by
  have:=zm (l:=[66,78,83,73,2]++t) (i:=4) (k:= .i64) (by simp)
  exact this
 have d:(IV.str ⟨#[]⟩)=B []:=rfl
 have e:GB (B (2::t)) (.int .i64 0)=some (.int .u8 2):=WA (i:=0) (b:=2) rfl
 have f:bN .i64 (.int .u8 2)=some (.int .i64 2):=rfl
 unfold dC iO ez eo
 simp only [e0,jx,ab,de,h1,decide_true,ah,a,adJ,af,dR,du,bB,aW,a8,ag,c,d]
 show (av [B (2::t),.bool true]).bind _=_
 have g:av [B (2::t),.bool true]=some [B (2::t),.bool true]:=rfl
 have h:decide ((2::t:Byt)=[])=false:=by simp
 simp only [g,ab,af,ai,aW,a8,ag,adJ,h,e,f]
 rfl
theorem Ll {c:Ck} {t:Byt} (hk:c.1 < 256) (h:c.2.length<=900000) (p:t.length < 2 ^ 30):m9 (B (oneL c++t))=some [.int .i64 (c.1:Int),B c.2,.int .i64 ((oneL c).length:Int),.int .i64 0]:=by
 have hl:=bK (n:=c.2.length) (by omega)
 have hh:=F2 h
 have a:=Tz (kT c)
 have m:=KU h
 have e0:oneL c++t=[GS c.1]++(bu c.2.length++(c.2++(sum4 (kT c)++t))):=by simp [oneL,kT]
 have T1:=FC [GS c.1] (bu c.2.length++(c.2++(sum4 (kT c)++t))) 1 rfl
 rw [<-e0] at T1
 have N:=xi (n:=c.2.length) (by omega) (c.2++(sum4 (kT c)++t))
 have T2:=FC c.2 (sum4 (kT c)++t) (c.2.length:Int) rfl
 have T3:=FC (sum4 (kT c)) t 4 (by rw [a];rfl)
 have j: ¬((1048576:Int) < (c.2.length:Int)):=by omega
 have e:aa .sub (.int .i64 ((oneL c++t).length:Int)) (.int .i64 (t.length:Int))=some (.int .i64 ((oneL c).length:Int)):=by
  rw [qD (by simp) (by simp;omega)];congr 2;simp
 have f:aa .sub (.int .i64 ((oneL c).length:Int)) (.int .i64 4)=some (.int .i64 ((kT c).length:Int)):=by
  have:(oneL c).length=(kT c).length+4:=by simp [oneL,a]
  rw [pC (by omega) (by omega)];congr 2;omega
 have q1:fy (B (oneL c++t)) none (some (.int .i64 ((kT c).length:Int)))=some (B (kT c)):=by
  rw [zY (by simp [oneL])]
  unfold oneL;rw [a7,eg]
 have o:fy (B (oneL c++t)) none (some (.int .i64 ((oneL c).length:Int)))=some (B (oneL c)):=by
  rw [zY (by simp),eg]
 have g:=QG (s:=kT c) (by omega)
 have hi:GB (B [GS c.1]) (.int .i64 0)=some (.int .u8 (c.1:Int)):=by
  have:=WA (l:=[GS c.1]) (i:=0) (b:=GS c.1) (k:= .i64) rfl
  rw [p7 hk] at this;exact this
 unfold m9
 simp only [lU,ab,af,ai,T1,N,yn,ur,ag,drop2,aQ,j,decide_false,kI (show c.2.length < 2 ^ 63 by omega),T2,T3,jx,qv,e,f,q1,g,o]
 have d:aa .neq (B (kT c++sum4 (kT c))) (B (oneL c))=some (.bool false):=by
  rw [aao];simp [oneL]
 simp only [d,ab,ag,hi,kI (show c.1 < 2 ^ 63 by omega)]
 rfl
theorem MW {L:List Ck} (h:OkC L):kx (B (fileL L))=some [.int .i64 2,fG L,.int .i64 0]:=by
 have hl:=h.len
 have m:fy (B (fileL L)) (some (.int .i64 5)) none=some (B (L.flatMap oneL)):=by
  have:=zm (l:=fileL L) (i:=5) (k:= .i64) (by simp [fileL])
  exact this
 unfold kx
 rw [show dC (B (fileL L))=_ from wb (L.flatMap oneL)]
 simp only [ab,af,ai,ur,ag,m]
 have j:(IV.str ⟨#[]⟩)=B []:=rfl
 rw [bc (λi=>[B ((L.drop i).flatMap oneL),fG (L.take i),.int .i64 (i:Int)]) L.length 0 [fG L] (by simp) (by omega) (λi hi=> ?_) (by
  unfold tW
  simp [j,aao])]
 ·rfl
 ·have a:=ad hi
  generalize L[i]=c at a
  have hk:=h.kind i c a
  have hb:=h.body c (a1 a)
  have p:=sM (f:=oneL) a
  have d:=Vi h (L.drop (i+1)) λc hc=>List.mem_of_mem_drop hc
  simp only [List.length_drop] at d
  have o:=Ll (c:=c) (t:=(L.drop (i+1)).flatMap oneL) (by omega) hb (by omega)
  have g:decide (oneL c++(L.drop (i+1)).flatMap oneL=[])=false:=by simp [oneL,kT]
  have n:((i:Int) < (c.1:Int)):=by omega
  have b:b8 2 24 (fG (L.take i)) (.lst [[.int .i64 (c.1:Int),B c.2]])=some (fG (L.take i++[c])):=by
   simp only [b8]
   rw [if_pos ⟨by simp;omega,by simp⟩]
   simp [eCk]
  have e:((i+1:Nat):Int)=(c.1:Int):=by omega
  unfold tW
  simp only [af,ai,ay,p,j,aao,g,ds,ab,ah,o,az,ur,ag,aQ,n,decide_true,wV (oneL c).length rfl,b,bt a,e]
end Go.AM
namespace Go.AM
def sO (r:Rep):List Ck:=[(1,bu r.fc.toNat++bu r.fr.toNat),(2,rowsL r.base),(3,F4 r.mks)]
structure OkRep (r:Rep):Prop where
 may:MayF r
 ok:OKF r
theorem OkRep.base {r:Rep} (h:OkRep r):OkBase r.base:=⟨h.may.tree,h.ok.base⟩
theorem OkRep.log {r:Rep} (h:OkRep r):OkLog r.log:=⟨h.may.moves,h.ok.log⟩
theorem OkRep.sm {r:Rep} (h:OkRep r):SmF 2000 r:=⟨h.base.len,h.log.len,by have:=h.may.marks.len;omega⟩
theorem OkRep.floor {r:Rep} (h:OkRep r):0<=r.fc/\r.fc<=4611686018427387903/\0<=r.fr/\r.fr<=255:=by
 rcases h.may.floor with ⟨h1,h2⟩ | hk
 ·omega
 ·unfold knownB at hk
  simp only [cc] at hk
  have:=P7.1 hk.1
  omega
theorem KL {r:Rep} (h:OkRep r):nh (cQ r.base) (.int .i64 r.fc) (.int .i64 r.fr) (aZ r.log) (aL r.mks)=some [fG (sO r),.int .i64 0]:=by
 obtain ⟨c,g,d,i⟩:=h.floor
 have hb:=h.base.len
 have hm:=h.may.marks.len
 have b:=Ah (l:=r.base) (by omega) h.ok.base
 rw [h.may.tree] at b
 have a:=xK (v:=r.mks) (by omega)
 rw [FR.2 h.may.marks] at a
 have e: ¬(r.fc < 0):=by omega
 have f: ¬(r.fr < 0):=by omega
 have c1:=ve (n:=r.fc.toNat) (by omega)
 have c2:=ve (n:=r.fr.toNat) (by omega)
 rw [bf c] at c1
 rw [bf d] at c2
 have j:=bK (n:=r.fc.toNat) (by omega)
 have k:=bK (n:=r.fr.toNat) (by omega)
 have hp:=put_eq (C:=jf) [(.ifc 266 false (.int .i64 r.fc),bu r.fc.toNat),(.ifc 266 false (.int .i64 r.fr),bu r.fr.toNat)] (by simp)
  (λp hp=>by
    simp only [bd,bm,or_false] at hp
    rcases hp with rfl | rfl
    ·exact c1
    ·exact c2)
  (λp hp=>by
    simp only [bd,bm,or_false] at hp
    rcases hp with rfl | rfl<;>simp only<;>omega)
 simp only [bR,b3,b7,cd,cl] at hp
 unfold nh
 rw [b]
 simp only [ab,af,aW,a8,ag,a,al,e,f,decide_false,hp,Jn h.base,F6 h.may.marks]
 rfl
theorem Zp {a b:List Ck} (p:a.length<=100) (hb:b.length<=100):dM (.lst [[fG a],[fG b]])=some [fG (a++b)]:=by
 have o:(IV.lst [[fG a],[fG b]])= .lst ([a,b].map λl=>[fG l]):=rfl
 have d: ∀(i:Nat) (l:List Ck),[a,b][i]? =some l->aE (.lst ([a,b].map λl=>[fG l])) (.int .i64 (i:Int)) 1=some i/\cV (.lst ([a,b].map λl=>[fG l])) i 0=some (fG l):= λi l h=>
  ⟨ea (enc:= λl=>[fG l]) h rfl Nat.one_pos,by rw [bX (enc:= λl=>[fG l]) h];rfl⟩
 rw [o]
 generalize q:(IV.lst ([a,b].map λl=>[fG l]))=X at d
 have hlen:aD X=some (.int .i64 2):=by rw [<-q];rfl
 unfold dM
 simp only [hlen,ab]
 rw [bc (λi=>[.int .i64 ((([a,b].take i).map cb).sum:Nat),.int .i64 (i:Int)]) 2 0 [.int .i64 ((a.length+b.length:Nat):Int)] (by simp) (by decide) (λi hi=> ?_) (by
  unfold jE
  simp)]
 ·have r:UL 2 24 (.int .i64 ((a.length+b.length:Nat):Int))=some []:=by
   simp only [UL]
   rw [if_pos ⟨by omega,by simp only [Int.toNat_natCast];omega,by decide⟩]
  simp only [ab,aN,af,r]
  rw [bc (λi=>[fG ([a,b].take i).flatten,.int .i64 (i:Int)]) 2 0 [fG (a++b)] (by simp) (by decide) (λi hi=> ?_) (by
   unfold jk
   simp)]
  ·rfl
  ·have c:=ad (show i < [a,b].length from hi)
   generalize [a,b][i]'(show i < [a,b].length from hi)=l at c
   obtain ⟨j,k⟩:=d i l c
   have e:((i:Int) < 2):=by omega
   have hl:l.length<=100:=by
    rcases bd.1 (a1 c) with rfl | h
    ·exact p
    ·simp at h;subst h;exact hb
   have hf:([a,b].take i).flatten.length<=200:=by
    rcases i with _ | _ | i
    ·simp
    ·simp;omega
    ·omega
   have m:b8 2 24 (fG ([a,b].take i).flatten) (fG l)=some (fG (([a,b].take (i+1)).flatten)):=by
    rw [bt c]
    simp only [b8]
    rw [if_pos ⟨by simp only [ao];omega,by simp [eCk]⟩]
    simp
   unfold jk
   simp only [af,ai,al,e,decide_true,ah,ab,j,k,m,au (show i < 2 ^ 62 by omega)]
 ·have c:=ad (show i < [a,b].length from hi)
  generalize [a,b][i]'(show i < [a,b].length from hi)=l at c
  obtain ⟨j,k⟩:=d i l c
  have e:((i:Int) < 2):=by omega
  have hl:l.length<=100:=by
   rcases bd.1 (a1 c) with rfl | h
   ·exact p
   ·simp at h;subst h;exact hb
  have g:(([a,b].take (i+1)).map cb).sum=(([a,b].take i).map cb).sum+l.length:=by rw [bt c];simp
  have hle:(([a,b].take i).map cb).sum<=200:=by
   rcases i with _ | _ | i
   ·simp
   ·simp;omega
   ·omega
  generalize (([a,b].take i).map cb).sum=s at*
  have f:aa .add (.int .i64 (s:Int)) (.int .i64 (l.length:Int))=some (.int .i64 ((s+l.length:Nat):Int)):=wk (by omega)
  have n: ¬(((s+l.length:Nat):Int) < 0):=by omega
  rw [g]
  unfold jE
  simp only [af,ai,al,e,decide_true,ah,ab,j,k,aw,ao,f,n,decide_false,ag,au (show i < 2 ^ 62 by omega)]
def S8 (r:Rep):List Ck:=sO r++xI r.log
 noncomputable def fileR (r:Rep):Byt:=fileL (S8 r)
theorem OkRep.chunks {r:Rep} (h:OkRep r):OkC (S8 r):=by
 obtain ⟨f,g,j,k⟩:=h.floor
 have m:=bK (n:=r.fc.toNat) (by omega)
 have o:=bK (n:=r.fr.toNat) (by omega)
 obtain ⟨_,_,_,_,_,_,_,A,x,y,z,q⟩:=Mi h.base
 have hm:=XI h.may.marks
 have hl:=h.log.len
 obtain ⟨a,b,d,e⟩:=Wm h.log
 have p:=bK (n:=r.log.length) (by omega)
 have t:=Hd (l:=ns r.log) (by simp [ns];omega) h.log.short
 have u:=M0 (l:=ks r.log) (by simp [ks];omega)
 have v:=dw (s:=deltaL (cs r.log)) (by omega)
 have w:=dw (s:=deltaL (ps r.log)) (by omega)
 have hr:(rowsL r.base).length<=900000:=by simp only [rowsL,a5];omega
 refine ⟨Nat.le_refl 8,λi c hc=> ?_,λc hc=> ?_⟩
 ·match i,hc with
  | 0,hc=>cases hc;rfl
  | 1,hc=>cases hc;rfl
  | 2,hc=>cases hc;rfl
  | 3,hc=>cases hc;rfl
  | 4,hc=>cases hc;rfl
  | 5,hc=>cases hc;rfl
  | 6,hc=>cases hc;rfl
  | 7,hc=>cases hc;rfl
  | i+8,hc=>rw [List.getElem?_eq_none (show (S8 r).length<=i+8 by show 8<=i+8;omega)] at hc;cases hc
 ·simp only [S8,sO,xI,List.mem_append,bd,bm,or_false] at hc
  rcases hc with (rfl | rfl | rfl) | (rfl | rfl | rfl | rfl | rfl)
  all_goals simp only [a5]
  all_goals omega
theorem OV {r:Rep} (h:OkRep r):mz (cQ r.base) (.int .i64 r.fc) (.int .i64 r.fr) (aZ r.log) (aL r.mks)=some [B (fileR r),.int .i64 0]:=by
 have d:=sg h.sm h.ok
 rw [o7.2 h.may] at d
 have c:=Zp (a:=sO r) (b:=xI r.log) (show 3<=100 by decide) (show 5<=100 by decide)
 have e:=Om h.chunks
 unfold mz pa
 simp only [d,ab,af,ai,aW,a8,ag,KL h,ur,JA h.log,c]
 rw [show sO r++xI r.log=S8 r from rfl,e]
 rfl
theorem K2 {r:Rep} (h:OkRep r):nu (fG (sO r))=some [cQ r.base,.int .i64 r.fc,.int .i64 r.fr,.lst [],aL r.mks,.int .i64 0]:=by
 obtain ⟨e,x,f,y⟩:=h.floor
 obtain ⟨s,_,b0,q⟩:=FQ (l:=sO r) (i:=0) rfl
 obtain ⟨t,_,p,c1⟩:=FQ (l:=sO r) (i:=1) rfl
 obtain ⟨u,_,b2,c2⟩:=FQ (l:=sO r) (i:=2) rfl
 have b:aE (fG (sO r)) (.int .i64 0) 2=some 0:=s
 have c:aE (fG (sO r)) (.int .i64 1) 2=some 1:=t
 have d:aE (fG (sO r)) (.int .i64 2) 2=some 2:=u
 have hlen:aa .neq (.int .i64 ((sO r).length:Int)) (.int .i64 3)=some (.bool false):=rfl
 have t1:aa .neq (.int .i64 ((1:Nat):Int)) (.int .i64 1)=some (.bool false):=rfl
 have v:aa .neq (.int .i64 ((2:Nat):Int)) (.int .i64 2)=some (.bool false):=rfl
 have w:aa .neq (.int .i64 ((3:Nat):Int)) (.int .i64 3)=some (.bool false):=rfl
 have m:=xi (n:=r.fc.toNat) (by omega) (bu r.fr.toNat)
 have o:=LR (n:=r.fr.toNat) (by omega) (bu r.fr.toNat) [] (by simp)
 have g: ¬((9223372036854775807:Int) < (r.fc.toNat:Int)):=by omega
 have j: ¬((9223372036854775807:Int) < (r.fr.toNat:Int)):=by omega
 have i1:=kI (a:=r.fc.toNat) (k:= .u64) (by omega)
 have i2:=kI (a:=r.fr.toNat) (k:= .u64) (by omega)
 rw [bf e] at g i1
 rw [bf f] at j i2
 unfold nu
 simp only [aw,ao,hlen,ab,ag,b,c,d,b0,p,b2,q,c1,c2,t1,v,w,af,ai,lU,m,o,J5,drop2,ur,aQ,g,j,decide_false,GA h.base,Ei h.may.marks,i1,i2,bf e,bf f]
theorem aaa (a b:List Ck):fQ 2 (fG (a++b)) none (some (.int .i64 (a.length:Int)))=some (fG a)/\fQ 2 (fG (a++b)) (some (.int .i64 (a.length:Int))) none=some (fG b):=by
 have h1:((a++b).map eCk).all (λe=>e.length==2)=true:=by simp [eCk]
 have h2:((a++b).map eCk).length=a.length+b.length:=by simp
 constructor
 ·simp only [fQ]
  rw [if_pos h1,h2,LY (by omega)]
  simp [<-ca]
 ·simp only [fQ]
  rw [if_pos h1,h2,wD (by omega)]
  simp [ck]
theorem NC {r:Rep} (h:OkRep r):mB (B (fileR r))=some (YM r [.int .i64 0]):=by
 have j:=sg h.sm h.ok
 rw [o7.2 h.may] at j
 have p:=wb ((S8 r).flatMap oneL)
 have o:=MW h.chunks
 obtain ⟨q,s⟩:=aaa (sO r) (xI r.log)
 have g:fQ 2 (fG (S8 r)) none (some (.int .i64 3))=some (fG (sO r)):=q
 have i:fQ 2 (fG (S8 r)) (some (.int .i64 3)) none=some (fG (xI r.log)):=s
 have k:aa .eql (.int .i64 0) (.int .i64 0)=some (.bool true):=rfl
 have l:aa .neq (.int .i64 2) (.int .i64 2)=some (.bool false):=rfl
 have m:aD (fG (S8 r))=some (.int .i64 8):=rfl
 have n:aa .neq (.int .i64 8) (.int .i64 8)=some (.bool false):=rfl
 have t: ∀a b c d e f:IV,nth [a,b,c,d,e,f] 5=f:= λ_ _ _ _ _ _=>rfl
 unfold mB
 rw [show dC (B (fileR r))=_ from p,show kx (B (fileR r))=_ from o]
 simp only [ab,af,ai,ay,az,bG,bE,k,l,m,n,ur,ah,ag,g,i,K2 h,Jf h.log,j,aW,a8]
 rfl
end Go.AM
