/- Contracts by hand: a copy of a slice. -/
import Derived.Test.YtgoenohknokcmaaGreatAc
import Derived.Lib.Overlaps
import Derived.ProofKit
import Derived.Deep.Slices
import Derived.OpenShut
open List renaming getElem?_append_left->bB,getElem?_append_right->bO,getElem?_eq_some_iff->b7,size_toArray->c4,getElem?_take_of_lt->et,getElem?_toArray->eZ,getElem?_eq_getElem->e6,getD_eq_getElem?_getD->e9,length_eq_zero_iff->gf,length_append->gw,getElem?_drop->g0,append_assoc->g8,mem_of_getElem?->hB,all_eq_true->hE,mem_of_mem_take->hI,mem_of_mem_drop->hJ,getElem?_replicate->hN,replicate->hO,mem_append->hQ,getElem?_map->hS,mapM_cons->hU,length_drop->hW,getElem?_cons_zero->hZ,getElem?_cons_succ->h5,append_nil->h9,mem_append_right->ia,getElem?_eq_none->ib,mem_append_left->ic,range->jA,map_cons->j0,map_toArray->j2,length_take->kd,nil_append->ke,take_append_drop->kh,map_nil->la,getElem_mem->l0,drop_drop->l4,mem_map->m3
open Option renaming bind_eq_some_iff->bR,bind_assoc->fv,map_eq_some_iff->g7
open Array renaming getElem?_eq_some_iff->b6,getElem?_toList->fl,getElem?_append->hG,mapM_eq_mapM_toList->hH,getElem?_replicate->hK,replicate->h8,length_toList->ie,getD_eq_getD_getElem?->iH,toList_inj->j3
open Go.Result renaming andThen_ok->ch,andThen->ki
open Go renaming Value->c5,World->c7,Program->ek,FuncId->eW,TypeId->fc,Oper->kk,Calls->lv,MemPlace->l1,Func->mb,TypeInfo->mv,Code->mx,FloatKind->m2,Addr->nd
open Go.Sem renaming run_bind->c6,run_pure->hd,run->nm
open Nat renaming mul_le_mul_right->eg,le_refl->hq,zero_add->hD,add_mul->hM,le_trans->hP,eq_zero_or_pos->hY,zero_le->iz,le_mul_of_pos_right->j1,sub_mul->km,min_def->kq,add_assoc->k0,lt_of_lt_of_le->k3,zero_mul->lo,min_eq_left->l2,add_zero->m1,mul_pos->nn
open Go.Value renaming ownBlock->fH,okWide->jb,cells->kt
open Go.Builtin renaming append_->ha,copy_->hR,zeroCells->jm,lenOf->kv
open Bool renaming and_eq_true->hF,false_eq_true->h6,not_eq_false->k5,not_false->l3,not_true->l5
open Go.Extern.SlicesOverlaps renaming overlaps->hL
open Option.some renaming injEq->hT
open Go.DataW renaming trodStep->hV,TrodAll->k4,trod->k6
open Go.Calls renaming mono->hX
set_option linter.unusedVariables false
set_option linter.unusedSimpArgs false
namespace Go.AM
open Go.RowKit
theorem wpList_append_run {P:ek} (w:c7) {ops:Array kk} {rest:List kk} {o:kk} {a:Act} {Q:Exit->Act->c7->Prop} (b:o.guard=none) (d s:Operand) (t t':fc)
  (f:o.op= .call { callee:= .builtin .append,args:= #[d,s],argTypes:= #[t,t'] }) (v u:c5) (e:a.eval d=v) (hs:a.eval s=u) {v':c5} {w':c7}
  (hr:(ha #[t,t'] o.type #[v,u]).run P w= .ok v' w') (h:wpList P ops Q rest (a.put o.dst v') w'):wpList P ops Q (o::rest) a w:=
 wpList_plain b λK c=>by
  unfold Oper.wp execOp
  simp only [f,resolve,invoke,builtin,c6,hd,ch,j2,j0,la,e,hs,hr]
  exact c _ _ h
theorem Su {w:c7} {ok:Nat->Prop} (hok: ∀b,ok b->b < w.heap.size) {es:List (List IV)} {v:c5} (r:RV w ok (.lst es) v) {sz:Nat} (c:0 < sz) (a: ∀e∈es,e.length=sz):
  ∃A cap vs,v= .slice A es.length cap/\Rows w ok es sz vs/\(0 < es.length-> ∃ad,A=some ad/\ ∀q u,vs[q]? =some u->w.cell? (ad.add q)=some u):=
 uX (mu:= λ_=>none) (h:=[]) ⟨hok,λo pl d=>(by cases d),λo pl b base d=>(by cases d)⟩ (p:= .imm (.lst es)) (.imm r) rfl c a
theorem IL {sz bytes:Nat} {x:IV} {r:List IV} (h:uY sz bytes x=some r): ∃es,x= .lst es/\r=[.lst es]/\es.length*(bytes+1)<=2 ^ 40/\(∀e∈es,e.length=sz)/\ ∀e∈es,∀x∈e,x.scalar=true:=by
 unfold uY at h
 split at h
 ·rename_i es
  split at h
  ·rename_i hc
   cases h
   have h2:=hE.1 hc.2
   simp only [hF,beq_iff_eq,hE] at h2
   exact ⟨es,rfl,rfl,hc.1,λe he=>(h2 e he).1,λe he=>(h2 e he).2⟩
  ·cases h
 ·cases h
theorem xW {P:ek} {g:eW} {t e:fc} {sz bytes:Nat} (h0:P.underlying t=some (.slice e)) (E:qL P e=true) (hsz:P.cellsOf e=sz) (K:P.bytesOf e=bytes)
  (F: ∀(w:c7) (n c:Nat),lv P g #[.slice none n c] w λe w'=>e= .returned (.slice none 0 0)/\w'=w)
  (k: ∀(w:c7) (ad:nd) (n c:Nat) (v':c5) (w':c7),(ha #[t,t] t #[.slice (some ⟨w.heap.size,0,none⟩) 0 0,.slice (some ad) n c]).run P (w.alloc (.cells #[] e))= .ok v' w'->lv P g #[.slice (some ad) n c] w λe w''=>e= .returned v'/\w''=w'):
  ay P g ⟨.own,false,[1],sz,λl=>match l with | [[U]]=>uY sz bytes U | _=>none⟩:=by
 have z:0 < sz:=by
  obtain ⟨_,_,_,_,_,h,_⟩:=mq E
  rw [<-hsz];exact h
 unfold ay
 simp only
 intro w ok as args r hok C hr
 split at hr
 ·rename_i x
  obtain ⟨es,rfl,rfl,hb,s,_⟩:=IL hr
  obtain ⟨hl,hrel⟩:=C
  match args,hl with
  | [v],_=>
    have hv:RV w ok (.lst es) v:=by
     rcases hrel 0 _ v rfl rfl with ⟨y,S,h1⟩ | ⟨h1,_⟩
     ·cases S;exact h1
     ·simp at h1
    obtain ⟨A,cap,vs,rfl,d,hmem⟩:=Su hok hv z s
    have empty:es.length=0-> ∀(w':c7) (A':Option nd),OwnVal w' ok sz (nth [.lst es] 0) (.slice A' 0 0) ⟨none,0,sz⟩:= λh w' A'=>by
     have:es=[]:=gf.1 h
     subst this
     exact ⟨.inl ⟨by assumption,rfl,[],rfl,rfl,by simp,λ_=>rfl,λb base hb=>by cases hb⟩,⟨A',0,rfl,⟨hq _,.inl ⟨rfl,rfl⟩⟩,λb base hb=>by cases hb⟩⟩
    cases A with
    | none=>
      have h1:es.length=0:=by
       rcases hY es.length with h | h
       ·exact h
       ·obtain ⟨ad,h2,_⟩:=hmem h;cases h2
      refine hX (F w es.length cap) λN w' he=> ?_
      obtain ⟨rfl,rfl⟩:=he
      exact ⟨_,_,rfl,.refl _ _,empty h1 _ _,λb base hb=>by cases hb⟩
    | some ad=>
      have o:(w.alloc (.cells #[] e)).heap.size=w.heap.size+1:=by simp [World.alloc,-World.alloc_eq]
      have L: ∀a:nd,ok a.block->(w.alloc (.cells #[] e)).cell? a=w.cell? a:= λa T=>by
       refine fC ?_
       have:=hok _ T
       simp [World.alloc,-World.alloc_eq,Array.getElem?_push]
       intro h;omega
      have i:Below w.heap.size w (w.alloc (.cells #[] e)):=(Below.refl _ w).alloc (hq _) _
      rcases hY es.length with h1 | h1
      ·have R:vs=[]:=gf.1 (by rw [d.1,h1];simp)
       have G:=zT (P:=P) (w:=w.alloc (.cells #[] e)) (ats:= #[t,t]) (ty:=t) rfl h0 h0 (by rw [hsz];exact z) (A:=some ⟨w.heap.size,0,none⟩) (A':=some ad) (n:=0) (cap:=0) (cap':=cap) (hq _)
       refine hX (k w ad es.length cap _ _ (by rw [h1];exact G)) λN w' he=> ?_
       obtain ⟨rfl,rfl⟩:=he
       exact ⟨_,_,rfl,i,empty h1 _ _,λb base hb=>by cases hb⟩
      ·obtain ⟨p,rest,O,I,Q⟩:=pj (P:=P) (w:=w.alloc (.cells #[] e)) (ats:= #[t,t]) (ty:=t) rfl h0 h0 E (A:=some ⟨w.heap.size,0,none⟩) (A':=some ad) (n:=0) (cap:=0) (m:=es.length) (cap':=cap) (us:=[]) (vs:=vs) (by simp) (λh=>by omega) (by rw [hsz];exact d.1)
        (λh=>by
          obtain ⟨b,J,D⟩:=hmem h
          cases J
          refine ⟨ad,rfl,λq u H=> ?_⟩
          rw [fC (w:=w)]
          ·exact D q u H
          ·have M:ad.block < w.heap.size:=by
            have:=D q u H
            unfold World.cell? at this
            rw [mZ] at this
            cases hx:w.heap[ad.block]? with
            | none=>rw [hx] at this;cases this
            | some _=>exact (b6.1 hx).1
           rw [mZ]
           exact Below.heap_alloc w _ _ M) (by omega) (by rw [K];simpa using hb)
       simp only [hD,ke] at O I Q
       refine hX (k w ad es.length cap _ _ Q) λN w' he=> ?_
       obtain ⟨rfl,rfl⟩:=he
       have f:((w.alloc (.cells #[] e)).drew.alloc (.cells (vs++rest).toArray e)).heap[(w.alloc (.cells #[] e)).heap.size]? =some (.cells (vs++rest).toArray e (0,0)):=gq (w.alloc (.cells #[] e)).drew _
       have j:Below w.heap.size w ((w.alloc (.cells #[] e)).drew.alloc (.cells (vs++rest).toArray e)):=(i.drew).alloc (hP i.size (hq _)) _
       have hk:Keeps w ok ((w.alloc (.cells #[] e)).drew.alloc (.cells (vs++rest).toArray e)) ok:=⟨λb hb=>j.block b (hok b hb),λ_ h=>h⟩
       refine ⟨_,⟨some ((w.alloc (.cells #[] e)).heap.size,0),es.length,sz⟩,rfl,j,⟨?_,⟨_,p,rfl,⟨O,.inr ⟨_,0,rfl,by simp⟩⟩,λb base hb=> ?_⟩⟩,λb base hb=> ?_⟩
       ·refine ub (vs:=vs) f s (d.later hk) (λq H=> ?_) ?_
        ·simp only [hD,eZ]
         rw [bB H]
        ·simp [d.1]
       ·cases hb
        refine ⟨_,_,_,f,?_⟩
        rw [hsz] at I
        simp only [c4,gw,d.1,I,hD]
        rw [<-hM]
        exact eg _ (by omega)
       ·cases hb
        refine ⟨by rw [o];omega,?_⟩
        exact (b6.1 f).1
 ·cases hr
theorem OwnVal.still {w:c7} {ok:Nat->Prop} {esz:Nat} {es:List (List IV)} {v:c5} {pl:Pl} (r:OwnVal w ok esz (.lst es) v pl) (hs: ∀e∈es,∀x∈e,x.scalar=true):OwnVal w (λ_=>False) esz (.lst es) v pl:=by
 refine ⟨?_,r.hdr⟩
 obtain ⟨A,cap,_,_,hc⟩:=r.hdr
 have a:=r.ob.posC hc
 obtain ⟨q1,g,h,k,l,m,n⟩:=r.arr
 cases h
 refine .inl ⟨a,q1,es,rfl,k,l,m,λb base hb=> ?_⟩
 obtain ⟨f,T,o,p,q⟩:=n b base hb
 refine ⟨f,T,o,p,λi j e x he hx=> ?_⟩
 obtain ⟨u,c,d⟩:=q i j e x he hx
 exact ⟨u,c,d.scalar (hs e (hB he) x (hB hx))⟩
theorem xR {P:ek} {g:eW} {c:Bool} {ns:List Nat} {sz bytes:Nat} (h:ay P g ⟨.own,c,ns,sz,λl=>match l with | [[b]]=>uY sz bytes b | _=>none⟩):ay P g ⟨.fresh,c,ns,sz,λl=>match l with | [[b]]=>uY sz bytes b | _=>none⟩:=
 λw ok as args r hok a hr=>(h w ok as args r hok a hr).mono λe w' he=>by
  obtain ⟨v,pl,h1,h2,d,f⟩:=he
  simp only at hr
  split at hr
  ·obtain ⟨es,_,rfl,_,_,hs⟩:=IL hr
   exact ⟨v,pl,h1,h2,d.still hs,f⟩
  ·cases hr
end Go.AM
namespace Go.AM
open Go.RowKit
theorem SY {P:ek} (w:c7) (o v e:fc) (ht:P.underlying o=some (.slice e)) (size:Nat) (hz: ∀w,(Go.sizeOf e).run P w= .ok size w) (a:nd) (b off r s lb cb:Nat) (d:a.block≠b) {c':Array c5} {p:fc} {t:Nat×Nat} (u:w.heap[a.block]? =some (.cells c' p t))
  {c:Array c5} {T:fc} (hb:w.heap[b]? =some (.cells c T (0,0))) (hc:c.size≠0) (j:c'.size≠0):
  (hL #[o,o] #[v] #[.slice (some a) r s,.slice (some ⟨b,off,none⟩) lb cb]).run P w= .ok (.bool false) w:=by
 have l:(a.block !=b)=true:=by simpa using d
 have h:(a.block==b)=false:=by simpa using d
 have m:w.shape? a.block=some (p,c'.size):=by unfold World.shape?;rw [u]
 have n:w.shape? b=some (T,c.size):=by unfold World.shape?;rw [hb]
 have q: ∀x,w.frozen? ⟨b,x,none⟩=false:= λx=>by unfold World.frozen?;simp [hb]
 have i: ∀{α β:Type} (x:α) (f:α->Sem β),(pure x:Sem α).bind f=f x:= λ_ _=>rfl
 by_cases h0:r=0\/lb=0\/size=0
 ·conv=>lhs;arg 2;whnf
  simp [nm,Sem.bind,ht,i]
  simp [hz,h0,ki]
 ·conv=>lhs;arg 2;whnf
  cases hk:c.size with
  | zero=>exact absurd hk hc
  | succ k=>
   cases g:c'.size with
   | zero=>exact absurd g j
   | succ k'=>
    rw [hk] at n
    rw [g] at m
    simp [nm,Sem.bind,ht,i]
    simp [nm,hz,h0,d,l,h,frozen,noView,viewAt,mayBeOne,stringish,shape,m,n,q,ki]
    cases w.frozen? a<;>cases w.frozen? { block:=a.block,off:=k'+1 }<;>simp [m,n,q,nm]
end Go.AM
namespace Go.AM
open Go.RowKit
theorem FU {P:ek} {w:c7} {t t' ty e:fc} (hu:P.underlying t=some (.slice e)) (a:0 < P.cellsOf e) {b o dLen dCap sLen sCap:Nat} {A:Option nd} {us:List c5} {n:Nat} (hn:n=Nat.min sLen dLen) (k:us.length=n*P.cellsOf e)
  (j:0 < n-> ∃ad,A=some ad/\ ∀q u,us[q]? =some u->w.cell? (ad.add q)=some u) (h1: ∀v∈us,v.oneCell'=true) {c:Array c5} {T:fc} (hw:w.heap[b]? =some (.cells c T (0,0))) (f:o+us.length<=c.size):
  (hR #[t,t'] ty #[.slice (some ⟨b,o,none⟩) dLen dCap,.slice A sLen sCap]).run P w= .ok (goInt n) (w.setRow b (c.toList.take o++us++c.toList.drop (o+us.length)).toArray):=by
 obtain ⟨i,hi⟩:=Option.isSome_iff_exists.1 (kn a)
 have l:(Builtin.firstCells (P.cellsOf e) n (.slice A sLen sCap)).run P w= .ok us.toArray w:=by
  have h:=dZ (P:=P) (w:=w) (cap:=sCap) k j
  cases A<;>exact h
 have g:=run_storeCells_at (P:=P) b o T us 0 c w hw (by omega) h1
 simp only [hR,run_underlying hu,kv,run_sizeOf w hi,c6,ch,hd,<-hn,l,eZ,hZ,h5]
 have d:(storeCells ⟨b,o,none⟩ us).run P w= .ok () (w.setRow b (c.toList.take o++us++c.toList.drop (o+us.length)).toArray):=by simpa using g
 rw [d]
 rfl
end Go.AM
namespace Go.AM
open Go.RowKit
def cR (l:List c5) (o:Nat) (us:List c5):List c5:=l.take o++us++l.drop (o+us.length)
theorem fF {l:List c5} {o:Nat} {us:List c5} (h:o+us.length<=l.length):(cR l o us).length=l.length:=by
 simp [cR];omega
theorem GG {l:List c5} {o:Nat} {us:List c5} (h:o+us.length<=l.length) {q:Nat} (a:q < us.length):(cR l o us)[o+q]? =us[q]? :=by
 unfold cR
 have:(l.take o).length=o:=by simp;omega
 rw [g8,bO (by omega),this,bB (by omega)]
 congr 1;omega
theorem DP {l:List c5} {o:Nat} {us:List c5} (h:o+us.length<=l.length) {q:Nat} (a:q < o\/o+us.length<=q):(cR l o us)[q]? =l[q]? :=by
 unfold cR
 have ht:(l.take o).length=o:=by simp;omega
 rcases a with a | a
 ·rw [g8,bB (by omega),et a]
 ·rw [g8,bO (by omega),ht,bO (by omega),g0]
  congr 1;omega
theorem RH {sz bytes:Nat} {x i y:IV} {r:List IV} (h:tm sz bytes x i y=some r): ∃es k ys,x= .lst es/\i= .int .i64 ((k:Nat):Int)/\k<=es.length/\y= .lst ys/\r=[.lst (es.take k++ys++es.drop k)]/\(es.length+ys.length)*(bytes+1)<=2 ^ 32/\ ∀e∈ys,e.length=sz:=by
 unfold tm at h
 split at h
 ·rename_i es i ys
  split at h
  ·rename_i hc
   cases h
   obtain ⟨h0,h1,h2,a⟩:=hc
   refine ⟨es,i.toNat,ys,rfl,by rw [Int.toNat_of_nonneg h0],by omega,rfl,rfl,h2,λe he=>by simpa using hE.1 a e he⟩
  ·cases h
 ·cases h
structure InsertWalks (P:ek) (g:eW) (t ti tr:fc) (sz:Nat):Prop where
 empty: ∀(w:c7) (A A':Option nd) (n c i c':Nat),i<=n->n<=c->lv P g #[.slice A n c,.int .i64 i,.slice A' 0 c'] w λe w'=>e= .returned (.slice A n c)/\w'=w
 last: ∀(w:c7) (A A':Option nd) (n c m c':Nat),n<=c->0 < m-> ∀(v':c5) (w':c7),(ha #[t,t] t #[.slice A n c,.slice A' m c']).run P w= .ok v' w'->
  lv P g #[.slice A n c,.int .i64 n,.slice A' m c'] w λe w''=>e= .returned v'/\w''=w'
 grow: ∀(w:c7) (b off n c i m c':Nat) (A':Option nd),i < n->n<=c->0 < m->c < n+m->n+m<=2 ^ 40-> ∀(w3:c7) (b2 c2:Nat) (w1 w2:c7),
  (ha #[t,ti] t #[.slice (some ⟨b,off,none⟩) i c,.int .i64 ((n:Int)+m - i)]).run P w= .ok (.slice (some ⟨b2,0,none⟩) (n+m) c2) w1->
  n+m<=c2->(hR #[t,t] ti #[.slice (some ⟨b2,0+i*sz,none⟩) (n+m - i) (c2 - i),.slice A' m c']).run P w1= .ok (goInt m) w2->
  (hR #[t,t] ti #[.slice (some ⟨b2,0+(i+m)*sz,none⟩) (n+m - (i+m)) (c2 - (i+m)),.slice (some ⟨b,off+i*sz,none⟩) (n - i) (c - i)]).run P w2.drew= .ok (goInt (n - i:Nat)) w3->
  lv P g #[.slice (some ⟨b,off,none⟩) n c,.int .i64 i,.slice A' m c'] w λe w''=>e= .returned (.slice (some ⟨b2,0,none⟩) (n+m) c2)/\w''=w3
 shift: ∀(w:c7) (b off n c i m c':Nat) (A':Option nd),i < n->n<=c->0 < m->n+m<=c->n+m<=2 ^ 40-> ∀(w2 w3:c7),
  (∀lb cb,(hL #[t,t] #[tr] #[.slice A' m c',.slice (some ⟨b,off+(i+m)*sz,none⟩) lb cb]).run P w= .ok (.bool false) w)->
  (hR #[t,t] ti #[.slice (some ⟨b,off+(i+m)*sz,none⟩) (n+m - (i+m)) (c - (i+m)),.slice (some ⟨b,off+i*sz,none⟩) (n+m - i) (c - i)]).run P w.drew= .ok (goInt (n - i:Nat)) w2->
  (hR #[t,t] ti #[.slice (some ⟨b,off+i*sz,none⟩) (n+m - i) (c - i),.slice A' m c']).run P w2= .ok (goInt m) w3->
  lv P g #[.slice (some ⟨b,off,none⟩) n c,.int .i64 i,.slice A' m c'] w λe w''=>e= .returned (.slice (some ⟨b,off,none⟩) (n+m) c)/\w''=w3
theorem ES {P:ek} {w:c7} {t0 t1 e:fc} {ty:fc} (hu:P.underlying t0=some (.slice e)) (s:P.underlying t1=some (.int .i64)) (hok:qL P e=true) {A:Option nd} {n cap m:Nat} {us:List c5}
  (D:us.length=n*P.cellsOf e) (C:0 < n-> ∃ad,A=some ad/\ ∀q u,us[q]? =some u->w.cell? (ad.add q)=some u)
  (d:cap < n+m) (g:(n+m)*(P.bytesOf e+1)<=2 ^ 40):
  ∃(a:Nat) (rest:List c5),n+m<=a/\rest.length=(a - n)*P.cellsOf e/\
   (ha #[t0,t1] ty #[.slice A n cap,.int .i64 (m:Int)]).run P w= .ok (.slice (some ⟨w.heap.size,0,none⟩) (n+m) a) (w.drew.alloc (.cells (us++rest).toArray e)):=by
 obtain ⟨i,z,hi,hz,v,E,hsz,j⟩:=mq hok
 have G:n+m<=2 ^ 40:=hP (j1 _ (by omega)) g
 let a:=(n+m)+(w.tape w.drawn (.appendCap (n+m) cap e)) % (2 ^ 63 - (n+m))
 have o:= λ(w':c7) (hw:w'.heap=w.heap)=>dZ (P:=P) (w:=w') (A:=A) (cap:=cap) D (λh=>by
  obtain ⟨ad,F,H⟩:=C h
  exact ⟨ad,F,λq u hh=>by have:=H q u hh;unfold World.cell? at*;rw [hw];exact this⟩)
 have k: ¬(((n+m:Nat):Int) > IntKind.i64.max):=by
  have:IntKind.i64.max=9223372036854775807:=by rfl
  omega
 have hcap:=I3 g d
 have hw:w.drew.heap=w.heap:=rfl
 have c:(choose (.appendCap (n+m) cap e)).run P w= .ok a w.drew:=by
  rfl
 have b: ∀{α:Type} (x:α) (w:c7),(pure x:Sem α).run P w= .ok x w:= λ_ _=>rfl
 have y: ∀w':c7,(zeroValue e).run P w'= .ok z w':= λw'=>by simp [zeroValue,run_typeInfo w' hi,hz]
 have t:IntKind.i64.wrap (m:Int)=(m:Int):=by rw [IntKind.wrap_i64];omega
 have f: ∀(n:Int) (w:c7),(asInt (.int .i64 n)).run P w= .ok n w:= λ_ _=>rfl
 have p: ¬((m:Int) < 0):=by omega
 have r: ¬((m:Int)*(P.bytesOf e:Int) > 2 ^ 48):=by
  have h1:m*P.bytesOf e<=(n+m)*(P.bytesOf e+1):=Nat.mul_le_mul (by omega) (by omega)
  have h2:((m*P.bytesOf e:Nat):Int)=(m:Int)*(P.bytesOf e:Int):=Int.natCast_mul _ _
  rw [<-h2]
  have:(2:Int) ^ 48=281474976710656:=by rfl
  have:(2:Nat) ^ 40=1099511627776:=by rfl
  omega
 by_cases l:m*P.cellsOf e=0
 ·have hm:m=0:=by
   rcases Nat.mul_eq_zero.1 l with h | h
   ·exact h
   ·omega
  subst hm
  refine ⟨a,(jm z.cells (a - n)).toList,by omega,by simp [tQ,v],?_⟩
  simp only [ha,c6,run_underlying hu,run_underlying s,run_sizeOf w hi,ch,kv,eZ,hZ,h5,l5,l3,h6,if_false,if_true,false_or,true_or,and_true,b,f,t,if_neg p,run_typeInfo w hi,j,if_neg r,Int.toNat_natCast,if_neg (Nat.not_le.2 d)]
  simp only [c6,run_typeInfo w hi,ch,j,if_neg hcap,if_neg k,c,run_typeInfo w.drew hi,run_askRoom,o w.drew hw,y,newRow,b,l,if_true]
  simp
  congr 2
  apply j3.1
  simp
 ·refine ⟨a,(jm z.cells m).toList++(jm z.cells (a - (n+m))).toList,by omega,by
   simp only [gw,ie,tQ,v]
   rw [<-hM]
   congr 1
   omega,?_⟩
  simp only [ha,c6,run_underlying hu,run_underlying s,run_sizeOf w hi,ch,kv,eZ,hZ,h5,l5,l3,h6,if_false,if_true,false_or,true_or,and_true,b,f,t,if_neg p,run_typeInfo w hi,j,if_neg r,Int.toNat_natCast,if_neg (Nat.not_le.2 d)]
  simp only [c6,run_typeInfo w hi,ch,j,if_neg hcap,if_neg k,c,run_typeInfo w.drew hi,run_askRoom,o w.drew hw,y,newRow,b,if_neg l]
  simp
  congr 2
  apply j3.1
  simp
theorem Ut {w':c7} {ok:Nat->Prop} {es:List (List IV)} {sz:Nat} {vs:List c5} {b base cap:Nat} {c:Array c5} {T:fc} (hw:w'.heap[b]? =some (.cells c T (0,0))) (d: ∀e∈es,e.length=sz) (hr:Rows w' ok es sz vs)
  (hc: ∀q,q < vs.length->c[base+q]? =vs[q]?) {n:Nat} (hn:es.length=n) (hcap:n<=cap) (a:base+cap*sz<=c.size) (f:0 < sz:=by assumption):OwnVal w' ok sz (.lst es) (.slice (some ⟨b,base,none⟩) n cap) ⟨some (b,base),n,sz⟩:=by
 subst hn
 refine ⟨ub (mu':= λ_=>none) hw d hr hc (hP ?_ a),some ⟨b,base,none⟩,cap,rfl,⟨hcap,.inr ⟨b,base,rfl,by simp⟩⟩,λb' base' h=> ?_⟩
 ·exact Nat.add_le_add_left (eg _ hcap) _
 ·cases h;exact ⟨c,T,_,hw,a⟩
theorem Rows.insert {w:c7} {ok:Nat->Prop} {es ys:List (List IV)} {sz k:Nat} {us vs:List c5} (h1:Rows w ok es sz us) (h2:Rows w ok ys sz vs) (he: ∀e∈es,e.length=sz) (f: ∀e∈ys,e.length=sz) (hk:k<=es.length):
  Rows w ok (es.take k++ys++es.drop k) sz (us.take (k*sz)++vs++us.drop (k*sz)):=by
 have b:Rows w ok (es.take k) sz (us.take (k*sz)):=by
  refine ⟨?_,λv hv=>h1.2.1 v (hI hv),λi j e x hi hj=> ?_⟩
  ·simp only [kd,h1.1,l2 hk]
   exact l2 (eg _ hk)
  ·have c:i < k:=by have:=(b7.1 hi).1;simp at this;omega
   rw [et c] at hi
   have d:j < sz:=by rw [<-he e (hB hi)];exact (b7.1 hj).1
   obtain ⟨v,hv,hr⟩:=h1.2.2 i j e x hi hj
   exact ⟨v,by rw [et (DX c d)];exact hv,hr⟩
 have a:Rows w ok (es.drop k) sz (us.drop (k*sz)):=by
  refine ⟨?_,λv hv=>h1.2.1 v (hJ hv),λi j e x hi hj=> ?_⟩
  ·simp only [hW,h1.1,km]
  ·rw [g0] at hi
   obtain ⟨v,hv,hr⟩:=h1.2.2 (k+i) j e x hi hj
   exact ⟨v,by rw [g0,<-k0,<-hM];exact hv,hr⟩
 exact (b.append h2 λe hm=>he e (hI hm)).append a λe hm=>by
  rcases hQ.1 hm with h | h
  ·exact he e (hI h)
  ·exact f e h
theorem CU {w:c7} {a:nd} {u:c5} (h:w.cell? a=some u): ∃(c:Array c5) (T:fc) (fr:Nat×Nat),w.heap[a.block]? =some (.cells c T fr)/\c.size≠0:=by
 unfold World.cell? at h
 split at h
 ·rename_i c T fr hc
  refine ⟨c,T,fr,hc,λh0=> ?_⟩
  have:c= #[]:=Array.eq_empty_of_size_eq_zero h0
  subst this
  simp at h
 ·cases h
theorem FY {c:Array c5} {base sz k n m:Nat} {us vs:List c5} (l:us.length=n*sz) (d:vs.length=m*sz) (hk:k<=n) (h1: ∀q,q < k*sz->c[base+q]? =us[q]?) (h2: ∀q,q < vs.length->c[base+k*sz+q]? =vs[q]?)
  (g: ∀q,q < (n - k)*sz->c[base+(k+m)*sz+q]? =us[k*sz+q]?): ∀q,q < (us.take (k*sz)++vs++us.drop (k*sz)).length->c[base+q]? =(us.take (k*sz)++vs++us.drop (k*sz))[q]? :=by
 intro q i
 have h:k*sz<=n*sz:=eg _ hk
 have a:(us.take (k*sz)).length=k*sz:=by simp;omega
 have f:(n - k)*sz=n*sz - k*sz:=km _ _ _
 have e:(k+m)*sz=k*sz+m*sz:=hM _ _ _
 simp only [gw,hW,a] at i
 by_cases b:q < k*sz
 ·rw [g8,bB (by omega),et b]
  exact h1 q b
 ·by_cases j:q < k*sz+m*sz
  ·rw [g8,bO (by omega),a,bB (by omega),<-h2 (q - k*sz) (by omega)]
   congr 1;omega
  ·rw [g8,bO (by omega),a,bO (by omega),g0,d]
   have:=g (q - k*sz - m*sz) (by omega)
   rw [<-this]
   congr 1;omega
def Tr (w:c7) (ok:Nat->Prop) (sz:Nat) (loc:Option (Nat×Nat)) (r:List (List IV)) (e:Ending) (w':c7):Prop:=
 ∃v npl,e= .returned v/\w'.os=w.os/\w'.tape=w.tape/\w'.output=w.output/\w.heap.size<=w'.heap.size/\Sizes w w'/\
     (∀b,b < w.heap.size->(∀base,loc≠some (b,base))->w'.heap[b]? =w.heap[b]?)/\OwnVal w' ok sz (.lst r) v npl/\
     ∀b base,npl.loc=some (b,base)->(w.heap.size<=b/\b < w'.heap.size)\/ ∃base',loc=some (b,base')
theorem Ll {w w':c7} {ok:Nat->Prop} (hok: ∀b,ok b->b < w.heap.size) {sz:Nat} {loc:Option (Nat×Nat)} {es ys:List (List IV)} {k:Nat} {us vs:List c5} {c2:Nat} {c:Array c5} {T:fc}
  (f:w'.os=w.os) (j:w'.tape=w.tape) (d:w'.output=w.output) (i:w'.heap.size=w.heap.size+1) (hold: ∀b,b < w.heap.size->w'.heap[b]? =w.heap[b]?) (hw:w'.heap[w.heap.size]? =some (.cells c T (0,0)))
  (he: ∀e∈es,e.length=sz) (m: ∀e∈ys,e.length=sz) (hk:k<=es.length) (h1:Rows w ok es sz us) (h2:Rows w ok ys sz vs)
  (n: ∀q,q < k*sz->c[0+q]? =us[q]?) (o: ∀q,q < vs.length->c[0+k*sz+q]? =vs[q]?) (p: ∀q,q < (es.length - k)*sz->c[0+(k+ys.length)*sz+q]? =us[k*sz+q]?) (hcap:es.length+ys.length<=c2) (g:c2*sz<=c.size) (l:0 < sz:=by assumption):
  Tr w ok sz loc (es.take k++ys++es.drop k) (.returned (.slice (some ⟨w.heap.size,0,none⟩) (es.length+ys.length) c2)) w':=by
 have a:Keeps w ok w' ok:=⟨λb hb=>hold b (hok b hb),λ_ h=>h⟩
 refine ⟨_,⟨some (w.heap.size,0),es.length+ys.length,sz⟩,rfl,f,j,d,by omega,λb c T z hb=> ?_,λb hb _=>hold b hb,?_,λb base hb=> ?_⟩
 ·exact ⟨c,z,by rw [hold b (b6.1 hb).1];exact hb,rfl⟩
 ·refine Ut hw (λe hm=> ?_) ((Rows.insert h1 h2 he m hk).later a) (FY h1.1 h2.1 hk n o p) (by simp;omega) hcap (by omega)
  rcases hQ.1 hm with h | h
  ·rcases hQ.1 h with h | h
   ·exact he e (hI h)
   ·exact m e h
  ·exact he e (hJ h)
 ·cases hb
  exact .inl ⟨hq _,by omega⟩
theorem QN {w w':c7} {ok:Nat->Prop} {sz:Nat} {b base:Nat} {es ys:List (List IV)} {k:Nat} {us vs:List c5} {c2:Nat} {g c:Array c5} {T:fc} (d: ¬ok b)
  (l:w'.os=w.os) (o:w'.tape=w.tape) (f:w'.output=w.output) (n:w'.heap.size=w.heap.size) (hold: ∀b',b'≠b->w'.heap[b']? =w.heap[b']?) (p:w.heap[b]? =some (.cells g T (0,0))) (hw:w'.heap[b]? =some (.cells c T (0,0))) (i:c.size=g.size)
  (he: ∀e∈es,e.length=sz) (s: ∀e∈ys,e.length=sz) (hk:k<=es.length) (h1:Rows w ok es sz us) (h2:Rows w ok ys sz vs)
  (t: ∀q,q < k*sz->c[base+q]? =us[q]?) (u: ∀q,q < vs.length->c[base+k*sz+q]? =vs[q]?) (v: ∀q,q < (es.length - k)*sz->c[base+(k+ys.length)*sz+q]? =us[k*sz+q]?) (hcap:es.length+ys.length<=c2) (m:base+c2*sz<=g.size) (r:0 < sz:=by assumption):
  Tr w ok sz (some (b,base)) (es.take k++ys++es.drop k) (.returned (.slice (some ⟨b,base,none⟩) (es.length+ys.length) c2)) w':=by
 have a:Keeps w ok w' ok:=⟨λb' hb=>hold b' λe=>d (e▸hb),λ_ h=>h⟩
 refine ⟨_,⟨some (b,base),es.length+ys.length,sz⟩,rfl,l,o,f,by omega,λb' c' y x hb=> ?_,λb' hb j=>hold b' λe=>j base (by rw [e]),?_,λb' base' hb=> ?_⟩
 ·by_cases e:b'=b
  ·subst e
   rw [p] at hb;cases hb
   exact ⟨c,_,hw,i⟩
  ·exact ⟨c',x,by rw [hold b' e];exact hb,rfl⟩
 ·refine Ut hw (λe hm=> ?_) ((Rows.insert h1 h2 he s hk).later a) (FY h1.1 h2.1 hk t u v) (by simp;omega) hcap (by omega)
  rcases hQ.1 hm with h | h
  ·rcases hQ.1 h with h | h
   ·exact he e (hI h)
   ·exact s e h
  ·exact he e (hJ h)
 ·cases hb
  exact .inr ⟨base,rfl⟩
theorem aaA {l:List c5} {o:Nat} {us:List c5} (h:o+us.length<=l.length) {q:Nat} (a:o<=q/\q < o+us.length):(cR l o us).toArray[q]? =us[q - o]? :=by
 rw [eZ]
 have:=GG h (q:=q - o) (by omega)
 rwa [show o+(q - o)=q by omega] at this
theorem NF {l:List c5} {o:Nat} {us:List c5} (h:o+us.length<=l.length) {q:Nat} (a:q < o\/o+us.length<=q):(cR l o us).toArray[q]? =l[q]? :=by
 rw [eZ];exact DP h a
theorem uZ {P:ek} {g:eW} {t ti tr e:fc} {sz bytes:Nat} (h0:P.underlying t=some (.slice e)) (d6:P.underlying ti=some (.int .i64)) (a6:qL P e=true) (hsz:P.cellsOf e=sz) (bm:P.bytesOf e=bytes) (W:InsertWalks P g t ti tr sz):
  ay P g ⟨.cons,false,[1],sz,λl=>match l with | [[x0],[x1],[x2]]=>tm sz bytes x0 x1 x2 | _=>none⟩:=by
 obtain ⟨ii,zz,dq,fd,d9,E,cc,fa⟩:=mq a6
 rw [hsz] at E d9 cc
 unfold ay
 simp only
 intro w ok as x v0 pl args r hok U bf bi hr
 split at hr
 ·rename_i x0 x1 x2 heq
  obtain ⟨rfl,rfl⟩:x=x0/\as=[[x1],[x2]]:=by simpa using heq
  obtain ⟨es,k,ys,rfl,rfl,hk,rfl,rfl,a9,R⟩:=RH hr
  obtain ⟨hl,hrel⟩:=bi
  match args,hl with
  | [v1,v2],_=>
  have d8:v1= .int .i64 ((k:Nat):Int):=by
   rcases hrel 0 _ v1 rfl rfl with ⟨y,e1,h1⟩ | ⟨h1,_⟩
   ·cases e1;cases h1;rfl
   ·simp at h1
  subst d8
  have co:RV w ok (.lst ys) v2:=by
   rcases hrel 1 _ v2 rfl rfl with ⟨y,e1,h1⟩ | ⟨h1,_⟩
   ·cases e1;exact h1
   ·simp at h1
  obtain ⟨A',c',vs,rfl,d,bC⟩:=Su hok co E R
  obtain ⟨ci,A,c,rfl,hh,hc⟩:=U
  have U:OwnVal w ok sz (.lst es) (.slice A pl.len c) pl:=⟨ci,A,c,rfl,hh,hc⟩
  obtain ⟨loc,n,sz'⟩:=pl
  obtain ⟨ap,e7,bx,hlen,I,am,O⟩:=ci.arrN (λ_ h=>by cases h)
  cases bx
  simp only at ap hlen am O hh hc bf U ⊢
  subst ap
  subst hlen
  have hnm:es.length+ys.length<=2 ^ 32:=hP (j1 _ (by omega)) a9
  have al:es.length+ys.length<=2 ^ 40:=hP hnm (by decide)
  have L:(es.length+ys.length)*(bytes+1)<=2 ^ 40:=hP a9 (by decide)
  show lv P g #[.slice A es.length c,.int .i64 (k:Int),.slice A' ys.length c'] w (Tr w ok sz' loc (es.take k++ys++es.drop k))
  rcases hY ys.length with hm | hm
  ·have:ys=[]:=gf.1 hm
   subst this
   refine hX (W.empty w A A' es.length c k c' hk hh.1) λe' w' he=> ?_
   obtain ⟨rfl,rfl⟩:=he
   refine ⟨_,⟨loc,es.length,sz'⟩,rfl,rfl,rfl,rfl,hq _,Sizes.refl _,λ_ _ _=>rfl,?_,λb base h=> .inr ⟨base,h⟩⟩
   simpa using U
  obtain ⟨ad,c9,X⟩:=bC hm
  subst c9
  have Z:ok ad.block:=by
   cases co with
   | lst _ a cap s vals hcap a1 hmem d4=>
     have hs:s=sz':=by rw [<-a1 _ (l0 hm)];exact R _ (l0 hm)
     obtain ⟨e3,e1,h1,_⟩:=hmem 0 0 hm (by omega)
     cases e1;exact h1
  have K: ∀{l:List c5} {j:Nat},l.length=j*sz'->l.length=j*P.cellsOf e:= λh=>by rw [hsz];exact h
  by_cases b0:c=0
  ·subst b0
   have d0:es.length=0:=by have:=hh.1;omega
   have dd:es=[]:=gf.1 d0
   subst dd
   have dO:k=0:=by simpa using hk
   subst dO
   obtain ⟨f,rest,g1,g2,g3⟩:=pj (P:=P) (w:=w) (ats:= #[t,t]) (ty:=t) rfl h0 h0 a6 (A:=A) (A':=some ad) (n:=0) (cap:=0) (m:=ys.length) (cap':=c') (us:=[]) (vs:=vs) (by simp) (λh=>by omega) (K d.1)
    (λh=>⟨ad,rfl,X⟩) (by omega) (by rw [bm];simpa using L)
   refine hX (W.last w A (some ad) 0 0 ys.length c' (hq _) hm _ _ g3) λe' w' he=> ?_
   obtain ⟨rfl,rfl⟩:=he
   simp only [ke,hD] at g1 g2 ⊢
   have:=Ll (w:=w) (w':=w.drew.alloc (.cells (vs++rest).toArray e)) hok (loc:=loc) (es:=[]) (ys:=ys) (k:=0) (us:=[]) (vs:=vs) (c2:=f) rfl rfl rfl (by show (w.heap.push _).size=_;simp) (λb hb=>Below.heap_alloc w.drew _ b hb) (gq w.drew _) I R (iz _)
    ⟨by simp,λv hv=>by simp at hv,λi j e x h=>by simp at h⟩ d (λq z=>by omega) (λq z=>by
      simp only [lo,hD,eZ]
      rw [bB z]) (λq z=>by simp at z) (by simpa using g1) (by
      simp only [c4,gw,d.1,g2,hsz]
      rw [<-hM]
      exact eg _ (by omega))
   simpa using this
  rcases hh.2 with ⟨_,h1⟩ | ⟨b,base,be,hA⟩
  ·exact absurd h1 b0
  simp only at be
  subst be
  simp only [lo,m1] at hA
  subst hA
  obtain ⟨c1,T,hw,c8,d5⟩:=O b base rfl
  obtain ⟨e5,T',z',cO,aB⟩:=hc b base rfl
  rw [hw] at cO;cases cO
  have N:=bf b base rfl
  have bb:b < w.heap.size:=(b6.1 hw).1
  have hold: ∃us,Rows w ok es sz' us/\ ∀q,q < us.length->c1[base+q]? =us[q]? :=by
   have iq:InvQ w ok (λq=>if q=0 then some ⟨some (b,base),es.length,sz'⟩ else none) [.arr .rw sz' (.lst es)]:=by
    refine ⟨hok,λo pl ho=> ?_,λo pl b' base' ho hl=> ?_⟩
    ·split at ho
     ·rename_i e;subst e;cases ho
      exact .inl ⟨by assumption,rfl,es,rfl,rfl,I,am,O⟩
     ·cases ho
    ·split at ho
     ·cases ho;cases hl;exact bb
     ·cases ho
   obtain ⟨A2,em,us,hv,h1,h2⟩:=uX iq (p:= .buf 0 es.length) (v:= .slice (some ⟨b,base,none⟩) es.length c) (.buf 0 es.length _ c ⟨some (b,base),es.length,sz'⟩ rfl rfl hh hc) (ys:=es) rfl E I
   obtain ⟨rfl,_,rfl⟩:=Value.slice.inj hv
   refine ⟨us,h1,λq z=> ?_⟩
   have bx:0 < es.length:=by
    rcases hY es.length with h | h
    ·rw [h1.1,h,lo] at z;omega
    ·exact h
   obtain ⟨e4,e2,h3⟩:=h2 bx
   cases e2
   have:=h3 q us[q] (e6 z)
   rw [dI,iY hw] at this
   rw [this,e6 z]
  obtain ⟨us,Q,G⟩:=hold
  have a2:=Q.1
  have H:=d.1
  have fb:k*sz'<=es.length*sz':=eg _ hk
  have eP:(k+ys.length)*sz'=k*sz'+ys.length*sz':=hM _ _ _
  have eQ:(es.length - k)*sz'=es.length*sz' - k*sz':=km _ _ _
  have d1:es.length*sz'<=c*sz':=eg _ hh.1
  have ca:(us.drop (k*sz')).length=(es.length - k)*sz':=by simp only [hW];omega
  have Y:ad.block≠b:= λh=>N (h▸Z)
  have cd:c1.toList.length=c1.size:=by simp
  have ao: ∀q,q < us.length->c1.toList[base+q]? =us[q]? := λq z=>by rw [fl];exact G q z
  by_cases M:es.length+ys.length<=c
  ·have dl:es.length*sz'+ys.length*sz'<=c*sz':=by rw [<-hM];exact eg _ M
   by_cases bA:k=es.length
   ·subst bA
    have ck:=IJ (P:=P) (w:=w) (ats:= #[t,t]) (ty:=t) rfl h0 h0 (by rw [hsz];exact E) (A:=some ⟨b,base,none⟩) (A':=some ad) (n:=es.length) (cap:=c) (m:=ys.length) (cap':=c') (vs:=vs) (K H) (λ_=>⟨ad,rfl,X⟩) d.2.1 M rfl hw (by rw [hsz];omega)
    refine hX (W.last w _ _ _ c _ c' hh.1 hm _ _ ck) λe' w' he=> ?_
    obtain ⟨rfl,rfl⟩:=he
    rw [hsz]
    have hle:base+es.length*sz'+vs.length<=c1.toList.length:=by omega
    have F:=fx (c':=(cR c1.toList (base+es.length*sz') vs).toArray) hw (by simp [fF hle])
    refine QN (c:=(cR c1.toList (base+es.length*sz') vs).toArray) N rfl rfl rfl F.size F.other hw F.now (by simp [fF hle]) I R hk Q d (λq z=> ?_) (λq z=> ?_) (λq z=> ?_) M aB
    ·rw [NF hle (.inl (by omega))];exact ao q (by omega)
    ·rw [aaA hle (by omega)];congr 1;omega
    ·simp at z
   ·have d2: ∀lb cb,(hL #[t,t] #[tr] #[.slice (some ad) ys.length c',.slice (some ⟨b,base+(k+ys.length)*sz',none⟩) lb cb]).run P w= .ok (.bool false) w:= λlb cb=>by
     have d7:0 < vs.length:=by rw [H];exact nn hm E
     obtain ⟨c3,T3,e8,h3,h4⟩:=CU (X 0 vs[0] (e6 d7))
     rw [mZ] at h3
     exact SY w t tr e h0 sz' (λw'=>by rw [run_sizeOf w' dq];exact congrArg (λx=>Result.ok x w') hsz) ad b _ _ _ _ _ Y h3 hw (by
      have:0 < c*sz':=nn (by omega) E
      omega) h4
    have C:base+(k+ys.length)*sz'+(us.drop (k*sz')).length<=c1.toList.length:=by omega
    have bM:w.drew.heap[b]? =some (.cells c1 T (0,0)):=hw
    have br:=FU (P:=P) (w:=w.drew) (t:=t) (t':=t) (ty:=ti) h0 (by rw [hsz];exact E) (b:=b) (o:=base+(k+ys.length)*sz') (dLen:=es.length+ys.length - (k+ys.length)) (dCap:=c - (k+ys.length)) (sLen:=es.length+ys.length - k) (sCap:=c - k) (A:=some ⟨b,base+k*sz',none⟩) (us:=us.drop (k*sz')) (n:=es.length - k)
     (by simp only [kq];split<;>omega) (by rw [hsz];exact ca) (λ_=>⟨_,rfl,λq u z=>by
       rw [dI,iY bM,k0]
       rw [g0] at z
       rw [G _ (b7.1 z).1];exact z⟩) (λv hv=>Q.2.1 v (hJ hv)) bM (by rw [<-cd];exact C)
    have aT:(cR c1.toList (base+(k+ys.length)*sz') (us.drop (k*sz'))).toArray.size=c1.size:=by rw [c4,fF C,cd]
    have F:=fx (w:=w.drew) (c':=(cR c1.toList (base+(k+ys.length)*sz') (us.drop (k*sz'))).toArray) bM aT
    have D:base+k*sz'+vs.length<=(cR c1.toList (base+(k+ys.length)*sz') (us.drop (k*sz'))).length:=by rw [fF C];omega
    have bv:=FU (P:=P) (w:=w.drew.setRow b (cR c1.toList (base+(k+ys.length)*sz') (us.drop (k*sz'))).toArray) (t:=t) (t':=t) (ty:=ti) h0 (by rw [hsz];exact E) (b:=b) (o:=base+k*sz') (dLen:=es.length+ys.length - k) (dCap:=c - k) (sLen:=ys.length) (sCap:=c') (A:=some ad) (us:=vs) (n:=ys.length)
     (by simp only [kq];split<;>omega) (K H) (λ_=>⟨_,rfl,λq u z=>by
       rw [fC (w:=w) (by rw [mZ];exact F.other _ Y)]
       exact X q u z⟩) d.2.1 F.now (by simpa using D)
    have a0:(cR (cR c1.toList (base+(k+ys.length)*sz') (us.drop (k*sz'))) (base+k*sz') vs).toArray.size=(cR c1.toList (base+(k+ys.length)*sz') (us.drop (k*sz'))).toArray.size:=by rw [c4,fF D,c4]
    have J:=fx (c':=(cR (cR c1.toList (base+(k+ys.length)*sz') (us.drop (k*sz'))) (base+k*sz') vs).toArray) F.now a0
    refine hX (W.shift w b base es.length c k ys.length c' (some ad) (by omega) hh.1 hm M al _ _ d2 br bv) λe' w' he=> ?_
    obtain ⟨rfl,rfl⟩:=he
    refine QN (c:=(cR (cR c1.toList (base+(k+ys.length)*sz') (us.drop (k*sz'))) (base+k*sz') vs).toArray) N rfl rfl rfl (J.size.trans F.size) (λb' V=>(J.other b' V).trans (F.other b' V)) hw J.now (a0.trans aT) I R hk Q d (λq z=> ?_) (λq z=> ?_) (λq z=> ?_) M aB
    ·rw [NF D (.inl (by omega)),DP C (.inl (by omega))];exact ao q (by omega)
    ·rw [aaA D (by omega)];congr 1;omega
    ·rw [NF D (.inr (by omega)),GG C (by omega),g0]
  ·by_cases bA:k=es.length
   ·subst bA
    obtain ⟨f,rest,g1,g2,g3⟩:=pj (P:=P) (w:=w) (ats:= #[t,t]) (ty:=t) rfl h0 h0 a6 (A:=some ⟨b,base,none⟩) (A':=some ad) (n:=es.length) (cap:=c) (m:=ys.length) (cap':=c') (us:=us) (vs:=vs) (K a2)
     (λ_=>⟨_,rfl,λq u z=>by rw [dI,iY hw,G _ (b7.1 z).1];exact z⟩) (K H) (λ_=>⟨ad,rfl,X⟩) (by omega) (by rw [bm];exact L)
    refine hX (W.last w _ _ _ c _ c' hh.1 hm _ _ g3) λe' w' he=> ?_
    obtain ⟨rfl,rfl⟩:=he
    rw [hsz] at g2
    refine Ll (w:=w) hok rfl rfl rfl (by show (w.heap.push _).size=_;simp) (λb hb=>Below.heap_alloc w.drew _ b hb) (gq w.drew _) I R hk Q d (λq z=> ?_) (λq z=> ?_) (λq z=> ?_) g1 ?_
    ·simp only [hD,eZ]
     rw [g8,bB (by omega)]
    ·simp only [hD,eZ]
     rw [g8,bO (by omega),bB (by omega)]
     congr 1;omega
    ·simp at z
    ·simp only [c4,gw,a2,H,g2]
     rw [<-hM,<-hM]
     exact eg _ (by omega)
   ·have hint:((es.length:Int)+(ys.length:Int) - (k:Int))=((es.length+ys.length - k:Nat):Int):=by omega
    have cl:(us.take (k*sz')).length=k*sz':=by simp;omega
    obtain ⟨f,rest,g1,g2,g3⟩:=ES (P:=P) (w:=w) (t0:=t) (t1:=ti) (ty:=t) h0 d6 a6 (A:=some ⟨b,base,none⟩) (n:=k) (cap:=c) (m:=es.length+ys.length - k) (us:=us.take (k*sz')) (by rw [hsz];exact cl)
     (λ_=>⟨_,rfl,λq u z=>by
       have d3:q < k*sz':=by have:=(b7.1 z).1;omega
       rw [et d3] at z
       rw [dI,iY hw,G _ (b7.1 z).1];exact z⟩) (by omega) (by rw [bm,show k+(es.length+ys.length - k)=es.length+ys.length by omega];exact L)
    rw [show k+(es.length+ys.length - k)=es.length+ys.length by omega] at g1 g3
    rw [hsz,km] at g2
    have ce:(es.length+ys.length)*sz'<=f*sz':=eg _ g1
    rw [hM] at ce
    rw [<-hint] at g3
    generalize b3:us.take (k*sz')++rest=cs at g3
    have b5:cs.length=f*sz':=by rw [<-b3,gw,cl,g2];omega
    have b4: ∀q,q < k*sz'->cs[q]? =us[q]? := λq z=>by rw [<-b3,bB (by omega),et z]
    have ac:(w.drew.alloc (.cells cs.toArray e)).heap[w.heap.size]? =some (.cells cs.toArray e (0,0)):=gq w.drew _
    have ab: ∀b',b' < w.heap.size->(w.drew.alloc (.cells cs.toArray e)).heap[b']? =w.heap[b']? := λb' V=>Below.heap_alloc w.drew _ b' V
    have C:0+k*sz'+vs.length<=cs.length:=by omega
    have br:=FU (P:=P) (w:=w.drew.alloc (.cells cs.toArray e)) (t:=t) (t':=t) (ty:=ti) h0 (by rw [hsz];exact E) (b:=w.heap.size) (o:=0+k*sz') (dLen:=es.length+ys.length - k) (dCap:=f - k) (sLen:=ys.length) (sCap:=c') (A:=some ad) (us:=vs) (n:=ys.length)
     (by simp only [kq];split<;>omega) (K H) (λ_=>⟨_,rfl,λq u z=>by
       rw [fC (w:=w) (by rw [mZ];exact ab _ (hok _ Z))]
       exact X q u z⟩) d.2.1 ac (by simpa using C)
    have aT:(cR cs (0+k*sz') vs).toArray.size=cs.toArray.size:=by rw [c4,fF C,c4]
    have F:=fx (c':=(cR cs (0+k*sz') vs).toArray) ac aT
    generalize a5:(w.drew.alloc (.cells cs.toArray e)).setRow w.heap.size (cR cs (0+k*sz') vs).toArray=W2 at F
    have b1:(hR #[t,t] ti #[.slice (some ⟨w.heap.size,0+k*sz',none⟩) (es.length+ys.length - k) (f - k),.slice (some ad) ys.length c']).run P (w.drew.alloc (.cells cs.toArray e))= .ok (goInt ys.length) W2:=by rw [<-a5];exact br
    have S:W2.drew.heap[w.heap.size]? =some (.cells (cR cs (0+k*sz') vs).toArray e (0,0)):=F.now
    have bY:W2.drew.heap[b]? =some (.cells c1 T (0,0)):=by
     show W2.heap[b]? =_
     rw [F.other b (by omega),ab b bb];exact hw
    have D:0+(k+ys.length)*sz'+(us.drop (k*sz')).length<=(cR cs (0+k*sz') vs).length:=by rw [fF C];omega
    have bv:=FU (P:=P) (w:=W2.drew) (t:=t) (t':=t) (ty:=ti) h0 (by rw [hsz];exact E) (b:=w.heap.size) (o:=0+(k+ys.length)*sz') (dLen:=es.length+ys.length - (k+ys.length)) (dCap:=f - (k+ys.length)) (sLen:=es.length - k) (sCap:=c - k) (A:=some ⟨b,base+k*sz',none⟩) (us:=us.drop (k*sz')) (n:=es.length - k)
     (by simp only [kq];split<;>omega) (by rw [hsz];exact ca) (λ_=>⟨_,rfl,λq u z=>by
       rw [dI,iY bY,k0]
       rw [g0] at z
       rw [G _ (b7.1 z).1];exact z⟩) (λv hv=>Q.2.1 v (hJ hv)) S (by simpa using D)
    have a0:(cR (cR cs (0+k*sz') vs) (0+(k+ys.length)*sz') (us.drop (k*sz'))).toArray.size=(cR cs (0+k*sz') vs).toArray.size:=by rw [c4,fF D,c4]
    have J:=fx (w:=W2.drew) (c':=(cR (cR cs (0+k*sz') vs) (0+(k+ys.length)*sz') (us.drop (k*sz'))).toArray) S a0
    refine hX (W.grow w b base es.length c k ys.length c' (some ad) (by omega) hh.1 hm (by omega) al _ _ f _ _ g3 g1 b1 bv) λe' w' he=> ?_
    obtain ⟨rfl,rfl⟩:=he
    have a1:W2.heap.size=w.heap.size+1:=by rw [F.size];show (w.heap.push _).size=_;simp
    refine Ll (w:=w) (c:=(cR (cR cs (0+k*sz') vs) (0+(k+ys.length)*sz') (us.drop (k*sz'))).toArray) hok (by show W2.os=_;rw [<-a5];rfl) (by show W2.tape=_;rw [<-a5];rfl) (by show W2.output=_;rw [<-a5];rfl) (J.size.trans a1) (λb' V=>(J.other b' (by omega)).trans ((F.other b' (by omega)).trans (ab b' V))) J.now I R hk Q d (λq z=> ?_) (λq z=> ?_) (λq z=> ?_) g1 (by rw [a0,aT];simp [b5])
    ·rw [NF D (.inl (by omega)),DP C (.inl (by omega)),hD];exact b4 q z
    ·rw [NF D (.inl (by omega)),GG C z]
    ·rw [aaA D (by omega),g0]
     congr 1;omega
 ·cases hr
end Go.AM
namespace Go.AM
open Go.RowKit
theorem enters_of {P:ek} {g:eW} {f:mb} (a:P.funcs[g]? =some f) (hn:(f.name== "runtime.NumGoroutine")=false) (hb:f.body.isNone=false):Enters P g:=by
 intro args w
 unfold callFunc
 simp only [c6]
 have hp:(program).run P w= .ok P w:=rfl
 simp only [hp,ch,a,hn,hb,h6,if_false]
 rfl
section
variable {P:ek} {Γ:eW->Option FSig} {C:IV->List Nat->List (List IV)->Option (List IV)} {A:Ann}
def R6 (w:c7) (ok:Nat->Prop) (caps:List IV) (cv:List c5):Prop:=caps.length=cv.length/\ ∀(i:Nat) (c:IV) (v:c5),caps[i]? =some c->cv[i]? =some v->RV w ok c v
theorem aX (h:aF P Γ) (k:COK P C) (hm:P.follows .mixedOrders=true) {g:eW} {f:mb} (l:P.funcs[g]? =some f) (hb:(match f.body with | some c=>Ev Γ A c | none=>false)=true)
  {caps:List IV} {cv:List c5} {W:c7} {j:Nat->Prop} (hcap:R6 W j caps cv) {ns:List Nat} (e:f.resultTypes.toList.map P.cellsOf=ns) {fn:List (List IV)->Option (List IV)} (d: ∀as r,fn as=some r->run P Γ C A f (as++caps.map λc=>[c])=some r):PureAt P g cv ns fn W j:=by
 intro w ok as args r hk hok a hr
 have b:cL w ok (as++caps.map λc=>[c]) (args++cv):=by
  refine ⟨by simp [a.1,hcap.1],λi c v h1 h2=> ?_⟩
  by_cases hi:i < as.length
  ·rw [bB hi] at h1
   rw [bB (by rw [<-a.1];exact hi)] at h2
   exact a.2 i c v h1 h2
  ·rw [bO (by omega),hS] at h1
   rw [bO (by rw [<-a.1];omega),<-a.1] at h2
   cases hc:caps[i - as.length]? with
   | none=>rw [hc] at h1;cases h1
   | some x=>
     rw [hc] at h1;cases h1
     exact .inl ⟨x,rfl,(hcap.2 _ x v hc h2).keeps hk⟩
 subst e
 exact Zi h k hm l hb hok b (d as r hr)
theorem mf (e:aF P Γ) (k:COK P C) (hm:P.follows .mixedOrders=true) {g:eW} {f:mb} (l:P.funcs[g]? =some f) (hb:(match f.body with | some c=>Ev Γ A c | none=>false)=true)
  {ns:List Nat} (b:f.resultTypes.toList.map P.cellsOf=ns) {j:Bool} (d:A.scalar=j) {fn:List (List IV)->Option (List IV)} (a: ∀as r,fn as=some r->run P Γ C A f as=some r):ay P g ⟨.pure,j,ns,0,fn⟩:=by
 refine ⟨λw ok=>aX e k hm l hb (caps:=[]) (cv:=[]) ⟨rfl,λi c v h=>by simp at h⟩ b λas r h=>by simpa using a as r h,λh as r hr=> ?_⟩
 exact W5 (d.trans h) (a as r hr)
end
theorem aF.nil {P:ek}:aF P λ_=>none:= λg s h=>by cases h
theorem aF.ite {P:ek} {Γ:eW->Option FSig} {n:eW} {s:FSig} (h1:Enters P n/\ay P n s) (h2:aF P Γ):aF P λf=>if f=n then some s else Γ f:= λg a h=>by
 have h:(if g=n then some s else Γ g)=some a:=h
 by_cases e:g=n
 ·subst e;rw [if_pos rfl] at h;cases h;exact h1
 ·rw [if_neg e] at h;exact h2 g a h
theorem cok_none {P:ek}:COK P λ_ _ _=>none:=⟨λx ns w ok v hv h=>(by obtain ⟨as,r,h⟩:=h;cases h),λt name b y ns w ok u hu h=>(by obtain ⟨as,r,h⟩:=h;cases h)⟩
theorem gR {P:ek} {g:Nat} {ns:List Nat} {fn:List IV->List (List IV)->Option (List IV)} {rest:IV->List Nat->List (List IV)->Option (List IV)} (j:Enters P g)
  (hp: ∀(caps:List IV) (cv:List c5) (w:c7) (ok:Nat->Prop),R6 w ok caps cv->PureAt P g cv ns (fn caps) w ok) (hr:COK P rest):COK P (KA g ns fn rest):=by
 refine ⟨λx a w ok v hv h=> ?_,λt name b y a w ok u hu h=> ?_⟩
 rotate_left
 ·have e:KA g ns fn rest (.map [[.clo (.methodOf t name) [y],.bool b,.nilp]]) a=rest (.map [[.clo (.methodOf t name) [y],.bool b,.nilp]]) a:=by funext l;rfl
  rw [e] at h ⊢
  exact hr.ifc t name b y a w ok u hu h
 have other:KA g ns fn rest x a=rest x a-> ∃d cv,v= .func (.func d) #[] cv/\Enters P d/\PureAt P d cv.toList a (KA g ns fn rest x a) w ok:= λe=>by
  rw [e] at h ⊢
  exact hr.clo x a w ok v hv h
 cases hv with
 | clo f caps cv hlen hrel=>
   cases f with
   | func n=>
     by_cases e:n=g/\a=ns
     ·obtain ⟨rfl,rfl⟩:=e
      refine ⟨n,cv,rfl,j,?_⟩
      have:KA n a fn rest (.clo (.func n) caps) a=fn caps:=by funext l;simp [KA]
      rw [this]
      exact hp caps cv.toList w ok ⟨by simpa using hlen,λi c v h1 h2=>hrel i c v h1 (by rw [<-fl];exact h2)⟩
     ·exact other (by funext l;simp [KA,e])
   | _=>exact other (by funext l;rfl)
 | _=>exact other (by funext l;rfl)
theorem p9 {P:ek} {t:Nat} {name:String} {one:Bool} {ns:List Nat} {g:Nat} {fn:List IV->List (List IV)->Option (List IV)} {rest:IV->List Nat->List (List IV)->Option (List IV)}
  (j: ∀u w',(callMethod (.iface t (ifV one u)) name #[]).run P w'= .ok (.enter g #[ifV one u]) w') (hp: ∀(y:IV) (u:c5) (w:c7) (ok:Nat->Prop),RV w ok y u->PureAt P g [ifV one u] ns (fn [y]) w ok) (hr:COK P rest):COK P (A6 t name one ns fn rest):=by
 refine ⟨λx f w ok v hv h=> ?_,λt' d b y f w ok u hu h=> ?_⟩
 ·have other:A6 t name one ns fn rest x f=rest x f-> ∃i cv,v= .func (.func i) #[] cv/\Enters P i/\PureAt P i cv.toList f (A6 t name one ns fn rest x f) w ok:= λe=>by
   rw [e] at h ⊢
   exact hr.clo x f w ok v hv h
  by_cases hx: ∃a b c,x= .map [[a,b,c]]
  ·obtain ⟨a,b,c,rfl⟩:=hx
   cases hv with
   | map _ b' me clock _ _ _ h2 _=>exact absurd (h2 [a,b,c] (by simp)) (by simp)
  ·refine other ?_
   funext l
   unfold A6
   split
   ·exact absurd ⟨_,_,_,rfl⟩ hx
   ·rfl
 ·by_cases e:t'=t/\d=name/\f=ns/\b=one
  ·obtain ⟨rfl,rfl,rfl,rfl⟩:=e
   have:A6 t' d b f fn rest (.map [[.clo (.methodOf t' d) [y],.bool b,.nilp]]) f=fn [y]:=by funext l;simp [A6]
   rw [this]
   exact ⟨g,λw'=>j u w',hp y u w ok hu⟩
  ·have k:A6 t name one ns fn rest (.map [[.clo (.methodOf t' d) [y],.bool b,.nilp]]) f=rest (.map [[.clo (.methodOf t' d) [y],.bool b,.nilp]]) f:=by funext l;simp [A6,e]
   rw [k] at h ⊢
   exact hr.ifc t' d b y f w ok u hu h
end Go.AM
namespace Go.AM
open Go.RowKit
section
variable {P:ek} {Γ:eW->Option FSig} {C:IV->List Nat->List (List IV)->Option (List IV)} {A:Ann}
theorem XK {f:mb} {tmps:Array c5} {w:c7} {ok:Nat->Prop} {r:List IV} {ns:List Nat} {vs:List c5} (h1:(f.results.toList.mapM (ik tmps)).run P w= .ok vs w) (h2:vs.length=ns.length) (a:ld w ok r ns 0 vs):
  ∃v,(results f tmps).run P w= .ok v w/\gm w ok ns r v:=by
 have hr:results f tmps=(do let vs <-f.results.mapM (ik tmps);pure (if h:vs.size=1 then vs[0] else .tuple vs)):=by
  unfold results
  congr 2
 have hm:(f.results.mapM (ik tmps)).run P w= .ok vs.toArray w:=by
  rw [hH,map_eq_pure_bind]
  simp only [c6,h1,ch,hd]
 refine ⟨if h:vs.toArray.size=1 then vs.toArray[0] else .tuple vs.toArray,by rw [hr,c6,hm];rfl,?_⟩
 match ns,vs,h2,a with
 | [n],[v],_,a=>exact a.1
 | [],[],_,_=>exact ⟨_,rfl,trivial⟩
 | n::m::ns,v::u::vs,_,a=>
   unfold gm
   split
   ·rename_i heq;cases heq
   ·refine ⟨_,by rw [dif_neg (by simp)],by simpa using a⟩
theorem abo {W:c7} {c:Nat->Prop} {b:Mu} {f:PV} {e:c5} (h0:RP W c b f e) {ps:List PV} {args:List c5} (hl:ps.length=args.length) (hrel: ∀(i:Nat) (p:PV) (v:c5),ps[i]? =some p->args[i]? =some v->RP W c (λ_=>none) p v) (N:Nat):
  Fr W c b (f::ps++hO (N - (ps.length+1)) .skip) ((e::args).toArray++h8 (N - (e::args).toArray.size) undef):=by
 have d:Later W c (λ_=>none) W c b:=⟨.refl _ _,λo pl h=>(by cases h),.refl _⟩
 refine ⟨by simp [hl];omega,λt p v h1 h2=> ?_⟩
 simp only [hG,c4] at h2
 by_cases a:t < args.length+1
 ·rw [bB (by simp;omega)] at h1
  rw [if_pos (by simpa using a)] at h2
  cases t with
  | zero=>simp at h1 h2;subst h1;subst h2;exact h0
  | succ t=>exact (hrel t p v (by simpa using h1) (by simpa using h2)).later d
 ·rw [bO (by simp;omega),hN] at h1
  rw [if_neg (by simpa using a),hK] at h2
  split at h1
  ·split at h2
   ·cases h1;cases h2;exact .skip
   ·cases h2
  ·cases h1
theorem Z4 (a:c5) (args:List c5) (N:Nat):(((a::args).toArray++h8 (N - (a::args).toArray.size) undef)[0]?).getD undef=a:=by
 simp [hG]
theorem acJ {W:c7} {b:Nat->Prop} {ps:List PV} {args:List c5} (hl:ps.length=args.length) (hrel: ∀(i:Nat) (p:PV) (v:c5),ps[i]? =some p->args[i]? =some v->RP W b (λ_=>none) p v) (N:Nat):
  Fr W b (λ_=>none) (ps++hO (N - ps.length) .skip) (args.toArray++h8 (N - args.toArray.size) undef):=by
 refine ⟨by simp [hl],λt p v h1 h2=> ?_⟩
 simp only [hG,c4] at h2
 by_cases a:t < args.length
 ·rw [bB (by omega)] at h1
  rw [if_pos a] at h2
  exact hrel t p v h1 (by simpa using h2)
 ·rw [bO (by omega),hN] at h1
  rw [if_neg a,hK] at h2
  split at h1
  ·split at h2
   ·cases h1;cases h2;exact .skip
   ·cases h2
  ·cases h1
theorem Te {W:c7} {c:Nat->Prop} (hok: ∀b,c b->b < W.heap.size) (lent:Nat->Prop):Inv W ⟨c,lent⟩ W c (λ_=>none) []:=
 ⟨.refl _ _ _,hok,λb hb=> .inl hb,λo pl a=>(by cases a),λo pl b base a=>(by cases a),λo o' pl pl' b base base' a=>(by cases a)⟩
theorem IX {w:c7} {ok:Nat->Prop} {mu:Mu} {h:List Ob} (c:InvQ w ok mu h) {n:Nat} {p:PV} {v:c5} (r:RP w ok mu p v) {cs:List IV} (hr:vP n p h=some cs):cs.length=n/\ ∀(l:List IV) (i:Nat),(∀j,j < n->nth l (i+j)=nth cs j)->qE w (jG ok mu (iM h p)) n l i v:=by
 unfold vP at hr
 split at hr
 ·rename_i hok
  obtain ⟨ls,h1,h2⟩:=bR.1 hr
  split at h2
  ·rename_i hn
   cases h2
   refine ⟨hn,λl i hl=> ?_⟩
   rcases Bg c r hok h1 with ⟨x,e,hx⟩ | ⟨d,vs,e,f,b⟩
   ·subst e
    have a:n=1:=by rw [<-hn];rfl
    refine .inl ⟨a,?_⟩
    have:=hl 0 (by omega)
    rw [m1] at this
    rw [this];exact hx
   ·refine .inr ⟨by omega,vs,e,by omega,λj u hu=> ?_⟩
    have hj:j < n:=by have:=(b6.1 hu).1;omega
    rw [hl j hj]
    exact b j _ u (by rw [Kw (by omega)]) hu
  ·cases h2
 ·cases hr
theorem ld.sub {w:c7} {ok ok':Nat->Prop} (hm: ∀b,ok b->ok' b) {r:List IV} {ns:List Nat} {i:Nat} {vs:List c5} (h:ld w ok r ns i vs):ld w ok' r ns i vs:=ld.more hm h
theorem LS {w:c7} {ok:Nat->Prop} {mu:Mu} {w0:c7} {ok0:O0} {st:St} {a:Act} (c:Cfg w0 ok0 w ok mu st a): ∀(rs:List ResultVar) (ns:List Nat) (cs:List IV),LL P st rs ns=some cs-> ∃vs,(rs.mapM (ik a.tmps)).run P w= .ok vs w/\vs.length=rs.length/\rs.length=ns.length/\
  ∀(l:List IV) (i:Nat),(∀j,j < cs.length->nth l (i+j)=nth cs j)->ld w (jG ok mu (ou P st rs)) l ns i vs
 | [],[],cs,h=>by
   simp only [LL,hT] at h
   subst h
   exact ⟨[],by simp,rfl,rfl,λl i _=>trivial⟩
 | [],_::_,cs,h=>by simp [LL] at h
 | .tmp _::_,[],cs,h=>by simp [LL] at h
 | .cell _ _::_,[],cs,h=>by simp [LL] at h
 | .cell x t::rs,n::ns,cs,h=>by
   simp only [LL] at h
   split at h
   ·rename_i y ys hx e
    cases h
    obtain ⟨p,hp,d⟩:=bR.1 hx
    obtain ⟨v,hv,r⟩:=Bx (P:=P) c hp
    obtain ⟨hn,h1⟩:=IX c.inv.q r d
    obtain ⟨vs,h2,f,g,k⟩:=LS c rs ns ys e
    have m:ou P st (.cell x t::rs)=iM st.h p++ou P st rs:=by simp only [ou,hp]
    rw [m]
    refine ⟨v::vs,?_,by simp [f],by simp [g],λl i hl=>⟨(h1 l i λj hj=> ?_).more λb hb=>jG.sub (λq d=>ic _ d) hb,(k l (i+n) λj hj=> ?_).sub λb hb=>jG.sub (λq d=>ia _ d) hb⟩⟩
    ·have o:(ik a.tmps (.cell x t)).run P w= .ok v w:=hv
     simp only [hU,c6,o,h2,hd,ch]
    ·rw [hl j (by simp;omega),kx (by omega)]
    ·have:=hl (n+j) (by simp;omega)
     rw [show i+n+j=i+(n+j) by omega,this,<-hn,mU]
   ·cases h
 | .tmp t::rs,n::ns,cs,h=>by
   simp only [LL] at h
   split at h
   ·rename_i x xs hx e
    cases h
    have r:RP w ok mu (st.fr.getD t .undef) (a.tmps.getD t undef):=c.fr.ev (.tmp t)
    obtain ⟨hn,h1⟩:=IX c.inv.q r hx
    obtain ⟨vs,h2,f,g,k⟩:=LS c rs ns xs e
    refine ⟨a.tmps.getD t undef::vs,?_,by simp [f],by simp [g],λl i hl=>⟨(h1 l i λj hj=> ?_).more λb hb=>jG.sub (λq d=>ic _ d) hb,(k l (i+n) λj hj=> ?_).sub λb hb=>jG.sub (λq d=>ia _ d) hb⟩⟩
    ·simp only [hU,ik,c6,h2,hd,ch]
    ·rw [hl j (by simp;omega),kx (by omega)]
    ·have:=hl (n+j) (by simp;omega)
     rw [show i+n+j=i+(n+j) by omega,this,<-hn,mU]
   ·cases h
theorem WH (Y:aF P Γ) (hC:COK P C) (hm:P.follows .mixedOrders=true) {g:eW} {f:mb} (hg:P.funcs[g]? =some f) (hb:(match f.body with | some c=>Ev Γ A c | none=>false)=true) {W:c7} {t:Nat->Prop} (hok: ∀b,t b->b < W.heap.size)
  {shp:List Sc} {vs:List IV} {G:c5} {pl:Pl} {pA:Nat->Pl} (tv:ObjVal W t shp vs G pl pA) (R: ∀b,ObjLoc shp pl pA b->b < W.heap.size)
  {as:List (List IV)} {args:List c5} (s:cL W t as args) {r:List IV} (hr:runM P Γ C A shp f vs as=some r):
  lv P g (G::args).toArray W λe w'=> ∃v ok' m,e= .returned v/\w'.os=W.os/\w'.tape=W.tape/\w'.output=W.output/\W.heap.size<=w'.heap.size/\Sizes W w'/\
   (∀b,b < W.heap.size-> ¬ObjLoc shp pl pA b->w'.heap[b]? =W.heap[b]?)/\(∀b,t b->ok' b)/\(∀b,ok' b->t b\/(W.heap.size<=b/\b < w'.heap.size)\/ObjBuf shp pA b)/\ObjVal w' ok' shp r G pl m/\
   (∀b,ObjBuf shp m b->(W.heap.size<=b/\b < w'.heap.size)\/ObjBuf shp pA b)/\gm w' ok' (f.resultTypes.toList.map P.cellsOf) (r.drop shp.length) v:=by
 unfold runM at hr
 split at hr
 ·rename_i c ps hc T
  rw [hc] at hb
  split at hr
  ·rename_i y
   obtain ⟨a9,X⟩:=y
   obtain ⟨hl,hrel⟩:=p8 _ _ _ _ _ T s.1 s.2
   obtain ⟨b0,x,c0,T0,I,L,_⟩:=tv.box
   obtain ⟨Z,hinv,H,_,w,_⟩:=(Te hok (λb=>ObjLoc shp pl pA b)).addObj (λ_ _=>rfl) (r:=vs) (i0:=0) tv (λj _=>by rw [hD]) λb hb=>⟨.inr hb,R b hb,λo p' base' h=>by cases h⟩
   simp only [ke,List.length_nil,hD] at hinv H w
   refine calls_of_wp hg hc (Cb (w0:=W) (ok0:=⟨t,λb=>ObjLoc shp pl pA b⟩) Y hC hm c hb _ _ _ r hr (λ_ _=>rfl) _ W t Z ⟨hinv,H,abo (by rw [L];exact .ptr shp.length 0 pl b0 x w I) hl hrel f.ntmps⟩ _ λe a a' w' ok' mu' hk d u=> ?_)
   have done:(match wh a.h (ou P a f.results.toList) with | some h1=>(match DH h1 shp (a.fr.getD 0 .undef),LL P a f.results.toList (f.resultTypes.toList.map P.cellsOf) with | some p,some r=>some (p.1++r) | _,_=>none) | none=>none)=some r->a'.defers=[]/\ ∃v,(results f a'.tmps).run P w'= .ok v w'/\ ∃O ok' m,Ending.returned v= .returned O/\w'.os=W.os/\w'.tape=W.tape/\w'.output=W.output/\W.heap.size<=w'.heap.size/\Sizes W w'/\
         (∀b,b < W.heap.size-> ¬ObjLoc shp pl pA b->w'.heap[b]? =W.heap[b]?)/\(∀b,t b->ok' b)/\(∀b,ok' b->t b\/(W.heap.size<=b/\b < w'.heap.size)\/ObjBuf shp pA b)/\ObjVal w' ok' shp r G pl m/\
         (∀b,ObjBuf shp m b->(W.heap.size<=b/\b < w'.heap.size)\/ObjBuf shp pA b)/\gm w' ok' (f.resultTypes.toList.map P.cellsOf) (r.drop shp.length) O:=by
     intro h
     split at h
     rotate_left
     ·cases h
     rename_i h1 Q
     split at h
     ·rename_i p rs hp V
      cases h
      obtain ⟨vs',os⟩:=p
      have i:=d.inv.freeze d.fresh Q
      have S:Later w' ok' mu' w' (jG ok' mu' (ou P a f.results.toList)) mu':=⟨⟨λ_ _=>rfl,λ_ h=> .inl h⟩,λ_ _ h=>h,.refl _⟩
      have M:a'.tmps.getD 0 undef=G:=by
       have:=u.same 0 (by simpa using X)
       rw [iH,this]
       exact Z4 _ _ _
      have K:RP w' (jG ok' mu' (ou P a f.results.toList)) mu' (a.fr.getD 0 .undef) G:=by
       have:RP w' ok' mu' (a.fr.getD 0 .undef) (a'.tmps.getD 0 undef):=d.fr.ev (.tmp 0)
       rw [M] at this
       exact this.later S
      obtain ⟨_,q0,U,_⟩:=Cf hp
      rw [U] at hp K
      obtain ⟨ab,m,a7,N,D,a8,al,hA⟩:=xw i hp K
      have J:pl.loc=ab.loc:=by
       obtain ⟨b2,n,c2,T2,q,F,_⟩:=N.box
       rw [L] at F
       simp only [Value.pointer.injEq,hT,Addr.mk.injEq] at F
       rw [I,q,F.1,F.2.1]
      have E:=N.at J
      obtain ⟨us,g1,g2,g3,g4⟩:=LS (P:=P) d _ _ _ V
      have z:(vs'++rs).drop shp.length=rs:=by rw [<-D,List.drop_left]
      obtain ⟨v,k1,k2⟩:=XK (f:=f) (ok:=jG ok' mu' (ou P a f.results.toList)) (r:=rs) g1 (g2.trans g3) (g4 rs 0 λj _=>by rw [hD])
      refine ⟨u.defers,v,k1,v,jG ok' mu' (ou P a f.results.toList),m,rfl,d.inv.below.os,d.inv.below.tape,d.inv.below.output,d.inv.below.size,u.later.sizes,λb hb h1=>d.inv.below.block b hb h1,λb hb=> .inl (u.later.keeps.more b hb),λb hb=> ?_,E.congr λj hj=> ?_,λb hb=> ?_,by rw [z];exact k2⟩
      ·rcases i.okb b hb with h | h | h
       ·exact .inl h
       ·exact .inr (.inl ⟨h,i.okw b hb⟩)
       ·rcases h with h | h
        ·exact absurd hb (E.free b (.inl h))
        ·exact .inr (.inr h)
      ·rw [kx (by show j < vs'.length;omega)]
      ·obtain ⟨k,a6,_,ac,base,g5,g6⟩:=hA b hb
       obtain ⟨q,F,_⟩:=i.own k ac b base g5 g6
       rcases q with q | q
       ·exact .inl ⟨q,F⟩
       ·rcases q with ⟨n,q⟩ | q
        ·exact absurd hb (E.apart b n q)
        ·exact .inr q
     ·cases h
   cases e with
   | normal=>exact done hk
   | exit j=>cases hk
   | goto l=>cases hk
   | ret=>exact done hk
  ·cases hr
 ·cases hr
theorem oh (d:aF P Γ) (l:COK P C) (hm:P.follows .mixedOrders=true) {g:eW} {f:mb} (m:P.funcs[g]? =some f) (hb:(match f.body with | some c=>Ev Γ A c | none=>false)=true)
  {ns:List Nat} (k:f.resultTypes.toList.map P.cellsOf=ns) {shp:List Sc} {fn:List (List IV)->Option (List IV)} (e: ∀vs as r,vs.length=shp.length->fn (vs::as)=some r->runM P Γ C A shp f vs as=some r) (b: ∀as r,fn ([.nilp]::as)=some r->run P Γ C A f ([.nilp]::as)=some r):ay P g ⟨.obj shp,false,ns,0,fn⟩:=by
 subst k
 refine ⟨λw ok as vs o pl pA args r hok hlen n j a hr=>WH d l hm m hb hok n j a (e vs as r hlen hr),λw ok=>aX d l hm m hb (caps:=[]) (cv:=[]) ⟨rfl,λi c v h=>by simp at h⟩ rfl λas r h=> ?_⟩
 split at h
 ·simpa using b _ r h
 ·cases h
theorem WO (E:aF P Γ) (K:COK P C) (hm:P.follows .mixedOrders=true) {g:eW} {f:mb} (L:P.funcs[g]? =some f) (hb:(match f.body with | some c=>Ev Γ A c | none=>false)=true) {W:c7} {m:Nat->Prop} (hok: ∀b,m b->b < W.heap.size)
  {shp:List Sc} {as:List (List IV)} {args:List c5} (i:cL W m as args) {r:List IV} (hr:runN P Γ C A shp f as=some r):
  lv P g args.toArray W λe w'=> ∃v ok' pl pA,e= .returned v/\Below W.heap.size W w'/\(∀b,m b->ok' b)/\(∀b,ok' b->m b\/(W.heap.size<=b/\b < w'.heap.size))/\ObjVal w' ok' shp r v pl pA/\
    ∀b,ObjLoc shp pl pA b->W.heap.size<=b/\b < w'.heap.size:=by
 unfold runN at hr
 split at hr
 ·rename_i c ps hc z
  rw [hc] at hb
  obtain ⟨hl,hrel⟩:=p8 _ _ _ _ _ z i.1 i.2
  refine calls_of_wp L hc (Cb (w0:=W) (ok0:=⟨m,λ_=>False⟩) E K hm c hb _ _ _ r hr (λ_ _=>rfl) _ W m (λ_=>none) ⟨Te hok _,λ_ _=>rfl,acJ hl hrel f.ntmps⟩ _ λe n a' w' ok' mu' hk a s=> ?_)
  have done:(match f.results.toList with | [.tmp t]=>(DH n.h shp (n.fr.getD t .undef)).map (·.1) | _=>none)=some r->a'.defers=[]/\ ∃v,(results f a'.tmps).run P w'= .ok v w'/\ ∃u ok' pl pA,Ending.returned v= .returned u/\Below W.heap.size W w'/\(∀b,m b->ok' b)/\(∀b,ok' b->m b\/(W.heap.size<=b/\b < w'.heap.size))/\ObjVal w' ok' shp r u pl pA/\
    ∀b,ObjLoc shp pl pA b->W.heap.size<=b/\b < w'.heap.size:=by
   intro h
   split at h
   ·rename_i t ht
    obtain ⟨⟨vs',os⟩,hp,rfl⟩:=g7.1 h
    have rp:RP w' ok' mu' (n.fr.getD t .undef) (a'.tmps.getD t undef):=a.fr.ev (.tmp t)
    obtain ⟨_,q,M,_⟩:=Cf hp
    rw [M] at hp rp
    obtain ⟨pl,pA,x,O,w,N,F,J⟩:=xw a.inv hp rp
    have p:(results f a'.tmps).run P w'= .ok (a'.tmps.getD t undef) w':=by
     have y:(f.results.mapM (ik a'.tmps)).run P w'= .ok #[a'.tmps.getD t undef] w':=by
      rw [hH,map_eq_pure_bind,ht]
      simp only [hU,List.mapM_nil,ik,c6,hd,ch]
     have D:results f a'.tmps=(do let vs <-f.results.mapM (ik a'.tmps);pure (if h:vs.size=1 then vs[0] else .tuple vs)):=by
      unfold results
      congr 2
     rw [D,c6,y]
     rfl
    refine ⟨s.defers,_,p,_,ok',pl,pA,rfl,a.inv.below.below λ_ h=>h,s.later.keeps.more,λb hb=> ?_,O,λb hb=> ?_⟩
    ·rcases a.inv.okb b hb with h | h | h
     ·exact .inl h
     ·exact .inr ⟨h,a.inv.okw b hb⟩
     ·exact h.elim
    ·have key: ∀k d base,mu' k=some d->d.loc=some (b,base)->W.heap.size<=b/\b < w'.heap.size:= λk d base h1 h2=>by
      obtain ⟨o,G,_⟩:=a.inv.own k d b base h1 h2
      rcases o with o | o
      ·exact ⟨o,G⟩
      ·exact o.elim
     rcases hb with ⟨base,hb⟩ | hb
     ·exact key q pl base x hb
     ·obtain ⟨k,_,_,d,base,H,I⟩:=J b hb
      exact key k d base H I
   ·cases h
  cases e with
  | normal=>exact done hk
  | exit j=>cases hk
  | goto l=>cases hk
  | ret=>exact done hk
 ·cases hr
theorem sig_mko (d:aF P Γ) (e:COK P C) (hm:P.follows .mixedOrders=true) {g:eW} {f:mb} (h:P.funcs[g]? =some f) (hb:(match f.body with | some c=>Ev Γ A c | none=>false)=true)
  {ns:List Nat} {shp:List Sc} {fn:List (List IV)->Option (List IV)} (b: ∀as r,fn as=some r->runN P Γ C A shp f as=some r):ay P g ⟨.mko shp,false,ns,0,fn⟩:=
 λw ok as args r hok a hr=>WO d e hm h hb hok a (b as r hr)
end
end Go.AM
namespace Go.AM
open Go.RowKit
section
variable {P:ek} {Γ:eW->Option FSig} {C:IV->List Nat->List (List IV)->Option (List IV)} {A:Ann} {ops:Array kk} {R S:Type}
theorem Ai {o:kk} {st:St} (k:St->Option R) (f:R->Option S):(vQ P Γ C ops o st k).bind f=vQ P Γ C ops o st λst=>(k st).bind f:=by
 unfold vQ
 simp only
 split
 ·rw [Br]
 ·split
  ·rfl
  ·split
   ·rw [GJ]
    congr 1<;>funext _<;>split<;>first | rw [Br] | rfl
   ·rfl
   ·rfl
theorem zX: ∀(l:List kk) (st:St) (k:St->Option R) (f:R->Option S),(mH P Γ C ops l st k).bind f=mH P Γ C ops l st λst=>(k st).bind f
 | [],st,k,f=>rfl
 | o::l,st,k,f=>by
   simp only [mH]
   rw [Ai]
   congr 1
   funext a
   exact zX l a k f
theorem GD {ok:kk->List PV->Bool}: ∀(l:List kk) (st:St) (k:St->Option R) (f:R->Option S),(sN P Γ C ok ops l st k).bind f=sN P Γ C ok ops l st λst=>(k st).bind f
 | [],st,k,f=>rfl
 | o::l,st,k,f=>by
   simp only [sN]
   split
   ·rw [Ai]
    congr 1
    funext a
    exact GD l a k f
   ·rfl
theorem D1 {ok:kk->List PV->Bool}: ∀(l:List kk) (st:St) (k:St->Option R) (f:R->Option S),(qJ P Γ C ok ops l st k).bind f=qJ P Γ C ok ops l st λst=>(k st).bind f
 | [],st,k,f=>rfl
 | o::l,st,k,f=>by
   simp only [qJ]
   split
   ·split
    ·exact D1 l _ k f
    ·rfl
   ·split
    ·rw [Ai]
     congr 1
     funext a
     exact D1 l a k f
    ·rfl
theorem WJ {ord:Option (List Nat×List Nat×List Nat)} {st:St} (k:St->Option R) (f:R->Option S):(rY P Γ C ord ops st k).bind f=rY P Γ C ord ops st λst=>(k st).bind f:=by
 unfold rY
 split
 ·exact zX _ _ _ _
 ·rw [GD]
  congr 1;funext a
  rw [D1]
  congr 1;funext b
  rw [GD]
theorem Yt {α:Type} {k:Nat} {l:List α} {g:α->Option R} (f:R->Option S):(fg k (l.map g)).bind f=fg k (l.map λx=>(g x).bind f):=by
 unfold fg
 rw [e9,e9,hS,hS]
 cases l[k]? <;>rfl
theorem pB: ∀(c:mx) (R S:Type) (st:St) (K:Ex->St->Option R) (f:R->Option S),(exec P Γ C A c R st K).bind f=exec P Γ C A c S st λe st=>(K e st).bind f:=by
 intro c
 induction c with
 | seq x y g b=>
   intro R S st K f
   simp only [exec]
   rw [g]
   congr 1;funext e a
   cases e with
   | normal=>exact b R S a K f
   | _=>rfl
 | block id x ih=>
   intro R S st K f
   simp only [exec]
   rw [ih]
   congr 1;funext e a
   cases e with
   | exit j=>simp only;split<;>rfl
   | _=>rfl
 | scope x ih=>
   intro R S st K f
   simp only [exec]
   rw [ih]
   congr 1;funext e a
   cases e<;>rfl
 | cond x y z b h=>
   intro R S st K f
   simp only [exec]
   split
   ·rw [GJ]
    congr 1<;>funext _
    ·exact b R S st K f
    ·exact h R S st K f
   ·rfl
 | region id ops draw=>
   intro R S st K f
   simp only [exec]
   split
   ·rw [WJ]
   ·rw [fv]
 | loop x ih=>
   intro R S st K f
   simp only [exec]
   split
   ·generalize A.unroll (aU x)=n
    induction n generalizing st with
    | zero=>rfl
    | succ n d=>
      simp only [unr]
      rw [ih]
      congr 1;funext e a
      cases e with
      | normal=>exact d a
      | _=>rfl
   split
   ·split
    ·rfl
    ·rw [fv]
     congr 1;funext p
     rw [Yt]
   ·rfl
 | _=>intro R S st K f;simp [exec]
theorem OV: ∀(c:mx) (R S:Type) (st:St) (K:Ex->St->Option R) (f:R->Option S),(dy P Γ C A c R st K).bind f=dy P Γ C A c S st λe st=>(K e st).bind f:=by
 intro c
 induction c with
 | seq x y _ b=>
   intro R S st K f
   by_cases hx: ∃d,x= .label d
   ·obtain ⟨d,rfl⟩:=hx
    simp only [dy]
    split
    ·unfold MR
     simp only
     split
     ·split
      ·rfl
      ·rw [fv]
       congr 1;funext p
       rw [Yt]
     ·rfl
    ·exact pB _ _ _ _ _ _
   ·have h1: ∀(T:Type) (K:Ex->St->Option T),dy P Γ C A (.seq x y) T st K=exec P Γ C A x T st (λe a=>match e with | .normal=>dy P Γ C A y T a K | e=>K e a):= λT K=>by
     cases x<;>first | exact absurd ⟨_,rfl⟩ hx | rfl
    rw [h1,h1,pB]
    congr 1;funext e a
    cases e with
    | normal=>exact b R S a K f
    | _=>rfl
 | _=>intro R S st K f;exact pB _ _ _ _ _ _
theorem VD: ∀(c:mx) (R S:Type) (st:St) (K:Ex->St->Option R) (f:R->Option S),(gz P Γ C A c R st K).bind f=gz P Γ C A c S st λe st=>(K e st).bind f:=by
 intro c
 induction c with
 | seq x y _ a=>
   intro R S st K f
   simp only [gz]
   rw [pB]
   congr 1;funext e d
   cases e with
   | normal=>exact a R S d K f
   | _=>rfl
 | scope b _=>
   intro R S st K f
   simp only [gz]
   split
   ·exact OV _ _ _ _ _ _
   ·exact pB _ _ _ _ _ _
 | _=>intro R S st K f;exact pB _ _ _ _ _ _
theorem s8 {k:St->Option R} {r:R}: ∀(l:List kk) (st:St),mH P Γ C ops l st k=some r-> ∃a,Stay st.h a.h/\k a=some r
 | [],st,h=>⟨st,.refl _,h⟩
 | o::l,st,h=>by
   simp only [mH] at h
   obtain ⟨b,_,hc⟩:=dp h
   rcases hc with ⟨_,p,h',h1,h2⟩ | ⟨_,h2⟩
   ·obtain ⟨a,c,d⟩:=s8 l _ h2
    exact ⟨a,(qK h1).trans c,d⟩
   ·obtain ⟨a,c,d⟩:=s8 l _ h2
    exact ⟨a,c,d⟩
theorem yh {ok:kk->List PV->Bool} {k:St->Option R} {r:R}: ∀(l:List kk) (st:St),sN P Γ C ok ops l st k=some r-> ∃a,Stay st.h a.h/\k a=some r
 | [],st,h=>⟨st,.refl _,h⟩
 | o::l,st,h=>by
   simp only [sN] at h
   split at h
   ·obtain ⟨b,_,hc⟩:=dp h
    rcases hc with ⟨_,p,h',h1,h2⟩ | ⟨_,h2⟩
    ·obtain ⟨a,c,d⟩:=yh l _ h2
     exact ⟨a,(qK h1).trans c,d⟩
    ·obtain ⟨a,c,d⟩:=yh l _ h2
     exact ⟨a,c,d⟩
   ·cases h
theorem wi {ok:kk->List PV->Bool} {k:St->Option R} {r:R}: ∀(l:List kk) (st:St),qJ P Γ C ok ops l st k=some r-> ∃a,Stay st.h a.h/\k a=some r
 | [],st,h=>⟨st,.refl _,h⟩
 | o::l,st,h=>by
   simp only [qJ] at h
   split at h
   ·split at h
    ·obtain ⟨a,c,d⟩:=wi l _ h
     exact ⟨a,c,d⟩
    ·cases h
   ·split at h
    ·obtain ⟨b,_,hc⟩:=dp h
     rcases hc with ⟨_,p,h',h1,h2⟩ | ⟨_,h2⟩
     ·obtain ⟨a,c,d⟩:=wi l _ h2
      exact ⟨a,(qK h1).trans c,d⟩
     ·obtain ⟨a,c,d⟩:=wi l _ h2
      exact ⟨a,c,d⟩
    ·cases h
theorem VI {ord:Option (List Nat×List Nat×List Nat)} {k:St->Option R} {r:R} {st:St} (h:rY P Γ C ord ops st k=some r): ∃a,Stay st.h a.h/\k a=some r:=by
 unfold rY at h
 split at h
 ·exact s8 _ _ h
 ·obtain ⟨d,h1,h⟩:=yh _ _ h
  obtain ⟨e,h2,h⟩:=wi _ _ h
  obtain ⟨b,c,h⟩:=yh _ _ h
  exact ⟨b,(h1.trans h2).trans c,h⟩
theorem QD {st:St} {L:List (Nat×Kd)} {h1:List Ob} (hf:wh st.h (bq st L)=some h1) (hm:m0 st h1 L=true) (vs:List IV) (c:List (Nat×Kd)) (hk: ∀o∈wK c,o∈taken st L) (fr:List PV):Stay st.h (unpack vs c 0 ⟨fr,kill h1 (taken st L)⟩).h:=by
 have hlen:=(fp hf).len
 have d:Stay st.h (kill h1 (taken st L)):=⟨by rw [fD,hlen];exact hq _,λo b a=>by
  have h2:=(kL hf).keep o b a
  rw [nC,if_neg λe=>by
   simp only [m0,hF,hE] at hm
   have:=hm.2 o e
   rw [h2,a] at this;cases this]
  exact h2⟩
 obtain ⟨g,i⟩:=yc vs c 0 ⟨fr,kill h1 (taken st L)⟩
 refine ⟨hP d.len g,λo b a=> ?_⟩
 rw [i o (k3 b d.len) λf=> ?_]
 ·exact d.keep o b a
 ·simp only [m0,hF,hE] at hm
  have:=hm.2 o (hk o f)
  rw [(kL hf).keep o b a,a] at this;cases this
theorem TQ {st:St} {p:List (Nat×Kd)×List (List (Nat×Kd))} {vs:List IV} (hp:pack st p.1=some vs) (hk:acH p=true) (n:Nat): ∀o∈wK (p.2.getD n []),o∈taken st p.1:= λo a=>by
 rw [e9] at a
 cases hx:p.2[n]? with
 | none=>rw [hx] at a;cases a
 | some b=>
   rw [hx] at a
   have c:=hE.1 (hE.1 hk b (hB hx)) o a
   exact ur hp o (by simpa using c)
theorem mW: ∀(c:mx) (R:Type) (st:St) (K:Ex->St->Option R) (r:R),exec P Γ C A c R st K=some r-> ∃e a,Stay st.h a.h/\K e a=some r:=by
 intro c
 induction c with
 | skip=>intro R st K r h;exact ⟨_,_,.refl _,h⟩
 | label l=>intro R st K r h;exact ⟨_,_,.refl _,h⟩
 | ret=>intro R st K r h;exact ⟨_,_,.refl _,h⟩
 | exit id=>intro R st K r h;exact ⟨_,_,.refl _,h⟩
 | goto l=>intro R st K r h;exact ⟨_,_,.refl _,h⟩
 | seq x y m b=>
   intro R st K r h
   simp only [exec] at h
   obtain ⟨e,a,h1,h2⟩:=m R st _ r h
   cases e with
   | normal=>
     obtain ⟨g,d,f,i⟩:=b R a K r h2
     exact ⟨g,d,h1.trans f,i⟩
   | exit id=>exact ⟨_,_,h1,h2⟩
   | ret=>exact ⟨_,_,h1,h2⟩
   | goto l=>exact ⟨_,_,h1,h2⟩
 | block id x ih=>
   intro R st K r h
   simp only [exec] at h
   obtain ⟨e,a,h1,h2⟩:=ih R st _ r h
   cases e with
   | normal=>exact ⟨_,_,h1,h2⟩
   | exit j=>simp only at h2;split at h2<;>exact ⟨_,_,h1,h2⟩
   | ret=>exact ⟨_,_,h1,h2⟩
   | goto l=>exact ⟨_,_,h1,h2⟩
 | scope x ih=>
   intro R st K r h
   simp only [exec] at h
   obtain ⟨e,a,h1,h2⟩:=ih R st _ r h
   cases e with
   | goto l=>cases h2
   | _=>exact ⟨_,_,h1,h2⟩
 | cond x y z b o=>
   intro R st K r h
   simp only [exec] at h
   split at h
   ·rcases oH h with ⟨_,h1⟩ | ⟨_,h1⟩
    ·exact b R st K r h1
    ·exact o R st K r h1
   ·cases h
 | region id ops draw=>
   intro R st K r h
   simp only [exec] at h
   split at h
   ·obtain ⟨a,h1,h2⟩:=VI h;exact ⟨_,_,h1,h2⟩
   ·obtain ⟨q,_,h2⟩:=bR.1 h;exact ⟨.normal,⟨xC q _ 0 (forget st.fr (dsts ops.toList)),st.h⟩,Stay.refl st.h,h2⟩
 | loop x ih=>
   intro R st K r h
   simp only [exec] at h
   split at h
   ·generalize A.unroll (aU x)=n at h
    induction n generalizing st with
    | zero=>cases h
    | succ n k=>
      simp only [unr] at h
      obtain ⟨e,a,h1,h2⟩:=ih _ _ _ _ h
      cases e with
      | normal=>
        obtain ⟨g,d,f,i⟩:=k _ h2
        exact ⟨g,d,h1.trans f,i⟩
      | _=>exact ⟨_,_,h1,h2⟩
   split at h
   ·rename_i vs0 h1 hp hf
    split at h
    ·cases h
    ·rename_i hm
     obtain ⟨p,_,h2⟩:=bR.1 h
     obtain ⟨e,f⟩:=K4 h2
     simp only [k5,hF] at hm
     exact ⟨_,_,QD hf hm.1 _ _ (TQ hp hm.2 _) _,f⟩
   ·cases h
 | _=>intro R st K r h;simp [exec] at h
theorem KM: ∀(c:mx) (R:Type) (st:St) (K:Ex->St->Option R) (r:R),dy P Γ C A c R st K=some r-> ∃e a,Stay st.h a.h/\K e a=some r:=by
 intro c
 induction c with
 | seq x y _ d=>
   intro R st K r h
   by_cases hx: ∃g,x= .label g
   ·obtain ⟨g,rfl⟩:=hx
    simp only [dy] at h
    split at h
    ·unfold MR at h
     simp only at h
     split at h
     ·rename_i vs0 h1 hp hf
      split at h
      ·cases h
      ·rename_i hm
       obtain ⟨p,_,h2⟩:=bR.1 h
       obtain ⟨e,b⟩:=K4 h2
       simp only [k5,hF] at hm
       exact ⟨_,_,QD hf hm.1 _ _ (TQ hp hm.2 _) _,b⟩
     ·cases h
    ·exact mW _ _ _ _ _ h
   ·have h':exec P Γ C A x R st (λe a=>match e with | .normal=>dy P Γ C A y R a K | e=>K e a)=some r:=by
     cases x<;>first | exact absurd ⟨_,rfl⟩ hx | exact h
    obtain ⟨e,a,h1,h2⟩:=mW _ _ _ _ _ h'
    cases e with
    | normal=>
      obtain ⟨i,f,b,j⟩:=d R a K r h2
      exact ⟨i,f,h1.trans b,j⟩
    | _=>exact ⟨_,_,h1,h2⟩
 | _=>intro R st K r h;exact mW _ _ _ _ _ h
theorem Ta: ∀(c:mx) (R:Type) (st:St) (K:Ex->St->Option R) (r:R),gz P Γ C A c R st K=some r-> ∃e a,Stay st.h a.h/\K e a=some r:=by
 intro c
 induction c with
 | seq x y _ d=>
   intro R st K r h
   simp only [gz] at h
   obtain ⟨e,a,h1,h2⟩:=mW _ _ _ _ _ h
   cases e with
   | normal=>
     obtain ⟨g,f,i,j⟩:=d R a K r h2
     exact ⟨g,f,h1.trans i,j⟩
   | _=>exact ⟨_,_,h1,h2⟩
 | scope b _=>
   intro R st K r h
   simp only [gz] at h
   split at h
   ·exact KM _ _ _ _ _ h
   ·exact mW _ _ _ _ _ h
 | _=>intro R st K r h;exact mW _ _ _ _ _ h
end
theorem XB (P:ek) (Γ:eW->Option FSig) (C:IV->List Nat->List (List IV)->Option (List IV)) (A:Ann) (f:mb) (R S:Type) (ps:List PV) (h:List Ob) (k:PV->List Ob->Option R) (g:R->Option S):
  (tV P Γ C A f R ps h k).bind g=tV P Γ C A f S ps h λp h=>(k p h).bind g:=by
 unfold tV
 split
 ·rw [VD]
  congr 1;funext e st
  cases e with
  | exit j=>rfl
  | goto l=>rfl
  | normal=>simp only;rw [fv]
  | ret=>simp only;rw [fv]
 ·rfl
theorem Vj (P:ek) (Γ:eW->Option FSig) (C:IV->List Nat->List (List IV)->Option (List IV)) (A:Ann) (f:mb) (ps:List PV) (h:List Ob) (p:PV) (h':List Ob)
  (hr:tV P Γ C A f (PV×List Ob) ps h (λp h=>some (p,h))=some (p,h')):Stay h h':=by
 unfold tV at hr
 split at hr
 ·obtain ⟨e,st,h1,h2⟩:=Ta _ _ _ _ _ hr
  cases e with
  | exit j=>cases h2
  | goto l=>cases h2
  | normal=>obtain ⟨b,_,a⟩:=bR.1 h2;cases a;exact h1
  | ret=>obtain ⟨b,_,a⟩:=bR.1 h2;cases a;exact h1
 ·cases hr
def lA (P:ek) (Γ:eW->Option FSig) (C:IV->List Nat->List (List IV)->Option (List IV)) (A:Ann) (f:mb):Inl:=⟨tV P Γ C A f,XB P Γ C A f,Vj P Γ C A f⟩
section
variable {P:ek} {Γ:eW->Option FSig} {C:IV->List Nat->List (List IV)->Option (List IV)} {A:Ann} {w0:c7} {ok0:O0} {w:c7} {ok:Nat->Prop} {mu:Mu} {st:St} {a:Act}
theorem Fc (c:Cfg w0 ok0 w ok mu st a): ∀(rs:List ResultVar) (ps:List PV),O6 P st rs=some ps-> ∃vs,(rs.mapM (ik a.tmps)).run P w= .ok vs w/\vs.length=rs.length/\ps.length=rs.length/\
  ∀(j:Nat) (p:PV) (v:c5),ps[j]? =some p->vs[j]? =some v->RP w ok mu p v
 | [],ps,h=>by
   simp only [O6,hT] at h
   subst h
   exact ⟨[],rfl,rfl,rfl,λj p v h _=>by simp at h⟩
 | .tmp t::rs,ps,h=>by
   simp only [O6] at h
   obtain ⟨e,h0,rfl⟩:=g7.1 h
   obtain ⟨vs,h1,h2,f,g⟩:=Fc c rs e h0
   have r:RP w ok mu (st.fr.getD t .undef) (a.tmps.getD t undef):=c.fr.ev (.tmp t)
   refine ⟨a.tmps.getD t undef::vs,?_,by simp [h2],by simp [f],λj p v b d=> ?_⟩
   ·simp only [hU,ik,c6,h1,hd,ch]
   ·cases j with
    | zero=>simp at b d;subst b;subst d;simpa [iH] using r
    | succ j=>exact g j p v (by simpa using b) (by simpa using d)
 | .cell x t::rs,ps,h=>by
   simp only [O6] at h
   split at h
   ·rename_i m e hx i
    cases h
    obtain ⟨vs,h1,h2,f,g⟩:=Fc c rs e i
    obtain ⟨l,hv,r⟩:=Bx (P:=P) c hx
    have k:(ik a.tmps (.cell x t)).run P w= .ok l w:=hv
    refine ⟨l::vs,?_,by simp [h2],by simp [f],λj p v b d=> ?_⟩
    ·simp only [hU,c6,k,h1,hd,ch]
    ·cases j with
     | zero=>simp at b d;subst b;subst d;exact r
     | succ j=>exact g j p v (by simpa using b) (by simpa using d)
   ·cases h
theorem aO (y:aF P Γ) (F:COK P C) (hm:P.follows .mixedOrders=true) {g:eW} {f:mb} (G:P.funcs[g]? =some f) (hb:(match f.body with | some c=>Ev Γ A c | none=>false)=true) {H:Bool} {ns:List Nat} {esz:Nat} {fn:List (List IV)->Option (List IV)}:
  ay P g ⟨.inl (lA P Γ C A f),H,ns,esz,fn⟩:=by
 intro w0 ok0 w ok mu h ps args p h' i a hlen hrel hr
 have b:tV P Γ C A f (PV×List Ob) ps h (λp h=>some (p,h))=some (p,h'):=hr
 unfold tV at b
 split at b
 ·rename_i c hc
  rw [hc] at hb
  have s:Fr w ok mu (ps++hO (f.ntmps - ps.length) .skip) (args.toArray++h8 (f.ntmps - args.toArray.size) undef):=by
   refine ⟨by simp [hlen],λt p v h1 h2=> ?_⟩
   simp only [hG,c4] at h2
   by_cases m:t < args.length
   ·rw [bB (by omega)] at h1
    rw [if_pos m] at h2
    exact hrel t p v h1 (by simpa using h2)
   ·rw [bO (by omega),hN] at h1
    rw [if_neg m,hK] at h2
    split at h1
    ·split at h2
     ·cases h1;cases h2;exact .skip
     ·cases h2
    ·cases h1
  refine calls_of_wp G hc (Cb (w0:=w0) (ok0:=ok0) y F hm c hb _ _ _ (p,h') b (λ_ _=>rfl) _ w ok mu ⟨i,a,s⟩ _ λe o a' w' ok' mu' hk d n=> ?_)
  have done:(O6 P o f.results.toList).bind (λps=>some (aaT ps,o.h))=some (p,h')->a'.defers=[]/\ ∃v,(results f a'.tmps).run P w'= .ok v w'/\ ∃r,Ending.returned v= .returned r/\ ∃ok' mu',Later w ok mu w' ok' mu'/\Inv w0 ok0 w' ok' mu' h'/\RP w' ok' mu' p r/\ ∀q,h'.length<=q->mu' q=none:=by
   intro h
   obtain ⟨rs,h1,h2⟩:=bR.1 h
   cases h2
   obtain ⟨vs,z,D,E,k⟩:=Fc (P:=P) d _ _ h1
   have x:results f a'.tmps=(do let vs <-f.results.mapM (ik a'.tmps);pure (if h:vs.size=1 then vs[0] else .tuple vs)):=by
    unfold results
    congr 2
   have u:(f.results.mapM (ik a'.tmps)).run P w'= .ok vs.toArray w':=by
    rw [hH,map_eq_pure_bind]
    simp only [c6,z,ch,hd]
   refine ⟨n.defers,if h:vs.toArray.size=1 then vs.toArray[0] else .tuple vs.toArray,by rw [x,c6,u];rfl,_,rfl,ok',mu',n.later,d.inv,?_,d.fresh⟩
   match rs,vs,E.trans D.symm,k with
   | [q],[v],_,k=>exact k 0 q v rfl rfl
   | [],[],_,_=>exact .tup _ _ rfl λi p v h1 h2=>by simp at h1
   | q::I::rs,v::J::vs,hl,k=>
     rw [dif_neg (by simp)]
     exact .tup _ _ (by simpa using hl) λi p v h1 h2=>k i p v h1 (by simpa using h2)
  cases e with
  | normal=>exact done hk
  | exit j=>cases hk
  | goto l=>cases hk
  | ret=>exact done hk
 ·cases b
end
end Go.AM
namespace Go.AM
open Go.RowKit
def abm (ops:Array kk):Option (kk×kk×Nat):=
 match ops.toList with
 | [b,a]=>
   match a.op,a.guard,a.dst with
   | .defer c,none,none=>match c.callee,c.args.toList with | .value (.tmp t),[]=>some (b,a,t) | _,_=>none
   | _,_,_=>none
 | _=>none
def RU:mx->Option (Array kk×mx)
 | .seq (.region _ ops false) z=>match abm ops with | some _=>some (ops,z) | none=>none
 | _=>none
theorem Wh {y z:mx} {ops:Array kk} (h:RU y=some (ops,z)): ∃id q,y= .seq (.region id ops false) z/\abm ops=some q:=by
 unfold RU at h
 split at h
 ·split at h
  ·rename_i q a;cases h;exact ⟨_,q,rfl,a⟩
  ·cases h
 ·cases h
theorem ZK {ops:Array kk} {b a:kk} {t:Nat} (h:abm ops=some (b,a,t)):ops.toList=[b,a]/\a.guard=none/\a.dst=none/\ ∃c,a.op= .defer c/\c.callee= .value (.tmp t)/\c.args.toList=[]:=by
 unfold abm at h
 split at h
 ·rename_i g i hl
  split at h
  ·rename_i c h1 h2 d
   split at h
   ·rename_i t' e f
    cases h
    exact ⟨hl,h2,d,c,h1,e,f⟩
   ·cases h
  ·cases h
 ·cases h
def afi (gd:eW->Bool) (t:Nat) (st:St):Bool:=match st.fr.getD t .undef with | .clo (.func g) _=>gd g | _=>false
section
variable (P:ek) (Γ:eW->Option FSig) (C:IV->List Nat->List (List IV)->Option (List IV)) (A:Ann) (gd:eW->Bool)
def I0 (ops:Array kk) (z:mx) (R:Type) (st:St) (K:Bool->Ex->St->Option R):Option R:=
 match abm ops with
 | some q=>mH P Γ C ops [q.1] st λa=>if afi gd q.2.2 a=true then exec P Γ C A z R a (K true) else none
 | none=>none
def Fi:mx->(R:Type)->St->(Bool->Ex->St->Option R)->Option R
 | .seq x y,R,st,K=>
   exec P Γ C A x R st λe a=>
    match e with
    | .normal=>(match RU y with | some p=>I0 P Γ C A gd p.1 p.2 R a K | none=>Fi y R a K)
    | e=>K false e a
 | c,R,st,K=>exec P Γ C A c R st (K false)
def wa (f:mb) (R:Type) (ps:List PV) (h:List Ob) (k:PV->List Ob->Option R):Option R:=
 match f.body with
 | some c=>Fi P Γ C A gd c R ⟨ps++hO (f.ntmps - ps.length) .skip,h⟩ λ_ e st=>
    match e with
    | .exit _=>none
    | .goto _=>none
    | _=>(O6 P st f.results.toList).bind λps=>k (aaT ps) st.h
 | none=>none
end
section
variable {P:ek} {Γ:eW->Option FSig} {C:IV->List Nat->List (List IV)->Option (List IV)} {A:Ann} {gd:eW->Bool} {R S:Type}
theorem Y2 {ops:Array kk} {z:mx} {st:St} {K:Bool->Ex->St->Option R} (f:R->Option S):(I0 P Γ C A gd ops z R st K).bind f=I0 P Γ C A gd ops z S st λd e st=>(K d e st).bind f:=by
 unfold I0
 split
 ·rw [zX]
  congr 1;funext a
  split
  ·exact pB _ _ _ _ _ _
  ·rfl
 ·rfl
theorem ZX: ∀(c:mx) (st:St) (K:Bool->Ex->St->Option R) (f:R->Option S),(Fi P Γ C A gd c R st K).bind f=Fi P Γ C A gd c S st λd e st=>(K d e st).bind f:=by
 intro c
 induction c with
 | seq x y _ a=>
   intro st K f
   simp only [Fi]
   rw [pB]
   congr 1;funext e b
   cases e with
   | normal=>
     simp only
     split
     ·exact Y2 f
     ·exact a b K f
   | _=>rfl
 | _=>intro st K f;exact pB _ _ _ _ _ _
theorem XM {ops:Array kk} {z:mx} {st:St} {K:Bool->Ex->St->Option R} {r:R} (h:I0 P Γ C A gd ops z R st K=some r): ∃d e a,Stay st.h a.h/\K d e a=some r:=by
 unfold I0 at h
 split at h
 ·obtain ⟨g,h1,h2⟩:=s8 _ _ h
  split at h2
  ·obtain ⟨e,b,c,f⟩:=mW _ _ _ _ _ h2
   exact ⟨_,e,b,h1.trans c,f⟩
  ·cases h2
 ·cases h
theorem Wz: ∀(c:mx) (st:St) (K:Bool->Ex->St->Option R) (r:R),Fi P Γ C A gd c R st K=some r-> ∃d e f,Stay st.h f.h/\K d e f=some r:=by
 intro c
 induction c with
 | seq x y _ k=>
   intro st K r h
   simp only [Fi] at h
   obtain ⟨e,a,h1,h2⟩:=mW _ _ _ _ _ h
   cases e with
   | normal=>
     simp only at h2
     split at h2
     ·obtain ⟨d,g,b,i,j⟩:=XM h2
      exact ⟨d,g,b,h1.trans i,j⟩
     ·obtain ⟨d,g,b,i,j⟩:=k a K r h2
      exact ⟨d,g,b,h1.trans i,j⟩
   | _=>exact ⟨_,_,_,h1,h2⟩
 | _=>
   intro st K r h
   obtain ⟨e,a,h1,h2⟩:=mW _ _ _ _ _ h
   exact ⟨_,e,a,h1,h2⟩
theorem V0 (P:ek) (Γ:eW->Option FSig) (C:IV->List Nat->List (List IV)->Option (List IV)) (A:Ann) (gd:eW->Bool) (f:mb) (R S:Type) (ps:List PV) (h:List Ob) (k:PV->List Ob->Option R) (g:R->Option S):
  (wa P Γ C A gd f R ps h k).bind g=wa P Γ C A gd f S ps h λp h=>(k p h).bind g:=by
 unfold wa
 split
 ·rw [ZX]
  congr 1;funext d e st
  cases e with
  | exit j=>rfl
  | goto l=>rfl
  | normal=>simp only;rw [fv]
  | ret=>simp only;rw [fv]
 ·rfl
theorem Sn (P:ek) (Γ:eW->Option FSig) (C:IV->List Nat->List (List IV)->Option (List IV)) (A:Ann) (gd:eW->Bool) (f:mb) (ps:List PV) (h:List Ob) (p:PV) (h':List Ob)
  (hr:wa P Γ C A gd f (PV×List Ob) ps h (λp h=>some (p,h))=some (p,h')):Stay h h':=by
 unfold wa at hr
 split at hr
 ·obtain ⟨d,e,st,h1,h2⟩:=Wz _ _ _ _ hr
  cases e with
  | exit j=>cases h2
  | goto l=>cases h2
  | normal=>obtain ⟨b,_,a⟩:=bR.1 h2;cases a;exact h1
  | ret=>obtain ⟨b,_,a⟩:=bR.1 h2;cases a;exact h1
 ·cases hr
def VT (P:ek) (Γ:eW->Option FSig) (C:IV->List Nat->List (List IV)->Option (List IV)) (A:Ann) (gd:eW->Bool) (f:mb):Inl:=⟨wa P Γ C A gd f,V0 P Γ C A gd f,Sn P Γ C A gd f⟩
end
section
variable {P:ek} {Γ:eW->Option FSig} {C:IV->List Nat->List (List IV)->Option (List IV)} {A:Ann} {gd:eW->Bool} {w0:c7} {ok0:O0}
def adI (Γ:eW->Option FSig) (A:Ann):mx->Bool
 | .seq x y=>ei Γ A x&&(match RU y with | some p=>ei Γ A p.2 | none=>adI Γ A y)
 | c=>ei Γ A c
theorem UP (u:aF P Γ) (H:COK P C) (hm:P.follows .mixedOrders=true) {ops:Array kk} {z:mx} {id:Nat} (hok:ei Γ A z=true) {R:Type} {st:St} {K:Bool->Ex->St->Option R} {r:R} (hs:I0 P Γ C A gd ops z R st K=some r)
  {a:Act} {w:c7} {ok:Nat->Prop} {mu:Mu} (hc:Cfg w0 ok0 w ok mu st a) {Q:Exit->Act->c7->Prop}
  (L: ∀(e:Ex) (m:St) (a':Act) (w':c7) (ok':Nat->Prop) (mu':Mu),K true e m=some r->Cfg w0 ok0 w' ok' mu' m a'->Later w ok mu w' ok' mu'->
    (∃g caps,gd g=true/\a'.defers={ target:= .fn (.func g) caps,args:= #[] }::a.defers)->Q (yd e) a' w'):(Code.seq (.region id ops false) z).wp P Q a w:=by
 unfold I0 at hs
 split at hs
 ·rename_i q S
  obtain ⟨I,x,t⟩:=q
  obtain ⟨hl,G,D,c,h1,h2,J⟩:=ZK S
  refine wp_seq (wp_region_list ?_)
  rw [hl]
  simp only [mH] at hs
  obtain ⟨b,O,n⟩:=dp hs
  have hw:=Hq (w:=w) (ok:=ok) (mu:=mu) (a:=a) O (λs v _ hv=>hc.fr.at hv) hc.fr.size
  have tail: ∀(h:St) (d:Act) (w2:c7) (l:Nat->Prop) (k:Mu),(if afi gd t h=true then exec P Γ C A z R h (K true) else none)=some r->Cfg w0 ok0 w2 l k h d->Later w ok mu w2 l k->d.defers=a.defers->
    wpList P ops (Exit.then (z.wp P Q) Q) [x] d w2:=by
   intro h d w2 l k o c2 T N
   split at o
   ·rename_i i
    unfold afi at i
    split at i
    ·rename_i g caps hv
     have hr:=c2.fr.ev (.tmp t)
     simp only [ev,hv] at hr
     obtain ⟨cv,E⟩: ∃cv,d.eval (.tmp t)= .func (.func g) #[] cv:=by
      generalize d.eval (.tmp t)=v at hr
      cases hr with | clo _ _ cv _ _=>exact ⟨cv,rfl⟩
     unfold wpList
     rw [show Region.wanted x (yielded ops d.tmps)=true by unfold Region.wanted;rw [G]]
     simp only [if_true]
     left
     unfold Oper.wp
     have hex:(execOp d.eval x).run P w2= .ok (.defer { target:= .fn (.func g) cv,args:= #[] }) w2:=by
      have M:c.args= #[]:=by apply j3.1;simpa using J
      simp [execOp,h1,resolve,h2,E,Deferred.ofValue,M,ki]
     rw [hex,Oper.upon_defer]
     unfold wpList
     have e0:({ d with defers:={ target:= .fn (.func g) cv,args:= #[] }::d.defers }:Act).put x.dst undef={ d with defers:={ target:= .fn (.func g) cv,args:= #[] }::d.defers }:=by rw [D];rfl
     rw [e0]
     show z.wp P Q ({ d with defers:={ target:= .fn (.func g) cv,args:= #[] }::d.defers }:Act) w2
     refine j6 u H hm z hok R h (K true) r o ({ d with defers:={ target:= .fn (.func g) cv,args:= #[] }::d.defers }:Act) w2 l k ⟨c2.inv,c2.fresh,c2.fr⟩ Q λe m a' w' ok' mu' hk y j=> ?_
     exact L e m a' w' ok' mu' hk y (T.trans j.later) ⟨g,cv,i,by rw [j.defers,<-N]⟩
    ·cases i
   ·cases o
  unfold wpList
  rw [hw]
  rcases n with ⟨rfl,p,h',j,f⟩ | ⟨rfl,f⟩
  ·simp only [if_true]
   left
   refine Xs u H j hc.fr hc.inv hc.fresh _ _ λv w' hr=> ?_
   obtain ⟨ok',mu',hl,hi,hp,F⟩:=hr
   exact tail _ _ w' ok' mu' f ⟨hi,F,(hc.fr.later hl).put I.dst hp⟩ hl rO
  ·simp only [h6,if_false]
   exact tail _ _ w ok mu f ⟨hc.inv,hc.fresh,hc.fr.put I.dst .skip⟩ (.refl _ _ _) rO
 ·cases hs
theorem Uc (s:aF P Γ) (F:COK P C) (hm:P.follows .mixedOrders=true): ∀(c:mx),adI Γ A c=true-> ∀(R:Type) (st:St) (K:Bool->Ex->St->Option R) (r:R),Fi P Γ C A gd c R st K=some r->
  ∀(a:Act) (w:c7) (ok:Nat->Prop) (mu:Mu),Cfg w0 ok0 w ok mu st a-> ∀(Q:Exit->Act->c7->Prop),
  (∀(d:Bool) (e:Ex) (f:St) (a':Act) (w':c7) (ok':Nat->Prop) (mu':Mu),K d e f=some r->Cfg w0 ok0 w' ok' mu' f a'->Later w ok mu w' ok' mu'->
    (a'.defers=a.defers\/ ∃g caps,gd g=true/\a'.defers={ target:= .fn (.func g) caps,args:= #[] }::a.defers)->Q (yd e) a' w')->c.wp P Q a w:=by
 intro c
 have plain: ∀(c:mx),ei Γ A c=true-> ∀(R:Type) (st:St) (K:Bool->Ex->St->Option R) (r:R),exec P Γ C A c R st (K false)=some r->
   ∀(a:Act) (w:c7) (ok:Nat->Prop) (mu:Mu),Cfg w0 ok0 w ok mu st a-> ∀(Q:Exit->Act->c7->Prop),
   (∀(d:Bool) (e:Ex) (f:St) (a':Act) (w':c7) (ok':Nat->Prop) (mu':Mu),K d e f=some r->Cfg w0 ok0 w' ok' mu' f a'->Later w ok mu w' ok' mu'->
     (a'.defers=a.defers\/ ∃g caps,gd g=true/\a'.defers={ target:= .fn (.func g) caps,args:= #[] }::a.defers)->Q (yd e) a' w')->c.wp P Q a w:=by
  intro c hok R st K r hs a w ok mu hc Q i
  exact j6 s F hm c hok R st (K false) r hs a w ok mu hc Q λe f a' w' ok' mu' hk h b=>i false e f a' w' ok' mu' hk h b.later (.inl b.defers)
 induction c with
 | seq x y _ G=>
   intro hok R st K r hs a w ok mu hc Q i
   simp only [adI,hF] at hok
   simp only [Fi] at hs
   refine wp_seq (j6 s F hm x hok.1 R st _ r hs a w ok mu hc _ λe f a' w' ok' mu' hk h b=> ?_)
   cases e with
   | normal=>
     simp only at hk
     split at hk
     ·rename_i p hp
      obtain ⟨ops,z⟩:=p
      have h2:=hok.2
      rw [hp] at h2
      obtain ⟨id,q,rfl,J⟩:=Wh hp
      refine UP s F hm h2 hk h λE v D w2 u t n m o k=>i true E v D w2 u t n m (b.later.trans o) (.inr ?_)
      obtain ⟨g,caps,H,I⟩:=k
      exact ⟨g,caps,H,by rw [I,b.defers]⟩
     ·rename_i hn
      have h2:=hok.2
      rw [hn] at h2
      refine G h2 R f K r hk a' w' ok' mu' h Q λd E v D w2 u t n m o k=>i d E v D w2 u t n m (b.later.trans o) ?_
      rw [b.defers] at k
      exact k
   | exit j=>exact i false (.exit j) f a' w' ok' mu' hk h b.later (.inl b.defers)
   | ret=>exact i false .ret f a' w' ok' mu' hk h b.later (.inl b.defers)
   | goto l=>exact i false (.goto l) f a' w' ok' mu' hk h b.later (.inl b.defers)
 | _=>intro hok R st K r hs a w ok mu hc Q i;exact plain _ hok R st K r hs a w ok mu hc Q i
def Fl (P:ek) (g:eW):Prop:=Enters P g/\ ∀(args:Array c5) (w:c7),CallsD P g args .returning w λe u' w'=>(∃v,e= .returned v)/\u'= .returning/\w'=w
theorem yN (E:aF P Γ) (K:COK P C) (hm:P.follows .mixedOrders=true) (y: ∀g,gd g=true->Fl P g) {g:eW} {f:mb} (N:P.funcs[g]? =some f) (hb:(match f.body with | some c=>adI Γ A c | none=>false)=true) {O:Bool} {ns:List Nat} {esz:Nat} {fn:List (List IV)->Option (List IV)}:
  ay P g ⟨.inl (VT P Γ C A gd f),O,ns,esz,fn⟩:=by
 intro w0 ok0 w ok mu h ps args p h' i a hlen hrel hr
 have b:wa P Γ C A gd f (PV×List Ob) ps h (λp h=>some (p,h))=some (p,h'):=hr
 unfold wa at b
 split at b
 ·rename_i c hc
  rw [hc] at hb
  have x:Fr w ok mu (ps++hO (f.ntmps - ps.length) .skip) (args.toArray++h8 (f.ntmps - args.toArray.size) undef):=by
   refine ⟨by simp [hlen],λt p v h1 h2=> ?_⟩
   simp only [hG,c4] at h2
   by_cases s:t < args.length
   ·rw [bB (by omega)] at h1
    rw [if_pos s] at h2
    exact hrel t p v h1 (by simpa using h2)
   ·rw [bO (by omega),hN] at h1
    rw [if_neg s,hK] at h2
    split at h1
    ·split at h2
     ·cases h1;cases h2;exact .skip
     ·cases h2
    ·cases h1
  refine calls_of_wp_defers N hc (Uc (w0:=w0) (ok0:=ok0) E K hm c hb _ _ _ (p,h') b _ w ok mu ⟨i,a,x⟩ _ λd e k a' w' ok' mu' hk m r o=> ?_)
  have done:(O6 P k f.results.toList).bind (λps=>some (aaT ps,k.h))=some (p,h')->Leaves P f a'.tmps (λe w'=> ∃v,e= .returned v/\ ∃ok' mu',Later w ok mu w' ok' mu'/\Inv w0 ok0 w' ok' mu' h'/\RP w' ok' mu' p v/\ ∀q,h'.length<=q->mu' q=none) a'.defers .returning w':=by
   intro h
   obtain ⟨rs,h1,h2⟩:=bR.1 h
   cases h2
   obtain ⟨vs,G,H,I,n⟩:=Fc (P:=P) m _ _ h1
   have D:results f a'.tmps=(do let vs <-f.results.mapM (ik a'.tmps);pure (if h:vs.size=1 then vs[0] else .tuple vs)):=by
    unfold results
    congr 2
   have z:(f.results.mapM (ik a'.tmps)).run P w'= .ok vs.toArray w':=by
    rw [hH,map_eq_pure_bind]
    simp only [c6,G,ch,hd]
   have nil:Leaves P f a'.tmps (λe w'=> ∃v,e= .returned v/\ ∃ok' mu',Later w ok mu w' ok' mu'/\Inv w0 ok0 w' ok' mu' k.h/\RP w' ok' mu' (aaT rs) v/\ ∀q,k.h.length<=q->mu' q=none) [] .returning w':=by
    refine ⟨if h:vs.toArray.size=1 then vs.toArray[0] else .tuple vs.toArray,by rw [D,c6,z];rfl,_,rfl,ok',mu',r,m.inv,?_,m.fresh⟩
    match rs,vs,I.trans H.symm,n with
    | [q],[v],_,n=>exact n 0 q v rfl rfl
    | [],[],_,_=>exact .tup _ _ rfl λi p v h1 h2=>by simp at h1
    | q::Q::rs,v::R::vs,hl,n=>
      rw [dif_neg (by simp)]
      exact .tup _ _ (by simpa using hl) λi p v h1 h2=>n i p v h1 (by simpa using h2)
   rcases o with u | ⟨F,caps,J,u⟩
   ·rw [u];exact nil
   ·rw [u]
    obtain ⟨L,M⟩:=y F J
    refine leaves_cons (f:=F) (args:= #[]++caps) (by simp) ?_ ((M (#[]++caps) w').mono λe u' w2 he=> ?_)
    ·have:=L (#[]++caps) w'
     simpa [invoke] using this
    ·obtain ⟨⟨v,rfl⟩,rfl,rfl⟩:=he
     exact nil
  cases e with
  | normal=>exact done hk
  | exit j=>cases hk
  | goto l=>cases hk
  | ret=>exact done hk
 ·cases b
end
theorem FR {P:ek} {g:eW} {n:Nat} {ns:List Nat} {fn:List (List IV)->Option (List IV)} (h:ay P g ⟨.pure,true,ns,0,fn⟩):
  ay P g ⟨.look n,false,ns,0,λl=>match l with | vs::as=>fn ([.ptr vs 0]::as) | []=>none⟩:=by
 intro w ok as vs b base c T args r hok hlen hb o d a hr
 have f:fn ([.ptr vs 0]::as)=some r:=hr
 have m:b < w.heap.size:=(b6.1 hb).1
 have p:RV w (λx=>ok x\/x=b) (.ptr vs 0) (.pointer (some ⟨b,base,none⟩)):=by
  have:=RV.ptr (w:=w) (ok:= λx=>ok x\/x=b) vs 0 b base (λi=>(c[base+i]?).getD undef) (.inr rfl) (λi hi=>by
   rw [iY hb,Array.getElem?_eq_getElem (by omega)];rfl) (λi x hx=>by
   obtain ⟨u,h1,h2⟩:=d i x hx
   show RV w _ x ((c[base+i]?).getD undef)
   rw [h1]
   exact h2.more λ_ h=> .inl h)
  simpa using this
 have z:cL w (λx=>ok x\/x=b) ([.ptr vs 0]::as) (.pointer (some ⟨b,base,none⟩)::args):=by
  refine ⟨by simp [a.1],λi cs v h1 h2=> ?_⟩
  cases i with
  | zero=>simp at h1 h2;subst h1;subst h2;exact .inl ⟨_,rfl,p⟩
  | succ i=>
    rcases a.2 i cs v (by simpa using h1) (by simpa using h2) with ⟨x,j,k⟩ | ⟨j,us,k,q,s⟩
    ·exact .inl ⟨x,j,k.more λ_ h=> .inl h⟩
    ·exact .inr ⟨j,us,k,q,λi x u t y=>(s i x u t y).more λ_ h=> .inl h⟩
 have hs:=h.2 rfl _ r f
 have hp:=h.1 w (λx=>ok x\/x=b) w (λx=>ok x\/x=b) ([.ptr vs 0]::as) (.pointer (some ⟨b,base,none⟩)::args) r (.refl _ _) (λx hx=>by
  rcases hx with hx | rfl
  ·exact hok x hx
  ·exact m) z f
 simp only [h9] at hp
 refine hp.mono λe w' he=> ?_
 obtain ⟨v,rfl,h1,h2⟩:=he
 refine ⟨v,rfl,h1,h2.scalar λi=> ?_⟩
 unfold nth
 rw [e9]
 cases hx:r[i]? with
 | none=>rfl
 | some x=>exact hs x (hB hx)
end Go.AM
namespace Go.AM
def aG (n:eW) (s:FSig) (t:eW->Option FSig):eW->Option FSig:= λf=>if f=n then some s else t f
def T0:eW->Option FSig:= λ_=>none
theorem G0 {P:ek}:aF P T0:=aF.nil
theorem aF.ext {P:ek} {n:eW} {s:FSig} {t:eW->Option FSig} (he:Enters P n) (hs:ay P n s) (ht:aF P t):aF P (aG n s t):=aF.ite ⟨he,hs⟩ ht
theorem aF.own {P:ek} {n:eW} {s:FSig} {t:eW->Option FSig} (h:aF P (aG n s t)):ay P n s:=(h n s (if_pos rfl)).2
theorem BH {e:Option (List IV)} {r:List IV} (h:EJ .nilp e=some r):e=some r:=h
def A0:Ann:={}
def A1:Ann:={ scalar:=true }
theorem ak {P:ek} {T:eW->Option FSig} {Γ:eW->Option FSig} {C:IV->List Nat->List (List IV)->Option (List IV)} {A:Ann} {g:eW} {f:mb} {ns:List Nat} {d:Bool} {fn:List (List IV)->Option (List IV)} (m:aF P T) (b:aF P Γ) (l:COK P C) (hm:P.follows .mixedOrders=true)
  (h:(P.funcs[g]?,f.name== "runtime.NumGoroutine",f.body.isNone,(match f.body with | some c=>Ev Γ A c | none=>false),f.resultTypes.toList.map P.cellsOf,A.scalar)=(some f,false,false,true,ns,d))
  (a: ∀as r,fn as=some r->run P Γ C A f as=some r):aF P (aG g ⟨.pure,d,ns,0,fn⟩ T):=by
 simp only [Prod.mk.injEq] at h
 obtain ⟨h1,h2,e,i,j,k⟩:=h
 exact aF.ext (enters_of h1 h2 e) (mf b l hm h1 i j k a) m
end Go.AM
namespace Go.AM
open Go.RowKit Go.ChangeShapes Go.WideShapes Go.Deep
inductive Sh where
 | bool
 | int (k:IntKind)
 | flt (k:m2)
 | str
 | slc (l:List Sh)
 deriving Inhabited
inductive ShOK:Sh->IV->Prop
 | bool (b:Bool):ShOK .bool (.bool b)
 | int (k:IntKind) (n:Int) (h:(Lit.int k n).wf=true):ShOK (.int k) (.int k n)
 | flt (k:m2) (n:Nat) (h:(Lit.float k n).wf=true) (hc:canF k n=n):ShOK (.flt k) (.flt k n)
 | str (s:ByteArray) (h:s.size<=maxLen):ShOK .str (.str s)
 | slc (l:List Sh) (es:List (List IV)) (h:es.length<=maxLen) (h1: ∀e∈es,e.length=l.length) (h2: ∀(i j:Nat) (e:List IV) (c:IV) (s:Sh),es[i]? =some e->e[j]? =some c->l[j]? =some s->ShOK s c):ShOK (.slc l) (.lst es)
theorem aeA {k:m2} {n:Nat} (h:(Lit.float k n).wf=true):(Lit.float k (canF k n)).wf=true:=by
 unfold canF;split
 ·cases k<;>rfl
 ·exact h
def Typed (l:List Sh) (cs:List IV):Prop:=cs.length=l.length/\ ∀(j:Nat) (s:Sh) (c:IV),l[j]? =some s->cs[j]? =some c->ShOK s c
def Ar (a:fc->Option (List Sh)) (size:fc->Nat):List Field->Nat->Option (List Sh×Nat)
 | [],off=>some ([],off)
 | f::b,off=>if f.offset=off then (a f.type).bind λl=>if l.length=size f.type then (Ar a size b (off+l.length)).map λp=>(l++p.1,p.2) else none else none
def xX (P:ek):Nat->fc->Option (List Sh)
 | 0,_=>none
 | n+1,t=>
   match P.underlying t with
   | some .bool=>some [.bool]
   | some (.int k)=>some [.int k]
   | some (.float k)=>some [.flt k]
   | some .string=>some [.str]
   | some (.slice e)=>(xX P n e).bind λl=>if l.length=P.cellsOf e then some [.slc l] else none
   | some (.struct a)=>(Ar (xX P n) P.cellsOf a.toList 0).bind λp=>if p.2=P.cellsOf t then some p.1 else none
   | some (.array m e)=>(xX P n e).bind λl=>if l.length=P.cellsOf e/\P.cellsOf t=m*P.cellsOf e then some ((hO m l).flatten) else none
   | _=>none
def kG (w:c7) (ok:Nat->Prop) (a:List IV) (cs:List c5):Prop:=a.length=cs.length/\ ∀(j:Nat) (c:IV) (v:c5),a[j]? =some c->cs[j]? =some v->RV w ok c v
theorem kG.one {w:c7} {ok:Nat->Prop} {c:IV} {v:c5} (h:RV w ok c v):kG w ok [c] [v]:=⟨rfl,λj x u h1 h2=>by
 cases j with
 | zero=>cases h1;cases h2;exact h
 | succ j=>simp at h1⟩
theorem Typed.one {s:Sh} {c:IV} (h:ShOK s c):Typed [s] [c]:=⟨rfl,λj x u h1 h2=>by
 cases j with
 | zero=>cases h1;cases h2;exact h
 | succ j=>simp at h1⟩
theorem kG.append {w:c7} {ok:Nat->Prop} {a b:List IV} {x y:List c5} (h:kG w ok a x) (k:kG w ok b y):kG w ok (a++b) (x++y):=by
 refine ⟨by simp [h.1,k.1],λj c v h1 h2=> ?_⟩
 by_cases hj:j < a.length
 ·rw [bB hj] at h1
  rw [bB (by rw [<-h.1];exact hj)] at h2
  exact h.2 j c v h1 h2
 ·rw [bO (by omega)] at h1
  rw [bO (by rw [<-h.1];omega),<-h.1] at h2
  exact k.2 _ c v h1 h2
theorem Typed.append {a b:List Sh} {x y:List IV} (h:Typed a x) (k:Typed b y):Typed (a++b) (x++y):=by
 refine ⟨by simp [h.1,k.1],λj c v h1 h2=> ?_⟩
 by_cases hj:j < a.length
 ·rw [bB hj] at h1
  rw [bB (by rw [h.1];exact hj)] at h2
  exact h.2 j c v h1 h2
 ·rw [bO (by omega)] at h1
  rw [bO (by rw [h.1];omega),h.1] at h2
  exact k.2 _ c v h1 h2
section
variable {H:Type} {enc:fc×c5->H} {P:ek} {w:c7} {base:Nat} {spare:Nat->Bool} {held:Bool}
theorem sS: ∀(m:Nat) (t:fc) (l:List Sh),xX P m t=some l-> ∀(fuel:Nat) (cs:List c5) (x:DataW H×List l1),k6 enc P w base spare held fuel t cs=some x->
  ∃d,Typed l d/\kG w (λb=>b < w.heap.size) d cs
 | 0,t,l,hl=>by simp [xX] at hl
 | m+1,t,l,hl=>by
   intro fuel cs x h
   unfold xX at hl
   have step: ∀{n:Nat},fuel=n+1->hV enc P w base spare held (k6 enc P w base spare held n) t cs=some x:= λe=>by subst e;exact h
   obtain ⟨n,rfl⟩: ∃n,fuel=n+1:=by
    cases fuel with
    | zero=>simp [k6] at h
    | succ n=>exact ⟨n,rfl⟩
   have hs:=step rfl
   split at hl
   ·rename_i hu
    cases hl
    unfold hV at hs
    rw [hu] at hs
    split at hs<;>simp_all
    rename_i b
    exact ⟨[.bool b],.one (.bool b),.one (.bool b)⟩
   ·rename_i k hu
    cases hl
    unfold hV at hs
    rw [hu] at hs
    split at hs<;>simp_all
    rename_i k' C _
    obtain ⟨⟨rfl,hw⟩,_⟩:=hs
    exact ⟨[.int _ C],.one (.int _ C hw),.one (.int _ C)⟩
   ·rename_i k hu
    cases hl
    unfold hV at hs
    rw [hu] at hs
    split at hs<;>simp_all
    rename_i k' C _
    obtain ⟨⟨rfl,hw⟩,_⟩:=hs
    exact ⟨[.flt _ (canF _ C)],.one (.flt _ _ (aeA hw) (aaF _ _)),.one (.flt _ C)⟩
   ·rename_i hu
    cases hl
    unfold hV at hs
    rw [hu] at hs
    split at hs<;>simp_all
    rename_i s
    exact ⟨[.str s],.one (.str s hs.1),.one (.str s)⟩
   ·rename_i e hu
    obtain ⟨le,he,hl⟩:=bR.1 hl
    split at hl
    ·rename_i hsz
     cases hl
     rcases open_slice hu h with ⟨rfl,_⟩ | ⟨a,len,cap,m',C,D,Pl,rfl,hb,ap,a7,hm,hx,hi⟩
     ·exact ⟨[.lst []],.one (.slc le [] (iz _) (λe he=>by simp at he) λi j e c s h=>by simp at h),
       .one (.lst [] none 0 le.length (λ_ _=> .nilFunc) (hq _) (λe he=>by simp at he) (λi j hi=>by simp at hi) λi j e c h=>by simp at h)⟩
     ·have hlen:len<=m':=by rw [hm];split<;>omega
      have key: ∀i,i < len-> ∃(d:List IV) (E:List c5),w.cells? base (a.add (i*P.cellsOf e)) (P.cellsOf e)=some E/\Typed le d/\kG w (λb=>b < w.heap.size) d E:= λi o=>by
       obtain ⟨E,hc,ht⟩:=hi i (by omega)
       obtain ⟨d,h1,h2⟩:=sS m e le he _ _ _ ht
       exact ⟨d,E,hc,h1,h2⟩
      have X: ∃(F:Nat->List IV) (G:Nat->List c5),∀i,i < len->w.cells? base (a.add (i*P.cellsOf e)) (P.cellsOf e)=some (G i)/\Typed le (F i)/\kG w (λb=>b < w.heap.size) (F i) (G i):=by
       refine ⟨λi=>if h:i < len then (key i h).choose else [],λi=>if h:i < len then (key i h).choose_spec.choose else [],λi o=> ?_⟩
       simp only [o,dif_pos]
       exact (key i o).choose_spec.choose_spec
      obtain ⟨F,G,I⟩:=X
      have N: ∀i j,i < len->j < le.length->w.cell? (a.add (i*le.length+j))=some ((G i).getD j .nilIface)/\a.block < w.heap.size:= λi j o hj=>by
       obtain ⟨h1,h2,h3⟩:=I i o
       obtain ⟨_,h4,Y⟩:=World.cells?_some h1
       have M:=Y j (by omega)
       rw [add_add,<-hsz] at M
       have h7:(G i)[j]? =some ((G i).getD j .nilIface):=by
        rw [e9,e6 (by rw [h4];omega)];rfl
       rw [h7] at M
       refine ⟨M,?_⟩
       unfold World.cell? at M
       rw [mZ] at M
       cases hx:w.heap[a.block]? with
       | none=>rw [hx] at M;cases M
       | some _=>exact (b6.1 hx).1
      have K: ∀(i:Nat) (A:List IV),((jA len).map F)[i]? =some A->i < len/\A=F i:= λi A g=>by
       rw [hS] at g
       have o:i < len:=by
        rcases Nat.lt_or_ge i len with h | h
        ·exact h
        ·rw [ib (by simpa using h)] at g;cases g
       rw [List.getElem?_range o] at g
       cases g
       exact ⟨o,rfl⟩
      have u: ∀A∈(jA len).map F,A.length=le.length:= λA ao=>by
       obtain ⟨i,g,rfl⟩:=m3.1 ao
       exact (I i (List.mem_range.1 g)).2.1.1
      refine ⟨[.lst ((jA len).map F)],.one (.slc le _ (by simp;omega) u λi j A c s h1 h2 h3=> ?_),.one ?_⟩
      ·obtain ⟨o,rfl⟩:=K i A h1
       exact (I i o).2.1.2 j s c h3 h2
      ·have Q:((jA len).map F).length=len:=by simp
       have V:RV w (λb=>b < w.heap.size) (.lst ((jA len).map F)) (.slice (some a) ((jA len).map F).length cap):=by
        refine .lst _ (some a) cap le.length (λi j=>(G i).getD j .nilIface) (by rw [Q];exact ap) u (λi j g hj=> ?_) λi j A c h1 h2=> ?_
        ·rw [Q] at g
         obtain ⟨h1,h2⟩:=N i j g hj
         exact ⟨a,rfl,h2,h1⟩
        ·obtain ⟨o,rfl⟩:=K i A h1
         obtain ⟨h3,h4,Y⟩:=I i o
         refine Y.2 j c _ h2 ?_
         have:j < (G i).length:=by rw [<-Y.1];exact (b7.1 h2).1
         rw [e9,e6 this];rfl
       rw [Q] at V
       exact V
    ·cases hl
   ·rename_i fs hu
    obtain ⟨p,hp,hl⟩:=bR.1 hl
    split at hl
    ·rename_i a0
     cases hl
     obtain ⟨ys,C,aT,hy,hlen,W,hf⟩:=DataW.trod_struct hu h
     have go: ∀(L:List Field) (off:Nat) (q:List Sh×Nat),Ar (xX P m) P.cellsOf L off=some q->q.2=cs.length->(∀f∈L,∃y,k6 enc P w base spare held C f.type ((cs.drop f.offset).take (P.cellsOf f.type))=some y)->
       ∃d,Typed q.1 d/\kG w (λb=>b < w.heap.size) d (cs.drop off):=by
      intro L
      induction L with
      | nil=>
        intro off q z J _
        simp only [Ar,hT] at z
        subst z
        simp only at J
        subst J
        exact ⟨[],⟨rfl,λj s c h=>by simp at h⟩,by simp [kG]⟩
      | cons f L ih=>
        intro off q z J u
        simp only [Ar] at z
        split at z
        ·rename_i U
         obtain ⟨lf,h1,z⟩:=bR.1 z
         split at z
         ·rename_i aB
          obtain ⟨q2,h2,rfl⟩:=g7.1 z
          obtain ⟨y,a1⟩:=u f List.mem_cons_self
          obtain ⟨R,Z,g2⟩:=sS m f.type lf h1 _ _ _ a1
          obtain ⟨S,g3,g4⟩:=ih (off+lf.length) q2 h2 J λf' O=>u f' (List.mem_cons_of_mem _ O)
          refine ⟨R++S,Z.append g3,?_⟩
          have:=g2.append g4
          rw [U,<-aB,<-l4,kh] at this
          exact this
         ·cases z
        ·cases z
     have:=go fs.toList 0 p hp (by rw [a0,hlen]) λf O=>by
      obtain ⟨i,g⟩:=List.getElem?_of_mem O
      have T:fs[i]? =some f:=by rw [<-fl];exact g
      have h1:=hf i f T
      have h2:i < ys.length:=by rw [W];exact (b6.1 T).1
      exact ⟨ys[i],by rw [h1,e6 h2]⟩
     simpa using this
    ·cases hl
   ·rename_i k e hu
    obtain ⟨le,he,hl⟩:=bR.1 hl
    split at hl
    ·rename_i hsz
     cases hl
     obtain ⟨ys,C,aT,hy,hlen,W,hf⟩:=DataW.trod_array hu h
     have go: ∀r,r<=k-> ∃d,Typed ((hO r le).flatten) d/\kG w (λb=>b < w.heap.size) d (cs.drop ((k - r)*P.cellsOf e)):=by
      intro r
      induction r with
      | zero=>
        intro _
        have:cs.drop ((k - 0)*P.cellsOf e)=[]:=List.drop_eq_nil_of_le (by rw [hlen,hsz.2,Nat.sub_zero];exact hq _)
        rw [this]
        exact ⟨[],⟨rfl,λj s c h=>by simp at h⟩,⟨rfl,λj c v h=>by simp at h⟩⟩
      | succ r ih=>
        intro hr
        obtain ⟨S,g3,g4⟩:=ih (by omega)
        have hi:k - (r+1) < k:=by omega
        have h1:=hf (k - (r+1)) hi
        rw [e6 (by omega)] at h1
        obtain ⟨R,Z,g2⟩:=sS m e le he _ _ _ h1
        refine ⟨R++S,by rw [List.replicate_succ,List.flatten_cons];exact Z.append g3,?_⟩
        have:=g2.append g4
        rw [show (k - r)*P.cellsOf e=(k - (r+1))*P.cellsOf e+P.cellsOf e by rw [<-Nat.succ_mul];congr 1;omega,<-l4,kh] at this
        exact this
     have:=go k (hq _)
     simpa using this
    ·cases hl
   ·cases hl
theorem Rx {r:Reach} {b:Nat} {t:fc} {v:c5} (hv:jb P w r b t v):(∃a,P.underlying t=some (.struct a)/\ ∃cs,v= .agg cs/\cs.size=P.cellsOf t)\/(∃n e,P.underlying t=some (.array n e)/\ ∃cs,v= .agg cs/\cs.size=P.cellsOf t)\/v.cells.toList=[v]:=by
 unfold jb at hv
 split at hv
 ·rename_i a hu
  obtain ⟨cs,h1,h2,_⟩:=hv
  exact .inl ⟨a,hu,cs,h1,h2⟩
 ·rename_i n e hu
  obtain ⟨cs,h1,h2,_⟩:=hv
  exact .inr (.inl ⟨n,e,hu,cs,h1,h2⟩)
 ·refine .inr (.inr ?_)
  cases v with
  | agg cs=>
    exfalso
    unfold Cell.okWide at hv
    split at hv<;>simp_all [Cell.ok]
  | _=>rfl
theorem U8 {r:Reach} {j m:Nat} {t:fc} {l:List Sh} (hl:xX P m t=some l) (c:l.length=1->dX P t=false) (g:0 < l.length) {v:c5} {d:DataW H} {p:List l1} (hv:jb P w r j t v) (h:DataW.Trod enc P w base spare held t v d p):
  ∃a,Typed l a/\ArgRel w (λb=>b < w.heap.size) a v:=by
 obtain ⟨fuel,hf⟩:=h
 obtain ⟨a,h1,h2⟩:=sS m t l hl _ _ _ hf
 refine ⟨a,h1,?_⟩
 rcases Rx hv with ⟨k,hu,cs,rfl,hs⟩ | ⟨n,e,hu,cs,rfl,hs⟩ | hc
 ·refine .inr ⟨?_,cs,rfl,?_,λi x u hx f=>h2.2 i x u hx ?_⟩
  ·rw [h1.1]
   have:l.length≠1:= λh=>by have:=c h;unfold dX at this;rw [hu] at this;cases this
   omega
  ·have:=h2.1;simp [kt] at this;exact this.symm
  ·simp only [kt,fl];exact f
 ·refine .inr ⟨?_,cs,rfl,?_,λi x u hx f=>h2.2 i x u hx ?_⟩
  ·rw [h1.1]
   have:l.length≠1:= λh=>by have:=c h;unfold dX at this;rw [hu] at this;cases this
   omega
  ·have:=h2.1;simp [kt] at this;exact this.symm
  ·simp only [kt,fl];exact f
 ·rw [hc] at h2
  match a,h2 with
  | [x],h2=>exact .inl ⟨x,rfl,h2.2 0 x v rfl rfl⟩
  | [],h2=>exact absurd h2.1 (by simp)
  | _::_::_,h2=>exact absurd h2.1 (by simp)
end
def BX (P:ek):List fc->Option (List (List Sh))
 | []=>some []
 | t::a=>(xX P 12 t).bind λl=>if 0 < l.length/\(l.length=1->dX P t=false) then (BX P a).map (l:: ·) else none
inductive TypedAll:List (List Sh)->List (List IV)->Prop
 | nil:TypedAll [] []
 | cons {l:List Sh} {ls:List (List Sh)} {c:List IV} {cs:List (List IV)} (h:Typed l c) (t:TypedAll ls cs):TypedAll (l::ls) (c::cs)
section
variable {H:Type} {enc:fc×c5->H} {P:ek} {w:c7} {base:Nat} {spare:Nat->Bool} {held:Bool}
theorem Fu {r:Reach} {q:Nat}: ∀(f:List fc) (L:List (List Sh)),BX P f=some L-> ∀(vs:List c5) (ds:List (DataW H)) (ps:List l1),(∀(j:Nat) t v,f[j]? =some t->vs[j]? =some v->jb P w r q t v)->
  k4 enc P w base spare held f vs ds ps-> ∃as,TypedAll L as/\cL w (λb=>b < w.heap.size) as vs/\ds.length=f.length
 | [],L,e,vs,ds,ps,_,h=>by
   cases e
   obtain ⟨rfl,rfl,rfl⟩:=trodAll_nil h
   exact ⟨[],.nil,⟨rfl,λi c v h=>by simp at h⟩,rfl⟩
 | t::f,L,e,vs,ds,ps,hv,h=>by
   simp only [BX] at e
   obtain ⟨l,h1,e⟩:=bR.1 e
   split at e
   ·rename_i hc
    obtain ⟨p,h2,rfl⟩:=g7.1 e
    obtain ⟨v,n,d,g,a,b,rfl,rfl,rfl,z,A⟩:=trodAll_cons h
    obtain ⟨c,s,u⟩:=U8 h1 hc.2 hc.1 (hv 0 t v rfl rfl) z
    obtain ⟨as,x,o,y⟩:=Fu f p h2 n g b (λj t' v' k m=>hv (j+1) t' v' (by simpa using k) (by simpa using m)) A
    refine ⟨c::as,.cons s x,⟨by simp [o.1],λi c' v' hi hj=> ?_⟩,by simp [y]⟩
    cases i with
    | zero=>cases hi;cases hj;exact u
    | succ i=>exact o.2 i c' v' (by simpa using hi) (by simpa using hj)
   ·cases e
end
theorem aa2 {H:Type} {enc:fc×c5->H} {P:ek} {g:eW} {fn:mb} {s:ChangeSpec} {u:List (List IV)->Option (List IV)} {L:List (List Sh)} {tb:fc} (A:ay P g ⟨.pure,true,[1],0,u⟩) (c:s.vars=[])
  (z:fn.resultTypes= #[tb]) (hb:P.underlying tb=some .bool) (Q:BX P fn.params.toList=some L) (l:laidOutB P=true) (m:fn.params.toList.all (λt=>P.readableRec t&&decide (t < P.types.size))=true)
  (o: ∀(H:Type) (ds:List (DataW H)),ds.length=fn.params.toList.length->s.fn H ds={ results:=[.lit (.bool true)],args:=ds }) (y: ∀as,TypedAll L as->u as=some [.bool true])
  {W:c7} {base:Nat} {args:Array c5} {ds gs:List (DataW H)} {before:List l1} (C: ∀(j:Nat) t v,fn.params[j]? =some t->args[j]? =some v->jb P W .any base t v) (N:DataW.Whole enc P fn.params.toList s.vars false W args.toList ds gs before):
  lv P g args W λe D=> ∃v,e= .returned v/\s.post enc P fn false true false false W args v D:=by
 have w:=N
 obtain ⟨p,q,K,M,rfl,R,S⟩:=N
 rw [c] at M
 obtain ⟨rfl,rfl⟩:=trodVars_none M
 obtain ⟨as,h1,h2,F⟩:=Fu fn.params.toList L Q args.toList ds p (λj t v G I=>C j t v (by rw [<-fl];exact G) (by rw [<-fl];exact I)) K
 have hc:=A.1 W (λb=>b < W.heap.size) W (λb=>b < W.heap.size) as args.toList _ (.refl _ _) (λ_ h=>h) h2 (y as h1)
 simp only [h9,Array.toArray_toList] at hc
 refine hc.mono λe D he=> ?_
 obtain ⟨v,rfl,i,hr⟩:=he
 have hv:v= .bool true:=by
  rcases hr with ⟨_,h⟩ | ⟨h,_⟩
  ·cases h;rfl
  ·omega
 subst hv
 have f:=w.lt
 have k: ∀(r:List fc) (vs:List c5) (ds:List (DataW H)) (ps:List l1),r.all (λt=>P.readableRec t&&decide (t < P.types.size))=true->k4 enc P W 0 (λ_=>true) true r vs ds ps->(∀x∈ps,x.block < W.heap.size)->
   k4 enc P D 0 (λb=>decide (b < W.heap.size)) true r vs ds ps:=by
  intro r
  induction r with
  | nil=>
    intro vs ds ps _ h _
    obtain ⟨rfl,rfl,rfl⟩:=trodAll_nil h
    rfl
  | cons t r ih=>
    intro vs ds ps hr h f
    obtain ⟨v,J,d,E,a,b,rfl,rfl,rfl,F,O⟩:=trodAll_cons h
    simp only [List.all_cons,hF,decide_eq_true_eq] at hr
    exact ⟨a,b,Below.trod l hr.1.1 hr.1.2 F i λx hx=>f x (ic _ hx),ih J E b hr.2 O λx hx=>f x (ia _ hx),rfl⟩
 have n:=o H ds F
 refine ⟨_,rfl,ds,[],p++[],[],p,[],w,?_,?_,?_,i.frame _,λh=>by cases h⟩
 ·rw [h9,n,z]
  exact ⟨[],[],⟨0+1,by
   rw [DataW.trod_step]
   unfold hV
   rw [hb];rfl⟩,rfl,rfl⟩
 ·rw [h9,n]
  exact k _ _ _ _ m K λx hx=>f x (by simpa using hx)
 ·rw [h9,n,c]
  exact rfl
end Go.AM
namespace Go.AM
def yg (s:ByteArray):List (List IV):=s.data.toList.map λb=>[.int .u8 b.toNat]
def mo (l:List (List IV)):Option (List IV):=
 match l with
 | [[_,.lst es],[.str s]]=>if es.length+s.size<=140737488355328 then some [.nilp,.lst (es++yg s),.int .i64 s.size,.nilf] else none
 | _=>none
def Hm (l:List (List IV)):Option (List IV):=
 match l with
 | [[_,.lst es],[.int .u8 c]]=>if es.length+1<=140737488355328 then some [.nilp,.lst (es++[[.int .u8 c]]),.nilf] else none
 | _=>none
def Vm (sz bytes:Nat) (x:IV):Option (List IV):=
 match x with
 | .int .i64 n=>if 0<=n/\n.toNat*(bytes+1)<=2 ^ 40/\0 < sz then some [] else none
 | _=>none
def BU (name:String) (Part:IV->Option (List IV)) (C:IV->List Nat->List (List IV)->Option (List IV)) (y:IV):Option (List IV):=(C (Gx name y) [1] []).bind λr=>(Part (nth r 0)).bind λa=>some [nth a 0]
def s7 (b a:IV->Option (List IV)):Int->List (List IV)->ByteArray->Option (List IV)
 | _,[],acc=>some [.str acc]
 | last,[.int .i64 n]::es,acc=>(b (.int .i64 (IntKind.i64.wrap (n - last)))).bind λz=>(a (nth z 0)).bind λr=>
   match nth r 0 with
   | .str s=>if acc.size+s.size<=140737488355328 then s7 b a n es (acc++s) else none
   | _=>none
 | _,_::_,_=>none
def L8 (b a:IV->Option (List IV)) (x:IV):Option (List IV):=
 match x with
 | .lst es=>if es.length<=2 ^ 40 then s7 b a 0 es ⟨#[]⟩ else none
 | _=>none
end Go.AM
namespace Go.AM
open Go.RowKit Go.Lib
def va (T e:fc):List Sc:=[.sn T 2,.buf 1 (some e)]
theorem Bk (w:c7) (ob:Obj):Sizes w (w.drew.alloc ob):= λb c T z h=>⟨c,z,(Lib.alloc_old w.drew ob b (b6.1 h).1).trans h,rfl⟩
theorem FQ {w:c7} {g:Nat} {cur:Array c5} {e:fc} {d:Nat×Nat} (h:w.heap[g]? =some (.cells cur e d)) {c':Array c5} (hs:c'.size=cur.size):Sizes w (w.setRow g c'):= λb c T z hb=>by
 by_cases a:b=g
 ·subst a
  rw [h] at hb;cases hb
  exact ⟨c',_,setRow_heap w b cur c' e _ h,hs⟩
 ·exact ⟨c,z,(setRow_other w g b c' a).trans hb,rfl⟩
theorem I5 {w w':c7} (h:w.grownBy w' none):Sizes w w':= λb c T z hb=>⟨c,z,(h.block b (b6.1 hb).1 (by simp)).trans hb,rfl⟩
section
variable {P:ek} (w:c7)
theorem acW (t u ty e:fc) (i:mv) (ht:P.underlying t=some (.slice e)) (hu:P.underlying u=some .string) (hi:P.info? e=some i) (hz:i.zero=some (.int .u8 0)) (b:i.size=1) (f:i.bytes=1)
  (v:c5) (n:Nat) (xs:List c5) (c:w.ownsRow 0 e 1 v n xs) (s:ByteArray) (h63:n+s.size<=maxLen) (d:n+s.size<=140737488355328):
  ∃v' w',(ha #[t,u] ty #[v,.string s]).run P w= .ok v' w'/\w'.ownsRow 0 e 1 v' (n+s.size) (xs++strCells s)/\w.grownBy w' v.ownBlock/\Sizes w w'/\ ∀k,v'.ownBlock=some k->v.ownBlock=some k\/w.heap.size<=k:=by
 obtain ⟨v',w',hr,h2,o,q⟩:=run_append_own_string (P:=P) w 0 t u ty e i ht hu hi hz b f v n xs c s h63 d (iz _)
 refine ⟨v',w',hr,h2,o,?_⟩
 rcases c.2 with ⟨rfl,rfl⟩ | ⟨g,cap,cur,rfl,r,p,z,x,y,l⟩
 ·refine ⟨I5 o,λk hk=> ?_⟩
  by_cases hm:s.size=0
  ·rw [q.2 ⟨rfl,hm⟩] at hk;simp [fH] at hk
  ·have a:=run_append_nil_string (P:=P) w t u ty e i (.int .u8 0) ht hu hi hz s (by omega) (by omega) (by rw [f];omega)
   rw [hr] at a
   cases a
   simp [fH] at hk
   exact .inr (by omega)
 ·by_cases h:n+s.size<=cap
  ·have a:=run_append_room_string (P:=P) w t u ty e i ht hu hi b g n cap cur p s h (by omega)
   rw [hr] at a
   cases a
   refine ⟨FQ p ?_,λk hk=> .inl hk⟩
   simp only [c4,gw,kd,hW,ie,strCells_length]
   omega
  ·have m:xs.length=n:=by simpa using c.1
   have holds: ∀j u,xs[j]? =some u->w.cell? ((⟨g,0,none⟩:nd).add j)=some u:=c.cells (g:=g) rfl
   have a:=run_append_grow_string (P:=P) w t u ty e i (.int .u8 0) ht hu hi hz ⟨g,0,none⟩ n cap xs (by rw [b];simpa using m) holds s (by omega) (by simp only [maxLen] at h63;omega) (by rw [f];exact growslice_fits (by omega) (by omega))
   rw [hr] at a
   cases a
   exact ⟨Bk w _,λk hk=> .inr (by simp [fH] at hk;omega)⟩
theorem acP (t ty e:fc) (i:mv) (ht:P.underlying t=some (.slice e)) (hi:P.info? e=some i) (hz:i.zero=some (.int .u8 0)) (b:i.size=1) (l:i.bytes=1)
  (v:c5) (n:Nat) (xs:List c5) (h:w.ownsRow 0 e 1 v n xs) (a:nd) (m c:Nat) (news:List c5) (hl:news.length=m) (d: ∀j u,news[j]? =some u->w.cell? (a.add j)=some u) (h1: ∀u∈news,u.oneCell'=true) (h63:n+m<=maxLen) (p:n+m<=140737488355328):
  ∃v' w',(ha #[t,t] ty #[v,.slice (some a) m c]).run P w= .ok v' w'/\w'.ownsRow 0 e 1 v' (n+m) (xs++news)/\w.grownBy w' v.ownBlock/\Sizes w w'/\ ∀k,v'.ownBlock=some k->v.ownBlock=some k\/w.heap.size<=k:=by
 obtain ⟨v',w',hr,h2,r,x⟩:=run_append_own (P:=P) w 0 t ty e i (.int .u8 0) 1 1 ht hi hz b l rfl (by decide) v n xs h a m c news (by simpa using hl) d h1 h63 (by omega) (iz _)
 refine ⟨v',w',hr,h2,r,?_⟩
 rcases h.2 with ⟨rfl,rfl⟩ | ⟨g,cap,cur,rfl,y,s,C,z,A,q⟩
 ·refine ⟨I5 r,λk hk=> ?_⟩
  by_cases hm:m=0
  ·rw [x.2 ⟨rfl,hm⟩] at hk;simp [fH] at hk
  ·have f:=run_append_nil (P:=P) w t ty e i (.int .u8 0) ht hi hz a m c news (by rw [b];simpa using hl) d (by omega) (by omega) (by rw [l];omega)
   rw [hr] at f
   cases f
   simp [fH] at hk
   exact .inr (by omega)
 ·by_cases o:n+m<=cap
  ·have f:=run_append_room (P:=P) w t ty e i ht hi g n cap cur s a m c news (by rw [b];simpa using hl) d h1 o (by rw [b];omega)
   rw [hr] at f
   cases f
   refine ⟨FQ s ?_,λk hk=> .inl hk⟩
   simp only [c4,gw,kd,hW,ie,b]
   omega
  ·have holds: ∀j u,xs[j]? =some u->w.cell? ((⟨g,0,none⟩:nd).add j)=some u:=h.cells (g:=g) rfl
   have f:=run_append_grow (P:=P) w t ty e i (.int .u8 0) ht hi hz ⟨g,0,none⟩ n cap xs (by rw [b];exact h.1) holds a m c news (by rw [b];simpa using hl) d (by omega) (by simp only [maxLen] at h63;omega) (by rw [l];exact growslice_fits (by omega) (by omega))
   rw [hr] at f
   cases f
   exact ⟨Bk w _,λk hk=> .inr (by simp [fH] at hk;omega)⟩
theorem My {ops:Array kk} {rest:List kk} {o:kk} {a:Act} {Q:Exit->Act->c7->Prop} (g:o.guard=none) (j x:Operand) (t u:fc)
  (r:o.op= .call { callee:= .builtin .append,args:= #[j,x],argTypes:= #[t,u] }) (e:fc) (i:mv) (ht:P.underlying t=some (.slice e)) (hu:P.underlying u=some .string) (hi:P.info? e=some i) (hz:i.zero=some (.int .u8 0)) (c:i.size=1) (f:i.bytes=1)
  (v:c5) (n:Nat) (xs:List c5) (hs:a.eval j=v) (d:w.ownsRow 0 e 1 v n xs) (s:ByteArray) (hx:a.eval x= .string s) (h63:n+s.size<=maxLen) (b:n+s.size<=140737488355328)
  (h: ∀v' w',w'.ownsRow 0 e 1 v' (n+s.size) (xs++strCells s)->w.grownBy w' v.ownBlock->Sizes w w'->(∀k,v'.ownBlock=some k->v.ownBlock=some k\/w.heap.size<=k)->wpList P ops Q rest (a.put o.dst v') w'):wpList P ops Q (o::rest) a w:=by
 refine wpList_plain g λK q=> ?_
 obtain ⟨v',w',hr,h2,l,m,p⟩:=acW (P:=P) w t u o.type e i ht hu hi hz c f v n xs d s h63 b
 unfold Oper.wp execOp
 simp only [r,resolve,invoke,builtin,c6,hd,ch,j2,j0,la,hs,hx,hr]
 exact q _ _ (h v' w' h2 l m p)
theorem L6 {ops:Array kk} {rest:List kk} {o:kk} {a:Act} {Q:Exit->Act->c7->Prop} (p:o.guard=none) (q x:Operand) (t:fc)
  (A:o.op= .call { callee:= .builtin .append,args:= #[q,x],argTypes:= #[t,t] }) (e:fc) (i:mv) (ht:P.underlying t=some (.slice e)) (hi:P.info? e=some i) (hz:i.zero=some (.int .u8 0)) (f:i.size=1) (l:i.bytes=1)
  (v:c5) (n:Nat) (xs:List c5) (hs:a.eval q=v) (g:w.ownsRow 0 e 1 v n xs) (ad:nd) (m c:Nat) (news:List c5) (hx:a.eval x= .slice (some ad) m c) (hl:news.length=m) (d: ∀j u,news[j]? =some u->w.cell? (ad.add j)=some u) (h1: ∀u∈news,u.oneCell'=true) (h63:n+m<=maxLen) (b:n+m<=140737488355328)
  (h: ∀v' w',w'.ownsRow 0 e 1 v' (n+m) (xs++news)->w.grownBy w' v.ownBlock->Sizes w w'->(∀k,v'.ownBlock=some k->v.ownBlock=some k\/w.heap.size<=k)->wpList P ops Q rest (a.put o.dst v') w'):wpList P ops Q (o::rest) a w:=by
 refine wpList_plain p λK z=> ?_
 obtain ⟨v',w',hr,h2,r,s,y⟩:=acP (P:=P) w t o.type e i ht hi hz f l v n xs g ad m c news hl d h1 h63 b
 unfold Oper.wp execOp
 simp only [A,resolve,invoke,builtin,c6,hd,ch,j2,j0,la,hs,hx,hr]
 exact z _ _ (h v' w' h2 r s y)
end
def Bs (w:c7) (ok:Nat->Prop) (es:List (List IV)) (bs:List c5):Prop:=
 es.length=bs.length/\(∀e∈es,e.length=1)/\ ∀(i:Nat) (e:List IV) (x:IV),es[i]? =some e->e[0]? =some x-> ∃v,bs[i]? =some v/\RV w ok x v
theorem Bs.append {w:c7} {ok:Nat->Prop} {es c:List (List IV)} {bs cs:List c5} (h:Bs w ok es bs) (k:Bs w ok c cs):Bs w ok (es++c) (bs++cs):=by
 obtain ⟨h1,h2,d⟩:=h
 obtain ⟨f,j,l⟩:=k
 refine ⟨by simp [h1,f],λe he=> ?_,λi e x he hx=> ?_⟩
 ·rcases hQ.1 he with g | g
  ·exact h2 e g
  ·exact j e g
 ·by_cases hi:i < es.length
  ·rw [bB hi] at he
   obtain ⟨v,a,b⟩:=d i e x he hx
   exact ⟨v,by rw [bB (by omega)];exact a,b⟩
  ·rw [bO (by omega)] at he
   obtain ⟨v,a,b⟩:=l _ e x he hx
   exact ⟨v,by rw [bO (by omega),<-h1];exact a,b⟩
theorem Bs.keeps {w w':c7} {ok ok':Nat->Prop} (hk:Keeps w ok w' ok') {es:List (List IV)} {bs:List c5} (h:Bs w ok es bs):Bs w' ok' es bs:=
 ⟨h.1,h.2.1,λi e x he hx=>by obtain ⟨v,a,b⟩:=h.2.2 i e x he hx;exact ⟨v,a,b.keeps hk⟩⟩
theorem aeF (w:c7) (ok:Nat->Prop) (s:ByteArray):Bs w ok (yg s) (strCells s):=by
 refine ⟨by simp [yg,strCells],λe he=> ?_,λi e x he hx=> ?_⟩
 ·obtain ⟨b,_,rfl⟩:=m3.1 he;rfl
 ·simp only [yg,hS] at he
  obtain ⟨b,hb,rfl⟩:=g7.1 he
  simp at hx;subst hx
  exact ⟨.int .u8 b.toNat,by simp [strCells,hb],.int _ _⟩
theorem afx (w:c7) (ok:Nat->Prop) (c:Int):Bs w ok [[.int .u8 c]] [.int .u8 c]:=by
 refine ⟨rfl,by simp,λi e x he hx=> ?_⟩
 cases i with
 | zero=>simp at he;subst he;simp at hx;subst hx;exact ⟨_,rfl,.int _ _⟩
 | succ i=>simp at he
structure BdAt (w:c7) (T e:fc) (b:Nat) (p u:c5) (n:Nat) (bs:List c5):Prop where
 heap:w.heap[b]? =some (.cells #[p,u] T (0,0))
 addr:p= .pointer none\/p= .pointer (some ⟨b,0,none⟩)
 own:w.ownsRow 0 e 1 u n bs
 ne:u.ownBlock≠some b
def Zf (u:c5) (n:Nat):Pl:=match u with | .slice (some a) _ _=>⟨some (a.block,0),n,1⟩ | _=>⟨none,n,1⟩
theorem ObjVal.bd {w:c7} {ok:Nat->Prop} {T e:fc} {vs:List IV} {v:c5} {pl:Pl} {pA:Nat->Pl} (H:ObjVal w ok (va T e) vs v pl pA):
  ∃b p u es bs,v= .pointer (some ⟨b,0,none⟩)/\pl.loc=some (b,0)/\BdAt w T e b p u es.length bs/\nth vs 1= .lst es/\Bs w ok es bs/\ ∀k,u.ownBlock=some k↔ObjBuf (va T e) pA k:=by
 obtain ⟨b,base,c,W,h1,h2,q,X,D⟩:=H.box
 obtain ⟨p,S,b',E,F,c',Y,G,Q⟩:=D 0 (.sn T 2) rfl
 rw [h1] at E;cases E
 rw [q] at G;cases G
 obtain ⟨u,m,R,n,o⟩:=D 1 (.buf 1 (some e)) rfl
 obtain ⟨I,es,s,t,J,K,L⟩:=n
 have hc:c= #[p,u]:=by
  apply Array.ext_getElem?
  intro i
  match i with
  | 0=>simpa using S
  | 1=>simpa using m
  | i+2=>simp;omega
 subst hc
 have d: ∀k,ObjBuf (va T e) pA k↔ ∃base,(pA 1).loc=some (k,base):= λk=>by
  constructor
  ·rintro ⟨j,sz,base,a,h⟩
   match j,a with
   | 0,a=>simp [va] at a
   | 1,a=>exact ⟨base,h⟩
   | j+2,a=>simp [va] at a
  ·rintro ⟨base,g⟩
   exact ⟨1,(1,some e),base,rfl,g⟩
 rcases o with ⟨rfl,a,h⟩ | ⟨g,cap,a,rfl,h,O,A,z,C,P⟩
 ·have r:=K h
  subst r
  refine ⟨b,p,_,[],[],h2,h1,⟨q,F,World.ownsRow_nil _ _ _ _,by simp [fH]⟩,s,⟨rfl,by simp,by simp⟩,λk=> ?_⟩
  rw [d,h]
  simp [fH]
 ·obtain ⟨N,T2,y,b2,M⟩:=L g 0 a
  rw [y] at C;cases C
  rw [<-t] at h
  have l:(pA 1).sz=1:=I
  refine ⟨b,p,.slice (some ⟨g,0,none⟩) es.length cap,es,A.toList.take es.length,h2,h1,⟨by rw [t];exact q,F,⟨?_,.inr ⟨g,cap,A,rfl,iz _,y,h,O,by rw [P,l],by simp⟩⟩,?_⟩,s,⟨?_,J,λi f x hf hx=> ?_⟩,λk=> ?_⟩
  ·simp;omega
  ·intro hk
   simp only [fH,hT] at hk
   exact H.apart b 0 h1 ((d b).2 ⟨0,by rw [a,hk]⟩)
  ·simp;omega
  ·obtain ⟨v,U,V⟩:=M i 0 f x hf hx
   have hi:=(b7.1 hf).1
   refine ⟨v,?_,V⟩
   rw [et hi]
   simpa using U
  ·rw [d,a]
   simp [fH]
theorem BdAt.obj {w:c7} {ok:Nat->Prop} {T e:fc} {r:List IV} {b:Nat} {p u:c5} {es:List (List IV)} {bs:List c5} {pl:Pl} (h:BdAt w T e b p u es.length bs) (hl:pl.loc=some (b,0)) (hr:nth r 1= .lst es) (hb:Bs w ok es bs)
  (C: ¬ok b) (o: ∀k,u.ownBlock=some k-> ¬ok k):
  ObjVal w ok (va T e) r (.pointer (some ⟨b,0,none⟩)) pl (λ_=>Zf u es.length)/\ ∀k,ObjBuf (va T e) (λ_=>Zf u es.length) k↔u.ownBlock=some k:=by
 have a: ∀k,ObjBuf (va T e) (λ_=>Zf u es.length) k↔u.ownBlock=some k:= λk=>by
  have:(∃base,(Zf u es.length).loc=some (k,base))↔u.ownBlock=some k:=by
   unfold Zf fH
   split<;>simp
  rw [<-this]
  constructor
  ·rintro ⟨j,sz,base,t,y⟩
   exact ⟨base,y⟩
  ·rintro ⟨base,g⟩
   exact ⟨1,(1,some e),base,rfl,g⟩
 refine ⟨⟨⟨b,0,_,T,hl,rfl,h.heap,by simp [va],λj s hj=> ?_⟩,λb' base' d hk=> ?_,λj k sz sz' D base base' hj hk _ _=> ?_,λk hk=> ?_⟩,a⟩
 ·match j,hj with
  | 0,hj=>
    simp [va] at hj;subst hj
    exact ⟨p,by simp,b,hl,h.addr,_,_,h.heap,rfl⟩
  | 1,hj=>
    simp [va] at hj;subst hj
    refine ⟨u,by simp,by decide,?_,?_⟩
    ·rw [hr]
     rcases h.own.2 with ⟨rfl,hn⟩ | ⟨g,cap,cur,rfl,_,A,n,l,m,c⟩
     ·refine ⟨rfl,es,rfl,rfl,hb.2.1,λ_=>gf.1 hn,λb base hb=>by cases hb⟩
     ·refine ⟨rfl,es,rfl,rfl,hb.2.1,λh=>by simp [Zf] at h,λb2 q z=> ?_⟩
      cases z
      refine ⟨cur,e,A,by omega,λi j f x hf hx=> ?_⟩
      have hlen:=hb.2.1 f (hB hf)
      have hj:j=0:=by have:=(b7.1 hx).1;omega
      subst hj
      obtain ⟨v,t,y⟩:=hb.2.2 i f x hf hx
      refine ⟨v,?_,y⟩
      have hi:=(b7.1 hf).1
      rw [<-c,Nat.mul_one,et hi] at t
      simpa using t
    ·rcases h.own.2 with ⟨rfl,hn⟩ | ⟨g,cap,cur,rfl,_,A,n,l,m,c⟩
     ·exact .inl ⟨rfl,hn,rfl⟩
     ·exact .inr ⟨g,cap,rfl,rfl,n,l,cur,_,A,m⟩
  | j+2,hj=>simp [va] at hj
 ·rw [hl] at d;cases d
  exact h.ne ((a b).1 hk)
 ·match j,k,hj,hk with
  | 0,_,hj,_=>simp [va] at hj
  | 1,0,_,hk=>simp [va] at hk
  | 1,1,_,_=>rfl
  | 1,k+2,_,hk=>simp [va] at hk
  | j+2,_,hj,_=>simp [va] at hj
 ·rcases hk with ⟨base,hk⟩ | hk
  ·rw [hl] at hk;cases hk;exact C
  ·exact o k ((a k).1 hk)
structure Grew (w w':c7) (b:Nat) (u u':c5):Prop where
 os:w'.os=w.os
 tape:w'.tape=w.tape
 output:w'.output=w.output
 size:w.heap.size<=w'.heap.size
 sizes:Sizes w w'
 other: ∀k,k < w.heap.size->k≠b->u.ownBlock≠some k->w'.heap[k]? =w.heap[k]?
 new: ∀k,u'.ownBlock=some k->u.ownBlock=some k\/w.heap.size<=k
theorem BdAt.alloc {w:c7} {T e:fc} {b:Nat} {p u:c5} {n:Nat} {bs:List c5} (h:BdAt w T e b p u n bs) (o:Obj):BdAt (w.alloc o) T e b p u n bs:=
 ⟨(Lib.alloc_old w o b (b6.1 h.heap).1).trans h.heap,h.addr,h.own.alloc o,h.ne⟩
theorem Grew.alloc {w w':c7} {b:Nat} {u u':c5} (h:Grew w w' b u u') (o:Obj):Grew w (w'.alloc o) b u u':=
 ⟨h.os,h.tape,h.output,hP h.size (by show w'.heap.size<=(w'.heap.push o).size;simp),h.sizes.trans λb c T z hb=>⟨c,z,(Lib.alloc_old w' o b (b6.1 hb).1).trans hb,rfl⟩,
   λk hk a d=>(Lib.alloc_old w' o k (k3 hk h.size)).trans (h.other k hk a d),h.new⟩
section
variable {P:ek} {g:eW} {T e:fc}
theorem aaG {res:List Nat} {fn:List (List IV)->Option (List IV)} (v: ∀rest,fn ([.nilp]::rest)=none)
  (h: ∀(w:c7) (ok:Nat->Prop) (as:List (List IV)) (vs:List IV) (args:List c5) (r:List IV) (es:List (List IV)),cL w ok as args->fn (vs::as)=some r->vs.length=2->nth vs 1= .lst es->
    ∃s cs I,nth r 1= .lst (es++s)/\s.length=cs.length/\(∀w' ok',Bs w' ok' s cs)/\(∀w' ok',gm w' ok' res (r.drop 2) I)/\ ∀b p u bs,BdAt w T e b p u es.length bs->
     lv P g (.pointer (some ⟨b,0,none⟩)::args).toArray w λE w'=>E= .returned I/\ ∃J u',BdAt w' T e b J u' (es.length+cs.length) (bs++cs)/\Grew w w' b u u'):
  ay P g ⟨.obj (va T e),false,res,0,fn⟩:=by
 refine ⟨λw ok as vs I pl pA args r hok hlen G L i hr=> ?_,λw ok w1 M as args r _ _ _ hr=> ?_⟩
 ·obtain ⟨b,p,u,es,bs,rfl,hl,hb,F,z,a⟩:=G.bd
  obtain ⟨s,cs,N,D,A,C,y,o⟩:=h w ok as vs args r es i hr hlen F
  refine (o b p u bs hb).mono λE w' K=> ?_
  obtain ⟨rfl,J,u',j,c⟩:=K
  have d: ¬ok b:=G.free b (.inl ⟨0,hl⟩)
  have f: ∀k,u.ownBlock=some k-> ¬ok k:= λk hk=>G.free k (.inr ((a k).1 hk))
  have m:Keeps w ok w' ok:=⟨λk hk=>c.other k (hok k hk) (λe=>d (e▸hk)) λe=>f k e hk,λ_ h=>h⟩
  have n:(es++s).length=es.length+cs.length:=by simp [A]
  rw [<-n] at j
  obtain ⟨H,l⟩:=j.obj (ok:=ok) (r:=r) hl D ((z.keeps m).append (C w' ok)) d λk hk=>by
   rcases c.new k hk with q | q
   ·exact f k q
   ·intro h2;have:=hok k h2;omega
  refine ⟨N,ok,_,rfl,c.os,c.tape,c.output,c.size,c.sizes,λk hk x=>c.other k hk (λe=>x (.inl ⟨0,e▸hl⟩)) λe=>x (.inr ((a k).1 e)),λ_ h=>h,λ_ h=> .inl h,H,λk hk=> ?_,y w' ok⟩
  have t:=(l k).1 hk
  rcases c.new k t with q | q
  ·exact .inr ((a k).1 q)
  ·exact .inl ⟨q,(j.own.lt k t).2⟩
 ·exfalso
  revert hr
  simp only
  split
  ·rw [v];intro h;cases h
  ·intro h;cases h
theorem WW {c:List IV} {b:UInt8} (h:AQ c=some b):c=[.int .u8 b.toNat]:=by
 unfold AQ at h
 split at h
 ·rename_i n
  split at h
  ·rename_i hn
   cases h
   have:((UInt8.ofNat n.toNat).toNat:Int)=n:=by
    rw [UInt8.toNat_ofNat',Nat.mod_eq_of_lt (by omega)]
    omega
   rw [this]
  ·cases h
 ·cases h
theorem L3: ∀{es:List (List IV)} {l:List UInt8},es.mapM AQ=some l->es=l.map λb=>[.int .u8 b.toNat]
 | [],l,h=>by simp at h;subst h;rfl
 | c::es,l,h=>by
   simp only [hU] at h
   cases hb:AQ c with
   | none=>simp [hb] at h
   | some b=>
     cases hm:es.mapM AQ with
     | none=>simp [hb,hm] at h
     | some a=>
       simp [hb,hm] at h
       subst h
       rw [j0,<-L3 hm,WW hb]
theorem acf {w:c7} {ok:Nat->Prop} {l:List UInt8} {bs:List c5} (h:Bs w ok (l.map λb=>[IV.int .u8 b.toNat]) bs):bs=byteCells l:=by
 obtain ⟨h1,_,d⟩:=h
 apply List.ext_getElem?
 intro i
 by_cases hi:i < l.length
 ·obtain ⟨v,a,c⟩:=d i [.int .u8 l[i].toNat] (.int .u8 l[i].toNat) (by simp [hi]) rfl
  cases c
  simp [byteCells,a,hi]
 ·simp at h1
  rw [ib (by omega),ib (by simp [byteCells];omega)]
def KS (T e:fc) (R:Type) (ps:List PV) (h:List Ob) (k:PV->List Ob->Option R):Option R:=
 match ps with
 | [.ptr o j]=>match DH h (va T e) (.ptr o j) with | some p=>(jW (nth p.1 1)).bind λv=>k (.imm v) (kill h p.2) | none=>none
 | _=>none
 noncomputable def strJ (T e:fc):Inl where
  run:=KS T e
  nat:= λR S ps h k f=>by
   unfold KS
   split
   ·split
    ·rw [fv]
    ·rfl
   ·rfl
  stay:= λps h p h' hr=>by
   unfold KS at hr
   split at hr
   ·split at hr
    ·rename_i o j _ q c
     obtain ⟨v,_,hv⟩:=bR.1 hr
     cases hv
     obtain ⟨b,_⟩:=Cf c
     refine ⟨by rw [fD];exact hq _,λo' d a=> ?_⟩
     rw [nC,if_neg]
     intro hm
     rw [b o' hm] at a;cases a
    ·cases hr
   ·cases hr
theorem aaD (walk: ∀(w:c7) (b:Nat) (p u:c5) (l:List UInt8),BdAt w T e b p u l.length (byteCells l)->lv P g #[.pointer (some ⟨b,0,none⟩)] w λE w'=>E= .returned (.string ⟨l.toArray⟩)/\
   w'.os=w.os/\w'.tape=w.tape/\w'.output=w.output/\w.heap.size<=w'.heap.size/\Sizes w w'/\ ∀k,k < w.heap.size->u.ownBlock≠some k->w'.heap[k]? =w.heap[k]?):
  ay P g ⟨.inl (strJ T e),false,[],0,λ_=>none⟩:=by
 intro w0 ok0 w ok mu h ps args p h' i c hlen hrel hr
 have a:KS T e (PV×List Ob) ps h (λp h=>some (p,h))=some (p,h'):=hr
 unfold KS at a
 split at a
 ·rename_i o j
  split at a
  ·rename_i q y
   obtain ⟨vs,os⟩:=q
   obtain ⟨x,hx,D⟩:=bR.1 a
   cases D
   obtain ⟨v,rfl⟩: ∃v,args=[v]:=by
    match args,hlen with
    | [v],_=>exact ⟨v,rfl⟩
   have rx:=hrel 0 (.ptr o j) v rfl rfl
   obtain ⟨pl,pA,hm,S,Q,A,G,N⟩:=xw i y rx
   obtain ⟨b,p,u,es,bs,rfl,hl,hb,C,f,m⟩:=S.bd
   rw [C] at hx
   unfold jW at hx
   obtain ⟨l,s,rfl⟩:=g7.1 hx
   have r:=L3 s
   rw [r] at f hb
   have n:=acf f
   rw [n] at hb
   simp only [List.length_map] at hb
   have d: ∀k∈os,(getOb h k).live=true/\(getOb h k).fz=false:= λk hk=>P6 (A k hk)
   refine (walk w b p u l hb).mono λE w' O=> ?_
   obtain ⟨rfl,h1,h2,J,K,L,M⟩:=O
   obtain ⟨i2,R⟩:=i.lentout (os:=os) (ok':=ok) d h1 h2 J K L (λk hk t=>M k hk λe=>by
    obtain ⟨q,z,_,F,base,H,I⟩:=N k ((m k).1 e)
    exact t q z F base H I) (λ_ h=>h) (λ_ h=> .inl h)
   exact ⟨_,rfl,ok,mu,R,i2,.imm (.str _),λq y=>c q (by rwa [fD] at y)⟩
  ·cases a
 ·cases a
end
end Go.AM
namespace Go.AM
open Go.RowKit
def FE (sz bytes:Nat) (R:Type) (ps:List PV) (h:List Ob) (k:PV->List Ob->Option R):Option R:=
 match ps with
 | [.nils,.imm x]=>(Vm sz bytes x).bind λ_=>k (.buf h.length 0) (h++[.arr .rw sz (.lst [])])
 | _=>none
 noncomputable def growJ (sz bytes:Nat):Inl where
  run:=FE sz bytes
  nat:= λR S ps h k f=>by
   unfold FE
   split
   ·rw [fv]
   ·rfl
  stay:= λps h p h' hr=>by
   unfold FE at hr
   split at hr
   ·obtain ⟨_,_,h2⟩:=bR.1 hr
    cases h2;exact Stay.append _ _
   ·cases hr
theorem aa3 {P:ek} {g:eW} {sz bytes:Nat} (walk: ∀(w:c7) (A:Option nd) (n:Nat),n*(bytes+1)<=2 ^ 40->lv P g #[.slice A 0 0,.int .i64 (n:Int)] w λE w'=> ∃v,E= .returned v/\
   ((v= .slice A 0 0/\w'=w)\/ ∃(cells:Array c5) (T:fc) (cap:Nat),v= .slice (some ⟨w.heap.size,0,none⟩) 0 cap/\cap*sz<=cells.size/\w'=w.drew.alloc (.cells cells T))):
  ay P g ⟨.inl (growJ sz bytes),false,[],0,λ_=>none⟩:=by
 intro w0 ok0 w ok mu h ps args p h' i a hlen hrel hr
 have d:FE sz bytes (PV×List Ob) ps h (λp h=>some (p,h))=some (p,h'):=hr
 unfold FE at d
 split at d
 ·rename_i x
  obtain ⟨_,hx,h2⟩:=bR.1 d
  cases h2
  unfold Vm at hx
  split at hx
  rotate_left
  ·cases hx
  rename_i n
  split at hx
  ·rename_i hc
   obtain ⟨l,m,rfl⟩: ∃l m,args=[l,m]:=by
    match args,hlen with
    | [l,m],_=>exact ⟨l,m,rfl⟩
   have G:=hrel 0 _ l rfl rfl
   have u:=hrel 1 _ m rfl rfl
   cases G with
   | nils A=>
     cases u with
     | imm u=>
       cases u
       have t:((n.toNat:Nat):Int)=n:=by omega
       have hw:=walk w A n.toNat hc.2.1
       rw [t] at hw
       refine hw.mono λE w' y=> ?_
       obtain ⟨v,rfl,hv⟩:=y
       rcases hv with ⟨rfl,rfl⟩ | ⟨cells,T,cap,rfl,hcap,rfl⟩
       ·obtain ⟨q,r,s⟩:=i.add a (ob:= .arr .rw sz (.lst [])) (pl:=⟨none,0,sz⟩) (.inl ⟨hc.2.2,rfl,[],rfl,rfl,by simp,λ_=>rfl,λb base hb=>by cases hb⟩) (λb base hb=>by cases hb)
        exact ⟨_,rfl,ok,_,s,q,.buf _ 0 A 0 ⟨none,0,sz⟩ (by simp) rfl ⟨hq _,.inl ⟨rfl,rfl⟩⟩ λb base hb=>(by cases hb),r⟩
       ·have f:Sizes w (w.drew.alloc (.cells cells T)):= λb c H z hb=>⟨c,z,(Below.heap_alloc w.drew _ b (b6.1 hb).1).trans hb,rfl⟩
        have hsz:(w.drew.alloc (.cells cells T)).heap.size=w.heap.size+1:=by show (w.heap.push _).size=_;simp
        obtain ⟨i2,F⟩:=i.lentout (os:=[]) (ok':=ok) (w':=w.drew.alloc (.cells cells T)) (by simp) rfl rfl rfl (by omega) f (λb hb _=>Below.heap_alloc w.drew _ b hb) (λ_ h=>h) λb hb=> .inl hb
        simp only [kill] at i2
        have k:(w.drew.alloc (.cells cells T)).heap[w.heap.size]? =some (.cells cells T (0,0)):=gq w.drew _
        obtain ⟨q,r,s⟩:=i2.add a (ob:= .arr .rw sz (.lst [])) (pl:=⟨some (w.heap.size,0),0,sz⟩) (.inl ⟨hc.2.2,rfl,[],rfl,rfl,by simp,λh=>(by cases h),λb base hb=>by
          cases hb;exact ⟨cells,T,k,by simp,λi j e x he=>by simp at he⟩⟩) (λb base hb=>by
          cases hb
          exact ⟨.inl i.below.size,by omega,λhb=>by have:=i.okw _ hb;omega,λo pl' base' C D=>by have:=(i.own o pl' _ base' C D).2.1;omega⟩)
        refine ⟨_,rfl,ok,_,F.trans s,q,.buf _ 0 _ cap ⟨some (w.heap.size,0),0,sz⟩ (by simp) rfl ⟨iz _,.inr ⟨w.heap.size,0,rfl,by simp⟩⟩ λb base hb=> ?_,r⟩
        cases hb
        exact ⟨cells,T,(0,0),k,by simpa using hcap⟩
  ·cases hx
 ·cases d
end Go.AM
namespace Go.AM
open Go.RowKit
theorem uL {w:c7} {ok:Nat->Prop} {y:IV} {u:c5} (h:RV w ok y u):R6 w ok [y] [u]:=⟨rfl,λi c v h1 h2=>by
 cases i with
 | zero=>cases h1;cases h2;exact h
 | succ i=>simp at h1⟩
section
variable {P:ek} {Γ:eW->Option FSig} {C:IV->List Nat->List (List IV)->Option (List IV)} {A:Ann}
theorem QY (s:aF P Γ) (E:COK P C) (hm:P.follows .mixedOrders=true) {g:eW} {f:mb} (G:P.funcs[g]? =some f) (hb:(match f.body with | some c=>Ev Γ A c | none=>false)=true)
  {n:IV->Option (List IV)} {hs:IV->List Ob} (k: ∀y,tV P Γ C A f (PV×List Ob) [.agg [.imm y]] [] (λp h=>some (p,h))=(n y).bind λr=>some (.imm (nth r 0),hs y)) (y:IV) (u:c5) (W:c7) (x:Nat->Prop) (H:RV W x y u):
  PureAt P g [ifV true u] [1] (λl=>match l with | []=>n y | _=>none) W x:=by
 intro w ok ls args r hk hok d hr
 have o:ls=[]/\n y=some r:=by
  revert hr
  cases ls with
  | nil=>exact λh=>⟨rfl,h⟩
  | cons c l=>intro h;cases h
 obtain ⟨rfl,hr⟩:=o
 have a:args=[]:=gf.1 d.1.symm
 subst a
 have hrel: ∀(i:Nat) (p:PV) (v:c5),[PV.agg [.imm y]][i]? =some p->[Value.agg #[u]][i]? =some v->RP w ok (λ_=>none) p v:= λi p v h1 h2=>by
  cases i with
  | zero=>
    cases h1;cases h2
    refine .agg _ _ rfl λj p v z D=> ?_
    cases j with
    | zero=>cases z;simp at D;subst D;exact .imm (H.keeps hk)
    | succ j=>simp at z
  | succ i=>simp at h1
 have F:tV P Γ C A f (PV×List Ob) [.agg [.imm y]] [] (λp h=>some (p,h))=some (.imm (nth r 0),hs y):=by
  have q:n y=some r:=hr
  rw [k,q];rfl
 have m:ay P g ⟨.inl (lA P Γ C A f),false,[],0,λ_=>none⟩:=aO s E hm G hb
 refine (m w ⟨ok,λ_=>False⟩ w ok (λ_=>none) [] [.agg [.imm y]] [.agg #[u]] _ _ (Te hok _) (λ_ _=>rfl) rfl hrel F).mono λe w' he=> ?_
 obtain ⟨v,rfl,ok',mu',l,i,t,_⟩:=he
 refine ⟨v,rfl,i.below.below (λ_ h=>h),?_⟩
 cases t with
 | imm t=>
   refine .inl ⟨rfl,t.more λb hb=> ?_⟩
   rcases i.okb b hb with h | h | h
   ·exact .inl h
   ·exact .inr ⟨h,i.okw b hb⟩
   ·exact h.elim
end
theorem WC (name:String) (Part:IV->Option (List IV)) (C:IV->List Nat->List (List IV)->Option (List IV)) (y:IV) {R:Type} (f:IV->Option R):((C (Gx name y) [1] []).bind λr=>(Part (nth r 0)).bind λa=>f (nth a 0))=(BU name Part C y).bind λr=>f (nth r 0):=by
 unfold BU
 cases C (Gx name y) [1] [] with
 | none=>rfl
 | some r=>simp only [Option.bind_some];cases Part (nth r 0)<;>rfl
end Go.AM
