/- The abstract machine's operations against the model's, fifth part: append. -/
import Derived.Test.YtgoenohknokcmaaGreatAa
import Derived.Lib.ConvBytes
open Option renaming bind_eq_some_iff->bd,isSome_iff_exists->ek,map_eq_some_iff->e5,bind_assoc->hX,bind_some->nF,map_some->ru
open List renaming getElem?_eq_some_iff->b0,getElem?_eq_getElem->b6,getElem?_append_left->b7,getElem?_append_right->ch,getElem?_take_of_lt->c0,getD_eq_getElem?_getD->c7,getElem?_cons_succ->dd,mem_of_getElem?->ds,getElem?_toArray->eP,length_eq_zero_iff->eZ,mem_singleton->e9,getElem?_drop->fH,length_append->gd,getElem_mem->gf,mem_of_mem_take->gw,getElem?_cons_zero->g4,mem_append->hG,getElem?_map->hH,append_assoc->hL,length_cons->hR,getElem?_set_self->hT,map_cons->hU,getElem?_set_ne->hY,exists_mem_of_ne_nil->h8,replicate->ia,getElem?_eq_none->jm,mem_append_right->jA,all_eq_true->j0,isEmpty_iff->j1,mem_of_mem_drop->j3,contains_eq_mem->ke,mem_append_left->kh,getElem?_range->kv,mem_or_eq_of_mem_set->lv,size_toArray->l5,eq_of_mem_replicate->mb,mem_flatMap->n0,cons_append->n1,mem_map->n3,range->o0,mem_iff_getElem->o2,range_eq_range'->o3,mem_cons->p1,mem_cons_self->p3,getElem?_set->q0,range'_succ->q8,nil_append->r0,length_nil->r1,range'->sc
open Nat renaming mul_le_mul_right->cb,le_refl->ck,lt_of_lt_of_le->dq,add_mul->e6,le_trans->e7,add_sub_cancel_left->fa,mul_comm->fb,zero_add->g6,eq_zero_or_pos->hD,div_lt_of_lt_mul->hF,succ_mul->hM,lt_or_ge->jb,div_add_mod->km,le_mul_of_pos_right->mv,one_pos->nm,mod_eq_of_lt->nn,sub_self->n5,mod_lt->oi,mul_le_mul_left->pf,add_zero->q3,le_of_not_lt->q7,mul_add_mod->rl,min->sl
open Go renaming Value->c5,TypeId->c9,World->eg,Operand->eW,Program->ha,FuncId->hd,madeCells->hP,MapEntry->qs,Builtin->r2,Oper->r3,Call->r4,Calls->r6
open Option.some renaming injEq->c6,inj->ri
open Go.Result renaming andThen_ok->e8,andThen->fv
open Go.Sem renaming run_bind->fc,run_pure->q4
open Array renaming getElem?_eq_some_iff->fl,getElem?_eq_getElem->hE,eq_empty_of_size_eq_zero->hO,length_toList->hQ,toList_inj->nA,getElem?_modify->n4,getElem?_push->pv,range->sh
open Go.Builtin renaming nextslicecap->g0,append_->hI,growBy->iH,lenOf->ki,copy_->kk,firstCells->lb,zeroCells->l4,len_->q6
open Go.MapKept renaming IsKey->g5,run_getObj_map->ho,run_checkKey->hZ,run_findKey->ib,run_setObj_map->n2,bytes_beq->q2,heap_set->q9
open Go.Instr renaming buildSlice->hB,sameNow->hV,findNow->hW,mapUpdate->k0,makeInterface->la,sameBits->l1,storeAt->nd,fill->o1,lookup->q5
open Go.Next renaming value->hJ,skip->r5
open Go.Calls renaming mono->hS
open Go.Lib renaming bytesWorld->h9
open List.cons renaming injEq->ic
open Bool renaming not_eq_true'->iz,and_eq_true->j2,false_eq_true->lf,not_false->pe
set_option linter.unusedVariables false
set_option linter.unusedSimpArgs false
namespace Go.AM
open Go.RowKit
section
variable {P:ha} {o:r3} {a:Act} {w:eg} {ok:Nat->Prop} {mu:Mu} {h:List Ob} {fr:List PV}
def Rows (w:eg) (ok:Nat->Prop) (es:List (List IV)) (sz:Nat) (vs:List c5):Prop:=
 vs.length=es.length*sz/\(∀v∈vs,v.oneCell'=true)/\ ∀(i j:Nat) (e:List IV) (x:IV),es[i]? =some e->e[j]? =some x-> ∃v,vs[i*sz+j]? =some v/\RV w ok x v
theorem DX {n sz i j:Nat} (hi:i < n) (hj:j < sz):i*sz+j < n*sz:=by
 calc i*sz+j < i*sz+sz:=by omega
  _=(i+1)*sz:=by rw [hM]
  _<=n*sz:=cb _ hi
theorem Rows.append {es ys:List (List IV)} {sz:Nat} {us vs:List c5} (h1:Rows w ok es sz us) (h2:Rows w ok ys sz vs) (he: ∀e∈es,e.length=sz):Rows w ok (es++ys) sz (us++vs):=by
 refine ⟨by simp [h1.1,h2.1,e6],λv hv=> ?_,λi j e x hi hj=> ?_⟩
 ·rcases hG.1 hv with hv | hv
  ·exact h1.2.1 v hv
  ·exact h2.2.1 v hv
 ·by_cases a:i < es.length
  ·rw [b7 a] at hi
   have c:j < sz:=by rw [<-he e (ds hi)];exact (b0.1 hj).1
   obtain ⟨v,hv,hr⟩:=h1.2.2 i j e x hi hj
   exact ⟨v,by rw [b7 (by rw [h1.1];exact DX a c)];exact hv,hr⟩
  ·rw [ch (by omega)] at hi
   obtain ⟨v,hv,hr⟩:=h2.2.2 (i - es.length) j e x hi hj
   refine ⟨v,?_,hr⟩
   have b:us.length<=i*sz+j:=by
    rw [h1.1]
    have:es.length*sz<=i*sz:=cb _ (by omega)
    omega
   rw [ch b,h1.1]
   have:i*sz+j - es.length*sz=(i - es.length)*sz+j:=by
    rw [Nat.sub_mul]
    have:es.length*sz<=i*sz:=cb _ (by omega)
    omega
   rw [this];exact hv
theorem uX (U:InvQ w ok mu h) {p:PV} {v:c5} (r:RP w ok mu p v) {ys:List (List IV)} (hs:pK h p=some (.lst ys)) {sz:Nat} (Y:0 < sz) (f: ∀e∈ys,e.length=sz):
  ∃A cap vs,v= .slice A ys.length cap/\Rows w ok ys sz vs/\(0 < ys.length-> ∃ad,A=some ad/\ ∀q u,vs[q]? =some u->w.cell? (ad.add q)=some u):=by
 have m: ∀{pl:Pl} {es:List (List IV)} {md:Md} {s:Nat} {q:Nat} {A:Option Addr} {cap l u:Nat},mu q=some pl->getOb h q= .arr md s (.lst es)->l<=u->u<=pl.len->Hdr pl l (u - l) cap A->(es.drop l).take (u - l)=ys->v= .slice A (u - l) cap->
   ∃A cap vs,v= .slice A ys.length cap/\Rows w ok ys sz vs/\(0 < ys.length-> ∃ad,A=some ad/\ ∀q u,vs[q]? =some u->w.cell? (ad.add q)=some u):=by
  intro pl es md s q A cap l u hm H ab ac hh F hv
  have k:=U.ob q pl hm
  rw [H] at k
  obtain ⟨I,G,C,hlen,he,R,hc⟩:=k.arrN (λ_ h=>by cases h)
  cases C
  have L:ys.length=u - l:=by rw [<-F];simp;omega
  rcases hh.2 with ⟨h0,_⟩ | ⟨b,base,hb,O⟩
  ·have:ys=[]:=eZ.1 (by omega)
   subst this
   exact ⟨A,cap,[],by rw [hv,<-L],⟨by simp,by simp,by simp⟩,λhp=>by simp at hp⟩
  ·obtain ⟨c,T,hw,hsz,hr⟩:=hc b base hb
   by_cases y:ys=[]
   ·subst y
    exact ⟨A,cap,[],by rw [hv,<-L],⟨by simp,by simp,by simp⟩,λhp=>by simp at hp⟩
   ·have K:s=sz:=by
     obtain ⟨e,o⟩:=h8 ys y
     have h1:=f e o
     have h2:=he e (by rw [<-F] at o;exact j3 (gw o))
     omega
    subst K
    have X:base+l*s+ys.length*s<=c.size:=by
     have:l*s+ys.length*s<=es.length*s:=by rw [<-e6];exact cb _ (by omega)
     omega
    have g: ∀i j e x,ys[i]? =some e->e[j]? =some x-> ∃v,c[base+l*s+(i*s+j)]? =some v/\RV w ok x v:=by
     intro i j e x hi hj
     have D:i < u - l:=by have:=(b0.1 hi).1;omega
     rw [<-F,c0 D,fH] at hi
     obtain ⟨v,h1,h2⟩:=hr (l+i) j e x hi hj
     refine ⟨v,?_,h2⟩
     rw [show base+l*s+(i*s+j)=base+(l+i)*s+j by rw [e6];omega]
     exact h1
    refine ⟨A,cap,(c.toList.drop (base+l*s)).take (ys.length*s),by rw [hv,<-L],⟨by simp;omega,λv hv=> ?_,λi j e x hi hj=> ?_⟩,λ_=>⟨_,O,λq u t=> ?_⟩⟩
    ·obtain ⟨q,t,S⟩:=o2.1 hv
     have d:q < ys.length*s:=by simp at t;omega
     have a:0 < s:=by
      rcases hD s with h0 | h0
      ·subst h0;simp at d
      ·exact h0
     have hdiv:q / s < ys.length:=hF (by rw [fb];exact d)
     have N:q % s < s:=oi _ a
     have P:ys[q / s].length=s:=f _ (gf hdiv)
     obtain ⟨v',h1,h2⟩:=g (q / s) (q % s) _ _ (b6 hdiv) (b6 (by omega))
     have J:q / s*s+q % s=q:=by rw [fb];exact km q s
     rw [J] at h1
     have:v=v':=by
      have V:((c.toList.drop (base+l*s)).take (ys.length*s))[q]? =some v:=by rw [b6 t,S]
      rw [c0 d,fH] at V
      have W:c[base+l*s+q]? =some v:=by simpa using V
      rw [h1] at W;exact (ri W).symm
     rw [this];exact h2.atomic
    ·have D:i < ys.length:=(b0.1 hi).1
     have E:j < s:=by rw [<-f e (ds hi)];exact (b0.1 hj).1
     obtain ⟨v,h1,h2⟩:=g i j e x hi hj
     refine ⟨v,?_,h2⟩
     rw [c0 (DX D E),fH]
     simpa using h1
    ·have d:q < ys.length*s:=by
      have:=(b0.1 t).1;simp at this;omega
     rw [c0 d,fH] at t
     rw [dI,I,iY hw]
     simpa using t
 cases p with
 | imm x=>
   simp only [pK,c6] at hs
   subst hs
   cases r with
   | imm r=>
     cases r with
     | lst es A cap s vals hcap hsz hmem hrel=>
       by_cases y:ys=[]
       ·subst y
        exact ⟨A,cap,[],rfl,⟨by simp,by simp,by simp⟩,λhp=>by simp at hp⟩
       ·have K:s=sz:=by
         obtain ⟨e,o⟩:=h8 ys y
         have h1:=f e o
         have h2:=hsz e o
         omega
        subst K
        have Q:0 < ys.length:=List.length_pos_iff.2 y
        refine ⟨A,cap,(o0 (ys.length*s)).map λq=>vals (q / s) (q % s),rfl,⟨by simp,λv hv=> ?_,λi j e x hi hj=> ?_⟩,λ_=> ?_⟩
        ·obtain ⟨q,t,rfl⟩:=n3.1 hv
         have d:q < ys.length*s:=List.mem_range.1 t
         have a:0 < s:=by
          rcases hD s with h0 | h0
          ·subst h0;simp at d
          ·exact h0
         have hdiv:q / s < ys.length:=hF (by rw [fb];exact d)
         have N:q % s < s:=oi _ a
         have P:ys[q / s].length=s:=f _ (gf hdiv)
         exact (hrel _ _ _ _ (b6 hdiv) (b6 (by omega))).atomic
        ·have D:i < ys.length:=(b0.1 hi).1
         have E:j < s:=by rw [<-f e (ds hi)];exact (b0.1 hj).1
         have a:0 < s:=by omega
         have h1:(i*s+j) / s=i:=by rw [fb,Nat.mul_add_div a,Nat.div_eq_of_lt E,q3]
         have h2:(i*s+j) % s=j:=by rw [fb,rl,nn E]
         refine ⟨vals i j,?_,hrel i j e x hi hj⟩
         rw [hH,kv (DX D E)]
         simp [h1,h2]
        ·obtain ⟨ad,O,_,_⟩:=hmem 0 0 Q (by omega)
         refine ⟨ad,O,λq u t=> ?_⟩
         have d:q < ys.length*s:=by
          have:=(b0.1 t).1;simpa using this
         rw [hH,kv d] at t
         simp only [ru,c6] at t
         have a:0 < s:=by omega
         obtain ⟨Z,M,_,z⟩:=hmem (q / s) (q % s) (hF (by rw [fb];exact d)) (oi _ a)
         rw [O] at M;cases M
         have J:q / s*s+q % s=q:=by rw [fb];exact km q s
         rw [J] at z
         rw [z,t]
 | nils=>
   simp only [pK,c6] at hs
   cases hs
   cases r
   exact ⟨_,0,[],rfl,⟨by simp,by simp,by simp⟩,λhp=>by simp at hp⟩
 | buf q n=>
   simp only [pK] at hs
   split at hs
   ·rename_i md s x H
    cases hs
    cases r with
    | buf q n A cap pl hm hn hh hc=>
      have k:=U.ob q pl hm
      rw [H] at k
      obtain ⟨I,G,C,hlen,_⟩:=k.arrC hc
      cases C
      exact m (l:=0) (u:=n) hm H (Nat.zero_le _) (by omega) hh (by simp [hn,<-hlen]) rfl
   ·cases hs
 | sub q l u=>
   simp only [pK] at hs
   split at hs
   ·rename_i md s x H
    cases r with
    | sub q l u A cap pl hm hl hn hh hc=>
      have k:=U.ob q pl hm
      rw [H] at k
      obtain ⟨I,G,C,hlen,_⟩:=k.arrC hc
      subst C
      rw [F8] at hs
      have F:(G.drop l).take (u - l)=ys:=by simpa using hs
      exact m hm H hl hn hh F rfl
   ·cases hs
 | _=>simp [pK] at hs
theorem dZ {A:Option Addr} {n cap sz:Nat} {us:List c5} (hl:us.length=n*sz) (hc:0 < n-> ∃ad,A=some ad/\ ∀q u,us[q]? =some u->w.cell? (ad.add q)=some u):(lb sz n (.slice A n cap)).run P w= .ok us.toArray w:=by
 cases A with
 | none=>
   have hn:n=0:=by
    rcases hD n with h | h
    ·exact h
    ·obtain ⟨ad,a,_⟩:=hc h;cases a
   subst hn
   have:us=[]:=eZ.1 (by simpa using hl)
   subst this
   rfl
 | some ad=>
   have:=run_loadCells_list (P:=P) w ad us (λq u b=>by
    rcases hD n with h | h
    ·subst h
     have:us=[]:=eZ.1 (by simpa using hl)
     subst this;simp at b
    ·obtain ⟨c,a,h2⟩:=hc h
     cases a;exact h2 q u b)
   rw [hl] at this
   exact this
theorem mq {e:c9} (h:qL P e=true): ∃i z,P.info? e=some i/\i.zero=some z/\z.cells.size=P.cellsOf e/\0 < P.cellsOf e/\i.size=P.cellsOf e/\i.bytes=P.bytesOf e:=by
 unfold qL m7 at h
 cases hi:P.info? e with
 | none=>simp [hi] at h
 | some i=>
   cases hz:i.zero with
   | none=>simp [hi,hz] at h
   | some z=>
     simp [hi,hz] at h
     exact ⟨i,z,rfl,hz,h.1,h.2,by simp [Program.cellsOf,hi],by simp [Program.bytesOf,hi]⟩
theorem Qq (n:Nat): ∀(r c:Nat),c<=n->iH n r c<=n+(n+768)
 | 0,c,h=>by simp [iH];omega
 | r+1,c,h=>by
   simp only [iH]
   split
   ·omega
   ·by_cases h2:c+(c+768) / 4<=n
    ·exact Qq n r _ h2
    ·have a: ∀r c',n<=c'->iH n r c'=c':= λr c' hc=>by cases r<;>simp [iH];omega
     rw [a r _ (by omega)]
     omega
theorem I3 {a cap bytes:Nat} (h:a*(bytes+1)<=2 ^ 40) (hc:cap < a): ¬(g0 a cap*bytes > 2 ^ 48):=by
 have hb:g0 a cap<=2*a\/(256<=a/\g0 a cap<=a+(a+768)):=by
  unfold g0
  split
  ·left;omega
  ·split
   ·left;omega
   ·right
    exact ⟨by omega,Qq a 4 cap (by omega)⟩
 have h1:a*bytes<=2 ^ 40:=e7 (pf _ (Nat.le_succ _)) h
 rcases hb with hb | ⟨b,hb⟩
 ·have:g0 a cap*bytes<=2*a*bytes:=cb _ hb
  rw [Nat.mul_assoc] at this
  omega
 ·have h2:g0 a cap*bytes<=(a+(a+768))*bytes:=cb _ hb
  have c:(a+(a+768))*bytes=2*(a*bytes)+768*bytes:=by rw [e6,e6];omega
  have d:256*bytes<=a*bytes:=cb _ b
  omega
theorem run_askRoom (n:Nat) (w:eg):(askRoom n).run P w= .ok () w:=by
 unfold askRoom;split<;>rfl
theorem tQ (z:Array c5) (n:Nat):(l4 z n).size=n*z.size:=by simp [l4]
theorem pj {ats:Array c9} {t0 t1 e F:c9} {ty:c9} (G:ats= #[t0,t1]) (hu:P.underlying t0=some (.slice e)) (r:P.underlying t1=some (.slice F)) (hok:qL P e=true) {A A':Option Addr} {n cap m cap':Nat} {us vs:List c5}
  (t:us.length=n*P.cellsOf e) (s:0 < n-> ∃ad,A=some ad/\ ∀q u,us[q]? =some u->w.cell? (ad.add q)=some u) (y:vs.length=m*P.cellsOf e) (v:0 < m-> ∃ad,A'=some ad/\ ∀q u,vs[q]? =some u->w.cell? (ad.add q)=some u)
  (d:cap < n+m) (b:(n+m)*(P.bytesOf e+1)<=2 ^ 40):
  ∃(a:Nat) (rest:List c5),n+m<=a/\rest.length=(a - (n+m))*P.cellsOf e/\
   (hI ats ty #[.slice A n cap,.slice A' m cap']).run P w= .ok (.slice (some ⟨w.heap.size,0,none⟩) (n+m) a) (w.drew.alloc (.cells (us++vs++rest).toArray e)):=by
 obtain ⟨i,z,hi,hz,C,E,hsz,o⟩:=mq hok
 have H:n+m<=2 ^ 40:=e7 (mv _ (by omega)) b
 let a:=(n+m)+(w.tape w.drawn (.appendCap (n+m) cap e)) % (2 ^ 63 - (n+m))
 refine ⟨a,(l4 z.cells (a - (n+m))).toList,by omega,by simp [tQ,C],?_⟩
 have k:= λ(w':eg) (hw:w'.heap=w.heap)=>dZ (P:=P) (w:=w') (A:=A) (cap:=cap) t (λh=>by
  obtain ⟨ad,j,p⟩:=s h
  exact ⟨ad,j,λq u hh=>by have:=p q u hh;unfold World.cell? at*;rw [hw];exact this⟩)
 have l:= λ(w':eg) (hw:w'.heap=w.heap)=>dZ (P:=P) (w:=w') (A:=A') (cap:=cap') y (λh=>by
  obtain ⟨ad,j,p⟩:=v h
  exact ⟨ad,j,λq u hh=>by have:=p q u hh;unfold World.cell? at*;rw [hw];exact this⟩)
 have g: ¬(((n+m:Nat):Int) > IntKind.i64.max):=by
  have:IntKind.i64.max=9223372036854775807:=by rfl
  omega
 have hcap:=I3 b d
 subst G
 have hw:w.drew.heap=w.heap:=rfl
 have c:(choose (.appendCap (n+m) cap e)).run P w= .ok a w.drew:=by
  rfl
 have f: ∀{α:Type} (x:α) (w:eg),(pure x:Sem α).run P w= .ok x w:= λ_ _=>rfl
 have D: ∀w':eg,(zeroValue e).run P w'= .ok z w':= λw'=>by simp [zeroValue,run_typeInfo w' hi,hz]
 simp only [hI,fc,run_underlying hu,run_underlying r,run_sizeOf w hi,e8,ki,eP,g4,dd,pe,lf,if_false,if_true,false_or,f,if_neg (Nat.not_le.2 d)]
 simp only [run_typeInfo w hi,e8]
 rw [if_neg (by rw [not_and];intro h;exact absurd h g)]
 simp only [fc,run_typeInfo w hi,e8,o,if_neg hcap,c,run_typeInfo w.drew hi,run_askRoom,k w.drew hw,l w.drew hw,D,newRow,f]
 simp
 congr 2
 apply nA.1
 simp
theorem IJ {ats:Array c9} {t0 t1 e r:c9} {ty:c9} (t:ats= #[t0,t1]) (hu:P.underlying t0=some (.slice e)) (k:P.underlying t1=some (.slice r)) (f:0 < P.cellsOf e) {A A':Option Addr} {n cap m cap':Nat} {vs:List c5}
  (p:vs.length=m*P.cellsOf e) (o:0 < m-> ∃ad,A'=some ad/\ ∀q u,vs[q]? =some u->w.cell? (ad.add q)=some u) (l: ∀v∈vs,v.oneCell'=true)
  (a:n+m<=cap) {b off:Nat} (s:A=some ⟨b,off,none⟩) {c:Array c5} {T:c9} (hw:w.heap[b]? =some (.cells c T (0,0))) (j:off+n*P.cellsOf e+vs.length<=c.size):
  (hI ats ty #[.slice A n cap,.slice A' m cap']).run P w= .ok (.slice A (n+m) cap) (w.setRow b (c.toList.take (off+n*P.cellsOf e)++vs++c.toList.drop (off+n*P.cellsOf e+vs.length)).toArray):=by
 obtain ⟨i,hi⟩:=ek.1 (kn f)
 have h:=dZ (P:=P) (w:=w) (A:=A') (cap:=cap') p o
 have g:=run_storeCells_at (P:=P) b (off+n*P.cellsOf e) T vs 0 c w hw (by omega) l
 have d: ∀{α:Type} (x:α) (w:eg),(pure x:Sem α).run P w= .ok x w:= λ_ _=>rfl
 subst t
 subst s
 simp only [hI,fc,run_underlying hu,run_underlying k,run_sizeOf w hi,e8,ki,eP,g4,dd,pe,lf,if_false,if_true,false_or,d,if_pos a,h,dI]
 simp only [q3] at g
 rw [g]
 rfl
theorem zT {ats:Array c9} {t0 t1 e g:c9} {ty:c9} (j:ats= #[t0,t1]) (hu:P.underlying t0=some (.slice e)) (f:P.underlying t1=some (.slice g)) (c:0 < P.cellsOf e) {A A':Option Addr} {n cap cap':Nat} (a:n<=cap):
  (hI ats ty #[.slice A n cap,.slice A' 0 cap']).run P w= .ok (.slice A n cap) w:=by
 obtain ⟨i,hi⟩:=ek.1 (kn c)
 have d:=dZ (P:=P) (w:=w) (A:=A') (n:=0) (sz:=P.cellsOf e) (cap:=cap') (us:=[]) (by simp) (λh=>by omega)
 have b: ∀{α:Type} (x:α) (w:eg),(pure x:Sem α).run P w= .ok x w:= λ_ _=>rfl
 subst j
 have h0:n+0<=cap:=a
 simp only [hI,fc,run_underlying hu,run_underlying f,run_sizeOf w hi,e8,ki,eP,g4,dd,pe,lf,if_false,if_true,false_or,b,if_pos h0,d]
 cases A<;>simp [storeCells]
theorem Ql {sz bytes:Nat} {x y z:IV} (h:bS sz bytes x y=some z): ∃es ys,x= .lst es/\y= .lst ys/\z= .lst (es++ys)/\(es.length+ys.length)*(bytes+1)<=2 ^ 40/\ ∀e∈ys,e.length=sz:=by
 unfold bS at h
 split at h
 ·split at h
  ·rename_i hc
   cases h
   exact ⟨_,_,rfl,rfl,rfl,hc.1,λe he=>by simpa using j0.1 hc.2 e he⟩
  ·cases h
 ·cases h
theorem Rows.later {w':eg} {ok':Nat->Prop} {es:List (List IV)} {sz:Nat} {vs:List c5} (h:Keeps w ok w' ok') (r:Rows w ok es sz vs):Rows w' ok' es sz vs:=
 ⟨r.1,r.2.1,λi j e x h1 h2=>by obtain ⟨v,a,b⟩:=r.2.2 i j e x h1 h2;exact ⟨v,a,b.keeps h⟩⟩
theorem I1 {c:r4} (hop:o.op= .call c) (hc:c.callee= .builtin .append) {x y:eW} (b:c.args= #[x,y]):execOp a.eval o=(do pure (hJ (<-hI c.argTypes o.type #[a.eval x,a.eval y]))):=
 p6 hop hc λconsts=>by simp [builtin,b]
theorem GH {ats:Array c9} (h:ats.size=2):ats= #[ats.getD 0 0,ats.getD 1 0]:=by
 obtain ⟨l⟩:=ats
 match l,h with
 | [x,y],_=>rfl
theorem ub {w':eg} {ok':Nat->Prop} {mu':Mu} {md:Md} {es:List (List IV)} {sz b base:Nat} {c:Array c5} {T:c9} {vs:List c5} (hw:w'.heap[b]? =some (.cells c T (0,0))) (a: ∀e∈es,e.length=sz) (hr:Rows w' ok' es sz vs)
  (hc: ∀q,q < vs.length->c[base+q]? =vs[q]?) (hs:base+es.length*sz<=c.size) (d:0 < sz:=by assumption):ObOk w' ok' mu' ⟨some (b,base),es.length,sz⟩ (.arr md sz (.lst es)):=by
 refine .inl ⟨d,rfl,es,rfl,rfl,a,λh=>(by cases h),λb' base' hb=> ?_⟩
 cases hb
 refine ⟨c,T,hw,hs,λi j e x h1 h2=> ?_⟩
 obtain ⟨v,f,g⟩:=hr.2.2 i j e x h1 h2
 refine ⟨v,?_,g⟩
 rw [Nat.add_assoc,hc _ (b0.1 f).1];exact f
theorem EC {c:r4} (hop:o.op= .call c) (hc:c.callee= .builtin .append) {x y:eW} (u:c.args= #[x,y]) (G:c.argTypes.size=2) (h0:cu P (c.argTypes.getD 0 0)=true) (h1:cu P (c.argTypes.getD 1 0)=true) (v:qL P (bG P (c.argTypes.getD 0 0))=true)
  (J:InvQ w ok mu h) (hn:mu h.length=none) (rx:RP w ok mu (ev fr x) (a.eval x)) (O:RP w ok mu (ev fr y) (a.eval y)) (hx:ev fr x= .nils) {s z:IV} (hs:pK h (ev fr y)=some s) (hz:bS (P.cellsOf (bG P (c.argTypes.getD 0 0))) (P.bytesOf (bG P (c.argTypes.getD 0 0))) (.lst []) s=some z):
  aI P o a w ok mu h (.buf h.length (cj z)) (h++[.arr .rw (P.cellsOf (bG P (c.argTypes.getD 0 0))) z]):=by
 obtain ⟨e,hu,he⟩:=fM h0
 obtain ⟨R,F,_⟩:=fM h1
 rw [he] at v hz ⊢
 obtain ⟨i,T,hi,N,M,r,hsz,K⟩:=mq v
 obtain ⟨es,ys,H,rfl,rfl,D,l⟩:=Ql hz
 cases H
 simp only [r0,r1,g6] at D ⊢
 obtain ⟨A,cap,vs,L,d,j⟩:=uX J O hs r l
 rw [hx] at rx
 have hex:=I1 (a:=a) hop hc u
 have p:=GH G
 cases C:a.eval x with
 | slice A0 S Q=>
   rw [C] at rx
   cases rx
   rw [C,L] at hex
   refine ⟨[.arr .rw (P.cellsOf e) (.lst ys)],[],h,rfl,rfl,?_⟩
   by_cases I:ys.length=0
   ·have:ys=[]:=eZ.1 I
    subst this
    refine ix.value (w':=w) (by rw [hex];exact gx (zT p hu F r (ck _))) ⟨ok,λq=>if q=h.length then some ⟨none,0,P.cellsOf e⟩ else mu q,?_⟩
    refine ⟨.refl _ _,λ_ h=>h,λ_ h=> .inl h,λq E=>by simp [E],.inr ⟨_,⟨none,0,P.cellsOf e⟩,rfl,by simp,rfl,.inl ⟨by assumption,rfl,[],rfl,rfl,by simp,λ_=>rfl,λb base hb=>(by cases hb)⟩,λb base hb=>(by cases hb)⟩,?_⟩
    exact .buf _ _ _ 0 ⟨none,0,P.cellsOf e⟩ (by simp) rfl ⟨ck _,.inl ⟨rfl,rfl⟩⟩ λb base hb=>(by cases hb)
   ·obtain ⟨k,rest,hcap,g,t⟩:=pj (w:=w) (ty:=o.type) (A:=A0) (A':=A) (n:=0) (cap:=0) (m:=ys.length) (cap':=cap) (us:=[]) (vs:=vs) p hu F v (by simp) (λh=>by omega) d.1 j (by omega) (by simpa using D)
    simp only [g6,r0] at t hcap g
    refine ix.value (by rw [hex];exact gx t) ⟨ok,λq=>if q=h.length then some ⟨some (w.heap.size,0),ys.length,P.cellsOf e⟩ else mu q,?_⟩
    have hk:Keeps w ok (w.drew.alloc (.cells (vs++rest).toArray e)) ok:=⟨λb hb=>Below.heap_alloc w.drew _ b (J.okw b hb),λ_ h=>h⟩
    have f:(w.drew.alloc (.cells (vs++rest).toArray e)).heap[w.heap.size]? =some (.cells (vs++rest).toArray e (0,0)):=gq w.drew _
    refine ⟨((Below.refl _ _).drew).alloc (ck _) _,λ_ h=>h,λ_ h=> .inl h,λq E=>by simp [E],.inr ⟨_,⟨some (w.heap.size,0),ys.length,P.cellsOf e⟩,rfl,by simp,rfl,?_,λb base hb=> ?_⟩,?_⟩
    ·refine ub (vs:=vs) f l (d.later hk) (λq E=> ?_) ?_
     ·simp only [g6,eP]
      rw [b7 E]
     ·simp [d.1]
    ·cases hb
     exact ⟨ck _,by show w.heap.size < (w.heap.push _).size;simp,λhb=>by have:=J.okw _ hb;omega⟩
    ·refine .buf _ _ (some ⟨w.heap.size,0,none⟩) k ⟨some (w.heap.size,0),ys.length,P.cellsOf e⟩ (by simp) rfl ⟨hcap,.inr ⟨w.heap.size,0,rfl,by simp⟩⟩ λb base hb=> ?_
     cases hb
     refine ⟨_,_,_,f,?_⟩
     simp only [l5,gd,d.1,g,g6]
     rw [<-e6]
     exact cb _ (by omega)
 | _=>rw [C] at rx;cases rx
end
end Go.AM
namespace Go.AM
open Go.RowKit
theorem ObOk.later {w w':eg} {ok ok':Nat->Prop} {mu mu':Mu} {pl:Pl} {ob:Ob} (r:ObOk w ok mu pl ob) (h:Later w ok mu w' ok' mu') (hb: ∀b base,pl.loc=some (b,base)->w'.heap[b]? =w.heap[b]?):ObOk w' ok' mu' pl ob:=by
 cases ob with
 | dead=>trivial
 | box m cs=>
   obtain ⟨b,base,c,T,hl,hw,hs,hr⟩:=r
   exact ⟨b,base,c,T,hl,by rw [hb b base hl];exact hw,hs,λj p hj=>by obtain ⟨v,h1,h2⟩:=hr j p hj;exact ⟨v,h1,h2.later h⟩⟩
 | arr m sz x=>
   rcases r with ⟨f,hsz,es,rfl,hlen,d,a,hc⟩ | ⟨hsz,es,b,rfl,hl,hm⟩
   case inr=>exact .inr ⟨hsz,es,b,rfl,hl,hm.keeps h.keeps (hb b 0 hl)⟩
   refine .inl ⟨f,hsz,es,rfl,hlen,d,a,λb base hl=> ?_⟩
   obtain ⟨c,T,hw,hs,hr⟩:=hc b base hl
   exact ⟨c,T,by rw [hb b base hl];exact hw,hs,λi j e x h1 h2=>by obtain ⟨v,g,k⟩:=hr i j e x h1 h2;exact ⟨v,g,k.keeps h.keeps⟩⟩
theorem l9 {h:List Ob} {o:Nat} (hl:(getOb h o).live=true):o < h.length:=by
 unfold getOb at hl
 rcases jb o h.length with h1 | h1
 ·exact h1
 ·rw [c7,jm h1] at hl;cases hl
theorem bz {h:List Ob} {o q:Nat} (ob:Ob):getOb (h.set o ob) q=if o=q/\o < h.length then ob else getOb h q:=by
 unfold getOb
 simp only [c7,q0]
 by_cases e:o=q
 ·subst e
  by_cases hl:o < h.length
  ·simp [hl]
  ·simp [hl,jm (q7 hl)]
 ·simp [e]
theorem aE {h news:List Ob} {q:Nat}:getOb (h++news) q=if q < h.length then getOb h q else getOb news (q - h.length):=by
 unfold getOb
 simp only [c7]
 split
 ·rw [b7 ‹_›]
 ·rw [ch (by omega)]
structure Frozen (h h':List Ob) (l:List Nat):Prop where
 len:h'.length=h.length
 same: ∀q,(getOb h' q=getOb h q)\/((getOb h' q).fz=true/\(∃cs m,getOb h q= .box m cs/\getOb h' q= .box .fz cs)\/ ∃sz x m,getOb h q= .arr m sz x/\getOb h' q= .arr .fz sz x)
 mem: ∀q∈l,(getOb h' q).fz=true
theorem Frozen.nil (h:List Ob):Frozen h h []:=⟨rfl,λ_=> .inl rfl,λq a=>by simp at a⟩
theorem Frozen.fzMono {h h':List Ob} {l:List Nat} (f:Frozen h h' l) {q:Nat} (a:(getOb h q).fz=true):(getOb h' q).fz=true:=by
 rcases f.same q with h1 | ⟨h1,_⟩ | ⟨sz,x,m,h1,h2⟩
 ·rw [h1];exact a
 ·exact h1
 ·rw [h2];rfl
theorem aas {h h':List Ob} {o:Nat} (hf:fz1 h o=some h'):Frozen h h' [o]:=by
 unfold fz1 at hf
 split at hf
 ·rename_i cs b
  cases hf
  have hl:o < h.length:=l9 (by rw [b];rfl)
  refine ⟨by simp,λq=> ?_,λq a=> ?_⟩
  ·by_cases e:o=q
   ·subst e;right;left;rw [bz,if_pos ⟨rfl,hl⟩];exact ⟨rfl,cs,_,b,rfl⟩
   ·left;rw [bz,if_neg (by simp [e])]
  ·simp at a;subst a;rw [bz,if_pos ⟨rfl,hl⟩];rfl
 ·rename_i n x b
  cases hf
  have hl:o < h.length:=l9 (by rw [b];rfl)
  refine ⟨by simp,λq=> ?_,λq a=> ?_⟩
  ·by_cases e:o=q
   ·subst e;right;right;rw [bz,if_pos ⟨rfl,hl⟩];exact ⟨n,x,_,b,rfl⟩
   ·left;rw [bz,if_neg (by simp [e])]
  ·simp at a;subst a;rw [bz,if_pos ⟨rfl,hl⟩];rfl
 ·rename_i cs b
  cases hf
  exact ⟨rfl,λ_=> .inl rfl,λq a=>by simp at a;subst a;rw [b];rfl⟩
 ·rename_i n x b
  cases hf
  exact ⟨rfl,λ_=> .inl rfl,λq a=>by simp at a;subst a;rw [b];rfl⟩
 ·cases hf
theorem Frozen.trans {h h1 h2:List Ob} {l k:List Nat} (f:Frozen h h1 l) (g:Frozen h1 h2 k):Frozen h h2 (l++k):=by
 refine ⟨g.len.trans f.len,λq=> ?_,λq e=> ?_⟩
 ·rcases f.same q with n | ⟨_,cs,m,d,b⟩ | ⟨sz,x,m,d,b⟩
  ·rcases g.same q with c | ⟨i,cs,m,a,b2⟩ | ⟨sz,x,m,a,b2⟩
   ·left;rw [c,n]
   ·right;left;exact ⟨i,cs,m,by rw [<-n];exact a,b2⟩
   ·right;right;exact ⟨sz,x,m,by rw [<-n];exact a,b2⟩
  ·rcases g.same q with c | ⟨i,j,o,a,b2⟩ | ⟨sz,x,o,a,b2⟩
   ·right;left;refine ⟨by rw [c,b];rfl,cs,m,d,by rw [c,b]⟩
   ·rw [b] at a;cases a;right;left;exact ⟨i,cs,m,d,b2⟩
   ·rw [b] at a;cases a
  ·rcases g.same q with c | ⟨i,j,o,a,b2⟩ | ⟨sz',p,o,a,b2⟩
   ·right;right;exact ⟨sz,x,m,d,by rw [c,b]⟩
   ·rw [b] at a;cases a
   ·rw [b] at a;cases a;right;right;exact ⟨sz,x,m,d,b2⟩
 ·rcases hG.1 e with e | e
  ·exact g.fzMono (f.mem q e)
  ·exact g.mem q e
theorem fp: ∀{l:List Nat} {h h':List Ob},wh h l=some h'->Frozen h h' l
 | [],h,h',hf=>by simp only [wh,c6] at hf;subst hf;exact .nil h
 | o::l,h,h',hf=>by
   simp only [wh] at hf
   cases h1:fz1 h o with
   | none=>simp [h1] at hf
   | some h2=>simp only [h1,nF] at hf;exact (aas h1).trans (fp hf)
theorem Frozen.ob {h h':List Ob} {l:List Nat} (f:Frozen h h' l) {w:eg} {ok:Nat->Prop} {mu:Mu} {pl:Pl} {q:Nat} (r:ObOk w ok mu pl (getOb h q)):ObOk w ok mu pl (getOb h' q):=by
 rcases f.same q with e | ⟨_,cs,m,a,b⟩ | ⟨sz,x,m,a,b⟩
 ·rw [e];exact r
 ·rw [a] at r;rw [b];exact r
 ·rw [a] at r;rw [b];exact r
theorem Frozen.live {h h':List Ob} {l:List Nat} (f:Frozen h h' l) (q:Nat):(getOb h' q).live=(getOb h q).live:=by
 rcases f.same q with e | ⟨_,cs,m,a,b⟩ | ⟨sz,x,m,a,b⟩
 ·rw [e]
 ·rw [a,b];rfl
 ·rw [a,b];rfl
theorem Inv.grow {w0:eg} {ok0:O0} {w:eg} {ok:Nat->Prop} {mu:Mu} {h h1:List Ob} {news:List Ob} {fz:List Nat} {p:PV} {v:c5} {w':eg} {ok':Nat->Prop} {mu':Mu} (i:Inv w0 ok0 w ok mu h) (a: ∀q,h.length<=q->mu q=none)
  (hf:Frozen h h1 fz) (g:Grow w ok mu h.length news fz p v w' ok' mu'):Inv w0 ok0 w' ok' mu' (h1++news)/\ ∀q,(h1++news).length<=q->mu' q=none:=by
 have r:=g.later i.okw (a _ (ck _))
 have y: ∀q pl b base,mu q=some pl->pl.loc=some (b,base)->w'.heap[b]? =w.heap[b]? := λq pl b base h1 h2=>g.below.block b (i.own q pl b base h1 h2).2.1
 have hold: ∀q,q≠h.length->getOb (h1++news) q=getOb h1 q\/mu' q=none:= λq k=>by
  rw [aE]
  split
  ·exact .inl rfl
  ·right;rw [g.same q k];exact a q (by rw [<-hf.len];omega)
 have c: ∀pl,mu' h.length=some pl-> ∃ob,news=[ob]/\getOb (h1++news) h.length=ob/\ob.live=true/\ObOk w' ok' mu' pl ob/\ ∀b base,pl.loc=some (b,base)->w.heap.size<=b/\b < w'.heap.size/\ ¬ok' b:= λpl hm=>by
  rcases g.obs with ⟨rfl,e⟩ | ⟨ob,pl',rfl,e,hl,s,hb⟩
  ·rw [e,a _ (ck _)] at hm;cases hm
  ·rw [e] at hm;cases hm
   refine ⟨ob,rfl,?_,hl,s,hb⟩
   rw [aE,if_neg (by rw [hf.len];omega),hf.len];simp [getOb]
 refine ⟨⟨i.below.trans (g.below.mono i.below.size),λb hb=> ?_,λb hb=> ?_,λq pl hm=> ?_,λq pl b base hm hl=> ?_,λq t pl pl' b base base' hm l hl m u x=> ?_⟩,λq k=> ?_⟩
 ·rcases g.new b hb with h | ⟨_,h⟩ | ⟨o,_,pl,base,h1,h2⟩
  ·exact dq (i.okw b h) g.below.size
  ·exact h
  ·exact dq (i.own o pl b base h1 h2).2.1 g.below.size
 ·rcases g.new b hb with h | ⟨h,_⟩ | ⟨o,_,pl,base,h1,h2⟩
  ·exact i.okb b h
  ·exact .inr (.inl (e7 i.below.size h))
  ·exact .inr (i.own o pl b base h1 h2).1
 ·by_cases k:q=h.length
  ·subst k
   obtain ⟨ob,_,e,_,s,_⟩:=c pl hm
   rw [e];exact s
  ·have d:mu q=some pl:=by rw [<-g.same q k];exact hm
   rcases hold q k with e | e
   ·rw [e];exact (hf.ob (i.ob q pl d)).later r λb base hl=>y q pl b base d hl
   ·rw [e] at hm;cases hm
 ·by_cases k:q=h.length
  ·subst k
   obtain ⟨ob,_,e,_,s,hb⟩:=c pl hm
   obtain ⟨h1,h2,D⟩:=hb b base hl
   exact ⟨.inl (e7 i.below.size h1),h2,λ_ _=>D⟩
  ·have d:mu q=some pl:=by rw [<-g.same q k];exact hm
   obtain ⟨H,E,D⟩:=i.own q pl b base d hl
   refine ⟨H,dq E g.below.size,λf n hok=> ?_⟩
   rcases hold q k with e | e
   ·rw [e] at f n
    rw [hf.live] at f
    have A:(getOb h q).fz=false:=by
     cases hz:(getOb h q).fz with
     | false=>rfl
     | true=>rw [hf.fzMono hz] at n;cases n
    rcases g.new b hok with hb | ⟨hb,_⟩ | ⟨o,G,pl',base',l,m⟩
    ·exact D f A hb
    ·omega
    ·have F:(getOb h o).live=true:=by
      have:=hf.mem o G
      rw [<-hf.live]
      cases I:getOb h1 o<;>rw [I] at this<;>first | rfl | cases this
     have:=i.inj q o pl pl' b base base' d l hl m f F
     subst this
     rw [hf.mem q G] at n;cases n
   ·rw [e] at hm;cases hm
 ·by_cases k:q=h.length
  ·by_cases j:t=h.length
   ·omega
   ·subst k
    obtain ⟨ob,_,_,_,_,hb⟩:=c pl hm
    have d:mu t=some pl':=by rw [<-g.same t j];exact l
    have:=(hb b base hl).1
    have:=(i.own t pl' b base' d m).2.1
    omega
  ·have d:mu q=some pl:=by rw [<-g.same q k];exact hm
   by_cases j:t=h.length
   ·subst j
    obtain ⟨ob,_,_,_,_,hb⟩:=c pl' l
    have:=(hb b base' m).1
    have:=(i.own q pl b base d hl).2.1
    omega
   ·have z:mu t=some pl':=by rw [<-g.same t j];exact l
    rcases hold q k with e | e
    ·rcases hold t j with C | C
     ·rw [e,hf.live] at u
      rw [C,hf.live] at x
      exact i.inj q t pl pl' b base base' d z hl m u x
     ·rw [C] at l;cases l
    ·rw [e] at hm;cases hm
 ·have j:q≠h.length\/news=[]:=by
   rcases g.obs with ⟨rfl,_⟩ | ⟨ob,_,rfl,_⟩
   ·exact .inr rfl
   ·left;simp [hf.len] at k;omega
  rcases j with j | rfl
  ·rw [g.same q j];exact a q (by simp [hf.len] at k;omega)
  ·by_cases he:q=h.length
   ·subst he
    rcases g.obs with ⟨_,e⟩ | ⟨ob,_,e,_⟩
    ·rw [e];exact a _ (ck _)
    ·cases e
   ·rw [g.same q he];exact a q (by simp [hf.len] at k;omega)
def uj (P:ha) (w0:eg) (ok0:O0) (o:r3) (a:Act) (w:eg) (ok:Nat->Prop) (mu:Mu) (p:PV) (h':List Ob):Prop:=
 ix P o a w λv w'=> ∃ok' mu',Later w ok mu w' ok' mu'/\Inv w0 ok0 w' ok' mu' h'/\RP w' ok' mu' p v/\ ∀q,h'.length<=q->mu' q=none
theorem aI.m {P:ha} {w0:eg} {ok0:O0} {o:r3} {a:Act} {w:eg} {ok:Nat->Prop} {mu:Mu} {h:List Ob} {p:PV} {h':List Ob} (q:aI P o a w ok mu h p h') (i:Inv w0 ok0 w ok mu h) (b: ∀q,h.length<=q->mu q=none):uj P w0 ok0 o a w ok mu p h':=by
 obtain ⟨news,fz,h1,c,rfl,e⟩:=q
 refine e.mono λv w' ⟨ok',mu',g⟩=> ?_
 obtain ⟨h2,d⟩:=i.grow b (fp c) g
 exact ⟨ok',mu',g.later i.okw (b _ (ck _)),h2,g.rp,d⟩
end Go.AM
namespace Go.AM
open Go.RowKit
structure Wrote (w w':eg) (b:Nat) (c c':Array c5) (T:c9):Prop where
 os:w'.os=w.os
 tape:w'.tape=w.tape
 output:w'.output=w.output
 size:w'.heap.size=w.heap.size
 other: ∀b',b'≠b->w'.heap[b']? =w.heap[b']?
 was:w.heap[b]? =some (.cells c T (0,0))
 now:w'.heap[b]? =some (.cells c' T (0,0))
 csize:c'.size=c.size
theorem fx {w:eg} {b:Nat} {c c':Array c5} {T:c9} (hw:w.heap[b]? =some (.cells c T (0,0))) (hs:c'.size=c.size):Wrote w (w.setRow b c') b c c' T:=by
 refine ⟨rfl,rfl,rfl,by simp [World.setRow],λb' hb=> ?_,hw,setRow_heap w b c c' T (0,0) hw,hs⟩
 unfold World.setRow
 simp only [n4]
 rw [if_neg (λe=>hb e.symm)]
section
variable {w0:eg} {ok0:O0} {w w':eg} {ok:Nat->Prop} {mu:Mu} {h:List Ob} {b:Nat} {c c':Array c5} {T:c9}
theorem Wrote.below (r:Wrote w w' b c c' T) (i:BelowM ok0.lent w0.heap.size w0 w) (hb:Own0 w0 ok0 b):BelowM ok0.lent w0.heap.size w0 w':=
 ⟨r.os.trans i.os,r.tape.trans i.tape,r.output.trans i.output,by rw [r.size];exact i.size,λk hk hm=>(r.other k (hb.ne hk hm)).trans (i.block k hk hm)⟩
theorem Wrote.later (r:Wrote w w' b c c' T) (hok: ¬ok b) {mu':Mu} (hm: ∀o pl,mu o=some pl->mu' o=some pl):Later w ok mu w' ok mu':=by
 refine ⟨⟨λb' a=>r.other b' (λe=>hok (e▸a)),λ_ h=>h⟩,hm,λb' c1 T1 d h1=> ?_⟩
 by_cases e:b'=b
 ·subst e
  rw [r.was] at h1;cases h1
  exact ⟨c',_,r.now,r.csize⟩
 ·exact ⟨c1,d,by rw [r.other b' e];exact h1,rfl⟩
theorem Inv.write (i:Inv w0 ok0 w ok mu h) (l: ∀q,h.length<=q->mu q=none) {o:Nat} {pl:Pl} {base:Nat} (hm:mu o=some pl) (hl:pl.loc=some (b,base)) (a:(getOb h o).live=true) (p:(getOb h o).fz=false) (r:Wrote w w' b c c' T)
  {ob:Ob} (A:ObOk w' ok mu pl ob) (v:ob.live=true):Inv w0 ok0 w' ok mu (h.set o ob)/\Later w ok mu w' ok mu/\ ∀q,(h.set o ob).length<=q->mu q=none:=by
 obtain ⟨y,M,s⟩:=i.own o pl b base hm hl
 have hok:=s a p
 have C:o < h.length:=l9 a
 have d:=r.later (mu:=mu) (mu':=mu) hok (λ_ _ h=>h)
 refine ⟨⟨r.below i.below y,λb' hb=>by rw [r.size];exact i.okw b' hb,i.okb,λq g f=> ?_,λq g b' base' f k=> ?_,λq E g u b' bs x h1 h2 I J K L=> ?_⟩,d,λq t=>l q (by simpa using t)⟩
 ·rw [bz]
  split
  ·rename_i e;obtain ⟨rfl,_⟩:=e;rw [hm] at f;cases f;exact A
  ·rename_i e
   by_cases k:(getOb h q).live=true
   ·refine (i.ob q g f).later d λb' base' z=>r.other b' λF=> ?_
    subst F
    have:=i.inj q o g pl b' base' base f hm z hl k a
    exact e ⟨this.symm,C⟩
   ·have:getOb h q= .dead:=by cases N:getOb h q<;>rw [N] at k<;>first | rfl | exact absurd rfl k
    rw [this];trivial
 ·obtain ⟨G,H,D⟩:=i.own q g b' base' f k
  refine ⟨G,by rw [r.size];exact H,λm n=> ?_⟩
  rw [bz] at m n
  split at m
  ·rename_i e;obtain ⟨rfl,_⟩:=e;exact D a p
  ·rename_i e;rw [if_neg e] at n;exact D m n
 ·have j: ∀q,(getOb (h.set o ob) q).live=true->(getOb h q).live=true:= λq t=>by
   rw [bz] at t
   split at t
   ·rename_i e;obtain ⟨rfl,_⟩:=e;exact a
   ·exact t
  exact i.inj q E g u b' bs x h1 h2 I J (j q K) (j E L)
theorem nC: ∀(l:List Nat) (h:List Ob) (o:Nat),getOb (kill h l) o=if o∈l then .dead else getOb h o
 | [],h,o=>by simp [kill]
 | x::l,h,o=>by
   simp only [kill]
   rw [nC l]
   by_cases e:o∈l
   ·simp [e]
   ·rw [if_neg e,bz]
    by_cases ex:x=o
    ·subst ex
     by_cases hl:x < h.length
     ·simp [hl]
     ·simp [hl]
      unfold getOb;rw [c7,jm (q7 hl)];rfl
    ·simp [ex,Ne.symm ex,e]
theorem fD: ∀(l:List Nat) (h:List Ob),(kill h l).length=h.length
 | [],_=>rfl
 | x::l,h=>by simp only [kill];rw [fD l];simp
theorem Inv.lentout (i:Inv w0 ok0 w ok mu h) {os:List Nat} {ok':Nat->Prop} (p: ∀q∈os,(getOb h q).live=true/\(getOb h q).fz=false)
  (h1:w'.os=w.os) (h2:w'.tape=w.tape) (F:w'.output=w.output) (hsz:w.heap.size<=w'.heap.size) (s:Sizes w w')
  (a: ∀b,b < w.heap.size->(∀q∈os,∀pl base,mu q=some pl->pl.loc≠some (b,base))->w'.heap[b]? =w.heap[b]?) (v: ∀b,ok b->ok' b)
  (m: ∀b,ok' b->ok b\/(w.heap.size<=b/\b < w'.heap.size)\/ ∃q∈os,∃pl base,mu q=some pl/\pl.loc=some (b,base)):
  Inv w0 ok0 w' ok' mu (kill h os)/\Later w ok mu w' ok' mu:=by
 have c:Later w ok mu w' ok' mu:=⟨⟨λb hb=>a b (i.okw b hb) λq r pl base hm hl=>(i.own q pl b base hm hl).2.2 (p q r).1 (p q r).2 hb,v⟩,λ_ _ h=>h,s⟩
 have n: ∀o,(getOb (kill h os) o).live=true->o∉os/\getOb (kill h os) o=getOb h o:= λo d=>by
  rw [nC] at d ⊢
  split at d
  ·cases d
  ·rename_i e;exact ⟨e,by rw [if_neg e]⟩
 refine ⟨⟨⟨h1.trans i.below.os,h2.trans i.below.tape,F.trans i.below.output,e7 i.below.size hsz,λk hk hm=>(a k (dq hk i.below.size) λq r pl base l hl=>(i.own q pl k base l hl).1.ne hk hm rfl).trans (i.below.block k hk hm)⟩,λb hb=> ?_,λb hb=> ?_,λo pl d=> ?_,λo pl b base d hl=> ?_,λo o' pl pl' b base base' d y hb x f j=> ?_⟩,c⟩
 ·rcases m b hb with g | g | ⟨q,_,pl,base,f,j⟩
  ·exact dq (i.okw b g) hsz
  ·exact g.2
  ·exact dq (i.own q pl b base f j).2.1 hsz
 ·rcases m b hb with g | g | ⟨q,_,pl,base,f,j⟩
  ·exact i.okb b g
  ·exact .inr (.inl (e7 i.below.size g.1))
  ·exact .inr (i.own q pl b base f j).1
 ·cases hx:(getOb (kill h os) o).live with
  | false=>
    have:getOb (kill h os) o= .dead:=by cases G:getOb (kill h os) o<;>rw [G] at hx<;>first | rfl | cases hx
    rw [this];trivial
  | true=>
    obtain ⟨f,j⟩:=n o hx
    rw [j] at hx ⊢
    refine (i.ob o pl d).later c λb base hl=>a b (i.own o pl b base d hl).2.1 λq r u base' l t=> ?_
    exact f (i.inj o q pl u b base base' d l hl t hx (p q r).1▸r)
 ·obtain ⟨f,j,C⟩:=i.own o pl b base d hl
  refine ⟨f,dq j hsz,λhv hn hok=> ?_⟩
  obtain ⟨D,E⟩:=n o hv
  rw [E] at hv hn
  rcases m b hok with g | g | ⟨q,r,u,base',l,t⟩
  ·exact C hv hn g
  ·omega
  ·exact D (i.inj o q pl u b base base' d l hl t hv (p q r).1▸r)
 ·obtain ⟨_,z⟩:=n o f
  obtain ⟨_,A⟩:=n o' j
  rw [z] at f;rw [A] at j
  exact i.inj o o' pl pl' b base base' d y hb x f j
theorem Inv.revive (i:Inv w0 ok0 w ok mu h) {o:Nat} {pl:Pl} (hm:mu o=some pl) (v:o < h.length) {ob:Ob} (p:ObOk w ok mu pl ob) (hok: ∀b base,pl.loc=some (b,base)-> ¬ok b)
  (c: ∀b base q a base',q≠o->mu q=some a->pl.loc=some (b,base)->a.loc=some (b,base')->(getOb h q).live=false):Inv w0 ok0 w ok mu (h.set o ob):=by
 refine ⟨i.below,i.okw,i.okb,λq a g=> ?_,λq a b base g hl=> ?_,λq r a d b bs f h1 h2 m n j k=> ?_⟩
 ·rw [bz]
  split
  ·rename_i e;obtain ⟨rfl,_⟩:=e;rw [hm] at g;cases g;exact p
  ·exact i.ob q a g
 ·obtain ⟨s,t,u⟩:=i.own q a b base g hl
  refine ⟨s,t,λhv hn=> ?_⟩
  rw [bz] at hv hn
  split at hv
  ·rename_i e;obtain ⟨rfl,_⟩:=e;rw [hm] at g;cases g;exact hok b base hl
  ·rename_i e;rw [if_neg e] at hn;exact u hv hn
 ·rw [bz] at j k
  by_cases e:q=o<;>by_cases l:r=o
  ·rw [e,l]
  ·rw [if_neg (λx=>l x.1.symm)] at k
   subst e;rw [hm] at h1;cases h1
   rw [c b bs r d f l h2 m n] at k;cases k
  ·rw [if_neg (λx=>e x.1.symm)] at j
   subst l;rw [hm] at h2;cases h2
   rw [c b f q a bs e h1 n m] at j;cases j
  ·rw [if_neg (λx=>e x.1.symm)] at j
   rw [if_neg (λx=>l x.1.symm)] at k
   exact i.inj q r a d b bs f h1 h2 m n j k
theorem Inv.add (i:Inv w0 ok0 w ok mu h) (d: ∀q,h.length<=q->mu q=none) {ob:Ob} {pl:Pl} (t:ObOk w ok (λq=>if q=h.length then some pl else mu q) pl ob)
  (k: ∀b base,pl.loc=some (b,base)->Own0 w0 ok0 b/\b < w.heap.size/\ ¬ok b/\ ∀o pl' base',mu o=some pl'->pl'.loc=some (b,base')->(getOb h o).live=false):
  Inv w0 ok0 w ok (λq=>if q=h.length then some pl else mu q) (h++[ob])/\(∀q,(h++[ob]).length<=q->(λq=>if q=h.length then some pl else mu q) q=none)/\Later w ok mu w ok (λq=>if q=h.length then some pl else mu q):=by
 have hl:Later w ok mu w ok (λq=>if q=h.length then some pl else mu q):=⟨.refl _ _,λo pl' f=>by
  have:o≠h.length:= λe=>by rw [e,d _ (ck _)] at f;cases f
  simp [this,f],.refl _⟩
 have j: ∀{o pl'},mu o=some pl'->o < h.length:= λ{o pl'} f=>by
  rcases jb o h.length with h1 | h1
  ·exact h1
  ·rw [d o h1] at f;cases f
 have a: ∀{o},o < h.length->getOb (h++[ob]) o=getOb h o:= λ{o} f=>by rw [aE,if_pos f]
 have r:getOb (h++[ob]) h.length=ob:=by rw [aE,if_neg (by omega),n5];rfl
 have c: ∀o pl',(if o=h.length then some pl else mu o)=some pl'->(o=h.length/\pl'=pl)\/(mu o=some pl'):= λo pl' f=>by
  split at f
  ·cases f;exact .inl ⟨‹_›,rfl⟩
  ·exact .inr f
 refine ⟨⟨i.below,i.okw,i.okb,λo pl' f=> ?_,λo pl' b base f hb=> ?_,λo o' pl' p b base base' f s hb n m g=> ?_⟩,λq x=> ?_,hl⟩
 ·rcases c o pl' f with ⟨rfl,rfl⟩ | h1
  ·rw [r];exact t
  ·rw [a (j h1)];exact (i.ob o pl' h1).later hl λ_ _ _=>rfl
 ·rcases c o pl' f with ⟨rfl,rfl⟩ | h1
  ·obtain ⟨h2,u,v,_⟩:=k b base hb
   exact ⟨h2,u,λ_ _=>v⟩
  ·rw [a (j h1)];exact i.own o pl' b base h1 hb
 ·rcases c o pl' f with ⟨rfl,rfl⟩ | h1<;>rcases c o' p s with ⟨rfl,rfl⟩ | l
  ·rfl
  ·have:=(k b base hb).2.2.2 o' p base' l n
   rw [a (j l),this] at g;cases g
  ·have:=(k b base' n).2.2.2 o pl' base h1 hb
   rw [a (j h1),this] at m;cases m
  ·rw [a (j h1)] at m
   rw [a (j l)] at g
   exact i.inj o o' pl' p b base base' h1 l hb n m g
 ·simp only [gd,hR,r1] at x
  have:q≠h.length:=by omega
  simp only [this,if_false]
  exact d q (by omega)
theorem Inv.swap (i:Inv w0 ok0 w ok mu h) (p: ∀q,h.length<=q->mu q=none) {o:Nat} {pl:Pl} (hm:mu o=some pl) (l:(getOb h o).live=true) {npl:Pl} (x:Later w ok mu w' ok (λq=>if q=h.length then some npl else mu q))
  (v:BelowM ok0.lent w0.heap.size w0 w') (hsz:w.heap.size<=w'.heap.size) (z: ∀b',b' < w.heap.size->(∀base,pl.loc≠some (b',base))->w'.heap[b']? =w.heap[b']?)
  {ob:Ob} (O:ob.live=true) (T:ObOk w' ok (λq=>if q=h.length then some npl else mu q) npl ob) (D: ∀b base,npl.loc=some (b,base)->(w.heap.size<=b/\b < w'.heap.size/\ ¬ok b)\/(∃base',pl.loc=some (b,base')/\ ¬ok b)):
  Inv w0 ok0 w' ok (λq=>if q=h.length then some npl else mu q) (h.set o .dead++[ob])/\ ∀q,(h.set o .dead++[ob]).length<=q->(λq=>if q=h.length then some npl else mu q) q=none:=by
 have K:o < h.length:=l9 l
 have I:getOb (h.set o .dead++[ob]) h.length=ob:=by rw [aE,if_neg (by simp)];simp [getOb]
 have hold: ∀q,q≠h.length->q≠o->getOb (h.set o .dead++[ob]) q=getOb h q\/mu q=none:= λq h1 h2=>by
  rw [aE]
  split
  ·left;rw [bz,if_neg (λe=>h2 e.1.symm)]
  ·right;exact p q (by simp at*;omega)
 have k:getOb (h.set o .dead++[ob]) o= .dead:=by rw [aE,if_pos (by simpa using K),bz,if_pos ⟨rfl,K⟩]
 have F: ∀q a,q≠h.length->(λq=>if q=h.length then some npl else mu q) q=some a->mu q=some a:= λq a f h1=>by simpa [f] using h1
 refine ⟨⟨v,λb' hb=>dq (i.okw b' hb) hsz,i.okb,λq a m=> ?_,λq a b' base' m s=> ?_,λq Q a r b' bs t h1 h2 N G Z W=> ?_⟩,λq f=> ?_⟩
 ·by_cases f:q=h.length
  ·subst f;simp at m;subst m;rw [I];exact T
  ·have c:=F q a f m
   by_cases d:q=o
   ·subst d;rw [k];trivial
   ·rcases hold q f d with e | e
    ·rw [e]
     by_cases s:(getOb h q).live=true
     ·refine (i.ob q a c).later x λb' base' H=>z b' (i.own q a b' base' c H).2.1 λbase U=> ?_
      exact d (i.inj q o a pl b' base' base c hm H U s l)
     ·have:getOb h q= .dead:=by cases hg:getOb h q<;>rw [hg] at s<;>first | rfl | exact absurd rfl s
      rw [this];trivial
    ·rw [e] at c;cases c
 ·by_cases f:q=h.length
  ·subst f;simp at m;subst m
   rcases D b' base' s with ⟨A,C,u⟩ | ⟨g,A,C⟩
   ·exact ⟨.inl (e7 i.below.size A),C,λ_ _=>u⟩
   ·obtain ⟨P,k2,_⟩:=i.own o pl b' g hm A
    exact ⟨P,dq k2 hsz,λ_ _=>C⟩
  ·have c:=F q a f m
   obtain ⟨A,C,u⟩:=i.own q a b' base' c s
   refine ⟨A,dq C hsz,λy J=> ?_⟩
   by_cases d:q=o
   ·subst d;rw [k] at y;cases y
   ·rcases hold q f d with e | e
    ·rw [e] at y J;exact u y J
    ·rw [e] at c;cases c
 ·have j: ∀q a bs,(λq=>if q=h.length then some npl else mu q) q=some a->a.loc=some (b',bs)->(getOb (h.set o .dead++[ob]) q).live=true->q=h.length\/(q≠h.length/\q≠o/\mu q=some a/\(getOb h q).live=true):= λq a bs A C u=>by
   by_cases f:q=h.length
   ·exact .inl f
   ·right
    have c:=F q a f A
    by_cases d:q=o
    ·subst d;rw [k] at u;cases u
    ·refine ⟨f,d,c,?_⟩
     rcases hold q f d with e | e
     ·rw [e] at u;exact u
     ·rw [e] at c;cases c
  have n: ∀q a bs E,q≠h.length->q≠o->mu q=some a->(getOb h q).live=true->a.loc=some (b',bs)->npl.loc=some (b',E)->False:= λq a bs E A C u X V Y=>by
   rcases D b' E Y with ⟨P,_,_⟩ | ⟨g,P,_⟩
   ·have:=(i.own q a b' bs u V).2.1;omega
   ·exact C (i.inj q o a pl b' bs g u hm V P X l)
  rcases j q a bs h1 N Z with rfl | ⟨R,S,L,M⟩
  ·simp at h1;subst h1
   rcases j Q r t h2 G W with rfl | ⟨R,S,L,M⟩
   ·rfl
   ·exact (n Q r t bs R S L M G N).elim
  ·rcases j Q r t h2 G W with rfl | ⟨c1,c2,c3,c4⟩
   ·simp at h2;subst h2
    exact (n q a bs t R S L M N G).elim
   ·exact i.inj q Q a r b' bs t L c3 N G M c4
 ·have:q≠h.length:=by simp at f;omega
  simp only [this,if_false]
  exact p q (by simp at f;omega)
end
section
variable {P:ha} {w0:eg} {ok0:O0} {o:r3} {a:Act} {w:eg} {ok:Nat->Prop} {mu:Mu} {h:List Ob} {fr:List PV}
theorem UX {c:r4} (hop:o.op= .call c) (hc:c.callee= .builtin .append) {x y:eW} (al:c.args= #[x,y]) (b1:c.argTypes.size=2) (h0:cu P (c.argTypes.getD 0 0)=true) (h1:cu P (c.argTypes.getD 1 0)=true) (aB:qL P (bG P (c.argTypes.getD 0 0))=true)
  (i:Inv w0 ok0 w ok mu h) (g: ∀q,h.length<=q->mu q=none) (rx:RP w ok mu (ev fr x) (a.eval x)) (ry:RP w ok mu (ev fr y) (a.eval y)) {q l u:Nat} {x0:IV} (hg:getOb h q= .arr .rw (P.cellsOf (bG P (c.argTypes.getD 0 0))) x0)
  (hx:(ev fr x= .sub q l u/\True)\/(∃n,ev fr x= .buf q n/\l=0/\u=n)) {x1 s z:IV} (bM:x1=Ej x0 l u) (hs:pK h (ev fr y)=some s) (hz:bS (P.cellsOf (bG P (c.argTypes.getD 0 0))) (P.bytesOf (bG P (c.argTypes.getD 0 0))) x1 s=some z):
  uj P w0 ok0 o a w ok mu (.buf h.length (cj z)) (h.set q .dead++[.arr .rw (P.cellsOf (bG P (c.argTypes.getD 0 0))) z]):=by
 obtain ⟨e,hu,he⟩:=fM h0
 obtain ⟨e1,a4,_⟩:=fM h1
 rw [he] at aB hz hg ⊢
 obtain ⟨ii,zz,hi,d3,d2,K,hsz,dO⟩:=mq aB
 obtain ⟨es,ys,bb,rfl,rfl,b3,Y⟩:=Ql hz
 obtain ⟨A',cap',vs,hy,d,J⟩:=uX i.q ry hs K Y
 have hex:=I1 (a:=a) hop hc al
 have R:=GH b1
 have bf: ∃A cap pl,a.eval x= .slice A (u - l) cap/\mu q=some pl/\l<=u/\u<=pl.len/\Hdr pl l (u - l) cap A/\ ∀b base,pl.loc=some (b,base)-> ∃(c:Array c5) (T:c9) (z:Nat×Nat),w.heap[b]? =some (.cells c T z)/\base+(l+cap)*pl.sz<=c.size:=by
  rcases hx with ⟨hx,_⟩ | ⟨n,hx,rfl,rfl⟩
  ·rw [hx] at rx
   generalize a.eval x=v at rx
   cases rx with
   | sub q l u A cap pl hm hl hn hh hc=>exact ⟨A,cap,pl,rfl,hm,hl,hn,hh,hc⟩
  ·rw [hx] at rx
   generalize a.eval x=v at rx
   cases rx with
   | buf q n A cap pl hm hn hh hc=>exact ⟨A,cap,pl,by simp,hm,by omega,by omega,by simpa using hh,λb base hl=>by simpa using hc b base hl⟩
 obtain ⟨A,cap,pl,co,hm,cc,cl,hh,hcap⟩:=bf
 rw [co,hy] at hex
 have bi:=i.ob q pl hm
 rw [hg] at bi
 obtain ⟨aT,bY,rfl,ca,ac,bR,b4⟩:=bi.arrC hcap
 rw [F8] at bM
 have S:es=(bY.drop l).take (u - l):=by rw [bM] at bb;cases bb;rfl
 have t:es.length=u - l:=by rw [S];simp;omega
 have k: ∀I∈es,I.length=P.cellsOf e:= λI W=>ac I (by rw [S] at W;exact j3 (gw W))
 have Q: ∀I∈es++ys,I.length=P.cellsOf e:= λI W=>by
  rcases hG.1 W with h | h
  ·exact k I h
  ·exact Y I h
 have r:(getOb h q).live=true:=by rw [hg];rfl
 have ci:(getOb h q).fz=false:=by rw [hg];rfl
 have bO:cj (.lst (es++ys))=es.length+ys.length:=by simp [cj]
 have V: ∀(ob:Obj) (npl:Pl),Later w ok mu (w.drew.alloc ob) ok (λq=>if q=h.length then some npl else mu q):= λob npl=>by
  have:=H8 (w:=w.drew) (ok:=ok) (mu:=mu) (n:=h.length) (pl:=npl) ob i.okw (g _ (ck _))
  exact ⟨⟨this.keeps.block,this.keeps.more⟩,this.mu,this.sizes⟩
 have hold: ∃us,Rows w ok es (P.cellsOf e) us/\(0 < es.length-> ∃ad,A=some ad/\ ∀q u,us[q]? =some u->w.cell? (ad.add q)=some u):=by
  have bv:pK h (.sub q l u)=some (.lst es):=by simp [pK,hg,F8,S]
  have hr:RP w ok mu (.sub q l u) (.slice A (u - l) cap):= .sub q l u A cap pl hm cc cl hh hcap
  obtain ⟨A2,c8,us,hv,h1,h2⟩:=uX i.q hr bv K k
  obtain ⟨rfl,_,rfl⟩:=Value.slice.inj hv
  exact ⟨us,h1,h2⟩
 obtain ⟨us,M,bx⟩:=hold
 by_cases Z:es.length+ys.length<=cap
 ·
  rcases hh.2 with ⟨cd,a9⟩ | ⟨b,base,hb,hA⟩
  ·
   have cO:ys.length=0:=by omega
   have:ys=[]:=eZ.1 cO
   subst this
   have ap:es=[]:=eZ.1 (by omega)
   subst ap
   refine ix.value (w':=w) (by rw [hex];exact gx (zT R hu a4 K (by have:=t;simp at this;omega))) ?_
   have p:Later w ok mu w ok (λq=>if q=h.length then some ⟨none,0,P.cellsOf e⟩ else mu q):=⟨.refl _ _,λq' pl' H=>by
    have:q'≠h.length:= λI=>by rw [I,g _ (ck _)] at H;cases H
    simpa [this] using H,.refl _⟩
   obtain ⟨g1,g2⟩:=i.swap g hm r (npl:=⟨none,0,P.cellsOf e⟩) p i.below (ck _) (λ_ _ _=>rfl) (ob:= .arr .rw (P.cellsOf e) (.lst ([]++[]))) rfl (.inl ⟨by assumption,rfl,[],rfl,rfl,by simp,λ_=>rfl,λb base hb=>(by cases hb)⟩) (λb base hb=>by cases hb)
   refine ⟨ok,_,p,g1,?_,g2⟩
   have am:cap=0:=a9
   subst am
   have bA:u - l=0:=cd
   rw [bA]
   exact .buf _ _ A 0 ⟨none,0,P.cellsOf e⟩ (by simp) (by simp [cj]) ⟨ck _,.inl ⟨by simp [cj],rfl⟩⟩ λb base hb=>(by cases hb)
  ·obtain ⟨c1,T,z1,hw,a2⟩:=hcap b base hb
   obtain ⟨dl,T',bC,_⟩:=b4 b base hb
   rw [bC] at hw;cases hw
   have hw:=bC
   have ab:=(i.own q pl b base hm hb).2.2 r ci
   have bm:base+l*pl.sz+es.length*P.cellsOf e+vs.length<=c1.size:=by
    rw [d.1,aT]
    rw [aT] at a2
    have h1:es.length*P.cellsOf e+ys.length*P.cellsOf e<=cap*P.cellsOf e:=by rw [<-e6];exact cb _ Z
    have h2:(l+cap)*P.cellsOf e=l*P.cellsOf e+cap*P.cellsOf e:=e6 _ _ _
    omega
   have L:=IJ (P:=P) (w:=w) (ty:=o.type) R hu a4 K (n:=u - l) (cap:=cap) (m:=ys.length) (cap':=cap') d.1 J d.2.1 (by omega) hA hw (by rw [<-t];exact bm)
   rw [<-t] at L
   refine ix.value (by rw [hex,<-t];exact gx L) ?_
   generalize hN:base+l*pl.sz+es.length*P.cellsOf e=N at*
   have G:(c1.toList.take N++vs++c1.toList.drop (N+vs.length)).toArray.size=c1.size:=by simp;omega
   have O:=fx (c':=(c1.toList.take N++vs++c1.toList.drop (N+vs.length)).toArray) hw G
   generalize f:(⟨some (b,base+l*pl.sz),es.length+ys.length,P.cellsOf e⟩:Pl)=npl
   have p:Later w ok mu (w.setRow b (c1.toList.take N++vs++c1.toList.drop (N+vs.length)).toArray) ok (λq=>if q=h.length then some npl else mu q):=O.later ab λq' pl' H=>by
    have:q'≠h.length:= λI=>by rw [I,g _ (ck _)] at H;cases H
    simpa [this] using H
   have j:Rows (w.setRow b (c1.toList.take N++vs++c1.toList.drop (N+vs.length)).toArray) ok (es++ys) (P.cellsOf e) (us++vs):=(M.append d k).later p.keeps
   have F: ∀q,q < (us++vs).length->(c1.toList.take N++vs++c1.toList.drop (N+vs.length)).toArray[base+l*pl.sz+q]? =(us++vs)[q]? :=by
    intro q hq
    simp only [eP]
    have bB:us.length=es.length*P.cellsOf e:=M.1
    have a3:(c1.toList.take N).length=N:=by simp;omega
    by_cases a0:q < us.length
    ·have br:base+l*pl.sz+q < N:=by rw [<-hN];omega
     rw [hL,b7 (by rw [a3];exact br),c0 br,b7 a0]
     have ap:0 < es.length:=by
      rcases hD es.length with h0 | h0
      ·rw [h0,Nat.zero_mul] at bB;omega
      ·exact h0
     obtain ⟨ad,a7,b5⟩:=bx ap
     rw [hA] at a7;cases a7
     have:=b5 q us[q] (b6 a0)
     rw [dI,iY hw] at this
     rw [b6 a0]
     simpa using this
    ·have d0:q - us.length < vs.length:=by simp at hq;omega
     rw [hL,ch (by rw [a3];omega),a3,b7 (by omega),ch (by omega)]
     congr 1
     omega
   have C:=ub (mu':= λq=>if q=h.length then some npl else mu q) (md:= .rw) O.now Q j F (by
    rw [G,gd,e6]
    have:=d.1
    omega)
   rw [show (⟨some (b,base+l*pl.sz),(es++ys).length,P.cellsOf e⟩:Pl)=npl by rw [<-f];simp] at C
   obtain ⟨g1,g2⟩:=i.swap g hm r (npl:=npl) p (O.below i.below (i.own q pl b base hm hb).1) (by rw [O.size];exact ck _) (λb' a8 ce=>O.other b' λI=>by subst I;exact ce base hb) rfl C (λb2 D E=>by
    subst f;cases E;exact .inr ⟨base,hb,ab⟩)
   refine ⟨ok,_,p,g1,?_,g2⟩
   rw [bO]
   refine .buf _ _ A cap npl (by simp) (by rw [<-f]) ⟨Z,.inr ⟨b,base+l*pl.sz,by rw [<-f],by rw [hA];simp⟩⟩ λb2 D E=> ?_
   subst f
   cases E
   refine ⟨_,_,_,O.now,?_⟩
   rw [G]
   have h2:(l+cap)*pl.sz=l*pl.sz+cap*pl.sz:=e6 _ _ _
   show base+l*pl.sz+cap*P.cellsOf e<=c1.size
   rw [<-aT] at*
   omega
 ·
  obtain ⟨X,rest,ao,a1,L⟩:=pj (w:=w) (ty:=o.type) (A:=A) (A':=A') (n:=es.length) (cap:=cap) (m:=ys.length) (cap':=cap') (us:=us) (vs:=vs) R hu a4 aB M.1 bx d.1 J (by omega) b3
  refine ix.value (by rw [hex,<-t];exact gx L) ?_
  generalize f:(⟨some (w.heap.size,0),es.length+ys.length,P.cellsOf e⟩:Pl)=npl
  have p:=V (.cells (us++vs++rest).toArray e) npl
  have U:(w.drew.alloc (.cells (us++vs++rest).toArray e)).heap[w.heap.size]? =some (.cells (us++vs++rest).toArray e (0,0)):=gq w.drew _
  have j:=(M.append d k).later p.keeps
  have C:=ub (mu':= λq=>if q=h.length then some npl else mu q) (md:= .rw) (base:=0) U Q j (λq hq=>by
   simp only [g6,eP]
   rw [b7 hq]) (by
   simp only [l5,gd,M.1,d.1,g6,e6]
   omega)
  rw [show (⟨some (w.heap.size,0),(es++ys).length,P.cellsOf e⟩:Pl)=npl by rw [<-f];simp] at C
  obtain ⟨g1,g2⟩:=i.swap g hm r (npl:=npl) p (i.below.trans (((Below.refl _ _).drew).alloc i.below.size _)) (by show w.heap.size<=(w.heap.push _).size;simp) (λb' a8 _=>Below.heap_alloc w.drew _ b' a8) rfl C (λb2 D E=>by
   subst f;cases E
   exact .inl ⟨ck _,by show w.heap.size < (w.heap.push _).size;simp,λhb=>by have:=i.okw _ hb;omega⟩)
  refine ⟨ok,_,p,g1,?_,g2⟩
  rw [bO]
  refine .buf _ _ (some ⟨w.heap.size,0,none⟩) X npl (by simp) (by rw [<-f]) ⟨ao,.inr ⟨w.heap.size,0,by rw [<-f],by simp⟩⟩ λb2 D E=> ?_
  subst f
  cases E
  refine ⟨_,_,_,U,?_⟩
  simp only [l5,gd,M.1,d.1,a1,g6]
  rw [<-e6,<-e6]
  exact cb _ (by omega)
end
end Go.AM
namespace Go.AM
open Go.RowKit
theorem QL: ∀(ps:List PV) (cs:List PV) (j i:Nat),j+ps.length<=cs.length->(setAt cs j ps)[i]? =if j<=i/\i < j+ps.length then ps[i - j]? else cs[i]?
 | [],cs,j,i,_=>by simp [setAt];omega
 | p::ps,cs,j,i,h=>by
   simp only [setAt,hR] at*
   rw [QL ps (cs.set j p) (j+1) i (by simp;omega)]
   by_cases h1:i=j
   ·subst h1
    rw [if_neg (by omega),if_pos (by omega),n5]
    rw [hT (by omega)]
    rfl
   ·by_cases h2:j+1<=i/\i < j+1+ps.length
    ·rw [if_pos h2,if_pos (by omega),show i - j=(i - (j+1))+1 by omega,dd]
    ·rw [if_neg h2,if_neg (by omega),hY (by omega)]
theorem Fp: ∀(ps:List PV) (cs:List PV) (j:Nat),(setAt cs j ps).length=cs.length
 | [],cs,j=>rfl
 | p::ps,cs,j=>by simp [setAt,Fp ps]
theorem Ga: ∀(ps:List IV) (cs:List IV) (j i:Nat),j+ps.length<=cs.length->(setCells cs j ps)[i]? =if j<=i/\i < j+ps.length then ps[i - j]? else cs[i]?
 | [],cs,j,i,_=>by simp [setCells];omega
 | p::ps,cs,j,i,h=>by
   simp only [setCells,hR] at*
   rw [Ga ps (cs.set j p) (j+1) i (by simp;omega)]
   by_cases h1:i=j
   ·subst h1
    rw [if_neg (by omega),if_pos (by omega),n5]
    rw [hT (by omega)]
    rfl
   ·by_cases h2:j+1<=i/\i < j+1+ps.length
    ·rw [if_pos h2,if_pos (by omega),show i - j=(i - (j+1))+1 by omega,dd]
    ·rw [if_neg h2,if_neg (by omega),hY (by omega)]
theorem yS: ∀(ps:List IV) (cs:List IV) (j:Nat),(setCells cs j ps).length=cs.length
 | [],cs,j=>rfl
 | p::ps,cs,j=>by simp [setCells,yS ps]
section
variable {P:ha} {w0:eg} {ok0:O0} {o:r3} {a:Act} {w:eg} {ok:Nat->Prop} {mu:Mu} {h:List Ob} {fr:List PV}
theorem qP {α:Type} {l:List α} {x:α} (h:x∈l): ∃i:Nat,l[i]? =some x:=by
 obtain ⟨i,hi,e⟩:=o2.1 h
 exact ⟨i,by rw [b6 hi,e]⟩
theorem QH {t:c9} {b off:Nat} {v:c5} (d:0 < P.cellsOf t) (hs:v.cells.size=P.cellsOf t) (h1: ∀u∈v.cells.toList,u.oneCell'=true) {c:Array c5} {T:c9} (hw:w.heap[b]? =some (.cells c T (0,0))) (a:off+v.cells.size<=c.size):
  (nd t (.pointer (some ⟨b,off,none⟩)) v).run P w= .ok () (w.setRow b (c.toList.take off++v.cells.toList++c.toList.drop (off+v.cells.size)).toArray):=by
 have e:=run_storeCells_at (P:=P) b off T v.cells.toList 0 c w hw (by simpa using a) h1
 obtain ⟨i,hi⟩:=ek.1 (kn d)
 simp only [q3,hQ] at e
 simp [nd,Instr.sureAddr,storeVar,run_sizeOf w hi,hs,e]
theorem SM {c:Array c5} {vs:List c5} {off i:Nat} (b:off+vs.length<=c.size):(c.toList.take off++vs++c.toList.drop (off+vs.length)).toArray[i]? =if off<=i/\i < off+vs.length then vs[i - off]? else c[i]? :=by
 have a:(c.toList.take off).length=off:=by simp;omega
 simp only [eP]
 by_cases h1:i < off
 ·rw [if_neg (by omega),hL,b7 (by rw [a];exact h1),c0 h1];simp
 ·by_cases h2:i < off+vs.length
  ·rw [if_pos (by omega),hL,ch (by rw [a];omega),a,b7 (by omega)]
  ·rw [if_neg (by omega),ch (by simp [a];omega),fH]
   simp only [gd,a]
   rw [show off+vs.length+(i - (off+vs.length))=i by omega]
   simp
theorem xx {c:Array c5} {vs:List c5} {off:Nat} (a:off+vs.length<=c.size):(c.toList.take off++vs++c.toList.drop (off+vs.length)).toArray.size=c.size:=by
 simp;omega
theorem V3 (m:Md) {t:c9} {x y:eW} (hop:o.op= .store t x y) (i:Inv w0 ok0 w ok mu h) (g: ∀q,h.length<=q->mu q=none) (rx:RP w ok mu (ev fr x) (a.eval x)) (O:RP w ok mu (ev fr y) (a.eval y)) {q j:Nat} (hx:ev fr x= .ptr q j) {cs:List PV} (I:getOb h q= .box .rw cs)
  (K:(ev fr y).whole=true) (hlen:(ev fr y).cells.length=P.cellsOf t) (H:(ev fr y).cells.all PV.atom=true) (E:0 < P.cellsOf t) (n:j+(ev fr y).cells.length<=cs.length):
  uj P w0 ok0 o a w ok mu .skip (h.set q (.box m (setAt cs j (ev fr y).cells))):=by
 obtain ⟨J,F⟩:=O.cellsRel K
 rw [hx] at rx
 have he:execOp a.eval o=(do nd t (a.eval x) (a.eval y);pure r5):=by simp [execOp,hop]
 generalize a.eval x=Q at*
 generalize a.eval y=G at*
 cases rx with
 | ptr q j pl b base hm hl=>
   have D:=i.ob q pl hm
   rw [I] at D
   obtain ⟨b',base',c,T,z,hw,hs,hr⟩:=D
   rw [hl] at z;cases z
   have f:(getOb h q).live=true:=by rw [I];rfl
   have A:(getOb h q).fz=false:=by rw [I];rfl
   have C:=(i.own q pl b base hm hl).2.2 f A
   have h1: ∀u∈G.cells.toList,u.oneCell'=true:= λu hu=>by
    obtain ⟨k,hk⟩:=qP hu
    have v:k < (ev fr y).cells.length:=by rw [<-J];have:=(b0.1 hk).1;simpa using this
    obtain ⟨u',h2,s⟩:=F k _ (b6 v)
    have:u=u':=by
     have:G.cells[k]? =some u:=by simpa using hk
     rw [h2] at this;exact (ri this).symm
    rw [this]
    exact s.atomic (j0.1 H _ (gf v))
   have d:base+j+G.cells.toList.length<=c.size:=by simp;omega
   have l:=QH (P:=P) (t:=t) E (by omega) h1 hw (off:=base+j) (by simpa using d)
   rw [<-hQ] at l
   have r:=fx (c':=(c.toList.take (base+j)++G.cells.toList++c.toList.drop (base+j+G.cells.toList.length)).toArray) hw (xx d)
   have e:=r.later (mu:=mu) (mu':=mu) C (λ_ _ h=>h)
   obtain ⟨L,M,N⟩:=i.write g hm hl f A r (ob:= .box m (setAt cs j (ev fr y).cells)) ⟨b,base,_,T,hl,r.now,by rw [Fp,xx d];exact hs,λk p hk=>by
    rw [QL _ _ _ _ n] at hk
    rw [SM d]
    split at hk
    ·rename_i hc
     obtain ⟨u,h2,s⟩:=F _ p hk
     refine ⟨u,?_,s.later e⟩
     rw [if_pos (by simp;omega),show base+k - (base+j)=k - j by omega]
     simpa using h2
    ·rename_i hc
     obtain ⟨u,h2,s⟩:=hr k p hk
     refine ⟨u,?_,s.later e⟩
     rw [if_neg (by simp;omega)]
     exact h2⟩ rfl
   exact ix.skip (by rw [he];exact MC l) ⟨ok,mu,M,L,.skip,N⟩
theorem Y9 {x z:IV} {i j:Nat} {vs:List IV} (h:r8 x i j vs=some z): ∃es e,x= .lst es/\es[i]? =some e/\j+vs.length<=e.length/\z= .lst (es.set i (setCells e j vs)):=by
 unfold r8 at h
 split at h
 ·rename_i es
  cases he:es[i]? with
  | none=>simp [he] at h
  | some e=>
    simp only [he,nF] at h
    split at h
    ·exact ⟨es,e,rfl,he,‹_›,by simpa using h.symm⟩
    ·cases h
 ·cases h
theorem TJ {t:c9} {x y:eW} (hop:o.op= .store t x y) (i:Inv w0 ok0 w ok mu h) (D: ∀q,h.length<=q->mu q=none) (rx:RP w ok mu (ev fr x) (a.eval x)) (ry:RP w ok mu (ev fr y) (a.eval y)) {q k j:Nat} (hx:ev fr x= .bptr q k j) {sz:Nat} {x0:IV} (hg:getOb h q= .arr .rw sz x0)
  (a1:(ev fr y).whole=true) (hlen:(ev fr y).cells.length=P.cellsOf t) (X:0 < P.cellsOf t) {vs:List IV} (a0:PX (ev fr y).cells=some vs) {z:IV} (hz:r8 x0 k j vs=some z):
  uj P w0 ok0 o a w ok mu .skip (h.set q (.arr .rw sz z)):=by
 obtain ⟨Y,aT⟩:=ry.cellsRel a1
 obtain ⟨a9,aB⟩:=Mb a0
 obtain ⟨es,e,rfl,K,ao,rfl⟩:=Y9 hz
 rw [hx] at rx
 have he:execOp a.eval o=(do nd t (a.eval x) (a.eval y);pure r5):=by simp [execOp,hop]
 generalize a.eval x=vx at*
 generalize a.eval y=A at*
 cases rx with
 | bptr q k j pl b base hm hl=>
   have N:=i.ob q pl hm
   rw [hg] at N
   obtain ⟨l,a4,al,L,p,ap,hc⟩:=N.arrN (λ_ h=>by cases h)
   cases al
   obtain ⟨c,T,hw,hs,hr⟩:=hc b base hl
   have s:(getOb h q).live=true:=by rw [hg];rfl
   have S:(getOb h q).fz=false:=by rw [hg];rfl
   have V:=(i.own q pl b base hm hl).2.2 s S
   have Q:k < es.length:=(b0.1 K).1
   have ac:e.length=sz:=p e (ds K)
   have r: ∀n u,A.cells[n]? =some u->n < vs.length/\ ∃x,vs[n]? =some x/\RV w ok x u:= λn u hn=>by
    have g:n < (ev fr y).cells.length:=by rw [<-Y];exact (fl.1 hn).1
    obtain ⟨x,h2,C⟩:=aB n _ (b6 g)
    obtain ⟨u',E,F⟩:=aT n _ (b6 g)
    rw [hn] at E;cases E
    rw [C] at F
    cases F with
    | imm F=>exact ⟨by omega,x,h2,F⟩
   have h1: ∀u∈A.cells.toList,u.oneCell'=true:= λu hu=>by
    obtain ⟨n,hn⟩:=qP hu
    obtain ⟨_,x,_,C⟩:=r n u (by simpa using hn)
    exact C.atomic
   have a8:k*sz+sz<=es.length*sz:=by rw [<-hM];exact cb _ Q
   have H:A.cells.toList.length=vs.length:=by simp;omega
   have d:base+k*pl.sz+j+A.cells.toList.length<=c.size:=by rw [l];omega
   have G:=QH (P:=P) (t:=t) X (by omega) h1 hw (off:=base+k*pl.sz+j) (by simpa using d)
   rw [<-hQ] at G
   have O:=fx (c':=(c.toList.take (base+k*pl.sz+j)++A.cells.toList++c.toList.drop (base+k*pl.sz+j+A.cells.toList.length)).toArray) hw (xx d)
   have f:=O.later (mu:=mu) (mu':=mu) V (λ_ _ h=>h)
   have W:ObOk (w.setRow b (c.toList.take (base+k*pl.sz+j)++A.cells.toList++c.toList.drop (base+k*pl.sz+j+A.cells.toList.length)).toArray) ok mu pl (.arr .rw sz (.lst (es.set k (setCells e j vs)))):=by
    refine .inl ⟨N.pos (λ_ h=>by cases h),l,_,rfl,by simpa using L,λZ ab=> ?_,λhn=>(by rw [hl] at hn;cases hn),λb' base' R=> ?_⟩
    ·rcases lv ab with h2 | h2
     ·exact p Z h2
     ·rw [h2,yS,ac]
    ·rw [hl] at R;cases R
     refine ⟨_,T,O.now,by rw [xx d];simpa using hs,λm n Z x v g=> ?_⟩
     rw [SM d]
     by_cases M:m=k
     ·subst M
      rw [hT Q] at v
      cases v
      rw [Ga _ _ _ _ ao] at g
      split at g
      ·rename_i I
       have U:n - j < A.cells.size:=by rw [<-hQ,H];omega
       obtain ⟨_,x',C,E⟩:=r (n - j) A.cells[n - j] (hE U)
       rw [g] at C;cases C
       refine ⟨_,?_,E.keeps f.keeps⟩
       rw [if_pos (by rw [l];omega),l,show base+m*sz+n - (base+m*sz+j)=n - j by omega]
       simp [U]
      ·rename_i I
       obtain ⟨u,C,E⟩:=hr m n e x K g
       refine ⟨u,?_,E.keeps f.keeps⟩
       rw [if_neg (by rw [l];omega)]
       exact C
     ·rw [hY (λe=>M e.symm)] at v
      have a2:n < sz:=by rw [<-p Z (ds v)];exact (b0.1 g).1
      obtain ⟨u,C,E⟩:=hr m n Z x v g
      refine ⟨u,?_,E.keeps f.keeps⟩
      have J: ¬(base+k*pl.sz+j<=base+m*sz+n/\base+m*sz+n < base+k*pl.sz+j+A.cells.toList.length):=by
       rw [l,H]
       rcases Nat.lt_or_gt_of_ne M with F | F
       ·have:m*sz+sz<=k*sz:=by rw [<-hM];exact cb _ F
        omega
       ·have:k*sz+sz<=m*sz:=by rw [<-hM];exact cb _ F
        omega
      rw [if_neg J]
      exact C
   obtain ⟨g1,g2,g3⟩:=i.write D hm hl s S O W rfl
   exact ix.skip (by rw [he];exact MC G) ⟨ok,mu,g2,g1,.skip,g3⟩
theorem WN {sz:Nat} {x y:IV} {l u:Nat} {z:IV×IV} (h:qx sz x l u y=some z): ∃es ys,x= .lst es/\y= .lst ys/\l<=u/\u<=es.length/\(∀e∈ys,e.length=sz)/\z=(.lst (es.take l++ys.take (min (u - l) ys.length)++es.drop (l+min (u - l) ys.length)),.int .i64 ((min (u - l) ys.length:Nat):Int)):=by
 unfold qx at h
 split at h
 ·split at h
  ·rename_i hc
   cases h
   exact ⟨_,_,rfl,rfl,hc.1,hc.2.1,λe he=>by simpa using j0.1 hc.2.2 e he,rfl⟩
  ·cases h
 ·cases h
theorem YX {t t' ty e:c9} (hu:P.underlying t=some (.slice e)) (a:0 < P.cellsOf e) {A A':Option Addr} {dLen dCap sLen sCap:Nat} (h0:sl sLen dLen=0):
  (kk #[t,t'] ty #[.slice A dLen dCap,.slice A' sLen sCap]).run P w= .ok (.int .i64 0) w:=by
 obtain ⟨i,hi⟩:=ek.1 (kn a)
 have b:(lb (P.cellsOf e) 0 (.slice A' sLen sCap)).run P w= .ok #[] w:=by
  have h:=dZ (P:=P) (w:=w) (A:=A') (n:=0) (sz:=P.cellsOf e) (cap:=sCap) (us:=[]) (by simp) (λh=>by omega)
  cases A'<;>exact h
 simp only [kk,run_underlying hu,ki,run_sizeOf w hi,fc,e8,q4,h0,b,eP,g4,dd]
 cases A<;>rfl
theorem ZN {t t' ty e:c9} (hu:P.underlying t=some (.slice e)) (a:0 < P.cellsOf e) {b o dLen dCap sLen sCap:Nat} {A:Option Addr} {us:List c5} {n:Nat} (hn:n=sl sLen dLen) (k:us.length=n*P.cellsOf e)
  (j:0 < n-> ∃ad,A=some ad/\ ∀q u,us[q]? =some u->w.cell? (ad.add q)=some u) (h1: ∀v∈us,v.oneCell'=true) {c:Array c5} {T:c9} (hw:w.heap[b]? =some (.cells c T (0,0))) (f:o+us.length<=c.size):
  (kk #[t,t'] ty #[.slice (some ⟨b,o,none⟩) dLen dCap,.slice A sLen sCap]).run P w= .ok (.int .i64 (n:Int)) (w.setRow b (c.toList.take o++us++c.toList.drop (o+us.length)).toArray):=by
 obtain ⟨i,hi⟩:=ek.1 (kn a)
 have l:(lb (P.cellsOf e) n (.slice A sLen sCap)).run P w= .ok us.toArray w:=by
  have h:=dZ (P:=P) (w:=w) (cap:=sCap) k j
  cases A<;>exact h
 have g:=run_storeCells_at (P:=P) b o T us 0 c w hw (by omega) h1
 simp only [kk,run_underlying hu,ki,run_sizeOf w hi,fc,e8,q4,<-hn,l,eP,g4,dd]
 have d:(storeCells ⟨b,o,none⟩ us).run P w= .ok () (w.setRow b (c.toList.take o++us++c.toList.drop (o+us.length)).toArray):=by simpa using g
 rw [d]
 rfl
theorem abO {c:r4} (hop:o.op= .call c) (hc:c.callee= .builtin .copy) {x y:eW} (N:c.args= #[x,y]) (a6:c.argTypes.size=2) (h0:cu P (c.argTypes.getD 0 0)=true) (h1:cu P (c.argTypes.getD 1 0)=true) (r:0 < P.cellsOf (bG P (c.argTypes.getD 0 0)))
  (i:Inv w0 ok0 w ok mu h) (F: ∀q,h.length<=q->mu q=none) (rx:RP w ok mu (ev fr x) (a.eval x)) (ry:RP w ok mu (ev fr y) (a.eval y)) {q l u sz:Nat} {x0:IV} (hg:getOb h q= .arr .rw sz x0) (hsz:sz=P.cellsOf (bG P (c.argTypes.getD 0 0)))
  (hx:ev fr x= .sub q l u\/(∃n,ev fr x= .buf q n/\l=0/\u=n)) {s:IV} {z:IV×IV} (hs:pK h (ev fr y)=some s) (hz:qx sz x0 l u s=some z):
  uj P w0 ok0 o a w ok mu (.imm z.2) (h.set q (.arr .rw sz z.1)):=by
 obtain ⟨e,hu,he⟩:=fM h0
 rw [he] at r hsz
 obtain ⟨es,ys,rfl,rfl,bB,br,I,rfl⟩:=WN hz
 subst hsz
 obtain ⟨A',cap',vs,hy,D,J⟩:=uX i.q ry hs r I
 have hex:execOp a.eval o=(do pure (hJ (<-kk c.argTypes o.type #[a.eval x,a.eval y]))):=by
  simp only [execOp,hop,resolve,hc,N,invoke,builtin]
  simp
 have W:=GH a6
 have Z: ∃A cap pl,a.eval x= .slice A (u - l) cap/\mu q=some pl/\u<=pl.len/\Hdr pl l (u - l) cap A:=by
  rcases hx with hx | ⟨n,hx,rfl,rfl⟩
  ·rw [hx] at rx
   generalize a.eval x=v at rx
   cases rx with
   | sub q l u A cap pl hm hl hn hh hc=>exact ⟨A,cap,pl,rfl,hm,hn,hh⟩
  ·rw [hx] at rx
   generalize a.eval x=v at rx
   cases rx with
   | buf q n A cap pl hm hn hh hc=>exact ⟨A,cap,pl,by simp,hm,by omega,by simpa using hh⟩
 obtain ⟨A,cap,pl,be,hm,bO,hh⟩:=Z
 rw [be,hy,W] at hex
 have ao:=i.ob q pl hm
 rw [hg] at ao
 obtain ⟨H,bx,Y,bb,k,a1,a7⟩:=ao.arrN (λ_ h=>by cases h)
 cases Y
 have C:(getOb h q).live=true:=by rw [hg];rfl
 have al:(getOb h q).fz=false:=by rw [hg];rfl
 have M:sl ys.length (u - l)=min (u - l) ys.length:=Nat.min_comm _ _
 by_cases hk:min (u - l) ys.length=0
 ·have bf:es.take l++ys.take (min (u - l) ys.length)++es.drop (l+min (u - l) ys.length)=es:=by rw [hk];simp
  have aT:h.set q (.arr .rw (P.cellsOf e) (.lst (es.take l++ys.take (min (u - l) ys.length)++es.drop (l+min (u - l) ys.length))))=h:=by
   rw [bf]
   apply List.ext_getElem?
   intro j
   rw [q0]
   by_cases E:q=j
   ·subst E
    have Q:=l9 C
    simp only [if_true,Q]
    have:getOb h q=h[q]:=by simp [getOb,Q]
    rw [b6 Q,<-this,hg]
   ·simp [E]
  simp only
  rw [aT,hk]
  refine ix.value (w':=w) (by rw [hex];exact gx (YX hu r (by rw [M,hk]))) ⟨ok,mu,.refl _ _ _,i,.imm (.int _ _),F⟩
 ·rcases hh.2 with ⟨bM,_⟩ | ⟨b,base,hb,rfl⟩
  ·omega
  ·obtain ⟨c1,T,hw,R,hr⟩:=a7 b base hb
   have am:=(i.own q pl b base hm hb).2.2 C al
   generalize hK:min (u - l) ys.length=K at*
   have a5:K<=ys.length:=by omega
   have a4:l+K<=es.length:=by omega
   have G:(vs.take (K*P.cellsOf e)).length=K*P.cellsOf e:=by
    rw [List.length_take,D.1]
    exact Nat.min_eq_left (cb _ a5)
   have h2:l*P.cellsOf e+K*P.cellsOf e<=es.length*P.cellsOf e:=by rw [<-e6];exact cb _ a4
   have d:base+l*pl.sz+(vs.take (K*P.cellsOf e)).length<=c1.size:=by rw [G,H];omega
   have aB:=ZN (P:=P) (w:=w) (t:=c.argTypes.getD 0 0) (t':=c.argTypes.getD 1 0) (ty:=o.type) hu r (dLen:=u - l) (dCap:=cap) (sLen:=ys.length) (sCap:=cap') (A:=A') (us:=vs.take (K*P.cellsOf e)) (n:=K) (by rw [M]) G (λh=>by
    obtain ⟨ad,g1,g2⟩:=J (by omega)
    refine ⟨ad,g1,λj v hj=>g2 j v ?_⟩
    have a9:j < K*P.cellsOf e:=by have:=(b0.1 hj).1;omega
    rwa [c0 a9] at hj) (λv hv=>D.2.1 v (gw hv)) hw d
   have S:=fx (c':=(c1.toList.take (base+l*pl.sz)++vs.take (K*P.cellsOf e)++c1.toList.drop (base+l*pl.sz+(vs.take (K*P.cellsOf e)).length)).toArray) hw (xx d)
   have p:=S.later (mu:=mu) (mu':=mu) am (λ_ _ h=>h)
   have ap:ObOk (w.setRow b (c1.toList.take (base+l*pl.sz)++vs.take (K*P.cellsOf e)++c1.toList.drop (base+l*pl.sz+(vs.take (K*P.cellsOf e)).length)).toArray) ok mu pl (.arr .rw (P.cellsOf e) (.lst (es.take l++ys.take K++es.drop (l+K)))):=by
    refine .inl ⟨r,H,_,rfl,by simp;omega,λE a8=> ?_,λhn=>(by rw [hb] at hn;cases hn),λb' base' ab=> ?_⟩
    ·rcases hG.1 a8 with g | g
     ·rcases hG.1 g with g | g
      ·exact k E (gw g)
      ·exact I E (gw g)
     ·exact k E (j3 g)
    ·rw [hb] at ab;cases ab
     refine ⟨_,T,S.now,by rw [xx d];simp;rw [show min l es.length+(min K ys.length+(es.length - (l+K)))=es.length by omega];exact R,λm n E x f L=> ?_⟩
     rw [SM d]
     have bm:n < E.length:=(b0.1 L).1
     by_cases ac:m < l
     ·rw [hL,b7 (by simp;omega),c0 ac] at f
      have X:=k E (ds f)
      obtain ⟨v,U,V⟩:=hr m n E x f L
      have h5:m*P.cellsOf e+P.cellsOf e<=l*P.cellsOf e:=by rw [<-hM];exact cb _ ac
      exact ⟨v,by rw [if_neg (by rw [H];omega)];exact U,V.keeps p.keeps⟩
     ·by_cases bC:m < l+K
      ·rw [hL,ch (by simp;omega),b7 (by simp;omega),c0 (by simp;omega)] at f
       have O:m - (es.take l).length=m - l:=by simp;omega
       rw [O] at f
       have X:=I E (ds f)
       obtain ⟨v,U,V⟩:=D.2.2 (m - l) n E x f L
       have h5:(m - l)*P.cellsOf e+P.cellsOf e<=K*P.cellsOf e:=by rw [<-hM];exact cb _ (by omega)
       have h6:m*P.cellsOf e=l*P.cellsOf e+(m - l)*P.cellsOf e:=by rw [<-e6];congr 1;omega
       refine ⟨v,?_,V.keeps p.keeps⟩
       rw [if_pos (by rw [H,G];omega),H,show base+m*P.cellsOf e+n - (base+l*P.cellsOf e)=(m - l)*P.cellsOf e+n by omega,c0 (by omega)]
       exact U
      ·rw [ch (by simp;omega),fH] at f
       have O:l+K+(m - (es.take l++ys.take K).length)=m:=by simp;omega
       rw [O] at f
       have X:=k E (ds f)
       obtain ⟨v,U,V⟩:=hr m n E x f L
       have h5:l*P.cellsOf e+K*P.cellsOf e<=m*P.cellsOf e:=by rw [<-e6];exact cb _ (by omega)
       exact ⟨v,by rw [if_neg (by rw [H,G];omega)];exact U,V.keeps p.keeps⟩
   obtain ⟨g1,g2,g3⟩:=i.write F hm hb C al S ap rfl
   exact ix.value (by rw [hex];exact gx aB) ⟨ok,mu,g2,g1,.imm (.int _ _),g3⟩
end
end Go.AM
namespace Go.AM
open Go.RowKit
def ArgRel (w:eg) (ok:Nat->Prop) (cs:List IV) (v:c5):Prop:=
 (∃x,cs=[x]/\RV w ok x v)\/(2<=cs.length/\ ∃vs:Array c5,v= .agg vs/\vs.size=cs.length/\ ∀(i:Nat) (x:IV) (u:c5),cs[i]? =some x->vs[i]? =some u->RV w ok x u)
def cL (w:eg) (ok:Nat->Prop) (as:List (List IV)) (args:List c5):Prop:=
 as.length=args.length/\ ∀(i:Nat) (c:List IV) (v:c5),as[i]? =some c->args[i]? =some v->ArgRel w ok c v
def qE (w:eg) (ok:Nat->Prop) (n:Nat) (r:List IV) (i:Nat) (v:c5):Prop:=
 (n=1/\RV w ok (nth r i) v)\/(2<=n/\ ∃vs:Array c5,v= .agg vs/\vs.size=n/\ ∀(j:Nat) (u:c5),vs[j]? =some u->RV w ok (nth r (i+j)) u)
def ld (w:eg) (ok:Nat->Prop) (r:List IV):List Nat->Nat->List c5->Prop
 | [],_,[]=>True
 | n::ns,i,v::vs=>qE w ok n r i v/\ld w ok r ns (i+n) vs
 | _,_,_=>False
def gm (w:eg) (ok:Nat->Prop) (ns:List Nat) (r:List IV) (v:c5):Prop:=
 match ns with
 | [n]=>qE w ok n r 0 v
 | ns=> ∃vs:Array c5,v= .tuple vs/\ld w ok r ns 0 vs.toList
def Enters (P:ha) (g:hd):Prop:= ∀(args:Array c5) (w:eg),(callFunc g args).run P w= .ok (.enter g args) w
def CT (w:eg) (ok:Nat->Prop) (w':eg):Nat->Prop:= λb=>ok b\/(w.heap.size<=b/\b < w'.heap.size)
def PureAt (P:ha) (g:hd) (cap:List c5) (ns:List Nat) (fn:List (List IV)->Option (List IV)) (W:eg) (a:Nat->Prop):Prop:=
 ∀(w:eg) (ok:Nat->Prop) (as:List (List IV)) (args:List c5) (r:List IV),Keeps W a w ok->(∀b,ok b->b < w.heap.size)->cL w ok as args->fn as=some r->
  r6 P g (args++cap).toArray w λe w'=> ∃v,e= .returned v/\Below w.heap.size w w'/\gm w' (CT w ok w') ns r v
structure OwnVal (w':eg) (ok:Nat->Prop) (esz:Nat) (x:IV) (v:c5) (pl:Pl):Prop where
 ob:ObOk w' ok (λ_=>none) pl (.arr .rw esz x)
 hdr: ∃A cap,v= .slice A pl.len cap/\Hdr pl 0 pl.len cap A/\ ∀b base,pl.loc=some (b,base)-> ∃(c:Array c5) (T:c9) (z:Nat×Nat),w'.heap[b]? =some (.cells c T z)/\base+cap*pl.sz<=c.size
theorem OwnVal.arr {w':eg} {ok:Nat->Prop} {esz:Nat} {x:IV} {v:c5} {pl:Pl} (r:OwnVal w' ok esz x v pl):zc w' ok pl esz x:=by
 obtain ⟨A,cap,_,_,hc⟩:=r.hdr
 exact r.ob.arrC hc
def CellVal (w:eg) (ok:Nat->Prop) (pl pA:Pl) (x:IV) (u:c5):Sc->Prop
 | .imm=>RV w ok x u
 | .buf sz none=>0 < sz/\zc w ok pA sz x/\ ∃A cap,u= .slice A pA.len cap/\Hdr pA 0 pA.len cap A/\ ∀b base,pA.loc=some (b,base)-> ∃(c:Array c5) (T:c9) (z:Nat×Nat),w.heap[b]? =some (.cells c T z)/\base+cap*pA.sz<=c.size
 | .buf sz (some T)=>0 < sz/\zc w ok pA sz x/\TyH w pA T pA.len u
 | .sn T n=>SnH w pl T n u
def ObjBuf (shp:List Sc) (pA:Nat->Pl) (b:Nat):Prop:= ∃(j:Nat) (sz:Nat×Option c9) (base:Nat),shp[j]? =some (.buf sz.1 sz.2)/\(pA j).loc=some (b,base)
def ObjLoc (shp:List Sc) (pl:Pl) (pA:Nat->Pl) (b:Nat):Prop:=(∃base,pl.loc=some (b,base))\/ObjBuf shp pA b
structure ObjVal (w:eg) (ok:Nat->Prop) (shp:List Sc) (vs:List IV) (v:c5) (pl:Pl) (pA:Nat->Pl):Prop where
 box: ∃(b base:Nat) (c:Array c5) (T:c9),pl.loc=some (b,base)/\v= .pointer (some ⟨b,base,none⟩)/\w.heap[b]? =some (.cells c T (0,0))/\base+shp.length<=c.size/\ ∀(j:Nat) (s:Sc),shp[j]? =some s-> ∃u,c[base+j]? =some u/\CellVal w ok pl (pA j) (nth vs j) u s
 apart: ∀b base,pl.loc=some (b,base)-> ¬ObjBuf shp pA b
 two: ∀(j k:Nat) (sz sz':Nat×Option c9) (b base base':Nat),shp[j]? =some (.buf sz.1 sz.2)->shp[k]? =some (.buf sz'.1 sz'.2)->(pA j).loc=some (b,base)->(pA k).loc=some (b,base')->j=k
 free: ∀b,ObjLoc shp pl pA b-> ¬ok b
def ay (P:ha) (g:hd) (s:FSig):Prop:=
 match s.mode with
 | .pure=>(∀w ok,PureAt P g [] s.res s.fn w ok)/\(s.scalar=true-> ∀as r,s.fn as=some r-> ∀x∈r,x.scalar=true)
 | .own=> ∀(w:eg) (ok:Nat->Prop) (as:List (List IV)) (args:List c5) (r:List IV),(∀b,ok b->b < w.heap.size)->cL w ok as args->s.fn as=some r->
     r6 P g args.toArray w λe w'=> ∃v pl,e= .returned v/\Below w.heap.size w w'/\OwnVal w' ok s.esz (nth r 0) v pl/\ ∀b base,pl.loc=some (b,base)->w.heap.size<=b/\b < w'.heap.size
 | .cons=> ∀(w:eg) (ok:Nat->Prop) (as:List (List IV)) (x:IV) (a:c5) (pl:Pl) (args:List c5) (r:List IV),(∀b,ok b->b < w.heap.size)->OwnVal w ok s.esz x a pl->(∀b base,pl.loc=some (b,base)-> ¬ok b)->cL w ok as args->s.fn ([x]::as)=some r->
     r6 P g (a::args).toArray w λe w'=> ∃v npl,e= .returned v/\w'.os=w.os/\w'.tape=w.tape/\w'.output=w.output/\w.heap.size<=w'.heap.size/\Sizes w w'/\
      (∀b,b < w.heap.size->(∀base,pl.loc≠some (b,base))->w'.heap[b]? =w.heap[b]?)/\OwnVal w' ok s.esz (nth r 0) v npl/\
      ∀b base,npl.loc=some (b,base)->(w.heap.size<=b/\b < w'.heap.size)\/ ∃base',pl.loc=some (b,base')
 | .inpl=> ∀(w:eg) (ok:Nat->Prop) (as:List (List IV)) (x:IV) (a:c5) (pl:Pl) (args:List c5) (r:List IV),(∀b,ok b->b < w.heap.size)->OwnVal w ok s.esz x a pl->(∀b base,pl.loc=some (b,base)-> ¬ok b)->cL w ok as args->s.fn ([x]::as)=some r->
     r6 P g (a::args).toArray w λe w'=> ∃v,e= .returned v/\w'.os=w.os/\w'.tape=w.tape/\w'.output=w.output/\w.heap.size<=w'.heap.size/\Sizes w w'/\
      (∀b,b < w.heap.size->(∀base,pl.loc≠some (b,base))->w'.heap[b]? =w.heap[b]?)/\ ∃ok',(∀b,ok b->ok' b)/\(∀b,ok' b->ok b\/(w.heap.size<=b/\b < w'.heap.size))/\ObOk w' ok' (λ_=>none) pl (.arr .rw s.esz (nth r 0))
 | .fresh=> ∀(w:eg) (ok:Nat->Prop) (as:List (List IV)) (args:List c5) (r:List IV),(∀b,ok b->b < w.heap.size)->cL w ok as args->s.fn as=some r->
     r6 P g args.toArray w λe w'=> ∃v pl,e= .returned v/\Below w.heap.size w w'/\OwnVal w' (λ_=>False) s.esz (nth r 0) v pl/\ ∀b base,pl.loc=some (b,base)->w.heap.size<=b/\b < w'.heap.size
 | .obj shp=>(∀(w:eg) (ok:Nat->Prop) (as:List (List IV)) (vs:List IV) (a:c5) (pl:Pl) (pA:Nat->Pl) (args:List c5) (r:List IV),(∀b,ok b->b < w.heap.size)->vs.length=shp.length->ObjVal w ok shp vs a pl pA->(∀b,ObjLoc shp pl pA b->b < w.heap.size)->cL w ok as args->s.fn (vs::as)=some r->
     r6 P g (a::args).toArray w λe w'=> ∃v ok' d,e= .returned v/\w'.os=w.os/\w'.tape=w.tape/\w'.output=w.output/\w.heap.size<=w'.heap.size/\Sizes w w'/\
      (∀b,b < w.heap.size-> ¬ObjLoc shp pl pA b->w'.heap[b]? =w.heap[b]?)/\(∀b,ok b->ok' b)/\(∀b,ok' b->ok b\/(w.heap.size<=b/\b < w'.heap.size)\/ObjBuf shp pA b)/\ObjVal w' ok' shp r a pl d/\
      (∀b,ObjBuf shp d b->(w.heap.size<=b/\b < w'.heap.size)\/ObjBuf shp pA b)/\gm w' ok' s.res (r.drop shp.length) v)/\
     ∀w ok,PureAt P g [] s.res (λas=>match as with | [.nilp]::rest=>s.fn ([.nilp]::rest) | _=>none) w ok
 | .look n=> ∀(w:eg) (ok:Nat->Prop) (as:List (List IV)) (vs:List IV) (b base:Nat) (c:Array c5) (T:c9) (args:List c5) (r:List IV),(∀b,ok b->b < w.heap.size)->vs.length=n->w.heap[b]? =some (.cells c T (0,0))->base+n<=c.size->(∀(j:Nat) (x:IV),vs[j]? =some x-> ∃u:c5,c[base+j]? =some u/\RV w ok x u)->cL w ok as args->s.fn (vs::as)=some r->
     r6 P g (.pointer (some ⟨b,base,none⟩)::args).toArray w λe w'=> ∃v,e= .returned v/\Below w.heap.size w w'/\gm w' (CT w ok w') s.res r v
 | .inl J=> ∀(w0:eg) (ok0:O0) (w:eg) (ok:Nat->Prop) (mu:Mu) (h:List Ob) (ps:List PV) (args:List c5) (p:PV) (h':List Ob),Inv w0 ok0 w ok mu h->(∀q,h.length<=q->mu q=none)->ps.length=args.length->(∀(i:Nat) (p:PV) (v:c5),ps[i]? =some p->args[i]? =some v->RP w ok mu p v)->
     J.run (PV×List Ob) ps h (λp h=>some (p,h))=some (p,h')->r6 P g args.toArray w λe w'=> ∃v,e= .returned v/\ ∃ok' mu',Later w ok mu w' ok' mu'/\Inv w0 ok0 w' ok' mu' h'/\RP w' ok' mu' p v/\ ∀q,h'.length<=q->mu' q=none
 | .mko shp=> ∀(w:eg) (ok:Nat->Prop) (as:List (List IV)) (args:List c5) (r:List IV),(∀b,ok b->b < w.heap.size)->cL w ok as args->s.fn as=some r->
     r6 P g args.toArray w λe w'=> ∃v ok' pl pA,e= .returned v/\Below w.heap.size w w'/\(∀b,ok b->ok' b)/\(∀b,ok' b->ok b\/(w.heap.size<=b/\b < w'.heap.size))/\ObjVal w' ok' shp r v pl pA/\
      ∀b,ObjLoc shp pl pA b->w.heap.size<=b/\b < w'.heap.size
def aF (P:ha) (Γ:hd->Option FSig):Prop:= ∀g s,Γ g=some s->Enters P g/\ay P g s
def ifV (b:Bool) (u:c5):c5:=if b then .agg #[u] else u
structure COK (P:ha) (C:IV->List Nat->List (List IV)->Option (List IV)):Prop where
 clo: ∀(x:IV) (ns:List Nat) (w:eg) (ok:Nat->Prop) (v:c5),RV w ok x v->(∃as r,C x ns as=some r)-> ∃g cv,v= .func (.func g) #[] cv/\Enters P g/\PureAt P g cv.toList ns (C x ns) w ok
 ifc: ∀(t:c9) (name:String) (b:Bool) (y:IV) (ns:List Nat) (w:eg) (ok:Nat->Prop) (u:c5),RV w ok y u->(∃as r,C (.map [[.clo (.methodOf t name) [y],.bool b,.nilp]]) ns as=some r)->
  ∃g,(∀w',(callMethod (.iface t (ifV b u)) name #[]).run P w'= .ok (.enter g #[ifV b u]) w')/\PureAt P g [ifV b u] ns (C (.map [[.clo (.methodOf t name) [y],.bool b,.nilp]]) ns) w ok
section
variable {P:ha} {w0:eg} {ok0:O0} {o:r3} {a:Act} {w:eg} {ok:Nat->Prop} {mu:Mu} {h:List Ob} {fr:List PV}
theorem Bg (j:InvQ w ok mu h) {p:PV} {v:c5} (r:RP w ok mu p v) (hok:TT p=true) {cs:List IV} (hc:EE h p=some cs):ArgRel w (jG ok mu (iM h p)) cs v:=by
 have c:p.whole=true:=by cases p<;>first | rfl | (simp [TT,PV.atom] at hok)
 obtain ⟨hs,hr⟩:=r.cellsRel c
 obtain ⟨hl,n⟩:=gp hc
 by_cases d: ∃l,p= .agg l
 ·obtain ⟨l,rfl⟩:=d
  have h2:2<=l.length:=by simpa [TT] using hok
  cases r with
  | agg l vs hlen hrel=>
    refine .inr ⟨by rw [hl];exact h2,vs,rfl,by rw [hl];exact hlen.symm,λi x u f k=> ?_⟩
    have hi:i < l.length:=by have:=(b0.1 f).1;rw [hl] at this;exact this
    obtain ⟨s,g,m⟩:=n i l[i] (b6 hi)
    rw [f] at g;cases g
    refine (qZ j 5 _ _ _ m (hrel i _ u (b6 hi) k)).more λb hb=>jG.sub (λq o=> ?_) hb
    simp only [iM,PV.cells,n0]
    exact ⟨l[i],gf hi,o⟩
 ·have a:p.cells=[p]:=by cases p<;>first | rfl | exact absurd ⟨_,rfl⟩ d
  have e:iM h p=refs h 5 p:=by simp [iM,a]
  rw [e]
  rw [EE,a] at hc
  simp only [List.mapM_cons,List.mapM_nil] at hc
  cases hx:qn h 5 p with
  | none=>simp [hx] at hc
  | some x=>simp [hx] at hc;subst hc;exact .inl ⟨x,rfl,qZ j 5 _ _ _ hx r⟩
theorem ArgRel.more {ok':Nat->Prop} (hm: ∀b,ok b->ok' b) {cs:List IV} {v:c5} (r:ArgRel w ok cs v):ArgRel w ok' cs v:=by
 rcases r with ⟨x,h1,h2⟩ | ⟨h1,vs,h2,a,c⟩
 ·exact .inl ⟨x,h1,h2.more hm⟩
 ·exact .inr ⟨h1,vs,h2,a,λi x u d e=>(c i x u d e).more hm⟩
theorem kc (k:InvQ w ok mu h) {xs:List eW} (hf:Fr w ok mu fr a.tmps) {as:List (List IV)} (has:lX h (xs.map (ev fr))=some as):cL w (jG ok mu ((xs.map (ev fr)).flatMap (iM h))) as (xs.map a.eval):=by
 unfold lX at has
 split at has
 ·rename_i d
  obtain ⟨hl,g⟩:=gp has
  refine ⟨by simpa using hl,λi c v h1 h2=> ?_⟩
  have hi:i < xs.length:=by have:=(b0.1 h1).1;rw [hl] at this;simpa using this
  obtain ⟨c',e,f⟩:=g i (ev fr xs[i]) (by simp [hi])
  rw [h1] at e;cases e
  have hv:v=a.eval xs[i]:=by simp [hi] at h2;exact h2.symm
  subst hv
  have hok:=j0.1 d (ev fr xs[i]) (n3.2 ⟨_,gf hi,rfl⟩)
  refine (Bg k (hf.ev xs[i]) hok f).more λb hb=>jG.sub (λq j=> ?_) hb
  exact n0.2 ⟨ev fr xs[i],n3.2 ⟨_,gf hi,rfl⟩,j⟩
 ·cases has
theorem QU {ok':Nat->Prop} {mu':Mu} {w':eg} {n:Nat} {r:List IV} {i:Nat} {v:c5} (hr:qE w' ok' n r i v):RP w' ok' mu' (SH n r i) v:=by
 unfold SH
 rcases hr with ⟨rfl,h1⟩ | ⟨h1,vs,rfl,h2,b⟩
 ·simp;exact .imm h1
 ·rw [if_neg (by omega)]
  refine .agg _ _ (by rw [dt,h2]) λj p u a c=> ?_
  have hj:j < n:=by have:=(b0.1 a).1;rw [dt] at this;exact this
  rw [tp r i n j hj] at a
  cases a
  exact .imm (b j u c)
theorem De (r:List IV): ∀(ns:List Nat) (i:Nat),(xU r ns i).length=ns.length
 | [],_=>rfl
 | n::ns,i=>by simp [xU,De r ns]
theorem QJ {ok':Nat->Prop} {mu':Mu} {w':eg} {r:List IV}: ∀(ns:List Nat) (i:Nat) (vs:List c5),ld w' ok' r ns i vs->ns.length=vs.length/\ ∀(j:Nat) (p:PV) (v:c5),(xU r ns i)[j]? =some p->vs[j]? =some v->RP w' ok' mu' p v
 | [],i,[],_=>⟨rfl,λj p v h1 _=>by simp [xU] at h1⟩
 | [],i,_::_,h=>h.elim
 | n::ns,i,[],h=>h.elim
 | n::ns,i,v::vs,h=>by
   obtain ⟨h1,h2⟩:=QJ ns (i+n) vs h.2
   refine ⟨by simp [h1],λj p u a b=> ?_⟩
   cases j with
   | zero=>simp [xU] at a b;subst a;subst b;exact QU h.1
   | succ j=>simp [xU] at a b;exact h2 j p u a b
theorem B7 {ok':Nat->Prop} {mu':Mu} {w':eg} {ns:List Nat} {r:List IV} {v:c5} (hr:gm w' ok' ns r v):RP w' ok' mu' (Dn ns r) v:=by
 unfold Dn gm at*
 split at hr
 ·exact QU hr
 ·rename_i a
  obtain ⟨vs,rfl,h1⟩:=hr
  obtain ⟨h2,b⟩:=QJ (mu':=mu') _ 0 _ h1
  have key:RP w' ok' mu' (PV.tup (xU r ns 0)) (.tuple vs):= .tup _ _ (by rw [De];simpa using h2) λj p u c d=>b j p u c (by simpa using d)
  split
  ·exact absurd rfl (a _)
  ·exact key
theorem qE.scalar {ok':Nat->Prop} {w':eg} {n:Nat} {r:List IV} {i:Nat} {v:c5} (hs: ∀i,(nth r i).scalar=true) (hr:qE w ok n r i v):qE w' ok' n r i v:=by
 rcases hr with ⟨h0,h1⟩ | ⟨h1,vs,h0,h2,a⟩
 ·exact .inl ⟨h0,h1.scalar (hs _)⟩
 ·exact .inr ⟨h1,vs,h0,h2,λj u h=>(a j u h).scalar (hs _)⟩
theorem ld.scalar {ok':Nat->Prop} {w':eg} {r:List IV} (hs: ∀i,(nth r i).scalar=true): ∀(ns:List Nat) (i:Nat) (vs:List c5),ld w ok r ns i vs->ld w' ok' r ns i vs
 | [],i,[],_=>trivial
 | [],i,_::_,h=>h.elim
 | n::ns,i,[],h=>h.elim
 | n::ns,i,v::vs,h=>⟨h.1.scalar hs,ld.scalar hs ns (i+n) vs h.2⟩
theorem gm.scalar {ok':Nat->Prop} {w':eg} {ns:List Nat} {r:List IV} {v:c5} (hs: ∀i,(nth r i).scalar=true) (hr:gm w ok ns r v):gm w' ok' ns r v:=by
 unfold gm at*
 split
 ·exact qE.scalar hs hr
 ·rename_i a
  split at hr
  ·exact absurd rfl (a _)
  ·obtain ⟨vs,h1,h2⟩:=hr
   exact ⟨vs,h1,h2.scalar hs⟩
theorem NC {r:List IV} (h: ∀x∈r,x.scalar=true) (i:Nat):(nth r i).scalar=true:=by
 unfold nth
 rw [c7]
 cases hi:r[i]? with
 | none=>rfl
 | some x=>exact h x (ds hi)
theorem oW {c:r4} {g:hd} (hop:o.op= .call c) (hc:c.callee= .value (.func g)) (b:Enters P g):(execOp a.eval o).run P w= .ok (.enter g (c.args.toList.map a.eval).toArray) w:=by
 have:execOp a.eval o=callFunc g ((#[]++c.args.map a.eval)++ #[]):=by
  simp only [execOp,hop,resolve,hc,Act.eval,Deferred.ofValue]
  rfl
 rw [this,b]
 congr 2
 apply nA.1
 simp
theorem yA {c:r4} {x:eW} (hop:o.op= .call c) (hc:c.callee= .value x) {g:hd} {cv:Array c5} (hx:a.eval x= .func (.func g) #[] cv) (b:Enters P g):(execOp a.eval o).run P w= .ok (.enter g (c.args.toList.map a.eval++cv.toList).toArray) w:=by
 have:execOp a.eval o=callFunc g ((#[]++c.args.map a.eval)++cv):=by
  simp only [execOp,hop,resolve,hc,hx,Deferred.ofValue]
  rfl
 rw [this,b]
 congr 2
 apply nA.1
 simp
theorem ab5 {g:hd} {args:List c5} {cap:List c5} {ns:List Nat} {fn:List (List IV)->Option (List IV)} {W:eg} {k:Nat->Prop} {fz:List Nat} {h1:List Ob} (f:(execOp a.eval o).run P w= .ok (.enter g (args++cap).toArray) w) (l:InvQ w ok mu h) (hp:PureAt P g cap ns fn W k) (hk:Keeps W k w (jG ok mu fz))
  {as:List (List IV)} (has:cL w (jG ok mu fz) as args) {r:List IV} (hr:fn as=some r) (i:wh h fz=some h1):aI P o a w ok mu h (Dn ns r) h1:=by
 refine ⟨[],fz,h1,i,by simp,ix.enter f ?_⟩
 have j: ∀b,jG ok mu fz b->b < w.heap.size:= λb hb=>by
  rcases hb with hb | ⟨q,_,pl,base,h2,m⟩
  ·exact l.okw b hb
  ·exact l.loc q pl b base h2 m
 refine hS (hp w (jG ok mu fz) as args r hk j has hr) λe w' he=> ?_
 obtain ⟨v,rfl,hb,d⟩:=he
 refine ⟨v,rfl,CT w (jG ok mu fz) w',mu,⟨hb,λb c=> .inl (.inl c),λb c=> ?_,λ_ _=>rfl,.inl ⟨rfl,rfl⟩,B7 d⟩⟩
 rcases c with (c | c) | c
 ·exact .inl c
 ·exact .inr (.inr c)
 ·exact .inr (.inl c)
theorem abx {g:hd} {args:List c5} {ns:List Nat} {fn:List (List IV)->Option (List IV)} {fz:List Nat} (f:(execOp a.eval o).run P w= .ok (.enter g (args++[]).toArray) w) (j:InvQ w ok mu h) (hp: ∀w ok,PureAt P g [] ns fn w ok)
  {as:List (List IV)} (has:cL w (jG ok mu fz) as args) {r:List IV} (hr:fn as=some r) (hs: ∀x∈r,x.scalar=true):aI P o a w ok mu h (Dn ns r) h:=by
 refine ⟨[],[],h,rfl,by simp,ix.enter f ?_⟩
 have i: ∀b,jG ok mu fz b->b < w.heap.size:= λb hb=>by
  rcases hb with hb | ⟨q,_,pl,base,h2,k⟩
  ·exact j.okw b hb
  ·exact j.loc q pl b base h2 k
 refine hS (hp w (jG ok mu fz) w (jG ok mu fz) as args r (.refl _ _) i has hr) λe w' he=> ?_
 obtain ⟨v,rfl,hb,d⟩:=he
 exact ⟨v,rfl,ok,mu,⟨hb,λb c=>c,λb c=> .inl c,λ_ _=>rfl,.inl ⟨rfl,rfl⟩,B7 (d.scalar (NC hs))⟩⟩
theorem Kz: ∀{cs:List PV} {vs:List IV},XA cs=some vs->vs.length=cs.length/\ ∀(j:Nat) (x:IV),vs[j]? =some x-> ∃p,cs[j]? =some p/\ ∀{w:eg} {ok:Nat->Prop} {mu:Mu} {u:c5},RP w ok mu p u->RV w ok x u
 | [],vs,h=>by
   simp only [XA,c6] at h
   subst h
   exact ⟨rfl,λj x hx=>by simp at hx⟩
 | p::ps,vs,h=>by
   unfold XA at h
   split at h
   ·rename_i heq;cases heq
   ·rename_i x d heq
    cases heq
    obtain ⟨vs',h1,rfl⟩:=e5.1 h
    obtain ⟨h2,c⟩:=Kz h1
    refine ⟨by simp [h2],λj y b=> ?_⟩
    cases j with
    | zero=>simp at b;subst b;exact ⟨_,rfl,λr=>by cases r with | imm r=>exact r⟩
    | succ j=>exact c j y (by simpa using b)
   ·rename_i d heq
    cases heq
    obtain ⟨vs',h1,rfl⟩:=e5.1 h
    obtain ⟨h2,c⟩:=Kz h1
    refine ⟨by simp [h2],λj y b=> ?_⟩
    cases j with
    | zero=>simp at b;subst b;exact ⟨_,rfl,λr=>by cases r with | nils a=>exact RV.lst [] a 0 0 (λ_ _=>undef) (ck _) (by simp) (by simp) (by simp)⟩
    | succ j=>exact c j y (by simpa using b)
   ·cases h
theorem ae7 {g:hd} {s:FSig} {x:eW} {xs:List eW} {n q:Nat} (A:(execOp a.eval o).run P w= .ok (.enter g ((x::xs).map a.eval).toArray) w) (l:s.mode= .look n) (hs:ay P g s) (G:InvQ w ok mu h) (hf:Fr w ok mu fr a.tmps)
  (hx:ev fr x= .ptr q 0) {vs:List IV} (ht:aar h n q=some vs) {as:List (List IV)} (has:lX h (xs.map (ev fr))=some as) (D:((xs.map (ev fr)).flatMap (iM h)).isEmpty=true) {r:List IV} (hr:s.fn (vs::as)=some r):
  aI P o a w ok mu h (Dn s.res r) h:=by
 have d:=kc G hf has
 rw [j1.1 D] at d
 have i:cL w ok as (xs.map a.eval):=⟨d.1,λk c v h1 h2=>(d.2 k c v h1 h2).more λb hb=>by
  rcases hb with hb | ⟨q,Q,_⟩
  ·exact hb
  ·simp at Q⟩
 have rx:=hf.ev x
 rw [hx] at rx
 unfold aar at ht
 split at ht
 ·rename_i md cs O
  split at ht
  ·rename_i hn
   obtain ⟨hl,C⟩:=Kz ht
   generalize F:a.eval x=U at rx
   cases rx with
   | ptr _ _ pl b base hm E=>
     have t:=G.ob q pl hm
     rw [O] at t
     obtain ⟨b',base',c,T,H,I,S,J⟩:=t
     rw [E] at H;cases H
     unfold ay at hs
     rw [l] at hs
     refine ⟨[],[],h,rfl,by simp,?_⟩
     have m:(execOp a.eval o).run P w= .ok (.enter g (.pointer (some ⟨b,base+0,none⟩)::xs.map a.eval).toArray) w:=by rw [A,hU,F]
     refine ix.enter m (hS (hs w ok as vs b base c T (xs.map a.eval) r G.okw (by omega) I (by omega) (λj y R=> ?_) i hr) λe w' he=> ?_)
     ·obtain ⟨p,K,L⟩:=C j y R
      obtain ⟨u,M,N⟩:=J j p K
      exact ⟨u,M,L N⟩
     ·obtain ⟨v,rfl,hb,z⟩:=he
      refine ⟨v,rfl,CT w ok w',mu,⟨hb,λb f=> .inl f,λb f=> ?_,λ_ _=>rfl,.inl ⟨rfl,rfl⟩,B7 z⟩⟩
      rcases f with f | f
      ·exact .inl f
      ·exact .inr (.inl f)
  ·cases ht
 ·cases ht
theorem Z8 {w':eg} {esz:Nat} {x:IV} {v:c5} {pl:Pl} (r:OwnVal w' ok esz x v pl) {mu':Mu} {md:Md}:ObOk w' ok mu' pl (.arr md esz x):=r.ob
theorem HI {w':eg} {esz:Nat} {x:IV} {v:c5} {pl:Pl} (r:OwnVal w' ok esz x v pl) {mu':Mu} {n:Nat} (hm:mu' n=some pl):RP w' ok mu' (.buf n (cj x)) v:=by
 obtain ⟨hsz,es,rfl,hlen,_⟩:=r.arr
 obtain ⟨A,cap,rfl,hh,hc⟩:=r.hdr
 have:cj (.lst es)=pl.len:=by simp [cj,hlen]
 rw [this]
 exact .buf n pl.len A cap pl hm rfl hh hc
theorem afP {g:hd} {s:FSig} {args:List c5} {fz:List Nat} (j:(execOp a.eval o).run P w= .ok (.enter g args.toArray) w) (d:s.mode= .own) (hs:ay P g s) (k:InvQ w ok mu h) (hn:mu h.length=none) {as:List (List IV)} (has:cL w ok as args) {r:List IV} (hr:s.fn as=some r):
  aI P o a w ok mu h (.buf h.length (cj (nth r 0))) (h++[.arr .rw s.esz (nth r 0)]):=by
 refine ⟨[.arr .rw s.esz (nth r 0)],[],h,rfl,rfl,ix.enter j ?_⟩
 unfold ay at hs
 rw [d] at hs
 refine hS (hs w ok as args r k.okw has hr) λe w' he=> ?_
 obtain ⟨v,pl,rfl,hb,i,f⟩:=he
 refine ⟨v,rfl,ok,λq=>if q=h.length then some pl else mu q,hb,λb c=>c,λb c=> .inl c,λq m=>by simp [m],.inr ⟨_,pl,rfl,by simp,rfl,i.ob,λb base hl=> ?_⟩,HI i (by simp)⟩
 obtain ⟨h1,h2⟩:=f b base hl
 exact ⟨h1,h2,λl=>by have:=k.okw b l;omega⟩
theorem OwnVal.more {w':eg} {ok ok':Nat->Prop} (hm: ∀b,ok b->ok' b) {esz:Nat} {x:IV} {v:c5} {pl:Pl} (r:OwnVal w' ok esz x v pl):OwnVal w' ok' esz x v pl:=by
 refine ⟨?_,r.hdr⟩
 obtain ⟨A,cap,_,_,hc⟩:=r.hdr
 have a:=r.ob.posC hc
 obtain ⟨q1,es,g,h,k,l,m⟩:=r.arr
 refine .inl ⟨a,q1,es,g,h,k,l,λb base hb=> ?_⟩
 obtain ⟨f,T,n,o,p⟩:=m b base hb
 refine ⟨f,T,n,o,λi j e x he hx=> ?_⟩
 obtain ⟨u,c,d⟩:=p i j e x he hx
 exact ⟨u,c,d.more hm⟩
theorem acT {g:hd} {s:FSig} {args:List c5} {fz:List Nat} (k:(execOp a.eval o).run P w= .ok (.enter g args.toArray) w) (d:s.mode= .fresh) (hs:ay P g s) (n:InvQ w ok mu h) (hn:mu h.length=none) {as:List (List IV)} (has:cL w (jG ok mu fz) as args) {r:List IV} (hr:s.fn as=some r):
  aI P o a w ok mu h (.buf h.length (cj (nth r 0))) (h++[.arr .rw s.esz (nth r 0)]):=by
 refine ⟨[.arr .rw s.esz (nth r 0)],[],h,rfl,rfl,ix.enter k ?_⟩
 have m: ∀b,jG ok mu fz b->b < w.heap.size:= λb hb=>by
  rcases hb with hb | ⟨q,_,pl,base,h2,l⟩
  ·exact n.okw b hb
  ·exact n.loc q pl b base h2 l
 unfold ay at hs
 rw [d] at hs
 refine hS (hs w _ as args r m has hr) λe w' he=> ?_
 obtain ⟨v,pl,rfl,hb,j,f⟩:=he
 have i:OwnVal w' ok s.esz (nth r 0) v pl:=j.more λ_ h=>h.elim
 refine ⟨v,rfl,ok,λq=>if q=h.length then some pl else mu q,hb,λb c=>c,λb c=> .inl c,λq p=>by simp [p],.inr ⟨_,pl,rfl,by simp,rfl,i.ob,λb base hl=> ?_⟩,HI i (by simp)⟩
 obtain ⟨h1,h2⟩:=f b base hl
 exact ⟨h1,h2,λl=>by have:=n.okw b l;omega⟩
end
end Go.AM
namespace Go.AM
open Go.RowKit
section
variable {P:ha} {w0:eg} {ok0:O0} {o:r3} {a:Act} {w:eg} {ok:Nat->Prop} {mu:Mu} {h:List Ob} {fr:List PV}
theorem Inv.freeze (i:Inv w0 ok0 w ok mu h) (a: ∀q,h.length<=q->mu q=none) {l:List Nat} {h1:List Ob} (hf:wh h l=some h1):Inv w0 ok0 w (jG ok mu l) mu h1:=by
 have g:Grow w ok mu h.length [] l .nils (.slice none 0 0) w (jG ok mu l) mu:=⟨.refl _ _,λb hb=> .inl hb,λb hb=>Or.elim hb .inl (λhb=> .inr (.inr hb)),λ_ _=>rfl,.inl ⟨rfl,rfl⟩,.nils _⟩
 have:=(i.grow a (fp hf) g).1
 simpa using this
theorem aep {g:hd} {s:FSig} {x:eW} {xs:List eW} (V:(execOp a.eval o).run P w= .ok (.enter g ((x::xs).map a.eval).toArray) w) (J:s.mode= .cons) (hs:ay P g s) (i:Inv w0 ok0 w ok mu h) (l: ∀q,h.length<=q->mu q=none) (hf:Fr w ok mu fr a.tmps)
  {q n:Nat} (hx:ev fr x= .buf q n) {sz:Nat} {x0:IV} (hg:getOb h q= .arr .rw sz x0) {as:List (List IV)} (has:lX h (xs.map (ev fr))=some as) {h1:List Ob} (O:wh h ((xs.map (ev fr)).flatMap (iM h))=some h1) {W:Nat} {Y:IV} (t:getOb h1 q= .arr .rw W Y) (hsz:sz=s.esz) {r:List IV} (hr:s.fn ([x0]::as)=some r):
  uj P w0 ok0 o a w ok mu (.buf h.length (cj (nth r 0))) (h1.set q .dead++[.arr .rw s.esz (nth r 0)]):=by
 have H:=kc i.q hf has
 have rx:=hf.ev x
 rw [hx] at rx
 have i1:=i.freeze l O
 have I:=fp O
 have d: ∀q,h1.length<=q->mu q=none:= λq hq=>l q (by rw [<-I.len];exact hq)
 subst hsz
 generalize T:jG ok mu ((xs.map (ev fr)).flatMap (iM h))=j at*
 cases N:a.eval x with
 | slice A n' cap=>
   rw [N] at rx
   cases rx with
   | buf q n A cap pl hm hn hh hc=>
     subst hn
     have p:(getOb h1 q).live=true:=by rw [t];rfl
     have S:(getOb h1 q).fz=false:=by rw [t];rfl
     have L:Y=x0/\W=s.esz:=by
      rcases I.same q with e | ⟨_,cs,m,Z,_⟩ | ⟨s',y,m,Z,e2⟩
      ·rw [t,hg] at e;cases e;exact ⟨rfl,rfl⟩
      ·rw [hg] at Z;cases Z
      ·rw [t] at e2;cases e2
     obtain ⟨rfl,rfl⟩:=L
     have ac:OwnVal w j s.esz Y (.slice A pl.len cap) pl:=by
      refine ⟨?_,A,cap,rfl,hh,hc⟩
      have:=i1.ob q pl hm
      rw [t] at this
      exact this
     have z: ∀b base,pl.loc=some (b,base)-> ¬j b:= λb base hl=>(i1.own q pl b base hm hl).2.2 p S
     have C:=hs
     unfold ay at C
     rw [J] at C
     have K:(execOp a.eval o).run P w= .ok (.enter g (.slice A pl.len cap::xs.map a.eval).toArray) w:=by rw [V];simp [N]
     refine ix.enter K (hS (C w j as Y _ pl (xs.map a.eval) r i1.okw ac z H hr) λe w' he=> ?_)
     obtain ⟨v,npl,rfl,ab,M,U,D,F,c,G,Q⟩:=he
     have f:Later w j mu w' j (λk=>if k=h1.length then some npl else mu k):=by
      refine ⟨⟨λb hb=>c b (i1.okw b hb) λbase hl=>z b base hl hb,λ_ h=>h⟩,λk pk hk=> ?_,F⟩
      have:k≠h1.length:= λe=>by rw [e,d _ (ck _)] at hk;cases hk
      simpa [this] using hk
     have E:BelowM ok0.lent w0.heap.size w0 w':=⟨ab.trans i.below.os,M.trans i.below.tape,U.trans i.below.output,e7 i.below.size D,λk hk R=>(c k (dq hk i.below.size) λbase hl=>(i.own q pl k base hm hl).1.ne hk R rfl).trans (i.below.block k hk R)⟩
     obtain ⟨g1,g2⟩:=i1.swap d hm p (npl:=npl) f E D c (ob:= .arr .rw s.esz (nth r 0)) rfl (Z8 G) (λb base hl=>by
      rcases Q b base hl with ⟨X,k2⟩ | ⟨base',X⟩
      ·exact .inl ⟨X,k2,λhb=>by have:=i1.okw b hb;omega⟩
      ·exact .inr ⟨base',X,z b base' X⟩)
     have u:Later w ok mu w j mu:=⟨⟨λ_ _=>rfl,λb hb=>by rw [<-T];exact .inl hb⟩,λ_ _ h=>h,.refl _⟩
     refine ⟨v,rfl,j,_,u.trans f,g1,?_,g2⟩
     rw [<-I.len]
     exact HI G (by simp)
 | _=>rw [N] at rx;cases rx
theorem aey {g:hd} {s:FSig} {x:eW} {xs:List eW} (L:(execOp a.eval o).run P w= .ok (.enter g ((x::xs).map a.eval).toArray) w) (C:s.mode= .inpl) (hs:ay P g s) (i:Inv w0 ok0 w ok mu h) (l: ∀q,h.length<=q->mu q=none) (hf:Fr w ok mu fr a.tmps)
  {q n:Nat} (hx:ev fr x= .buf q n) {sz:Nat} {M:IV} (O:getOb h q= .arr .rw sz M) {as:List (List IV)} (has:lX h (xs.map (ev fr))=some as) (N:((xs.map (ev fr)).flatMap (iM h)).isEmpty=true) (hsz:sz=s.esz) {r:List IV} (hr:s.fn ([M]::as)=some r):
  uj P w0 ok0 o a w ok mu .undef (h.set q (.arr .rw sz (nth r 0))):=by
 have d:=kc i.q hf has
 rw [j1.1 N] at d
 have z:cL w ok as (xs.map a.eval):=⟨d.1,λk c v h1 h2=>(d.2 k c v h1 h2).more λb hb=>by
  rcases hb with hb | ⟨q,V,_⟩
  ·exact hb
  ·simp at V⟩
 have rx:=hf.ev x
 rw [hx] at rx
 subst hsz
 cases G:a.eval x with
 | slice A n' cap=>
   rw [G] at rx
   cases rx with
   | buf q n A cap pl hm hn hh hc=>
     subst hn
     have f:(getOb h q).live=true:=by rw [O];rfl
     have H:(getOb h q).fz=false:=by rw [O];rfl
     have U:OwnVal w ok s.esz M (.slice A pl.len cap) pl:=by
      refine ⟨?_,A,cap,rfl,hh,hc⟩
      have:=i.ob q pl hm
      rw [O] at this
      exact this
     have u: ∀b base,pl.loc=some (b,base)-> ¬ok b:= λb base hl=>(i.own q pl b base hm hl).2.2 f H
     have j:=hs
     unfold ay at j
     rw [C] at j
     have D:(execOp a.eval o).run P w= .ok (.enter g (.slice A pl.len cap::xs.map a.eval).toArray) w:=by rw [L];simp [G]
     refine ix.enter D (hS (j w ok as M _ pl (xs.map a.eval) r i.okw U u z hr) λe w' he=> ?_)
     obtain ⟨v,rfl,T,F,K,E,t,p,ok',J,y,I⟩:=he
     obtain ⟨i2,l2⟩:=i.lentout (os:=[q]) (ok':=ok') (λY V=>by rw [e9.1 V];exact ⟨f,H⟩) T F K E t (λb hb m=>p b hb λbase=>m q (e9.2 rfl) pl base hm) J λb hb=>(y b hb).imp id .inl
     have S:q < h.length:=l9 f
     have i3:=i2.revive hm (by rw [fD];exact S) (ob:= .arr .rw s.esz (nth r 0)) I (λb base hl hb=>by
      rcases y b hb with g | g
      ·exact u b base hl g
      ·have:=(i.own q pl b base hm hl).2.1;omega) λb base Z X base' m R hl Q=>by
       cases hx:(getOb (kill h [q]) Z).live with
       | false=>rfl
       | true=>
         rw [nC,if_neg (by simpa using m)] at hx
         exact absurd (i.inj Z q X pl b base' base R hm Q hl hx f) m
     refine ⟨v,rfl,ok',mu,l2,?_,.undef v,λY W=>l Y (by simpa using W)⟩
     have he:(kill h [q]).set q (.arr .rw s.esz (nth r 0))=h.set q (.arr .rw s.esz (nth r 0)):=by simp [kill]
     rw [<-he];exact i3
 | _=>rw [G] at rx;cases rx
theorem Er (sz:Nat): ∀(n:Nat) (l:List PV) (i:Nat),i < n->(chunks sz n l)[i]? =some ((l.drop (i*sz)).take sz)
 | 0,l,i,h=>by omega
 | n+1,l,0,h=>by simp [chunks]
 | n+1,l,i+1,h=>by
   have ih:=Er sz n (l.drop sz) i (by omega)
   simp only [chunks,dd]
   rw [ih,List.drop_drop,hM,Nat.add_comm]
theorem Di (sz:Nat): ∀(n:Nat) (l:List PV),(chunks sz n l).length=n
 | 0,l=>rfl
 | n+1,l=>by simp [chunks,Di sz n]
theorem Gj {α:Type} (cs:List α): ∀(n i:Nat),i < n*cs.length->((o0 n).flatMap λ_=>cs)[i]? =cs[i % cs.length]? :=by
 intro n
 have: ∀(k n i:Nat),i < n*cs.length->((sc k n).flatMap λ_=>cs)[i]? =cs[i % cs.length]? :=by
  intro k n
  induction n generalizing k with
  | zero=>intro i h;simp at h
  | succ n ih=>
    intro i h
    rw [q8,List.flatMap_cons]
    by_cases hl:i < cs.length
    ·rw [b7 hl,nn hl]
    ·rw [ch (by omega),ih (k+1) (i - cs.length) (by rw [hM] at h;omega)]
     congr 1
     exact (Nat.mod_eq_sub_mod (by omega)).symm
 intro i h
 rw [o3]
 exact this 0 n i h
theorem Q5 (c:Nat): ∀n:Nat,((o0 n).map λ_=>c).sum=n*c
 | 0=>by simp
 | n+1=>by rw [List.range_succ,List.map_append,List.sum_append,Q5 c n,hM];simp
theorem R1 {t:c9} {len:Nat} {parts:Array (Nat×eW)} (hop:o.op= .buildSlice t len parts) {e:c9} (hu:P.underlying t=some (.slice e)) (iq:InvQ w ok mu h) (hn:mu h.length=none) (hf:Fr w ok mu fr a.tmps) {cs:List PV}
  (s:(if len=0 then some [] else match m7 P e with
     | some z=>Dg (λi=>some (i*P.cellsOf e,P.cellsOf e)) ((o0 len).flatMap λ_=>(lk z).cells) (parts.toList.map λp=>(p.1,ev fr p.2))
     | none=>none)=some cs) (E:len=0->parts= #[]) {es:List (List IV)} (Z:(chunks (P.cellsOf e) len cs).mapM (λc=>c.mapM (qn h 5))=some es) {h1:List Ob} (ab:wh h (cs.flatMap (refs h 5))=some h1)
  (V:len<=1000) (W:P.cellsOf e<=100) (H:0 < P.cellsOf e) (a0:len≠0-> ∃z,m7 P e=some z/\z.cells.size=P.cellsOf e):aI P o a w ok mu h (.buf h.length len) (h1++[.arr .rw (P.cellsOf e) (.lst es)]):=by
 obtain ⟨ie,D⟩:=ek.1 (kn H)
 have hex:execOp a.eval o=(do pure (hJ (<-hB t len (parts.map λ(i,x)=>(i,a.eval x))))):=by simp [execOp,hop]
 obtain ⟨d,F⟩:=gp Z
 rw [Di] at d
 have O: ¬(len*P.cellsOf e > 2 ^ 24):=by
  have:len*P.cellsOf e<=1000*100:=Nat.mul_le_mul V W
  omega
 have C: ∃vs:Array c5,(hB t len (parts.map λ(i,x)=>(i,a.eval x))).run P w= .ok (.slice (some ⟨w.heap.size,0,none⟩) len len) (w.alloc (.cells vs e))/\F2 w ok mu cs vs/\cs.length=len*P.cellsOf e:=by
  by_cases h0:len=0
  ·subst h0
   rw [E rfl]
   simp only [if_true,c6] at s
   subst s
   refine ⟨#[],?_,⟨by simp,λi p v h1 _=>by simp at h1⟩,by simp⟩
   simp [hB,run_underlying hu,run_sizeOf w D,o1,newRow,fc,fv,pure,Sem.run]
   congr 2
   apply hO
   simp
  ·obtain ⟨z,hz,I⟩:=a0 h0
   rw [if_neg h0,hz] at s
   simp only at s
   have ap:ie.zero=some z:=by simpa [m7,D] using hz
   obtain ⟨aB,aT⟩:=mi (w:=w) (ok:=ok) (mu:=mu) z
   have g:(lk z).cells.length=P.cellsOf e:=by rw [aB,I]
   have M:F2 w ok mu ((o0 len).flatMap λ_=>(lk z).cells) ((sh (len*P.cellsOf e)).map (z.cells[· % z.cells.size]!)):=by
    refine ⟨by simp [g,List.length_flatMap,Q5],λi p v k m=> ?_⟩
    have hi:i < len*P.cellsOf e:=by
     have:=(fl.1 m).1;simpa using this
    rw [Gj _ _ _ (by rw [g];exact hi),g] at k
    obtain ⟨u,T,U⟩:=aT _ p k
    have:v=u:=by
     have hv:v=z.cells[i % z.cells.size]! :=by simp [hi] at m;exact m.symm
     rw [hv,I]
     have:=T
     rw [getElem!_def,this]
    rw [this];exact U
   obtain ⟨vs,k,m⟩:=Ca _ _ M (FC hf parts.toList) s
   have G:(parts.map λ(i,x)=>(i,a.eval x)).toList=parts.toList.map λp=>(p.1,a.eval p.2):=by simp
   refine ⟨vs,?_,m,?_⟩
   ·have ac:len*P.cellsOf e≠0:=Nat.mul_ne_zero h0 (by omega)
    have a3: ¬(len=0\/P.cellsOf e=0):=by omega
    simp only [hB,fc,run_underlying hu,run_sizeOf w D,e8,if_neg O,if_neg ac,zeroValue,run_typeInfo w D,ap,q4,G,k,newRow]
    rfl
   ·have hl:=m.1
    have:vs.size=((sh (len*P.cellsOf e)).map (z.cells[· % z.cells.size]!)).size:=by
     clear hl m G M
     have key: ∀(place:Nat->Option (Nat×Nat)) (l:List (Nat×c5)) (c c':Array c5),o1 place c l=some c'->c'.size=c.size:=by
      intro place l
      induction l with
      | nil=>intro c c' h;simp [o1] at h;rw [h]
      | cons p l ih=>
        intro c c' h
        obtain ⟨i,u⟩:=p
        simp only [o1] at h
        split at h
        ·cases h
        ·split at h
         ·cases h
         ·rw [ih _ _ h]
          have K: ∀(l:List (c5×Nat)) (c:Array c5) (f:Nat),(l.foldl (λcs (x:c5×Nat)=>cs.setIfInBounds (f+x.2) x.1) c).size=c.size:=by
           intro l
           induction l with
           | nil=>intro c f;rfl
           | cons x l ih=>intro c f;simp only [List.foldl_cons];rw [ih];simp
          rw [<-Array.foldl_toList]
          exact K _ _ _
     exact key _ _ _ _ k
    rw [hl,this];simp
 obtain ⟨vs,S,hrel,g⟩:=C
 have n: ∀J∈es,J.length=P.cellsOf e:= λJ Y=>by
  obtain ⟨i,hi⟩:=qP Y
  have y:i < len:=by rw [<-d];exact (b0.1 hi).1
  obtain ⟨e2,k,m⟩:=F i _ (Er _ _ _ _ y)
  rw [hi] at k;cases k
  rw [(gp m).1]
  have:=DX (sz:=P.cellsOf e) y (j:=P.cellsOf e - 1) (by omega)
  simp;omega
 let fz:=cs.flatMap (refs h 5)
 let npl:Pl:=⟨some (w.heap.size,0),len,P.cellsOf e⟩
 refine ⟨[.arr .rw (P.cellsOf e) (.lst es)],fz,h1,ab,rfl,ix.value (by rw [hex];exact gx S) ⟨jG ok mu fz,λq=>if q=h.length then some npl else mu q,?_⟩⟩
 have Q: ∀b,jG ok mu fz b->b < w.heap.size:= λb hb=>by
  rcases hb with hb | ⟨q,_,pl,base,h2,k⟩
  ·exact iq.okw b hb
  ·exact iq.loc q pl b base h2 k
 have hk:Keeps w (jG ok mu fz) (w.alloc (.cells vs e)) (jG ok mu fz):=⟨λb hb=>Below.heap_alloc w _ b (Q b hb),λ_ h=>h⟩
 have L:Rows w (jG ok mu fz) es (P.cellsOf e) vs.toList:=by
  have r: ∀i j J x,es[i]? =some J->J[j]? =some x-> ∃v,vs.toList[i*P.cellsOf e+j]? =some v/\RV w (jG ok mu fz) x v:=by
   intro i j J x hi hj
   have y:i < len:=by rw [<-d];exact (b0.1 hi).1
   obtain ⟨e2,k,m⟩:=F i _ (Er _ _ _ _ y)
   rw [hi] at k;cases k
   have N:j < P.cellsOf e:=by rw [<-n J (ds hi)];exact (b0.1 hj).1
   have A:i*P.cellsOf e+j < cs.length:=by rw [g];exact DX y N
   have X:((cs.drop (i*P.cellsOf e)).take (P.cellsOf e))[j]? =some cs[i*P.cellsOf e+j]:=by
    rw [c0 N,fH,b6 A]
   obtain ⟨x',T,U⟩:=(gp m).2 j _ X
   rw [hj] at T;cases T
   have R:i*P.cellsOf e+j < vs.size:=by rw [<-hrel.1];exact A
   refine ⟨vs[i*P.cellsOf e+j],by simp [R],?_⟩
   refine (qZ iq 5 _ _ _ U (hrel.2 _ _ _ (b6 A) (hE R))).more λb hb=>jG.sub (λq al=> ?_) hb
   exact n0.2 ⟨_,gf A,al⟩
  refine ⟨by rw [hQ,<-hrel.1,g,d],λv hv=> ?_,r⟩
  obtain ⟨q,A⟩:=qP hv
  have ao:q < len*P.cellsOf e:=by rw [<-g,hrel.1];have:=(b0.1 A).1;simpa using this
  have hdiv:q / P.cellsOf e < es.length:=by rw [d];exact hF (by rw [fb];exact ao)
  have a2:q % P.cellsOf e < P.cellsOf e:=oi _ H
  have a5:es[q / P.cellsOf e].length=P.cellsOf e:=n _ (gf hdiv)
  obtain ⟨v',h1,h2⟩:=r _ _ _ _ (b6 hdiv) (b6 (show q % P.cellsOf e < es[q / P.cellsOf e].length by omega))
  have am:q / P.cellsOf e*P.cellsOf e+q % P.cellsOf e=q:=by rw [fb];exact km q _
  rw [am,A] at h1
  cases h1
  exact h2.atomic
 refine ⟨(Below.refl _ _).alloc (ck _) _,λb hb=> .inl hb,λb hb=> ?_,λq A=>by simp [A],.inr ⟨_,npl,rfl,by simp,rfl,?_,λb base hb=> ?_⟩,?_⟩
 ·rcases hb with hb | hb
  ·exact .inl hb
  ·exact .inr (.inr hb)
 ·have:=ub (mu':= λq=>if q=h.length then some npl else mu q) (md:= .rw) (base:=0) (gq w (.cells vs e)) n (L.later hk) (λq A=>by simp) (by rw [d,<-g,hrel.1];simp)
  rw [d] at this
  exact this
 ·cases hb
  exact ⟨ck _,by show w.heap.size < (w.heap.push _).size;simp,λhb=>by have:=Q _ hb;omega⟩
 ·refine .buf _ _ (some ⟨w.heap.size,0,none⟩) len npl (by simp) rfl ⟨ck _,.inr ⟨w.heap.size,0,rfl,by simp⟩⟩ λb base hb=> ?_
  cases hb
  exact ⟨vs,e,_,gq w _,by rw [<-hrel.1,g];simp [npl]⟩
end
end Go.AM
namespace Go.AM
open Go.RowKit
theorem yV (q:Nat) (r:List IV): ∀(shp:List Sc) (k i:Nat),(cG q r shp k i).length=shp.length
 | [],_,_=>rfl
 | s::a,k,i=>by simp only [cG,hR,yV q r a]
theorem lO (r:List IV): ∀(shp:List Sc) (i:Nat),(cy r shp i).length=shp.length
 | [],_=>rfl
 | s::a,i=>by simp only [cy,hR,lO r a]
theorem E3 (q:Nat) (r:List IV): ∀(shp:List Sc) (k i j:Nat),(cG q r shp k i)[j]? =(shp[j]?).map (F1 q (k+j) (nth r (i+j)))
 | [],_,_,_=>rfl
 | s::a,k,i,0=>rfl
 | s::a,k,i,j+1=>by
   simp only [cG,dd]
   rw [E3 q r a (k+1) (i+1) j,show k+1+j=k+(j+1) by omega,show i+1+j=i+(j+1) by omega]
theorem IU (r:List IV): ∀(shp:List Sc) (i j:Nat),(cy r shp i)[j]? =(shp[j]?).map (aca (nth r (i+j)))
 | [],_,_=>rfl
 | s::a,i,0=>rfl
 | s::a,i,j+1=>by
   simp only [cy,dd]
   rw [IU r a (i+1) j,show i+1+j=i+(j+1) by omega]
theorem nN: ∀{l m:List Nat},dF (l++m)=true->dF m=true/\ ∀k∈l,k∉m
 | [],m,h=>⟨h,λk hk=>by cases hk⟩
 | x::l,m,h=>by
   simp only [n1,dF,j2,iz,ke,decide_eq_false_iff_not] at h
   obtain ⟨h1,h2⟩:=nN h.2
   refine ⟨h1,λk hk=> ?_⟩
   rcases p1.1 hk with rfl | hk
   ·exact λa=>h.1 (jA _ a)
   ·exact h2 k hk
theorem Iu: ∀{l m:List Nat},dF (l++m)=true->dF l=true
 | [],m,h=>rfl
 | x::l,m,h=>by
   simp only [n1,dF,j2,iz,ke,decide_eq_false_iff_not] at h ⊢
   exact ⟨λa=>h.1 (kh _ a),Iu h.2⟩
section
variable {P:ha} {w0:eg} {ok0:O0} {o:r3} {a:Act} {w:eg} {ok:Nat->Prop} {mu:Mu} {h:List Ob} {fr:List PV}
theorem zc.more {ok':Nat->Prop} (a: ∀b,ok b->ok' b) {pl:Pl} {sz:Nat} {x:IV} (h:zc w ok pl sz x):zc w ok' pl sz x:=by
 obtain ⟨q1,es,g,k,l,m,n⟩:=h
 refine ⟨q1,es,g,k,l,m,λb base hb=> ?_⟩
 obtain ⟨f,T,o,p,q⟩:=n b base hb
 refine ⟨f,T,o,p,λi j e x he hx=> ?_⟩
 obtain ⟨u,c,d⟩:=q i j e x he hx
 exact ⟨u,c,d.more a⟩
theorem XU (i:Inv w0 ok0 w ok mu h) {sz:Nat} {p:PV} {x:IV} {os:List Nat} (ht:Hb h sz p=some (x,os)) {v:c5} (r:RP w ok mu p v):
  ∃n,0 < sz/\zc w ok n sz x/\(∀k:Mu,∀q,k q=some n->RP w ok k (.buf q (cj x)) v)/\(∀q∈os,(∃y,getOb h q= .arr .rw sz y)/\ ∃C,mu q=some C/\C.loc=n.loc)/\(∀b base,n.loc=some (b,base)->os≠[]):=by
 unfold Hb at ht
 split at ht
 ·split at ht
  ·rename_i t
   cases ht
   refine ⟨⟨none,0,sz⟩,t,⟨rfl,[],rfl,rfl,by simp,λ_=>rfl,λb base hb=>by cases hb⟩,λk q m=> ?_,by simp,λb base hb=>by cases hb⟩
   cases r
   exact .buf q 0 _ 0 _ m rfl ⟨ck _,.inl ⟨rfl,rfl⟩⟩ λb base hb=>by cases hb
  ·cases ht
 ·rename_i F l
  split at ht
  ·rename_i sz' y s
   split at ht
   ·rename_i hsz
    subst hsz
    cases ht
    cases r with
    | buf _ _ A cap pl hm hn hh hc=>
      have a:=i.ob F pl hm
      rw [s] at a
      have d:=a.arrC hc
      refine ⟨pl,a.posC hc,d,λk q m=> ?_,λq m=> ?_,λ_ _ _=>by simp⟩
      ·obtain ⟨_,es,rfl,hl,_⟩:=d
       have:cj (.lst es)=l:=by rw [hn];exact hl
       rw [this]
       exact .buf q l A cap pl m hn hh hc
      ·rw [e9.1 m]
       exact ⟨⟨_,s⟩,pl,hm,rfl⟩
   ·cases ht
  ·cases ht
 ·rename_i F u
  split at ht
  ·rename_i sz' y s
   split at ht
   ·rename_i hsz
    subst hsz
    cases ht
    cases r with
    | sub _ _ _ A cap pl hm hl hn hh hc=>
      have a:=i.ob F pl hm
      rw [s] at a
      have o: ∀b base,pl.loc=some (b,base)-> ∃(c:Array c5) (T:c9) (z:Nat×Nat),w.heap[b]? =some (.cells c T z)/\base+cap*pl.sz<=c.size:= λb base hb=>by
       obtain ⟨c,T,z,h1,h2⟩:=hc b base hb
       exact ⟨c,T,z,h1,by rw [g6] at h2;exact h2⟩
      have d:=a.arrC o
      have f:zc w ok ⟨pl.loc,u,pl.sz⟩ sz' (Ej y 0 u):=by
       obtain ⟨h1,es,rfl,h2,I,J,K⟩:=d
       refine ⟨h1,es.take u,by simp [Ej],by simp;omega,λe he=>I e (gw he),λE=>by simp [J E],λb base hb=> ?_⟩
       obtain ⟨c,T,L,M,N⟩:=K b base hb
       refine ⟨c,T,L,e7 (Nat.add_le_add_left (cb _ (by simp;omega)) _) M,λi j e x he hx=>N i j e x ?_ hx⟩
       have hi:i < u:=by have:=(b0.1 he).1;simp at this;omega
       rw [c0 hi] at he
       exact he
      refine ⟨⟨pl.loc,u,pl.sz⟩,a.posC o,f,λk q m=> ?_,λq m=> ?_,λ_ _ _=>by simp⟩
      ·obtain ⟨_,es,G,D,_⟩:=f
       have:cj (Ej y 0 u)=u:=by rw [G];exact D
       rw [this]
       refine .buf q u A cap ⟨pl.loc,u,pl.sz⟩ m rfl ?_ o
       refine ⟨hh.1,?_⟩
       rcases hh.2 with ⟨O,H⟩ | g
       ·exact .inl ⟨by omega,H⟩
       ·exact .inr g
      ·rw [e9.1 m]
       exact ⟨⟨_,s⟩,pl,hm,rfl⟩
   ·cases ht
  ·cases ht
 ·cases ht
theorem CellVal.rp {pl pA:Pl} {x:IV} {u:c5} {s:Sc} (hv:CellVal w ok pl pA x u s) {q k b base:Nat} (c:mu q=some pl) (hl:pl.loc=some (b,base)) (hk: ∀sz:Nat×Option c9,s= .buf sz.1 sz.2->mu k=some pA):RP w ok mu (F1 q k x s) u:=by
 cases s with
 | imm=>exact .imm hv
 | buf sz ty=>
   cases ty with
   | none=>
     obtain ⟨_,a,A,cap,rfl,hh,hc⟩:=hv
     obtain ⟨_,es,rfl,hlen,_⟩:=a
     have:cj (.lst es)=pA.len:=hlen
     simp only [F1,this]
     exact .buf k pA.len A cap pA (hk (sz,none) rfl) rfl hh hc
   | some T=>
     obtain ⟨_,a,hh⟩:=hv
     obtain ⟨_,es,rfl,hlen,_⟩:=a
     have:cj (.lst es)=pA.len:=hlen
     simp only [F1,this]
     exact .tbuf T k pA.len pA _ (hk (sz,some T) rfl) rfl hh
 | sn T n=>exact .sn T n q pl _ c hv
theorem CellVal.more {ok':Nat->Prop} (a: ∀b,ok b->ok' b) {pl pA:Pl} {x:IV} {u:c5} {s:Sc} (hv:CellVal w ok pl pA x u s):CellVal w ok' pl pA x u s:=by
 cases s with
 | imm=>exact RV.more a hv
 | buf sz ty=>
   cases ty with
   | none=>exact ⟨hv.1,hv.2.1.more a,hv.2.2⟩
   | some T=>exact ⟨hv.1,hv.2.1.more a,hv.2.2⟩
 | sn T n=>exact hv
theorem ObjVal.more {ok':Nat->Prop} {shp:List Sc} {vs:List IV} {v:c5} {pl:Pl} {pA:Nat->Pl} (n:ObjVal w ok shp vs v pl pA) (a: ∀b,ok b->ok' b) (d: ∀b,ObjLoc shp pl pA b-> ¬ok' b):ObjVal w ok' shp vs v pl pA:=by
 obtain ⟨⟨b,base,c,T,e,f,g,h,i⟩,h2,m,_⟩:=n
 refine ⟨⟨b,base,c,T,e,f,g,h,λj s hj=> ?_⟩,h2,m,d⟩
 obtain ⟨u,k,l⟩:=i j s hj
 exact ⟨u,k,l.more a⟩
theorem ObjVal.at {shp:List Sc} {vs:List IV} {v:c5} {pl pl':Pl} {pA:Nat->Pl} (p:ObjVal w ok shp vs v pl pA) (he:pl'.loc=pl.loc):ObjVal w ok shp vs v pl' pA:=by
 obtain ⟨⟨b,base,c,T,d,e,f,g,h⟩,h2,k,l⟩:=p
 refine ⟨⟨b,base,c,T,he.trans d,e,f,g,λj s hj=> ?_⟩,by rw [he];exact h2,k,λb hb=>l b ?_⟩
 ·obtain ⟨u,i,a⟩:=h j s hj
  refine ⟨u,i,?_⟩
  cases s with
  | imm=>exact a
  | buf sz ty=>cases ty<;>exact a
  | sn T n=>
    obtain ⟨b',m,o⟩:=a
    exact ⟨b',he.trans m,o⟩
 ·rcases hb with ⟨base,hb⟩ | hb
  ·exact .inl ⟨base,he▸hb⟩
  ·exact .inr hb
theorem ObjVal.congr {shp:List Sc} {vs r:List IV} {v:c5} {pl:Pl} {pA:Nat->Pl} (k:ObjVal w ok shp vs v pl pA) (he: ∀j,j < shp.length->nth r j=nth vs j):ObjVal w ok shp r v pl pA:=by
 obtain ⟨⟨b,base,c,T,a,d,e,f,g⟩,h2,h,i⟩:=k
 refine ⟨⟨b,base,c,T,a,d,e,f,λj s hj=> ?_⟩,h2,h,i⟩
 rw [he j (b0.1 hj).1]
 exact g j s hj
def W7 (shp:List Sc) (pA:Nat->Pl) (j:Nat):Option Pl:=match shp[j]? with | some (.buf _ _)=>some (pA j) | _=>none
theorem ga {shp:List Sc} {pA:Nat->Pl} {j:Nat} {p:Pl} (hm:W7 shp pA j=some p):p=pA j/\ ∃sz:Nat×Option c9,shp[j]? =some (.buf sz.1 sz.2):=by
 unfold W7 at hm
 split at hm
 ·rename_i sz ty hs
  cases hm;exact ⟨rfl,(sz,ty),hs⟩
 ·cases hm
theorem ObjVal.boxOk {shp:List Sc} {vs r:List IV} {v:c5} {pl:Pl} {pA:Nat->Pl} (n:ObjVal w ok shp vs v pl pA) {i0:Nat} (hr: ∀j,j < shp.length->nth r (i0+j)=nth vs j) {q k:Nat} (l:mu q=some pl) (hk: ∀(j:Nat) (sz:Nat×Option c9),shp[j]? =some (.buf sz.1 sz.2)->mu (k+j)=some (pA j)) {m:Md}:
  ObOk w ok mu pl (.box m (cG q r shp k i0)):=by
 obtain ⟨b,base,c,T,a,o,d,f,g⟩:=n.box
 refine ⟨b,base,c,T,a,d,by rw [yV];exact f,λj p hj=> ?_⟩
 rw [E3] at hj
 obtain ⟨s,hs,rfl⟩:=e5.1 hj
 obtain ⟨u,h,i⟩:=g j s hs
 rw [hr j (b0.1 hs).1]
 exact ⟨u,h,i.rp l a λsz e=>hk j sz (by rw [hs,e])⟩
theorem ObjVal.arrsOk {shp:List Sc} {vs r:List IV} {v:c5} {pl:Pl} {pA:Nat->Pl} (e:ObjVal w ok shp vs v pl pA) {i0:Nat} (hr: ∀j,j < shp.length->nth r (i0+j)=nth vs j) {j:Nat} {p:Pl} (hm:W7 shp pA j=some p):
  ObOk w ok mu p ((cy r shp i0).getD j .dead):=by
 obtain ⟨rfl,sz,hs⟩:=ga hm
 obtain ⟨b,base,c,T,f,g,h,i,d⟩:=e.box
 obtain ⟨u,k,a⟩:=d j _ hs
 rw [c7,IU,hs,hr j (b0.1 hs).1]
 obtain ⟨sz,ty⟩:=sz
 cases ty<;>exact .inl ⟨a.1,a.2.1⟩
def oO (n m:Nat) (muN:Nat->Option Pl) (mu:Mu):Mu:= λq=>if n<=q/\q < n+m then muN (q - n) else mu q
theorem Inv.addMany (i:Inv w0 ok0 w ok mu h) (f: ∀q,h.length<=q->mu q=none) {news:List Ob} {muN:Nat->Option Pl}
  (C: ∀j p,j < news.length->muN j=some p->ObOk w ok (oO h.length news.length muN mu) p (news.getD j .dead))
  (l: ∀j p b base,j < news.length->muN j=some p->p.loc=some (b,base)->Own0 w0 ok0 b/\b < w.heap.size/\ ¬ok b/\ ∀o y base',mu o=some y->y.loc=some (b,base')->(getOb h o).live=false)
  (x: ∀j r p y b base base',j < news.length->r < news.length->muN j=some p->muN r=some y->p.loc=some (b,base)->y.loc=some (b,base')->j=r):
  Inv w0 ok0 w ok (oO h.length news.length muN mu) (h++news)/\(∀q,(h++news).length<=q->oO h.length news.length muN mu q=none)/\Later w ok mu w ok (oO h.length news.length muN mu):=by
 have u: ∀{o p},mu o=some p->o < h.length:= λ{o p} c=>by
  rcases jb o h.length with h1 | h1
  ·exact h1
  ·rw [f o h1] at c;cases c
 have hold: ∀{o},o < h.length->oO h.length news.length muN mu o=mu o:= λ{o} c=>by
  unfold oO
  rw [if_neg (by omega)]
 have hl:Later w ok mu w ok (oO h.length news.length muN mu):=⟨.refl _ _,λo p c=>by rw [hold (u c)];exact c,.refl _⟩
 have a: ∀{o},o < h.length->getOb (h++news) o=getOb h o:= λ{o} c=>by rw [aE,if_pos c]
 have d: ∀o p,oO h.length news.length muN mu o=some p->(∃j,o=h.length+j/\j < news.length/\muN j=some p)\/(o < h.length/\mu o=some p):= λo p c=>by
  unfold oO at c
  split at c
  ·rename_i e
   exact .inl ⟨o - h.length,by omega,by omega,c⟩
  ·exact .inr ⟨u c,c⟩
 have v: ∀{j},getOb (h++news) (h.length+j)=news.getD j .dead:= λ{j}=>by
  rw [aE,if_neg (by omega),fa];rfl
 refine ⟨⟨i.below,i.okw,i.okb,λo p c=> ?_,λo p b base c hb=> ?_,λo o' p z b base base' c A hb m n g=> ?_⟩,λq F=> ?_,hl⟩
 ·rcases d o p c with ⟨j,rfl,hj,h1⟩ | ⟨h0,h1⟩
  ·rw [v];exact C j p hj h1
  ·rw [a h0];exact (i.ob o p h1).later hl λ_ _ _=>rfl
 ·rcases d o p c with ⟨j,rfl,hj,h1⟩ | ⟨h0,h1⟩
  ·obtain ⟨h2,D,E,_⟩:=l j p b base hj h1 hb
   exact ⟨h2,D,λ_ _=>E⟩
  ·rw [a h0];exact i.own o p b base h1 hb
 ·rcases d o p c with ⟨j,rfl,hj,h1⟩ | ⟨h0,h1⟩<;>rcases d o' z A with ⟨r,rfl,t,k⟩ | ⟨s,k⟩
  ·rw [x j r p z b base base' hj t h1 k hb m]
  ·have:=(l j p b base hj h1 hb).2.2.2 o' z base' k m
   rw [a s,this] at g;cases g
  ·have:=(l r z b base' t k m).2.2.2 o p base h1 hb
   rw [a h0,this] at n;cases n
  ·rw [a h0] at n
   rw [a s] at g
   exact i.inj o o' p z b base base' h1 k hb m n g
 ·simp only [gd] at F
  unfold oO
  rw [if_neg (by omega)]
  exact f q (by omega)
theorem Inv.addArrs (i:Inv w0 ok0 w ok mu h) (a: ∀q,h.length<=q->mu q=none) {shp:List Sc} {vs r:List IV} {v:c5} {pl:Pl} {pA:Nat->Pl} (m:ObjVal w ok shp vs v pl pA) {i0:Nat} (hr: ∀j,j < shp.length->nth r (i0+j)=nth vs j)
  (l: ∀b,ObjLoc shp pl pA b->Own0 w0 ok0 b/\b < w.heap.size/\ ∀o u base',mu o=some u->u.loc=some (b,base')->(getOb h o).live=false) {q:Nat} (E:mu q=some pl):
  ∃mu',Inv w0 ok0 w ok mu' (h++cy r shp i0)/\(∀q,(h++cy r shp i0).length<=q->mu' q=none)/\Later w ok mu w ok mu'/\ObOk w ok mu' pl (.box .rw (cG q r shp h.length i0))/\
   ∀o p,mu' o=some p->(o < h.length/\mu o=some p)\/(h.length<=o/\ ∀b base,p.loc=some (b,base)->ObjBuf shp pA b):=by
 have C:=lO r shp i0
 have G: ∀j p,W7 shp pA j=some p->j < shp.length:= λj p hm=>by
  obtain ⟨_,sz,hs⟩:=ga hm
  exact (b0.1 hs).1
 have c: ∀j p b base,W7 shp pA j=some p->p.loc=some (b,base)->ObjBuf shp pA b:= λj p b base hm hb=>by
  obtain ⟨rfl,sz,hs⟩:=ga hm
  exact ⟨j,sz,base,hs,hb⟩
 have f:=i.addMany a (news:=cy r shp i0) (muN:=W7 shp pA) (λj p hj hm=> ?_) (λj p b base hj hm hb=> ?_) λj F p u b base base' hj D hm s hb n=> ?_
 ·obtain ⟨h1,h2,x⟩:=f
  refine ⟨_,h1,h2,x,m.boxOk hr (x.mu q pl E) (λk sz hs=> ?_),λo p d=> ?_⟩
  ·have hk:=(b0.1 hs).1
   unfold oO
   rw [if_pos (by omega),fa]
   unfold W7
   rw [hs]
  ·unfold oO at d
   split at d
   ·rename_i e
    exact .inr ⟨e.1,λb base hb=>c _ p b base d hb⟩
   ·rename_i e
    refine .inl ⟨?_,d⟩
    rcases jb o h.length with g | g
    ·exact g
    ·rw [a o g] at d;cases d
 ·exact m.arrsOk hr hm
 ·obtain ⟨y,z,A⟩:=l b (.inr (c j p b base hm hb))
  exact ⟨y,z,m.free b (.inr (c j p b base hm hb)),A⟩
 ·obtain ⟨rfl,sz,hs⟩:=ga hm
  obtain ⟨rfl,sz',t⟩:=ga s
  exact m.two j F sz sz' b base base' hs t hb n
theorem Inv.reviveK (i:Inv w0 ok0 w ok mu h) {o:Nat} {pl:Pl} {ob:Ob} (hm:mu o=some pl) (n:o < h.length) (s:ObOk w ok mu pl ob) (r: ∀b base,pl.loc=some (b,base)-> ¬ok b)
  (c: ∀b base t k f,pl.loc=some (b,base)->mu t=some k->k.loc=some (b,f)->t≠o->(getOb h t).live=false):Inv w0 ok0 w ok mu (h.set o ob):=by
 have m: ∀q,getOb (h.set o ob) q=if q=o then ob else getOb h q:= λq=>by
  rw [bz]
  by_cases e:o=q
  ·subst e;rw [if_pos ⟨rfl,n⟩,if_pos rfl]
  ·rw [if_neg (λh=>e h.1),if_neg (λh=>e h.symm)]
 refine ⟨i.below,i.okw,i.okb,λq p a=> ?_,λq p b base a hb=> ?_,λq l p x b base base' a d hb g h1 h2=> ?_⟩
 ·rw [m]
  split
  ·rename_i e;subst e;rw [hm] at a;cases a;exact s
  ·exact i.ob q p a
 ·obtain ⟨u,v,y⟩:=i.own q p b base a hb
  rw [m]
  split
  ·rename_i e;subst e;rw [hm] at a;cases a
   exact ⟨u,v,λ_ _=>r b base hb⟩
  ·exact ⟨u,v,y⟩
 ·rw [m] at h1 h2
  by_cases e:q=o
  ·subst e
   rw [hm] at a;cases a
   by_cases j:l=q
   ·exact j.symm
   ·rw [if_neg j,c b base l x base' hb d g j] at h2;cases h2
  ·rw [if_neg e] at h1
   by_cases j:l=o
   ·subst j
    rw [hm] at d;cases d
    rw [c b base' q p base g a hb e] at h1;cases h1
   ·rw [if_neg j] at h2
    exact i.inj q l p x b base base' a d hb g h1 h2
theorem Inv.addObj (i:Inv w0 ok0 w ok mu h) (a: ∀q,h.length<=q->mu q=none) {shp:List Sc} {vs r:List IV} {v:c5} {pl:Pl} {pA:Nat->Pl} (n:ObjVal w ok shp vs v pl pA) {i0:Nat} (hr: ∀j,j < shp.length->nth r (i0+j)=nth vs j)
  (x: ∀b,ObjLoc shp pl pA b->Own0 w0 ok0 b/\b < w.heap.size/\ ∀o z base',mu o=some z->z.loc=some (b,base')->(getOb h o).live=false):
  ∃mu',Inv w0 ok0 w ok mu' (h++(cy r shp i0++[.box .rw (cG (h.length+shp.length) r shp h.length i0)]))/\(∀q,(h++(cy r shp i0++[Ob.box .rw (cG (h.length+shp.length) r shp h.length i0)])).length<=q->mu' q=none)/\Later w ok mu w ok mu'/\mu' (h.length+shp.length)=some pl/\
   ∀o p,mu' o=some p->(o < h.length/\mu o=some p)\/(h.length<=o/\ ∀b base,p.loc=some (b,base)->ObjLoc shp pl pA b):=by
 have t:=lO r shp i0
 have l:(cy r shp i0++[Ob.box .rw (cG (h.length+shp.length) r shp h.length i0)]).length=shp.length+1:=by simp [t]
 have y: ∀j p,(if j=shp.length then some pl else W7 shp pA j)=some p->(j=shp.length/\p=pl)\/(j < shp.length/\W7 shp pA j=some p):= λj p hm=>by
  split at hm
  ·cases hm;exact .inl ⟨‹_›,rfl⟩
  ·obtain ⟨_,sz,hs⟩:=ga hm
   exact .inr ⟨(b0.1 hs).1,hm⟩
 have c: ∀j p b base,(if j=shp.length then some pl else W7 shp pA j)=some p->p.loc=some (b,base)->ObjLoc shp pl pA b:= λj p b base hm hb=>by
  rcases y j p hm with ⟨_,rfl⟩ | ⟨_,hm⟩
  ·exact .inl ⟨base,hb⟩
  ·obtain ⟨rfl,sz,hs⟩:=ga hm
   exact .inr ⟨j,sz,base,hs,hb⟩
 have s:=i.addMany a (news:=cy r shp i0++[Ob.box .rw (cG (h.length+shp.length) r shp h.length i0)]) (muN:= λj=>if j=shp.length then some pl else W7 shp pA j) (λj p hj hm=> ?_) (λj p b base hj hm hb=> ?_) λj E p z b base base' hj L hm C hb f=> ?_
 ·obtain ⟨h1,h2,K⟩:=s
  refine ⟨_,h1,h2,K,?_,λo p m=> ?_⟩
  ·unfold oO
   rw [l,if_pos (by omega),fa]
   exact if_pos rfl
  ·unfold oO at m
   split at m
   ·rename_i e
    exact .inr ⟨e.1,λb base hb=>c _ p b base m hb⟩
   ·rename_i e
    refine .inl ⟨?_,m⟩
    rcases jb o h.length with g | g
    ·exact g
    ·rw [a o g] at m;cases m
 ·rcases y j p hm with ⟨rfl,rfl⟩ | ⟨A,hm⟩
  ·rw [c7,ch (by omega),t,n5]
   refine n.boxOk hr ?_ λk sz hs=> ?_
   ·unfold oO
    rw [l,if_pos (by omega),fa]
    exact if_pos rfl
   ·have hk:=(b0.1 hs).1
    unfold oO
    rw [l,if_pos (by omega),fa]
    refine (if_neg (by omega)).trans ?_
    unfold W7
    rw [hs]
  ·rw [c7,b7 (by omega),<-c7]
   exact n.arrsOk hr hm
 ·obtain ⟨H,I,J⟩:=x b (c j p b base hm hb)
  exact ⟨H,I,n.free b (c j p b base hm hb),J⟩
 ·rcases y j p hm with ⟨e,rfl⟩ | ⟨A,u⟩<;>rcases y E z C with ⟨G,rfl⟩ | ⟨F,d⟩
  ·rw [e,G]
  ·obtain ⟨rfl,sz,hs⟩:=ga d
   exact absurd ⟨E,sz,base',hs,f⟩ (n.apart b base hb)
  ·obtain ⟨rfl,sz,hs⟩:=ga u
   exact absurd ⟨j,sz,base,hs,hb⟩ (n.apart b base' f)
  ·obtain ⟨rfl,sz,hs⟩:=ga u
   obtain ⟨rfl,sz',D⟩:=ga d
   exact n.two j E sz sz' b base base' hs D hb f
theorem Z9 (i:Inv w0 ok0 w ok mu h) {q:Nat} {pl:Pl} {b base:Nat} (hm:mu q=some pl) (hl:pl.loc=some (b,base)) {s:Sc} {p:PV} {x:IV} {os:List Nat} (ht:Ik h q s p=some (x,os)) {u:c5} (r:RP w ok mu p u):
  ∃pA,CellVal w ok pl pA x u s/\(∀k∈os,∃sz y,getOb h k= .arr .rw sz y)/\(∀sz:Nat×Option c9,s= .buf sz.1 sz.2-> ∀b base,pA.loc=some (b,base)-> ∃k∈os,∃l base',mu k=some l/\l.loc=some (b,base')):=by
 cases s with
 | imm=>
   cases p with
   | imm y=>
     cases ht
     cases r with
     | imm r=>exact ⟨⟨none,0,0⟩,r,by simp,λsz e=>by cases e⟩
   | nils=>
     cases ht
     cases r with
     | nils a=>exact ⟨⟨none,0,0⟩,RV.lst [] a 0 0 (λ_ _=>undef) (ck _) (by simp) (by simp) (by simp),by simp,λsz e=>by cases e⟩
   | _=>cases ht
 | buf sz ty=>
   cases ty with
   | none=>
     have d:Hb h sz p=some (x,os):=by
      cases p<;>exact ht
     obtain ⟨o,R,K,S,L,U⟩:=XU i d r
     refine ⟨o,⟨R,K,?_⟩,λk hk=> ?_,λsz' e b base hb=> ?_⟩
     ·have E:=S (λ_=>some o) 0 rfl
      cases E with
      | buf _ _ A cap pl' f v t D=>
        cases f
        obtain ⟨_,es,rfl,hlen,_⟩:=K
        have:cj (.lst es)=o.len:=hlen
        rw [this] at t ⊢
        exact ⟨A,cap,rfl,t,D⟩
     ·obtain ⟨⟨y,Q⟩,_⟩:=L k hk
      exact ⟨sz,y,Q⟩
     ·obtain ⟨k,hk⟩:=h8 _ (U b base hb)
      obtain ⟨_,l,N,O⟩:=L k hk
      exact ⟨k,hk,l,base,N,O.trans hb⟩
   | some T=>
     have d:Sy h sz T p=some (x,os):=by
      cases p<;>exact ht
     unfold Sy at d
     split at d
     ·split at d
      ·rename_i C
       cases d
       cases r with
       | tnil=>exact ⟨⟨none,0,sz⟩,⟨C,⟨rfl,[],rfl,rfl,by simp,λ_=>rfl,λb base hb=>by cases hb⟩,.inl ⟨rfl,rfl,rfl⟩⟩,by simp,λ_ _ b base hb=>by cases hb⟩
      ·cases d
     ·rename_i F o' M
      split at d
      ·rename_i sz' y J
       split at d
       ·rename_i hc
        obtain ⟨rfl,rfl⟩:=hc
        simp only [c6,Prod.mk.injEq] at d
        obtain ⟨rfl,rfl⟩:=d
        cases r with
        | tbuf _ _ _ pl' _ f v j=>
          have g:=i.ob o' pl' f
          rw [J] at g
          have m:0 < sz'/\zc w ok pl' sz' y:=by
           rcases g with g | ⟨h1,es,b',h2,G,me,X,P,_⟩
           ·exact g
           ·rcases j with ⟨_,_,h0⟩ | ⟨b2,cap,H,_,_,_,c,z,I,_⟩
            ·rw [G] at h0;cases h0
            ·rw [G] at H;cases H;rw [P] at I;cases I
          refine ⟨pl',⟨m.1,m.2,by rw [<-v];exact j⟩,λk hk=> ?_,λW e b base hb=> ?_⟩
          ·rw [e9.1 hk];exact ⟨_,_,J⟩
          ·exact ⟨o',by simp,pl',base,f,hb⟩
       ·cases d
      ·cases d
     ·cases d
 | sn T n=>
   cases p with
   | sn F M V=>
     have d:(if V=q/\F=T/\M=n then some (IV.nilp,([]:List Nat)) else none)=some (x,os):=ht
     split at d
     ·rename_i e
      obtain ⟨rfl,rfl,rfl⟩:=e
      cases d
      cases r with
      | sn _ _ _ pl' _ f j=>
        rw [hm] at f;cases f
        exact ⟨⟨none,0,0⟩,j,by simp,λsz e=>by cases e⟩
     ·cases d
   | _=>cases ht
theorem HS {q:Nat}: ∀{shp:List Sc} {cs:List PV} {vs:List IV} {os:List Nat},DS h q shp cs=some (vs,os)->vs.length=shp.length/\cs.length=shp.length/\
  (∀(j:Nat) (s:Sc),shp[j]? =some s-> ∃(p:PV) (oj:List Nat),cs[j]? =some p/\Ik h q s p=some (nth vs j,oj)/\ ∀k∈oj,k∈os)/\
  (∀k∈os,∃(j:Nat) (s:Sc) (p:PV) (x:IV) (oj:List Nat),shp[j]? =some s/\cs[j]? =some p/\Ik h q s p=some (x,oj)/\k∈oj)/\
  (dF os=true-> ∀(j a:Nat) (s l:Sc) (p i:PV) (x o:IV) (oj b:List Nat) (k:Nat),shp[j]? =some s->cs[j]? =some p->Ik h q s p=some (x,oj)->shp[a]? =some l->cs[a]? =some i->Ik h q l i=some (o,b)->k∈oj->k∈b->j=a)
 | [],[],vs,os,ht=>by
   simp only [DS,c6,Prod.mk.injEq] at ht
   obtain ⟨rfl,rfl⟩:=ht
   exact ⟨rfl,rfl,λj s hj=>by simp at hj,by simp,λ_ j a s l p i x o oj b k hj=>by simp at hj⟩
 | [],_::_,vs,os,ht=>by simp [DS] at ht
 | _::_,[],vs,os,ht=>by simp [DS] at ht
 | M::N,H::ps,vs,os,ht=>by
   simp only [DS] at ht
   split at ht
   ·rename_i E xs d w
    obtain ⟨E,G⟩:=E
    obtain ⟨xs,L⟩:=xs
    simp only [c6,Prod.mk.injEq] at ht
    obtain ⟨rfl,rfl⟩:=ht
    obtain ⟨h1,h2,u,I,J⟩:=HS w
    refine ⟨by simp [h1],by simp [h2],λj s hj=> ?_,λk hk=> ?_,λv j a s l p i x o oj b k e f c g n m r t=> ?_⟩
    ·cases j with
     | zero=>
       simp at hj;subst hj
       exact ⟨H,G,rfl,d,λk hk=>kh _ hk⟩
     | succ j=>
       obtain ⟨p,oj,e,f,c⟩:=u j s (by simpa using hj)
       exact ⟨p,oj,by simpa using e,f,λk hk=>jA _ (c k hk)⟩
    ·rcases hG.1 hk with hk | hk
     ·exact ⟨0,M,H,E,G,rfl,rfl,d,hk⟩
     ·obtain ⟨j,s,p,x,oj,e,f,c,g⟩:=I k hk
      exact ⟨j+1,s,p,x,oj,by simpa using e,by simpa using f,c,g⟩
    ·obtain ⟨K,F⟩:=nN v
     cases j with
     | zero=>
       cases a with
       | zero=>rfl
       | succ a=>
         exfalso
         simp at e f;subst e;subst f
         rw [d] at c;cases c
         obtain ⟨D,C,y,z,A⟩:=u a l (by simpa using g)
         have:D=i:=by have:=n;simp at this;rw [y] at this;cases this;rfl
         subst this
         rw [z] at m;cases m
         exact F k r (A k t)
     | succ j=>
       cases a with
       | zero=>
         exfalso
         simp at g n;subst g;subst n
         rw [d] at m;cases m
         obtain ⟨D,C,y,z,A⟩:=u j s (by simpa using e)
         have:D=p:=by have:=f;simp at this;rw [y] at this;cases this;rfl
         subst this
         rw [z] at c;cases c
         exact F k t (A k r)
       | succ a=>
         rw [J K j a s l p i x o oj b k (by simpa using e) (by simpa using f) c (by simpa using g) (by simpa using n) m r t]
   ·cases ht
theorem xw (i:Inv w0 ok0 w ok mu h) {shp:List Sc} {q j:Nat} {vs:List IV} {os:List Nat} (ht:DH h shp (.ptr q j)=some (vs,os)) {v:c5} (r:RP w ok mu (.ptr q j) v):
  ∃pl pA,mu q=some pl/\ObjVal w ok shp vs v pl pA/\vs.length=shp.length/\(∀k∈os,isRw (getOb h k)=true)/\q∈os/\(∀b,ObjBuf shp pA b-> ∃k∈os,k≠q/\ ∃a base,mu k=some a/\a.loc=some (b,base)):=by
 unfold DH at ht
 split at ht
 ·rename_i q' heq
  cases heq
  split at ht
  ·rename_i cs P
   split at ht
   ·rename_i p hp
    obtain ⟨vs',t⟩:=p
    split at ht
    ·rename_i ab
     cases ht
     cases r with
     | ptr _ _ pl b base hm hl=>
       have K:=i.ob q pl hm
       rw [P] at K
       obtain ⟨b',base',c,T,e1,e2,e3,e4⟩:=K
       rw [hl] at e1;cases e1
       obtain ⟨h1,h2,h3,h4,h5⟩:=HS hp
       have C:q∉t/\dF t=true:=by
        simpa only [dF,j2,iz,ke,decide_eq_false_iff_not] using ab
       have hex: ∀j,∃pA,∀s,shp[j]? =some s-> ∃u p oj,c[base+j]? =some u/\cs[j]? =some p/\Ik h q s p=some (nth vs' j,oj)/\CellVal w ok pl pA (nth vs' j) u s/\(∀k∈oj,∃sz y,getOb h k= .arr .rw sz y)/\(∀sz:Nat×Option c9,s= .buf sz.1 sz.2-> ∀b base,pA.loc=some (b,base)-> ∃k∈oj,∃a base',mu k=some a/\a.loc=some (b,base')):= λj=>by
        cases hs:shp[j]? with
        | none=>exact ⟨⟨none,0,0⟩,λs hh=>by cases hh⟩
        | some s=>
          obtain ⟨p,oj,m,l,E⟩:=h3 j s hs
          obtain ⟨u,F,O⟩:=e4 j p m
          obtain ⟨pA,H,g7,g8⟩:=Z9 i hm hl l O
          exact ⟨pA,λs' hh=>by cases hh;exact ⟨u,p,oj,F,m,l,H,g7,g8⟩⟩
       obtain ⟨pA,o⟩:=Classical.axiomOfChoice hex
       have A:(getOb h q).live=true:=by rw [P];rfl
       have J:(getOb h q).fz=false:=by rw [P];rfl
       have n: ∀b,ObjBuf shp pA b-> ∃k∈t,k≠q/\ ∃a base,mu k=some a/\a.loc=some (b,base):= λg hb=>by
        obtain ⟨j,sz,d,hs,hb⟩:=hb
        obtain ⟨u,p,oj,m,l,E,F,O,H⟩:=o j _ hs
        obtain ⟨k,hk,a,bs,Q,G⟩:=H sz rfl g d hb
        obtain ⟨p2,ap,m1,m2,m3⟩:=h3 j _ hs
        rw [l] at m1;cases m1
        rw [E] at m2;cases m2
        exact ⟨k,m3 k hk,λe=>C.1 (e▸m3 k hk),a,bs,Q,G⟩
       have z: ∀k∈t,∃sz y,getOb h k= .arr .rw sz y:= λk hk=>by
        obtain ⟨j,s,p,x,oj,m,l,E,F⟩:=h4 k hk
        obtain ⟨u,p2,ap,Q,G,k3,k4,k5,k6⟩:=o j s m
        rw [l] at G;cases G
        rw [E] at k3;cases k3
        exact k5 k F
       have f: ∀k∈t,(getOb h k).live=true/\(getOb h k).fz=false:= λk hk=>by
        obtain ⟨sz,y,M⟩:=z k hk
        rw [M];exact ⟨rfl,rfl⟩
       refine ⟨pl,pA,hm,⟨⟨b,base,c,T,hl,rfl,e2,by rw [<-h2];exact e3,λj s hs=> ?_⟩,λg d Y hb=> ?_,λj j' sz sz' g d D hs L hb X=> ?_,λg hb=> ?_⟩,h1,λk hk=> ?_,p3,λg hb=> ?_⟩
       ·obtain ⟨u,p,oj,m,l,E,F,_⟩:=o j s hs
        exact ⟨u,m,F⟩
       ·obtain ⟨k,hk,Z,a,bs,m,l⟩:=n g hb
        exact Z (i.inj k q a pl g bs d m hm l Y (f k hk).1 A)
       ·obtain ⟨u,p,oj,m,l,E,F,O,H⟩:=o j _ hs
        obtain ⟨u',p',ao,a8,S,U,a9,V,W⟩:=o j' _ L
        obtain ⟨k,hk,a,bs,Q,G⟩:=H sz rfl g d hb
        obtain ⟨k',I,N,R,al,am⟩:=W sz' rfl g D X
        obtain ⟨_,y,M⟩:=O k hk
        obtain ⟨_,y',ac⟩:=V k' I
        have:=i.inj k k' a N g bs R Q al G am (by rw [M];rfl) (by rw [ac];rfl)
        subst this
        exact h5 C.2 j j' _ _ p p' _ _ oj ao k hs l E L S U hk I
       ·rcases hb with ⟨d,hb⟩ | hb
        ·exact (i.own q pl g d hm hb).2.2 A J
        ·obtain ⟨k,hk,_,a,bs,m,l⟩:=n g hb
         exact (i.own k a g bs m l).2.2 (f k hk).1 (f k hk).2
       ·rcases p1.1 hk with rfl | hk
        ·rw [P];rfl
        ·obtain ⟨sz,y,M⟩:=z k hk
         rw [M];rfl
       ·obtain ⟨k,hk,h6⟩:=n g hb
        exact ⟨k,List.mem_cons_of_mem _ hk,h6⟩
    ·cases ht
   ·cases ht
  ·cases ht
 ·cases ht
theorem Zk {sz:Nat} {p:PV} {x:IV} {os:List Nat} (a:Hb h sz p=some (x,os)): ∀k∈os,isRw (getOb h k)=true:= λk hk=>by
 unfold Hb at a
 split at a
 ·split at a
  ·cases a;cases hk
  ·cases a
 ·split at a
  ·rename_i b
   split at a
   ·cases a;rw [e9.1 hk,b];rfl
   ·cases a
  ·cases a
 ·split at a
  ·rename_i b
   split at a
   ·cases a;rw [e9.1 hk,b];rfl
   ·cases a
  ·cases a
 ·cases a
theorem Cf {shp:List Sc} {p:PV} {vs:List IV} {os:List Nat} (ht:DH h shp p=some (vs,os)):(∀k∈os,isRw (getOb h k)=true)/\ ∃q,p= .ptr q 0/\q∈os:=by
 unfold DH at ht
 split at ht
 ·rename_i q
  split at ht
  ·rename_i cs e
   split at ht
   ·rename_i pp hp
    obtain ⟨vs',f⟩:=pp
    split at ht
    ·cases ht
     refine ⟨λk hk=> ?_,q,rfl,p3⟩
     rcases p1.1 hk with rfl | hk
     ·rw [e];rfl
     ·obtain ⟨_,_,_,d,_⟩:=HS hp
      obtain ⟨j,s,p,x,oj,g,i,a,b⟩:=d k hk
      unfold Ik at a
      split at a
      ·cases a;cases b
      ·cases a;cases b
      ·exact Zk a k b
      ·unfold Sy at a
       split at a
       ·split at a
        ·cases a;cases b
        ·cases a
       ·split at a
        ·rename_i c
         split at a
         ·cases a;rw [e9.1 b,c];rfl
         ·cases a
        ·cases a
       ·cases a
      ·split at a
       ·cases a;cases b
       ·cases a
      ·cases a
    ·cases ht
   ·cases ht
  ·cases ht
 ·cases ht
theorem P6 {ob:Ob} (h:isRw ob=true):ob.live=true/\ob.fz=false:=by
 cases ob with
 | dead=>cases h
 | box m cs=>cases m<;>first | exact ⟨rfl,rfl⟩ | cases h
 | arr m s x=>cases m<;>first | exact ⟨rfl,rfl⟩ | cases h
theorem agE {g:hd} {s:FSig} {x:eW} {xs:List eW} {shp:List Sc} (ao:(execOp a.eval o).run P w= .ok (.enter g ((x::xs).map a.eval).toArray) w) (T:s.mode= .obj shp) (hs:ay P g s) (i:Inv w0 ok0 w ok mu h) (J: ∀q,h.length<=q->mu q=none) (hf:Fr w ok mu fr a.tmps)
  {q j:Nat} (hx:ev fr x= .ptr q j) {p:List IV×List Nat} (ht:DH h shp (.ptr q j)=some p) {as:List (List IV)} (has:lX h (xs.map (ev fr))=some as) (aT:((xs.map (ev fr)).flatMap (iM h)).isEmpty=true) {r:List IV} (hr:s.fn (p.1::as)=some r):
  uj P w0 ok0 o a w ok mu (Dn s.res (r.drop shp.length)) ((kill h p.2++cy r shp 0).set q (.box .rw (cG q r shp h.length 0))):=by
 obtain ⟨vs,os⟩:=p
 have l:=kc i.q hf has
 rw [j1.1 aT] at l
 have O:cL w ok as (xs.map a.eval):=⟨l.1,λk c v h1 h2=>(l.2 k c v h1 h2).more λb hb=>by
  rcases hb with hb | ⟨q,hq,_⟩
  ·exact hb
  ·simp at hq⟩
 have rx:=hf.ev x
 rw [hx] at rx
 obtain ⟨pl,pA,hm,tv,hlen,a3,G,hA⟩:=xw i ht rx
 have y: ∀k∈os,(getOb h k).live=true/\(getOb h k).fz=false:= λk hk=>P6 (a3 k hk)
 have be:q < h.length:=l9 (y q G).1
 have H:=hs
 unfold ay at H
 rw [T] at H
 have U:(execOp a.eval o).run P w= .ok (.enter g (a.eval x::xs.map a.eval).toArray) w:=by rw [ao];simp
 have N: ∀b,ObjLoc shp pl pA b-> ∃k∈os,∃d base,mu k=some d/\d.loc=some (b,base):= λb hb=>by
  rcases hb with ⟨base,hb⟩ | hb
  ·exact ⟨q,G,pl,base,hm,hb⟩
  ·obtain ⟨k,hk,_,d,base,t,u⟩:=hA b hb
   exact ⟨k,hk,d,base,t,u⟩
 have V: ∀b,ObjLoc shp pl pA b->b < w.heap.size:= λb hb=>by
  obtain ⟨k,_,d,base,t,u⟩:=N b hb
  exact (i.own k d b base t u).2.1
 refine ix.enter U (hS (H.1 w ok as vs _ pl pA (xs.map a.eval) r i.okw hlen tv V O hr) λe w' he=> ?_)
 obtain ⟨v,ok',I,rfl,h1,h2,h3,hsz,M,L,Y,Z,A,E,am⟩:=he
 obtain ⟨i2,l2⟩:=i.lentout (os:=os) (ok':=ok') y h1 h2 h3 hsz M (λb hb a0=>L b hb λQ=>by
  obtain ⟨k,hk,d,base,t,u⟩:=N b Q
  exact a0 k hk d base t u) Y λb hb=>by
   rcases Z b hb with g | g | g
   ·exact .inl g
   ·exact .inr (.inl g)
   ·obtain ⟨k,hk,_,d,base,t,u⟩:=hA b g
    exact .inr (.inr ⟨k,hk,d,base,t,u⟩)
 have S:(kill h os).length=h.length:=fD _ _
 have n: ∀k,(kill h os).length<=k->mu k=none:= λk hk=>J k (by rwa [S] at hk)
 have C: ∀k b base z,mu k=some z->z.loc=some (b,base)->ObjLoc shp pl I b->(getOb (kill h os) k).live=false:= λk b base z m D a2=>by
  cases hc:(getOb (kill h os) k).live with
  | false=>rfl
  | true=>
    rw [nC] at hc
    split at hc
    ·cases hc
    ·rename_i a1
     exfalso
     have key: ∀k',k'∈os-> ∀d f,mu k'=some d->d.loc=some (b,f)->False:= λk' K d f t u=>
      a1 (i.inj k k' z d b base f m t D u hc (y k' K).1▸K)
     rcases a2 with ⟨base',g⟩ | g
     ·exact key q G pl base' hm g
     ·rcases E b g with g | g
      ·have:=(i.own k z b base m D).2.1;omega
      ·obtain ⟨k',K,_,d,f,t,u⟩:=hA b g
       exact key k' K d f t u
 have ab: ∀b,ObjBuf shp I b->Own0 w0 ok0 b/\b < w'.heap.size:= λb hb=>by
  rcases E b hb with g | g
  ·exact ⟨.inl (e7 i.below.size g.1),g.2⟩
  ·obtain ⟨k,_,_,d,f,t,u⟩:=hA b g
   exact ⟨(i.own k d b f t u).1,dq (V b (.inr g)) hsz⟩
 have aB:=lO r shp 0
 have al: ∀j,j < shp.length->nth r (0+j)=nth r j:= λj _=>by rw [g6]
 obtain ⟨i3,f3,l3⟩:=i2.addMany n (news:=cy r shp 0) (muN:=W7 shp I) (λj p hj F=>A.arrsOk al F) (λj p b base hj F hb=>by
  obtain ⟨rfl,sz,hs⟩:=ga F
  have R:ObjBuf shp I b:=⟨j,sz,base,hs,hb⟩
  obtain ⟨t,u⟩:=ab b R
  exact ⟨t,u,A.free b (.inr R),λo p' base' k1 k2=>C o b base' p' k1 k2 (.inr R)⟩) λj j' p p' b base base' hj a8 F X hb Q=>by
   obtain ⟨rfl,sz,hs⟩:=ga F
   obtain ⟨rfl,sz',a4⟩:=ga X
   exact A.two j j' sz sz' b base base' hs a4 hb Q
 have ac:oO (kill h os).length (cy r shp 0).length (W7 shp I) mu q=some pl:=by
  unfold oO
  rw [if_neg (by omega)];exact hm
 have i4:=i3.revive (o:=q) (pl:=pl) ac (by simp [S];omega) (ob:= .box .rw (cG q r shp h.length 0)) (A.boxOk al ac λj sz hs=>by
  have hj:=(b0.1 hs).1
  unfold oO
  rw [S,aB,if_pos (by omega),fa]
  unfold W7
  rw [hs]) (λb base hb=>A.free b (.inl ⟨base,hb⟩)) λb base k z base' a9 m hb D=>by
  unfold oO at m
  split at m
  ·rename_i e
   obtain ⟨rfl,sz,hs⟩:=ga m
   exact absurd ⟨_,sz,base',hs,D⟩ (A.apart b base hb)
  ·rename_i e
   have W:k < (kill h os).length:=by
    rcases jb k (kill h os).length with g | g
    ·exact g
    ·rw [n k g] at m;cases m
   rw [aE,if_pos W]
   exact C k b base' z m D (.inl ⟨base,hb⟩)
 refine ⟨v,rfl,ok',_,l2.trans l3,i4,B7 am,λk hk=>f3 k (by simpa using hk)⟩
theorem agx {g:hd} {s:FSig} {xs:List eW} {shp:List Sc} (D:(execOp a.eval o).run P w= .ok (.enter g (xs.map a.eval).toArray) w) (t:s.mode= .mko shp) (hs:ay P g s) (i0:Inv w0 ok0 w ok mu h) (d: ∀q,h.length<=q->mu q=none) (hf:Fr w ok mu fr a.tmps)
  {as:List (List IV)} {h1:List Ob} (has:lX h (xs.map (ev fr))=some as) (u:wh h ((xs.map (ev fr)).flatMap (iM h))=some h1) {r:List IV} (hr:s.fn as=some r):
  uj P w0 ok0 o a w ok mu (.ptr (h1.length+shp.length) 0) (h1++(cy r shp 0++[.box .rw (cG (h1.length+shp.length) r shp h1.length 0)])):=by
 have p:=kc i0.q hf has
 have i:=i0.freeze d u
 have L:h1.length=h.length:=(fp u).len
 have l: ∀q,h1.length<=q->mu q=none:= λq V=>d q (by omega)
 have O:Later w ok mu w (jG ok mu ((xs.map (ev fr)).flatMap (iM h))) mu:=⟨⟨λ_ _=>rfl,λ_ h=> .inl h⟩,λ_ _ h=>h,.refl _⟩
 generalize jG ok mu ((xs.map (ev fr)).flatMap (iM h))=G at*
 have f:=hs
 unfold ay at f
 rw [t] at f
 refine ix.enter D (hS (f w G as (xs.map a.eval) r i.okw p hr) λe w' he=> ?_)
 obtain ⟨v,ok',pl,pA,rfl,hb,A,C,H,x⟩:=he
 have m:Sizes w w':= λb c T z hc=>⟨c,z,by rw [hb.block b (fl.1 hc).1];exact hc,rfl⟩
 obtain ⟨i2,Q⟩:=i.lentout (os:=[]) (ok':=ok') (by simp) hb.os hb.tape hb.output hb.size m (λb F _=>hb.block b F) A λb hb=>by
  rcases C b hb with g | g
  ·exact .inl g
  ·exact .inr (.inl g)
 simp only [kill] at i2
 have y: ∀k b base n,mu k=some n->n.loc=some (b,base)->b < w.heap.size:= λk b base n h1 h2=>(i.own k n b base h1 h2).2.1
 obtain ⟨mu',i3,I,R,S,_⟩:=i2.addObj l (r:=r) (i0:=0) H (λj _=>by rw [g6]) λb E=>by
  obtain ⟨J,K⟩:=x b E
  exact ⟨.inl (e7 i.below.size J),K,λo U base' M N=>absurd (y o b base' U M N) (by omega)⟩
 obtain ⟨b,base,c,T,hl,hv,_⟩:=H.box
 refine ⟨v,rfl,ok',mu',(O.trans Q).trans R,i3,?_,I⟩
 rw [hv]
 exact .ptr (h1.length+shp.length) 0 pl b base S hl
end
end Go.AM
namespace Go.AM
open Go.RowKit
section
variable {P:ha} {w0:eg} {ok0:O0} {o:r3} {a:Act} {w:eg} {ok:Nat->Prop} {mu:Mu} {h:List Ob} {fr:List PV}
theorem CG {t:c9} (h:B1 P t=true):P.plainKey t=true:=by
 unfold B1 at h
 unfold Program.plainKey
 split at h<;>simp_all
theorem aaf (d:Nat) {t:c9} (ht:B1 P t=true) {x y:IV} {u v:c5} (hx:RV w ok x u) (a:RV w ok y v) {b:Bool} (hb:WX (S1 P t) x y=some b):
  (Op.equalIn (d+1) t u v).run P w= .ok b w:=by
 unfold B1 at ht
 unfold S1 at hb
 split at ht
 ·rename_i hu
  simp only [hu] at hb
  cases x<;>cases y<;>simp only [WX,reduceCtorEq] at hb
  cases hx;cases a;cases hb
  exact Go.run_equalIn_bool w d t _ _ hu
 ·rename_i c hu
  simp only [hu] at hb
  cases x<;>cases y<;>simp only [WX,reduceCtorEq] at hb
  split at hb
  ·cases hx;cases a;cases hb
   subst_vars
   exact Go.run_equalIn_int w d t _ _ _ _ hu
  ·cases hb
 ·rename_i hu
  simp only [hu] at hb
  cases x<;>cases y<;>simp only [WX,reduceCtorEq] at hb
  cases hx;cases a;cases hb
  rw [beq_toListBytes]
  exact Go.run_equalIn_string w d t _ _ hu
 ·cases ht
theorem E9 (d:Nat) (us vs:Array c5): ∀(e:List Field) (k:Nat) (xs ys:List IV) (b:Bool),(∀f∈e,(f.name != "_")=true/\B1 P f.type=true)->e.map (·.offset)=sc k e.length->
  (∀(i:Nat) (x:IV),xs[i]? =some x-> ∃u:c5,us[k+i]? =some u/\RV w ok x u)->(∀(i:Nat) (x:IV),ys[i]? =some x-> ∃u:c5,vs[k+i]? =some u/\RV w ok x u)->
  KX (e.map λf=>S1 P f.type) xs ys=some b->(Op.eqFields (d+1) us vs e).run P w= .ok b w
 | [],k,xs,ys,b,_,_,_,_,hb=>by
   cases xs<;>cases ys<;>simp [KX] at hb
   subst hb
   simp [Op.eqFields]
 | f::e,k,xs,ys,b,c,a,hx,l,hb=>by
   cases xs with
   | nil=>simp [KX] at hb
   | cons x xs=>
     cases ys with
     | nil=>simp [KX] at hb
     | cons y ys=>
       simp only [hU,KX] at hb
       obtain ⟨m,h1,hb⟩:=bd.1 hb
       obtain ⟨b2,h2,hb⟩:=bd.1 hb
       cases hb
       obtain ⟨hn,hs⟩:=c f (by simp)
       simp only [hU,hR,q8,ic] at a
       obtain ⟨j,a⟩:=a
       obtain ⟨u,hu,s⟩:=hx 0 x rfl
       obtain ⟨v,hv,rv⟩:=l 0 y rfl
       have hp:=CG hs
       have n:=run_part_plain w hp (xs:=us) (off:=f.offset) (v:=u) (by rw [j];exact hu)
       have o:=run_part_plain w hp (xs:=vs) (off:=f.offset) (v:=v) (by rw [j];exact hv)
       have p:=aaf d hs s rv h1
       have q:=E9 d us vs e (k+1) xs ys b2 (λg r=>c g (by simp [r])) a
        (λi z hz=>by have:=hx (i+1) z (by simpa using hz);rwa [show k+(i+1)=k+1+i by omega] at this)
        (λi z hz=>by have:=l (i+1) z (by simpa using hz);rwa [show k+(i+1)=k+1+i by omega] at this) h2
       have h:f.name≠ "_" :=by simpa using hn
       simp only [Op.eqFields,if_pos h,fc,n,o,p,e8]
       cases m
       ·simp
       ·simpa using q
theorem ag8 {op:BinOp} {t t':c9} {x y:eW} (hop:o.op= .binOp op t x y t') (hf:XN P t=true) (rx:RP w ok mu (ev fr x) (a.eval x)) (F:RP w ok mu (ev fr y) (a.eval y)) {as bs:List PV} (hx:ev fr x= .agg as) (K:ev fr y= .agg bs)
  {us vs:List IV} (hu:PX as=some us) (hv:PX bs=some vs) {z:IV} (hz:Vx op (Kk P t) us vs=some z):aI P o a w ok mu h (.imm z) h:=by
 rw [hx] at rx;rw [K] at F
 have he:execOp a.eval o=(do pure (hJ (<-do eqGuard op t x y (a.eval x) (a.eval y);binOp op t (a.eval x) (a.eval y)))):=by simp [execOp,hop]
 generalize a.eval x=p at*
 generalize a.eval y=q at*
 unfold XN at hf
 split at hf
 ·rename_i C c
  simp only [j2,iz,beq_iff_eq] at hf
  obtain ⟨⟨⟨A,m⟩,d⟩,j⟩:=hf
  cases rx with
  | agg as ps hl hr=>
    cases F with
    | agg bs k n s=>
      have e:P.fieldsOf t=C:=by simp [Program.fieldsOf,c]
      have cell: ∀{cs:List PV} {l:List IV} {rs:Array c5},PX cs=some l->cs.length=rs.size->(∀(i:Nat) (p:PV) (v:c5),cs[i]? =some p->rs[i]? =some v->RP w ok mu p v)-> ∀(i:Nat) (x:IV),l[i]? =some x-> ∃u:c5,rs[0+i]? =some u/\RV w ok x u:=by
       intro cs l rs h1 h2 G i x hx
       obtain ⟨H,I⟩:=Mb h1
       have hi:i < cs.length:=by have:=(b0.1 hx).1;rw [H] at this;exact this
       obtain ⟨L,D,J⟩:=I i cs[i] (b6 hi)
       rw [hx] at D;cases D
       have g:i < rs.size:=by rw [<-h2];exact hi
       refine ⟨rs[i],by rw [g6];exact hE g,?_⟩
       have:=G i cs[i] rs[i] (b6 hi) (hE g)
       rw [J] at this
       cases this with | imm r=>exact r
      have key: ∀b,KX (Kk P t) us vs=some b->(Op.equalIn 10000 t (.agg ps) (.agg k)).run P w= .ok b w:=by
       intro b hb
       rw [run_equalIn_struct w 9999 t ps k (by rw [e];exact c) A,e]
       refine E9 9998 ps k C.toList 0 us vs b (λf hf=> ?_) (by rw [j,o3];simp) (cell hu hl hr) (cell hv n s) (by simpa [Kk,c] using hb)
       have:=Array.all_eq_true_iff_forall_mem.1 d f (by simpa using hf)
       simpa using this
      have E:=run_eqGuard_agg w op t x y ps k m
      unfold Vx at hz
      split at hz
      ·obtain ⟨b,hb,rfl⟩:=e5.1 hz
       refine aI.value ?_ (.imm (.bool _))
       rw [he]
       simp [fc,E,fv,run_eql_struct,key b hb]
      ·obtain ⟨b,hb,rfl⟩:=e5.1 hz
       refine aI.value ?_ (.imm (.bool _))
       rw [he]
       simp [fc,E,fv,run_neq_struct,key b hb]
      ·cases hz
 ·cases hf
theorem afq {s d e:c9} {x:eW} (hop:o.op= .convert s d x) (hs:P.underlying s=some .string) (m:P.underlying d=some (.slice e)) (he:P.underlying e=some (.int .u8)) (n:InvQ w ok mu h) {u z:IV} (hx:ev fr x= .imm u) (rx:RP w ok mu (ev fr x) (a.eval x)) (hz:Wq u=some z):
  aI P o a w ok mu h (.imm z) h:=by
 rw [hx] at rx
 cases rx with
 | imm rx=>
   have hex:execOp a.eval o=(do pure (hJ (<-convert s d (a.eval x)))):=by simp [execOp,hop]
   generalize a.eval x=q at*
   unfold Wq at hz
   split at hz
   ·rename_i str
    cases hz
    cases rx
    have g:=Lib.run_convert_string_bytes (P:=P) w s d e str hs m he
    refine ⟨[],[],h,rfl,by simp,?_⟩
    refine ix.value (w':=h9 w e str) (by rw [hex];exact gx g) ?_
    have l:=Lib.bytesWorld_size w e str
    have f:Below w.heap.size w (h9 w e str):=
     ⟨by simp [h9,World.freeze,World.alloc,World.drew,-World.alloc_eq,-World.drew_eq],by simp [h9,World.freeze,World.alloc,World.drew,-World.alloc_eq,-World.drew_eq],by simp [h9,World.freeze,World.alloc,World.drew,-World.alloc_eq,-World.drew_eq],by omega,λk hk=>Lib.bytesWorld_at_old w e str k hk⟩
    refine ⟨λb=>ok b\/b=w.heap.size,mu,f,λb hb=> .inl hb,λb hb=> ?_,λ_ _=>rfl,.inl ⟨rfl,rfl⟩,?_⟩
    ·rcases hb with hb | hb
     ·exact .inl hb
     ·exact .inr (.inl (by omega))
    ·have hlen:(str.data.toList.map λb=>[IV.int .u8 b.toNat]).length=str.size:=by simp
     have key:RV (h9 w e str) (λb=>ok b\/b=w.heap.size) (.lst (str.data.toList.map λb=>[IV.int .u8 b.toNat])) (.slice (some ⟨w.heap.size,0,none⟩) (str.data.toList.map λb=>[IV.int .u8 b.toNat]).length (grownCap w str.size 0 e)):=by
      refine .lst _ _ _ 1 (λi j=> .int .u8 (str.data.toList.getD i 0).toNat) (by rw [hlen];exact grownCap_ge w _ _ _) (λc hc=> ?_) (λi j hi hj=> ?_) (λi j c x h1 h2=> ?_)
      ·obtain ⟨b,_,rfl⟩:=n3.1 hc;rfl
      ·rw [hlen] at hi
       refine ⟨_,rfl,.inr rfl,?_⟩
       have:j=0:=by omega
       subst this
       rw [dI]
       simpa using Lib.bytesWorld_cell w e str i hi
      ·rw [hH] at h1
       cases hb:str.data.toList[i]? with
       | none=>rw [hb] at h1;cases h1
       | some b=>
         rw [hb] at h1
         cases h1
         cases j with
         | zero=>
           cases h2
           simp only [c7,hb,Option.getD_some]
           exact .int _ _
         | succ j=>simp at h2
     rw [hlen] at key
     exact .imm key
   ·cases hz
end
end Go.AM
namespace Go.AM
open Go.RowKit
structure Turned (w w':eg) (b:Nat):Prop where
 os:w'.os=w.os
 tape:w'.tape=w.tape
 output:w'.output=w.output
 size:w'.heap.size=w.heap.size
 other: ∀b',b'≠b->w'.heap[b']? =w.heap[b']?
 sizes:Sizes w w'
section
variable {w0:eg} {ok0:O0} {w w':eg} {ok:Nat->Prop} {mu:Mu} {h:List Ob} {b:Nat}
theorem Turned.below (r:Turned w w' b) (i:BelowM ok0.lent w0.heap.size w0 w) (hb:Own0 w0 ok0 b):BelowM ok0.lent w0.heap.size w0 w':=
 ⟨r.os.trans i.os,r.tape.trans i.tape,r.output.trans i.output,by rw [r.size];exact i.size,λk hk hm=>(r.other k (hb.ne hk hm)).trans (i.block k hk hm)⟩
theorem Turned.later (r:Turned w w' b) (hok: ¬ok b) {mu':Mu} (hm: ∀o pl,mu o=some pl->mu' o=some pl):Later w ok mu w' ok mu':=
 ⟨⟨λb' a=>r.other b' (λe=>hok (e▸a)),λ_ h=>h⟩,hm,r.sizes⟩
theorem Inv.turn (i:Inv w0 ok0 w ok mu h) (k: ∀q,h.length<=q->mu q=none) {o:Nat} {pl:Pl} {base:Nat} (hm:mu o=some pl) (hl:pl.loc=some (b,base)) (a:(getOb h o).live=true) (n:(getOb h o).fz=false) (r:Turned w w' b)
  {ob:Ob} (z:ObOk w' ok mu pl ob) (u:ob.live=true):Inv w0 ok0 w' ok mu (h.set o ob)/\Later w ok mu w' ok mu/\ ∀q,(h.set o ob).length<=q->mu q=none:=by
 obtain ⟨x,L,p⟩:=i.own o pl b base hm hl
 have hok:=p a n
 have A:o < h.length:=l9 a
 have c:=r.later (mu:=mu) (mu':=mu) hok (λ_ _ h=>h)
 refine ⟨⟨r.below i.below x,λb' hb=>by rw [r.size];exact i.okw b' hb,i.okb,λq f d=> ?_,λq f b' base' d j=> ?_,λq D f t b' bs v h1 h2 H I J K=> ?_⟩,c,λq s=>k q (by simpa using s)⟩
 ·rw [bz]
  split
  ·rename_i e;obtain ⟨rfl,_⟩:=e;rw [hm] at d;cases d;exact z
  ·rename_i e
   by_cases j:(getOb h q).live=true
   ·refine (i.ob q f d).later c λb' base' y=>r.other b' λE=> ?_
    subst E
    have:=i.inj q o f pl b' base' base d hm y hl j a
    exact e ⟨this.symm,A⟩
   ·have:getOb h q= .dead:=by cases M:getOb h q<;>rw [M] at j<;>first | rfl | exact absurd rfl j
    rw [this];trivial
 ·obtain ⟨F,G,C⟩:=i.own q f b' base' d j
  refine ⟨F,by rw [r.size];exact G,λl m=> ?_⟩
  rw [bz] at l m
  split at l
  ·rename_i e;obtain ⟨rfl,_⟩:=e;exact C a n
  ·rename_i e;rw [if_neg e] at m;exact C l m
 ·have g: ∀q,(getOb (h.set o ob) q).live=true->(getOb h q).live=true:= λq s=>by
   rw [bz] at s
   split at s
   ·rename_i e;obtain ⟨rfl,_⟩:=e;exact a
   ·exact s
  exact i.inj q D f t b' bs v h1 h2 H I (g q J) (g D K)
end
theorem Ya {P:ha} {t:c9} {q:Kt} {k:IV} (h:ac0 P t=some q) (hk:KG q k=true):Q2 P t k=true:=by
 unfold ac0 at h
 unfold Q2
 split at h<;>cases h
 all_goals rename_i e;rw [e]
 all_goals cases k<;>first | exact hk | (simp [KG] at hk) | rfl
theorem MS {P:ha} {t:c9} {k:IV} {v:c5} {w:eg} {ok:Nat->Prop} (h:Q2 P t k=true) (r:RV w ok k v): ∃d,P.underlying t=some d/\g5 d v:=by
 unfold Q2 at h
 split at h
 ·rename_i q b n a;cases r;exact ⟨_,a,by have:=of_decide_eq_true h;subst this;exact (by simp [g5])⟩
 ·rename_i a;cases r;exact ⟨_,a,by simp [g5]⟩
 ·rename_i a;cases r;exact ⟨_,a,by simp [g5]⟩
 ·cases h
theorem aci {d:TypeDesc} {k k':IV} {v v':c5} {w:eg} {ok:Nat->Prop} (a:g5 d v) (r:RV w ok k v) (r':RV w ok k' v') {b:Bool} (h:IT k k'=some b):hV d v v'=some b:=by
 unfold IT at h
 split at h
 ·cases r;cases r'
  cases d<;>simp_all [g5,hV]
 ·cases r;cases r'
  cases d<;>simp_all [g5,hV]
 ·cases r;cases r'
  cases d<;>simp_all [g5,hV]
 ·cases h
theorem ZF {d:TypeDesc} {v v':c5} (b:g5 d v) (h:hV d v v'=some true) (n:Nat):l1 n v' v=true:=by
 unfold hV at h
 split at h
 ·split at h
  ·rename_i e
   simp only [c6,beq_iff_eq] at h
   subst e;subst h
   cases n<;>simp [l1]
  ·cases h
 ·have a:=(q2 _ _).1 (by simpa using h)
  subst a
  cases n<;>simp [l1,q2]
 ·simp only [c6,beq_iff_eq] at h
  subst h
  cases n<;>simp [l1]
 ·cases h
theorem find_spec {d:TypeDesc} {k:IV} {a:c5} {w:eg} {ok:Nat->Prop} (m:g5 d a) (rk:RV w ok k a): ∀(es:List (List IV)) (me:List qs) (i:Nat) (r:Option (Nat×IV)),es.length=me.length->
  (∀(n j:Nat) (e:List IV) (c:IV) (x:qs),es[n]? =some e->e[j]? =some c->me[n]? =some x->RV w ok c (if j=0 then x.key else x.val))->vG k es i=some r->
  match r with
  | none=>hW d a me i=some none
  | some (n,v)=> ∃x:qs,i<=n/\me[n - i]? =some x/\hW d a me i=some (some (n,x.val))/\RV w ok v x.val/\hV d a x.key=some true
 | [],[],i,r,_,_,h=>by simp only [vG,c6] at h;subst h;rfl
 | [],_::_,i,r,hl,_,_=>by simp at hl
 | _::_,[],i,r,hl,_,_=>by simp at hl
 | e::es,x::me,i,r,hl,hr,h=>by
   match e,h with
   | [k',v],h=>
     simp only [vG] at h
     have h1:RV w ok k' x.key:=hr 0 0 _ k' x rfl rfl rfl
     have h2:RV w ok v x.val:=hr 0 1 _ v x rfl rfl rfl
     cases hs:IT k k' with
     | none=>rw [hs] at h;cases h
     | some b=>
       rw [hs] at h
       have hn:=aci m rk h1 hs
       cases b with
       | true=>
         simp only [c6] at h
         subst h
         exact ⟨x,ck _,by simp,by simp [hW,hn],h2,hn⟩
       | false=>
         simp only at h
         have ih:=find_spec m rk es me (i+1) r (by simpa using hl) (λn j e c y l f g=>hr (n+1) j e c y (by simpa using l) f (by simpa using g)) h
         cases r with
         | none=>simp only at ih ⊢;simp [hW,hn,ih]
         | some p=>
           obtain ⟨n,u⟩:=p
           obtain ⟨y,l,f,g,o,q⟩:=ih
           refine ⟨y,by omega,?_,by simp [hW,hn,g],o,q⟩
           rw [show n - i=(n - (i+1))+1 by omega]
           simpa using f
section
variable {P:ha} {w0:eg} {ok0:O0} {o:r3} {a:Act} {w:eg} {ok:Nat->Prop} {mu:Mu} {h:List Ob} {fr:List PV}
theorem VE {t:c9} (h:HD P t=true): ∃k e,P.underlying t=some (.map k e):=by
 unfold HD at h
 split at h
 ·exact ⟨_,_,‹_›⟩
 ·cases h
theorem ZA {t:c9} (hop:o.op= .makeMap t none) (k:InvQ w ok mu h) (hn:mu h.length=none):aI P o a w ok mu h (.mp h.length) (h++[.arr .rw 0 (.map [])]):=by
 refine ⟨[.arr .rw 0 (.map [])],[],h,rfl,rfl,?_⟩
 have d:(execOp a.eval o).run P w= .ok (.value (.map (some w.heap.size))) (w.alloc (.map #[] 0)):=by
  have he:execOp a.eval o=(do pure (hJ (<-Instr.makeMap t none))):=by simp [execOp,hop]
  rw [he]
  exact gx (run_makeMap t w)
 refine ix.value d ⟨ok,λq=>if q=h.length then some ⟨some (w.heap.size,0),0,0⟩ else mu q,(Below.refl _ _).alloc (ck _) _,λ_ hb=>hb,λ_ hb=> .inl hb,λq g=>by simp [g],.inr ⟨_,⟨some (w.heap.size,0),0,0⟩,rfl,by simp,rfl,?_,λb base hb=> ?_⟩,
  .mp _ ⟨some (w.heap.size,0),0,0⟩ w.heap.size (by simp) rfl rfl⟩
 ·exact .inr ⟨rfl,[],w.heap.size,rfl,rfl,#[],0,gq w _,rfl,by simp,λi j e c x f _ _=>by simp at f⟩
 ·cases hb
  exact ⟨ck _,by show w.heap.size < (w.heap.push _).size;simp,λhb=>by have:=k.okw _ hb;omega⟩
theorem UL {t:c9} (hop:o.op= .buildSlice t 0 #[]) {e:c9} (hu:P.underlying t=some (.slice e)) (g:InvQ w ok mu h) (b:0 < P.cellsOf e):aI P o a w ok mu h .nils h:=by
 obtain ⟨f,d⟩:=ek.1 (kn b)
 have hex:execOp a.eval o=(do pure (hJ (<-hB t 0 #[]))):=by simp [execOp,hop]
 have c:(hB t 0 #[]).run P w= .ok (.slice (some ⟨w.heap.size,0,none⟩) 0 0) (w.alloc (.cells #[] e)):=by
  simp [hB,run_underlying hu,run_sizeOf w d,o1,newRow,fc,fv,pure,Sem.run]
  congr 2
  apply hO
  simp
 exact ⟨[],[],h,rfl,by simp,ix.value (by rw [hex];exact gx c) ⟨ok,mu,(Below.refl _ _).alloc (ck _) _,λ_ hb=>hb,λ_ hb=> .inl hb,λ_ _=>rfl,.inl ⟨rfl,rfl⟩,.nils _⟩⟩
theorem Yh (e:InvQ w ok mu h) {p:PV} {v:c5} (r:RP w ok mu p v) {es:List (List IV)} (hs:A5 h p=some (.map es)): ∃b,v= .map (some b)/\Ic w ok b es:=by
 cases p with
 | imm x=>
   simp only [A5,c6] at hs
   subst hs
   cases r with
   | imm r=>cases r with | map es b me clock hok hb hlen h2 hrel=>exact ⟨b,rfl,me,clock,hb,hlen,h2,hrel⟩
 | mp q=>
   simp only [A5] at hs
   cases r with
   | mp q pl b hm hl hz=>
     split at hs
     ·rename_i md sz x d
      cases hs
      have a:=e.ob q pl hm
      rw [d] at a
      obtain ⟨_,c,h1,h2⟩:=a.mapZ hz hl
      cases h1
      exact ⟨b,rfl,h2⟩
     ·cases hs
 | _=>simp [A5] at hs
theorem Y0 {x k z:IV} {r:List IV} (h:LC x k z=some r): ∃es f,x= .map es/\vG k es 0=some f/\r=(match f with | some (_,v)=>[v,.bool true] | none=>[z,.bool false]):=by
 unfold LC at h
 split at h
 ·obtain ⟨f,h1,h2⟩:=e5.1 h
  exact ⟨_,f,rfl,h1,h2.symm⟩
 ·cases h
theorem ZY {t:c9} {z:IV} (h:YL P t=some z) (w:eg) (ok:Nat->Prop): ∃v,(zeroValue t).run P w= .ok v w/\RV w ok z v:=by
 unfold YL at h
 split at h
 ·rename_i v hv
  split at h
  ·rename_i x hx
   cases h
   unfold m7 at hv
   obtain ⟨i,h1,h2⟩:=bd.1 hv
   refine ⟨v,by simp [zeroValue,run_typeInfo w h1,h2,fv],?_⟩
   have:=RP.mB w ok (λ_=>none) v
   rw [hx] at this
   cases this with | imm r=>exact r
  ·cases h
 ·cases h
theorem aaI {t:c9} {m x:eW} {c:Bool} (hop:o.op= .lookup t m x c) {H G:c9} (ht:P.underlying t=some (.map H G)) (N:InvQ w ok mu h) (hf:Fr w ok mu fr a.tmps) {y key z:IV} (M:A5 h (ev fr m)=some y) (hx:ev fr x= .imm key) (hk:Q2 P H key=true) (hz:YL P G=some z) {r:List IV} (hr:LC y key z=some r):
  aI P o a w ok mu h (if c then .tup [.imm (nth r 0),.imm (nth r 1)] else .imm (nth r 0)) h:=by
 obtain ⟨es,f,rfl,A,rfl⟩:=Y0 hr
 obtain ⟨b,hm,me,clock,hb,hlen,h2,hrel⟩:=Yh N (hf.ev m) M
 have rx:=hf.ev x
 rw [hx] at rx
 cases rx with
 | imm rx=>
   obtain ⟨d,s,l⟩:=MS hk rx
   obtain ⟨F,D,E⟩:=ZY hz w ok
   have hs:=find_spec l rx es me.toList 0 f (by simpa using hlen) (λn j e c x g k I=>hrel n j e c x g k (by simpa using I)) A
   have he:execOp a.eval o=(do pure (hJ (<-q5 t (a.eval m) (a.eval x) c))):=by simp [execOp,hop]
   have fin: ∀(v:c5) (u:c5) (q:Bool),RV w ok (nth (match f with | some (_,v)=>[v,.bool true] | none=>[z,.bool false]) 0) v->u= .bool q->RV w ok (nth (match f with | some (_,v)=>[v,.bool true] | none=>[z,.bool false]) 1) u->
     RP w ok mu (if c then .tup [.imm (nth (match f with | some (_,v)=>[v,.bool true] | none=>[z,.bool false]) 0),.imm (nth (match f with | some (_,v)=>[v,.bool true] | none=>[z,.bool false]) 1)] else .imm (nth (match f with | some (_,v)=>[v,.bool true] | none=>[z,.bool false]) 0)) (if c then .tuple #[v,u] else v):=by
    intro v u q h1 _ J
    cases c with
    | false=>exact .imm h1
    | true=>
      refine .tup _ _ rfl λi p v' g k=> ?_
      match i,g,k with
      | 0,g,k=>simp at g k;subst g;subst k;exact .imm h1
      | 1,g,k=>simp at g k;subst g;subst k;exact .imm J
      | i+2,g,k=>simp at g
   cases f with
   | none=>
     have C:hW d (a.eval x) me.toList 0=some none:=hs
     refine aI.val he (v:=if c then .tuple #[F,.bool false] else F) ?_ (fin F (.bool false) false E rfl (.bool false))
     rw [hm]
     simp [q5,run_underlying ht,ho hb,hZ s l,ib s C,D,fv]
   | some p=>
     obtain ⟨n,v⟩:=p
     obtain ⟨e0,_,_,K,L,_⟩:=hs
     refine aI.val he (v:=if c then .tuple #[e0.val,.bool true] else e0.val) ?_ (fin e0.val (.bool true) true L rfl (.bool true))
     rw [hm]
     simp [q5,run_underlying ht,ho hb,hZ s l,ib s K,fv]
theorem VU {c:r4} (hop:o.op= .call c) (hc:c.callee= .builtin .len) {x:eW} (d:c.args= #[x]) (g:(c.argTypes[0]?).isSome=true) (ht:HD P (c.argTypes.getD 0 0)=true) (n:InvQ w ok mu h) (hf:Fr w ok mu fr a.tmps) {y z:IV} (m:A5 h (ev fr x)=some y) (hz:C6 y=some z):
  aI P o a w ok mu h (.imm z) h:=by
 obtain ⟨k,e,hu⟩:=VE ht
 unfold C6 at hz
 split at hz
 ·rename_i es
  cases hz
  obtain ⟨b,hm,me,clock,hb,hlen,_⟩:=Yh n (hf.ev x) m
  obtain ⟨t0,h0⟩:=ek.1 g
  have i:c.argTypes.getD 0 0=t0:=by simp [Array.getD_eq_getD_getElem?,h0]
  rw [i] at hu
  have f:(q6 c.argTypes o.type #[.map (some b)]).run P w= .ok (.int .i64 es.length) w:=by
   have l:0 < c.argTypes.size:=(fl.1 h0).1
   have j:c.argTypes[0]! =t0:=by rw [getElem!_def,h0]
   simp [q6,h0,run_underlying hu,ho hb,fv,goInt,hlen]
  have he:execOp a.eval o=(do pure (hJ (<-q6 c.argTypes o.type #[a.eval x]))):=p6 hop hc λconsts=>by simp [builtin,d]
  exact aI.val he (by rw [hm];exact f) (.imm (.int _ _))
 ·cases hz
theorem Zq {x k v z:IV} (h:Iy x k v=some z): ∃es f,x= .map es/\vG k es 0=some f/\z= .map (match f with | some (i,_)=>es.set i [k,v] | none=>es++[[k,v]]):=by
 unfold Iy at h
 split at h
 ·obtain ⟨f,h1,h2⟩:=bd.1 h
  refine ⟨_,f,rfl,h1,?_⟩
  cases f<;>simp at h2<;>rw [<-h2]
 ·cases h
theorem UR {k v c:IV} {j:Nat} (h:[k,v][j]? =some c):(j=0/\c=k)\/(j=1/\c=v):=by
 match j,h with
 | 0,h=>simp at h;exact .inl ⟨rfl,h.symm⟩
 | 1,h=>simp at h;exact .inr ⟨rfl,h.symm⟩
 | j+2,h=>simp at h
theorem WS {b:Nat} {me:Array qs} {clock:Nat} (hb:w.heap[b]? =some (.map me clock)) (o':Obj):Turned w { w with heap:=w.heap.setIfInBounds b o' } b:=by
 obtain ⟨h1,h2⟩:=q9 (o':=o') hb
 refine ⟨rfl,rfl,rfl,by simp,h2,λb' c T z hc=>⟨c,z,?_,rfl⟩⟩
 by_cases e:b'=b
 ·subst e;rw [hb] at hc;cases hc
 ·exact (h2 b' e).trans hc
theorem Ue {t:c9} {m x v:eW} (hop:o.op= .mapUpdate t m x v) {Z et:c9} (ht:P.underlying t=some (.map Z et)) (i:Inv w0 ok0 w ok mu h) (D: ∀q,h.length<=q->mu q=none) (hf:Fr w ok mu fr a.tmps)
  {q:Nat} (hm:ev fr m= .mp q) {sz:Nat} {y:IV} (U:getOb h q= .arr .rw sz y) {key val z:IV} (hx:ev fr x= .imm key) (hv:ev fr v= .imm val) (hk:Q2 P Z key=true) (hz:Iy y key val=some z):
  uj P w0 ok0 o a w ok mu .skip (h.set q (.arr .rw sz z)):=by
 obtain ⟨es,f,rfl,T,rfl⟩:=Zq hz
 have rm:=hf.ev m
 rw [hm] at rm
 have rx:=hf.ev x
 rw [hx] at rx
 have rv:=hf.ev v
 rw [hv] at rv
 have he:execOp a.eval o=(do k0 t (a.eval m) (a.eval x) (a.eval v);pure r5):=by simp [execOp,hop]
 generalize a.eval m=vm at*
 generalize a.eval x=Q at*
 generalize a.eval v=Y at*
 cases rm with
 | mp q pl b G hl X=>
 cases rx with
 | imm rx=>
 cases rv with
 | imm rv=>
   have H:=i.ob q pl G
   rw [U] at H
   have V:=H.sz
   obtain ⟨_,_,h1,me,clock,hb,hlen,h2,hrel⟩:=H.mapZ X hl
   cases h1
   obtain ⟨d,O,E⟩:=MS hk rx
   have A:(getOb h q).live=true:=by rw [U];rfl
   have J:(getOb h q).fz=false:=by rw [U];rfl
   have K:=(i.own q pl b 0 G hl).2.2 A J
   have hs:=find_spec E rx es me.toList 0 f (by simpa using hlen) (λn j e c x l C r=>hrel n j e c x l C (by simpa using r)) T
   have key: ∀(s:Array qs) (g:Nat) (k:List (List IV)),(k0 t (.map (some b)) Q Y).run P w= .ok () { w with heap:=w.heap.setIfInBounds b (.map s g) }->k.length=s.size->(∀e∈k,e.length=2)->
     (∀(n j:Nat) (e:List IV) (c:IV) (x:qs),k[n]? =some e->e[j]? =some c->s[n]? =some x->RV w ok c (if j=0 then x.key else x.val))->uj P w0 ok0 o a w ok mu .skip (h.set q (.arr .rw sz (.map k))):=by
    intro s g k L h3 N S
    have M:=WS (w:=w) hb (.map s g)
    have F:=M.later (ok:=ok) (mu:=mu) (mu':=mu) K (λ_ _ h=>h)
    obtain ⟨l,C,r⟩:=i.turn D G hl A J M (ob:= .arr .rw sz (.map k)) (.inr ⟨V,k,b,rfl,hl,s,g,(q9 hb).1,h3,N,λn j e c x k1 k2 k3=>(S n j e c x k1 k2 k3).keeps F.keeps⟩) rfl
    exact ix.skip (by rw [he];exact MC L) ⟨ok,mu,C,l,.skip,r⟩
   cases f with
   | none=>
     have W:hW d Q me.toList 0=some none:=hs
     refine key (me.push { key:=Q,val:=Y,born:=clock }) (clock+1) _ ?_ (by simp [hlen]) (λe he=> ?_) (λn j e c x l C r=> ?_)
     ·simp [k0,run_underlying ht,ho hb,hZ O E,ib O W,n2 _ hb,fv]
     ·rcases hG.1 he with he | he
      ·exact h2 e he
      ·simp at he;subst he;rfl
     ·by_cases hn:n < es.length
      ·rw [b7 hn] at l
       rw [pv,if_neg (by omega)] at r
       exact hrel n j e c x l C r
      ·rw [ch (by omega)] at l
       obtain rfl:n=es.length:=by
        have:=(b0.1 l).1;simp at this;omega
       simp at l
       subst l
       rw [pv,if_pos hlen] at r
       cases r
       rcases UR C with ⟨rfl,rfl⟩ | ⟨rfl,rfl⟩
       ·exact rx
       ·exact rv
   | some p=>
     obtain ⟨n,u⟩:=p
     obtain ⟨x0,_,N,S,h6,h7⟩:=hs
     simp only [Nat.sub_zero] at N
     have I:me[n]? =some x0:=by simpa using N
     have ap:n < me.size:=(fl.1 I).1
     refine key (me.modify n λe=>{ e with key:=Q,val:=Y }) clock _ ?_ (by simp [hlen]) (λe he=> ?_) (λn' j e c x l C r=> ?_)
     ·simp [k0,run_underlying ht,ho hb,hZ O E,ib O S,n2 _ hb,fv,Instr.keyThatStays,I,ZF E h7]
     ·rcases lv he with he | he
      ·exact h2 e he
      ·subst he;rfl
     ·rw [n4] at r
      by_cases R:n=n'
      ·subst R
       rw [hT (by omega)] at l
       cases l
       rw [if_pos rfl,I] at r
       cases r
       rcases UR C with ⟨rfl,rfl⟩ | ⟨rfl,rfl⟩
       ·exact rx
       ·exact rv
      ·rw [hY R] at l
       rw [if_neg R] at r
       exact hrel n' j e c x l C r
end
end Go.AM
namespace Go.AM
open Go.RowKit
section
variable {P:ha} {w0:eg} {ok0:O0} {o:r3} {a:Act} {w:eg} {ok:Nat->Prop} {mu:Mu} {h:List Ob} {fr:List PV}
theorem aa6 {w:eg} {ok:Nat->Prop} (mu:Mu) {z:c5} {x:IV} (hz:aaC z=some x):RV w ok x z:=by
 unfold aaC at hz
 have r:= @RP.mB w ok mu z
 split at hz
 ·rename_i y b
  cases hz
  rw [b] at r
  cases r with
  | imm r=>exact r
 ·rename_i b
  cases hz
  rw [b] at r
  cases r with
  | nils a=>exact RV.lst [] a 0 0 (λ_ _=>undef) (ck _) (by simp) (by simp) (by simp)
 ·cases hz
theorem Vp {t:c9} {l c:eW} (hop:o.op= .makeSlice t l c) {e:c9} (hu:P.underlying t=some (.slice e)) (iq:InvQ w ok mu h) (hn:mu h.length=none) (hf:Fr w ok mu fr a.tmps) {x y:IV} (hl:ev fr l= .imm x) (hc:ev fr c= .imm y)
  {row:List IV} (d:abU P e=some row) {z:IV} (hz:lr (P.bytesOf e) row x y=some z):aI P o a w ok mu h (.buf h.length (cj z)) (h++[.arr .rw (P.cellsOf e) z]):=by
 have hex:execOp a.eval o=(do pure (hJ (<-Instr.makeSlice t (a.eval l) (a.eval c)))):=by simp [execOp,hop]
 have R:=hf.ev l
 have rc:=hf.ev c
 rw [hl] at R
 rw [hc] at rc
 unfold abU at d
 split at d
 ·rename_i f Q
  split at d
  ·rename_i E
   obtain ⟨hsz,L⟩:=E
   obtain ⟨ac,ab⟩:=gp d
   have hi: ∃i,P.info? e=some i/\i.zero=some f:=by
    unfold m7 at Q
    exact bd.1 Q
   obtain ⟨i,hi,W⟩:=hi
   have U:i.bytes=P.bytesOf e:=by simp [Program.bytesOf,hi]
   have V:i.size=P.cellsOf e:=by simp [Program.cellsOf,hi]
   unfold lr at hz
   split at hz
   ·rename_i k n k' m
    split at hz
    ·rename_i hb
     obtain ⟨rfl,h0,g⟩:=hb
     cases hz
     generalize a.eval l=vl at R hex
     generalize a.eval c=vc at rc hex
     cases R with
     | imm R=>
     cases rc with
     | imm rc=>
     cases R
     cases rc
     obtain ⟨N,rfl⟩: ∃N:Nat,n=(N:Int):=⟨n.toNat,by omega⟩
     have O:(N:Int).toNat=N:=by omega
     rw [O] at g ⊢
     have S:N*P.bytesOf e<=2 ^ 40:=e7 (pf _ (by omega)) g
     have hN:N<=2 ^ 40:=e7 (mv _ (by omega)) g
     have s:(i.bytes:Int)*(N:Int)<=281474976710656:=by
      rw [U]
      have h1:((P.bytesOf e*N:Nat):Int)<=((2 ^ 40:Nat):Int):=by rw [fb];exact Int.ofNat_le.2 S
      rw [Int.natCast_mul] at h1
      have h2:((2 ^ 40:Nat):Int)<=281474976710656:=by decide
      exact Int.le_trans h1 h2
     have C:=Go.run_make (P:=P) w t e i f hu hi W k k' (N:Int) (N:Int) (by omega) (Int.le_refl _) s (by omega)
     rw [O,V] at C
     have u:(ia N row).length=N:=by simp
     have r:row.length=P.cellsOf e:=by rw [ac];simpa using hsz
     have I: ∀D∈ia N row,D.length=P.cellsOf e:= λD F=>by rw [mb F];exact r
     have p: ∀(i j:Nat) (D:List IV) (x:IV),(ia N row)[i]? =some D->D[j]? =some x-> ∃v,(hP f.cells (N*P.cellsOf e)).toList[i*P.cellsOf e+j]? =some v/\RV w ok x v:=by
      intro i j D x hi hj
      have T:i < N:=by have:=(b0.1 hi).1;simpa using this
      have F:D=row:=mb (ds hi)
      subst F
      have G:j < P.cellsOf e:=by rw [<-r];exact (b0.1 hj).1
      have M:i*P.cellsOf e+j < N*P.cellsOf e:=DX T G
      have J:j < f.cells.toList.length:=by simpa [hsz] using G
      obtain ⟨x',h3,h4⟩:=ab j f.cells.toList[j] (b6 J)
      rw [hj] at h3;cases h3
      refine ⟨f.cells.toList[j],?_,aa6 mu h4⟩
      have A:(i*P.cellsOf e+j) % f.cells.size=j:=by
       rw [hsz,fb,rl,nn G]
      have K:j < f.cells.size:=by simpa using J
      unfold hP
      simp only [Array.toList_map,Array.toList_range,hH,kv M,ru,A,Array.getElem_toList]
      rw [getElem!_pos f.cells j K]
     have H:Rows w ok (ia N row) (P.cellsOf e) (hP f.cells (N*P.cellsOf e)).toList:=by
      refine ⟨by simp [hP],λv hv=> ?_,p⟩
      obtain ⟨q,M⟩:=qP hv
      have Z:q < N*P.cellsOf e:=by have:=(b0.1 M).1;simpa [hP] using this
      have hdiv:q / P.cellsOf e < N:=hF (by rw [fb];exact Z)
      have A:q % P.cellsOf e < P.cellsOf e:=oi _ L
      obtain ⟨v',h1,h2⟩:=p (q / P.cellsOf e) (q % P.cellsOf e) row row[q % P.cellsOf e] (by rw [List.getElem?_replicate,if_pos hdiv]) (b6 (by omega))
      have Y:q / P.cellsOf e*P.cellsOf e+q % P.cellsOf e=q:=by rw [fb];exact km q _
      rw [Y,M] at h1
      cases h1
      exact h2.atomic
     have hk:Keeps w ok (w.alloc (.cells (hP f.cells (N*P.cellsOf e)) e)) ok:=⟨λb hb=>Below.heap_alloc w _ b (iq.okw b hb),λ_ h=>h⟩
     have X:cj (.lst (ia N row))=N:=by simp [cj]
     rw [X]
     let npl:Pl:=⟨some (w.heap.size,0),N,P.cellsOf e⟩
     refine ⟨[.arr .rw (P.cellsOf e) (.lst (ia N row))],[],h,rfl,rfl,ix.value (by rw [hex];exact gx C) ⟨ok,λq=>if q=h.length then some npl else mu q,?_⟩⟩
     refine Grow.fresh (pl:=npl) rfl rfl iq.okw ?_ hn ?_
     ·have:=ub (mu':= λq=>if q=h.length then some npl else mu q) (md:= .rw) (base:=0) (gq w (.cells (hP f.cells (N*P.cellsOf e)) e)) I (H.later hk) (λq M=>by simp) (by rw [u];simp [hP])
      rw [u] at this
      exact this
     ·refine .buf _ _ (some ⟨w.heap.size,0,none⟩) N npl (by simp) rfl ⟨ck _,.inr ⟨w.heap.size,0,rfl,by simp⟩⟩ λb base hb=> ?_
      cases hb
      exact ⟨_,e,_,gq w _,by simp [npl,hP]⟩
    ·cases hz
   ·cases hz
  ·cases d
 ·cases d
theorem Vu {e:List IV} {b:UInt8} (h:AQ e=some b):e=[.int .u8 (b.toNat:Int)]:=by
 unfold AQ at h
 split at h
 ·rename_i n
  split at h
  ·rename_i hb
   cases h
   have:((UInt8.ofNat n.toNat).toNat:Int)=n:=by
    rw [UInt8.toNat_ofNat']
    omega
   rw [this]
  ·cases h
 ·cases h
theorem afE {s d e:c9} {x:eW} (hop:o.op= .convert s d x) (hs:P.underlying s=some (.slice e)) (C:P.underlying d=some .string) (he:P.underlying e=some (.int .u8)) (L:InvQ w ok mu h) (rx:RP w ok mu (ev fr x) (a.eval x)) {y z:IV} (K:pK h (ev fr x)=some y) (hz:jW y=some z):
  aI P o a w ok mu h (.imm z) h:=by
 have hex:execOp a.eval o=(do pure (hJ (<-convert s d (a.eval x)))):=by simp [execOp,hop]
 unfold jW at hz
 split at hz
 ·rename_i es
  obtain ⟨l,hm,rfl⟩:=e5.1 hz
  obtain ⟨u,D⟩:=gp hm
  have k: ∀p∈es,p.length=1:= λp q=>by
   obtain ⟨i,hi⟩:=qP q
   obtain ⟨b,_,hb⟩:=D i p hi
   rw [Vu hb];rfl
  obtain ⟨A,cap,vs,hv,g,c⟩:=uX L rx K (sz:=1) (by decide) k
  rw [hv] at hex
  have n:(convert s d (.slice A es.length cap)).run P w= .ok (.string ⟨l.toArray⟩) w:=by
   cases A with
   | none=>
     have h0:es.length=0:=by
      rcases hD es.length with h0 | h0
      ·exact h0
      ·obtain ⟨ad,h1,_⟩:=c h0;cases h1
     have r:l=[]:=eZ.1 (by omega)
     subst r
     rw [Go.run_convert_bytes_nil (w:=w) s e hs he _ _ d C]
     rfl
   | some ad=>
     have f:=Go.run_convert_bytes_back (P:=P) w s d e ad cap l hs he C (λj hj=>by
      have m:j < es.length:=by omega
      obtain ⟨b,h1,h2⟩:=D j es[j] (b6 m)
      have t:l[j]? =some l[j]:=b6 hj
      rw [t] at h1;cases h1
      obtain ⟨E,F,G⟩:=c (by omega)
      cases F
      have H:=Vu h2
      obtain ⟨v,I,J⟩:=g.2.2 j 0 es[j] (.int .u8 (l[j].toNat:Int)) (b6 m) (by rw [H];rfl)
      cases J
      have:=G (j*1+0) _ I
      simpa using this)
     rw [<-u];exact f
  exact aI.val (s:=convert s d (.slice A es.length cap)) (by rw [hex]) n (.imm (.str _))
 ·cases hz
end
end Go.AM
namespace Go.AM
open Go.RowKit
section
variable {P:ha} {Γ:hd->Option FSig} {C:IV->List Nat->List (List IV)->Option (List IV)} {R S:Type}
theorem GJ {x:IV} {t e:Unit->Option R} (f:R->Option S):(ae x t e).bind f=ae x (λu=>(t u).bind f) (λu=>(e u).bind f):=by
 unfold ae;split<;>rfl
theorem Ui {s:FSig} {h:List Ob} {ps:List PV} (k:PV->List Ob->Option R) (f:R->Option S):(bL s h ps k).bind f=bL s h ps λp h=>(k p h).bind f:=by
 unfold bL
 repeat' split
 all_goals first | exact Inl.nat .. | simp [hX]
theorem Inl.run_bind (J:Inl) {ps:List PV} {h:List Ob} (k:PV->List Ob->Option R) (f:R->Option S):(J.run R ps h k).bind f=J.run S ps h λp h=>(k p h).bind f:=J.nat ..
theorem YR {t:c9} {a:PV} {h:List Ob} (k:PV->List Ob->Option R) (f:R->Option S):(loadT P t a h k).bind f=loadT P t a h λp h=>(k p h).bind f:=by
 unfold loadT
 repeat' split
 all_goals simp [hX]
theorem XT {t:c9} {a v:PV} {h:List Ob} (k:PV->List Ob->Option R) (f:R->Option S):(storeT P t a v h k).bind f=storeT P t a v h λp h=>(k p h).bind f:=by
 unfold storeT
 repeat' split
 all_goals simp [hX]
theorem Y5 {b:r2} {t0 t1:c9} {ps:List PV} {h:List Ob} (k:PV->List Ob->Option R) (f:R->Option S):(oS P b t0 t1 ps h k).bind f=oS P b t0 t1 ps h λp h=>(k p h).bind f:=by
 unfold oS
 repeat' split
 all_goals simp [hX]
set_option maxHeartbeats 1000000 in
theorem Br {o:r3} {st:St} (k:PV->List Ob->Option R) (f:R->Option S):(gI P Γ C o st k).bind f=gI P Γ C o st λp h=>(k p h).bind f:=by
 unfold gI
 repeat' split
 all_goals simp only [hX,GJ,Ui,YR,XT,Y5,Inl.run_bind,Option.bind_none]
def cZ (P:ha) (Γ:hd->Option FSig) (C:IV->List Nat->List (List IV)->Option (List IV)) (o:r3) (st:St):Option (PV×List Ob):=gI P Γ C o st λp h=>some (p,h)
theorem Xb {o:r3} {st:St} (k:PV->List Ob->Option R):gI P Γ C o st k=(cZ P Γ C o st).bind λx=>k x.1 x.2:=by
 rw [cZ,Br];rfl
end
section
variable {P:ha} {Γ:hd->Option FSig} {C:IV->List Nat->List (List IV)->Option (List IV)} {w0:eg} {ok0:O0} {o:r3} {a:Act} {w:eg} {ok:Nat->Prop} {mu:Mu} {h:List Ob} {fr:List PV} {p:PV} {h':List Ob}
theorem DA {s:FSig} (hm:s.mode= .pure) {g:hd} {xs:List eW} {cap:List c5} {W:eg} {j:Nat->Prop} (c:(execOp a.eval o).run P w= .ok (.enter g (xs.map a.eval++cap).toArray) w) (i:InvQ w ok mu h) (hf:Fr w ok mu fr a.tmps) (hp:PureAt P g cap s.res s.fn W j) (hk:Keeps W j w ok)
  (f:s.scalar=true->cap=[]/\(∀w ok,PureAt P g [] s.res s.fn w ok)/\ ∀as r,s.fn as=some r-> ∀x∈r,x.scalar=true) (hs:bL s h (xs.map (ev fr)) (λp h=>some (p,h))=some (p,h')):aI P o a w ok mu h p h':=by
 unfold bL at hs
 rw [hm] at hs
 simp only at hs
 split at hs
 ·rename_i as h1 has hl
  obtain ⟨r,hr,he⟩:=bd.1 hs
  cases he
  have hrel:=kc i hf has
  by_cases hb:s.scalar=true
  ·obtain ⟨rfl,e,d⟩:=f hb
   simp only [ab7,hb,if_true,c6] at hl
   subst hl
   exact abx c i e hrel hr (d as r hr)
  ·simp only [ab7,hb] at hl
   exact ab5 c i hp ⟨hk.block,λb hb=> .inl (hk.more b hb)⟩ hrel hr hl
 ·cases hs
theorem Ze {s:FSig} (hm:s.mode= .own) {g:hd} {xs:List eW} (f:(execOp a.eval o).run P w= .ok (.enter g (xs.map a.eval).toArray) w) (j:InvQ w ok mu h) (hf:Fr w ok mu fr a.tmps) (k:ay P g s) (hn:h'.length≠h.length->mu h.length=none)
  (hs:bL s h (xs.map (ev fr)) (λp h=>some (p,h))=some (p,h')):aI P o a w ok mu h p h':=by
 unfold bL at hs
 rw [hm] at hs
 simp only at hs
 split at hs
 ·rename_i as has hl
  obtain ⟨r,hr,he⟩:=bd.1 hs
  cases he
  have hrel:=kc j hf has
  have e:(xs.map (ev fr)).flatMap (iM h)=[]:=by simpa using hl
  rw [e] at hrel
  have hok: ∀b,jG ok mu [] b->ok b:= λb hb=>by
   rcases hb with hb | ⟨q,l,_⟩
   ·exact hb
   ·simp at l
  have d:cL w ok as (xs.map a.eval):=⟨hrel.1,λi c v h1 h2=>(hrel.2 i c v h1 h2).more hok⟩
  exact afP (fz:=[]) f hm k j (hn (by simp)) d hr
 ·cases hs
theorem V6 {s:FSig} (hm:s.mode= .fresh) {g:hd} {xs:List eW} (b:(execOp a.eval o).run P w= .ok (.enter g (xs.map a.eval).toArray) w) (c:InvQ w ok mu h) (hf:Fr w ok mu fr a.tmps) (d:ay P g s) (hn:h'.length≠h.length->mu h.length=none)
  (hs:bL s h (xs.map (ev fr)) (λp h=>some (p,h))=some (p,h')):aI P o a w ok mu h p h':=by
 unfold bL at hs
 rw [hm] at hs
 simp only at hs
 split at hs
 ·rename_i as has
  obtain ⟨r,hr,he⟩:=bd.1 hs
  cases he
  exact acT b hm d c (hn (by simp)) (kc c hf has) hr
 ·cases hs
theorem XR {s:FSig} {n:Nat} (hm:s.mode= .look n) {g:hd} {xs:List eW} (c:(execOp a.eval o).run P w= .ok (.enter g (xs.map a.eval).toArray) w) (f:InvQ w ok mu h) (hf:Fr w ok mu fr a.tmps) (e:ay P g s)
  (hs:bL s h (xs.map (ev fr)) (λp h=>some (p,h))=some (p,h')):aI P o a w ok mu h p h':=by
 unfold bL at hs
 rw [hm] at hs
 simp only at hs
 split at hs
 ·rename_i q rest b
  cases xs with
  | nil=>simp at b
  | cons x xs=>
    simp only [hU,ic] at b
    obtain ⟨hx,rfl⟩:=b
    split at hs
    ·rename_i vs as ht has d
     obtain ⟨r,hr,he⟩:=bd.1 hs
     cases he
     exact ae7 c hm e f hf hx ht has d hr
    ·cases hs
 ·cases hs
theorem afl {t:c9} {x:eW} (hop:o.op= .load t x) (hf:Fr w ok mu fr a.tmps) (d:InvQ w ok mu h) (hs:loadT P t (ev fr x) h (λp h=>some (p,h))=some (p,h')):aI P o a w ok mu h p h':=by
 have rx:=hf.ev x
 unfold loadT at hs
 split at hs
 ·rename_i b
  split at hs
  ·rename_i q j hx
   split at hs
   ·rename_i md cs c
    split at hs
    ·rename_i hj
     cases hs
     exact KW hop rx d hx c (.inl ⟨b,hj,rfl⟩)
    ·cases hs
   ·cases hs
  ·rename_i q i j hx
   split at hs
   ·rename_i md sz y c
    obtain ⟨r,hr,he⟩:=bd.1 hs
    cases he
    exact Ii hop rx d hx c (.inl ⟨b,r,hr,rfl⟩)
   ·cases hs
  ·rename_i y i j hx
   obtain ⟨r,hr,he⟩:=bd.1 hs
   cases he
   exact I8 hop rx hx (.inl ⟨b,r,hr,rfl⟩)
  ·rename_i y j hx
   obtain ⟨r,hr,he⟩:=bd.1 hs
   cases he
   exact vM hop rx (.inl hx) (.inl ⟨b,r,hr,rfl⟩)
  ·rename_i y hx
   obtain ⟨r,hr,he⟩:=bd.1 hs
   cases he
   exact vM hop rx (.inr ⟨hx,rfl⟩) (.inl ⟨b,r,hr,rfl⟩)
  ·cases hs
 ·split at hs
  ·rename_i b
   split at hs
   ·rename_i q j hx
    split at hs
    ·rename_i md cs c
     split at hs
     ·rename_i hj
      cases hs
      exact KW hop rx d hx c (.inr ⟨b,hj⟩)
     ·cases hs
    ·cases hs
   ·rename_i q i j hx
    split at hs
    ·rename_i md sz y c
     obtain ⟨r,hr,he⟩:=bd.1 hs
     cases he
     exact Ii hop rx d hx c (.inr ⟨b,r,hr,rfl⟩)
    ·cases hs
   ·rename_i y i j hx
    obtain ⟨r,hr,he⟩:=bd.1 hs
    cases he
    exact I8 hop rx hx (.inr ⟨b,r,hr,rfl⟩)
   ·rename_i y j hx
    obtain ⟨r,hr,he⟩:=bd.1 hs
    cases he
    exact vM hop rx (.inl hx) (.inr ⟨b,r,hr,rfl⟩)
   ·rename_i y hx
    obtain ⟨r,hr,he⟩:=bd.1 hs
    cases he
    exact vM hop rx (.inr ⟨hx,rfl⟩) (.inr ⟨b,r,hr,rfl⟩)
   ·cases hs
  ·cases hs
end
section
variable {P:ha} {Γ:hd->Option FSig} {C:IV->List Nat->List (List IV)->Option (List IV)} {w0:eg} {ok0:O0} {o:r3} {a:Act} {w:eg} {ok:Nat->Prop} {mu:Mu} {h:List Ob} {fr:List PV} {p:PV} {h':List Ob}
theorem aI.after {l:List Nat} {h1:List Ob} (hl:wh h l=some h1) (q:aI P o a w (jG ok mu l) mu h1 p h'):aI P o a w ok mu h p h':=by
 obtain ⟨news,fz,h2,i,j,k⟩:=q
 have d: ∀(l e:List Nat) (h h1:List Ob),wh h l=some h1->wh h (l++e)=wh h1 e:=by
  intro l
  induction l with
  | nil=>intro e h h1 hh;simp only [wh,c6] at hh;subst hh;rfl
  | cons x l ih=>
    intro e h h1 hh
    simp only [n1,wh] at hh ⊢
    cases hx:fz1 h x with
    | none=>simp [hx] at hh
    | some n=>simp only [hx,nF] at hh ⊢;exact ih e n h1 hh
 have hlen:=(fp hl).len
 refine ⟨news,l++fz,h2,by rw [d l fz h h1 hl];exact i,j,k.mono λv w' m=> ?_⟩
 obtain ⟨ok',mu',g⟩:=m
 refine ⟨ok',mu',g.below,λb hb=>g.more b (.inl hb),λb hb=> ?_,?_,?_,g.rp⟩
 ·rcases g.new b hb with c | c | ⟨q,f,r⟩
  ·rcases c with c | ⟨q,f,r⟩
   ·exact .inl c
   ·exact .inr (.inr ⟨q,kh _ f,r⟩)
  ·exact .inr (.inl c)
  ·exact .inr (.inr ⟨q,jA _ f,r⟩)
 ·rw [<-hlen];exact g.same
 ·rw [<-hlen];exact g.obs
theorem InvQ.frozen (c:InvQ w ok mu h) {l:List Nat} {h1:List Ob} (hl:wh h l=some h1):InvQ w (jG ok mu l) mu h1:=by
 refine ⟨λb hb=> ?_,λo pl hm=> ?_,c.loc⟩
 ·rcases hb with hb | ⟨q,_,pl,base,h1,h2⟩
  ·exact c.okw b hb
  ·exact c.loc q pl b base h1 h2
 ·have a:Later w ok mu w (jG ok mu l) mu:=⟨⟨λ_ _=>rfl,λ_ h=> .inl h⟩,λ_ _ h=>h,.refl _⟩
  exact (fp hl).ob ((c.ob o pl hm).later a (λ_ _ _=>rfl))
def Af:r2->Bool
 | .append=>true
 | .copy=>true
 | _=>false
def ack:r2->Bool
 | .append=>true
 | _=>false
theorem abV (cs:List PV):V4 cs= .rw\/V4 cs= .lock:=by
 unfold V4
 split
 ·exact .inr rfl
 ·exact .inl rfl
def cJ (Γ:hd->Option FSig) (o:r3):Bool:=
 match o.op with
 | .store _ _ _=>false
 | .mapUpdate _ _ _ _=>false
 | .call c=>
   match c.callee with
   | .builtin b=> !Af b
   | .value (.func g)=>match Γ g with | some s=>(match s.mode with | .pure | .own | .fresh | .look _=>true | _=>false) | none=>false
   | _=>false
 | _=>true
theorem abE {α β:Type} {f:α->β} {l:Array α} {y:β} (h:l.toList.map f=[y]): ∃x,l= #[x]/\f x=y:=by
 obtain ⟨l⟩:=l
 match l,h with
 | [x],h=>exact ⟨x,rfl,by simpa using h⟩
theorem XD {α β:Type} {f:α->β} {l:Array α} {y z:β} (h:l.toList.map f=[y,z]): ∃x u,l= #[x,u]/\f x=y/\f u=z:=by
 obtain ⟨l⟩:=l
 match l,h with
 | [x,u],h=>exact ⟨x,u,rfl,by simpa using h⟩
theorem ZC {c:r4} {b:r2} (hop:o.op= .call c) (hc:c.callee= .builtin b) (hsz:c.argTypes.size=c.args.size) (i:(!Af b)=true) (hf:Fr w ok mu fr a.tmps) (m:InvQ w ok mu h)
  (hs:oS P b (c.argTypes.getD 0 0) (c.argTypes.getD 1 0) (c.args.toList.map (ev fr)) h (λp h=>some (p,h))=some (p,h')):aI P o a w ok mu h p h':=by
 unfold oS at hs
 split at hs
 ·rename_i x f
  obtain ⟨g,d,hx⟩:=abE f
  have e:(c.argTypes[0]?).isSome=true:=by
   have:0 < c.argTypes.size:=by rw [hsz,d];exact nm
   simp [this]
  have rx:=hf.ev g
  rw [hx] at rx
  cases rx with
  | imm rx=>
    split at hs
    ·rename_i hb
     obtain ⟨z,hz,he⟩:=bd.1 hs
     cases he
     unfold ft at hz
     split at hz
     ·cases hz
      cases hv:a.eval g<;>rw [hv] at rx<;>cases rx
      exact U6 hop hc d rfl e (.inr ⟨hb,_,hv,rfl⟩) rfl
     ·cases hz
    ·split at hs
     ·rename_i hb
      obtain ⟨z,hz,he⟩:=bd.1 hs
      cases he
      unfold aC at hz
      split at hz
      ·cases hz
       cases hv:a.eval g<;>rw [hv] at rx<;>cases rx
       exact U6 hop hc d rfl e (.inl ⟨hb,_,_,hv⟩) rfl
      ·cases hz
     ·split at hs
      ·rename_i hb
       obtain ⟨z,hz,he⟩:=bd.1 hs
       cases he
       exact VU hop hc d e hb m hf (by rw [hx];rfl) hz
      ·cases hs
 ·rename_i q f
  obtain ⟨g,d,hx⟩:=abE f
  have e:(c.argTypes[0]?).isSome=true:=by
   have:0 < c.argTypes.size:=by rw [hsz,d];exact nm
   simp [this]
  split at hs
  ·rename_i hb
   split at hs
   ·rename_i md sz y r
    obtain ⟨z,hz,he⟩:=bd.1 hs
    cases he
    exact VU hop hc d e hb m hf (by rw [hx];simp [A5,r]) hz
   ·cases hs
  ·cases hs
 ·rename_i q n f
  obtain ⟨g,d,hx⟩:=abE f
  have e:(c.argTypes[0]?).isSome=true:=by
   have:0 < c.argTypes.size:=by rw [hsz,d];exact nm
   simp [this]
  have rx:=hf.ev g
  rw [hx] at rx
  split at hs
  ·rename_i hb
   cases hs
   cases hv:a.eval g<;>rw [hv] at rx<;>cases rx
   exact U6 hop hc d rfl e (.inl ⟨hb,_,_,hv⟩) rfl
  ·cases hs
 ·rename_i q l u f
  obtain ⟨g,d,hx⟩:=abE f
  have e:(c.argTypes[0]?).isSome=true:=by
   have:0 < c.argTypes.size:=by rw [hsz,d];exact nm
   simp [this]
  have rx:=hf.ev g
  rw [hx] at rx
  split at hs
  ·rename_i hb
   cases hs
   cases hv:a.eval g<;>rw [hv] at rx<;>cases rx
   exact U6 hop hc d rfl e (.inl ⟨hb,_,_,hv⟩) rfl
  ·cases hs
 ·rename_i f
  obtain ⟨g,d,hx⟩:=abE f
  have e:(c.argTypes[0]?).isSome=true:=by
   have:0 < c.argTypes.size:=by rw [hsz,d];exact nm
   simp [this]
  have rx:=hf.ev g
  rw [hx] at rx
  split at hs
  ·rename_i hb
   cases hs
   cases hv:a.eval g<;>rw [hv] at rx<;>cases rx
   exact U6 hop hc d rfl e (.inl ⟨hb,_,_,hv⟩) rfl
  ·cases hs
 ·cases i
 ·cases i
 ·cases i
 ·cases i
 ·cases i
 ·rename_i x y f
  obtain ⟨g,k,d,hx,j⟩:=XD f
  obtain ⟨z,hz,he⟩:=bd.1 hs
  cases he
  exact agO hop hc d (hf.ev g) (hf.ev k) hx j hz
 ·rename_i x y f
  obtain ⟨g,k,d,hx,j⟩:=XD f
  obtain ⟨z,hz,he⟩:=bd.1 hs
  cases he
  exact agd hop hc d (hf.ev g) (hf.ev k) hx j hz
 ·cases hs
theorem adX (l:COK P C) {c:r4} {f:eW} (hop:o.op= .call c) (hc:c.callee= .value f) {x:IV} {v:c5} {i:Nat->Prop} (rx:RV w i x v) (hv:a.eval f=v) (hk: ∀b,i b->ok b) (m:InvQ w ok mu h) (hf:Fr w ok mu fr a.tmps)
  (hs:bL ⟨.pure,false,mG P o.type,0,C x (mG P o.type)⟩ h (c.args.toList.map (ev fr)) (λp h=>some (p,h))=some (p,h')):aI P o a w ok mu h p h':=by
 have d: ∃as r,C x (mG P o.type) as=some r:=by
  unfold bL at hs
  simp only at hs
  split at hs
  ·rename_i as h1 _ _
   obtain ⟨r,hr,_⟩:=bd.1 hs
   exact ⟨as,r,hr⟩
  ·cases hs
 obtain ⟨g,cv,k,j,hp⟩:=l.clo x (mG P o.type) w i v rx d
 have e:=yA (P:=P) (w:=w) (a:=a) hop hc (by rw [hv,k]) j
 exact DA rfl e m hf hp ⟨λ_ _=>rfl,hk⟩ (λhb=>by cases hb) hs
theorem agw (n:COK P C) {c:r4} {f:eW} {name:String} (hop:o.op= .call c) (hc:c.callee= .invoke f name) (i:c.args.isEmpty=true) {x:IV} (rx:RV w ok x (a.eval f)) (q:InvQ w ok mu h) (hf:Fr w ok mu fr a.tmps)
  (hs:bL ⟨.pure,false,mG P o.type,0,C (Gx name x) (mG P o.type)⟩ h [] (λp h=>some (p,h))=some (p,h')):aI P o a w ok mu h p h':=by
 have e:c.args= #[]:=by simpa using i
 have d: ∃as r,C (Gx name x) (mG P o.type) as=some r:=by
  unfold bL at hs
  simp only at hs
  split at hs
  ·rename_i as h1 _ _
   obtain ⟨r,hr,_⟩:=bd.1 hs
   exact ⟨as,r,hr⟩
  ·cases hs
 have j:C .nilp (mG P o.type)= λ_=>none:=by
  funext as
  cases hr:C .nilp (mG P o.type) as with
  | none=>rfl
  | some r=>
    obtain ⟨g,cv,hv,_⟩:=n.clo .nilp (mG P o.type) w ok (.pointer none) .nilp ⟨as,r,hr⟩
    cases hv
 by_cases hx: ∃t b y,x= .ifc t b y
 ·obtain ⟨t,b,y,rfl⟩:=hx
  generalize hv:a.eval f=v at rx
  simp only [Gx] at hs d
  obtain ⟨u,rfl,l⟩: ∃u,v= .iface t (ifV b u)/\RV w ok y u:=by
   cases rx with
   | ifc _ _ u l=>exact ⟨u,rfl,l⟩
   | ifc1 _ _ u l=>exact ⟨u,rfl,l⟩
  obtain ⟨g,m,hp⟩:=n.ifc t name b y (mG P o.type) w ok u l d
  have k:(execOp a.eval o).run P w= .ok (.enter g (([]:List eW).map a.eval++[ifV b u]).toArray) w:=by
   have:execOp a.eval o=callMethod (.iface t (ifV b u)) name #[]:=by
    simp [execOp,hop,resolve,hc,e,hv,invoke]
   rw [this,m]
   rfl
  exact DA (xs:=[]) rfl k q hf hp (.refl _ _) (λhb=>by cases hb) hs
 ·have hn:Gx name x= .nilp:=by
   unfold Gx
   split
   ·exact absurd ⟨_,_,_,rfl⟩ hx
   ·rfl
  rw [hn,j] at d
  obtain ⟨as,r,hr⟩:=d
  cases hr
theorem Ug {t:c9} (h:Kx P t=true) (x:c5) (w:eg):(la t x).run P w= .ok (.iface t x) w:=by
 unfold Kx at h
 cases hu:P.underlying t with
 | none=>rw [hu] at h;cases h
 | some d=>
   rw [hu] at h
   have hr:(underlying t).run P w= .ok d w:=run_underlying hu w
   unfold la
   rw [fc,hr]
   cases d<;>first | rfl | cases h
theorem Qm {t:c9} {x:eW} (hop:o.op= .makeInterface t x) (ht:Kx P t=true) (e:InvQ w ok mu h) {l:List Nat} {h1:List Ob} (c:wh h l=some h1) {z:IV} (d:RV w (jG ok mu l) z (.iface t (a.eval x))):aI P o a w ok mu h (.imm z) h1:=by
 refine ⟨[],l,h1,c,by simp,ix.value (w':=w) (v:= .iface t (a.eval x)) ?_ ⟨jG ok mu l,mu,⟨.refl _ _,λb hb=> .inl hb,λb hb=>Or.elim hb .inl (λhb=> .inr (.inr hb)),λ_ _=>rfl,.inl ⟨rfl,rfl⟩,.imm d⟩⟩⟩
 have he:execOp a.eval o=(do pure (hJ (<-la t (a.eval x)))):=by simp [execOp,hop]
 rw [he]
 exact gx (Ug ht _ _)
set_option maxHeartbeats 1000000 in
theorem S6 {st:St} (a2:aF P Γ) (hC:COK P C) (hs:cZ P Γ C o st=some (p,h')) (I:cJ Γ o=true) (hf:Fr w ok mu st.fr a.tmps) (E:InvQ w ok mu st.h) (hn:h'.length≠st.h.length->mu st.h.length=none):aI P o a w ok mu st.h p h':=by
 unfold cZ gI at hs
 split at hs
 ·rename_i x hop;cases hs;exact abf (.inl hop) hf
 ·rename_i x hop;cases hs;exact abf (.inr hop) hf
 ·rename_i c x y hop
  split at hs
  ·rename_i v hv
   unfold ae at hs
   split at hs
   ·cases hs;simpa using ach hop hf hv
   ·cases hs;simpa using ach hop hf hv
   ·cases hs
  ·cases hs
 ·rename_i t hop
  split at hs
  ·rename_i aB;cases hs;exact acq hop aB E (hn (by simp))
  ·split at hs
   ·rename_i z hz;cases hs;exact ac1 hop hz E (hn (by simp))
   ·cases hs
 ·rename_i t x hop
  split at hs
  ·rename_i hw;cases hs;exact age _ (abV _) hop hf hw E (hn (by simp))
  ·cases hs
 ·rename_i t parts hop
  split at hs
  ·rename_i fs z hu hz
   split at hs
   ·rename_i hi
    split at hs
    ·rename_i cs hc;cases hs;exact MX hop hf hu hz hi hc
    ·cases hs
   ·cases hs
  ·rename_i n e z hu hz
   split at hs
   ·rename_i hi
    split at hs
    ·rename_i cs hc;cases hs;exact OI hop hf hu hz hi hc
    ·cases hs
   ·cases hs
  ·cases hs
 ·rename_i t len parts hop
  split at hs
  ·rename_i e hu
   split at hs
   ·rename_i R
    subst R
    split at hs
    ·rename_i hp
     cases hs
     have:parts= #[]:=by simpa using hp.1
     subst this
     exact UL hop hu E hp.2
    ·cases hs
   rename_i R
   split at hs
   ·rename_i O
    split at hs
    ·rename_i cs Y
     split at hs
     ·rename_i es h1 ab M
      split at hs
      ·rename_i hb
       cases hs
       have U:=(fp M).len
       unfold ahd at O
       refine U▸R1 hop hu E (hn (by simp [U])) hf (by rw [if_neg R];exact Y) (λh0=> ?_) ab M hb.1 hb.2.1 hb.2.2 (λh0=> ?_)
       ·rw [if_pos h0] at O;simpa using O
       ·rw [if_neg h0] at O
        obtain ⟨i,z,h1,h2,T,h4,_⟩:=mq O
        exact ⟨z,by simp [m7,h1,h2],T⟩
      ·cases hs
     ·cases hs
    ·cases hs
   ·cases hs
  ·cases hs
 ·rename_i t hop
  split at hs
  ·cases hs;exact ZA hop E (hn (by simp))
  ·cases hs
 ·rename_i t m x v hop;simp [cJ,hop] at I
 ·rename_i t m x c hop
  split at hs
  ·rename_i kt et y key ht H hx
   split at hs
   ·rename_i kq z hk hz
    obtain ⟨r,hr,he⟩:=bd.1 hs
    cases he
    obtain ⟨am,ap⟩:=Um hr
    exact aaI hop ht E hf H hx (Ya hk am) hz ap
   ·cases hs
  ·cases hs
 ·rename_i t x hop;exact afl hop hf E hs
 ·rename_i t x y hop;simp [cJ,hop] at I
 ·rename_i x hop
  split at hs
  ·rename_i y hx
   obtain ⟨z,hz,he⟩:=bd.1 hs
   cases he
   exact Uw hop (hf.ev x) hx hz
  ·rename_i q j hx;cases hs;rw [<-hx];exact uq hop (hf.ev x) (.inl ⟨_,_,hx⟩)
  ·rename_i q i j hx;cases hs;rw [<-hx];exact uq hop (hf.ev x) (.inr (.inl ⟨_,_,_,hx⟩))
  ·rename_i y i j hx;cases hs;rw [<-hx];exact uq hop (hf.ev x) (.inr (.inr (.inl ⟨_,_,_,hx⟩)))
  ·rename_i y j hx;cases hs;rw [<-hx];exact uq hop (hf.ev x) (.inr (.inr (.inr (.inl ⟨_,_,hx⟩))))
  ·rename_i f c hx;cases hs;rw [<-hx];exact uq hop (hf.ev x) (.inr (.inr (.inr (.inr ⟨_,_,hx⟩))))
  ·cases hs
 ·rename_i op t x y t' hop
  split at hs
  ·rename_i u v hx H
   split at hs
   ·rename_i hb
    obtain ⟨z,hz,he⟩:=bd.1 hs
    cases he
    exact aeH hop hb hx H (hf.ev x) (hf.ev y) hz
   split at hs
   ·rename_i hb
    obtain ⟨z,hz,he⟩:=bd.1 hs
    cases he
    exact adC hop hb hx H (hf.ev x) (hf.ev y) hz
   ·obtain ⟨z,hz,he⟩:=bd.1 hs
    cases he
    exact agc hop hx H (hf.ev x) (hf.ev y) hz
  ·rename_i q j hx H
   split at hs
   ·rename_i hb
    obtain ⟨z,hz,he⟩:=bd.1 hs
    cases he
    exact acx hop hb hx H (hf.ev x) (hf.ev y) hz
   ·cases hs
  ·rename_i as bs hx H
   split at hs
   ·rename_i al
    split at hs
    ·rename_i us vs hu hv
     obtain ⟨z,hz,he⟩:=bd.1 hs
     cases he
     exact ag8 hop al (hf.ev x) (hf.ev y) hx H hu hv hz
    ·cases hs
   ·cases hs
  ·cases hs
 ·rename_i op t x hop
  split at hs
  ·rename_i u hx
   obtain ⟨z,hz,he⟩:=bd.1 hs
   cases he
   exact ah0 hop hx (hf.ev x) hz
  ·cases hs
 ·rename_i s d x hop
  split at hs
  ·rename_i u k kd hx h1 h2
   obtain ⟨z,hz,he⟩:=bd.1 hs
   cases he
   exact ae0 hop h1 h2 hx (hf.ev x) hz
  ·rename_i u k kd hx h1 h2
   obtain ⟨z,hz,he⟩:=bd.1 hs
   cases he
   exact aeC hop h1 h2 hx (hf.ev x) hz
  ·rename_i u k kd hx h1 h2
   obtain ⟨z,hz,he⟩:=bd.1 hs
   cases he
   exact aen hop h1 h2 hx (hf.ev x) hz
  ·rename_i u e hx h1 h2
   split at hs
   ·rename_i T
    obtain ⟨z,hz,he⟩:=bd.1 hs
    cases he
    exact afq hop h1 h2 T E hx (hf.ev x) hz
   ·cases hs
  ·rename_i p0 e h1 h2
   split at hs
   ·rename_i y T H
    obtain ⟨z,hz,he⟩:=bd.1 hs
    cases he
    exact afE hop h1 h2 T E (hf.ev x) H hz
   ·cases hs
  ·cases hs
 ·rename_i t l c hop
  split at hs
  ·rename_i e x y hu hl hc
   split at hs
   ·rename_i row V
    obtain ⟨z,hz,he⟩:=bd.1 hs
    cases he
    exact Vp hop hu E (hn (by simp)) hf hl hc V hz
   ·cases hs
  ·cases hs
 ·rename_i fn first caps hop
  split at hs
  ·rename_i ac
   cases hs
   have:first= #[]:=by simpa using ac
   subst this
   exact Xf hop hf
  ·cases hs
 ·rename_i t x lo hi hop
  split at hs
  ·rename_i u l r hx hl hr
   split at hs
   ·rename_i hb
    obtain ⟨z,hz,he⟩:=bd.1 hs
    cases he
    exact U7 hop hb hf hx hl hr hz
   ·split at hs
    ·rename_i hb
     obtain ⟨z,hz,he⟩:=bd.1 hs
     cases he
     exact UG hop hb.1 hb.2 hf hx hl hr hz
    ·cases hs
  ·rename_i q n l r hx hl hr
   split at hs
   ·rename_i hb
    split at hs
    ·rename_i md sz X N
     split at hs
     ·rename_i hsz
      obtain ⟨z,hz,he⟩:=bd.1 hs
      cases he
      exact V2 hop hb.1 hb.2 E.sized hf hx N hsz hl hr hz
     ·cases hs
    ·cases hs
   ·cases hs
  ·rename_i q l0 u0 l r hx hl hr
   split at hs
   ·rename_i hb
    split at hs
    ·rename_i md sz X N
     split at hs
     ·rename_i hsz
      obtain ⟨z,hz,he⟩:=bd.1 hs
      cases he
      exact TL hop hb.1 hb.2 E.sized hf hx N hsz hl hr hz
     ·cases hs
    ·cases hs
   ·cases hs
  ·cases hs
 ·rename_i t x hi mx hop
  split at hs
  ·rename_i q n u v hx aT a0
   split at hs
   ·rename_i hb
    split at hs
    ·rename_i md sz X N
     split at hs
     ·obtain ⟨z,hz,he⟩:=bd.1 hs
      cases he
      obtain ⟨y,H,S⟩:=bd.1 hz
      split at S
      ·rename_i a1
       cases S
       exact abC hop hb.1 hb.2 hf hx N aT a0 H a1
      ·cases S
     ·cases hs
    ·cases hs
   ·cases hs
  ·cases hs
 ·rename_i s x f hop
  split at hs
  ·rename_i fd G
   split at hs
   ·cases hs
   ·rename_i Q
    split at hs
    ·rename_i q j hx;cases hs;exact rV hop (hf.ev x) G Q (.inl ⟨_,_,hx,rfl⟩)
    ·rename_i q i j hx;cases hs;exact rV hop (hf.ev x) G Q (.inr (.inl ⟨_,_,_,hx,rfl⟩))
    ·rename_i y i j hx;cases hs;exact rV hop (hf.ev x) G Q (.inr (.inr (.inl ⟨_,_,_,hx,rfl⟩)))
    ·rename_i y j hx;cases hs;exact rV hop (hf.ev x) G Q (.inr (.inr (.inr (.inl ⟨_,_,hx,rfl⟩))))
    ·rename_i y hx
     obtain ⟨z,hz,he⟩:=bd.1 hs
     cases he
     unfold gA at hz
     split at hz
     ·cases hz;exact rV hop (hf.ev x) G Q (.inr (.inr (.inr (.inr ⟨_,_,hx,rfl⟩))))
     ·cases hz
    ·cases hs
  ·cases hs
 ·rename_i t x f hop
  split at hs
  ·rename_i fd cs G hx
   split at hs
   ·rename_i D;cases hs;exact YF hop (hf.ev x) G hx (.inl ⟨D,rfl⟩)
   ·split at hs
    ·rename_i D
     split at hs
     ·rename_i c hc;cases hs;exact YF hop (hf.ev x) G hx (.inr ⟨D,hc⟩)
     ·cases hs
    ·cases hs
  ·cases hs
 ·rename_i t x i hop
  split at hs
  ·rename_i u n hx hi
   split at hs
   ·rename_i hb
    obtain ⟨z,hz,he⟩:=bd.1 hs
    cases he
    exact Jv hop hb (hf.ev x) (hf.ev i) hx hi hz
   ·cases hs
  ·rename_i q n y hx hi
   split at hs
   ·rename_i hb
    split at hs
    ·rename_i md sz X N
     split at hs
     ·rename_i hsz
      obtain ⟨z,hz,he⟩:=bd.1 hs
      cases he
      exact JP hop hb.1 hb.2 E.sized (hf.ev x) (hf.ev i) hx hi N hsz hz
     ·cases hs
    ·cases hs
   ·cases hs
  ·rename_i q l u n hx hi
   split at hs
   ·rename_i hb
    split at hs
    ·rename_i md sz X N
     split at hs
     ·rename_i hsz
      obtain ⟨z,hz,he⟩:=bd.1 hs
      cases he
      exact Jw hop hb.1 hb.2 E.sized (hf.ev x) (hf.ev i) hx hi N hsz hz
     ·cases hs
    ·cases hs
   ·cases hs
  ·rename_i q j n hx hi
   split at hs
   ·rename_i len e hu
    split at hs
    ·rename_i hb
     obtain ⟨z,hz,he⟩:=bd.1 hs
     cases he
     exact J6 hop hu hb (hf.ev x) (hf.ev i) hx hi hz
    ·cases hs
   ·cases hs
  ·cases hs
 ·rename_i t x i hop
  split at hs
  ·rename_i u n hx hi
   split at hs
   ·rename_i hb
    obtain ⟨z,hz,he⟩:=bd.1 hs
    cases he
    exact Un hop hb (hf.ev x) (hf.ev i) hx hi hz
   ·cases hs
  ·rename_i cs n hx hi
   split at hs
   ·rename_i len e hu hl
    obtain ⟨m,hm,he⟩:=bd.1 hs
    split at he
    ·rename_i hc
     split at he
     ·rename_i D
      cases he
      exact HY hop hu (hf.ev x) (hf.ev i) hx hi hc.1 hc.2 hm (.inl ⟨D,rfl⟩)
     ·rename_i D
      split at he
      ·rename_i W
       obtain ⟨p',hp,he⟩:=bd.1 he
       cases he
       exact HY hop hu (hf.ev x) (hf.ev i) hx hi hc.1 hc.2 hm (.inr ⟨by simpa using D,W.1,W.2,hp⟩)
      ·cases he
    ·cases he
   ·rename_i len e l hu hl
    obtain ⟨m,hm,he⟩:=bd.1 hs
    split at he
    ·rename_i hlen
     split at he
     ·rename_i D;cases he;exact IQ hop hu (hf.ev x) (hf.ev i) hx hl hi hlen hm (.inl ⟨D,rfl⟩)
     ·split at he
      ·rename_i D;cases he;exact IQ hop hu (hf.ev x) (hf.ev i) hx hl hi hlen hm (.inr ⟨D.1,D.2,rfl⟩)
      ·cases he
    ·cases he
   ·cases hs
  ·cases hs
 ·rename_i x i hop
  split at hs
  ·rename_i cs hx
   split at hs
   ·rename_i c hc;cases hs;exact Z7 hop (hf.ev x) hx hc
   ·cases hs
  ·cases hs
 ·rename_i c hop
  split at hs
  ·rename_i b A
   split at hs
   ·cases hs
   ·rename_i hsz
    exact ZC hop A (by simpa using hsz) (by unfold cJ at I;rw [hop] at I;simp only [A] at I;exact I) hf E hs
  ·rename_i g A
   split at hs
   ·rename_i s N
    obtain ⟨Z,L⟩:=a2 g s N
    have K:=oW (P:=P) (w:=w) (a:=a) hop A Z
    have F:(match s.mode with | .pure | .own | .fresh | .look _=>true | _=>false)=true:=by
     unfold cJ at I
     rw [hop] at I
     simp only [A,N] at I
     exact I
    cases hm:s.mode with
    | pure=>
      have h2:=L
      unfold ay at h2
      rw [hm] at h2
      exact DA hm (cap:=[]) (by simpa using K) E hf (h2.1 w ok) (.refl _ _) (λhb=>⟨rfl,h2.1,h2.2 hb⟩) hs
    | own=>exact Ze hm K E hf L hn hs
    | fresh=>exact V6 hm K E hf L hn hs
    | look n=>exact XR hm K E hf L hs
    | cons=>rw [hm] at F;cases F
    | inpl=>rw [hm] at F;cases F
    | obj n=>rw [hm] at F;cases F
    | inl J=>rw [hm] at F;cases F
    | mko n=>rw [hm] at F;cases F
   ·cases hs
  ·rename_i f ao A
   exfalso
   have:cJ Γ o=false:=by
    unfold cJ
    rw [hop]
    simp only [A]
    cases f with
    | func g=>exact absurd rfl (ao g)
    | _=>rfl
   rw [this] at I;cases I
  ·rename_i recv name A
   exfalso
   have:cJ Γ o=false:=by
    unfold cJ
    rw [hop]
    simp only [A]
   rw [this] at I;cases I
 ·rename_i t x hop
  split at hs
  ·rename_i ht
   split at hs
   ·rename_i p' hx
    split at hs
    ·rename_i y h1 H M
     cases hs
     refine Qm hop ht E M ?_
     have r:=hf.ev x
     rw [hx] at r
     generalize a.eval x=v at r
     cases r with
     | agg _ vs hlen hrel=>
       obtain ⟨u,rfl⟩: ∃u,vs= #[u]:=by
        match vs,hlen with
        | ⟨[u]⟩,_=>exact ⟨u,rfl⟩
       exact .ifc1 t y u (qZ E 5 _ _ _ H (hrel 0 p' u rfl rfl))
    ·cases hs
   ·rename_i q hx
    split at hs
    ·split at hs
     ·rename_i y h1 H M
      cases hs
      exact Qm hop ht E M (.ifc t y _ (qZ E 5 _ _ _ H (hf.ev x)))
     ·cases hs
    ·cases hs
  ·cases hs
 ·cases hs
end
end Go.AM
namespace Go.AM
open Go.RowKit
section
variable {P:ha} {Γ:hd->Option FSig} {C:IV->List Nat->List (List IV)->Option (List IV)} {w0:eg} {ok0:O0} {o:r3} {a:Act} {w:eg} {ok:Nat->Prop} {mu:Mu} {h:List Ob} {fr:List PV} {p:PV} {h':List Ob}
theorem abj {c:r4} (hop:o.op= .call c) (hc:c.callee= .builtin .append) (hsz:c.argTypes.size=c.args.size) (i:Inv w0 ok0 w ok mu h) (d: ∀q,h.length<=q->mu q=none) (hf:Fr w ok mu fr a.tmps)
  (hs:oS P .append (c.argTypes.getD 0 0) (c.argTypes.getD 1 0) (c.args.toList.map (ev fr)) h (λp h=>some (p,h))=some (p,h')):uj P w0 ok0 o a w ok mu p h':=by
 unfold oS at hs
 split at hs<;>first | (rename_i hb _;cases hb;done) | skip
 ·rename_i y hb g
  obtain ⟨s,C,b,hx,x⟩:=XD g
  have f:c.argTypes.size=2:=by rw [hsz,b];rfl
  split at hs
  ·rename_i e
   split at hs
   ·rename_i ys k
    obtain ⟨z,hz,he⟩:=bd.1 hs
    cases he
    exact (EC hop hc b f e.1 e.2.1 e.2.2 i.q (d _ (ck _)) (hf.ev s) (hf.ev C) hx (by rw [x];exact k) hz).m i d
   ·cases hs
  ·cases hs
 ·rename_i q n y hb g
  obtain ⟨s,C,b,hx,x⟩:=XD g
  have f:c.argTypes.size=2:=by rw [hsz,b];rfl
  split at hs
  ·rename_i e
   split at hs
   ·rename_i sz F ys D k
    split at hs
    ·rename_i j
     obtain ⟨z,hz,he⟩:=bd.1 hs
     cases he
     subst j
     have rx:=hf.ev s
     rw [hx] at rx
     have r:Ej F 0 n=F:=by
      generalize a.eval s=v at rx
      cases rx with
      | buf q n A cap pl hm hn hh E=>
        have t:=i.ob q pl hm
        rw [D] at t
        obtain ⟨_,es,rfl,hlen,_⟩:=t.arrC E
        simp [Ej,hn,<-hlen]
     exact UX hop hc b f e.1 e.2.1 e.2.2 i d (hf.ev s) (hf.ev C) D (l:=0) (u:=n) (.inr ⟨n,hx,rfl,rfl⟩) rfl (by rw [x];exact k) (by rw [r];exact hz)
    ·cases hs
   ·cases hs
  ·cases hs
 ·rename_i q l u y hb g
  obtain ⟨s,C,b,hx,x⟩:=XD g
  have f:c.argTypes.size=2:=by rw [hsz,b];rfl
  split at hs
  ·rename_i e
   split at hs
   ·rename_i sz F ys D k
    split at hs
    ·rename_i j
     obtain ⟨z,hz,he⟩:=bd.1 hs
     cases he
     subst j
     exact UX hop hc b f e.1 e.2.1 e.2.2 i d (hf.ev s) (hf.ev C) D (l:=l) (u:=u) (.inl ⟨hx,trivial⟩) rfl (by rw [x];exact k) hz
    ·cases hs
   ·cases hs
  ·cases hs
 ·cases hs
theorem afD {c:r4} (hop:o.op= .call c) (hc:c.callee= .builtin .copy) (hsz:c.argTypes.size=c.args.size) (i:Inv w0 ok0 w ok mu h) (e: ∀q,h.length<=q->mu q=none) (hf:Fr w ok mu fr a.tmps)
  (hs:oS P .copy (c.argTypes.getD 0 0) (c.argTypes.getD 1 0) (c.args.toList.map (ev fr)) h (λp h=>some (p,h))=some (p,h')):uj P w0 ok0 o a w ok mu p h':=by
 unfold oS at hs
 split at hs<;>first | (rename_i hb _;cases hb;done) | skip
 ·rename_i q n y hb j
  obtain ⟨s,t,b,hx,r⟩:=XD j
  have g:c.argTypes.size=2:=by rw [hsz,b];rfl
  split at hs
  ·rename_i d
   split at hs
   ·rename_i sz v ys m k
    split at hs
    ·rename_i f
     obtain ⟨z,hz,he⟩:=bd.1 hs
     cases he
     exact abO hop hc b g d.1 d.2.1 d.2.2 i e (hf.ev s) (hf.ev t) m f (l:=0) (u:=n) (.inr ⟨n,hx,rfl,rfl⟩) (by rw [r];exact k) hz
    ·cases hs
   ·cases hs
  ·cases hs
 ·rename_i q l u y hb j
  obtain ⟨s,t,b,hx,r⟩:=XD j
  have g:c.argTypes.size=2:=by rw [hsz,b];rfl
  split at hs
  ·rename_i d
   split at hs
   ·rename_i sz v ys m k
    split at hs
    ·rename_i f
     obtain ⟨z,hz,he⟩:=bd.1 hs
     cases he
     exact abO hop hc b g d.1 d.2.1 d.2.2 i e (hf.ev s) (hf.ev t) m f (l:=l) (u:=u) (.inl hx) (by rw [r];exact k) hz
    ·cases hs
   ·cases hs
  ·cases hs
 ·cases hs
theorem acD {t:c9} {x y:eW} (hop:o.op= .store t x y) (i:Inv w0 ok0 w ok mu h) (b: ∀q,h.length<=q->mu q=none) (hf:Fr w ok mu fr a.tmps)
  (hs:storeT P t (ev fr x) (ev fr y) h (λp h=>some (p,h))=some (p,h')):uj P w0 ok0 o a w ok mu p h':=by
 unfold storeT at hs
 split at hs
 ·rename_i hc
  obtain ⟨e,hlen,f,c⟩:=hc
  split at hs
  ·rename_i q j hx
   split at hs
   ·rename_i cs g
    split at hs
    ·rename_i d
     cases hs
     exact V3 _ hop i b (hf.ev x) (hf.ev y) hx g e hlen f c d
    ·cases hs
   ·cases hs
  ·rename_i q k j hx
   split at hs
   ·rename_i sz m g
    split at hs
    ·rename_i vs l
     obtain ⟨z,hz,he⟩:=bd.1 hs
     cases he
     exact TJ hop i b (hf.ev x) (hf.ev y) hx g e hlen c l hz
    ·cases hs
   ·cases hs
  ·cases hs
 ·cases hs
theorem aft {c:r4} {g:hd} {s:FSig} (hop:o.op= .call c) (hc:c.callee= .value (.func g)) (k:Enters P g) (j:ay P g s) (b:s.mode= .cons) (i:Inv w0 ok0 w ok mu h) (d: ∀q,h.length<=q->mu q=none) (hf:Fr w ok mu fr a.tmps)
  (hs:bL s h (c.args.toList.map (ev fr)) (λp h=>some (p,h))=some (p,h')):uj P w0 ok0 o a w ok mu p h':=by
 have e:=oW (P:=P) (w:=w) (a:=a) hop hc k
 unfold bL at hs
 rw [b] at hs
 simp only at hs
 generalize hl:c.args.toList=l at hs e
 split at hs
 ·rename_i q n rest f
  cases l with
  | nil=>simp at f
  | cons x xs=>
    simp only [hU,ic] at f
    obtain ⟨hx,rfl⟩:=f
    split at hs
    ·rename_i sz y u
     split at hs
     ·rename_i as h1 has m
      split at hs
      ·rename_i v z t
       split at hs
       ·rename_i hsz
        obtain ⟨r,hr,he⟩:=bd.1 hs
        cases he
        exact aep e b j i d hf hx u has m t hsz hr
       ·cases hs
      ·cases hs
     ·cases hs
    ·cases hs
 ·cases hs
theorem aei {c:r4} {g:hd} {s:FSig} (hop:o.op= .call c) (hc:c.callee= .value (.func g)) (k:Enters P g) (j:ay P g s) (b:s.mode= .inpl) (i:Inv w0 ok0 w ok mu h) (d: ∀q,h.length<=q->mu q=none) (hf:Fr w ok mu fr a.tmps)
  (hs:bL s h (c.args.toList.map (ev fr)) (λp h=>some (p,h))=some (p,h')):uj P w0 ok0 o a w ok mu p h':=by
 have e:=oW (P:=P) (w:=w) (a:=a) hop hc k
 unfold bL at hs
 rw [b] at hs
 simp only at hs
 generalize hl:c.args.toList=l at hs e
 split at hs
 ·rename_i q n rest f
  cases l with
  | nil=>simp at f
  | cons x xs=>
    simp only [hU,ic] at f
    obtain ⟨hx,rfl⟩:=f
    split at hs
    ·rename_i sz u t
     split at hs
     ·rename_i as has m
      split at hs
      ·rename_i hsz
       obtain ⟨r,hr,he⟩:=bd.1 hs
       cases he
       exact aey e b j i d hf hx t has m hsz hr
      ·cases hs
     ·cases hs
    ·cases hs
 ·cases hs
theorem aae {c:r4} {g:hd} {s:FSig} {n:List Sc} (k:(execOp a.eval o).run P w= .ok (.enter g (c.args.toList.map a.eval).toArray) w) (u:ay P g s) (b:s.mode= .obj n) (i:Inv w0 ok0 w ok mu h) (e: ∀q,h.length<=q->mu q=none) (hf:Fr w ok mu fr a.tmps)
  (hs:bL s h (c.args.toList.map (ev fr)) (λp h=>some (p,h))=some (p,h')):uj P w0 ok0 o a w ok mu p h':=by
 unfold bL at hs
 rw [b] at hs
 simp only at hs
 generalize hl:c.args.toList=l at hs k
 split at hs
 ·rename_i q j rest f
  cases l with
  | nil=>simp at f
  | cons x xs=>
    simp only [hU,ic] at f
    obtain ⟨hx,rfl⟩:=f
    split at hs
    ·rename_i p as ht has t
     obtain ⟨r,hr,he⟩:=bd.1 hs
     cases he
     exact agE k b u i e hf hx ht has t hr
    ·cases hs
 ·rename_i rest f
  split at hs
  ·rename_i as has t
   obtain ⟨r,hr,he⟩:=bd.1 hs
   cases he
   rw [<-f] at has t
   have hrel:=kc i.q hf has
   rw [j1.1 t] at hrel
   have A: ∃v,as=[IV.nilp]::v:=by
    unfold lX at has
    split at has
    ·rw [f] at has
     obtain ⟨h1,h2⟩:=gp has
     obtain ⟨C,z,D⟩:=h2 0 (.imm .nilp) rfl
     have:C=[.nilp]:=by simpa [EE,PV.cells,qn] using D.symm
     subst this
     cases as with
     | nil=>cases z
     | cons y ys=>simp at z;exact ⟨ys,by rw [z]⟩
    ·cases has
   obtain ⟨v,rfl⟩:=A
   have d:=u
   unfold ay at d
   rw [b] at d
   exact (ab5 (fz:=[]) (cap:=[]) (args:=l.map a.eval) (by simpa using k) i.q (d.2 w (jG ok mu [])) (.refl _ _) hrel (r:=r) hr rfl).m i e
  ·cases hs
 ·cases hs
theorem afY {c:r4} {g:hd} {s:FSig} {n:List Sc} (hop:o.op= .call c) (hc:c.callee= .value (.func g)) (f:Enters P g) (e:ay P g s) (d:s.mode= .obj n) (i:Inv w0 ok0 w ok mu h) (b: ∀q,h.length<=q->mu q=none) (hf:Fr w ok mu fr a.tmps)
  (hs:bL s h (c.args.toList.map (ev fr)) (λp h=>some (p,h))=some (p,h')):uj P w0 ok0 o a w ok mu p h':=aae (oW (P:=P) (w:=w) (a:=a) hop hc f) e d i b hf hs
theorem adw (l:aF P Γ) {c:r4} {f:eW} (hop:o.op= .call c) (hc:c.callee= .value f) {fn:Fn} {caps:List PV} (rx:RP w ok mu (.clo fn caps) (a.eval f)) {s:FSig} (hk:SD Γ fn caps=some s) (i:Inv w0 ok0 w ok mu h) (b: ∀q,h.length<=q->mu q=none) (hf:Fr w ok mu fr a.tmps)
  (hs:bL s h (c.args.toList.map (ev fr)) (λp h=>some (p,h))=some (p,h')):uj P w0 ok0 o a w ok mu p h':=by
 unfold SD at hk
 split at hk
 ·rename_i g
  split at hk
  ·rename_i n m
   obtain ⟨k,e⟩:=l g n m
   generalize hv:a.eval f=v at rx
   cases rx with
   | clo _ _ cv hlen _=>
     have j:cv= #[]:=by
      apply hO
      simpa using hlen.symm
     subst j
     have d:=yA (P:=P) (w:=w) (a:=a) hop hc hv k
     simp only [List.append_nil] at d
     split at hk
     ·rename_i shp hm
      cases hk
      exact aae d e hm i b hf hs
     ·cases hk
  ·cases hk
 ·cases hk
theorem ahf {c:r4} {g:hd} {s:FSig} {n:List Sc} (hop:o.op= .call c) (hc:c.callee= .value (.func g)) (j:Enters P g) (f:ay P g s) (b:s.mode= .mko n) (i:Inv w0 ok0 w ok mu h) (d: ∀q,h.length<=q->mu q=none) (hf:Fr w ok mu fr a.tmps)
  (hs:bL s h (c.args.toList.map (ev fr)) (λp h=>some (p,h))=some (p,h')):uj P w0 ok0 o a w ok mu p h':=by
 have e:=oW (P:=P) (w:=w) (a:=a) hop hc j
 unfold bL at hs
 rw [b] at hs
 simp only at hs
 split at hs
 ·rename_i as h1 has k
  obtain ⟨r,hr,he⟩:=bd.1 hs
  cases he
  exact agx e b f i d hf has k hr
 ·cases hs
theorem af2 {g:hd} {s:FSig} {J:Inl} (b:ay P g s) (d:s.mode= .inl J) {xs:List eW} (f:(execOp a.eval o).run P w= .ok (.enter g (xs.map a.eval).toArray) w) (i:Inv w0 ok0 w ok mu h) (c: ∀q,h.length<=q->mu q=none) (hf:Fr w ok mu fr a.tmps)
  (hs:J.run (PV×List Ob) (xs.map (ev fr)) h (λp h=>some (p,h))=some (p,h')):uj P w0 ok0 o a w ok mu p h':=by
 unfold ay at b
 rw [d] at b
 refine ix.enter f (hS (b w0 ok0 w ok mu h _ (xs.map a.eval) p h' i c (by simp) (λk p v h1 h2=> ?_) hs) λe w' he=>he)
 rw [hH] at h1 h2
 cases hk:xs[k]? with
 | none=>rw [hk] at h1;cases h1
 | some x=>rw [hk] at h1 h2;cases h1;cases h2;exact hf.ev x
theorem afu (r:aF P Γ) {c:r4} {f:eW} (hop:o.op= .call c) (hc:c.callee= .value f) {fn:Fn} {caps:List PV} {J:Inl} (j:YK Γ fn=some J) (rx:RP w ok mu (.clo fn caps) (a.eval f)) (i:Inv w0 ok0 w ok mu h) (d: ∀q,h.length<=q->mu q=none) (hf:Fr w ok mu fr a.tmps)
  (hs:J.run (PV×List Ob) (c.args.toList.map (ev fr)++caps) h (λp h=>some (p,h))=some (p,h')):uj P w0 ok0 o a w ok mu p h':=by
 unfold YK at j
 split at j
 ·rename_i g
  split at j
  ·rename_i s t
   split at j
   ·rename_i u l
    cases j
    obtain ⟨n,b⟩:=r g s t
    generalize hv:a.eval f=v at rx
    cases rx with
    | clo _ _ cv hlen hrel=>
      have m:=yA (P:=P) (w:=w) (a:=a) hop hc hv n
      unfold ay at b
      rw [l] at b
      refine ix.enter m (hS (b w0 ok0 w ok mu h _ (c.args.toList.map a.eval++cv.toList) p h' i d (by simp [hlen]) (λk p v h1 h2=> ?_) hs) λe w' he=>he)
      by_cases hk:k < c.args.toList.length
      ·rw [b7 (by simpa using hk),hH] at h1 h2
       cases hx:c.args.toList[k]? with
       | none=>rw [hx] at h1;cases h1
       | some x=>rw [hx] at h1 h2;cases h1;cases h2;exact hf.ev x
      ·rw [ch (by simpa using hk),List.length_map] at h1 h2
       exact hrel _ p v h1 (by simpa using h2)
   ·cases j
  ·cases j
 ·cases j
theorem Xs {st:St} (u:aF P Γ) (E:COK P C) (hs:cZ P Γ C o st=some (p,h')) (hf:Fr w ok mu st.fr a.tmps) (i:Inv w0 ok0 w ok mu st.h) (d: ∀q,st.h.length<=q->mu q=none):uj P w0 ok0 o a w ok mu p h':=by
 by_cases k:cJ Γ o=true
 ·exact (S6 u E hs k hf i.q λ_=>d _ (ck _)).m i d
 ·unfold cJ at k
  split at k
  ·rename_i t x y hop
   unfold cZ gI at hs
   rw [hop] at hs
   exact acD hop i d hf hs
  ·rename_i t m x v hop
   unfold cZ gI at hs
   rw [hop] at hs
   simp only at hs
   split at hs
   ·rename_i V T q key val ht hm hx hv
    split at hs
    ·rename_i sz y F
     split at hs
     ·rename_i U hk
      obtain ⟨z,hz,he⟩:=bd.1 hs
      cases he
      obtain ⟨H,N⟩:=UI hz
      exact Ue hop ht i d hf hm F hx hv (Ya hk H) N
     ·cases hs
    ·cases hs
   ·cases hs
  ·rename_i c hop
   unfold cZ gI at hs
   rw [hop] at hs
   simp only at hs
   split at k
   ·rename_i b e
    cases b<;>simp [Af] at k
    ·rw [e] at hs
     simp only at hs
     split at hs
     ·cases hs
     ·rename_i hsz
      exact abj hop e (by simpa using hsz) i d hf hs
    ·rw [e] at hs
     simp only at hs
     split at hs
     ·cases hs
     ·rename_i hsz
      exact afD hop e (by simpa using hsz) i d hf hs
   ·rename_i g e
    rw [e] at hs
    simp only at hs
    split at hs
    ·rename_i s F
     obtain ⟨l,j⟩:=u g s F
     rw [F] at k
     simp only at k
     cases hm:s.mode with
     | pure=>rw [hm] at k;simp at k
     | own=>rw [hm] at k;simp at k
     | fresh=>rw [hm] at k;simp at k
     | look n=>rw [hm] at k;simp at k
     | inl J=>exact af2 j hm (oW (P:=P) (w:=w) (a:=a) hop e l) i d hf (by unfold bL at hs;rw [hm] at hs;exact hs)
     | cons=>exact aft hop e l j hm i d hf hs
     | inpl=>exact aei hop e l j hm i d hf hs
     | obj n=>exact afY hop e l j hm i d hf hs
     | mko n=>exact ahf hop e l j hm i d hf hs
    ·cases hs
   ·rename_i L K
    split at hs
    ·rename_i b e;exact absurd e (L b)
    ·rename_i g e;exact absurd e (K g)
    ·rename_i f R e
     have O:=i.q
     split at hs
     ·rename_i x hx
      have rx:=hf.ev f
      rw [hx] at rx
      cases rx with
      | imm rx=>
        exact (adX E hop e rx rfl (λb hb=>hb) O hf hs).m i d
     ·rename_i fn caps hx
      have rx:=hf.ev f
      rw [hx] at rx
      split at hs
      ·rename_i J S
       exact afu u hop e S rx i d hf hs
      ·split at hs
       ·rename_i s I
        exact adw u hop e rx I i d hf hs
       split at hs
       ·rename_i x h1 G D
        have M:=qZ O 5 _ _ _ G rx
        have Q:=O.frozen D
        have r:Later w ok mu w (jG ok mu (refs st.h 5 (.clo fn caps))) mu:=⟨⟨λ_ _=>rfl,λ_ h=> .inl h⟩,λ_ _ h=>h,.refl _⟩
        exact (aI.after D (adX E hop e M rfl (λb hb=>hb) Q (hf.later r) hs)).m i d
       ·cases hs
     ·cases hs
    ·rename_i recv name e
     split at hs
     ·rename_i A
      split at hs
      ·rename_i x hx
       have rx:=hf.ev recv
       rw [hx] at rx
       cases rx with
       | imm rx=>exact (agw E hop e A rx i.q hf hs).m i d
      ·cases hs
     ·cases hs
  ·simp at k
end
theorem Stay.refl (h:List Ob):Stay h h:=⟨ck _,λ_ _ _=>rfl⟩
theorem Stay.trans {h h1 h2:List Ob} (a:Stay h h1) (b:Stay h1 h2):Stay h h2:=
 ⟨e7 a.len b.len,λo c hr=>by
   have e:=a.keep o c hr
   rw [b.keep o (dq c a.len) (by rw [e];exact hr),e]⟩
theorem Stay.append (h news:List Ob):Stay h (h++news):=⟨by simp,λo a _=>by rw [aE,if_pos a]⟩
theorem Stay.set {h:List Ob} {q:Nat} (hr:isRw (getOb h q)=true) (ob:Ob):Stay h (h.set q ob):=
 ⟨by simp,λo a h1=>by
   rw [bz,if_neg]
   rintro ⟨rfl,_⟩
   rw [hr] at h1;cases h1⟩
theorem aag {h h1:List Ob} {q:Nat} (hf:fz1 h q=some h1):Stay h h1:=by
 unfold fz1 at hf
 split at hf
 ·rename_i cs a;cases hf;exact .set (by rw [a];rfl) _
 ·rename_i n x a;cases hf;exact .set (by rw [a];rfl) _
 ·cases hf;exact .refl _
 ·cases hf;exact .refl _
 ·cases hf
theorem kL: ∀{l:List Nat} {h h1:List Ob},wh h l=some h1->Stay h h1
 | [],h,h1,hf=>by simp only [wh,c6] at hf;subst hf;exact .refl _
 | q::l,h,h1,hf=>by
   simp only [wh] at hf
   obtain ⟨h2,a,b⟩:=bd.1 hf
   exact (aag a).trans (kL b)
theorem oH {R:Type} {x:IV} {t e:Unit->Option R} {r:R} (h:ae x t e=some r):(x= .bool true/\t ()=some r)\/(x= .bool false/\e ()=some r):=by
 unfold ae at h
 split at h
 ·exact .inl ⟨rfl,h⟩
 ·exact .inr ⟨rfl,h⟩
 ·cases h
section
variable {P:ha} {Γ:hd->Option FSig} {C:IV->List Nat->List (List IV)->Option (List IV)} {h h':List Ob} {p:PV}
theorem ET {s:FSig} {ps:List PV} (hs:bL s h ps (λp h=>some (p,h))=some (p,h')):Stay h h':=by
 unfold bL at hs
 split at hs
 ·split at hs
  ·rename_i as h1 _ hl
   obtain ⟨r,_,he⟩:=bd.1 hs
   cases he
   unfold ab7 at hl
   split at hl
   ·cases hl;exact .refl _
   ·exact kL hl
  ·cases hs
 ·split at hs
  ·obtain ⟨r,_,he⟩:=bd.1 hs
   cases he
   exact .append _ _
  ·cases hs
 ·split at hs
  ·rename_i q n rest
   split at hs
   ·split at hs
    ·rename_i as h1 _ a
     split at hs
     ·rename_i sz x c
      split at hs
      ·obtain ⟨r,_,he⟩:=bd.1 hs
       cases he
       exact (kL a).trans ((Stay.set (by rw [c];rfl) _).trans (.append _ _))
      ·cases hs
     ·cases hs
    ·cases hs
   ·cases hs
  ·cases hs
 ·split at hs
  ·split at hs
   ·rename_i sz x c
    split at hs
    ·split at hs
     ·obtain ⟨r,_,he⟩:=bd.1 hs
      cases he
      exact .set (by rw [c];rfl) _
     ·cases hs
    ·cases hs
   ·cases hs
  ·cases hs
 ·split at hs
  ·split at hs
   ·rename_i p as ht _ _
    obtain ⟨r,_,he⟩:=bd.1 hs
    cases he
    obtain ⟨h1,q,h2,g⟩:=Cf ht
    refine ⟨by simp [fD],λk hk hr=> ?_⟩
    have b:k∉p.2:= λd=>by have:=h1 k d;rw [hr] at this;cases this
    have f:q≠k:= λe=>b (e▸g)
    cases h2
    rw [bz,if_neg (λe=>f e.1),aE,if_pos (by rw [fD];exact hk),nC,if_neg b]
   ·cases hs
  ·split at hs
   ·obtain ⟨r,_,he⟩:=bd.1 hs
    cases he
    exact .refl _
   ·cases hs
  ·cases hs
 ·split at hs
  ·obtain ⟨r,_,he⟩:=bd.1 hs
   cases he
   exact .append _ _
  ·cases hs
 ·split at hs
  ·split at hs
   ·obtain ⟨r,_,he⟩:=bd.1 hs
    cases he
    exact .refl _
   ·cases hs
  ·cases hs
 ·exact Inl.stay _ _ _ _ _ hs
 ·split at hs
  ·rename_i a
   obtain ⟨r,_,he⟩:=bd.1 hs
   cases he
   exact (kL a).trans (Stay.append _ _)
  ·cases hs
theorem XS {t:c9} {a:PV} (hs:loadT P t a h (λp h=>some (p,h))=some (p,h')):Stay h h':=by
 unfold loadT at hs
 repeat' split at hs
 all_goals first
  | (cases hs;done)
  | (cases hs;exact .refl _)
  | (obtain ⟨r,_,he⟩:=bd.1 hs;cases he;exact .refl _)
theorem Uz {t:c9} {a v:PV} (hs:storeT P t a v h (λp h=>some (p,h))=some (p,h')):Stay h h':=by
 unfold storeT at hs
 split at hs
 ·split at hs
  ·split at hs
   ·rename_i cs b
    split at hs
    ·cases hs;exact .set (by rw [b];rfl) _
    ·cases hs
   ·cases hs
  ·split at hs
   ·rename_i sz x b
    split at hs
    ·obtain ⟨r,_,he⟩:=bd.1 hs
     cases he
     exact .set (by rw [b];rfl) _
    ·cases hs
   ·cases hs
  ·cases hs
 ·cases hs
theorem Xn {b:r2} {t0 t1:c9} {ps:List PV} (hs:oS P b t0 t1 ps h (λp h=>some (p,h))=some (p,h')):Stay h h':=by
 unfold oS at hs
 repeat' split at hs
 all_goals first
  | (cases hs;done)
  | (cases hs;exact .refl _)
  | (obtain ⟨r,_,he⟩:=bd.1 hs;cases he;exact .refl _)
  | (obtain ⟨r,_,he⟩:=bd.1 hs;cases he;exact .append _ _)
  | (rename_i a _ _;obtain ⟨r,_,he⟩:=bd.1 hs;cases he;exact (Stay.set (by rw [a];rfl) _).trans (.append _ _))
  | (rename_i a _ _;obtain ⟨r,_,he⟩:=bd.1 hs;cases he;exact Stay.set (by rw [a];rfl) _)
theorem qK {o:r3} {st:St} (hs:cZ P Γ C o st=some (p,h')):Stay st.h h':=by
 unfold cZ gI at hs
 repeat' split at hs
 all_goals first
  | (cases hs;done)
  | (obtain ⟨_,_,he⟩:=bd.1 hs;cases he;done)
  | (cases hs;exact .refl _)
  | (cases hs;exact .append _ _)
  | exact XS hs
  | exact Uz hs
  | exact Xn hs
  | exact ET hs
  | exact Inl.stay _ _ _ _ _ hs
  | (rename_i a;exact (kL a).trans (ET hs))
  | (obtain ⟨r,_,he⟩:=bd.1 hs;cases he;exact .refl _)
  | (obtain ⟨r,_,he⟩:=bd.1 hs;cases he;exact .append _ _)
  | (rcases oH hs with ⟨_,h1⟩ | ⟨_,h1⟩<;>cases h1<;>exact .refl _)
  | (obtain ⟨r,_,he⟩:=bd.1 hs;obtain ⟨_,_,b⟩:=bd.1 he;cases b;exact .refl _)
  | (obtain ⟨r,_,he⟩:=bd.1 hs;split at he<;>first | (cases he;done) | skip;split at he<;>first | (cases he;exact .refl _) | skip;split at he<;>first | (cases he;exact .refl _) | (cases he;done))
  | (rename_i a;cases hs;exact kL a)
  | (rename_i a _;cases hs;exact (kL a).trans (.append _ _))
  | (rename_i c _ _ _;obtain ⟨r,_,he⟩:=bd.1 hs;cases he;exact .set (by rw [c];rfl) _)
end
end Go.AM
