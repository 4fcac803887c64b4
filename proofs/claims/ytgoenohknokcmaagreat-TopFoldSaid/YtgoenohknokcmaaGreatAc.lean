/- The abstract machine's regions against the model's, first part: guards; operations one behind the other. -/
import Derived.Test.YtgoenohknokcmaaGreatAb
open Option renaming bind_eq_some_iff->ad,map_eq_some_iff->gf,bind_some->hN,getD_some->hZ,isNone_iff_eq_none->l1,map_some->pe
open List renaming getD_eq_getElem?_getD->bd,mem_cons_of_mem->b0,mem_append_right->b2,mem_append_left->b7,mem_cons_self->cb,getElem?_eq_some_iff->e6,getElem?_eq_none->e8,all_eq_true->gd,getElem?_eq_getElem->g0,getElem?_append_left->g7,getElem?_append_right->g8,contains_eq_mem->hD,length_append->hF,filterMap_cons->hG,getElem?_map->hH,mem_of_getElem?->hJ,mem_cons->hU,getElem?_set_ne->hY,getElem?_take_of_lt->j2,mem_append->j3,map_congr_left->k0,mem_filterMap->lf,getElem?_drop->l0,getElem?_set->l3,range->l5,append_assoc->ma,map_cons->me,getElem?_cons_zero->mv,mem_iff_getElem?->nm,length_set->nn,mem_toArray->n4,mem_flatMap->n5,getElem_mem->o1,mem_range->pk,mapM_cons->p0,mem_map->ri
open Array renaming getElem?_eq_getElem->bA,getElem?_eq_some_iff->eP,getD_eq_getD_getElem?->fc,getElem?_setIfInBounds->kv,getElem_mem->l4,foldl_induction->m1
open Bool renaming and_eq_true->b6,false_eq_true->hM,not_eq_true'->hP,not_eq_false->ki,false_or->kt,or_eq_true->m3
open Go renaming World->fv,Oper->hT,FuncId->hX,Value->h7,Program->kh,Code->pv,Operand->qs,Exit->q0,TypeId->rl
open Nat renaming lt_or_ge->ha,lt_of_lt_of_le->hI,le_refl->hO,testBit->ie,zero_add->iH,add_zero->j1,le_trans->mx,testBit_two_pow->n0,le_of_not_lt->n3,testBit_or->pf
open Go.Region renaming binds->hE,ready->km,wanted->p1
open Option.some renaming injEq->hR,inj->o2
open Go.Result renaming andThen_ok->hV
open Go.Sem renaming run_bind->kq,run_pure->n1
set_option linter.unusedVariables false
set_option linter.unusedSimpArgs false
namespace Go.AM
open Go.RowKit
structure Step (w:fv) (ok:Nat->Prop) (mu:Mu) (h:List Ob) (a:Act) (w':fv) (ok':Nat->Prop) (mu':Mu) (h':List Ob) (a':Act) (ds:List Nat):Prop where
 later:Later w ok mu w' ok' mu'
 stay:Stay h h'
 defers:a'.defers=a.defers
 same: ∀t,t∉ds->a'.tmps[t]? =a.tmps[t]?
 size:a'.tmps.size=a.tmps.size
theorem Step.refl (w:fv) (ok:Nat->Prop) (mu:Mu) (h:List Ob) (a:Act) (ds:List Nat):Step w ok mu h a w ok mu h a ds:=⟨.refl _ _ _,.refl _,rfl,λ_ _=>rfl,rfl⟩
theorem Step.trans {w w1 w2:fv} {ok d e:Nat->Prop} {mu b c:Mu} {h h1 h2:List Ob} {a g i:Act} {ds es:List Nat} (x:Step w ok mu h a w1 d b h1 g ds) (y:Step w1 d b h1 g w2 e c h2 i es):Step w ok mu h a w2 e c h2 i (ds++es):=
 ⟨x.later.trans y.later,x.stay.trans y.stay,y.defers.trans x.defers,λt f=>by
   simp only [j3,not_or] at f
   rw [y.same t f.2,x.same t f.1],y.size.trans x.size⟩
theorem Step.sub {w w1:fv} {ok c:Nat->Prop} {mu b:Mu} {h h1:List Ob} {a d:Act} {ds es:List Nat} (x:Step w ok mu h a w1 c b h1 d ds) (hs: ∀t,t∈ds->t∈es):Step w ok mu h a w1 c b h1 d es:=
 ⟨x.later,x.stay,x.defers,λt e=>x.same t λh=>e (hs t h),x.size⟩
structure Cfg (w0:fv) (ok0:O0) (w:fv) (ok:Nat->Prop) (mu:Mu) (st:St) (a:Act):Prop where
 inv:Inv w0 ok0 w ok mu st.h
 fresh: ∀q,st.h.length<=q->mu q=none
 fr:Fr w ok mu st.fr a.tmps
def guardVal (ops:Array hT) (o:hT) (fr:List PV):Option Bool:=
 match o.guard with
 | none=>some true
 | some (j,want)=>
   match (ops[j]?).bind (·.dst) with
   | none=>none
   | some s=>
     match fr.getD s .undef with
     | .imm (.bool b)=>some (b==want)
     | .skip=>some false
     | _=>none
theorem abF {fr:List PV} {s:Nat} {p:PV} (h:fr.getD s .undef=p) (hp:p≠ .undef):fr.set s p=fr:=by
 apply List.ext_getElem?
 intro i
 rw [l3]
 by_cases e:s=i
 ·subst e
  by_cases hl:s < fr.length
  ·simp only [if_true,hl]
   rw [bd,g0 hl] at h
   simp only [hZ] at h
   rw [g0 hl,h]
  ·exfalso
   rw [bd,e8 (n3 hl)] at h
   exact hp h.symm
 ·simp [e]
section
variable {P:kh} {Γ:hX->Option FSig} {C:IV->List Nat->List (List IV)->Option (List IV)} {w0:fv} {ok0:O0} {ops:Array hT} {o:hT} {a:Act} {w:fv} {ok:Nat->Prop} {mu:Mu} {st:St} {R:Type}
theorem dr {k:St->Option R} {r:R} (hs:vj P Γ C ops o st k=some r): ∃b,guardVal ops o st.fr=some b/\
  ((b=true/\ ∃p h',cI P Γ C o st=some (p,h')/\k ⟨setDst st.fr o.dst p,h'⟩=some r)\/(b=false/\k ⟨setDst st.fr o.dst .skip,st.h⟩=some r)):=by
 have go: ∀{st:St},dV P Γ C o st (λp h=>k ⟨setDst st.fr o.dst p,h⟩)=some r-> ∃p h',cI P Γ C o st=some (p,h')/\k ⟨setDst st.fr o.dst p,h'⟩=some r:=by
  intro st hs
  rw [XK] at hs
  obtain ⟨⟨p,h'⟩,h1,h2⟩:=ad.1 hs
  exact ⟨p,h',h1,h2⟩
 unfold vj at hs
 unfold guardVal
 simp only at hs
 split at hs
 ·rename_i h0;rw [h0];exact ⟨true,rfl,.inl ⟨rfl,go hs⟩⟩
 ·rename_i j want c
  rw [c]
  simp only
  split at hs
  ·cases hs
  ·rename_i s hj
   simp only [hj]
   split at hs
   ·rename_i x a
    have key: ∀b:Bool,x= .bool b->(⟨st.fr.set s (.imm (.bool b)),st.h⟩:St)=st:=by
     rintro b rfl
     rw [abF a (by simp)]
    rcases nR hs with ⟨rfl,h1⟩ | ⟨rfl,h1⟩
    ·rw [key true rfl] at h1
     simp only [a]
     cases want
     ·simp only [hM,if_false] at h1
      exact ⟨false,rfl,.inr ⟨rfl,h1⟩⟩
     ·simp only [if_true] at h1
      exact ⟨true,rfl,.inl ⟨rfl,go h1⟩⟩
    ·rw [key false rfl] at h1
     simp only [a]
     cases want
     ·simp only [hM,if_false] at h1
      exact ⟨true,rfl,.inl ⟨rfl,go h1⟩⟩
     ·simp only [if_true] at h1
      exact ⟨false,rfl,.inr ⟨rfl,h1⟩⟩
   ·rename_i a
    simp only [a]
    exact ⟨false,rfl,.inr ⟨rfl,hs⟩⟩
   ·cases hs
theorem Hg {fr:List PV} {b:Bool} (e:guardVal ops o fr=some b) (hf: ∀s v,o.guard.bind (λg=>(ops[g.1]?).bind (·.dst))=some s->a.tmps[s]? =some v->RP w ok mu (fr.getD s .undef) v) (hsz:fr.length=a.tmps.size):p1 o (yielded ops a.tmps)=b:=by
 unfold guardVal at e
 unfold p1
 split at e
 ·rename_i h0;rw [h0];cases e;rfl
 ·rename_i j want h0
  rw [h0]
  simp only
  split at e
  ·cases e
  ·rename_i s hj
   have f:fr.getD s .undef≠ .undef->s < a.tmps.size:=by
    intro h
    rw [<-hsz]
    rcases ha s fr.length with h1 | h1
    ·exact h1
    ·rw [bd,e8 h1] at h;exact absurd rfl h
   have hb:o.guard.bind (λg=>(ops[g.1]?).bind (·.dst))=some s:=by rw [h0];exact hj
   split at e
   ·rename_i c i
    cases e
    have hl:=f (by rw [i];simp)
    have hv:a.tmps[s]? =some a.tmps[s]:=bA hl
    have r:=hf s _ hb hv
    rw [i] at r
    have d:a.tmps[s]= .bool c:=by
     generalize a.tmps[s]=v at r
     cases r with | imm r=>cases r;rfl
    rw [d] at hv
    have k:yielded ops a.tmps j=some c:=by
     unfold yielded
     rw [hj]
     simp only [hN]
     rw [hv]
    rw [k]
    cases c<;>cases want<;>rfl
   ·rename_i i
    cases e
    have hl:=f (by rw [i];simp)
    have hv:a.tmps[s]? =some a.tmps[s]:=bA hl
    have r:=hf s _ hb hv
    rw [i] at r
    have d:a.tmps[s]=undef:=by
     generalize a.tmps[s]=v at r
     cases r;rfl
    rw [d] at hv
    have k:yielded ops a.tmps j=none:=by
     unfold yielded
     rw [hj]
     simp only [hN]
     rw [hv]
     rfl
    rw [k]
    rfl
   ·cases e
theorem Fr.at {fr:List PV} {tmps:Array h7} (r:Fr w ok mu fr tmps) {s:Nat} {v:h7} (h:tmps[s]? =some v):RP w ok mu (fr.getD s .undef) v:=by
 have hl:s < tmps.size:=(eP.1 h).1
 have a:s < fr.length:=by rw [r.size];exact hl
 have h1:fr[s]? =some fr[s]:=g0 a
 rw [bd,h1]
 exact r.rel s _ v h1 h
theorem Ef {d:Option Nat} {v:h7} {t:Nat} (b:d≠some t):(a.put d v).tmps[t]? =a.tmps[t]? :=by
 cases d with
 | none=>rfl
 | some d=>
   have:d≠t:= λe=>b (by rw [e])
   simp [Act.put,Array.getElem?_setIfInBounds_ne this]
theorem Qs {d:Option Nat} {v:h7}:(a.put d v).tmps.size=a.tmps.size:=by cases d<;>simp [Act.put]
theorem qR {d:Option Nat} {v:h7}:(a.put d v).defers=a.defers:=by cases d<;>rfl
theorem Fr.put {fr:List PV} (r:Fr w ok mu fr a.tmps) (d:Option Nat) {p:PV} {v:h7} (h:RP w ok mu p v):Fr w ok mu (setDst fr d p) (a.put d v).tmps:=by
 cases d with
 | none=>exact r
 | some d=>exact r.set d h
theorem Gr (i:aF P Γ) (x:COK P C) {Q:q0->Act->fv->Prop} {k:St->Option R} {r:R}: ∀(l:List hT) (st:St) (a:Act) (w:fv) (ok:Nat->Prop) (mu:Mu),mj P Γ C ops l st k=some r->Cfg w0 ok0 w ok mu st a->
  (∀d a' w' ok' mu',k d=some r->Cfg w0 ok0 w' ok' mu' d a'->Step w ok mu st.h a w' ok' mu' d.h a' (dsts l)->Q .normal a' w')->wpList P ops Q l a w
 | [],st,a,w,ok,mu,hs,hc,hk=>hk st a w ok mu hs hc (.refl _ _ _ _ _ _)
 | o::l,st,a,w,ok,mu,hs,hc,hk=>by
   simp only [mj] at hs
   obtain ⟨b,A,g⟩:=dr hs
   have hw:=Hg (w:=w) (ok:=ok) (mu:=mu) (a:=a) A (λs v _ hv=>hc.fr.at hv) hc.fr.size
   have n: ∀t,t∈dsts l->t∈dsts (o::l):= λt f=>by
    simp only [dsts,hG] at*
    split
    ·exact f
    ·exact b0 _ f
   have z: ∀t,o.dst=some t->t∈dsts (o::l):= λt f=>by
    simp only [dsts,hG,f]
    exact cb
   unfold wpList
   rw [hw]
   rcases g with ⟨rfl,p,h',q,c⟩ | ⟨rfl,c⟩
   ·simp only [if_true]
    left
    refine XL i x q hc.fr hc.inv hc.fresh _ _ λv w' hr=> ?_
    obtain ⟨ok',mu',hl,hi,hp,y⟩:=hr
    refine Gr i x l _ _ _ ok' mu' c ⟨hi,y,(hc.fr.later hl).put o.dst hp⟩ λd a' w2 m j h1 h2 u=>hk d a' w2 m j h1 h2 ?_
    have h0:Step w ok mu st.h a w' ok' mu' h' (a.put o.dst v) (dsts (o::l)):=⟨hl,p9 q,qR,λt f=>Ef λe=>f (z t e),Qs⟩
    exact (h0.trans (u.sub n)).sub λt f=>by simpa using f
   ·simp only [hM,if_false]
    refine Gr i x l _ _ _ ok mu c ⟨hc.inv,hc.fresh,hc.fr.put o.dst .skip⟩ λd a' w2 m j h1 h2 u=>hk d a' w2 m j h1 h2 ?_
    have h0:Step w ok mu st.h a w ok mu st.h (a.put o.dst undef) (dsts (o::l)):=⟨.refl _ _ _,.refl _,qR,λt f=>Ef λe=>f (z t e),Qs⟩
    exact (h0.trans (u.sub n)).sub λt f=>by simpa using f
end
end Go.AM
namespace Go.AM
open Go.RowKit
def ObFz (x y:Ob):Prop:=y=x\/(∃m cs,x= .box m cs/\y= .box .fz cs)\/ ∃m s z,x= .arr m s z/\y= .arr .fz s z
theorem ObFz.trans {x y z:Ob} (a:ObFz x y) (b:ObFz y z):ObFz x z:=by
 rcases a with rfl | ⟨m,cs,rfl,rfl⟩ | ⟨m,s,u,rfl,rfl⟩
 ·exact b
 ·rcases b with rfl | ⟨d,c,e,rfl⟩ | ⟨d,f,u',e,rfl⟩
  ·exact .inr (.inl ⟨m,cs,rfl,rfl⟩)
  ·cases e;exact .inr (.inl ⟨m,cs,rfl,rfl⟩)
  ·cases e
 ·rcases b with rfl | ⟨d,c,e,rfl⟩ | ⟨d,f,u',e,rfl⟩
  ·exact .inr (.inr ⟨m,s,u,rfl,rfl⟩)
  ·cases e
  ·cases e;exact .inr (.inr ⟨m,s,u,rfl,rfl⟩)
theorem ObFz.okL {w:fv} {ok:Nat->Prop} {mu:Mu} {pl:Pl} {x y:Ob} (a:ObFz x y) (h:ObOk w ok mu pl y):ObOk w ok mu pl x:=by
 rcases a with rfl | ⟨m,cs,rfl,rfl⟩ | ⟨m,s,u,rfl,rfl⟩<;>exact h
theorem ObFz.jl {w:fv} {ok:Nat->Prop} {mu:Mu} {pl:Pl} {x y:Ob} (a:ObFz x y) (h:ObOk w ok mu pl x):ObOk w ok mu pl y:=by
 rcases a with rfl | ⟨m,cs,rfl,rfl⟩ | ⟨m,s,u,rfl,rfl⟩<;>exact h
theorem ObFz.fz {x y:Ob} (a:ObFz x y) (h:x.fz=true):y.fz=true:=by
 rcases a with rfl | ⟨m,cs,rfl,rfl⟩ | ⟨m,s,u,rfl,rfl⟩
 ·exact h
 ·rfl
 ·rfl
theorem ObFz.live {x y:Ob} (a:ObFz x y):y.live=x.live:=by
 rcases a with rfl | ⟨m,cs,rfl,rfl⟩ | ⟨m,s,u,rfl,rfl⟩<;>rfl
structure SubH (h H:List Ob):Prop where
 len:h.length<=H.length
 same: ∀o,o < h.length->ObFz (getOb h o) (getOb H o)
theorem SubH.refl (h:List Ob):SubH h h:=⟨hO _,λ_ _=> .inl rfl⟩
theorem SubH.trans {h h1 h2:List Ob} (a:SubH h h1) (b:SubH h1 h2):SubH h h2:=
 ⟨mx a.len b.len,λo c=>(a.same o c).trans (b.same o (hI c a.len))⟩
theorem Frozen.subH {h h1:List Ob} {l:List Nat} (f:Frozen h h1 l):SubH h h1:=
 ⟨by rw [f.len];exact hO _,λo _=>by
   rcases f.same o with e | ⟨_,cs,m,a,b⟩ | ⟨s,x,m,a,b⟩
   ·exact .inl e
   ·exact .inr (.inl ⟨m,cs,a,b⟩)
   ·exact .inr (.inr ⟨m,s,x,a,b⟩)⟩
theorem SubH.append (h news:List Ob):SubH h (h++news):=⟨by simp,λo a=>by rw [aA,if_pos a];exact .inl rfl⟩
theorem SubH.uO {h h1:List Ob} {l:List Nat} (hf:uO h l=some h1) (news:List Ob):SubH h (h1++news):=(fh hf).subH.trans (.append _ _)
section
variable {P:kh} {Γ:hX->Option FSig} {C:IV->List Nat->List (List IV)->Option (List IV)} {h h':List Ob} {p:PV}
theorem Rt {l:List Nat} {h1:List Ob} (hf:AM.uO h l=some h1):SubH h h1:=(fh hf).subH
theorem ZR {t:rl} {a:PV} (hs:loadT P t a h (λp h=>some (p,h))=some (p,h')):SubH h h':=by
 unfold loadT at hs
 repeat' split at hs
 all_goals first
  | (cases hs;done)
  | (cases hs;exact .refl _)
  | (obtain ⟨r,_,he⟩:=ad.1 hs;cases he;exact .refl _)
theorem Y4 {b:Builtin} {t0 t1:rl} {ps:List PV} (a:(!AX b)=true) (hs:oc P b t0 t1 ps h (λp h=>some (p,h))=some (p,h')):SubH h h':=by
 unfold oc at hs
 split at hs<;>first | (cases a;done) | skip
 all_goals (repeat' split at hs)
 all_goals first
  | (cases hs;done)
  | (cases hs;exact .refl _)
  | (obtain ⟨r,_,he⟩:=ad.1 hs;cases he;exact .refl _)
theorem AN {s:FSig} {ps:List PV} (a:s.mode= .pure\/s.mode= .own\/s.mode= .fresh\/ ∃n,s.mode= .look n) (hs:bq s h ps (λp h=>some (p,h))=some (p,h')):SubH h h':=by
 unfold bq at hs
 rcases a with a | a | a | ⟨n,a⟩<;>rw [a] at hs<;>simp only at hs
 ·split at hs
  ·rename_i as h1 _ hl
   obtain ⟨r,_,he⟩:=ad.1 hs
   cases he
   unfold YL at hl
   split at hl
   ·cases hl;exact .refl _
   ·exact Rt hl
  ·cases hs
 ·split at hs
  ·obtain ⟨r,_,he⟩:=ad.1 hs
   cases he
   exact .append _ _
  ·cases hs
 ·split at hs
  ·obtain ⟨r,_,he⟩:=ad.1 hs
   cases he
   exact .append _ _
  ·cases hs
 ·split at hs
  ·split at hs
   ·obtain ⟨r,_,he⟩:=ad.1 hs
    cases he
    exact .refl _
   ·cases hs
  ·cases hs
theorem KA {o:hT} {c:Call} (hop:o.op= .call c) (a:cJ Γ o=true):(∀b,c.callee= .builtin b->(!AX b)=true)/\ ∀g s,c.callee= .value (.func g)->Γ g=some s->s.mode= .pure\/s.mode= .own\/s.mode= .fresh\/ ∃n,s.mode= .look n:=by
 unfold cJ at a
 rw [hop] at a
 simp only at a
 refine ⟨λb hb=> ?_,λg s d hs=> ?_⟩
 ·rw [hb] at a;exact a
 ·rw [d] at a
  simp only [hs] at a
  cases hm:s.mode<;>rw [hm] at a<;>simp_all
theorem ZM {o:hT} {c:Call} {f:qs} (hop:o.op= .call c) (hc:c.callee= .value f) (b: ∀g,f= .func g->False) (a:cJ Γ o=true):False:=by
 unfold cJ at a
 rw [hop] at a
 simp only [hc] at a
 cases f with
 | func g=>exact b g rfl
 | _=>cases a
theorem Zd {o:hT} {st:St} (c:cJ Γ o=true) (hs:cI P Γ C o st=some (p,h')):SubH st.h h':=by
 unfold cI dV at hs
 repeat' split at hs
 all_goals first
  | (cases hs;done)
  | (obtain ⟨_,_,he⟩:=ad.1 hs;cases he;done)
  | (cases hs;exact .refl _)
  | (cases hs;exact .append _ _)
  | exact ZR hs
  | (rename_i hop;simp [cJ,hop] at c;done)
  | (rename_i b e _;exact Y4 ((KA ‹_› c).1 _ ‹_›) hs)
  | (rename_i s f;exact AN ((KA ‹_› c).2 _ _ ‹_› ‹_›) hs)
  | exact AN (.inl rfl) hs
  | (rename_i a;exact (Rt a).trans (AN (.inl rfl) hs))
  | (obtain ⟨r,_,he⟩:=ad.1 hs;cases he;exact .refl _)
  | (obtain ⟨r,_,he⟩:=ad.1 hs;cases he;exact .append _ _)
  | (rcases nR hs with ⟨_,h1⟩ | ⟨_,h1⟩<;>cases h1<;>exact .refl _)
  | (obtain ⟨r,_,he⟩:=ad.1 hs;obtain ⟨_,_,d⟩:=ad.1 he;cases d;exact .refl _)
  | (obtain ⟨r,_,he⟩:=ad.1 hs;split at he<;>first | (cases he;done) | skip;split at he<;>first | (cases he;exact .refl _) | skip;split at he<;>first | (cases he;exact .refl _) | (cases he;done))
  | (rename_i a;cases hs;exact Rt a)
  | (rename_i a _;cases hs;exact SubH.uO a _)
  | exact (ZM ‹o.op= .call _› ‹_=Callee.value _› ‹∀g,_=Operand.func g->False› c).elim
  | (exfalso;have:cJ Γ o=false:=by { unfold cJ;simp only [*] }
     rw [this] at c;cases c)
end
section
variable {w0:fv} {ok0:O0} {w w':fv} {ok ok':Nat->Prop} {mu mu':Mu} {H:List Ob} {n:Nat} {news:List Ob} {fz:List Nat} {p:PV} {v:h7}
theorem Grow.later' (g:Grow w ok mu n news fz p v w' ok' mu') (hok: ∀b,ok b->b < w.heap.size) (hn:news≠[]->mu n=none):Later w ok mu w' ok' mu':=by
 rcases g.obs with ⟨_,e⟩ | ⟨ob,pl,e,_⟩
 ·have a:mu'=mu:=funext λo=>by
   by_cases h:o=n
   ·rw [h,e]
   ·exact g.same o h
  subst a
  refine ⟨⟨λb hb=>g.below.block b (hok b hb),g.more⟩,λ_ _ h=>h,λb c T z hb=>⟨c,z,?_,rfl⟩⟩
  rw [g.below.block b (eP.1 hb).1];exact hb
 ·exact g.later hok (hn (by rw [e];simp))
theorem Inv.growAt (i:Inv w0 ok0 w ok mu H) (hn:news≠[]->mu n=none) (g:Grow w ok mu n news fz p v w' ok' mu') (y: ∀q∈fz,(getOb H q).fz=true) (C: ∀ob,news=[ob]->ObFz ob (getOb H n)):Inv w0 ok0 w' ok' mu' H:=by
 have hl:=g.later' i.okw hn
 have hold: ∀o pl,mu' o=some pl->(mu o=some pl)\/(o=n/\ ∃ob,news=[ob]/\ob.live=true/\ObOk w' ok' mu' pl ob/\ ∀b base,pl.loc=some (b,base)->w.heap.size<=b/\b < w'.heap.size/\ ¬ok' b):=by
  intro o pl d
  by_cases e:o=n
  ·subst e
   rcases g.obs with ⟨_,f⟩ | ⟨ob,pl',f,D,h1,h2,a⟩
   ·exact .inl (by rw [<-f];exact d)
   ·rw [d] at D;cases D
    exact .inr ⟨rfl,ob,f,h1,h2,a⟩
  ·exact .inl (by rw [<-g.same o e];exact d)
 have l:w0.heap.size<=w.heap.size:=i.below.size
 refine ⟨i.below.trans (g.below.mono l),λb hb=> ?_,λb hb=> ?_,λo pl d=> ?_,λo pl b base d hb=> ?_,λo o' pl pl' b base base' d A hb h c r=> ?_⟩
 ·rcases g.new b hb with h1 | h1 | ⟨q,_,pl,base,h2,a⟩
  ·exact hI (i.okw b h1) g.below.size
  ·exact h1.2
  ·exact hI (i.own q pl b base h2 a).2.1 g.below.size
 ·rcases g.new b hb with h1 | h1 | ⟨q,_,pl,base,h2,a⟩
  ·exact i.okb b h1
  ·exact .inr (.inl (mx l h1.1))
  ·exact .inr (i.own q pl b base h2 a).1
 ·rcases hold o pl d with h1 | ⟨rfl,ob,f,_,h2,_⟩
  ·exact (i.ob o pl h1).later hl λb base hb=>g.below.block b (i.own o pl b base h1 hb).2.1
  ·exact (C ob f).jl h2
 ·rcases hold o pl d with h1 | ⟨rfl,ob,f,_,h2,a⟩
  ·obtain ⟨t,u,x⟩:=i.own o pl b base h1 hb
   refine ⟨t,hI u g.below.size,λc k hok=> ?_⟩
   rcases g.new b hok with E | E | ⟨q,L,pl',base',J,K⟩
   ·exact x c k E
   ·omega
   ·have j:=y q L
    have z:(getOb H q).live=true:=by
     cases M:getOb H q with
     | dead=>rw [M] at j;cases j
     | box _ _=>rfl
     | arr _ _ _=>rfl
    have:=i.inj o q pl pl' b base base' h1 J hb K c z
    subst this
    rw [j] at k;cases k
  ·obtain ⟨t,u,x⟩:=a b base hb
   exact ⟨.inl (mx l t),u,λ_ _=>x⟩
 ·rcases hold o pl d with h1 | ⟨e,ob,f,_,h2,a⟩<;>rcases hold o' pl' A with m | ⟨F,N,G,_,I,s⟩
  ·exact i.inj o o' pl pl' b base base' h1 m hb h c r
  ·have:=(i.own o pl b base h1 hb).2.1
   have:=(s b base' h).1
   omega
  ·have:=(i.own o' pl' b base' m h).2.1
   have:=(a b base hb).1
   omega
  ·rw [e,F]
end
end Go.AM
namespace Go.AM
open Go.RowKit
section
variable {P:kh} {Γ:hX->Option FSig} {C:IV->List Nat->List (List IV)->Option (List IV)} {h h':List Ob} {p:PV} {fr fr':List PV}
theorem Ie {x:Option qs} (a: ∀y∈x.toArray,ev fr y=ev fr' y):oS fr x=oS fr' x:=by
 cases x with
 | none=>rfl
 | some y=>simp only [oS];rw [a y (by simp)]
theorem KY {l:Array qs} (hl: ∀x∈l,ev fr x=ev fr' x):l.toList.map (ev fr)=l.toList.map (ev fr'):=
 k0 λx a=>hl x (by simpa using a)
theorem Vb {l:Array (Nat×qs)} (hl: ∀x∈(l.toList.map (·.2)).toArray,ev fr x=ev fr' x):(l.toList.map λp=>(p.1,ev fr p.2))=l.toList.map λp=>(p.1,ev fr' p.2):=
 k0 λx a=>by rw [hl x.2 (by simp only [n4,ri];exact ⟨x,a,rfl⟩)]
theorem Rl {k:hX->Bool} {l:Array (Nat×qs)} (hl: ∀x∈(l.toList.map (·.2)).toArray,ev fr x=ev fr' x):(l.toList.map λp=>(p.1,Z3 k fr p.2))=l.toList.map λp=>(p.1,Z3 k fr' p.2):=
 k0 λx a=>by
  have:=hl x.2 (by simp only [n4,ri];exact ⟨x,a,rfl⟩)
  congr 1
  unfold Z3
  split
  ·rfl
  ·exact this
theorem Hy {o:hT} (g: ∀x∈o.op.operands,ev fr x=ev fr' x):cI P Γ C o ⟨fr,h⟩=cI P Γ C o ⟨fr',h⟩:=by
 obtain ⟨dst,op,type,pos,after,guard⟩:=o
 unfold cI dV
 cases op<;>simp only [Op.operands] at g<;>simp only
 case build t ps=>rw [Rl g]
 case buildSlice t n ps=>rw [Vb g]
 case makeMap t r=>cases r<;>rfl
 case mapUpdate t m x v=>rw [g m (by simp),g x (by simp),g v (by simp)]
 case lookup t m x c=>rw [g m (by simp),g x (by simp)]
 case makeInterface t x=>rw [g x (by simp)]
 case makeFunc fn first caps=>
  have:caps.toList.map (ev fr)=caps.toList.map (ev fr'):=KY λx j=>g x (by simp [j])
  rw [this]
 case slice t x lo hi s=>
  have h1:ev fr x=ev fr' x:=g x (by simp)
  have h2:oS fr lo=oS fr' lo:=Ie λy k=>g y (by simp [k])
  have l:oS fr hi=oS fr' hi:=Ie λy k=>g y (by simp [k])
  cases s with
  | none=>simp only;rw [h1,h2,l]
  | some m=>
    have p:ev fr m=ev fr' m:=g m (by simp)
    cases lo with
    | some y=>cases hi<;>rfl
    | none=>
      cases hi with
      | none=>rfl
      | some y=>
        have q:ev fr y=ev fr' y:=g y (by simp)
        simp only [h1,p,q]
 case call c=>
  have i:c.args.toList.map (ev fr)=c.args.toList.map (ev fr'):=KY λx j=>g x (by simp [Call.operands,j])
  simp only [i]
  cases hc:c.callee with
  | value f=>
    have hf:ev fr f=ev fr' f:=g f (by simp [Call.operands,hc])
    cases f<;>simp only<;>first | rfl | (rw [hf])
  | invoke r m=>
    have hf:ev fr r=ev fr' r:=g r (by simp [Call.operands,hc])
    simp only [hf]
  | builtin b=>rfl
 all_goals first
  | rfl
  | (rename_i a b c d e;rw [g _ (by simp:c∈ #[c,d])];rw [g _ (by simp:d∈ #[c,d])])
  | (simp only [g _ (by simp)];done)
  | (simp_all;done)
theorem uZ {o:hT} (hb:floatB o=true) (hk:okF o fr=true) (hs:cI P Γ C o ⟨fr,h⟩=some (p,h')) (H:List Ob):h'=h/\cI P Γ C o ⟨fr,H⟩=some (p,H):=by
 obtain ⟨dst,op,type,pos,after,guard⟩:=o
 cases op<;>simp only [floatB,reduceCtorEq] at hb<;>simp only [cI,dV] at hs ⊢ <;>simp only [okF] at hk
 case move x=>cases hs;exact ⟨rfl,rfl⟩
 case assign x=>cases hs;exact ⟨rfl,rfl⟩
 case pick c x y=>
  split at hs
  ·rcases nR hs with ⟨rfl,h1⟩ | ⟨rfl,h1⟩<;>cases h1<;>exact ⟨rfl,rfl⟩
  ·cases hs
 case binOp op t x y t'=>
  split at hs
  ·split at hs
   ·rename_i hb
    obtain ⟨z,hz,he⟩:=ad.1 hs
    cases he
    exact ⟨rfl,by rw [if_pos hb,hz];rfl⟩
   ·rename_i hb
    split at hs
    ·rename_i a
     obtain ⟨z,hz,he⟩:=ad.1 hs
     cases he
     exact ⟨rfl,by rw [if_neg hb,if_pos a,hz];rfl⟩
    ·rename_i a
     obtain ⟨z,hz,he⟩:=ad.1 hs
     cases he
     exact ⟨rfl,by rw [if_neg hb,if_neg a,hz];rfl⟩
  ·split at hs
   ·rename_i hb
    obtain ⟨z,hz,he⟩:=ad.1 hs
    cases he
    exact ⟨rfl,by rw [if_pos hb,hz];rfl⟩
   ·cases hs
  ·split at hs
   ·rename_i hb
    split at hs
    ·rename_i h1 h2
     obtain ⟨z,hz,he⟩:=ad.1 hs
     cases he
     exact ⟨rfl,by rw [if_pos hb];simp only [hz];rfl⟩
    ·cases hs
   ·cases hs
  ·cases hs
 case unOp op t x=>
  split at hs
  ·obtain ⟨z,hz,he⟩:=ad.1 hs
   cases he
   exact ⟨rfl,by rw [hz];rfl⟩
  ·cases hs
 case slice t x lo hi g=>
  cases g with
  | some m=>
    cases lo with
    | some y=>cases hi<;>cases hs
    | none=>
      cases hi with
      | none=>cases hs
      | some y=>
        simp only at hs
        split at hs
        ·rename_i b _ _;rw [b] at hk;cases hk
        ·cases hs
  | none=>
  simp only at hs ⊢
  split at hs
  ·split at hs
   ·rename_i hb
    obtain ⟨z,hz,he⟩:=ad.1 hs
    cases he
    exact ⟨rfl,by rw [if_pos hb,hz];rfl⟩
   ·rename_i hb
    split at hs
    ·rename_i a
     obtain ⟨z,hz,he⟩:=ad.1 hs
     cases he
     exact ⟨rfl,by rw [if_neg hb,if_pos a,hz];rfl⟩
    ·cases hs
  ·rename_i b _ _;rw [b] at hk;cases hk
  ·rename_i b _ _;rw [b] at hk;cases hk
  ·cases hs
 case indexAddr t x i=>
  split at hs
  ·split at hs
   ·rename_i hb
    obtain ⟨z,hz,he⟩:=ad.1 hs
    cases he
    exact ⟨rfl,by rw [if_pos hb,hz];rfl⟩
   ·cases hs
  ·rename_i b _;rw [b] at hk;cases hk
  ·rename_i b _;rw [b] at hk;cases hk
  ·split at hs
   ·rename_i hu
    split at hs
    ·rename_i hb
     obtain ⟨z,hz,he⟩:=ad.1 hs
     cases he
     exact ⟨rfl,by rw [if_pos hb,hz];rfl⟩
    ·cases hs
   ·cases hs
  ·cases hs
 case field t x f=>
  split at hs
  ·split at hs
   ·rename_i hb
    cases hs
    exact ⟨rfl,by rw [if_pos hb]⟩
   ·rename_i hb
    split at hs
    ·rename_i a
     split at hs
     ·rename_i hc
      cases hs
      exact ⟨rfl,by rw [if_neg hb,if_pos a]⟩
     ·cases hs
    ·cases hs
  ·cases hs
 case nilCheck x=>
  split at hs
  ·obtain ⟨z,hz,he⟩:=ad.1 hs
   cases he
   exact ⟨rfl,by rw [hz];rfl⟩
  all_goals first | (cases hs;exact ⟨rfl,rfl⟩) | cases hs
 case fieldAddr s x f=>
  split at hs
  ·split at hs
   ·cases hs
   ·rename_i hz
    rw [if_neg hz]
    split at hs
    all_goals first
     | (cases hs;exact ⟨rfl,rfl⟩)
     | (obtain ⟨z,hz,he⟩:=ad.1 hs;cases he;exact ⟨rfl,by rw [hz];rfl⟩)
     | cases hs
  ·cases hs
 case convert s d x=>
  split at hk
  ·rename_i y e
   simp only [e,oZ] at hs ⊢
   split at hs
   all_goals first
    | (obtain ⟨z,hz,he⟩:=ad.1 hs;cases he;exact ⟨rfl,by rw [hz];rfl⟩)
    | (split at hs
       ·obtain ⟨z,hz,he⟩:=ad.1 hs;cases he;exact ⟨rfl,by simp only [*,hN]⟩
       ·cases hs)
    | cases hs
  ·cases hk
 case extract x i=>
  split at hs
  ·split at hs
   ·cases hs;exact ⟨rfl,rfl⟩
   ·cases hs
  ·cases hs
theorem HC {o:hT} (hb:floatB o=true):cJ Γ o=true:=by
 unfold floatB at hb
 unfold cJ
 split at hb<;>first | (rename_i hop;rw [hop]) | cases hb
end
def loadB (o:hT):Bool:=match o.op with | .load _ _=>true | _=>false
section
variable {P:kh} {Γ:hX->Option FSig} {C:IV->List Nat->List (List IV)->Option (List IV)} {h h':List Ob} {p:PV} {fr:List PV}
theorem K8 {o:hT} (hb:loadB o=true):cJ Γ o=true:=by
 unfold loadB at hb
 unfold cJ
 split at hb<;>first | (rename_i hop;rw [hop]) | cases hb
theorem BH {q:Nat} (h1:h.length<=q):getOb h q= .dead:=by unfold getOb;rw [bd,e8 h1];rfl
theorem TY {S:List Nat} {o:hT} (hb:loadB o=true) (hk:FT S o fr=true) (hs:cI P Γ C o ⟨fr,h⟩=some (p,h')) (H:List Ob) (d: ∀q∈S,q < h.length->getOb H q=getOb h q):h'=h/\cI P Γ C o ⟨fr,H⟩=some (p,H):=by
 obtain ⟨dst,op,type,pos,after,guard⟩:=o
 cases op<;>simp only [loadB,reduceCtorEq] at hb
 case load t a=>
  simp only [FT] at hk
  split at hk
  ·rename_i q j c
   have hm:q∈S:=by simpa using hk
   simp only [cI,dV] at hs ⊢
   rw [c] at hs ⊢
   have b:q < h.length:=by
    rcases ha q h.length with h1 | h1
    ·exact h1
    ·exfalso
     simp only [loadT,BH h1] at hs
     repeat' split at hs
     all_goals cases hs
   simp only [loadT,d q hm b] at hs ⊢
   split at hs
   ·rename_i h1
    rw [if_pos h1]
    split at hs
    ·split at hs
     ·rename_i h2
      cases hs
      exact ⟨rfl,by rw [if_pos h2]⟩
     ·cases hs
    ·cases hs
   ·rename_i h1
    rw [if_neg h1]
    split at hs
    ·rename_i h2
     rw [if_pos h2]
     split at hs
     ·split at hs
      ·cases hs
       exact ⟨rfl,rfl⟩
      ·cases hs
     ·cases hs
    ·cases hs
  ·rename_i q i j c
   have hm:q∈S:=by simpa using hk
   simp only [cI,dV] at hs ⊢
   rw [c] at hs ⊢
   have b:q < h.length:=by
    rcases ha q h.length with h1 | h1
    ·exact h1
    ·exfalso
     simp only [loadT,BH h1] at hs
     repeat' split at hs
     all_goals cases hs
   simp only [loadT,d q hm b] at hs ⊢
   repeat' split at hs
   all_goals first
    | (cases hs;done)
    | (obtain ⟨z,hz,he⟩:=ad.1 hs;cases he;exact ⟨rfl,by simp only [*,if_pos,if_neg,not_false_eq_true,hN,hM,if_false,if_true]⟩)
  ·rename_i x i j c
   simp only [cI,dV] at hs ⊢
   rw [c] at hs ⊢
   simp only [loadT] at hs ⊢
   repeat' split at hs
   all_goals first
    | (cases hs;done)
    | (obtain ⟨z,hz,he⟩:=ad.1 hs;cases he;exact ⟨rfl,by simp only [*,if_pos,if_neg,not_false_eq_true,hN,hM,if_false,if_true]⟩)
  ·cases hk
theorem Yx {S:List Nat} {o:hT} (hb:floatB o=true\/loadB o=true) (hk:FT S o fr=true) (hs:cI P Γ C o ⟨fr,h⟩=some (p,h')) (H:List Ob) (g: ∀q∈S,q < h.length->getOb H q=getOb h q):h'=h/\cI P Γ C o ⟨fr,H⟩=some (p,H):=by
 rcases hb with hb | hb
 ·by_cases d: ∃t x lo hi k,o.op= .slice t x lo hi k
  ·obtain ⟨t,x,lo,hi,k,hop⟩:=d
   by_cases b:Gd (ev fr x)=true
   ·exact uZ hb (by unfold okF;rw [hop];exact b) hs H
   ·unfold FT at hk
    rw [hop] at hk
    simp only [b,kt] at hk
    split at hk
    ·rename_i q n e
     have hm: ∀{md:Md} {sz:Nat} {x:IV},getOb h q= .arr md sz x->getOb H q=getOb h q:= λ{md sz x} a=>g q (by simpa using hk) (by
      rcases ha q h.length with h1 | h1
      ·exact h1
      ·rw [BH h1] at a;cases a)
     unfold cI dV at hs ⊢
     rw [hop] at hs ⊢
     cases k with
     | none=>
       simp only [e] at hs ⊢
       split at hs
       ·rename_i h1 _ _;cases h1
       ·rename_i h1 h2 f
        cases h1
        split at hs
        ·rename_i hc
         split at hs
         ·rename_i a
          split at hs
          ·rename_i hsz
           obtain ⟨z,hz,he⟩:=ad.1 hs
           cases he
           exact ⟨rfl,by simp only [h2,f,if_pos hc,hm a,a,if_pos hsz,hz,hN]⟩
          ·cases hs
         ·cases hs
        ·cases hs
       ·rename_i h1 _ _;cases h1
       ·cases hs
     | some m=>
       cases lo with
       | some y=>cases hi<;>cases hs
       | none=>
         cases hi with
         | none=>cases hs
         | some y=>
           simp only [e] at hs ⊢
           split at hs
           ·rename_i h1 h2 f
            cases h1
            split at hs
            ·rename_i hc
             split at hs
             ·rename_i a
              split at hs
              ·rename_i hsz
               obtain ⟨z,hz,he⟩:=ad.1 hs
               cases he
               exact ⟨rfl,by simp only [h2,f,if_pos hc,hm a,a,if_pos hsz,hz,hN]⟩
              ·cases hs
             ·cases hs
            ·cases hs
           ·cases hs
    ·cases hk
  ·by_cases c: ∃t x i,o.op= .indexAddr t x i
   ·obtain ⟨t,x,i,hop⟩:=c
    by_cases b:Gd (ev fr x)=true
    ·exact uZ hb (by unfold okF;rw [hop];exact b) hs H
    ·unfold FT at hk
     rw [hop] at hk
     simp only [b,kt] at hk
     split at hk
     ·rename_i q n e
      have hm: ∀{md:Md} {sz:Nat} {x:IV},getOb h q= .arr md sz x->getOb H q=getOb h q:= λ{md sz x} a=>g q (by simpa using hk) (by
       rcases ha q h.length with h1 | h1
       ·exact h1
       ·rw [BH h1] at a;cases a)
      unfold cI dV at hs ⊢
      rw [hop] at hs ⊢
      simp only [e] at hs ⊢
      split at hs
      ·rename_i h1 _;cases h1
      ·rename_i h1 h2
       cases h1
       split at hs
       ·rename_i hc
        split at hs
        ·rename_i a
         split at hs
         ·rename_i hsz
          obtain ⟨z,hz,he⟩:=ad.1 hs
          cases he
          exact ⟨rfl,by simp only [h2,if_pos hc,hm a,a,if_pos hsz,hz,hN]⟩
         ·cases hs
        ·cases hs
       ·cases hs
      ·rename_i h1 _;cases h1
      ·rename_i h1 _;cases h1
      ·cases hs
     ·cases hk
   ·have j:okF o fr=true:=by
     unfold FT at hk
     split at hk
     ·rename_i hop;simp [floatB,hop] at hb
     ·rename_i hop;exact absurd ⟨_,_,_,_,_,hop⟩ d
     ·rename_i hop;exact absurd ⟨_,_,_,hop⟩ c
     ·exact hk
    exact uZ hb j hs H
 ·exact TY hb hk hs H g
theorem Xs {S:List Nat} {s:FSig} {ps:List PV} {q:Nat} (hm:q∈S) (f:q < h.length) (hk:Z8 S s h ps=true) (hs:bq s h ps (λp h=>some (p,h))=some (p,h')):getOb h' q=getOb h q:=by
 unfold Z8 at hk
 unfold bq at hs
 split at hk
 ·rename_i b
  rw [b] at hs
  simp only at hs
  split at hs
  ·rename_i as h1 _ hl
   obtain ⟨r,_,he⟩:=ad.1 hs
   cases he
   unfold YL at hl
   split at hl
   ·cases hl;rfl
   ·rw [List.isEmpty_iff.1 hk] at hl
    cases hl;rfl
  ·cases hs
 ·rename_i shp b
  rw [b] at hs
  simp only at hs
  split at hk
  ·rename_i o j l
   simp only at hs
   split at hk
   ·rename_i x a
    rw [a] at hs
    split at hs
    ·rename_i m as h1 h2 k
     cases h1
     obtain ⟨r,_,he⟩:=ad.1 hs
     cases he
     have c:q∉x.2:= λe=>by
      have:=gd.1 hk q e
      simp [hm] at this
     have i:o∈x.2:=by
      unfold Am at a
      split at a
      ·rename_i o' d
       cases d
       split at a
       ·split at a
        ·split at a
         ·cases a;exact cb
         ·cases a
        ·cases a
       ·cases a
      ·cases a
     rw [bk,if_neg (by rintro ⟨g,_⟩;subst g;exact c i),aA,if_pos (by rw [dX];exact f),kU,if_neg c]
    ·cases hs
   ·cases hk
  ·cases hk
 ·cases hk
theorem YZ {S:List Nat×Bool} {o:hT} {q:Nat} (hm:q∈S.1) (d:q < h.length) (i:S.2=true->isRw (getOb h q)=false) (hk:NN Γ S o ⟨fr,h⟩=true) (hs:cI P Γ C o ⟨fr,h⟩=some (p,h')):getOb h' q=getOb h q:=by
 unfold NN at hk
 split at hk
 ·rename_i he;rw [he] at hm;cases hm
 ·split at hk
  ·rename_i t a v hop
   split at hk
   ·rename_i m j u
    have f:m≠q:= λe=>by subst e;simp [hm] at hk
    unfold cI dV at hs
    rw [hop] at hs
    simp only [u] at hs
    unfold storeT at hs
    split at hs
    ·simp only at hs
     split at hs
     ·split at hs
      ·cases hs
       rw [bk,if_neg (λe=>f e.1)]
      ·cases hs
     ·cases hs
    ·cases hs
   ·cases hk
  ·rename_i c hop
   rcases Bool.or_eq_true_iff.1 hk with hk | hk
   ·exact (p9 hs).keep q d (i hk)
   ·split at hk
    ·rename_i b
     split at hk
     ·rename_i x l hl
      unfold cI dV at hs
      rw [hop] at hs
      simp only [b,hl,me] at hs
      split at hs
      ·cases hs
      ·split at hk
       ·rename_i k
        rw [k] at hs
        unfold oc at hs
        split at hs<;>(try contradiction)<;>(try cases hs)<;>rename_i hh<;>(try (simp at hh;done))
        all_goals
         repeat' split at hs
         all_goals first
          | cases hs
          | (obtain ⟨z,hz,he⟩:=ad.1 hs;cases he;rw [aA,if_pos d])
       ·rename_i m n k
        have f:m≠q:= λe=>by subst e;simp [hm] at hk
        rw [k] at hs
        unfold oc at hs
        split at hs<;>(try contradiction)<;>(try cases hs)<;>rename_i hh<;>(try (simp at hh;done))
        all_goals
         simp only [List.cons.injEq,PV.buf.injEq] at hh
         repeat' split at hs
         all_goals first
          | cases hs
          | (obtain ⟨z,hz,he⟩:=ad.1 hs;cases he;rw [aA,if_pos (by simpa using d),bk,if_neg (λe=>f (by first | exact hh.1.1.trans e.1 | exact e.1 | omega))])
       ·cases hk
     ·cases hk
    ·rename_i g b
     split at hk
     ·rename_i s r
      unfold cI dV at hs
      rw [hop] at hs
      simp only [b,r] at hs
      exact Xs hm d hk hs
     ·cases hk
    ·cases hk
  ·simp only [b6] at hk
   rw [(uZ hk.1 hk.2 hs h).1]
theorem adC {o:hT} {a:Act} {w:fv} {ok:Nat->Prop} {mu:Mu} (D:aF P Γ) (J:COK P C) (hb:allocB o=true) (hs:bsP P Γ C o fr=some p) (hf:Fr w ok mu fr a.tmps) (G:InvQ w ok mu h):aG P o a w ok mu h p h:=by
 have L:cJ Γ o=true:=by
  unfold allocB at hb
  unfold cJ
  split at hb
  ·rename_i h1 _;rw [h1]
  ·cases hb
 unfold bsP at hs
 split at hs
 ·rename_i n sz es A
  cases hs
  have s:Fr w ok (λ_=>none) (Fx fr) a.tmps:=by
   refine ⟨by simp [Fx,hf.size],λt p v h1 h2=> ?_⟩
   unfold Fx at h1
   rw [hH] at h1
   obtain ⟨H,l,rfl⟩:=gf.1 h1
   have r:=hf.rel t H v l h2
   cases H with
   | imm x=>cases r with | imm r=>exact .imm r
   | _=>exact .undef _
  have E:InvQ w ok (λ_=>none) []:=⟨G.okw,λ_ _ h=>by (cases h),λ_ _ _ _ h=>by (cases h)⟩
  obtain ⟨news,fz,h1,u,hh,K⟩:=QN (st:=⟨Fx fr,[]⟩) D J A L s E (λ_=>rfl)
  refine ⟨[],[],h,rfl,by simp,K.mono λv w' ⟨ok',mu',g⟩=> ?_⟩
  have i:news=[.arr .rw sz (.lst es)]:=by
   have hl:=(fh u).len
   have k:h1=[]:=List.length_eq_zero_iff.1 (by simpa using hl)
   subst k
   simpa using hh.symm
  subst i
  rcases g.obs with ⟨h2,_⟩ | ⟨ob,pl,h2,l,M,I,m⟩
  ·cases h2
  ·simp only [List.cons.injEq,and_true] at h2
   subst h2
   have f:mu' 0=some pl:=l
   have F:InvQ w' ok' mu' [.arr .rw sz (.lst es)]:=by
    refine ⟨λb hb=> ?_,λq pl' c=> ?_,λq pl' b base c hb=> ?_⟩
    ·rcases g.new b hb with d | d | ⟨o',_,pl',base,j,_⟩
     ·exact hI (G.okw b d) g.below.size
     ·exact d.2
     ·cases j
    ·by_cases e:q=0
     ·subst e
      rw [f] at c;cases c
      exact I
     ·have:=g.same q (by simpa using e)
      rw [this] at c;cases c
    ·by_cases e:q=0
     ·subst e
      rw [f] at c;cases c
      exact (m b base hb).2.1
     ·have:=g.same q (by simpa using e)
      rw [this] at c;cases c
   have z:RV w' (jl ok' mu' [0]) (.lst es) v:=qA F 1 (.buf 0 n) (.lst es) v rfl g.rp
   refine ⟨jl ok' mu' [0],mu,g.below,λb hb=> .inl (g.more b hb),λb hb=> ?_,λ_ _=>rfl,.inl ⟨rfl,rfl⟩,.imm z⟩
   rcases hb with hb | ⟨o',y,pl',base,d,j⟩
   ·rcases g.new b hb with d | d | ⟨o',_,pl',base,j,_⟩
    ·exact .inl d
    ·exact .inr (.inl d)
    ·cases j
   ·rw [List.mem_singleton.1 y,f] at d;cases d
    exact .inr (.inl ⟨(m b base j).1,(m b base j).2.1⟩)
 ·cases hs
end
def Xi (o:hT):Bool:=
 match o.op with
 | .call c=>(match c.callee with | .builtin b=>aaI b | _=>false)
 | _=>false
def quietA (Γ:hX->Option FSig) (o:hT):Bool:=cJ Γ o||Xi o
section
variable {P:kh} {Γ:hX->Option FSig} {C:IV->List Nat->List (List IV)->Option (List IV)} {h h':List Ob} {p:PV} {fr fr':List PV}
theorem Um {o:hT} (hb:Xi o=true) (hk:W7 o fr=true): ∃c x l,o.op= .call c/\c.callee= .builtin .append/\c.args.toList=x::l/\ev fr x= .nils:=by
 unfold Xi at hb
 split at hb
 ·rename_i c hop
  split at hb
  ·rename_i b hc
   cases b<;>simp [aaI] at hb
   unfold W7 at hk
   rw [hop] at hk
   simp only [hc] at hk
   split at hk
   ·rename_i x l hl
    refine ⟨c,x,l,hop,hc,hl,?_⟩
    unfold abE at hk
    split at hk
    ·assumption
    ·cases hk
   ·cases hk
  ·cases hb
 ·cases hb
theorem Xm {o:hT} {st:St} (a:cJ Γ o=true\/(Xi o=true/\W7 o st.fr=true)) (hs:cI P Γ C o st=some (p,h')):SubH st.h h':=by
 rcases a with a | ⟨hb,hk⟩
 ·exact Zd a hs
 ·obtain ⟨c,x,l,hop,hc,hl,b⟩:=Um hb hk
  unfold cI dV at hs
  rw [hop] at hs
  simp only [hc,hl,me,b] at hs
  split at hs
  ·cases hs
  ·unfold oc at hs
   repeat' split at hs
   all_goals first
    | (cases hs;done)
    | (rename_i e _;cases e;done)
    | (obtain ⟨r,_,he⟩:=ad.1 hs;cases he;exact .append _ _)
    | (exfalso;simp_all;done)
theorem acp {o:hT} {a:Act} {w:fv} {ok:Nat->Prop} {mu:Mu} {st:St} (i:aF P Γ) (m:COK P C) (hs:cI P Γ C o st=some (p,h')) (f:cJ Γ o=true\/(Xi o=true/\W7 o st.fr=true)) (hf:Fr w ok mu st.fr a.tmps) (k:InvQ w ok mu st.h) (hn:h'.length≠st.h.length->mu st.h.length=none):aG P o a w ok mu st.h p h':=by
 rcases f with f | ⟨hb,hk⟩
 ·exact QN i m hs f hf k hn
 ·obtain ⟨c,x,l,hop,hc,hl,j⟩:=Um hb hk
  unfold cI dV at hs
  rw [hop] at hs
  simp only [hc,hl,me,j] at hs
  split at hs
  ·cases hs
  ·rename_i hsz
   have hsz:c.argTypes.size=c.args.size:=by simpa using hsz
   cases l with
   | nil=>simp [oc] at hs
   | cons y l=>
     cases l with
     | cons z l=>simp [oc] at hs
     | nil=>
       simp only [me,List.map_nil,oc] at hs
       have b:c.args= #[x,y]:=by rw [<-Array.toList_inj];simpa using hl
       have e:c.argTypes.size=2:=by rw [hsz,b];rfl
       split at hs
       ·rename_i d
        split at hs
        ·rename_i ys g
         obtain ⟨z,hz,he⟩:=ad.1 hs
         cases he
         exact Fa hop hc b e d.1 d.2.1 d.2.2 k (hn (by simp)) (hf.ev x) (hf.ev y) j g hz
        ·cases hs
       ·cases hs
end
end Go.AM
namespace Go.AM
open Go.RowKit
def Vf (ops:Array hT):Array Nat:=ops.foldl (λacc o=>acc.push (o.after.foldl (λs e=>if hE .any e then s|||2 ^ e.on|||acc.getD e.on 0 else s) 0)) #[]
inductive Pre (ops:Array hT):Nat->Nat->Prop
 | edge {j:Nat} {o:hT} {e:Edge} (h:ops[j]? =some o) (he:e∈o.after) (hb:hE .any e=true):Pre ops j e.on
 | trans {j:Nat} {o:hT} {e:Edge} {i:Nat} (h:ops[j]? =some o) (he:e∈o.after) (hb:hE .any e=true) (hp:Pre ops e.on i):Pre ops j i
theorem OX (ops:Array hT): ∀j i,((Vf ops).getD j 0).testBit i=true->Pre ops j i:=by
 have key:=m1 (as:=ops) (motive:= λk acc=>acc.size=k/\ ∀j i,(acc.getD j 0).testBit i=true->Pre ops j i) (init:= #[])
  (f:= λacc o=>acc.push (o.after.foldl (λs e=>if hE .any e then s|||2 ^ e.on|||acc.getD e.on 0 else s) 0)) ⟨rfl,λj i h=>by simp at h⟩ (by
    intro k acc ih
    obtain ⟨hsz,a⟩:=ih
    have hk:ops[k.1]? =some ops[k]:=bA k.2
    have inner:=m1 (as:=ops[k].after) (motive:= λ_ s=> ∀i,ie s i=true->Pre ops k i) (init:=0)
     (f:= λs e=>if hE .any e then s|||2 ^ e.on|||acc.getD e.on 0 else s) (λi h=>by simp at h) (by
       intro q s b i hi
       by_cases hb:hE .any ops[k].after[q]=true
       ·rw [if_pos hb] at hi
        simp only [pf,m3] at hi
        rcases hi with (hi | hi) | hi
        ·exact b i hi
        ·rw [n0] at hi
         have:ops[k].after[q].on=i:=by simpa using hi
         rw [<-this]
         exact .edge hk (l4 q.2) hb
        ·exact .trans hk (l4 q.2) hb (a _ i hi)
       ·rw [if_neg hb] at hi
        exact b i hi)
    refine ⟨by simp [hsz],λj i hi=> ?_⟩
    rw [fc,Array.getElem?_push] at hi
    split at hi
    ·rename_i e
     simp only [hZ] at hi
     rw [e,hsz]
     exact inner i hi
    ·refine a j i ?_
     rw [fc]
     exact hi)
 exact key.2
def PJ (ops:Array hT):Nat->List Nat->Bool
 | _,[]=>true
 | s,i::l=>(match ops[i]? with | some o=>o.after.all (λe=> !hE .any e||ie s e.on) | none=>false)&&PJ ops (s|||2 ^ i) l
theorem MZ (ops:Array hT): ∀(l:List Nat) (s:Nat),PJ ops s l=true-> ∀(k j:Nat) (o:hT) (e:Edge),l[k]? =some j->ops[j]? =some o->e∈o.after->hE .any e=true->ie s e.on=true\/ ∃k':Nat,k' < k/\l[k']? =some e.on
 | [],s,_,k,j,o,e,hk,_,_,_=>by simp at hk
 | i::l,s,h,k,j,o,e,hk,a,he,hb=>by
   simp only [PJ,b6] at h
   cases k with
   | zero=>
     simp at hk;subst hk
     rw [a] at h
     have:=Array.all_eq_true_iff_forall_mem.1 h.1 e he
     simp only [hb,Bool.not_true,kt] at this
     exact .inl this
   | succ k=>
     rcases MZ ops l _ h.2 k j o e (by simpa using hk) a he hb with h1 | ⟨k',h1,h2⟩
     ·simp only [pf,m3] at h1
      rcases h1 with h1 | h1
      ·exact .inl h1
      ·rw [n0] at h1
       have:i=e.on:=by simpa using h1
       exact .inr ⟨0,by omega,by simp [this]⟩
     ·exact .inr ⟨k'+1,by omega,by simpa using h2⟩
def SL (pm:Array Nat):List Nat->List Nat->Bool
 | _,[]=>true
 | done,b::l=>done.all (λi=>ie (pm.getD b 0) i)&&SL pm (b::done) l
theorem Iw (pm:Array Nat): ∀(l done:List Nat),SL pm done l=true-> ∀(k b:Nat),l[k]? =some b->(∀i∈done,ie (pm.getD b 0) i=true)/\ ∀(k' i:Nat),k' < k->l[k']? =some i->ie (pm.getD b 0) i=true
 | [],_,_,k,b,hk=>by simp at hk
 | x::l,done,h,k,b,hk=>by
   simp only [SL,b6] at h
   cases k with
   | zero=>
     simp at hk;subst hk
     exact ⟨λi hi=>gd.1 h.1 i hi,λk' i a=>by omega⟩
   | succ k=>
     obtain ⟨h1,h2⟩:=Iw pm l (x::done) h.2 k b (by simpa using hk)
     refine ⟨λi hi=>h1 i (b0 _ hi),λk' i a hi=> ?_⟩
     cases k' with
     | zero=>simp at hi;subst hi;exact h1 _ cb
     | succ k'=>exact h2 k' i (by omega) (by simpa using hi)
def adU (ops:Array hT) (pm:Array Nat):Bool:=
 (l5 ops.size).all λj=>match ops[j]? with
   | some o=>(o.looksAt ops).all λt=>(l5 ops.size).all λi=>match ops[i]? with
     | some oi=>oi.dst !=some t||i==j||ie (pm.getD j 0) i||ie (pm.getD i 0) j
     | none=>true
   | none=>true
theorem HQ: ∀{l:List Nat},dF l=true-> ∀(k k' j:Nat),l[k]? =some j->l[k']? =some j->k=k'
 | [],_,k,k',j,hk,_=>by simp at hk
 | x::l,h,k,k',j,hk,a=>by
   simp only [dF,b6,hP,hD,decide_eq_false_iff_not] at h
   cases k with
   | zero=>
     cases k' with
     | zero=>rfl
     | succ k'=>
       simp at hk a
       subst hk
       exact absurd (hJ a) h.1
   | succ k=>
     cases k' with
     | zero=>
       simp at hk a
       subst a
       exact absurd (hJ hk) h.1
     | succ k'=>rw [HQ h.2 k k' j (by simpa using hk) (by simpa using a)]
def KQ (Γ:hX->Option FSig) (ops:Array hT) (F A B:List Nat):Bool:=
 let ord:=A++(F++B)
 let pm:=Vf ops
 dF ord&&(l5 ops.size).all (λj=>ord.contains j)&&dF (ops.toList.filterMap (·.dst))&&
 (A++F).all (λi=>match ops[i]? with | some o=>quietA Γ o | none=>false)&&
 F.all (λi=>match ops[i]? with | some o=>floatB o||loadB o||allocB o | none=>false)&&
 PJ ops 0 ord&&adU ops pm&&SL pm A B
structure DCtx (Γ:hX->Option FSig) (ops:Array hT) (ord:List Nat) (nF nA:Nat):Prop where
 nd: ∀(k k' j:Nat),ord[k]? =some j->ord[k']? =some j->k=k'
 all: ∀j,j < ops.size-> ∃k:Nat,ord[k]? =some j
 dst: ∀(i j:Nat) (oi oj:hT) (t:Nat),ops[i]? =some oi->ops[j]? =some oj->oi.dst=some t->oj.dst=some t->i=j
 q: ∀(k j:Nat) (o:hT),k < nA->ord[k]? =some j->ops[j]? =some o->quietA Γ o=true
 fl: ∀(k j:Nat) (o:hT),nF<=k->k < nA->ord[k]? =some j->ops[j]? =some o->(floatB o=true\/loadB o=true)\/allocB o=true
 topo: ∀(k j:Nat) (o:hT) (e:Edge),ord[k]? =some j->ops[j]? =some o->e∈o.after->hE .any e=true-> ∃k':Nat,k' < k/\ord[k']? =some e.on
 look: ∀(j:Nat) (o:hT) (t i:Nat) (oi:hT),ops[j]? =some o->t∈o.looksAt ops->ops[i]? =some oi->oi.dst=some t->i=j\/Pre ops j i\/Pre ops i j
 wait: ∀(k j:Nat),nA<=k->ord[k]? =some j-> ∀(k' i:Nat),(k' < nF\/nA<=k')->k' < k->ord[k']? =some i->Pre ops j i
 le:nF<=nA
 len:nA<=ord.length
theorem BZ {ops:Array hT} (h:dF (ops.toList.filterMap (·.dst))=true): ∀(i j:Nat) (oi oj:hT) (t:Nat),ops[i]? =some oi->ops[j]? =some oj->oi.dst=some t->oj.dst=some t->i=j:=by
 have key: ∀(l:List hT),dF (l.filterMap (·.dst))=true-> ∀(i j:Nat) (oi oj:hT) (t:Nat),l[i]? =some oi->l[j]? =some oj->oi.dst=some t->oj.dst=some t->i=j:=by
  intro l
  induction l with
  | nil=>intro _ i j oi oj t hi;simp at hi
  | cons x l ih=>
    intro h i j oi oj t hi hj h1 h2
    have b: ∀(i:Nat) (o:hT),l[i]? =some o->o.dst=some t->t∈l.filterMap (·.dst):= λi o hi c=>lf.2 ⟨o,hJ hi,c⟩
    cases i with
    | zero=>
      cases j with
      | zero=>rfl
      | succ j=>
        simp at hi hj;subst hi
        simp only [hG,h1,dF,b6,hP,hD,decide_eq_false_iff_not] at h
        exact absurd (b j oj hj h2) h.1
    | succ i=>
      have a:dF (l.filterMap (·.dst))=true:=by
       simp only [hG] at h
       split at h
       ·exact h
       ·simp only [dF,b6] at h;exact h.2
      cases j with
      | zero=>
        simp at hi hj;subst hj
        simp only [hG,h2,dF,b6,hP,hD,decide_eq_false_iff_not] at h
        exact absurd (b i oi hi h1) h.1
      | succ j=>rw [ih a i j oi oj t (by simpa using hi) (by simpa using hj) h1 h2]
 intro i j oi oj t hi hj
 exact key ops.toList h i j oi oj t (by simpa using hi) (by simpa using hj)
theorem V7 {Γ:hX->Option FSig} {ops:Array hT} {F A B:List Nat} (h:KQ Γ ops F A B=true):DCtx Γ ops (A++(F++B)) A.length (A++F).length:=by
 simp only [KQ,b6] at h
 obtain ⟨⟨⟨⟨⟨⟨⟨h1,h2⟩,p⟩,q⟩,r⟩,s⟩,u⟩,v⟩:=h
 have b:=OX ops
 refine ⟨HQ h1,λj hj=> ?_,BZ p,λk j o hk hj c=> ?_,λk j o l hk hj c=> ?_,λk j o e hk c he hb=> ?_,λj o t i oi c x hi w=> ?_,λk j hk hj k' i g f hi=> ?_,by simp,by simp⟩
 ·have:=gd.1 h2 j (pk.2 hj)
  rw [hD,decide_eq_true_eq] at this
  exact nm.1 this
 ·have hm:j∈A++F:=by
   have:(A++F)[k]? =some j:=by
    rw [<-ma,g7 hk] at hj;exact hj
   exact hJ this
  have:=gd.1 q j hm
  rwa [c] at this
 ·have hm:j∈F:=by
   rw [<-ma,g7 hk,g8 l] at hj
   exact hJ hj
  have:=gd.1 r j hm
  rw [c] at this
  simpa using this
 ·rcases MZ ops _ 0 s k j o e hk c he hb with d | d
  ·simp at d
  ·exact d
 ·have f: ∀{i:Nat} {o:hT},ops[i]? =some o->i∈l5 ops.size:= λh=>pk.2 (eP.1 h).1
  have m:=gd.1 u j (f c)
  rw [c] at m
  have n:=gd.1 m t x
  have a:=gd.1 n i (f hi)
  rw [hi] at a
  simp only [w,bne_self_eq_false,kt,m3,beq_iff_eq] at a
  rcases a with (a | a) | a
  ·exact .inl a
  ·exact .inr (.inl (b _ _ a))
  ·exact .inr (.inr (b _ _ a))
 ·rw [<-ma] at hj hi
  rw [g8 hk] at hj
  obtain ⟨w1,w2⟩:=Iw _ B A v _ _ hj
  rcases g with d | d
  ·rw [g7 (by rw [hF];omega),g7 d] at hi
   exact b _ _ (w1 i (hJ hi))
  ·rw [g8 d] at hi
   exact b _ _ (w2 _ i (by omega) hi)
theorem Pre.pos {Γ:hX->Option FSig} {ops:Array hT} {ord:List Nat} {nF nA:Nat} (D:DCtx Γ ops ord nF nA) {j i:Nat} (p:Pre ops j i): ∀k:Nat,ord[k]? =some j-> ∃k':Nat,k' < k/\ord[k']? =some i:=by
 induction p with
 | edge h he hb=>exact λk hk=>D.topo k _ _ _ hk h he hb
 | trans h he hb _ ih=>
   intro k hk
   obtain ⟨b,h1,h2⟩:=D.topo k _ _ _ hk h he hb
   obtain ⟨c,d,a⟩:=ih b h2
   exact ⟨c,by omega,a⟩
end Go.AM
namespace Go.AM
open Go.RowKit
def okAt (Γ:hX->Option FSig) (S:List Nat×Bool) (nF nA k:Nat) (o:hT) (st:St):Bool:=if k < nF then W7 o st.fr else if k < nA then (allocB o||FT S.1 o st.fr) else NN Γ S o st
def stepX (P:kh) (Γ:hX->Option FSig) (C:IV->List Nat->List (List IV)->Option (List IV)) (nF nA k:Nat) (o:hT) (st:St):Option (PV×List Ob):=
 if nF<=k/\k < nA/\allocB o=true then (bsP P Γ C o st.fr).map λp=>(p,st.h) else cI P Γ C o st
structure Trc (P:kh) (Γ:hX->Option FSig) (C:IV->List Nat->List (List IV)->Option (List IV)) (ops:Array hT) (ord:List Nat) (nF nA:Nat) (S:List Nat×Bool) (sts:Nat->St) (ps:Nat->PV) (gs:Nat->Bool):Prop where
 step: ∀(k j:Nat),ord[k]? =some j-> ∃o:hT,ops[j]? =some o/\guardVal ops o (sts k).fr=some (gs k)/\(gs k=true->stepX P Γ C nF nA k o (sts k)=some (ps k,(sts (k+1)).h))/\(gs k=false->ps k= .skip/\(sts (k+1)).h=(sts k).h)/\
  (sts (k+1)).fr=setDst (sts k).fr o.dst (ps k)/\okAt Γ S nF nA k o (sts k)=true
def aah {α:Type} (x:α) (f:Nat->α):Nat->α
 | 0=>x
 | n+1=>f n
section
variable {P:kh} {Γ:hX->Option FSig} {C:IV->List Nat->List (List IV)->Option (List IV)} {ops:Array hT} {R:Type}
theorem Trc.cons {S:List Nat×Bool} {l:List Nat} {nF a nA c:Nat} {sts:Nat->St} {ps:Nat->PV} {gs:Nat->Bool} (T:Trc P Γ C ops l nF nA S sts ps gs) {st:St} {j:Nat} {o:hT} {p:PV} {b:Bool} (w:ops[j]? =some o) (d:guardVal ops o st.fr=some b) (h1:b=true->stepX P Γ C a c 0 o st=some (p,(sts 0).h)) (h2:b=false->p= .skip/\(sts 0).h=st.h)
  (u:(sts 0).fr=setDst st.fr o.dst p) (v:okAt Γ S a c 0 o st=true) (x:nF=a - 1) (y:nA=c - 1):Trc P Γ C ops (j::l) a c S (aah st sts) (aah p ps) (aah b gs):=by
 refine ⟨λk i hk=> ?_⟩
 cases k with
 | zero=>simp at hk;subst hk;exact ⟨o,w,d,h1,h2,u,v⟩
 | succ k=>
   obtain ⟨o',f,g,m,n,q,r⟩:=T.step k i (by simpa using hk)
   have s:(k+1 < a)↔k < nF:=by omega
   have e:(k+1 < c)↔k < nA:=by omega
   have t:(a<=k+1)↔nF<=k:=by omega
   refine ⟨o',f,g,λd=> ?_,n,q,?_⟩
   ·have:=m d
    simp only [stepX,e,t] at this ⊢
    exact this
   ·have:okAt Γ S a c (k+1) o'=okAt Γ S nF nA k o':=by
     funext st
     simp only [okAt,s,e]
    show okAt Γ S a c (k+1) o' (sts k)=true
    rw [this];exact r
theorem Ro {S:List Nat×Bool} {k:St->Option R} {r:R}: ∀(l:List Nat) (st:St),(∀j∈l,j < ops.size)->rZ P Γ C (NN Γ S) ops (l.filterMap (ops[·]?)) st k=some r-> ∃sts ps gs,sts 0=st/\Trc P Γ C ops l 0 0 S sts ps gs/\k (sts l.length)=some r
 | [],st,_,hs=>⟨λ_=>st,λ_=> .undef,λ_=>true,rfl,⟨λk j hk=>by simp at hk⟩,hs⟩
 | j::l,st,hl,hs=>by
   have hj:ops[j]? =some (ops[j]'(hl j cb)):=bA (hl j cb)
   have hf:(j::l).filterMap (ops[·]?)=ops[j]'(hl j cb)::l.filterMap (ops[·]?):=by simp [hG,hj]
   rw [hf] at hs
   simp only [rZ] at hs
   split at hs
   ·rename_i hok
    obtain ⟨b,e,c⟩:=dr hs
    rcases c with ⟨rfl,p,h',d,a⟩ | ⟨rfl,a⟩
    ·obtain ⟨sts,ps,gs,h0,T,hk⟩:=Ro l _ (λi hi=>hl i (b0 _ hi)) a
     exact ⟨_,_,_,rfl,T.cons hj e (λ_=>by rw [h0];simpa [stepX] using d) (λh=>by cases h) (by rw [h0]) (by simpa [okAt] using hok) rfl rfl,hk⟩
    ·obtain ⟨sts,ps,gs,h0,T,hk⟩:=Ro l _ (λi hi=>hl i (b0 _ hi)) a
     exact ⟨_,_,_,rfl,T.cons (p:= .skip) hj e (λh=>by cases h) (λ_=>⟨rfl,by rw [h0]⟩) (by rw [h0]) (by simpa [okAt] using hok) rfl rfl,hk⟩
   ·cases hs
theorem Ws {o:hT} (h:allocB o=true):o.guard=none:=by
 unfold allocB at h
 split at h
 ·assumption
 ·cases h
theorem J2 {S:List Nat×Bool} {k:St->Option R} {r:R} {l:List Nat} (hl: ∀j∈l,j < ops.size): ∀(F:List Nat) (st:St),(∀j∈F,j < ops.size)->qe P Γ C (FT S.1) ops (F.filterMap (ops[·]?)) st (λg=>rZ P Γ C (NN Γ S) ops (l.filterMap (ops[·]?)) g k)=some r->
  ∃sts ps gs,sts 0=st/\Trc P Γ C ops (F++l) 0 F.length S sts ps gs/\k (sts (F++l).length)=some r
 | [],st,_,hs=>Ro l st hl hs
 | j::F,st,e,hs=>by
   have hj:ops[j]? =some (ops[j]'(e j cb)):=bA (e j cb)
   have hf:(j::F).filterMap (ops[·]?)=ops[j]'(e j cb)::F.filterMap (ops[·]?):=by simp [hG,hj]
   rw [hf] at hs
   simp only [qe] at hs
   split at hs
   ·rename_i c
    split at hs
    ·rename_i p hp
     obtain ⟨sts,ps,gs,h0,T,hk⟩:=J2 hl F _ (λi hi=>e i (b0 _ hi)) hs
     exact ⟨_,_,_,rfl,T.cons (p:=p) (b:=true) hj (by unfold guardVal;rw [Ws c]) (λ_=>by rw [h0];simp [stepX,c,hp]) (λh=>by cases h) (by rw [h0]) (by simp [okAt,c]) rfl (by simp),hk⟩
    ·cases hs
   ·rename_i c
    split at hs
    ·rename_i hok
     obtain ⟨b,m,d⟩:=dr hs
     rcases d with ⟨rfl,p,h',f,a⟩ | ⟨rfl,a⟩
     ·obtain ⟨sts,ps,gs,h0,T,hk⟩:=J2 hl F _ (λi hi=>e i (b0 _ hi)) a
      exact ⟨_,_,_,rfl,T.cons hj m (λ_=>by rw [h0];simpa [stepX,c] using f) (λh=>by cases h) (by rw [h0]) (by simp [okAt,hok]) rfl (by simp),hk⟩
     ·obtain ⟨sts,ps,gs,h0,T,hk⟩:=J2 hl F _ (λi hi=>e i (b0 _ hi)) a
      exact ⟨_,_,_,rfl,T.cons (p:= .skip) hj m (λh=>by cases h) (λ_=>⟨rfl,by rw [h0]⟩) (by rw [h0]) (by simp [okAt,hok]) rfl (by simp),hk⟩
    ·cases hs
theorem KM {F l:List Nat} {k:St->Option R} {r:R} (hl: ∀j∈l,j < ops.size) (f: ∀j∈F,j < ops.size): ∀(A:List Nat) (st:St),(∀j∈A,j < ops.size)->rZ P Γ C (λo st=>W7 o st.fr) ops (A.filterMap (ops[·]?)) st (λd=>qe P Γ C (FT (Yi F ops d.fr)) ops (F.filterMap (ops[·]?)) d λn=>rZ P Γ C (NN Γ (aaq F ops d)) ops (l.filterMap (ops[·]?)) n k)=some r->
  ∃S sts ps gs,sts 0=st/\Trc P Γ C ops (A++(F++l)) A.length (A++F).length S sts ps gs/\(S.2=true-> ∀q∈S.1,isRw (getOb (sts A.length).h q)=false)/\k (sts (A++(F++l)).length)=some r
 | [],st,_,hs=>by
   obtain ⟨sts,ps,gs,h0,T,hk⟩:=J2 (S:=aaq F ops st) hl F st f hs
   refine ⟨_,sts,ps,gs,h0,T,λh2 q t=> ?_,hk⟩
   have:=gd.1 h2 q t
   show isRw (getOb (sts 0).h q)=false
   rw [h0]
   simpa using this
 | j::A,st,e,hs=>by
   have hj:ops[j]? =some (ops[j]'(e j cb)):=bA (e j cb)
   have hf:(j::A).filterMap (ops[·]?)=ops[j]'(e j cb)::A.filterMap (ops[·]?):=by simp [hG,hj]
   rw [hf] at hs
   simp only [rZ] at hs
   split at hs
   ·rename_i hok
    obtain ⟨b,s,c⟩:=dr hs
    rcases c with ⟨rfl,p,h',m,a⟩ | ⟨rfl,a⟩
    ·obtain ⟨S,sts,ps,gs,h0,T,g,hk⟩:=KM hl f A _ (λi hi=>e i (b0 _ hi)) a
     exact ⟨S,_,_,_,rfl,T.cons hj s (λ_=>by rw [h0];simpa [stepX] using m) (λh=>by cases h) (by rw [h0]) (by simpa [okAt] using hok) (by simp) (by simp),g,hk⟩
    ·obtain ⟨S,sts,ps,gs,h0,T,g,hk⟩:=KM hl f A _ (λi hi=>e i (b0 _ hi)) a
     exact ⟨S,_,_,_,rfl,T.cons (p:= .skip) hj s (λh=>by cases h) (λ_=>⟨rfl,by rw [h0]⟩) (by rw [h0]) (by simpa [okAt] using hok) (by simp) (by simp),g,hk⟩
   ·cases hs
variable {ord:List Nat} {nF nA:Nat} {S:List Nat×Bool} {sts:Nat->St} {ps:Nat->PV} {gs:Nat->Bool}
theorem Pw (fr:List PV) (d:Option Tmp) (p:PV):(setDst fr d p).length=fr.length:=by cases d<;>simp [setDst]
theorem Qt {fr:List PV} {d:Option Tmp} {p:PV} {t:Nat} (h:d≠some t):(setDst fr d p).getD t .undef=fr.getD t .undef:=by
 cases d with
 | none=>rfl
 | some d=>
   have:d≠t:= λe=>h (by rw [e])
   simp [setDst,bd,hY this]
theorem Zn {fr:List PV} {p:PV} {t:Nat} (h:t < fr.length):(setDst fr (some t) p).getD t .undef=p:=by
 simp [setDst,bd,List.getElem?_set_self h]
theorem Trc.at (T:Trc P Γ C ops ord nF nA S sts ps gs) {k:Nat} (hk:k < ord.length): ∃j,ord[k]? =some j:=⟨ord[k],g0 hk⟩
theorem Trc.len (T:Trc P Γ C ops ord nF nA S sts ps gs): ∀k,k<=ord.length->(sts k).fr.length=(sts 0).fr.length
 | 0,_=>rfl
 | k+1,h=>by
   obtain ⟨j,hj⟩:=T.at (k:=k) (by omega)
   obtain ⟨o,_,_,_,_,a,_⟩:=T.step k j hj
   rw [a,Pw]
   exact T.len k (by omega)
theorem Trc.ini (T:Trc P Γ C ops ord nF nA S sts ps gs) {t:Nat}: ∀k,k<=ord.length->(∀(k' j:Nat) (o:hT),k' < k->ord[k']? =some j->ops[j]? =some o->o.dst≠some t)->(sts k).fr.getD t .undef=(sts 0).fr.getD t .undef
 | 0,_,_=>rfl
 | k+1,h,hn=>by
   obtain ⟨j,hj⟩:=T.at (k:=k) (by omega)
   obtain ⟨o,h1,_,_,_,a,_⟩:=T.step k j hj
   rw [a,Qt (hn k j o (by omega) hj h1)]
   exact T.ini k (by omega) λk' b o' h=>hn k' b o' (by omega)
theorem Trc.fin (T:Trc P Γ C ops ord nF nA S sts ps gs) {t:Nat}: ∀(d k:Nat),k+d=ord.length->(∀(k' j:Nat) (o:hT),k<=k'->ord[k']? =some j->ops[j]? =some o->o.dst≠some t)->(sts ord.length).fr.getD t .undef=(sts k).fr.getD t .undef
 | 0,k,h,_=>by rw [<-h];rfl
 | d+1,k,h,hn=>by
   obtain ⟨j,hj⟩:=T.at (k:=k) (by omega)
   obtain ⟨o,h1,_,_,_,a,_⟩:=T.step k j hj
   rw [T.fin d (k+1) (by omega) λk' b o' h=>hn k' b o' (by omega),a,Qt (hn k j o (by omega) hj h1)]
theorem Trc.W7 (T:Trc P Γ C ops ord nF nA S sts ps gs) {k j:Nat} {o:hT} (hk:k < nF) (hj:ord[k]? =some j) (b:ops[j]? =some o):W7 o (sts k).fr=true:=by
 obtain ⟨o',h2,_,_,_,_,a⟩:=T.step k j hj
 rw [b] at h2;cases h2
 unfold okAt at a
 rwa [if_pos hk] at a
theorem Trc.FT (T:Trc P Γ C ops ord nF nA S sts ps gs) {k j:Nat} {o:hT} (hk:nF<=k) (c:k < nA) (b: ¬allocB o=true) (hj:ord[k]? =some j) (d:ops[j]? =some o):FT S.1 o (sts k).fr=true:=by
 obtain ⟨o',h2,_,_,_,_,a⟩:=T.step k j hj
 rw [d] at h2;cases h2
 unfold okAt at a
 rw [if_neg (by omega),if_pos c] at a
 simpa [b] using a
theorem xM {nF nA k:Nat} {o:hT} {st:St} (h: ¬(nF<=k/\k < nA/\allocB o=true)):stepX P Γ C nF nA k o st=cI P Γ C o st:=if_neg h
theorem FH {nF nA k:Nat} {o:hT} {st:St} {p:PV} {h':List Ob} (h:nF<=k/\k < nA/\allocB o=true) (hs:stepX P Γ C nF nA k o st=some (p,h')):bsP P Γ C o st.fr=some p/\h'=st.h:=by
 unfold stepX at hs
 rw [if_pos h] at hs
 obtain ⟨a,h1,h2⟩:=gf.1 hs
 cases h2
 exact ⟨h1,rfl⟩
theorem US {o:hT} (hb:allocB o=true):cJ Γ o=true:=by
 unfold allocB at hb
 unfold cJ
 split at hb
 ·rename_i h1 _;rw [h1]
 ·cases hb
theorem Trc.NN (T:Trc P Γ C ops ord nF nA S sts ps gs) (hle:nF<=nA) {k j:Nat} {o:hT} (hk:nA<=k) (hj:ord[k]? =some j) (b:ops[j]? =some o):NN Γ S o (sts k)=true:=by
 obtain ⟨o',h2,_,_,_,_,a⟩:=T.step k j hj
 rw [b] at h2;cases h2
 unfold okAt at a
 rwa [if_neg (by omega),if_neg (by omega)] at a
theorem Trc.quiet (T:Trc P Γ C ops ord nF nA S sts ps gs) (D:DCtx Γ ops ord nF nA) {k j:Nat} {o:hT} (hk:k < nA) (hj:ord[k]? =some j) (a:ops[j]? =some o):cJ Γ o=true\/(Xi o=true/\AM.W7 o (sts k).fr=true):=by
 have b:=D.q k j o hk hj a
 unfold quietA at b
 rcases ha k nF with h1 | h1
 ·cases hb:cJ Γ o with
  | true=>exact .inl rfl
  | false=>
    rw [hb,kt] at b
    exact .inr ⟨b,T.W7 h1 hj a⟩
 ·rcases D.fl k j o h1 hk hj a with (h2 | h2) | h2
  ·exact .inl (HC h2)
  ·exact .inl (K8 h2)
  ·exact .inl (US h2)
theorem Trc.sameF (T:Trc P Γ C ops ord nF nA S sts ps gs) (D:DCtx Γ ops ord nF nA) {k j:Nat} (hk:nF<=k) (b:k < nA) (hj:ord[k]? =some j):(sts (k+1)).h=(sts k).h:=by
 obtain ⟨o,h1,_,e,f,_⟩:=T.step k j hj
 cases d:gs k with
 | false=>exact (f d).2
 | true=>
   by_cases a:allocB o=true
   ·exact (FH ⟨hk,b,a⟩ (e d)).2
   have hok:=T.FT hk b a hj h1
   have c:=e d
   rw [xM (λh=>a h.2.2)] at c
   exact (Yx ((D.fl k j o hk b hj h1).resolve_right a) hok (show cI P Γ C o ⟨(sts k).fr,(sts k).h⟩=_ from c) (sts k).h λ_ _ _=>rfl).1
theorem Trc.sameFs (T:Trc P Γ C ops ord nF nA S sts ps gs) (D:DCtx Γ ops ord nF nA): ∀(d k:Nat),nF<=k->k+d<=nA->(sts (k+d)).h=(sts k).h
 | 0,k,_,_=>rfl
 | d+1,k,h,h2=>by
   have a:=D.len
   obtain ⟨j,hj⟩:=T.at (k:=k+d) (by omega)
   rw [<-T.sameFs D d k h (by omega)]
   exact T.sameF D (k:=k+d) (by omega) (by omega) hj
theorem Trc.prot (T:Trc P Γ C ops ord nF nA S sts ps gs) (D:DCtx Γ ops ord nF nA) {q:Nat} (g:q∈S.1) (e:S.2=true->isRw (getOb (sts nA).h q)=false) (c:q < (sts nA).h.length) (a: ∀d,nA+d<=ord.length->(sts nA).h.length<=(sts (nA+d)).h.length): ∀d,nA+d<=ord.length->getOb (sts (nA+d)).h q=getOb (sts nA).h q
 | 0,_=>rfl
 | d+1,h=>by
   obtain ⟨j,hj⟩:=T.at (k:=nA+d) (by omega)
   obtain ⟨o,h1,_,i,l,_⟩:=T.step (nA+d) j hj
   have ih:=T.prot D g e c a d (by omega)
   rw [<-ih]
   cases f:gs (nA+d) with
   | false=>exact congrArg (getOb · q) (l f).2
   | true=>
     have b:=i f
     rw [xM (λh=>by omega)] at b
     exact YZ g (hI c (a d (by omega))) (λh2=>by rw [ih];exact e h2) (T.NN D.le (by omega) hj h1) (show cI P Γ C o ⟨(sts (nA+d)).fr,(sts (nA+d)).h⟩=_ from b)
theorem Trc.sub (T:Trc P Γ C ops ord nF nA S sts ps gs) (D:DCtx Γ ops ord nF nA): ∀(d k:Nat),k+d<=nA->SubH (sts k).h (sts (k+d)).h
 | 0,k,h=> .refl _
 | d+1,k,h=>by
   have g:=D.len
   obtain ⟨j,hj⟩:=T.at (k:=k+d) (by omega)
   obtain ⟨o,h1,_,e,f,_⟩:=T.step (k+d) j hj
   refine (T.sub D d k (by omega)).trans ?_
   cases c:gs (k+d) with
   | true=>
     have a:=e c
     by_cases b:nF<=k+d/\k+d < nA/\allocB o=true
     ·show SubH _ (sts (k+d+1)).h
      rw [(FH b a).2];exact .refl _
     ·rw [xM b] at a
      exact Xm (T.quiet D (by omega) hj h1) a
   | false=>show SubH _ (sts (k+d+1)).h;rw [(f c).2];exact .refl _
theorem Trc.mono (T:Trc P Γ C ops ord nF nA S sts ps gs): ∀(d k:Nat),k+d<=ord.length->Stay (sts k).h (sts (k+d)).h
 | 0,k,h=> .refl _
 | d+1,k,h=>by
   obtain ⟨j,hj⟩:=T.at (k:=k+d) (by omega)
   obtain ⟨o,h1,_,e,f,_⟩:=T.step (k+d) j hj
   refine (T.mono d k (by omega)).trans ?_
   cases c:gs (k+d) with
   | true=>
     have a:=e c
     by_cases b:nF<=k+d/\k+d < nA/\allocB o=true
     ·show Stay _ (sts (k+d+1)).h
      rw [(FH b a).2];exact .refl _
     ·rw [xM b] at a
      exact p9 a
   | false=>show Stay _ (sts (k+d+1)).h;rw [(f c).2];exact .refl _
end
open Classical in
 noncomputable def cur (ops:Array Oper) (ini fin:List PV) (listed:Array Bool) (t:Nat):PV:=
  if ∃(i:Nat) (oi:Oper),ops[i]? =some oi/\oi.dst=some t/\listed.getD i false=true then fin.getD t .undef else ini.getD t .undef
theorem Sx {ops:Array hT} {ini fin:List PV} {listed:Array Bool} {t:Nat} {i:Nat} {oi:hT} (h1:ops[i]? =some oi) (h2:oi.dst=some t) (a:listed.getD i false=true):cur ops ini fin listed t=fin.getD t .undef:=if_pos ⟨i,oi,h1,h2,a⟩
theorem El {ops:Array hT} {ini fin:List PV} {listed:Array Bool} {t:Nat} (h: ∀(i:Nat) (oi:hT),ops[i]? =some oi->oi.dst=some t->listed.getD i false=true->False):cur ops ini fin listed t=ini.getD t .undef:=if_neg λ⟨i,oi,h1,h2,a⟩=>h i oi h1 h2 a
theorem Inv.subH {w0:fv} {ok0:O0} {w:fv} {ok:Nat->Prop} {mu:Mu} {h H:List Ob} (i:Inv w0 ok0 w ok mu h) (d: ∀q,h.length<=q->mu q=none) (s:SubH h H):Inv w0 ok0 w ok mu H:=by
 have c: ∀{o pl},mu o=some pl->o < h.length:= λ{o pl} a=>by
  rcases ha o h.length with h1 | h1
  ·exact h1
  ·rw [d o h1] at a;cases a
 refine ⟨i.below,i.okw,i.okb,λo pl a=>(s.same o (c a)).jl (i.ob o pl a),λo pl b base a hb=> ?_,λo o' pl pl' b base base' a j hb k e f=> ?_⟩
 ·obtain ⟨h1,h2,l⟩:=i.own o pl b base a hb
  refine ⟨h1,h2,λe g=>l ?_ ?_⟩
  ·rw [<-(s.same o (c a)).live];exact e
  ·cases m:(getOb h o).fz with
   | false=>rfl
   | true=>rw [(s.same o (c a)).fz m] at g;cases g
 ·exact i.inj o o' pl pl' b base base' a j hb k (by rw [<-(s.same o (c a)).live];exact e) (by rw [<-(s.same o' (c j)).live];exact f)
theorem Inv.drawn {w0:fv} {ok0:O0} {w:fv} {ok:Nat->Prop} {mu:Mu} {h:List Ob} (i:Inv w0 ok0 w ok mu h) (d:Nat):Inv w0 ok0 { w with drawn:=d } ok mu h/\Later w ok mu { w with drawn:=d } ok mu:=by
 have hl:Later w ok mu { w with drawn:=d } ok mu:=⟨⟨λ_ _=>rfl,λ_ h=>h⟩,λ_ _ h=>h,λb c T z h=>⟨c,z,h,rfl⟩⟩
 exact ⟨⟨⟨i.below.os,i.below.tape,i.below.output,i.below.size,i.below.block⟩,i.okw,i.okb,λo pl a=>(i.ob o pl a).later hl λ_ _ _=>rfl,i.own,i.inj⟩,hl⟩
structure DInv (P:kh) (ops:Array hT) (ord:List Nat) (nA:Nat) (sts:Nat->St) (w0:fv) (ok0:O0) (wS:fv) (okS:Nat->Prop) (muS:Mu) (aS:Act) (listed:Array Bool) (a:Act) (w:fv):Prop where
 size:listed.size=ops.size
 closed: ∀(j:Nat) (o:hT),ops[j]? =some o->listed.getD j false=true-> ∀e∈o.after,hE .any e=true->listed.getD e.on false=true
 tsize:a.tmps.size=(sts 0).fr.length
 defers:a.defers=aS.defers
 same: ∀t,t∉dsts ops.toList->a.tmps[t]? =aS.tmps[t]?
 ex: ∃(ok:Nat->Prop) (mu:Mu) (m:Nat),nA<=m/\m<=ord.length/\(∀(k j:Nat),nA<=k->ord[k]? =some j->(listed.getD j false=true↔k < m))/\Inv w0 ok0 w ok mu (sts m).h/\(∀o,(sts m).h.length<=o->mu o=none)/\
  (m=nA-> ∀o,mu o≠none->o < (sts 0).h.length\/ ∃k j:Nat,k < nA/\ord[k]? =some j/\listed.getD j false=true/\(sts k).h.length=o/\(sts (k+1)).h.length=o+1)/\
  (∀(t:Nat) (v:h7),a.tmps[t]? =some v->RP w ok mu (cur ops (sts 0).fr (sts ord.length).fr listed t) v)/\Later wS okS muS w ok mu
end Go.AM
namespace Go.AM
open Go.RowKit
section
variable {P:kh} {Γ:hX->Option FSig} {C:IV->List Nat->List (List IV)->Option (List IV)} {ops:Array hT} {ord:List Nat} {nF nA:Nat} {S:List Nat×Bool} {sts:Nat->St} {ps:Nat->PV} {gs:Nat->Bool}
 {w0:fv} {ok0:O0} {wS:fv} {okS:Nat->Prop} {muS:Mu} {aS:Act}
theorem DN {listed:Array Bool} (hc: ∀(j:Nat) (o:hT),ops[j]? =some o->listed.getD j false=true-> ∀e∈o.after,hE .any e=true->listed.getD e.on false=true) {j i:Nat} (p:Pre ops j i):listed.getD j false=true->listed.getD i false=true:=by
 induction p with
 | edge h he hb=>exact λhl=>hc _ _ h hl _ he hb
 | trans h he hb _ ih=>exact λhl=>ih (hc _ _ h hl _ he hb)
theorem PN {listed:Array Bool} (hc: ∀(j:Nat) (o:hT),ops[j]? =some o->listed.getD j false=true-> ∀e∈o.after,hE .any e=true->listed.getD e.on false=true) {j i:Nat} (hr: ∀o,ops[j]? =some o-> ∀e∈o.after,hE .any e=true->listed.getD e.on false=true) (p:Pre ops j i):listed.getD i false=true:=by
 cases p with
 | edge h he hb=>exact hr _ h _ he hb
 | trans h he hb q=>exact DN hc q (hr _ h _ he hb)
theorem jF {listed:Array Bool} {j i:Nat}:(listed.setIfInBounds j true).getD i false=true↔listed.getD i false=true\/(i=j/\j < listed.size):=by
 rw [fc,kv,fc]
 by_cases e:j=i
 ·subst e
  by_cases hl:j < listed.size
  ·simp [hl]
  ·simp [hl]
 ·simp [e,Ne.symm e]
theorem ack {listed:Array Bool} {ini fin:List PV} {j:Nat} {o:hT} (c:ops[j]? =some o) {t:Nat} (d:o.dst≠some t):cur ops ini fin (listed.setIfInBounds j true) t=cur ops ini fin listed t:=by
 unfold cur
 congr 1
 apply propext
 constructor
 ·rintro ⟨i,oi,h1,h2,a⟩
  rcases jF.1 a with b | ⟨rfl,_⟩
  ·exact ⟨i,oi,h1,h2,b⟩
  ·rw [c] at h1;cases h1;exact absurd h2 d
 ·rintro ⟨i,oi,h1,h2,a⟩
  exact ⟨i,oi,h1,h2,jF.2 (.inl a)⟩
theorem aaN (T:Trc P Γ C ops ord nF nA S sts ps gs) (D:DCtx Γ ops ord nF nA) {listed:Array Bool} (hc: ∀(j:Nat) (o:hT),ops[j]? =some o->listed.getD j false=true-> ∀e∈o.after,hE .any e=true->listed.getD e.on false=true)
  {k j:Nat} {o:hT} (hk:ord[k]? =some j) (u:ops[j]? =some o) (l:listed.getD j false=false) (hr: ∀e∈o.after,hE .any e=true->listed.getD e.on false=true) {t:Nat} (w:t∈o.looksAt ops):
  (sts k).fr.getD t .undef=cur ops (sts 0).fr (sts ord.length).fr listed t:=by
 have v:k < ord.length:=(e6.1 hk).1
 by_cases hw: ∃(i:Nat) (oi:hT),ops[i]? =some oi/\oi.dst=some t
 ·obtain ⟨i,oi,hi,p⟩:=hw
  obtain ⟨g,a⟩:=D.all i (eP.1 hi).1
  have uniq: ∀{n:Nat} {c:hT},ops[n]? =some c->c.dst=some t->n=i:= λh1 h2=>D.dst _ _ _ _ t h1 hi h2 p
  have early:k<=g->(sts k).fr.getD t .undef=(sts 0).fr.getD t .undef:= λhle=>T.ini k (by omega) λk' m o' h1 h2 b d=>by
   have:=uniq b d;subst this
   have:=D.nd k' g m h2 a;omega
  rcases D.look j o t i oi u w hi p with h1 | h1 | h1
  ·subst h1
   have:=D.nd k g i hk a
   rw [early (by omega),El λn c h1 h2 b=>by have:=uniq h1 h2;subst this;rw [l] at b;cases b]
  ·have r:=PN hc (λo' h=>by rw [u] at h;cases h;exact hr) h1
   obtain ⟨s,q,f⟩:=h1.pos D k hk
   have:=D.nd s g i f a
   rw [Sx hi p r]
   exact (T.fin (ord.length - k) k (by omega) λk' m o' h1 h2 b d=>by
    have:=uniq b d;subst this
    have:=D.nd k' g m h2 a;omega).symm
  ·obtain ⟨s,q,f⟩:=h1.pos D g a
   have:=D.nd s k j f hk
   rw [early (by omega),El λn c h2 b d=>by
    have:=uniq h2 b;subst this
    have:=DN hc h1 d
    rw [l] at this;cases this]
 ·rw [El λi oi h1 h2 _=>hw ⟨i,oi,h1,h2⟩]
  exact T.ini k (by omega) λk' m o' h1 h2 b d=>hw ⟨m,o',b,d⟩
theorem Zq (T:Trc P Γ C ops ord nF nA S sts ps gs) (D:DCtx Γ ops ord nF nA) {k j:Nat} {o:hT} (hk:ord[k]? =some j) (a:ops[j]? =some o) {t:Nat} (b:o.dst=some t) (hl:t < (sts 0).fr.length):(sts ord.length).fr.getD t .undef=ps k:=by
 have f:k < ord.length:=(e6.1 hk).1
 rw [T.fin (ord.length - (k+1)) (k+1) (by omega) λk' g o' h1 h2 c d=>by
  have:=D.dst _ _ _ _ t c a d b;subst this
  have:=D.nd k' k g h2 hk;omega]
 obtain ⟨o',h1,_,_,_,e,_⟩:=T.step k j hk
 rw [a] at h1;cases h1
 rw [e,b]
 exact Zn (by rw [T.len k (by omega)];exact hl)
def mask (l:List Nat) (fr:List PV):List PV:=(l5 fr.length).map λt=>if t∈l then fr.getD t .undef else .undef
theorem ZA {l:List Nat} {fr:List PV} {t:Nat} (a:t∈l):(mask l fr).getD t .undef=fr.getD t .undef:=by
 unfold mask
 simp only [bd,hH]
 by_cases hl:t < fr.length
 ·simp [hl,a]
 ·simp [n3 hl]
theorem R3 {o:hT} {fr:List PV}: ∀x∈o.op.operands,ev fr x=ev (mask (o.looksAt ops) fr) x:=by
 intro x a
 cases x with
 | tmp t=>
   have:t∈o.looksAt ops:=b7 _ (lf.2 ⟨.tmp t,by simpa using a,rfl⟩)
   exact (ZA this).symm
 | _=>rfl
theorem abq {o:hT} {fr:List PV}:W7 o (mask (o.looksAt ops) fr)=W7 o fr:=by
 unfold W7
 split
 ·rename_i c hop
  split
  ·rename_i hc
   split
   ·rename_i x l hl
    have a:x∈o.op.operands:=by
     rw [hop]
     simp only [Op.operands,Call.operands]
     have:x∈c.args:=by have h2:x∈c.args.toList:=by rw [hl];simp
                       simpa using h2
     simp [this]
    rw [<-R3 (ops:=ops) (o:=o) x a]
   ·rfl
  ·rfl
 ·rfl
theorem adm {w:fv} {ok:Nat->Prop} {mu:Mu} {l:List Nat} {fr:List PV} {tmps:Array h7} (hsz:fr.length=tmps.size) (h: ∀(t:Nat) (v:h7),t∈l->tmps[t]? =some v->RP w ok mu (fr.getD t .undef) v):Fr w ok mu (mask l fr) tmps:=by
 refine ⟨by simp [mask,hsz],λt p v h1 h2=> ?_⟩
 unfold mask at h1
 rw [hH] at h1
 cases a:(l5 fr.length)[t]? with
 | none=>rw [a] at h1;cases h1
 | some u=>
   rw [a] at h1
   have hu:t=u:=by
    rcases ha t fr.length with b | b
    ·rw [List.getElem?_range b] at a;exact o2 a
    ·rw [e8 (by simpa using b)] at a;cases a
   subst hu
   simp only [pe,hR] at h1
   subst h1
   split
   ·exact h t v ‹_› h2
   ·exact .undef v
theorem Vx {o:hT} {fr:List PV} {p:PV} (h:bsP P Γ C o fr=some p):bsP P Γ C o (mask (o.looksAt ops) fr)=some p:=by
 have: ∀x∈o.op.operands,ev (Fx fr) x=ev (Fx (mask (o.looksAt ops) fr)) x:=by
  have key: ∀(l:List PV) (t:Nat),(Fx l).getD t .undef=(match l.getD t .undef with | .imm x=> .imm x | _=> .undef):=by
   intro l t
   unfold Fx
   simp only [bd,hH]
   cases l[t]? <;>rfl
  intro x a
  have h1:=R3 (ops:=ops) (fr:=fr) x a
  cases x with
  | tmp t=>simp only [ev] at h1 ⊢;rw [key,key,h1]
  | _=>rfl
 have h2:=Hy (P:=P) (Γ:=Γ) (C:=C) (h:=[]) this
 unfold bsP at h ⊢
 unfold cI at h2
 rw [<-h2]
 exact h
theorem Y6 (Y:aF P Γ) (hC:COK P C) (T:Trc P Γ C ops ord nF nA S sts ps gs) (hS:S.2=true-> ∀q∈S.1,isRw (getOb (sts nF).h q)=false) (D:DCtx Γ ops ord nF nA) {Q:q0->Act->fv->Prop} {listed:Array Bool} {a:Act} {w:fv} (I:DInv P ops ord nA sts w0 ok0 wS okS muS aS listed a w) {j:Nat} (hj:j∈km .any ops listed):
  wpOp P ops Q j (DInv P ops ord nA sts w0 ok0 wS okS muS aS (listed.setIfInBounds j true)) a w:=by
 obtain ⟨a3,o,E,hr⟩:=mem_ready.1 hj
 have K:j < ops.size:=(eP.1 E).1
 have am:listed.getD j false=false:=by
  rw [fc,bA (by rw [I.size];exact K)] at a3 ⊢
  exact a3
 obtain ⟨k,hk⟩:=D.all j K
 have fa:k < ord.length:=(e6.1 hk).1
 have e5:=D.len
 obtain ⟨o',U,hg,el,ek,e7,d6⟩:=T.step k j hk
 rw [E] at U;cases U
 obtain ⟨ok,mu,m,O,bf,hB,hinv,c,a0,ap,ac⟩:=I.ex
 have N: ∀(t:Nat) (v:h7),t∈o.looksAt ops->a.tmps[t]? =some v->RP w ok mu ((sts k).fr.getD t .undef) v:= λt v ht hv=>by
  rw [aaN T D I.closed hk E am hr ht];exact ap t v hv
 have a2:(sts k).fr.length=a.tmps.size:=by rw [T.len k (by omega),I.tsize]
 have bm:=Hg (a:=a) (w:=w) (ok:=ok) (mu:=mu) hg (λs v hs hv=>N s v (b2 _ (by
  unfold Option.bind at hs
  cases bR:o.guard with
  | none=>rw [bR] at hs;cases hs
  | some gw=>rw [bR] at hs;simp only [Option.mem_toList];exact hs)) hv) a2
 have keep: ∀(v:h7) (w':fv) (ok':Nat->Prop) (mu':Mu) (G:Nat),nA<=G->G<=ord.length->(∀(k' n:Nat),nA<=k'->ord[k']? =some n->((listed.setIfInBounds j true).getD n false=true↔k' < G))->Inv w0 ok0 w' ok' mu' (sts G).h->(∀q,(sts G).h.length<=q->mu' q=none)->
   (G=nA-> ∀q,mu' q≠none->q < (sts 0).h.length\/ ∃k' n:Nat,k' < nA/\ord[k']? =some n/\(listed.setIfInBounds j true).getD n false=true/\(sts k').h.length=q/\(sts (k'+1)).h.length=q+1)->
   Later w ok mu w' ok' mu'->RP w' ok' mu' (ps k) v->DInv P ops ord nA sts w0 ok0 wS okS muS aS (listed.setIfInBounds j true) (a.put o.dst v) w':=by
  intro v w' ok' mu' G c1 c2 c3 c4 c5 c6 c7 c8
  refine ⟨by simp [I.size],λi oi hi hl e he hb=> ?_,?_,by rw [qR,I.defers],λt ht=> ?_,ok',mu',G,c1,c2,c3,c4,c5,c6,λt u hu=> ?_,ac.trans c7⟩
  ·rcases jF.1 hl with h1 | ⟨rfl,_⟩
   ·exact jF.2 (.inl (I.closed i oi hi h1 e he hb))
   ·rw [E] at hi;cases hi
    exact jF.2 (.inl (hr e he hb))
  ·rw [<-I.tsize];cases o.dst<;>simp [Act.put]
  ·rw [Ef λe=>ht (lf.2 ⟨o,by simpa using Array.mem_of_getElem? E,e⟩),I.same t ht]
  ·by_cases hd:o.dst=some t
   ·have ci:t < a.tmps.size:=by
     have:=(eP.1 hu).1
     rw [hd] at this
     simpa [Act.put] using this
    have em:u=v:=by
     rw [hd] at hu
     simp [Act.put,kv,ci] at hu
     exact hu.symm
    subst em
    rw [Sx E hd (jF.2 (.inr ⟨rfl,by rw [I.size];exact K⟩)),Zq T D hk E hd (by rw [<-I.tsize];exact ci)]
    exact c8
   ·rw [Ef hd] at hu
    rw [ack E hd]
    exact (ap t u hu).later c7
 have l: ∀G,(∀(k' n:Nat),nA<=k'->ord[k']? =some n->k'≠k->(k' < G↔k' < m))->(nA<=k->k < G)-> ∀(k' n:Nat),nA<=k'->ord[k']? =some n->((listed.setIfInBounds j true).getD n false=true↔k' < G):=by
  intro G h1 h2 k' n a9 J
  rw [jF]
  by_cases e:k'=k
  ·subst e
   rw [hk] at J;cases J
   exact ⟨λ_=>h2 a9,λ_=> .inr ⟨rfl,by rw [I.size];exact K⟩⟩
  ·rw [h1 k' n a9 J e,<-hB k' n a9 J]
   constructor
   ·rintro (h | ⟨rfl,_⟩)
    ·exact h
    ·exact absurd (D.nd k' k n J hk) e
   ·exact .inl
 have z:(m=nA-> ∀q,mu q≠none->q < (sts 0).h.length\/ ∃k' n:Nat,k' < nA/\ord[k']? =some n/\(listed.setIfInBounds j true).getD n false=true/\(sts k').h.length=q/\(sts (k'+1)).h.length=q+1):= λhm q r=>by
  rcases a0 hm q r with h1 | ⟨k',n,h1,h2,h3,h4,h5⟩
  ·exact .inl h1
  ·exact .inr ⟨k',n,h1,h2,jF.2 (.inl h3),h4,h5⟩
 have A: ∀b jb,nA<=b->ord[b]? =some jb->(listed.getD jb false=true\/jb=j)-> ∀k' i,(k' < nF\/nA<=k')->k' < b->ord[k']? =some i->listed.getD i false=true:=by
  intro b jb c9 dd dl k' i h1 h2 h3
  have hp:=D.wait b jb c9 dd k' i h1 h2 h3
  rcases dl with h4 | rfl
  ·exact DN I.closed hp h4
  ·exact PN I.closed (λo' U=>by rw [E] at U;cases U;exact hr) hp
 have aT:nA<=k->k=m:= λhle=>by
  rcases Nat.lt_trichotomy k m with h1 | h1 | h1
  ·have:=(hB k j hle hk).2 h1
   rw [am] at this;cases this
  ·exact h1
  ·obtain ⟨jm,b3⟩:=T.at (k:=m) (by omega)
   have:=A k j hle hk (.inr rfl) m jm (.inr O) h1 b3
   have:=(hB m jm O b3).1 this
   omega
 unfold wpOp
 rw [E]
 simp only [bm]
 cases bY:gs k with
 | false=>
   obtain ⟨hp,hh⟩:=ek bY
   simp only [hM,if_false]
   rcases ha k nA with y | a6
   ·exact keep undef w ok mu m O bf (l m (λ_ _ _ _ _=> .rfl) (λh=>by omega)) hinv c z (.refl _ _ _) (by rw [hp];exact .skip)
   ·have be:=aT a6
    subst be
    exact keep undef w ok mu (k+1) (by omega) (by omega) (l (k+1) (λk' _ _ _ h=>by omega) (λ_=>by omega)) (by rw [hh];exact hinv) (by rw [hh];exact c) (λh=>by omega) (.refl _ _ _) (by rw [hp];exact .skip)
 | true=>
   simp only [if_true]
   left
   have F:=el bY
   have f:Fr w ok mu (mask (o.looksAt ops) (sts k).fr) a.tmps:=adm a2 N
   have bi: ∀H,cI P Γ C o ⟨mask (o.looksAt ops) (sts k).fr,H⟩=cI P Γ C o ⟨(sts k).fr,H⟩:= λH=>(Hy R3).symm
   rcases ha k nA with y | a6
   ·have r:=T.quiet D y hk E
    have d1:(sts k).h.length<=(sts (k+1)).h.length:=(T.mono 1 k (by omega)).len
    have d9:cJ Γ o=true\/(Xi o=true/\W7 o (mask (o.looksAt ops) (sts k).fr)=true):=r.imp id λh=>⟨h.1,by rw [abq];exact h.2⟩
    by_cases hm:m=nA
    ·subst hm
     have a1:=T.sub D (m - k) k (by omega)
     have p:=T.sub D (m - (k+1)) (k+1) (by omega)
     rw [show k+(m - k)=m by omega] at a1
     rw [show k+1+(m - (k+1))=m by omega] at p
     have iq:InvQ w ok mu (sts k).h:=by
      refine ⟨hinv.okw,λq pl r=> ?_,λq pl b base h1 h2=>(hinv.own q pl b base h1 h2).2.1⟩
      rcases ha q (sts k).h.length with h1 | h1
      ·exact (a1.same q h1).okL (hinv.ob q pl r)
      ·have:getOb (sts k).h q= .dead:=by unfold getOb;rw [bd,e8 h1];rfl
       rw [this];trivial
     have R:(sts (k+1)).h.length≠(sts k).h.length->mu (sts k).h.length=none:= λca=>by
      cases d4:mu (sts k).h.length with
      | none=>rfl
      | some pl=>
        rcases a0 rfl _ (by rw [d4];simp) with h1 | ⟨k',n,h1,h2,h3,h4,h5⟩
        ·have:=(T.mono k 0 (by omega)).len
         rw [iH] at this
         omega
        ·have cc:k'≠k:= λe=>by
          subst e
          rw [hk] at h2;cases h2
          rw [am] at h3;cases h3
         rcases Nat.lt_or_gt_of_ne cc with h6 | h6
         ·have:=(T.mono (k - (k'+1)) (k'+1) (by omega)).len
          rw [show k'+1+(k - (k'+1))=k by omega] at this
          omega
         ·have:=(T.mono (k' - (k+1)) (k+1) (by omega)).len
          rw [show k+1+(k' - (k+1))=k' by omega] at this
          omega
     have V:aG P o a w ok mu (sts k).h (ps k) (sts (k+1)).h:=by
      by_cases x:nF<=k/\k < m/\allocB o=true
      ·obtain ⟨hb,hh⟩:=FH x F
       rw [hh]
       exact adC Y hC x.2.2 (Vx hb) f iq
      ·rw [xM x] at F
       exact acp (st:=⟨mask (o.looksAt ops) (sts k).fr,(sts k).h⟩) Y hC (by rw [bi];exact F) d9 f iq R
     obtain ⟨news,fz,h1,bO,hh,a4⟩:=V
     have M:=(fh bO).len
     refine a4 _ _ λv w' a7=> ?_
     obtain ⟨ok',mu',g⟩:=a7
     have cd:news≠[]->mu (sts k).h.length=none:= λca=>R (by
      rw [hh,hF,M]
      have:0 < news.length:=List.length_pos_iff.2 ca
      omega)
     have b4:=g.later' hinv.okw cd
     have X:SubH h1 (sts m).h:=by
      have:SubH h1 (h1++news):= .append _ _
      rw [<-hh] at this
      exact this.trans p
     have a8:=hinv.growAt cd g (λq r=>by
      have a5:=(fh bO).mem q r
      have b5:q < h1.length:=lS (by cases hx:getOb h1 q<;>rw [hx] at a5<;>first | rfl | cases a5)
      exact (X.same q b5).fz a5) (λob d5=>by
      subst d5
      have h9:(sts k).h.length < (sts (k+1)).h.length:=by rw [hh,hF,M];simp
      have c0:getOb (sts (k+1)).h (sts k).h.length=ob:=by
       rw [hh,aA,if_neg (by omega),M,Nat.sub_self];rfl
      have:=p.same (sts k).h.length h9
      rw [c0] at this
      exact this)
     refine keep v w' ok' mu' m (by omega) (by omega) (l m (λ_ _ _ _ _=> .rfl) (λh=>by omega)) a8 (λq r=> ?_) (λ_ q r=> ?_) b4 g.rp
     ·by_cases e:q=(sts k).h.length
      ·rcases g.obs with ⟨_,Z⟩ | ⟨ob,pl,Z,_⟩
       ·rw [e,Z,<-e];exact c q r
       ·exfalso
        have h9:(sts k).h.length < (sts (k+1)).h.length:=by rw [hh,Z,hF,M];simp
        have:=p.len
        omega
      ·rw [g.same q e];exact c q r
     ·by_cases e:q=(sts k).h.length
      ·rcases g.obs with ⟨_,Z⟩ | ⟨ob,pl,Z,_⟩
       ·rw [e,Z,<-e] at r
        exact z rfl q r
       ·exact .inr ⟨k,j,y,hk,jF.2 (.inr ⟨rfl,by rw [I.size];exact K⟩),e.symm,by rw [hh,Z,hF,M,e];rfl⟩
      ·rw [g.same q e] at r
       exact z rfl q r
    ·have d2:nA < m:=by omega
     obtain ⟨jA,b1⟩:=T.at (k:=nA) (by omega)
     have d0:=(hB nA jA (hO _) b1).2 d2
     have L:nF<=k:=by
      rcases ha k nF with h1 | h1
      ·have:=A nA jA (hO _) b1 (.inl d0) k j (.inl h1) y hk
       rw [am] at this;cases this
      ·exact h1
     have ab:=D.fl k j o L y hk E
     have dq:(sts nA).h=(sts k).h:=by
      have e2:=T.sameFs D (nA - k) k L (by omega)
      rwa [show k+(nA - k)=nA by omega] at e2
     have dO:(sts nA).h=(sts nF).h:=by
      have e2:=T.sameFs D (nA - nF) nF (hO _) (by omega)
      rwa [show nF+(nA - nF)=nA by omega] at e2
     have bb: ∀q∈S.1,q < (sts k).h.length->getOb (sts m).h q=getOb (sts k).h q:= λq r d8=>by
      have Z:=T.prot D r (λh2=>by rw [dO];exact hS h2 q r) (by rw [dq];exact d8) (λd hd=>(T.mono d nA hd).len) (m - nA) (by omega)
      rw [show nA+(m - nA)=m by omega] at Z
      have e2:=T.sameFs D (nA - k) k L (by omega)
      rw [show k+(nA - k)=nA by omega] at e2
      rw [Z,e2]
     by_cases x:nF<=k/\k < nA/\allocB o=true
     ·obtain ⟨hb,hh⟩:=FH x F
      have V:=(adC Y hC x.2.2 (Vx hb) f hinv.q).m hinv c
      refine V _ _ λv w' W=> ?_
      obtain ⟨ok',mu',g1,g2,g3,g4⟩:=W
      exact keep v w' ok' mu' m O bf (l m (λ_ _ _ _ _=> .rfl) (λh=>by omega)) g2 g4 (λh=>absurd h hm) g1 g3
     have ao: ¬allocB o=true:= λh=>x ⟨L,y,h⟩
     have ab:=ab.resolve_right ao
     have ce:=T.FT L y ao hk E
     have hs:=F
     rw [xM x] at hs
     have d7:cJ Γ o=true:=ab.elim HC K8
     obtain ⟨hh,eg⟩:(sts (k+1)).h=(sts k).h/\cI P Γ C o ⟨(sts k).fr,(sts m).h⟩=some (ps k,(sts m).h):=by
      exact Yx ab ce (show cI P Γ C o ⟨(sts k).fr,(sts k).h⟩=_ from hs) (sts m).h bb
     have V:=(QN (st:=⟨mask (o.looksAt ops) (sts k).fr,(sts m).h⟩) Y hC (by rw [bi];exact eg) d7 f hinv.q (λh=>absurd rfl h)).m hinv c
     refine V _ _ λv w' W=> ?_
     obtain ⟨ok',mu',g1,g2,g3,g4⟩:=W
     exact keep v w' ok' mu' m O bf (l m (λ_ _ _ _ _=> .rfl) (λh=>by omega)) g2 g4 (λh=>absurd h hm) g1 g3
   ·have be:=aT a6
    subst be
    have hs:=F
    rw [xM (λh=>by omega)] at hs
    have d3:=XL (st:=⟨mask (o.looksAt ops) (sts k).fr,(sts k).h⟩) (w0:=w0) (ok0:=ok0) Y hC (by rw [bi];exact hs) f hinv c
    refine d3 _ _ λv w' W=> ?_
    obtain ⟨ok',mu',g1,g2,g3,g4⟩:=W
    exact keep v w' ok' mu' (k+1) (by omega) (by omega) (l (k+1) (λk' _ _ _ h=>by omega) (λ_=>by omega)) g2 g4 (λh=>by omega) g1 g3
end
end Go.AM
namespace Go.AM
open Go.RowKit
section
variable {P:kh} {Γ:hX->Option FSig} {C:IV->List Nat->List (List IV)->Option (List IV)} {ops:Array hT} {ord:List Nat} {nF nA:Nat} {S:List Nat×Bool} {sts:Nat->St} {ps:Nat->PV} {gs:Nat->Bool}
 {w0:fv} {ok0:O0} {wS:fv} {okS:Nat->Prop} {muS:Mu} {aS:Act} {R:Type}
theorem QC (T:Trc P Γ C ops ord nF nA S sts ps gs) (D:DCtx Γ ops ord nF nA) {listed:Array Bool} {a:Act} {w:fv} (I:DInv P ops ord nA sts w0 ok0 wS okS muS aS listed a w) (hsz:aS.tmps.size=(sts 0).fr.length) (hr:km .any ops listed=[]):
  ∃ok mu,Cfg w0 ok0 w ok mu (sts ord.length) a/\Step wS okS muS (sts 0).h aS w ok mu (sts ord.length).h a (dsts ops.toList):=by
 have d: ∀k,∀k' j:Nat,k' < k->ord[k']? =some j->listed.getD j false=true:=by
  intro k
  induction k with
  | zero=>intro k' j h;omega
  | succ k ih=>
    intro k' j hk hj
    by_cases e:k'=k
    ·subst e
     obtain ⟨o,s,_⟩:=T.step k' j hj
     have n:j < listed.size:=by rw [I.size];exact (eP.1 s).1
     cases hl:listed.getD j false with
     | true=>rfl
     | false=>
       have:j∈km .any ops listed:=by
        refine mem_ready.2 ⟨?_,o,s,λe he hb=> ?_⟩
        ·rw [fc,bA n] at hl ⊢
         exact hl
        ·obtain ⟨G,h2,g⟩:=D.topo k' j o e hj s he hb
         exact ih G _ (by omega) g
       rw [hr] at this;cases this
    ·exact ih k' j (by omega) hj
 obtain ⟨ok,mu,m,r,E,z,hinv,b,_,f,c⟩:=I.ex
 have hm:m=ord.length:=by
  rcases ha m ord.length with h | h
  ·obtain ⟨j,hj⟩:=T.at h
   have:=(z m j r hj).1 (d (m+1) m j (by omega) hj)
   omega
  ·omega
 subst hm
 refine ⟨ok,mu,⟨hinv,b,?_,λt p v h1 h2=> ?_⟩,c,?_,I.defers,I.same,by rw [I.tsize,hsz]⟩
 ·rw [T.len _ (hO _),I.tsize]
 ·have hp:(sts ord.length).fr.getD t .undef=p:=by rw [bd,h1];rfl
  have g:=f t v h2
  have hc:cur ops (sts 0).fr (sts ord.length).fr listed t=p:=by
   by_cases hw: ∃(i:Nat) (oi:hT),ops[i]? =some oi/\oi.dst=some t
   ·obtain ⟨i,oi,hi,A⟩:=hw
    obtain ⟨u,q⟩:=D.all i (eP.1 hi).1
    rw [Sx hi A (d (u+1) u i (by omega) q),hp]
   ·rw [El λi oi x l _=>hw ⟨i,oi,x,l⟩,<-hp]
    exact (T.ini ord.length (hO _) λk' F o' _ _ l y=>hw ⟨F,o',l,y⟩).symm
  rw [hc] at g
  exact g
 ·have:=T.mono ord.length 0 (by omega)
  rwa [iH] at this
theorem aa1 (e:aF P Γ) (g:COK P C) (T:Trc P Γ C ops ord nF nA S sts ps gs) (i:S.2=true-> ∀q∈S.1,isRw (getOb (sts nF).h q)=false) (D:DCtx Γ ops ord nF nA) (hsz:aS.tmps.size=(sts 0).fr.length) {Q:q0->Act->fv->Prop}
  (f: ∀(a:Act) (w:fv) (ok:Nat->Prop) (mu:Mu),Cfg w0 ok0 w ok mu (sts ord.length) a->Step wS okS muS (sts 0).h aS w ok mu (sts ord.length).h a (dsts ops.toList)->Q .normal a w):
  ∀(fuel:Nat) (listed:Array Bool) (a:Act) (w:fv),listed.toList.count false=fuel->DInv P ops ord nA sts w0 ok0 wS okS muS aS listed a w->wpAny P .any ops Q fuel listed a w:=by
 intro fuel
 induction fuel with
 | zero=>
   intro listed a w c I
   have hr:km .any ops listed=[]:=by
    cases h:km .any ops listed with
    | nil=>rfl
    | cons j l=>
      have hj:j∈km .any ops listed:=by rw [h];exact cb
      obtain ⟨h0,o,d,_⟩:=mem_ready.1 hj
      have b:j < listed.size:=by rw [I.size];exact (eP.1 d).1
      rw [fc,bA b] at h0
      simp only [hZ] at h0
      have:false∈listed.toList:=by rw [<-h0];exact (Array.mem_toList_iff).2 (l4 b)
      have:=List.count_pos_iff.2 this
      omega
   obtain ⟨ok,mu,h1,h2⟩:=QC T D I hsz hr
   exact ⟨hr,f a w ok mu h1 h2⟩
 | succ fuel ih=>
   intro listed a w c I
   refine ⟨λhr=> ?_,λj hj=> ?_⟩
   ·obtain ⟨ok,mu,h1,h2⟩:=QC T D I hsz hr
    exact f a w ok mu h1 h2
   ·refine wpOp_mono (λa' w' h=>ih _ a' w' ?_ h) (Y6 e g T i D I hj)
    obtain ⟨h0,o,d,_⟩:=mem_ready.1 hj
    have b:j < listed.size:=by rw [I.size];exact (eP.1 d).1
    rw [fc,bA b] at h0
    simp only [hZ] at h0
    have hl:j < listed.toList.length:=by simpa using b
    have h1:(listed.setIfInBounds j true).toList=listed.toList.set j true:=by simp
    rw [h1,List.count_set hl]
    have:listed.toList[j]=false:=by simpa using h0
    rw [this,c]
    simp
theorem XV (g:aF P Γ) (p:COK P C) (hm:P.follows .mixedOrders=true) {id:Nat} {F A B:List Nat} (hok:KQ Γ ops F A B=true) {st:St} {k:St->Option R} {r:R} (hs:rq P Γ C (some (F,A,B)) ops st k=some r)
  {a:Act} {w:fv} {ok:Nat->Prop} {mu:Mu} (hc:Cfg w0 ok0 w ok mu st a) {Q:q0->Act->fv->Prop}
  (hk: ∀(e:St) (a':Act) (w':fv) (ok':Nat->Prop) (mu':Mu),k e=some r->Cfg w0 ok0 w' ok' mu' e a'->Step w ok mu st.h a w' ok' mu' e.h a' (dsts ops.toList)->Q .normal a' w'):(Code.region id ops true).wp P Q a w:=by
 have D:=V7 hok
 have d: ∀j∈A++(F++B),j < ops.size:=by
  intro j hj
  obtain ⟨k,hk⟩:=nm.1 hj
  simp only [KQ,b6] at hok
  have n:=hok.1.1.2
  have key: ∀(l:List Nat) (s:Nat),PJ ops s l=true-> ∀j∈l,j < ops.size:=by
   intro l
   induction l with
   | nil=>intro s _ j hj;cases hj
   | cons i l ih=>
     intro s h j hj
     simp only [PJ,b6] at h
     rcases hU.1 hj with rfl | hj
     ·have h1:=h.1
      split at h1
      ·rename_i x;exact (eP.1 x).1
      ·cases h1
     ·exact ih _ h.2 j hj
  exact key _ _ n j hj
 obtain ⟨S,sts,ps,gs,h0,T,u,f⟩:=KM (l:=B) (F:=F) (λj hj=>d j (b2 _ (b2 _ hj))) (λj hj=>d j (b2 _ (b7 _ hj))) A st (λj hj=>d j (b7 _ hj)) hs
 subst h0
 obtain ⟨hinv,hl⟩:=hc.inv.drawn (w.drawn+1)
 refine wp_region_any hm (aa1 g p T u D hc.fr.size.symm (w0:=w0) (ok0:=ok0) (wS:={ w with drawn:=w.drawn+1 }) (okS:=ok) (muS:=mu) (aS:=a) (λa' w' ok' mu' h1 h2=>hk _ a' w' ok' mu' f h1 ⟨hl.trans h2.later,h2.stay,h2.defers,h2.same,h2.size⟩) _ _ a _ (by simp) ?_)
 have b: ∀j,(Array.replicate ops.size false).getD j false=false:= λj=>by
  rw [fc]
  by_cases h:j < ops.size<;>simp [h]
 refine ⟨by simp,λj o _ h=>(by rw [b] at h;cases h),hc.fr.size.symm,rfl,λ_ _=>rfl,ok,mu,(A++F).length,hO _,D.len,λk' y h1 h2=>⟨λh=>(by rw [b] at h;cases h),λh=>by omega⟩,?_,λq m=> ?_,λ_ q m=> ?_,λt v hv=> ?_,.refl _ _ _⟩
 ·have c:=T.sub D (A++F).length 0 (by omega)
  rw [iH] at c
  exact hinv.subH hc.fresh c
 ·have:=(T.mono (A++F).length 0 (by have:=D.len;omega)).len
  rw [iH] at this
  exact hc.fresh q (by omega)
 ·left
  rcases ha q (sts 0).h.length with h | h
  ·exact h
  ·exact absurd (hc.fresh q h) m
 ·rw [El λi oi _ _ h=>by rw [b] at h;cases h]
  exact (hc.fr.at hv).later hl
theorem WY (c:aF P Γ) (d:COK P C) {id:Nat} {st:St} {k:St->Option R} {r:R} (hs:rq P Γ C none ops st k=some r)
  {a:Act} {w:fv} {ok:Nat->Prop} {mu:Mu} (hc:Cfg w0 ok0 w ok mu st a) {Q:q0->Act->fv->Prop}
  (hk: ∀(b:St) (a':Act) (w':fv) (ok':Nat->Prop) (mu':Mu),k b=some r->Cfg w0 ok0 w' ok' mu' b a'->Step w ok mu st.h a w' ok' mu' b.h a' (dsts ops.toList)->Q .normal a' w'):(Code.region id ops false).wp P Q a w:=
 wp_region_list (Gr c d ops.toList st a w ok mu hs hc hk)
end
end Go.AM
namespace Go.AM
open Go.RowKit
theorem RP.restrict {w w':fv} {ok ok':Nat->Prop} {mu mu' x:Mu} {p:PV} {v:h7} (r:RP w ok mu p v) (hm: ∀o,mu o≠none->x o=mu' o): ∀{v':h7},RP w' ok' mu' p v'->RP w' ok' x p v':=by
 induction r with
 | undef v=>exact λ{v'} r=>by cases r;exact .undef _
 | skip=>exact λ{v'} r=>by cases r;exact .skip
 | imm h=>exact λ{v'} r=>by cases r with | imm h=>exact .imm h
 | nils=>exact λ{v'} r=>by cases r;exact .nils _
 | agg cs vs hlen hrel ih=>
   intro v' r
   cases r with
   | agg _ vs' c d=>
     refine .agg _ _ c λi p v h1 h2=> ?_
     have hi:i < vs.size:=by rw [<-hlen];exact (e6.1 h1).1
     exact ih i p vs[i] h1 (bA hi) (d i p v h1 h2)
 | tup cs vs hlen hrel ih=>
   intro v' r
   cases r with
   | tup _ vs' c d=>
     refine .tup _ _ c λi p v h1 h2=> ?_
     have hi:i < vs.size:=by rw [<-hlen];exact (e6.1 h1).1
     exact ih i p vs[i] h1 (bA hi) (d i p v h1 h2)
 | buf o n a cap pl h1 h2 t z=>exact λ{v'} r=>by cases r with | buf _ _ a' cap' pl' f g m s=>exact .buf o n a' cap' pl' (by rw [hm o (by rw [h1];simp)];exact f) g m s
 | sub o l u a cap pl h1 h2 t z D=>exact λ{v'} r=>by cases r with | sub _ _ _ a' cap' pl' f g m s C=>exact .sub o l u a' cap' pl' (by rw [hm o (by rw [h1];simp)];exact f) g m s C
 | ptr o j pl b base h1 h2=>exact λ{v'} r=>by cases r with | ptr _ _ pl' b' base' f g=>exact .ptr o j pl' b' base' (by rw [hm o (by rw [h1];simp)];exact f) g
 | bptr o i j pl b base h1 h2=>exact λ{v'} r=>by cases r with | bptr _ _ _ pl' b' base' f g=>exact .bptr o i j pl' b' base' (by rw [hm o (by rw [h1];simp)];exact f) g
 | eptr es e i j b off vals h1 h2 t z=>exact λ{v'} r=>by cases r with | eptr _ A _ _ b' q k f g m s=>exact .eptr es A i j b' q k f g m s
 | iptr cs j0 j b off vals h1 h2 t=>exact λ{v'} r=>by cases r with | iptr _ _ _ b' q k f g m=>exact .iptr cs j0 j b' q k f g m
 | mp o pl b h1 h2 t=>exact λ{v'} r=>by cases r with | mp _ pl' b' f g m=>exact .mp o pl' b' (by rw [hm o (by rw [h1];simp)];exact f) g m
 | sn T n o pl v h1 h2=>exact λ{v'} r=>by cases r with | sn _ _ _ pl' _ f g=>exact .sn T n o pl' _ (by rw [hm o (by rw [h1];simp)];exact f) g
 | tnil=>exact λ{v'} r=>by cases r;exact .tnil
 | tbuf T o n pl v h1 h2 t=>exact λ{v'} r=>by cases r with | tbuf _ _ _ pl' _ f g m=>exact .tbuf T o n pl' _ (by rw [hm o (by rw [h1];simp)];exact f) g m
 | clo fn caps cv hlen hrel ih=>
   intro v' r
   cases r with
   | clo _ _ y c d=>
     refine .clo fn caps y c λi p v h1 h2=> ?_
     have hi:i < cv.size:=by rw [<-hlen];exact (e6.1 h1).1
     exact ih i p cv[i] h1 (bA hi) (d i p v h1 h2)
def Fm (x y:Ob):Prop:=x.fz=y.fz/\((∃m a cs,x= .box m cs/\y= .box a cs)\/ ∃m a s z,x= .arr m s z/\y= .arr a s z)
theorem Fm.live {x y:Ob} (h:Fm x y):y.live=true:=by
 obtain ⟨_,⟨m,a,cs,_,rfl⟩ | ⟨m,a,s,z,_,rfl⟩⟩:=h<;>rfl
theorem ov {x:Ob} (h:x.live=true):Fm (gb x) x:=by
 cases x with
 | dead=>cases h
 | box m cs=>cases m<;>exact ⟨rfl,.inl ⟨_,_,_,rfl,rfl⟩⟩
 | arr m s z=>cases m<;>exact ⟨rfl,.inr ⟨_,_,_,_,rfl,rfl⟩⟩
theorem Fm.symm {x y:Ob} (h:Fm x y):Fm y x:=by
 obtain ⟨h1,⟨m,b,cs,h2,a⟩ | ⟨m,b,s,z,h2,a⟩⟩:=h
 ·exact ⟨h1.symm,.inl ⟨_,_,_,a,h2⟩⟩
 ·exact ⟨h1.symm,.inr ⟨_,_,_,_,a,h2⟩⟩
theorem l6 (x:Ob):(gb x).live=x.live:=by
 cases x with
 | dead=>rfl
 | box m cs=>cases m<;>rfl
 | arr m s z=>cases m<;>rfl
theorem Bt (x:Ob):isRw (gb x)=false:=by
 cases x with
 | dead=>rfl
 | box m cs=>cases m<;>rfl
 | arr m s z=>cases m<;>rfl
theorem lu (h:List Ob) (o:Nat):getOb (h.map gb) o=gb (getOb h o):=by
 unfold getOb
 simp only [bd,hH]
 cases h[o]? <;>rfl
theorem dT {x:Ob} (h:isRw x=true):x.live=true/\x.fz=false:=by
 cases x with
 | dead=>cases h
 | box m cs=>cases m<;>first | exact ⟨rfl,rfl⟩ | cases h
 | arr m s z=>cases m<;>first | exact ⟨rfl,rfl⟩ | cases h
section
variable {w0:fv} {ok0:O0} {w:fv} {ok:Nat->Prop} {mu:Mu} {h:List Ob} {a:Act}
theorem Fr.upd {fr:List PV} {tmps:Array h7} (r:Fr w ok mu fr tmps) {t:Nat} {p:PV} (hp: ∀v,tmps[t]? =some v->RP w ok mu p v):Fr w ok mu (fr.set t p) tmps:=by
 refine ⟨by simp [r.size],λu q x h1 h2=> ?_⟩
 by_cases e:t=u
 ·subst e
  rw [l3] at h1
  simp only [if_true] at h1
  split at h1
  ·cases h1;exact hp x h2
  ·cases h1
 ·rw [hY e] at h1
  exact r.rel u q x h1 h2
theorem Lg {w':fv} {ok':Nat->Prop} {mu':Mu} {N:St} {h1:List Ob} {fz:List Nat} {vs:List IV} (c:Cfg w0 ok0 w' ok' mu' N a) (hf:uO N.h fz=some h1):
  ∀(ks:List (Option Nat)) (caps:List PV) (d:List h7) (xs:List IV) (i:Nat) (H:List Ob) (M:Mu),MN N.h ks caps=some xs->caps.length=d.length->(∀(j:Nat) (p:PV) (v:h7),caps[j]? =some p->d[j]? =some v->RP w' ok' mu' p v)->(∀j,j < xs.length->nth vs (i+j)=nth xs j)->dF (tQ ks caps)=true->
   (∀o∈tQ ks caps,isRw (getOb h1 o)=true/\ ∀pl b base I w f,mu' o=some pl->pl.loc=some (b,base)->M I=some w->w.loc=some (b,f)->(getOb H I).live=false)->Inv w0 ok0 w' (jl ok' mu' fz) M H->(∀q,H.length<=q->M q=none)->
   xs.length=Dw ks/\ ∃M2,Inv w0 ok0 w' (jl ok' mu' fz) M2 (H++pn vs ks i)/\(∀q,(H++pn vs ks i).length<=q->M2 q=none)/\Later w' (jl ok' mu' fz) M w' (jl ok' mu' fz) M2/\(oP vs ks i H.length).length=d.length/\(∀(j:Nat) (p:PV) (v:h7),(oP vs ks i H.length)[j]? =some p->d[j]? =some v->RP w' (jl ok' mu' fz) M2 p v)/\
     ∀o p,M2 o=some p->(o < H.length/\M o=some p)\/(H.length<=o/\ ∀b base,p.loc=some (b,base)-> ∃k∈tQ ks caps,∃X bs,mu' k=some X/\X.loc=some (b,bs))
 | [],[],d,xs,i,H,M,y,hl,hr,hv,m,l,O,A=>by
   simp only [MN,hR] at y
   subst y
   refine ⟨rfl,M,by simpa [pn] using O,by simpa [pn] using A,.refl _ _ _,by simpa [oP] using hl,λj p v h=>by simp [oP] at h,λo p ho=> .inl ⟨?_,ho⟩⟩
   rcases ha o H.length with g | g
   ·exact g
   ·rw [A o g] at ho;cases ho
 | [],_::_,d,xs,i,H,M,y,hl,hr,hv,m,l,O,A=>by simp [MN] at y
 | _::_,[],d,xs,i,H,M,y,hl,hr,hv,m,l,O,A=>by simp [MN] at y
 | k::ks,p::caps,d,xs,i,H,M,y,hl,hr,hv,m,l,O,A=>by
   have iz:=c.inv.freeze c.fresh hf
   simp only [MN] at y
   split at y
   ·rename_i x0 z r F
    cases y
    cases d with
    | nil=>simp at hl
    | cons v0 d=>
    have r0:=hr 0 p v0 rfl rfl
    have U: ∀(j:Nat) (p:PV) (v:h7),caps[j]? =some p->d[j]? =some v->RP w' ok' mu' p v:= λj p v h1 h2=>hr (j+1) p v (by simpa using h1) (by simpa using h2)
    have P:caps.length=d.length:=by simpa using hl
    have G: ∀n,x0.length=n-> ∀j,j < z.length->nth vs (i+n+j)=nth z j:= λn hn j hj=>by
     have:=hv (n+j) (by simp;omega)
     rw [show i+n+j=i+(n+j) by omega,this]
     unfold nth
     rw [bd,g8 (by omega),bd]
     congr 2;omega
    have E: ∀j,j < x0.length->nth vs (i+j)=nth x0 j:= λj hj=>by
     rw [hv j (by simp;omega)]
     unfold nth
     rw [bd,g7 hj,bd]
    unfold agU at r
    split at r
    ·rename_i x
     cases r
     have J:tQ (none::ks) (PV.imm x::caps)=tQ ks caps:=rfl
     rw [J] at m l
     obtain ⟨e1,M2,i2,Y,l2,n2,p2,m2⟩:=Lg c hf ks caps d z (i+1) H M F P U (G 1 rfl) m l O A
     refine ⟨by simp [Dw,e1];omega,M2,i2,Y,l2,by simp [oP,n2],λj q v h1 h2=> ?_,m2⟩
     cases j with
     | zero=>
       simp only [oP,mv,hR] at h1 h2
       subst h1;subst h2
       have h0:=E 0 (by simp)
       rw [j1] at h0
       rw [h0]
       cases r0 with
       | imm r0=>exact .imm (r0.more λb hb=> .inl hb)
     | succ j=>exact p2 j q v (by simpa [oP] using h1) (by simpa using h2)
    ·rename_i n o
     split at r
     ·rename_i cs hg
      split at r
      ·rename_i hn
       obtain ⟨br,a2⟩:=J7 r
       have J:tQ (some n::ks) (PV.ptr o 0::caps)=o::tQ ks caps:=rfl
       rw [J] at m l
       simp only [dF,b6,hP,hD,decide_eq_false_iff_not] at m
       obtain ⟨a7,K⟩:=l o cb
       obtain ⟨Q,a5⟩:=dT a7
       cases r0 with
       | ptr _ _ pl b base hm a4=>
         have R:=c.inv.ob o pl hm
         rw [hg] at R
         have S: ∀V,ObOk w' (jl ok' mu' fz) V pl (.box .rw (iB vs i n)):= λV=>by
          obtain ⟨b',base',cc,T,q1,q2,q3,q4⟩:=R
          refine ⟨b',base',cc,T,q1,q2,by rw [dv];omega,λj p hj=> ?_⟩
          have a3:j < n:=by have:=(e6.1 hj).1;rw [dv] at this;exact this
          rw [sJ vs i n j a3] at hj
          cases hj
          obtain ⟨p',C,s⟩:=a2 j (nth x0 j) (J1 (by omega))
          obtain ⟨u,q5,q6⟩:=q4 j p' C
          rw [E j (by omega)]
          exact ⟨u,q5,.imm ((s q6).more λb hb=> .inl hb)⟩
         obtain ⟨ia,fa,la⟩:=O.add A (ob:= .box .rw (iB vs i n)) (pl:=pl) (S _) (λb base hb=>by
          obtain ⟨C,s,D⟩:=iz.own o pl b base hm hb
          exact ⟨C,s,D Q a5,λI w f Z g5=>K pl b base I w f hm hb Z g5⟩)
         have a0:(H++[Ob.box .rw (iB vs i n)]).length=H.length+1:=by simp
         obtain ⟨e1,M2,i2,Y,l2,n2,p2,m2⟩:=Lg c hf ks caps d z (i+n) (H++[.box .rw (iB vs i n)]) _ F P U (G n (by omega)) m.2 (λL t=>⟨(l L (b0 _ t)).1,λW b base I w f C s D Z=>by
          by_cases e:I=H.length
          ·exfalso
           subst e;simp at D;subst D
           have:=iz.inj o L pl W b f base hm C Z s Q (dT (l L (b0 _ t)).1).1
           subst this
           exact m.1 t
          ·simp only [e,if_false] at D
           have:=(l L (b0 _ t)).2 W b base I w f C s D Z
           rw [aA]
           split
           ·exact this
           ·rename_i bm
            exfalso;rw [A I (by omega)] at D;cases D⟩) ia fa
         have a1:H++[Ob.box .rw (iB vs i n)]++pn vs ks (i+n)=H++pn vs (some n::ks) i:=by simp [pn]
         rw [a1] at i2 Y
         rw [a0] at n2 p2 m2
         refine ⟨by simp [Dw,e1];omega,M2,i2,Y,la.trans l2,by simp [oP,n2],λj q v h1 h2=> ?_,λL p3 t=> ?_⟩
         ·cases j with
          | zero=>
            simp only [oP,mv,hR] at h1 h2
            subst h1;subst h2
            exact .ptr H.length 0 pl b base (l2.mu _ _ (by simp)) a4
          | succ j=>exact p2 j q v (by simpa [oP] using h1) (by simpa using h2)
         ·rcases m2 L p3 t with ⟨C,s⟩ | ⟨C,s⟩
          ·by_cases e:L=H.length
           ·subst e
            simp at s;subst s
            exact .inr ⟨hO _,λb base hb=>⟨o,cb,pl,base,hm,hb⟩⟩
           ·simp only [e,if_false] at s
            exact .inl ⟨by omega,s⟩
          ·refine .inr ⟨by omega,λb base hb=> ?_⟩
           obtain ⟨k,hk,h5⟩:=s b base hb
           exact ⟨k,b0 _ hk,h5⟩
      ·cases r
     ·cases r
    ·cases r
   ·cases y
theorem xg {mu mu' a:Mu} {o:Nat} {h news:List Ob} (hk:o < h.length/\getOb h o= .dead/\ ∃pl,mu o=some pl/\mu' o=some pl) (hl: ∀o pl,mu o=some pl->a o=some pl):
  o < (h++news).length/\getOb (h++news) o= .dead/\ ∃pl,a o=some pl/\mu' o=some pl:=by
 obtain ⟨h1,h2,pl,b,c⟩:=hk
 exact ⟨by rw [hF];omega,by rw [aA,if_pos h1];exact h2,pl,hl o pl b,c⟩
theorem uk {st:St}: ∀{L:List (Nat×Kd)} {vs:List IV},pack st L=some vs-> ∀o∈vC L,o∈taken st L
 | [],_,_,o,a=>by cases a
 | (t,f)::L,vs,hp,o,a=>by
   simp only [pack] at hp
   split at hp
   ·rename_i x xs b d
    have ih:=uk d
    cases f with
    | K q shp=>
      rcases hU.1 a with rfl | a
      ·simp only [pz] at b
       split at b
       ·split at b
        ·obtain ⟨⟨h,os⟩,e,_⟩:=gf.1 b
         simp only [taken,e]
         obtain ⟨_,i,c,hm⟩:=BB e
         cases c
         exact b7 _ hm
        ·cases b
       ·cases b
      ·simp only [taken];exact b2 _ (ih o a)
    | I=>exact ih o a
    | S n=>exact ih o a
    | B sz=>simp only [taken];exact b2 _ (ih o a)
    | G n=>simp only [taken];exact b2 _ (ih o a)
    | M=>simp only [taken];exact b2 _ (ih o a)
    | O shp=>simp only [taken];exact b2 _ (ih o a)
    | C g ks=>simp only [taken];exact b2 _ (ih o a)
   ·cases hp
theorem gW {w':fv} {ok':Nat->Prop} {mu':Mu} {z:St} {h1:List Ob} {fz:List Nat} {vs:List IV} (c:Cfg w0 ok0 w' ok' mu' z a) (hf:uO z.h fz=some h1):
  ∀(L:List (Nat×Kd)) (i:Nat) (st:St) (mu:Mu) (vt:List IV),pack z L=some vt->(∀j,j < vt.length->nth vs (i+j)=nth vt j)->(∀q∈bo z L,q∈fz)->dF (taken z L)=true->
   (∀o∈taken z L,isRw (getOb h1 o)=true/\ ∀pl b base w l d,mu' o=some pl->pl.loc=some (b,base)->mu w=some l->l.loc=some (b,d)->(getOb st.h w).live=false)->Cfg w0 ok0 w' (jl ok' mu' fz) mu st a->(∀o∈vC L,o < st.h.length/\getOb st.h o= .dead/\ ∃pl,mu o=some pl/\mu' o=some pl)->
   ∃X,Cfg w0 ok0 w' (jl ok' mu' fz) X (unpack vs L i st) a/\ ∀o pl,mu o=some pl->X o=some pl
 | [],i,st,mu,vt,_,_,_,_,_,cs,_=>⟨mu,cs,λ_ _ h=>h⟩
 | (t,kd)::L,i,st,mu,vt,hp,hv,Z,H,f,cs,hK=>by
   have iz:=c.inv.freeze c.fresh hf
   have fH:=fh hf
   have f1:Later w' ok' mu' w' (jl ok' mu' fz) mu':=⟨⟨λ_ _=>rfl,λ_ h=> .inl h⟩,λ_ _ h=>h,.refl _⟩
   simp only [pack] at hp
   split at hp
   ·rename_i x xs F a3
    cases hp
    have ac: ∀n,x.length=n-> ∀j,j < xs.length->nth vs (i+n+j)=nth xs j:= λn hn j hj=>by
     have:=hv (n+j) (by simp;omega)
     rw [show i+n+j=i+(n+j) by omega,this]
     unfold nth
     rw [bd,g8 (by omega),bd]
     congr 2;omega
    have a6: ∀j,j < x.length->nth vs (i+j)=nth x j:= λj hj=>by
     rw [hv j (by simp;omega)]
     unfold nth
     rw [bd,g7 hj,bd]
    cases kd with
    | I=>
      simp only [pz,gf] at F
      obtain ⟨y,hy,rfl⟩:=F
      simp only [bo,j3] at Z
      refine gW c hf L (i+1) _ mu xs a3 (ac 1 rfl) (λq hq=>Z q (.inr hq)) (by simpa [taken] using H) (by simpa [taken] using f) ⟨cs.inv,cs.fresh,cs.fr.upd λv s=> ?_⟩ hK
      have h0:=a6 0 (by simp)
      rw [j1] at h0
      rw [h0]
      exact .imm ((qA c.inv.q 5 _ _ v hy (c.fr.at s)).more λb hb=>jl.sub (λq hq=>Z q (.inl hq)) hb)
    | S n=>
      simp only [pz] at F
      split at F
      ·rename_i ps D
       split at F
       ·rename_i hn
        obtain ⟨hl,hg⟩:=fN F
        simp only [bo,j3] at Z
        refine gW c hf L (i+n) _ mu xs a3 (ac n (by rw [hl,hn])) (λq hq=>Z q (.inr hq)) (by simpa [taken] using H) (by simpa [taken] using f) ⟨cs.inv,cs.fresh,cs.fr.upd λv s=> ?_⟩ hK
        have hr:=c.fr.at s
        rw [D] at hr
        cases hr with
        | agg _ us hlen hrel=>
          refine .agg _ _ (by rw [dv,<-hlen,hn]) λj p u h2 h3=> ?_
          have hj:j < n:=by have:=(e6.1 h2).1;rw [dv] at this;exact this
          rw [sJ vs i n j hj] at h2
          cases h2
          obtain ⟨y,h4,h5⟩:=hg j ps[j] (g0 (by omega))
          have h6:nth vs (i+j)=y:=by rw [a6 j (by omega)];unfold nth;rw [bd,h4];rfl
          rw [h6]
          refine .imm ((qA c.inv.q 5 _ _ u h5 (hrel j _ u (g0 (by omega)) h3)).more λb hb=>jl.sub (λq hq=>Z q (.inl ?_)) hb)
          rw [D]
          simp only [gD,PV.cells,n5]
          exact ⟨ps[j],o1 _,hq⟩
       ·cases F
      ·cases F
    | B sz=>
      simp only [pz] at F
      have Y: ∀q∈bo z L,q∈fz:=by simpa [bo] using Z
      split at F
      ·rename_i D
       split at F
       case isFalse=>cases F
       rename_i dd
       cases F
       have h0:=a6 0 (by simp)
       rw [j1] at h0
       have a1:nth vs i= .lst []:=h0
       obtain ⟨ia,fa,la⟩:=cs.inv.add cs.fresh (ob:= .arr .rw sz (.lst [])) (pl:=⟨none,0,sz⟩) (.inl ⟨dd,rfl,[],rfl,rfl,by simp,λ_=>rfl,λb base hb=>by cases hb⟩) (λb base hb=>by cases hb)
       have am:taken z ((t,Kd.B sz)::L)=taken z L:=by simp only [taken,D,List.nil_append]
       rw [am] at H f
       obtain ⟨X,c2,e2⟩:=gW c hf L (i+1) ⟨st.fr.set t (.buf st.h.length (bU (nth vs i))),st.h++[.arr .rw sz (nth vs i)]⟩ _ xs a3 (ac 1 rfl) Y H (λo W=>⟨(f o W).1,λpl b base w l d N P J V=>by
        by_cases e:w=st.h.length
        ·subst e;simp at J;subst J;cases V
        ·simp only [e,if_false] at J
         have:=(f o W).2 pl b base w l d N P J V
         rw [aA]
         split
         ·exact this
         ·rename_i ca
          exfalso;rw [cs.fresh w (by omega)] at J;cases J⟩)
        ⟨by rw [a1];exact ia,by rw [a1];exact fa,(cs.fr.later la).upd λv s=>by
          have hr:=c.fr.at s
          rw [D] at hr
          cases hr
          rw [a1]
          exact .buf st.h.length 0 _ 0 ⟨none,0,sz⟩ (by simp) rfl ⟨hO _,.inl ⟨rfl,rfl⟩⟩ (λb base hb=>by cases hb)⟩ λo W=>xg (hK o W) la.mu
       exact ⟨X,c2,λo pl W=>e2 o pl (la.mu o pl W)⟩
      ·rename_i o n D
       split at F
       ·rename_i sz' y hg
        split at F
        ·rename_i hsz
         cases F
         subst hsz
         have h0:=a6 0 (by simp)
         rw [j1] at h0
         have a1:nth vs i=y:=h0
         have am:taken z ((t,Kd.B sz')::L)=o::taken z L:=by simp only [taken,D];rfl
         rw [am] at H f
         simp only [dF,b6,hP,hD,decide_eq_false_iff_not] at H
         obtain ⟨bi,Q⟩:=f o cb
         obtain ⟨U,bC⟩:=dT bi
         by_cases ao:t < a.tmps.size
         ·have s:a.tmps[t]? =some a.tmps[t]:=bA ao
          have hr:=c.fr.at s
          rw [D] at hr
          generalize bb:a.tmps[t]=v at hr s
          cases hr with
          | buf _ _ A cap pl hm hn hh hc=>
            have a2:=c.inv.ob o pl hm
            rw [hg] at a2
            have a9: ∀be,ObOk w' (jl ok' mu' fz) be pl (.arr .rw sz' y):= λbe=>by
             obtain ⟨q1,es,q2,q3,q4,q5,q6⟩:=a2.arrC hc
             refine .inl ⟨a2.posC hc,q1,es,q2,q3,q4,q5,λb base hb=> ?_⟩
             obtain ⟨cc,T,q7,q8,q9⟩:=q6 b base hb
             refine ⟨cc,T,q7,q8,λi j e x he F=> ?_⟩
             obtain ⟨u,e4,e5⟩:=q9 i j e x he F
             exact ⟨u,e4,e5.more λb hb=> .inl hb⟩
            obtain ⟨ia,fa,la⟩:=cs.inv.add cs.fresh (ob:= .arr .rw sz' y) (pl:=pl) (a9 _) (λb base hb=>by
             obtain ⟨N,P,J⟩:=iz.own o pl b base hm hb
             exact ⟨N,P,J U bC,λw l d V g5=>Q pl b base w l d hm hb V g5⟩)
            have hlen:bU (nth vs i)=n:=by
             obtain ⟨q1,es,q2,q3,_⟩:=a2.arrC hc
             rw [a1,q2,hn];exact q3
            obtain ⟨X,c2,e2⟩:=gW c hf L (i+1) ⟨st.fr.set t (.buf st.h.length (bU (nth vs i))),st.h++[.arr .rw sz' (nth vs i)]⟩ _ xs a3 (ac 1 rfl) Y H.2 (λo3 m=>⟨(f o3 (b0 _ m)).1,λR b base w l d N P J V=>by
             by_cases e:w=st.h.length
             ·exfalso
              subst e;simp at J;subst J
              have:=iz.inj o o3 pl R b d base hm N V P U (dT (f o3 (b0 _ m)).1).1
              subst this
              exact H.1 m
             ·simp only [e,if_false] at J
              have:=(f o3 (b0 _ m)).2 R b base w l d N P J V
              rw [aA]
              split
              ·exact this
              ·rename_i ca
               exfalso;rw [cs.fresh w (by omega)] at J;cases J⟩)
             ⟨by rw [a1];exact ia,by rw [a1];exact fa,(cs.fr.later la).upd λu hu=>by
               rw [s] at hu;cases hu
               rw [hlen]
               exact .buf st.h.length n A cap pl (by simp) hn hh hc⟩ λo W=>xg (hK o W) la.mu
            exact ⟨X,c2,λo pl W=>e2 o pl (la.mu o pl W)⟩
         ·exfalso
          rw [bd,e8 (by rw [c.fr.size];omega)] at D
          cases D
        ·cases F
       ·cases F
      ·cases F
    | G n=>
      simp only [pz] at F
      split at F
      ·rename_i o D
       split at F
       ·rename_i ps hg
        split at F
        ·rename_i hn
         obtain ⟨hl,eg⟩:=fN F
         have am:taken z ((t,Kd.G n)::L)=o::taken z L:=by simp only [taken,D];rfl
         have d8:bo z ((t,Kd.G n)::L)=ps.flatMap (refs z.h 5)++bo z L:=by simp only [bo,D,hg]
         rw [am] at H f
         rw [d8] at Z
         simp only [j3] at Z
         simp only [dF,b6,hP,hD,decide_eq_false_iff_not] at H
         obtain ⟨bi,Q⟩:=f o cb
         obtain ⟨U,bC⟩:=dT bi
         by_cases ao:t < a.tmps.size
         ·have s:a.tmps[t]? =some a.tmps[t]:=bA ao
          have hr:=c.fr.at s
          rw [D] at hr
          generalize bb:a.tmps[t]=v at hr s
          cases hr with
          | ptr _ _ pl b base hm bB=>
            have a2:=c.inv.ob o pl hm
            rw [hg] at a2
            have a9: ∀be,ObOk w' (jl ok' mu' fz) be pl (.box .rw (iB vs i n)):= λbe=>by
             obtain ⟨b',base',cc,T,q1,q2,q3,q4⟩:=a2
             refine ⟨b',base',cc,T,q1,q2,by rw [dv];omega,λj p hj=> ?_⟩
             have ek:j < n:=by have:=(e6.1 hj).1;rw [dv] at this;exact this
             rw [sJ vs i n j ek] at hj
             cases hj
             obtain ⟨u,q5,q6⟩:=q4 j ps[j] (g0 (by omega))
             obtain ⟨y,h4,h5⟩:=eg j ps[j] (g0 (by omega))
             have h6:nth vs (i+j)=y:=by rw [a6 j (by omega)];unfold nth;rw [bd,h4];rfl
             rw [h6]
             exact ⟨u,q5,.imm ((qA c.inv.q 5 _ _ u h5 q6).more λb hb=>jl.sub (λq hq=>Z q (.inl (n5.2 ⟨ps[j],o1 _,hq⟩))) hb)⟩
            obtain ⟨ia,fa,la⟩:=cs.inv.add cs.fresh (ob:= .box .rw (iB vs i n)) (pl:=pl) (a9 _) (λb base hb=>by
             obtain ⟨N,P,J⟩:=iz.own o pl b base hm hb
             exact ⟨N,P,J U bC,λw l d V g5=>Q pl b base w l d hm hb V g5⟩)
            obtain ⟨X,c2,e2⟩:=gW c hf L (i+n) ⟨st.fr.set t (.ptr st.h.length 0),st.h++[.box .rw (iB vs i n)]⟩ _ xs a3 (ac n (by rw [hl,hn])) (λq hq=>Z q (.inr hq)) H.2 (λo3 m=>⟨(f o3 (b0 _ m)).1,λR b base w l d N P J V=>by
             by_cases e:w=st.h.length
             ·exfalso
              subst e;simp at J;subst J
              have:=iz.inj o o3 pl R b d base hm N V P U (dT (f o3 (b0 _ m)).1).1
              subst this
              exact H.1 m
             ·simp only [e,if_false] at J
              have:=(f o3 (b0 _ m)).2 R b base w l d N P J V
              rw [aA]
              split
              ·exact this
              ·rename_i ca
               exfalso;rw [cs.fresh w (by omega)] at J;cases J⟩)
             ⟨ia,fa,(cs.fr.later la).upd λu hu=>by
               rw [s] at hu;cases hu
               exact .ptr st.h.length 0 pl b base (by simp) bB⟩ λo W=>xg (hK o W) la.mu
            exact ⟨X,c2,λo pl W=>e2 o pl (la.mu o pl W)⟩
         ·exfalso
          rw [bd,e8 (by rw [c.fr.size];omega)] at D
          cases D
        ·cases F
       ·cases F
      ·cases F
    | M=>
      simp only [pz] at F
      have Y: ∀q∈bo z L,q∈fz:=by simpa [bo] using Z
      split at F
      ·rename_i o D
       split at F
       ·rename_i sz y hg
        ·cases F
         have h0:=a6 0 (by simp)
         rw [j1] at h0
         have a1:nth vs i=y:=h0
         have am:taken z ((t,Kd.M)::L)=o::taken z L:=by simp only [taken,D];rfl
         rw [am] at H f
         simp only [dF,b6,hP,hD,decide_eq_false_iff_not] at H
         obtain ⟨bi,Q⟩:=f o cb
         obtain ⟨U,bC⟩:=dT bi
         by_cases ao:t < a.tmps.size
         ·have s:a.tmps[t]? =some a.tmps[t]:=bA ao
          have hr:=c.fr.at s
          rw [D] at hr
          generalize bb:a.tmps[t]=v at hr s
          cases hr with
          | mp _ pl b hm bB ce=>
            have a2:=c.inv.ob o pl hm
            rw [hg] at a2
            obtain ⟨_,es,rfl,c9⟩:=a2.mapZ ce bB
            have a9: ∀be,ObOk w' (jl ok' mu' fz) be pl (.arr .rw 0 (.map es)):= λbe=>
             .inr ⟨ce,es,b,rfl,bB,c9.keeps ⟨λ_ _=>rfl,λb hb=> .inl hb⟩ rfl⟩
            obtain ⟨ia,fa,la⟩:=cs.inv.add cs.fresh (ob:= .arr .rw 0 (.map es)) (pl:=pl) (a9 _) (λb base hb=>by
             obtain ⟨N,P,J⟩:=iz.own o pl b base hm hb
             exact ⟨N,P,J U bC,λw l d V g5=>Q pl b base w l d hm hb V g5⟩)
            obtain ⟨X,c2,e2⟩:=gW c hf L (i+1) ⟨st.fr.set t (.mp st.h.length),st.h++[.arr .rw 0 (nth vs i)]⟩ _ xs a3 (ac 1 rfl) Y H.2 (λo3 m=>⟨(f o3 (b0 _ m)).1,λR b base w l d N P J V=>by
             by_cases e:w=st.h.length
             ·exfalso
              subst e;simp at J;subst J
              have:=iz.inj o o3 pl R b d base hm N V P U (dT (f o3 (b0 _ m)).1).1
              subst this
              exact H.1 m
             ·simp only [e,if_false] at J
              have:=(f o3 (b0 _ m)).2 R b base w l d N P J V
              rw [aA]
              split
              ·exact this
              ·rename_i ca
               exfalso;rw [cs.fresh w (by omega)] at J;cases J⟩)
             ⟨by rw [a1];exact ia,by rw [a1];exact fa,(cs.fr.later la).upd λu hu=>by
               rw [s] at hu;cases hu
               exact .mp st.h.length pl b (by simp) bB ce⟩ λo W=>xg (hK o W) la.mu
            exact ⟨X,c2,λo pl W=>e2 o pl (la.mu o pl W)⟩
         ·exfalso
          rw [bd,e8 (by rw [c.fr.size];omega)] at D
          cases D
       ·cases F
      ·cases F
    | C g ks=>
      simp only [pz] at F
      split at F
      ·rename_i g' caps D
       split at F
       ·rename_i d9
        subst d9
        have Y: ∀q∈bo z L,q∈fz:=by simpa [bo] using Z
        have am:taken z ((t,Kd.C g' ks)::L)=tQ ks caps++taken z L:=by simp only [taken,D]
        rw [am] at H f
        obtain ⟨a8,aB⟩:=m6 H
        by_cases ao:t < a.tmps.size
        ·have s:a.tmps[t]? =some a.tmps[t]:=bA ao
         have hr:=c.fr.at s
         rw [D] at hr
         generalize bb:a.tmps[t]=v at hr s
         cases hr with
         | clo _ _ cv hlen hrel=>
           obtain ⟨e1,M2,i2,f2,l2,n2,p2,m2⟩:=Lg c hf ks caps cv.toList x i st.h mu F (by simpa using hlen) (λj p v h1 h2=>hrel j p v h1 (by simpa using h2)) a6 (HS H) (λo W=>f o (b7 _ W)) cs.inv cs.fresh
           obtain ⟨X,c2,e2⟩:=gW c hf L (i+Dw ks) ⟨st.fr.set t (.clo (.func g') (oP vs ks i st.h.length)),st.h++pn vs ks i⟩ M2 xs a3 (ac _ e1) Y a8 (λo3 m=>⟨(f o3 (b2 _ m)).1,λR b base w l d N P J V=>by
            have a4:=(dT (f o3 (b2 _ m)).1).1
            rcases m2 w l J with ⟨bf,bx⟩ | ⟨_,ap⟩
            ·rw [aA,if_pos bf]
             exact (f o3 (b2 _ m)).2 R b base w l d N P bx V
            ·exfalso
             obtain ⟨k,hk,E,bs,k1,k2⟩:=ap b d V
             have:=iz.inj k o3 E R b bs base k1 N k2 P (dT (f k (b7 _ hk)).1).1 a4
             subst this
             exact aB k hk m⟩)
            ⟨i2,f2,(cs.fr.later l2).upd λu hu=>by
              rw [s] at hu;cases hu
              exact .clo _ _ _ (by simpa using n2) λj p v h1 h2=>p2 j p v h1 (by simpa using h2)⟩ λo W=>xg (hK o W) l2.mu
           exact ⟨X,c2,λo pl W=>e2 o pl (l2.mu o pl W)⟩
        ·exfalso
         rw [bd,e8 (by rw [c.fr.size];omega)] at D
         cases D
       ·cases F
      ·cases F
    | O shp=>
      simp only [pz,gf] at F
      obtain ⟨⟨fs,os⟩,hy,rfl⟩:=F
      obtain ⟨_,q,hq,_⟩:=BB hy
      have Y: ∀q∈bo z L,q∈fz:=by simpa [bo] using Z
      have am:taken z ((t,Kd.O shp)::L)=os++taken z L:=by simp only [taken,hy]
      rw [am] at H f
      obtain ⟨a8,aB⟩:=m6 H
      rw [hq] at hy
      by_cases ao:t < a.tmps.size
      ·have s:a.tmps[t]? =some a.tmps[t]:=bA ao
       have hr:=c.fr.at s
       rw [hq] at hr
       generalize bb:a.tmps[t]=v at hr s
       obtain ⟨pl,pA,hm,tv,hlen,bi,a0,hA⟩:=wE c.inv hy hr
       have bM: ∀b,ok' b->jl ok' mu' fz b:= λb hb=> .inl hb
       have U: ∀k∈os,isRw (getOb h1 k)=true:= λk hk=>(f k (b7 _ hk)).1
       have Q: ∀k∈os,∀pl b base w l d,mu' k=some pl->pl.loc=some (b,base)->mu w=some l->l.loc=some (b,d)->(getOb st.h w).live=false:= λk hk=>(f k (b7 _ hk)).2
       have aT: ∀b,ObjLoc shp pl pA b-> ∃k∈os,∃E base,mu' k=some E/\E.loc=some (b,base):= λb hb=>by
        rcases hb with ⟨base,hb⟩ | hb
        ·exact ⟨q,a0,pl,base,hm,hb⟩
        ·obtain ⟨k,hk,_,E,base,N,P⟩:=hA b hb
         exact ⟨k,hk,E,base,N,P⟩
       have b1: ∀b,ObjLoc shp pl pA b-> ¬jl ok' mu' fz b:= λb hb=>by
        obtain ⟨k,hk,E,base,N,P⟩:=aT b hb
        exact (iz.own k E b base N P).2.2 (dT (U k hk)).1 (dT (U k hk)).2
       obtain ⟨eW,ib,fb,lb,mb,bv⟩:=cs.inv.addObj cs.fresh (r:=vs) (i0:=i) (tv.more bM b1) (λj hj=>a6 j (by rw [hlen];exact hj)) (λb hb=>by
        obtain ⟨k,hk,E,base,N,P⟩:=aT b hb
        obtain ⟨e1,e2,e3⟩:=iz.own k E b base N P
        exact ⟨e1,e2,λw l d V g5=>Q k hk E b base w l d N P V g5⟩)
       have f8:(st.h++(ct vs shp i++[Ob.box .rw (cE (st.h.length+shp.length) vs shp st.h.length i)])).length=st.h.length+(shp.length+1):=by simp [lr]
       obtain ⟨X,c2,e2⟩:=gW c hf L (i+shp.length) ⟨st.fr.set t (.ptr (st.h.length+shp.length) 0),st.h++(ct vs shp i++[.box .rw (cE (st.h.length+shp.length) vs shp st.h.length i)])⟩ _ xs a3 (ac shp.length hlen) Y a8 (λo3 m=>⟨(f o3 (b2 _ m)).1,λR b base w l d N P J V=>by
        have a4:=(dT (f o3 (b2 _ m)).1).1
        rcases bv w l J with ⟨bf,bx⟩ | ⟨_,ap⟩
        ·rw [aA,if_pos bf]
         exact (f o3 (b2 _ m)).2 R b base w l d N P bx V
        ·exfalso
         obtain ⟨k,hk,E,bs,k1,k2⟩:=aT b (ap b d V)
         have:=iz.inj k o3 E R b bs base k1 N k2 P (dT (U k hk)).1 a4
         subst this
         exact aB k hk m⟩)
        ⟨ib,fb,(cs.fr.later lb).upd λu hu=>by
          rw [s] at hu;cases hu
          obtain ⟨b,base,cc,T,hl,cd,_⟩:=tv.box
          rw [cd]
          exact .ptr (st.h.length+shp.length) 0 pl b base mb hl⟩ λo W=>xg (hK o W) lb.mu
       exact ⟨X,c2,λo pl W=>e2 o pl (lb.mu o pl W)⟩
      ·exfalso
       rw [bd,e8 (by rw [c.fr.size];omega)] at hq
       cases hq
    | K o0 shp=>
      simp only [pz] at F
      split at F
      ·rename_i q hq
       split at F
       ·rename_i et
        subst et
        obtain ⟨⟨fs,os⟩,hy,rfl⟩:=gf.1 F
        have Y: ∀q∈bo z L,q∈fz:=by simpa [bo] using Z
        have am:taken z ((t,Kd.K q shp)::L)=os++taken z L:=by simp only [taken,hy]
        rw [am] at H f
        obtain ⟨a8,aB⟩:=m6 H
        obtain ⟨f3,f9,eZ,bY,c8⟩:=hK q cb
        by_cases ao:t < a.tmps.size
        ·have s:a.tmps[t]? =some a.tmps[t]:=bA ao
         have hr:=c.fr.at s
         rw [hq] at hr
         generalize bb:a.tmps[t]=v at hr s
         obtain ⟨pl,pA,hm,tv,hlen,bi,a0,hA⟩:=wE c.inv hy hr
         have d2:pl=eZ:=o2 (hm.symm.trans c8)
         subst d2
         have bM: ∀b,ok' b->jl ok' mu' fz b:= λb hb=> .inl hb
         have U: ∀k∈os,isRw (getOb h1 k)=true:= λk hk=>(f k (b7 _ hk)).1
         have Q: ∀k∈os,∀pl b base w l d,mu' k=some pl->pl.loc=some (b,base)->mu w=some l->l.loc=some (b,d)->(getOb st.h w).live=false:= λk hk=>(f k (b7 _ hk)).2
         have aT: ∀b,ObjLoc shp pl pA b-> ∃k∈os,∃E base,mu' k=some E/\E.loc=some (b,base):= λb hb=>by
          rcases hb with ⟨base,hb⟩ | hb
          ·exact ⟨q,a0,pl,base,hm,hb⟩
          ·obtain ⟨k,hk,_,E,base,N,P⟩:=hA b hb
           exact ⟨k,hk,E,base,N,P⟩
         have b1: ∀b,ObjLoc shp pl pA b-> ¬jl ok' mu' fz b:= λb hb=>by
          obtain ⟨k,hk,E,base,N,P⟩:=aT b hb
          exact (iz.own k E b base N P).2.2 (dT (U k hk)).1 (dT (U k hk)).2
         have fd:=tv.more bM b1
         obtain ⟨eW,ib,fb,lb,c0,bv⟩:=cs.inv.addArrs cs.fresh (r:=vs) (i0:=i) fd (λj hj=>a6 j (by rw [hlen];exact hj)) (λb hb=>by
          obtain ⟨k,hk,E,base,N,P⟩:=aT b hb
          obtain ⟨e1,e2,e3⟩:=iz.own k E b base N P
          exact ⟨e1,e2,λw l d V g5=>Q k hk E b base w l d N P V g5⟩) bY
         have dl:q < (st.h++ct vs shp i).length:=by rw [hF];omega
         have bO: ∀w,w < st.h.length->getOb (st.h++ct vs shp i) w=getOb st.h w:= λw h=>by rw [aA,if_pos h]
         have ic:=ib.reviveK (lb.mu q pl bY) dl c0 (λb base hb=>b1 b (.inl ⟨base,hb⟩)) (λb base w l d N P J V=>by
          rcases bv w l P with ⟨bf,g5⟩ | ⟨_,ap⟩
          ·rw [bO w bf]
           exact Q q a0 pl b base w l d hm N g5 J
          ·exact absurd (ap b d J) (tv.apart b base N))
         obtain ⟨X,c2,e2⟩:=gW c hf L (i+shp.length) ⟨st.fr.set t (.ptr q 0),(st.h++ct vs shp i).set q (.box .rw (cE q vs shp st.h.length i))⟩ _ xs a3 (ac shp.length hlen) Y a8 (λo3 m=>⟨(f o3 (b2 _ m)).1,λR b base w l d N P J V=>by
          have a4:=(dT (f o3 (b2 _ m)).1).1
          by_cases e:w=q
          ·exfalso
           subst e
           rw [lb.mu w pl bY] at J;cases J
           have:=iz.inj w o3 pl R b d base hm N V P (dT (U w a0)).1 a4
           subst this
           exact aB w a0 m
          ·rw [bk,if_neg (λh=>e h.1.symm)]
           rcases bv w l J with ⟨bf,bx⟩ | ⟨_,ap⟩
           ·rw [bO w bf]
            exact (f o3 (b2 _ m)).2 R b base w l d N P bx V
           ·exfalso
            obtain ⟨k,hk,E,bs,k1,k2⟩:=aT b (.inr (ap b d V))
            have:=iz.inj k o3 E R b bs base k1 N k2 P (dT (U k hk)).1 a4
            subst this
            exact aB k hk m⟩)
          ⟨ic,λq2 em=>fb q2 (by rwa [nn] at em),(cs.fr.later lb).upd λu hu=>by
            rw [s] at hu;cases hu
            obtain ⟨b,base,cc,T,hl,cd,_⟩:=tv.box
            rw [cd]
            exact .ptr q 0 pl b base (lb.mu q pl bY) hl⟩ λo W=>by
             have el:q≠o:= λe=>by
              subst e
              exact aB q a0 (uk a3 q W)
             obtain ⟨N,P,R,J,V⟩:=xg (news:=ct vs shp i) (hK o (b0 _ W)) lb.mu
             exact ⟨by rw [nn];exact N,by rw [bk,if_neg (λh=>el h.1)];exact P,R,J,V⟩
         exact ⟨X,c2,λo pl W=>e2 o pl (lb.mu o pl W)⟩
        ·exfalso
         rw [bd,e8 (by rw [c.fr.size];omega)] at hq
         cases hq
       ·cases F
      ·cases F
   ·cases hp
end
end Go.AM
namespace Go.AM
open Go.RowKit
theorem Dz: ∀(W:List Nat) (fr:List PV) (t:Nat) (p:PV),t∈W->(forget fr W)[t]? =some p->p= .undef
 | [],fr,t,p,h,_=>by cases h
 | x::W,fr,t,p,h,hp=>by
   simp only [forget] at hp
   by_cases e:t∈W
   ·exact Dz W _ t p e hp
   ·have a:t=x:=by
     rcases hU.1 h with h1 | h1
     ·exact h1
     ·exact absurd h1 e
    subst a
    have keep: ∀(W:List Nat) (fr:List PV),t∉W->(forget fr W)[t]? =fr[t]? :=by
     intro W
     induction W with
     | nil=>intro fr _;rfl
     | cons y W ih=>
       intro fr hn
       simp only [hU,not_or] at hn
       simp only [forget]
       rw [ih _ hn.2,hY (Ne.symm hn.1)]
    rw [keep W _ e,l3] at hp
    simp only [if_true] at hp
    split at hp
    ·cases hp;rfl
    ·cases hp
theorem Ig: ∀(W:List Nat) (fr:List PV) (t:Nat),t∉W->(forget fr W)[t]? =fr[t]?
 | [],fr,t,_=>rfl
 | y::W,fr,t,hn=>by
   simp only [hU,not_or] at hn
   simp only [forget]
   rw [Ig W _ t hn.2,hY (Ne.symm hn.1)]
theorem CA: ∀(W:List Nat) (fr:List PV),(forget fr W).length=fr.length
 | [],_=>rfl
 | y::W,fr=>by simp only [forget];rw [CA W];simp
section
variable {w0:fv} {ok0:O0} {w w':fv} {ok ok':Nat->Prop} {mu mu':Mu} {h:List Ob} {a a':Act}
theorem Fr.turned {fr:List PV} {W:List Nat} (r:Fr w ok mu fr a.tmps) (hl:Later w ok mu w' ok' mu') (hs: ∀t,t∉W->a'.tmps[t]? =a.tmps[t]?) (hz:a'.tmps.size=a.tmps.size):Fr w' ok' mu' (AM.forget fr W) a'.tmps:=by
 refine ⟨by rw [CA,r.size,hz],λt p v h1 h2=> ?_⟩
 by_cases e:t∈W
 ·rw [Dz W fr t p e h1];exact .undef v
 ·rw [Ig W fr t e] at h1
  rw [hs t e] at h2
  exact (r.rel t p v h1 h2).later hl
theorem Inv.less (i:Inv w0 ok0 w ok mu h) {H:List Ob} (hs: ∀o,(getOb H o).live=true->(getOb h o).fz=true/\(getOb H o).fz=true/\Fm (getOb H o) (getOb h o)\/(∃m cs,getOb h o= .box m cs/\ ∃c,getOb H o= .box c cs/\((getOb H o).fz=false->(getOb h o).fz=false))\/(∃m s z,getOb h o= .arr m s z/\ ∃c,getOb H o= .arr c s z/\((getOb H o).fz=false->(getOb h o).fz=false))):Inv w0 ok0 w ok mu H:=by
 have d: ∀o,(getOb H o).live=true->(getOb h o).live=true:= λo h1=>by
  rcases hs o h1 with ⟨_,_,h2⟩ | ⟨m,cs,h2,_⟩ | ⟨m,s,z,h2,_⟩
  ·exact h2.live
  ·rw [h2];rfl
  ·rw [h2];rfl
 refine ⟨i.below,i.okw,i.okb,λo pl e=> ?_,λo pl b base e hb=> ?_,λo o' pl pl' b base base' e n hb l h1 h2=>i.inj o o' pl pl' b base base' e n hb l (d o h1) (d o' h2)⟩
 ·cases f:(getOb H o).live with
  | false=>
    cases q:getOb H o with
    | dead=>trivial
    | box m cs=>rw [q] at f;cases f
    | arr m s z=>rw [q] at f;cases f
  | true=>
    have h0:=i.ob o pl e
    rcases hs o f with ⟨_,_,_,⟨m,c,cs,h2,a⟩ | ⟨m,c,s,z,h2,a⟩⟩ | ⟨m,cs,h2,c,a,_⟩ | ⟨m,s,z,h2,c,a,_⟩
    ·rw [a] at h0;rw [h2];exact h0
    ·rw [a] at h0;rw [h2];exact h0
    ·rw [h2] at h0;rw [a];exact h0
    ·rw [h2] at h0;rw [a];exact h0
 ·obtain ⟨h1,h2,a⟩:=i.own o pl b base e hb
  refine ⟨h1,h2,λp j=>a (d o p) ?_⟩
  rcases hs o p with ⟨_,g,_⟩ | ⟨m,cs,g,c,_,k⟩ | ⟨m,s,z,g,c,_,k⟩
  ·rw [j] at g;cases g
  ·exact k j
  ·exact k j
theorem Inv.same (i:Inv w0 ok0 w ok mu h) {H:List Ob} (hs: ∀o,(getOb H o).live=true->Fm (getOb H o) (getOb h o)):Inv w0 ok0 w ok mu H:=
 i.less λo c=>by
   obtain ⟨h1,⟨m,b,cs,h2,a⟩ | ⟨m,b,s,z,h2,a⟩⟩:=hs o c
   ·exact .inr (.inl ⟨b,cs,a,m,h2,λh=>h1▸h⟩)
   ·exact .inr (.inr ⟨b,s,z,a,m,h2,λh=>h1▸h⟩)
theorem Ma {K:fv} {okB:Nat->Prop} {a:Mu} {i:List PV} {base:List Ob} {N:Act} {W:List Nat} (B:Cfg w0 ok0 K okB a ⟨i,base⟩ N) (hW: ∀t p,t∈W->i[t]? =some p->p= .undef)
  {d:St} (c:Cfg w0 ok0 w' ok' mu' d a') (hl:Later K okB a w' ok' mu') (y: ∀t,t∉W->a'.tmps[t]? =N.tmps[t]?) (hsz:a'.tmps.size=N.tmps.size)
  {L:List (Nat×Kd)} {vs:List IV} {h1:List Ob} (hp:pack d L=some vs) (hf:uO d.h (bo d L)=some h1) (hm:l9 d h1 L=true)
  (hc: ∀o,(getOb base o).live=true->o∉taken d L/\Fm (getOb base o) (getOb h1 o)) (hK: ∀o∈vC L,o < base.length/\getOb base o= .dead/\ ∃pl,a o=some pl):
  ∃I l,Cfg w0 ok0 w' I l (unpack vs L 0 ⟨i,base⟩) a'/\Later K okB a w' I l:=by
 have A:=c.inv.freeze c.fresh hf
 simp only [l9,b6,gd] at hm
 have G:Later K okB a w' (jl ok' mu' (bo d L)) mu':=⟨⟨hl.keeps.block,λb hb=> .inl (hl.keeps.more b hb)⟩,hl.mu,hl.sizes⟩
 have x:Later K okB a w' (jl ok' mu' (bo d L)) a:=⟨G.keeps,λ_ _ h=>h,G.sizes⟩
 have F: ∀o,a o≠none->a o=mu' o:= λo f=>by
  cases k:a o with
  | none=>exact absurd k f
  | some pl=>exact (hl.mu o pl k).symm
 have H:Cfg w0 ok0 w' (jl ok' mu' (bo d L)) a ⟨i,base⟩ a':=by
  refine ⟨⟨A.below,A.okw,A.okb,λo pl f=> ?_,λo pl b bs f hb=> ?_,λo o' pl pl' b bs C f U hb Q h2 g=> ?_⟩,B.fresh,?_⟩
  ·have E:=B.inv.ob o pl f
   have hz:=A.ob o pl (hl.mu o pl f)
   cases k:getOb base o with
   | dead=>trivial
   | arr m s z=>
     obtain ⟨_,_,g⟩:=hc o (by rw [k];rfl)
     rw [k] at g
     rcases g with ⟨V,X,cs,r,_⟩ | ⟨V,X,s',z',r,D⟩
     ·cases r
     ·cases r
      rw [D] at hz
      exact hz
   | box m cs=>
     obtain ⟨_,_,g⟩:=hc o (by rw [k];rfl)
     rw [k] at g E
     rcases g with ⟨V,X,ab,r,D⟩ | ⟨V,X,s',z',r,_⟩
     ·cases r
      rw [D] at hz
      obtain ⟨b,bs,Y,T,u,w,n,P⟩:=hz
      obtain ⟨b',C,Z,T',k1,k2,k3,k4⟩:=E
      refine ⟨b,bs,Y,T,u,w,n,λj p hj=> ?_⟩
      obtain ⟨v,g5,g6⟩:=P j p hj
      obtain ⟨v',k5,k6⟩:=k4 j p hj
      exact ⟨v,g5,k6.restrict F g6⟩
     ·cases r
  ·obtain ⟨u,w,n⟩:=A.own o pl b bs (hl.mu o pl f) hb
   refine ⟨u,w,λR S=> ?_⟩
   obtain ⟨_,g⟩:=hc o R
   exact n g.live (by rw [<-g.1];exact S)
  ·exact A.inj o o' pl pl' b bs C (hl.mu o pl f) (hl.mu o' pl' U) hb Q (hc o h2).2.live (hc o' g).2.live
  ·refine ⟨by rw [B.fr.size,hsz],λt p v h2 g=> ?_⟩
   by_cases e:t∈W
   ·rw [hW t p e h2];exact .undef v
   ·rw [y t e] at g
    exact (B.fr.rel t p v h2 g).later x
 obtain ⟨l,c2,D⟩:=gW (vs:=vs) c hf L 0 ⟨i,base⟩ a vs hp (λj _=>by rw [iH]) (λq hq=>hq) hm.1 (λo f=>⟨hm.2 o f,λpl b bs M J O u w n P=>by
  cases k:(getOb base M).live with
  | false=>rfl
  | true=>
    obtain ⟨h2,g⟩:=hc M k
    have:=A.inj o M pl J b bs O u (hl.mu M J n) w P (dT (hm.2 o f)).1 g.live
    subst this
    exact absurd f h2⟩) H λo f=>by
     obtain ⟨u,w,pl,n⟩:=hK o f
     exact ⟨u,w,pl,n,hl.mu o pl n⟩
 exact ⟨_,l,c2,x.keeps,λo pl f=>D o pl f,x.sizes⟩
theorem xW (vs:List IV): ∀(L:List (Nat×Kd)) (i:Nat) (st:St),st.h.length<=(unpack vs L i st).h.length/\ ∀o,o < st.h.length->o∉vC L->getOb (unpack vs L i st).h o=getOb st.h o:=by
 intro L
 have app: ∀(L:List (Nat×Kd)) (i:Nat) (fr:List PV) (h news:List Ob),(∀(i:Nat) (st:St),st.h.length<=(unpack vs L i st).h.length/\ ∀o,o < st.h.length->o∉vC L->getOb (unpack vs L i st).h o=getOb st.h o)->
   h.length<=(unpack vs L i ⟨fr,h++news⟩).h.length/\ ∀o,o < h.length->o∉vC L->getOb (unpack vs L i ⟨fr,h++news⟩).h o=getOb h o:= λL i fr h news ih=>by
  obtain ⟨h1,h2⟩:=ih i ⟨fr,h++news⟩
  simp only [hF] at h1 h2
  exact ⟨by omega,λo a hk=>by rw [h2 o (by omega) hk,aA,if_pos a]⟩
 induction L with
 | nil=>intro i st;exact ⟨hO _,λ_ _ _=>rfl⟩
 | cons x L ih=>
   intro i st
   obtain ⟨t,b⟩:=x
   cases b with
   | I=>exact ih (i+1) ⟨st.fr.set t (.imm (nth vs i)),st.h⟩
   | S n=>exact ih (i+n) ⟨st.fr.set t (.agg (iB vs i n)),st.h⟩
   | B sz=>exact app L _ _ st.h _ ih
   | G n=>exact app L _ _ st.h _ ih
   | M=>exact app L _ _ st.h _ ih
   | C g ks=>exact app L _ _ st.h _ ih
   | O shp=>exact app L _ _ st.h _ ih
   | K q shp=>
     obtain ⟨h1,h2⟩:=ih (i+shp.length) ⟨st.fr.set t (.ptr q 0),(st.h++ct vs shp i).set q (.box .rw (cE q vs shp st.h.length i))⟩
     simp only [nn,hF] at h1 h2
     refine ⟨by simp only [unpack];omega,λo a hk=> ?_⟩
     simp only [vC,hU,not_or] at hk
     simp only [unpack]
     rw [h2 o (by omega) hk.2,bk,if_neg (λh=>hk.1 h.1.symm),aA,if_pos a]
theorem YG {w0:fv} {ok0:O0} {w:fv} {ok:Nat->Prop} {mu:Mu} {st:St} {a:Act} (c:Cfg w0 ok0 w ok mu st a): ∀{L:List (Nat×Kd)} {vs:List IV},pack st L=some vs-> ∀o∈vC L,∃pl,mu o=some pl
 | [],_,_,o,d=>by cases d
 | (t,i)::L,vs,hp,o,d=>by
   simp only [pack] at hp
   split at hp
   ·rename_i x xs f g
    have ih:=YG c g
    cases i with
    | K q shp=>
      rcases hU.1 d with rfl | d
      ·simp only [pz] at f
       split at f
       ·rename_i j h
        split at f
        ·rename_i e
         subst e
         have r:=c.fr.ev (.tmp t)
         simp only [ev,h] at r
         generalize a.eval (.tmp t)=v at r
         cases r with
         | ptr _ _ pl b base hm hl=>exact ⟨pl,hm⟩
        ·cases f
       ·cases f
      ·exact ih o d
    | _=>exact ih o d
   ·cases hp
end
section
variable (Γ:hX->Option FSig) (A:Ann)
def ec:pv->Bool
 | .region id ops draw=>if draw then (match A.order id with | some (F,A',B)=>KQ Γ ops F A' B | none=>false) else (A.order id).isNone
 | .seq a b=>ec a&&ec b
 | .cond _ a b=>ec a&&ec b
 | .block _ a=>ec a
 | .loop a=>ec a
 | .scope a=>ec a
 | _=>true
end
def xh:Ex->q0
 | .normal=> .normal
 | .exit id=> .exit id
 | .ret=> .ret
 | .goto l=> .goto l
section
variable {P:kh} {Γ:hX->Option FSig} {C:IV->List Nat->List (List IV)->Option (List IV)} {A:Ann} {w0:fv} {ok0:O0}
theorem EX {R:Type} (c:aF P Γ) (d:COK P C) (hm:P.follows .mixedOrders=true) {id:Nat} {ops:Array hT} {draw:Bool} (hok:ec Γ A (.region id ops draw)=true) {st:St} {k:St->Option R} {r:R} (hs:rq P Γ C (A.order id) ops st k=some r)
  {a:Act} {w:fv} {ok:Nat->Prop} {mu:Mu} (hc:Cfg w0 ok0 w ok mu st a) {Q:q0->Act->fv->Prop}
  (hk: ∀(b:St) (a':Act) (w':fv) (ok':Nat->Prop) (mu':Mu),k b=some r->Cfg w0 ok0 w' ok' mu' b a'->Step w ok mu st.h a w' ok' mu' b.h a' (dsts ops.toList)->Q .normal a' w'):(Code.region id ops draw).wp P Q a w:=by
 cases draw with
 | true=>
   simp only [ec,if_true] at hok
   split at hok
   ·rename_i F A' B e
    rw [e] at hs
    exact XV c d hm hok hs hc hk
   ·cases hok
 | false=>
   simp only [ec,hM,if_false,l1] at hok
   rw [hok] at hs
   exact WY c d hs hc hk
theorem Qz {fr':List PV} {w':fv} {ok':Nat->Prop} {mu' a:Mu} {tmps:Array h7} (d:Fr w' ok' mu' fr' tmps) {c:List IV}: ∀(L:List Nat) (i:Nat) (l:List IV) (fr:List PV),leaves fr' L=some l->(∀j,j < l.length->nth c (i+j)=nth l j)->Fr w' ok' a fr tmps->Fr w' ok' a (wh c L i fr) tmps
 | [],i,l,fr,_,_,r=>r
 | t::L,i,l,fr,hl,hn,r=>by
   simp only [leaves] at hl
   split at hl
   ·rename_i x f e b
    cases hl
    simp only [wh]
    refine Qz d L (i+1) f _ b (λj hj=> ?_) (r.upd λv hv=> ?_)
    ·have:=hn (j+1) (by simp;omega)
     rw [show i+1+j=i+(j+1) by omega,this];rfl
    ·have h0:=hn 0 (by simp)
     rw [j1] at h0
     rw [h0]
     have:=d.at hv
     rw [e] at this
     cases this with | imm h=>exact .imm h
   ·cases hl
theorem aan {e a:Ex} (h:xh e=xh a):e=a:=by
 cases e<;>cases a<;>simp [xh] at h<;>first | rfl | (subst h;rfl)
theorem Qn {x:pv} {e0:Ex} (ih: ∀(R:Type) (st:St) (K:Ex->St->Option R) (r:R),exec P Γ C A x R st K=some r-> ∀(a:Act) (w:fv) (ok:Nat->Prop) (mu:Mu),Cfg w0 ok0 w ok mu st a-> ∀(Q:q0->Act->fv->Prop),
   (∀(e:Ex) (c:St) (a':Act) (w':fv) (ok':Nat->Prop) (mu':Mu),K e c=some r->Cfg w0 ok0 w' ok' mu' c a'->Step w ok mu st.h a w' ok' mu' c.h a' (writes x)->Q (xh e) a' w')->x.wp P Q a w)
  {R:Type} {st:St} {K:Ex->St->Option R} {r:R} {a:Act} {w:fv} {ok:Nat->Prop} {mu:Mu} (hc:Cfg w0 ok0 w ok mu st a) {vs0:List IV} {h1:List Ob} (hp:pack st (A.pick st.fr (aJ x)).1=some vs0) (hf:uO st.h (bo st (A.pick st.fr (aJ x)).1)=some h1)
  (ac:l9 st h1 (A.pick st.fr (aJ x)).1=true) (cc:aci (A.pick st.fr (aJ x))=true) {kk:Ex->St->Option SR} {ke:Nat} {a0:List IV}
  (b5:iter rounds (λvs=>exec P Γ C A x SR (unpack vs (A.pick st.fr (aJ x)).1 0 ⟨forget st.fr (writes x),(kill h1 (taken st (A.pick st.fr (aJ x)).1)).map gb⟩) kk) vs0=some (ke,a0))
  (aT: ∀c,kk e0 c=(packed c (A.pick st.fr (aJ x)).1).map .next) (ca: ∀e c,e≠e0->kk e c=(packed c ((A.pick st.fr (aJ x)).2.getD ((np x).idxOf e) [])).map (.done ((np x).idxOf e)))
  (f:eM ke ((np x).map λe=>K e (unpack a0 ((A.pick st.fr (aJ x)).2.getD ((np x).idxOf e) []) 0 ⟨forget st.fr (writes x),kill h1 (taken st (A.pick st.fr (aJ x)).1)⟩))=some r)
  {Q:q0->Act->fv->Prop} (hQ: ∀(e:Ex) (c:St) (a':Act) (w':fv) (ok':Nat->Prop) (mu':Mu),K e c=some r->Cfg w0 ok0 w' ok' mu' c a'->Step w ok mu st.h a w' ok' mu' c.h a' (writes x)->Q (xh e) a' w')
  {RD:Nat->Act->fv->Prop} (bY: ∀n a w,x.wp P (λe a' w'=>(e=xh e0/\RD n a' w')\/(e≠xh e0/\Q e a' w')) a w->RD (n+1) a w):RD rounds a w:=by
 generalize hL:(A.pick st.fr (aJ x)).1=L at*
 generalize bR:(A.pick st.fr (aJ x)).2=Ls at*
 have I: ∀o∈taken st L,isRw (getOb h1 o)=true:=by
  have:=ac
  simp only [l9,b6,gd] at this
  exact this.2
 have ab:=fh hf
 have J: ∀o,(getOb (kill h1 (taken st L)) o).live=true->o∉taken st L/\getOb (kill h1 (taken st L)) o=getOb h1 o:= λo b=>by
  rw [kU] at b ⊢
  by_cases e:o∈taken st L
  ·rw [if_pos e] at b;cases b
  ·rw [if_neg e];exact ⟨e,rfl⟩
 have M:Inv w0 ok0 w ok mu (kill h1 (taken st L)):=hc.inv.less λo b=>by
  obtain ⟨_,e⟩:=J o b
  rw [e] at b ⊢
  rcases ab.same o with y | ⟨hz,cs,m,y,T⟩ | ⟨s,z,m,y,T⟩
  ·rw [y] at b ⊢
   cases hx:getOb st.h o with
   | dead=>rw [hx] at b;cases b
   | box m cs=>exact .inr (.inl ⟨m,cs,rfl,m,rfl,λh=>h⟩)
   | arr m s z=>exact .inr (.inr ⟨m,s,z,rfl,m,rfl,λh=>h⟩)
  ·exact .inr (.inl ⟨m,cs,y,.fz,T,λh=>by rw [T] at h;cases h⟩)
  ·exact .inr (.inr ⟨m,s,z,y,.fz,T,λh=>by rw [T] at h;cases h⟩)
 have D:(kill h1 (taken st L)).length=st.h.length:=by rw [dX,ab.len]
 have Z:Fr w ok mu (forget st.fr (writes x)) a.tmps:=hc.fr.forget _
 have bM:Cfg w0 ok0 w ok mu ⟨forget st.fr (writes x),kill h1 (taken st L)⟩ a:=⟨M,λq hq=>hc.fresh q (by simpa [D] using hq),Z⟩
 have a5:Cfg w0 ok0 w ok mu ⟨forget st.fr (writes x),(kill h1 (taken st L)).map gb⟩ a:=⟨M.same λo b=>by rw [lu] at b ⊢;exact ov (by rw [<-l6];exact b),λq hq=>hc.fresh q (by simpa [D] using hq),Z⟩
 have hW: ∀(t:Nat) (p:PV),t∈writes x->(forget st.fr (writes x))[t]? =some p->p= .undef:= λt p=>Dz _ _ t p
 have be: ∀v∈Ls,∀o∈vC v,o∈vC L:= λv bO o b=>by
  have h9:=gd.1 (gd.1 cc v (by rw [bR];exact bO)) o b
  rw [hL] at h9
  simpa using h9
 have aB: ∀o∈vC L,o < (kill h1 (taken st L)).length/\getOb (kill h1 (taken st L)) o= .dead/\ ∃pl,mu o=some pl:= λo b=>by
  have h9:=uk hp o b
  have h8:=I o h9
  refine ⟨by rw [dX];exact lS (dT h8).1,by rw [kU,if_pos h9],YG hc hp o b⟩
 have a6: ∀o∈vC L,o < ((kill h1 (taken st L)).map gb).length/\getOb ((kill h1 (taken st L)).map gb) o= .dead/\ ∃pl,mu o=some pl:= λo b=>by
  obtain ⟨g1,g2,g3⟩:=aB o b
  exact ⟨by simpa using g1,by rw [lu,g2];rfl,g3⟩
 have ck: ∀o,(getOb (kill h1 (taken st L)) o).live=true->o∉vC L:= λo b k=>by
  rw [(aB o k).2.1] at b;cases b
 have V: ∃u l,Cfg w0 ok0 w u l (unpack vs0 L 0 ⟨forget st.fr (writes x),(kill h1 (taken st L)).map gb⟩) a/\Later w ok mu w u l:=
  Ma a5 hW hc (.refl _ _ _) (λ_ _=>rfl) rfl hp hf ac (λo b=>by
   rw [lu] at b ⊢
   rw [l6] at b
   obtain ⟨h2,h3⟩:=J o b
   exact ⟨h2,by have:=ov b;rwa [h3] at this ⊢⟩) a6
 have j:Stay st.h (kill h1 (taken st L)):=⟨by rw [D];exact hO _,λo b H=>by
  have h2:=(j4 hf).keep o b H
  rw [kU,if_neg λe=>by
   have:=I o e
   rw [h2,H] at this;cases this]
  exact h2⟩
 have N: ∀(n:Nat) (vs:List IV) (U:Act) (w1:fv) (S:Nat->Prop) (O:Mu),iter n (λvs=>exec P Γ C A x SR (unpack vs L 0 ⟨forget st.fr (writes x),(kill h1 (taken st L)).map gb⟩) kk) vs=some (ke,a0)->
   Cfg w0 ok0 w1 S O (unpack vs L 0 ⟨forget st.fr (writes x),(kill h1 (taken st L)).map gb⟩) U->Later w ok mu w1 S O->(∀t,t∉writes x->U.tmps[t]? =a.tmps[t]?)->U.tmps.size=a.tmps.size->U.defers=a.defers->RD n U w1:=by
  intro n
  induction n with
  | zero=>intro vs U w1 S O hi;cases hi
  | succ n c0=>
    intro vs U w1 S O hi b3 cd Y br a8
    simp only [iter] at hi
    obtain ⟨sr,cO,i⟩:=ad.1 hi
    refine bY n U w1 ?_
    obtain ⟨W,X⟩:=xW vs L 0 ⟨forget st.fr (writes x),(kill h1 (taken st L)).map gb⟩
    refine ih SR _ _ sr cO U w1 S O b3 _ λe c a' w' ok' mu' hk a7 E=> ?_
    have bf:Later w ok mu w' ok' mu':=cd.trans E.later
    have d: ∀t,t∉writes x->a'.tmps[t]? =a.tmps[t]? := λt ht=>(E.same t ht).trans (Y t ht)
    have G:a'.tmps.size=a.tmps.size:=E.size.trans br
    have F: ∀{v:List (Nat×Kd)} {h2:List Ob},uO c.h (bo c v)=some h2->l9 c h2 v=true-> ∀o,(getOb (kill h1 (taken st L)) o).live=true->o∉taken c v/\getOb h2 o=gb (getOb (kill h1 (taken st L)) o):=by
     intro v h2 b4 bm o b
     have cl:o < (kill h1 (taken st L)).length:=lS b
     have y:getOb (unpack vs L 0 ⟨forget st.fr (writes x),(kill h1 (taken st L)).map gb⟩).h o=gb (getOb (kill h1 (taken st L)) o):=by
      rw [X o (by simpa using cl) (ck o b),lu]
     have am:o < (unpack vs L 0 ⟨forget st.fr (writes x),(kill h1 (taken st L)).map gb⟩).h.length:=by
      simp only [List.length_map] at W;omega
     have T:=E.stay.keep o am (by rw [y];exact Bt _)
     have e3:=(j4 b4).keep o (hI am E.stay.len) (by rw [T,y];exact Bt _)
     have e4:getOb h2 o=gb (getOb (kill h1 (taken st L)) o):=by rw [e3,T,y]
     refine ⟨λk=> ?_,e4⟩
     simp only [l9,b6,gd] at bm
     have:=bm.2 o k
     rw [e4,Bt] at this;cases this
    have g: ∀{v:List (Nat×Kd)} {vs':List IV},packed c v=some vs'-> ∃h2,pack c v=some vs'/\uO c.h (bo c v)=some h2/\l9 c h2 v=true:=by
     intro v vs' h
     unfold packed at h
     split at h
     ·rename_i q1 q2
      split at h
      ·cases h;exact ⟨_,q1,q2,‹_›⟩
      ·cases h
     ·cases h
    have bb: ∀(n:Nat) (o:Nat),o∈vC (Ls.getD n [])->o∈vC L:= λn o b=>by
     rw [bd] at b
     cases hx:Ls[n]? with
     | none=>rw [hx] at b;cases b
     | some v=>rw [hx] at b;exact be v (hJ hx) o b
    have leave: ∀(e:Ex),(packed c (Ls.getD ((np x).idxOf e) [])).map (SR.done ((np x).idxOf e))=some sr->Q (xh e) a' w':=by
     intro e hk
     obtain ⟨vs',aT,rfl⟩:=gf.1 hk
     simp only [hR,Prod.mk.injEq] at i
     obtain ⟨rfl,rfl⟩:=i
     obtain ⟨h2,g1,g2,g3⟩:=g aT
     obtain ⟨u,l,c2,l2⟩:=Ma bM hW a7 bf d G g1 g2 g3 (λo b=>by
      obtain ⟨q1,q2⟩:=F g2 g3 o b
      exact ⟨q1,by rw [q2];exact (ov b).symm⟩) (λo b=>aB o (bb _ o b))
     unfold eM at f
     rw [bd,hH] at f
     by_cases k:e∈np x
     ·have bi:=List.idxOf_lt_length_of_mem k
      rw [g0 bi,List.getElem_idxOf bi] at f
      simp only [pe,hZ] at f
      obtain ⟨ce,ci⟩:=xW vs' (Ls.getD ((np x).idxOf e) []) 0 ⟨forget st.fr (writes x),kill h1 (taken st L)⟩
      exact hQ e _ a' w' u l f c2 ⟨l2,⟨mx j.len ce,λo b H=>by
       rw [ci o (hI b j.len) (λk=>by
        have h8:=I o (uk hp o (bb _ o k))
        rw [(j4 hf).keep o b H,H] at h8;cases h8)]
       exact j.keep o b H⟩,E.defers.trans a8,d,G⟩
     ·rw [e8 (by rw [List.idxOf_eq_length k];exact hO _)] at f
      cases f
    by_cases he:e=e0
    ·subst he
     rw [aT] at hk
     obtain ⟨vs',a9,rfl⟩:=gf.1 hk
     simp only at i
     obtain ⟨h2,g1,g2,g3⟩:=g a9
     obtain ⟨u,l,c2,l2⟩:=Ma a5 hW a7 bf d G g1 g2 g3 (λo b=>by
      rw [lu] at b ⊢
      rw [l6] at b
      obtain ⟨q1,q2⟩:=F g2 g3 o b
      exact ⟨q1,by
       rw [q2]
       have:=ov b
       exact ⟨rfl,by
        rcases this.2 with ⟨m,m',cs,y,T⟩ | ⟨m,m',s,z,y,T⟩
        ·exact .inl ⟨m,m,cs,y,y⟩
        ·exact .inr ⟨m,m,s,z,y,y⟩⟩⟩) a6
     refine .inl ⟨rfl,?_⟩
     exact c0 vs' a' w' u l i c2 l2 d G (E.defers.trans a8)
    ·rw [ca e c he] at hk
     refine .inr ⟨λh=>he (aan h),leave e hk⟩
 obtain ⟨u,l,c2,l2⟩:=V
 exact N rounds vs0 a w u l b5 c2 l2 (λ_ _=>rfl) rfl rfl
theorem Y7 {x:pv} (ih: ∀(R:Type) (st:St) (K:Ex->St->Option R) (r:R),exec P Γ C A x R st K=some r-> ∀(a:Act) (w:fv) (ok:Nat->Prop) (mu:Mu),Cfg w0 ok0 w ok mu st a-> ∀(Q:q0->Act->fv->Prop),
   (∀(e:Ex) (b:St) (a':Act) (w':fv) (ok':Nat->Prop) (mu':Mu),K e b=some r->Cfg w0 ok0 w' ok' mu' b a'->Step w ok mu st.h a w' ok' mu' b.h a' (writes x)->Q (xh e) a' w')->x.wp P Q a w):
  ∀(n:Nat) (R:Type) (st:St) (K:Ex->St->Option R) (r:R),unr (exec P Γ C A x R) n st K=some r-> ∀(a:Act) (w:fv) (ok:Nat->Prop) (mu:Mu),Cfg w0 ok0 w ok mu st a-> ∀(Q:q0->Act->fv->Prop),
   (∀(e:Ex) (b:St) (a':Act) (w':fv) (ok':Nat->Prop) (mu':Mu),K e b=some r->Cfg w0 ok0 w' ok' mu' b a'->Step w ok mu st.h a w' ok' mu' b.h a' (writes x)->Q (xh e) a' w')->Code.rounds P x Q n a w:=by
 intro n
 induction n with
 | zero=>intro R st K r hs;cases hs
 | succ n k=>
   intro R st K r hs a w ok mu hc Q g
   rw [rounds_succ]
   simp only [unr] at hs
   refine ih R st _ r hs a w ok mu hc _ λe b a' w' ok' mu' hk c d=> ?_
   cases e with
   | normal=>exact k R b K r hk a' w' ok' mu' c Q λe p q w2 o m j i f=>g e p q w2 o m j i ((d.trans f).sub λt s=>by rcases j3.1 s with h | h<;>exact h)
   | exit id=>exact g (.exit id) b a' w' ok' mu' hk c d
   | ret=>exact g .ret b a' w' ok' mu' hk c d
   | goto l=>exact g (.goto l) b a' w' ok' mu' hk c d
theorem jw (Y:aF P Γ) (hC:COK P C) (hm:P.follows .mixedOrders=true): ∀(c:pv),ec Γ A c=true-> ∀(R:Type) (st:St) (K:Ex->St->Option R) (r:R),exec P Γ C A c R st K=some r-> ∀(a:Act) (w:fv) (ok:Nat->Prop) (mu:Mu),Cfg w0 ok0 w ok mu st a-> ∀(Q:q0->Act->fv->Prop),
  (∀(e:Ex) (f:St) (a':Act) (w':fv) (ok':Nat->Prop) (mu':Mu),K e f=some r->Cfg w0 ok0 w' ok' mu' f a'->Step w ok mu st.h a w' ok' mu' f.h a' (writes c)->Q (xh e) a' w')->c.wp P Q a w:=by
 intro c
 induction c with
 | skip=>intro _ R st K r hs a w ok mu hc Q i;exact wp_skip (i .normal st a w ok mu hs hc (.refl _ _ _ _ _ _))
 | label l=>intro _ R st K r hs a w ok mu hc Q i;exact wp_label (i .normal st a w ok mu hs hc (.refl _ _ _ _ _ _))
 | ret=>intro _ R st K r hs a w ok mu hc Q i;exact wp_ret (i .ret st a w ok mu hs hc (.refl _ _ _ _ _ _))
 | goto l=>intro _ R st K r hs a w ok mu hc Q i;exact wp_goto (i (.goto l) st a w ok mu hs hc (.refl _ _ _ _ _ _))
 | exit id=>intro _ R st K r hs a w ok mu hc Q i;exact wp_exit (i (.exit id) st a w ok mu hs hc (.refl _ _ _ _ _ _))
 | seq x y a1 H=>
   intro hok R st K r hs a w ok mu hc Q i
   simp only [ec,b6] at hok
   simp only [exec] at hs
   refine wp_seq (a1 hok.1 R st _ r hs a w ok mu hc _ λe f a' w' ok' mu' hk g d=> ?_)
   cases e with
   | normal=>exact H hok.2 R f K r hk a' w' ok' mu' g Q λe a6 a2 w2 a5 a4 aB ao W=>i e a6 a2 w2 a5 a4 aB ao (d.trans W)
   | exit id=>exact i (.exit id) f a' w' ok' mu' hk g (d.sub λt F=>b7 _ F)
   | ret=>exact i .ret f a' w' ok' mu' hk g (d.sub λt F=>b7 _ F)
   | goto l=>exact i (.goto l) f a' w' ok' mu' hk g (d.sub λt F=>b7 _ F)
 | block id x ih=>
   intro hok R st K r hs a w ok mu hc Q i
   simp only [ec] at hok
   simp only [exec] at hs
   refine wp_block (ih hok R st _ r hs a w ok mu hc _ λe f a' w' ok' mu' hk g d=> ?_)
   cases e with
   | normal=>exact i .normal f a' w' ok' mu' hk g d
   | exit j=>
     simp only at hk
     simp only [xh,Exit.inBlock]
     split at hk
     ·rename_i e;rw [if_pos e];exact i .normal f a' w' ok' mu' hk g d
     ·rename_i e;rw [if_neg e];exact i (.exit j) f a' w' ok' mu' hk g d
   | ret=>exact i .ret f a' w' ok' mu' hk g d
   | goto l=>exact i (.goto l) f a' w' ok' mu' hk g d
 | scope x ih=>
   intro hok R st K r hs a w ok mu hc Q i
   simp only [ec] at hok
   simp only [exec] at hs
   refine wp_scope_straight (ih hok R st _ r hs a w ok mu hc _ λe f a' w' ok' mu' hk g d=> ?_)
   cases e with
   | goto l=>cases hk
   | normal=>exact i .normal f a' w' ok' mu' hk g d
   | exit j=>exact i (.exit j) f a' w' ok' mu' hk g d
   | ret=>exact i .ret f a' w' ok' mu' hk g d
 | cond x y z H a3=>
   intro hok R st K r hs a w ok mu hc Q i
   simp only [ec,b6] at hok
   simp only [exec] at hs
   split at hs
   ·rename_i v hv
    have hr:=hc.fr.ev x
    rw [hv] at hr
    rcases nR hs with ⟨rfl,h1⟩ | ⟨rfl,h1⟩
    ·refine wp_cond_true (by generalize a.eval x=u at hr;cases hr with | imm hr=>cases hr;rfl) (H hok.1 R st K r h1 a w ok mu hc Q λe f a' w' ok' mu' hk g d=>i e f a' w' ok' mu' hk g (d.sub λt F=>b7 _ F))
    ·refine wp_cond_false (by generalize a.eval x=u at hr;cases hr with | imm hr=>cases hr;rfl) (a3 hok.2 R st K r h1 a w ok mu hc Q λe f a' w' ok' mu' hk g d=>i e f a' w' ok' mu' hk g (d.sub λt F=>b2 _ F))
   ·cases hs
 | region id ops draw=>
   intro hok R st K r hs a w ok mu hc Q i
   simp only [exec] at hs
   split at hs
   ·exact EX Y hC hm hok hs hc λf a' w' ok' mu' hk g d=>i .normal f a' w' ok' mu' hk g d
   ·rename_i L hj
    obtain ⟨lv,h1,h2⟩:=ad.1 hs
    have G:Cfg w0 ok0 w ok mu ⟨st.fr,st.h.map gb⟩ a:=⟨hc.inv.same λo k=>by rw [lu] at k ⊢;exact ov (by rw [<-l6];exact k),by simpa using hc.fresh,hc.fr⟩
    refine EX Y hC hm hok h1 G λf a' w' ok' mu' hk g d=> ?_
    have D: ∀{o pl},mu o=some pl->o < st.h.length:= λ{o pl} k=>by
     rcases ha o st.h.length with h1 | h1
     ·exact h1
     ·rw [hc.fresh o h1] at k;cases k
    have q: ∀o,o < st.h.length->getOb f.h o=gb (getOb st.h o):= λo k=>by
     rw [d.stay.keep o (by simpa using k) (by rw [lu];exact Bt _),lu]
    have O:Later w ok mu w' ok' mu:=⟨d.later.keeps,λ_ _ h=>h,d.later.sizes⟩
    have N: ∀o,mu o≠none->mu o=mu' o:= λo k=>by
     cases X:mu o with
     | none=>exact absurd X k
     | some pl=>exact (d.later.mu o pl X).symm
    have hinv:Inv w0 ok0 w' ok' mu st.h:=by
     have I:=g.inv
     refine ⟨I.below,I.okw,I.okb,λo pl k=> ?_,λo pl b bs k hb=> ?_,λo o' pl pl' b bs J k U hb am h3 h4=> ?_⟩
     ·have hz:=I.ob o pl (d.later.mu o pl k)
      rw [q o (D k)] at hz
      have M:=hc.inv.ob o pl k
      cases X:getOb st.h o with
      | dead=>trivial
      | arr m s z=>rw [X] at hz;cases m<;>exact hz
      | box m cs=>
        rw [X] at hz M
        have a0:ObOk w' ok' mu' pl (.box m cs):=by cases m<;>exact hz
        obtain ⟨b,bs,cc,T,g1,g2,Z,g4⟩:=a0
        obtain ⟨b',J,bb,T',k1,k2,k3,k4⟩:=M
        refine ⟨b,bs,cc,T,g1,g2,Z,λj p hj=> ?_⟩
        obtain ⟨v,g5,g6⟩:=g4 j p hj
        obtain ⟨v',k5,k6⟩:=k4 j p hj
        exact ⟨v,g5,k6.restrict N g6⟩
     ·obtain ⟨g1,g2,Z⟩:=I.own o pl b bs (d.later.mu o pl k) hb
      refine ⟨g1,g2,λS aT=> ?_⟩
      rw [q o (D k)] at Z
      exact Z (by rw [l6];exact S) (by rw [(ov S).1];exact aT)
     ·refine I.inj o o' pl pl' b bs J (d.later.mu o pl k) (d.later.mu o' pl' U) hb am ?_ ?_
      ·rw [q o (D k),l6];exact h3
      ·rw [q o' (D U),l6];exact h4
    refine i .normal _ a' w' ok' mu h2 ⟨hinv,hc.fresh,?_⟩ ⟨O,.refl _,d.defers,d.same,d.size⟩
    exact Qz g.fr L 0 lv _ hk (λj _=>by rw [iH]) (hc.fr.turned O d.same d.size)
 | loop x ih=>
   intro hok R st K r hs a w ok mu hc Q i
   simp only [ec] at hok
   simp only [exec] at hs
   split at hs
   ·exact wp_loop_rounds _ (Y7 (ih hok) _ R st K r hs a w ok mu hc Q i)
   split at hs
   ·rename_i vs0 h1 hp hf
    split at hs
    ·cases hs
    ·rename_i E
     obtain ⟨⟨ke,bB⟩,ap,V⟩:=ad.1 hs
     refine wp_loop_rounds rounds (Qn (A:=A) (e0:= .normal) (ih hok) hc hp hf (by simp only [ki,b6] at E;exact E.1) (by simp only [ki,b6] at E;exact E.2) ap (λf=>rfl) (λe f he=> ?_) V i (RD:=Code.rounds P x Q) λn a w h=> ?_)
     ·cases e with
      | normal=>exact absurd rfl he
      | _=>rfl
     ·rw [rounds_succ]
      refine wp_mono h λe a w h=> ?_
      rcases h with ⟨rfl,h⟩ | ⟨he,h⟩
      ·exact h
      ·cases e with
       | normal=>exact absurd rfl he
       | _=>exact h
   ·cases hs
 | _=>intro _ R st K r hs;simp [exec] at hs
def K6 (P:kh) (rest:pv) (l:Nat) (Q:q0->Act->fv->Prop):Nat->q0->Act->fv->Prop
 | 0=> λe a w=>match e with | .goto _=>False | e=>Q e a w
 | n+1=> λe a w=>match e with | .goto b=>b=l/\rest.wp P (K6 P rest l Q n) a w | e=>Q e a w
theorem Af {rest:pv} {l:Nat} {Q:q0->Act->fv->Prop} {a:Act} {w:fv}: ∀(n:Nat) {e:q0},(∀b,e≠ .goto b)->Q e a w->K6 P rest l Q n e a w
 | 0,e,he,h=>by cases e<;>first | exact absurd rfl (he _) | exact h
 | n+1,e,he,h=>by cases e<;>first | exact absurd rfl (he _) | exact h
theorem Nz {body rest:pv} {l:Nat} (hf:findLabel body l=some rest) {Q:q0->Act->fv->Prop} {a:Act} {w:fv} (n:Nat) (h:body.wp P (K6 P rest l Q n) a w):(Code.scope body).wp P Q a w:=by
 intro b k cs
 have key: ∀(n:Nat) (c:pv) (a:Act) (w:fv),c.wp P (K6 P rest l Q n) a w-> ∃e a' w',Q e a' w'/\Arrives P (lone (b.at a (.code c:: .inScope body::k)) cs w) b k cs e a' w':=by
  intro n
  induction n with
  | zero=>
    intro c a w h
    obtain ⟨e,g,w1,f,d⟩:=h b (.inScope body::k) cs
    cases e with
    | goto l=>exact f.elim
    | normal=>exact ⟨.normal,g,w1,f,Steps.trans d (.one step_inScope)⟩
    | exit id=>exact ⟨.exit id,g,w1,f,λk' hk=>d k' (by simp [exitTo,hk])⟩
    | ret=>exact ⟨_,g,w1,f,d⟩
    | panic ch=>exact ⟨_,g,w1,f,d⟩
    | outgrown=>exact ⟨_,g,w1,f,d⟩
  | succ n ih=>
    intro c a w h
    obtain ⟨e,g,w1,f,d⟩:=h b (.inScope body::k) cs
    cases e with
    | goto p=>
      obtain ⟨rfl,hr⟩:=f
      obtain ⟨o,m,w2,j,i⟩:=ih rest g w1 hr
      exact ⟨o,m,w2,j,.of_steps (d _ (by simp [gotoIn,hf])) i⟩
    | normal=>exact ⟨.normal,g,w1,f,Steps.trans d (.one step_inScope)⟩
    | exit id=>exact ⟨.exit id,g,w1,f,λk' hk=>d k' (by simp [exitTo,hk])⟩
    | ret=>exact ⟨_,g,w1,f,d⟩
    | panic ch=>exact ⟨_,g,w1,f,d⟩
    | outgrown=>exact ⟨_,g,w1,f,d⟩
 obtain ⟨e,a',w',f,d⟩:=key n body a w h
 exact ⟨e,a',w',f,.of_steps (.one step_scope) d⟩
def aaC:pv->Option Nat
 | .seq a b=>match a with | .label l=>some l | _=>aaC b
 | _=>none
def tg (l:Nat):pv->Bool
 | .seq a b=>match a with | .label c=>decide (c=l) | a=>(findLabel a l).isNone&&tg l b
 | _=>false
def Kf (l:Nat) (rest:pv):pv->Prop
 | .seq a b=>match a with | .label c=>c=l/\rest= .seq .skip b | _=>Kf l rest b
 | _=>True
theorem Pz {l:Nat}: ∀(c:pv),tg l c=true-> ∃rest,findLabel c l=some rest/\Kf l rest c:=by
 intro c
 induction c with
 | seq a b _ e=>
   intro h
   by_cases d: ∃f,a= .label f
   ·obtain ⟨f,rfl⟩:=d
    simp only [tg,decide_eq_true_eq] at h
    subst h
    exact ⟨.seq .skip b,by simp [findLabel],rfl,rfl⟩
   ·have h':(findLabel a l).isNone=true/\tg l b=true:=by
     cases a<;>first | exact absurd ⟨_,rfl⟩ d | (simpa [tg] using h)
    obtain ⟨rest,h1,h2⟩:=e h'.2
    refine ⟨rest,?_,?_⟩
    ·simp only [findLabel]
     rw [l1.1 h'.1]
     exact h1
    ·cases a<;>first | exact absurd ⟨_,rfl⟩ d | exact h2
 | _=>intro h;simp [tg] at h
theorem VP (m:aF P Γ) (D:COK P C) (hm:P.follows .mixedOrders=true) {l:Nat} {rest:pv} {Q:q0->Act->fv->Prop}: ∀(c:pv),ec Γ A c=true->Kf l rest c-> ∀(R:Type) (st:St) (K:Ex->St->Option R) (r:R),dx P Γ C A c R st K=some r->(∀l b,K (.goto l) b=none)->
  ∀(a:Act) (w:fv) (ok:Nat->Prop) (mu:Mu),Cfg w0 ok0 w ok mu st a->(∀(e:Ex) (b:St) (a':Act) (w':fv) (ok':Nat->Prop) (mu':Mu),K e b=some r->Cfg w0 ok0 w' ok' mu' b a'->Step w ok mu st.h a w' ok' mu' b.h a' (writes c)->Q (xh e) a' w')->c.wp P (K6 P rest l Q rounds) a w:=by
 intro c
 have plain: ∀(c:pv),ec Γ A c=true-> ∀(R:Type) (st:St) (K:Ex->St->Option R) (r:R),exec P Γ C A c R st K=some r->(∀l b,K (.goto l) b=none)->
   ∀(a:Act) (w:fv) (ok:Nat->Prop) (mu:Mu),Cfg w0 ok0 w ok mu st a->(∀(e:Ex) (b:St) (a':Act) (w':fv) (ok':Nat->Prop) (mu':Mu),K e b=some r->Cfg w0 ok0 w' ok' mu' b a'->Step w ok mu st.h a w' ok' mu' b.h a' (writes c)->Q (xh e) a' w')->c.wp P (K6 P rest l Q rounds) a w:=by
  intro c hok R st K r hs i a w ok mu hc k
  refine jw m D hm c hok R st K r hs a w ok mu hc _ λe b a' w' ok' mu' hk d f=> ?_
  have h:=k e b a' w' ok' mu' hk d f
  cases e with
  | goto o=>rw [i] at hk;cases hk
  | normal=>exact Af _ (λ_ h=>by cases h) h
  | exit j=>exact Af _ (λ_ h=>by cases h) h
  | ret=>exact Af _ (λ_ h=>by cases h) h
 induction c with
 | seq x y _ J=>
   intro hok q R st K r hs i a w ok mu hc k
   simp only [ec,b6] at hok
   by_cases I: ∃o,x= .label o
   ·obtain ⟨o,rfl⟩:=I
    obtain ⟨rfl,rfl⟩:=q
    refine wp_seq (wp_label ?_)
    show y.wp P _ a w
    have p: ∀(e:Ex) (b:St) (a':Act) (w':fv) (ok':Nat->Prop) (mu':Mu),K e b=some r->Cfg w0 ok0 w' ok' mu' b a'->Step w ok mu st.h a w' ok' mu' b.h a' (writes y)->Q (xh e) a' w':= λe b a' w' ok' mu' hk d f=>k e b a' w' ok' mu' hk d (f.sub λt z=>b2 _ z)
    simp only [dx] at hs
    split at hs
    ·unfold Nd at hs
     simp only at hs
     split at hs
     ·rename_i vs0 h1 hp hf
      split at hs
      ·cases hs
      ·rename_i g
       obtain ⟨⟨T,S⟩,F,u⟩:=ad.1 hs
       refine Qn (A:=A) (e0:= .goto o) (λR st K r=>jw m D hm y hok.2 R st K r) hc hp hf (by simp only [ki,b6] at g;exact g.1) (by simp only [ki,b6] at g;exact g.2) F (λb=>by simp) (λe b he=>by simp [he]) u
        (Q:= λe a w=>match e with | .goto _=>False | e=>Q e a w) (λe b a' w' ok' mu' hk d f=> ?_) (RD:= λn a w=>y.wp P (K6 P (.seq .skip y) o Q n) a w) λn a w h=> ?_
       ·have h:=p e b a' w' ok' mu' hk d f
        cases e with
        | goto o=>rw [i] at hk;cases hk
        | normal=>exact h
        | exit j=>exact h
        | ret=>exact h
       ·refine wp_mono h λe a w h=> ?_
        rcases h with ⟨rfl,h⟩ | ⟨he,h⟩
        ·exact ⟨rfl,wp_seq (wp_skip h)⟩
        ·cases e with
         | goto U=>exact h.elim
         | _=>exact h
     ·cases hs
    ·exact plain y hok.2 R st K r hs i a w ok mu hc p
   ·have H:exec P Γ C A x R st (λe b=>match e with | .normal=>dx P Γ C A y R b K | e=>K e b)=some r:=by
     cases x<;>first | exact absurd ⟨_,rfl⟩ I | exact hs
    have s:Kf l rest y:=by
     cases x<;>first | exact absurd ⟨_,rfl⟩ I | exact q
    refine wp_seq (jw m D hm x hok.1 R st _ r H a w ok mu hc _ λe b a' w' ok' mu' hk d f=> ?_)
    cases e with
    | normal=>exact J hok.2 s R b K r hk i a' w' ok' mu' d λe N O w2 M L G E v=>k e N O w2 M L G E (f.trans v)
    | goto o=>simp only at hk;rw [i] at hk;cases hk
    | exit j=>exact Af _ (λ_ h=>by cases h) (k (.exit j) b a' w' ok' mu' hk d (f.sub λt z=>b7 _ z))
    | ret=>exact Af _ (λ_ h=>by cases h) (k .ret b a' w' ok' mu' hk d (f.sub λt z=>b7 _ z))
 | _=>intro hok _ R st K r hs i a w ok mu hc k;exact plain _ hok R st K r hs i a w ok mu hc k
def X9:pv->Bool
 | .seq _ b=>X9 b
 | .scope b=>if (np b).any aay then (match aaC b with | some l=>tg l b | none=>false) else true
 | _=>true
def Du (Γ:hX->Option FSig) (A:Ann) (c:pv):Bool:=ec Γ A c&&X9 c
theorem BG (i:aF P Γ) (p:COK P C) (hm:P.follows .mixedOrders=true): ∀(c:pv) (hok:Du Γ A c=true) (R:Type) (st:St) (K:Ex->St->Option R) (r:R) (hs:gn P Γ C A c R st K=some r) (n: ∀l d,K (.goto l) d=none) (a:Act) (w:fv) (ok:Nat->Prop) (mu:Mu) (hc:Cfg w0 ok0 w ok mu st a) (Q:q0->Act->fv->Prop)
  (g: ∀(e:Ex) (d:St) (a':Act) (w':fv) (ok':Nat->Prop) (mu':Mu),K e d=some r->Cfg w0 ok0 w' ok' mu' d a'->Step w ok mu st.h a w' ok' mu' d.h a' (writes c)->Q (xh e) a' w'),c.wp P Q a w:=by
 intro c
 induction c with
 | seq x y _ z=>
   intro hok R st K r hs n a w ok mu hc Q g
   simp only [Du,ec,X9,b6] at hok
   simp only [gn] at hs
   refine wp_seq (jw i p hm x hok.1.1 R st _ r hs a w ok mu hc _ λe d a' w' ok' mu' hk k m=> ?_)
   cases e with
   | normal=>exact z (by simp only [Du,b6];exact ⟨hok.1.2,hok.2⟩) R d K r hk n a' w' ok' mu' k Q λe F G w2 E D u q o=>g e F G w2 E D u q (m.trans o)
   | goto I=>simp only at hk;rw [n] at hk;cases hk
   | exit j=>exact g (.exit j) d a' w' ok' mu' hk k (m.sub λt v=>b7 _ v)
   | ret=>exact g .ret d a' w' ok' mu' hk k (m.sub λt v=>b7 _ v)
 | scope b _=>
   intro hok R st K r hs n a w ok mu hc Q g
   simp only [Du,b6] at hok
   obtain ⟨hok,f⟩:=hok
   simp only [gn] at hs
   split at hs
   ·rename_i H
    simp only [X9,H,if_true] at f
    split at f
    ·rename_i l hl
     obtain ⟨rest,hf,s⟩:=Pz b f
     exact Nz hf rounds (VP i p hm b hok s R st K r hs n a w ok mu hc g)
    ·cases f
   ·exact jw i p hm _ hok R st K r hs a w ok mu hc Q g
 | _=>
   intro hok R st K r hs n a w ok mu hc Q g
   simp only [Du,b6] at hok
   exact jw i p hm _ hok.1 R st K r hs a w ok mu hc Q g
end
end Go.AM
namespace Go.AM
open Go.RowKit
section
variable {P:kh} {Γ:hX->Option FSig} {C:IV->List Nat->List (List IV)->Option (List IV)} {A:Ann} {ops:Array hT} {R:Type}
theorem xv {k:St->Option R} {r:R}: ∀(l:List hT) (st:St),mj P Γ C ops l st k=some r-> ∃a,k a=some r
 | [],st,h=>⟨st,h⟩
 | o::l,st,h=>by
   simp only [mj] at h
   obtain ⟨b,_,hc⟩:=dr h
   rcases hc with ⟨_,p,h',_,h2⟩ | ⟨_,h2⟩
   ·exact xv l _ h2
   ·exact xv l _ h2
theorem xA {ok:hT->St->Bool} {k:St->Option R} {r:R}: ∀(l:List hT) (st:St),rZ P Γ C ok ops l st k=some r-> ∃a,k a=some r
 | [],st,h=>⟨st,h⟩
 | o::l,st,h=>by
   simp only [rZ] at h
   split at h
   ·obtain ⟨b,_,hc⟩:=dr h
    rcases hc with ⟨_,p,h',_,h2⟩ | ⟨_,h2⟩
    ·exact xA l _ h2
    ·exact xA l _ h2
   ·cases h
theorem vd {ok:hT->List PV->Bool} {k:St->Option R} {r:R}: ∀(l:List hT) (st:St),qe P Γ C ok ops l st k=some r-> ∃a,k a=some r
 | [],st,h=>⟨st,h⟩
 | o::l,st,h=>by
   simp only [qe] at h
   split at h
   ·split at h
    ·exact vd l _ h
    ·cases h
   ·split at h
    ·obtain ⟨b,_,hc⟩:=dr h
     rcases hc with ⟨_,p,h',_,h2⟩ | ⟨_,h2⟩
     ·exact vd l _ h2
     ·exact vd l _ h2
    ·cases h
theorem Ug {ord:Option (List Nat×List Nat×List Nat)} {k:St->Option R} {r:R} {st:St} (h:rq P Γ C ord ops st k=some r): ∃a,k a=some r:=by
 unfold rq at h
 split at h
 ·exact xv _ _ h
 ·obtain ⟨a,h2⟩:=xA _ _ h
  obtain ⟨d,b⟩:=vd _ _ h2
  obtain ⟨e,c⟩:=xA _ _ b
  exact ⟨_,c⟩
theorem sL: ∀(c:pv) (R:Type) (st:St) (K:Ex->St->Option R) (r:R),exec P Γ C A c R st K=some r-> ∃e a,K e a=some r:=by
 intro c
 induction c with
 | skip=>intro R st K r h;exact ⟨_,_,h⟩
 | label l=>intro R st K r h;exact ⟨_,_,h⟩
 | ret=>intro R st K r h;exact ⟨_,_,h⟩
 | exit id=>intro R st K r h;exact ⟨_,_,h⟩
 | goto l=>intro R st K r h;exact ⟨_,_,h⟩
 | seq x y f b=>
   intro R st K r h
   simp only [exec] at h
   obtain ⟨e,a,h2⟩:=f R st _ r h
   cases e with
   | normal=>exact b R a K r h2
   | exit id=>exact ⟨_,_,h2⟩
   | ret=>exact ⟨_,_,h2⟩
   | goto l=>exact ⟨_,_,h2⟩
 | block id x ih=>
   intro R st K r h
   simp only [exec] at h
   obtain ⟨e,a,h2⟩:=ih R st _ r h
   cases e with
   | normal=>exact ⟨_,_,h2⟩
   | exit j=>simp only at h2;split at h2<;>exact ⟨_,_,h2⟩
   | ret=>exact ⟨_,_,h2⟩
   | goto l=>exact ⟨_,_,h2⟩
 | scope x ih=>
   intro R st K r h
   simp only [exec] at h
   obtain ⟨e,a,h2⟩:=ih R st _ r h
   cases e with
   | goto l=>cases h2
   | _=>exact ⟨_,_,h2⟩
 | cond x y z b g=>
   intro R st K r h
   simp only [exec] at h
   split at h
   ·rcases nR h with ⟨_,h1⟩ | ⟨_,h1⟩
    ·exact b R st K r h1
    ·exact g R st K r h1
   ·cases h
 | region id ops draw=>
   intro R st K r h
   simp only [exec] at h
   split at h
   ·obtain ⟨a,h2⟩:=Ug h;exact ⟨_,_,h2⟩
   ·obtain ⟨k,_,h2⟩:=ad.1 h;exact ⟨_,_,h2⟩
 | loop x ih=>
   intro R st K r h
   simp only [exec] at h
   split at h
   ·generalize A.unroll (aJ x)=n at h
    induction n generalizing st with
    | zero=>cases h
    | succ n d=>
      simp only [unr] at h
      obtain ⟨e,a,h2⟩:=ih _ _ _ _ h
      cases e with
      | normal=>exact d _ h2
      | _=>exact ⟨_,_,h2⟩
   split at h
   ·split at h
    ·cases h
    ·obtain ⟨p,_,h2⟩:=ad.1 h
     unfold eM at h2
     rw [bd,hH] at h2
     cases i:(np x)[p.1]? with
     | none=>rw [i] at h2;cases h2
     | some e=>rw [i] at h2;exact ⟨_,_,h2⟩
   ·cases h
 | _=>intro R st K r h;simp [exec] at h
theorem Na {α R:Type} {l:List α} {g:α->Option R} {k:Nat} {r:R} (h:eM k (l.map g)=some r): ∃e,g e=some r:=by
 unfold eM at h
 rw [bd,hH] at h
 cases a:l[k]? with
 | none=>rw [a] at h;cases h
 | some e=>rw [a] at h;exact ⟨_,h⟩
theorem Ku: ∀(c:pv) (R:Type) (st:St) (K:Ex->St->Option R) (r:R),dx P Γ C A c R st K=some r-> ∃e a,K e a=some r:=by
 intro c
 induction c with
 | seq x y _ b=>
   intro R st K r h
   by_cases d: ∃f,x= .label f
   ·obtain ⟨f,rfl⟩:=d
    simp only [dx] at h
    split at h
    ·unfold Nd at h
     simp only at h
     split at h
     ·split at h
      ·cases h
      ·obtain ⟨p,_,h2⟩:=ad.1 h
       obtain ⟨e,g⟩:=Na h2
       exact ⟨_,_,g⟩
     ·cases h
    ·exact sL _ _ _ _ _ h
   ·have h':exec P Γ C A x R st (λe a=>match e with | .normal=>dx P Γ C A y R a K | e=>K e a)=some r:=by
     cases x<;>first | exact absurd ⟨_,rfl⟩ d | exact h
    obtain ⟨e,a,h2⟩:=sL _ _ _ _ _ h'
    cases e with
    | normal=>exact b R a K r h2
    | _=>exact ⟨_,_,h2⟩
 | _=>intro R st K r h;exact sL _ _ _ _ _ h
theorem QR: ∀(c:pv) (R:Type) (st:St) (K:Ex->St->Option R) (r:R),gn P Γ C A c R st K=some r-> ∃e a,K e a=some r:=by
 intro c
 induction c with
 | seq x y _ d=>
   intro R st K r h
   simp only [gn] at h
   obtain ⟨e,a,h2⟩:=sL _ _ _ _ _ h
   cases e with
   | normal=>exact d R a K r h2
   | _=>exact ⟨_,_,h2⟩
 | scope b _=>
   intro R st K r h
   simp only [gn] at h
   split at h
   ·exact Ku _ _ _ _ _ h
   ·exact sL _ _ _ _ _ h
 | _=>intro R st K r h;exact sL _ _ _ _ _ h
theorem WO {f:Func} {as:List (List IV)} {r:List IV} (c:A.scalar=true) (h:run P Γ C A f as=some r): ∀x∈r,x.scalar=true:=by
 unfold run at h
 split at h
 ·obtain ⟨e,g,h2⟩:=QR _ _ _ _ _ h
  have key: ∀q,fin A q=some r-> ∀x∈r,x.scalar=true:=by
   intro q a
   unfold fin at a
   split at a
   ·rw [if_pos c] at a
    unfold av at a
    split at a
    ·rename_i b;cases a;exact λx d=>gd.1 b x d
    ·cases a
   ·cases a
  cases e with
  | normal=>exact key _ h2
  | exit j=>cases h2
  | goto l=>cases h2
  | ret=>exact key _ h2
 ·cases h
end
section
variable {P:kh} {Γ:hX->Option FSig} {C:IV->List Nat->List (List IV)->Option (List IV)} {A:Ann} {w0:fv} {ok0:O0} {w:fv} {ok:Nat->Prop} {mu:Mu} {st:St} {a:Act}
theorem VB {t:rl} {cs:List IV} {p:PV} {v:h7} (h:Su P t cs=some p) (r:ArgRel w ok cs v):RP w ok (λ_=>none) p v:=by
 unfold Su at h
 split at h
 ·split at h
  ·rename_i hc
   cases h
   rcases r with ⟨x,e,_⟩ | ⟨h1,vs,rfl,h2,b⟩
   ·rw [e] at hc;simp at hc;omega
   ·refine .agg _ _ (by simp [h2]) λi q u a c=> ?_
    rw [hH] at a
    cases hi:cs[i]? with
    | none=>rw [hi] at a;cases a
    | some x=>rw [hi] at a;cases a;exact .imm (b i x u hi c)
  ·cases h
 ·split at h
  ·cases h
   rcases r with ⟨x,e,hr⟩ | ⟨h1,_⟩
   ·cases e;exact .imm hr
   ·simp at h1
  ·cases h
theorem oE: ∀(d:List rl) (n:Nat) (as:List (List IV)) (ps:List PV) (args:List h7),gC P d n as=some ps->as.length=args.length->(∀(i:Nat) (c:List IV) (v:h7),as[i]? =some c->args[i]? =some v->ArgRel w ok c v)->
  ps.length=args.length/\ ∀(i:Nat) (p:PV) (v:h7),ps[i]? =some p->args[i]? =some v->RP w ok (λ_=>none) p v
 | [],0,[],ps,args,h,hl,_=>by
   simp only [gC,hR] at h
   subst h
   exact ⟨by simpa using hl,λi p v h1 _=>by simp at h1⟩
 | [],0,_::_,ps,args,h,_,_=>by simp [gC] at h
 | [],n+1,[],ps,args,h,_,_=>by simp [gC] at h
 | [],n+1,[]::l,ps,args,h,_,_=>by simp [gC] at h
 | [],n+1,(_::_::_)::l,ps,args,h,_,_=>by simp [gC] at h
 | [],n+1,[x]::l,ps,args,h,hl,hr=>by
   simp only [gC,gf] at h
   obtain ⟨g,h1,rfl⟩:=h
   cases args with
   | nil=>simp at hl
   | cons v args=>
     obtain ⟨h2,f⟩:=oE [] n l g args h1 (by simpa using hl) λi c v hc hv=>hr (i+1) c v (by simpa using hc) (by simpa using hv)
     refine ⟨by simp [h2],λi p u a b=> ?_⟩
     cases i with
     | zero=>
       simp at a b;subst a;subst b
       rcases hr 0 [x] v rfl rfl with ⟨y,e,k⟩ | ⟨j,_⟩
       ·cases e;exact .imm k
       ·simp at j
     | succ i=>exact f i p u (by simpa using a) (by simpa using b)
 | t::d,n,[],ps,args,h,_,_=>by simp [gC] at h
 | t::d,n,cs::l,ps,args,h,hl,hr=>by
   simp only [gC] at h
   obtain ⟨p,h0,h⟩:=ad.1 h
   obtain ⟨g,h1,rfl⟩:=gf.1 h
   cases args with
   | nil=>simp at hl
   | cons v args=>
     obtain ⟨h2,f⟩:=oE d n l g args h1 (by simpa using hl) λi c v hc hv=>hr (i+1) c v (by simpa using hc) (by simpa using hv)
     refine ⟨by simp [h2],λi q u a b=> ?_⟩
     cases i with
     | zero=>simp at a b;subst a;subst b;exact VB h0 (hr 0 cs v rfl rfl)
     | succ i=>exact f i q u (by simpa using a) (by simpa using b)
def TN (w0:fv) (ok0:O0) (w:fv):Nat->Prop:= λb=>ok0.ok b\/(Own0 w0 ok0 b/\b < w.heap.size)
theorem aa8 (i:Inv w0 ok0 w ok mu st.h) (l:List Nat): ∀b,jl ok mu l b->TN w0 ok0 w b:= λb hb=>by
 rcases hb with hb | ⟨q,_,pl,base,h1,h2⟩
 ·rcases i.okb b hb with h1 | h1
  ·exact .inl h1
  ·exact .inr ⟨h1,i.okw b hb⟩
 ·obtain ⟨a,c,_⟩:=i.own q pl b base h1 h2
  exact .inr ⟨a,c⟩
theorem ZS {w0 w:fv} {a:Nat->Prop}: ∀b,TN w0 ⟨a,λ_=>False⟩ w b->Cw w0 a w b:= λb hb=>by
 rcases hb with h | ⟨h | h,h2⟩
 ·exact .inl h
 ·exact .inr ⟨h,h2⟩
 ·exact h.elim
theorem pV.more {w:fv} {ok ok':Nat->Prop} (hm: ∀b,ok b->ok' b) {n:Nat} {r:List IV} {i:Nat} {v:h7} (h:pV w ok n r i v):pV w ok' n r i v:=by
 rcases h with ⟨h1,h2⟩ | ⟨h1,vs,h2,a,c⟩
 ·exact .inl ⟨h1,h2.more hm⟩
 ·exact .inr ⟨h1,vs,h2,a,λj u hu=>(c j u hu).more hm⟩
theorem kG.more {w:fv} {ok ok':Nat->Prop} (hm: ∀b,ok b->ok' b) {r:List IV}: ∀{ns:List Nat} {i:Nat} {vs:List h7},kG w ok r ns i vs->kG w ok' r ns i vs
 | [],_,[],_=>trivial
 | _::_,_,_::_,h=>⟨h.1.more hm,kG.more hm h.2⟩
 | [],_,_::_,h=>h.elim
 | _::_,_,[],h=>h.elim
theorem ga.more {w:fv} {ok ok':Nat->Prop} (hm: ∀b,ok b->ok' b) {ns:List Nat} {r:List IV} {v:h7} (h:ga w ok ns r v):ga w ok' ns r v:=by
 match ns,h with
 | [n],h=>exact pV.more hm h
 | [],h=>exact h.imp λvs h=>⟨h.1,h.2.more hm⟩
 | n::m::ns,h=>exact h.imp λvs h=>⟨h.1,h.2.more hm⟩
theorem HH (c:Cfg w0 ok0 w ok mu st a) {n:Nat} {p:PV} {v:h7} (r:RP w ok mu p v) {cs:List IV} (h:va n p st.h=some cs):cs.length=n/\ ∀(l:List IV) (i:Nat),(∀j,j < n->nth l (i+j)=nth cs j)->pV w (TN w0 ok0 w) n l i v:=by
 unfold va at h
 split at h
 ·rename_i hok
  obtain ⟨as,h1,h2⟩:=ad.1 h
  split at h2
  ·rename_i hn
   cases h2
   refine ⟨hn,λl i hl=> ?_⟩
   have hrel:=(AI c.inv.q r hok h1).more (aa8 c.inv _)
   rcases hrel with ⟨x,e,f⟩ | ⟨g,vs,e,k,d⟩
   ·subst e
    have b:n=1:=by rw [<-hn];rfl
    refine .inl ⟨b,?_⟩
    have:=hl 0 (by omega)
    rw [j1] at this
    rw [this];exact f
   ·refine .inr ⟨by omega,vs,e,by omega,λj u hu=> ?_⟩
    have hj:j < n:=by have:=(eP.1 hu).1;omega
    rw [hl j hj]
    refine d j (nth cs j) u ?_ hu
    exact J1 (by omega)
  ·cases h2
 ·cases h
theorem j9 {x y:List IV} {j:Nat} (h:j < x.length):nth (x++y) j=nth x j:=by
 unfold nth;rw [bd,g7 h,bd]
theorem mi {x y:List IV} {j:Nat}:nth (x++y) (x.length+j)=nth y j:=by
 unfold nth;rw [bd,g8 (by omega),bd];congr 2;omega
theorem Bc (c:Cfg w0 ok0 w ok mu st a) {x:Nat} {t:rl} {p:PV} (h:Bv P t (st.fr.getD x .undef) st.h=some p): ∃v,(do loadVar t (<-asAddr (a.tmps.getD x undef)):Sem h7).run P w= .ok v w/\RP w ok mu p v:=by
 have r:RP w ok mu (st.fr.getD x .undef) (a.tmps.getD x undef):=c.fr.ev (.tmp x)
 generalize a.tmps.getD x undef=z at r
 unfold Bv at h
 split at h
 ·rename_i q j y
  rw [y] at r
  split at h
  ·rename_i md cs s
   cases r with
   | ptr _ _ pl b base hm hl=>
     have f:=c.inv.ob q pl hm
     rw [s] at f
     obtain ⟨b',base',k,T,e,hw,hs,hr⟩:=f
     rw [hl] at e;cases e
     have has:(asAddr (.pointer (some ⟨b,base+j,none⟩))).run P w= .ok ⟨b,base+j,none⟩ w:=rfl
     split at h
     ·rename_i n
      split at h
      ·rename_i hj
       cases h
       have g:((k.toList.drop (base+j)).take (P.cellsOf t)).length=P.cellsOf t:=by simp;omega
       refine ⟨.agg ((k.toList.drop (base+j)).take (P.cellsOf t)).toArray,?_,?_⟩
       ·rw [kq,has]
        simp only [hV]
        refine yO n g λi v hi=> ?_
        have d:i < P.cellsOf t:=by have:=(e6.1 hi).1;rwa [g] at this
        rw [j2 d,l0] at hi
        rw [iM hw]
        simpa using hi
       ·refine .agg _ _ (by simp;omega) λi p v h1 h2=> ?_
        have d:i < P.cellsOf t:=by
         have:=(e6.1 h1).1;simp at this;omega
        rw [j2 d,l0] at h1
        rw [List.getElem?_toArray,j2 d,l0] at h2
        obtain ⟨u,l,m⟩:=hr (j+i) p h1
        have:k[base+(j+i)]? =some v:=by rw [<-Nat.add_assoc];simpa using h2
        rw [l] at this;cases this
        exact m
      ·cases h
     ·split at h
      ·rename_i o
       obtain ⟨u,l,m⟩:=hr j p h
       refine ⟨u,?_,m⟩
       rw [kq,has]
       simp only [hV]
       exact yw o (by rw [iM hw];exact l)
      ·cases h
  ·cases h
 ·cases h
def gZ (tmps:Array h7):ResultVar->Sem h7
 | .tmp t=>pure (tmps.getD t undef)
 | .cell a t=>do loadVar t (<-asAddr (tmps.getD a undef))
theorem R4 (c:Cfg w0 ok0 w ok mu st a): ∀(rs:List ResultVar) (ns:List Nat) (cs:List IV),yM P st rs ns=some cs-> ∃vs,(rs.mapM (gZ a.tmps)).run P w= .ok vs w/\vs.length=rs.length/\rs.length=ns.length/\
  ∀(l:List IV) (i:Nat),(∀j,j < cs.length->nth l (i+j)=nth cs j)->kG w (TN w0 ok0 w) l ns i vs
 | [],[],cs,h=>by
   simp only [yM,hR] at h
   subst h
   exact ⟨[],by simp,rfl,rfl,λl i _=>trivial⟩
 | [],_::_,cs,h=>by simp [yM] at h
 | .tmp _::_,[],cs,h=>by simp [yM] at h
 | .cell _ _::_,[],cs,h=>by simp [yM] at h
 | .tmp t::rs,n::ns,cs,h=>by
   simp only [yM] at h
   split at h
   ·rename_i x xs k b
    cases h
    have r:RP w ok mu (st.fr.getD t .undef) (a.tmps.getD t undef):=c.fr.ev (.tmp t)
    obtain ⟨hn,h1⟩:=HH c r k
    obtain ⟨vs,h2,d,e,f⟩:=R4 c rs ns xs b
    refine ⟨a.tmps.getD t undef::vs,?_,by simp [d],by simp [e],λl i hl=>⟨h1 l i λj hj=> ?_,f l (i+n) λj hj=> ?_⟩⟩
    ·simp only [p0,gZ,kq,h2,n1,hV]
    ·rw [hl j (by simp;omega),j9 (by omega)]
    ·have:=hl (n+j) (by simp;omega)
     rw [show i+n+j=i+(n+j) by omega,this,<-hn,mi]
   ·cases h
 | .cell x t::rs,n::ns,cs,h=>by
   simp only [yM] at h
   split at h
   ·rename_i y ys k b
    cases h
    obtain ⟨p,hp,m⟩:=ad.1 k
    obtain ⟨v,hv,r⟩:=Bc (P:=P) c hp
    obtain ⟨hn,h1⟩:=HH c r m
    obtain ⟨vs,h2,d,e,f⟩:=R4 c rs ns ys b
    refine ⟨v::vs,?_,by simp [d],by simp [e],λl i hl=>⟨h1 l i λj hj=> ?_,f l (i+n) λj hj=> ?_⟩⟩
    ·have g:(gZ a.tmps (.cell x t)).run P w= .ok v w:=hv
     simp only [p0,kq,g,h2,n1,hV]
    ·rw [hl j (by simp;omega),j9 (by omega)]
    ·have:=hl (n+j) (by simp;omega)
     rw [show i+n+j=i+(n+j) by omega,this,<-hn,mi]
   ·cases h
theorem Uc (c:Cfg w0 ok0 w ok mu st a) {f:Func} {r:List IV} (h:yM P st f.results.toList (f.resultTypes.toList.map P.cellsOf)=some r):
  ∃v,(results f a.tmps).run P w= .ok v w/\ga w (TN w0 ok0 w) (f.resultTypes.toList.map P.cellsOf) r v:=by
 obtain ⟨vs,h1,h2,d,e⟩:=R4 c _ _ _ h
 have hr:results f a.tmps=(do let vs <-f.results.mapM (gZ a.tmps);pure (if h:vs.size=1 then vs[0] else .tuple vs)):=by
  unfold results
  congr 2
 have hm:(f.results.mapM (gZ a.tmps)).run P w= .ok vs.toArray w:=by
  rw [Array.mapM_eq_mapM_toList,map_eq_pure_bind]
  simp only [kq,h1,hV,n1]
 have b:=e r 0 λj _=>by rw [iH]
 refine ⟨if h:vs.toArray.size=1 then vs.toArray[0] else .tuple vs.toArray,by rw [hr,kq,hm];rfl,?_⟩
 generalize f.resultTypes.toList.map P.cellsOf=ns at*
 match ns,vs,h2,d,b with
 | [n],[v],_,_,b=>exact b.1
 | [],[],_,_,_=>exact ⟨_,rfl,trivial⟩
 | n::m::ns,v::u::vs,_,_,b=>
   unfold ga
   split
   ·rename_i heq;cases heq
   ·refine ⟨_,by rw [dif_neg (by simp)],by simpa using b⟩
theorem Y5 (y:aF P Γ) (D:COK P C) (hm:P.follows .mixedOrders=true) {g:hX} {f:Func} (E:P.funcs[g]? =some f) (hb:(match f.body with | some c=>Du Γ A c | none=>false)=true) {W:fv} {k:Nat->Prop} (hok: ∀b,k b->b < W.heap.size)
  {as:List (List IV)} {args:List h7} (a:cP W k as args) {r:List IV} (hr:run P Γ C A f as=some r):
  Calls P g args.toArray W λe w'=> ∃v,e= .returned v/\Below W.heap.size W w'/\ga w' (Cw W k w') (f.resultTypes.toList.map P.cellsOf) r v:=by
 unfold run at hr
 split at hr
 ·rename_i c ps hc w
  rw [hc] at hb
  obtain ⟨hl,hrel⟩:=oE _ _ _ _ _ w a.1 a.2
  refine calls_of_wp E hc (BG (w0:=W) (ok0:=⟨k,λ_=>False⟩) y D hm c hb _ _ _ r hr (λ_ _=>rfl) _ W k (λ_=>none) ⟨⟨.refl _ _ _,hok,λb hb=> .inl hb,λo pl s=>(by cases s),λo pl b base s=>(by cases s),λo o' pl pl' b base base' s=>(by cases s)⟩,λ_ _=>rfl,?_⟩ _ λe z a' w' ok' mu' hk m x=> ?_)
  ·refine ⟨by simp [hl],λt p v h1 h2=> ?_⟩
   simp only [Array.getElem?_append,List.size_toArray] at h2
   by_cases n:t < args.length
   ·rw [g7 (by omega)] at h1
    rw [if_pos n] at h2
    exact hrel t p v h1 (by simpa using h2)
   ·rw [g8 (by omega),List.getElem?_replicate] at h1
    rw [if_neg n,Array.getElem?_replicate] at h2
    split at h1
    ·split at h2
     ·cases h1;cases h2;exact .skip
     ·cases h2
    ·cases h1
  ·have i: ∀q,fin A q=some r->q=some r:=by
    intro q d
    unfold fin at d
    split at d
    ·split at d
     ·unfold av at d
      split at d
      ·exact d
      ·cases d
     ·exact d
    ·cases d
   have done:yM P z f.results.toList (f.resultTypes.toList.map P.cellsOf)=some r->a'.defers=[]/\ ∃v,(results f a'.tmps).run P w'= .ok v w'/\ ∃u,Ending.returned v= .returned u/\Below W.heap.size W w'/\ga w' (Cw W k w') (f.resultTypes.toList.map P.cellsOf) r u:=by
    intro h
    obtain ⟨v,h1,h2⟩:=Uc m h
    exact ⟨x.defers,v,h1,v,rfl,(m.inv.below.below λ_ h=>h),h2.more ZS⟩
   cases e with
   | normal=>exact done (i _ hk)
   | exit j=>cases hk
   | goto l=>cases hk
   | ret=>exact done (i _ hk)
 ·cases hr
end
end Go.AM
